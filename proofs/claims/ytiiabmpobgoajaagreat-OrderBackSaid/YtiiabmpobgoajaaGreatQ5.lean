/- Part of the proof: Q5. -/
import Derived.Test.YtiiabmpobgoajaaGreatQ4
set_option linter.all false
namespace Go.Proofs.YtiiabmpobgoajaaGreat
open Go Go.Ev Tab
set_option maxRecDepth 10000
attribute [local irreducible] runw loopw

theorem string_ok {H : AHeap} {b d n : Nat} {p : Value} {cs : List Value} {bs : List UInt8} (h1 : H.get b = some (.cells [p, .slice (some ⟨d, 0, some 2⟩) n n] 207 false))
    (h2 : H.get d = some (.cells cs 5 false)) (h3 : bytesOf cs = some bs) (hn : cs.length = n) (h0 : 0 < n) (hm : n ≤ 1000000) : Does (runw ctx1 105 [nptr b 0] H) fun r => r = (.string ⟨bs.toArray⟩, H.kill d) := by
  refine does_run (fi := g105) rfl rfl rfl rfl ?_
  have e0 : mkEnv g105.fn.ntmps [nptr b 0] = some (nptr b 0) :: [some undef, some undef, some undef, some undef, some undef, some undef, some undef, some undef, some undef, some undef, some undef, some undef, some undef] := by kernel_rfl
  have hl : loadV ctx1 H 205 (nptr b (0 + 1)) = some (.slice (some ⟨d, 0, some 2⟩) n n) := by
    have t205 : ctx1.ty.get 205 = some Tab.t205 := by kernel_rfl
    simp only [loadV, t205, Tab.t205, nptr, ldCells, h1]
    rfl
  rw [e0]
  refine does_seq ?_
  refine does_region ?_
  refine does_opn rfl (by simp only [Ev.put, List.set_cons_succ, List.set_cons_zero]; rfl) ?_
  refine does_nil ?_
  refine does_seq ?_
  refine does_calm rfl rfl (by kernel_rfl) ?_
  repeat (refine does_dop rfl rfl (by simp only [Ev.put, List.set_cons_succ, List.set_cons_zero]; rfl) ?_)
  have hb : n.beq 0 = false := beq_false (by omega)
  have t321 : tdA ctx1 321 = some (.ptr 5) := by kernel_rfl
  have t5 : ctx1.ty.get 5 = some Tab.t5 := by kernel_rfl
  have hle : n.ble cs.length = true := by rw [hn]; simp
  refine does_dop rfl (v := .slice (some ⟨d, 0, some 2⟩) n n) (H1 := H) (stepV_val rfl (by show retV H (loadV ctx1 H 205 (nptr b (0 + 1))) = _; rw [hl]; rfl)) (by simp only [Ev.put, List.set_cons_succ, List.set_cons_zero]; rfl) ?_
  refine does_dop rfl (v := .pointer (some ⟨d, 0, none⟩)) (H1 := H) (stepV_val rfl (by show (cond (n.beq 0 || n.beq 0 || false) none (some (OpRes.val (.pointer (some ⟨d, 0, none⟩)) H))) = _; rw [hb]; rfl)) (by simp only [Ev.put, List.set_cons_succ, List.set_cons_zero]; rfl) ?_
  repeat (refine does_dop rfl rfl (by simp only [Ev.put, List.set_cons_succ, List.set_cons_zero]; rfl) ?_)
  refine does_dop rfl (v := .slice (some ⟨d, 0, some 2⟩) n n) (H1 := H) (stepV_val rfl (by show retV H (loadV ctx1 H 205 (nptr b (0 + 1))) = _; rw [hl]; rfl)) (by simp only [Ev.put, List.set_cons_succ, List.set_cons_zero]; rfl) ?_
  repeat (refine does_dop rfl rfl (by simp only [Ev.put, List.set_cons_succ, List.set_cons_zero]; rfl) ?_)
  refine does_dop rfl (v := .string ⟨bs.toArray⟩) (H1 := H.kill d) (stepV_val rfl ?_) (by simp only [Ev.put, List.set_cons_succ, List.set_cons_zero]; rfl) ?_
  · have hz : ¬ ((n : Int) ≤ 0 ∨ (n : Int) > 9223372036854775807) := by omega
    show (if (n : Int) ≤ 0 ∨ (n : Int) > 9223372036854775807 then none else
      match H.get d, [321, 3] with
      | some (.cells c e false), [t, _] =>
        match tdA ctx1 t, ctx1.ty.get e with
        | some (.ptr e0), some ti =>
          cond ((n : Int).toNat.ble c.length && e0.beq e && ti.size.beq 1)
            ((bytesOf (c.take (n : Int).toNat)).map fun bs => OpRes.val (.string ⟨bs.toArray⟩) (H.kill d)) none
        | _, _ => none
      | _, _ => none) = _
    rw [if_neg hz, h2]
    simp only [t321, t5, Int.toNat_natCast, hle]
    rw [List.take_of_length_le (by omega), h3]
    rfl
  repeat (refine does_dop rfl rfl (by simp only [Ev.put, List.set_cons_succ, List.set_cons_zero]; rfl) ?_)
  refine does_dnil ⟨rfl, ?_⟩
  refine does_ret ⟨_, rfl, rfl⟩
theorem isByte_ok (n : Int) (H : AHeap) : Does (runw ctx1 102 [.int .i64 n] H) fun r => r = (.bool (decide (0 ≤ n) && decide (n ≤ 255)), H) := by
  refine does_run (fi := g102) rfl rfl rfl rfl ?_
  refine does_seq (does_region ?_)
  repeat (refine does_op (step_val rfl ?_))
  refine does_nil ?_
  refine does_seq (does_region ?_)
  by_cases h : 0 ≤ n
  · have e : decide (n ≥ 0) = true := by simpa using h
    refine does_op (step_val rfl ?_)
    refine does_op (step_val (v := .bool true) (by rw [← e]; rfl) ?_)
    repeat (refine does_op (step_val rfl ?_))
    refine does_nil (does_ret ⟨_, rfl, ?_⟩)
    simp [h]
  · have e : decide (n ≥ 0) = false := by simpa using h
    refine does_op (step_val rfl ?_)
    refine does_op (step_val (v := .bool false) (by rw [← e]; rfl) ?_)
    repeat (refine does_op (step_val rfl ?_))
    refine does_nil (does_ret ⟨_, rfl, ?_⟩)
    simp [h]


theorem isByte_yes (n : Int) (h : 0 ≤ n ∧ n ≤ 255) (H : AHeap) : runw ctx1 102 [.int .i64 n] H = some (.bool true, H) := by
  obtain ⟨r, e, rfl⟩ := isByte_ok n H
  rw [e]; simp [h.1, h.2]
theorem isByte_no (n : Int) (h : ¬ (0 ≤ n ∧ n ≤ 255)) (H : AHeap) : runw ctx1 102 [.int .i64 n] H = some (.bool false, H) := by
  obtain ⟨r, e, rfl⟩ := isByte_ok n H
  rw [e]
  have : (decide (0 ≤ n) && decide (n ≤ 255)) = false := by simpa using h
  rw [this]

def wordInts (x : Int) : List Int := [x.fdiv (2 ^ 56), x.fdiv (2 ^ 48), x.fdiv (2 ^ 40), x.fdiv (2 ^ 32), x.fdiv (2 ^ 24), x.fdiv (2 ^ 16), x.fdiv (2 ^ 8), x.fdiv (2 ^ 0)]
def opInts (k key val l : Int) : List Int := k :: (wordInts key ++ wordInts val ++ [l])

def proj (r : Ex × Env × AHeap) : Bool × Option Value × Nat × Option AObj × Option AObj := (match r.1 with | .normal => true | _ => false, Ev.look r.2.1 (.tmp 4), r.2.1.length, r.2.2.get 1, r.2.2.get 37)

theorem bytes_yes (k key val l : Int) (hk : 0 ≤ k ∧ k ≤ 255) (hl : 0 ≤ l ∧ l ≤ 255) :
    Does (runw ctx1 16 [.agg ⟨[.int .i64 k, .int .u64 key, .int .u64 val, .int .i64 l]⟩] hp0) fun r => r.1 = .tuple ⟨[.string ⟨((opInts k key val l).map b8).toArray⟩, .int .i64 0]⟩ := by
  refine does_run (fi := g16) rfl rfl rfl rfl ?_
  have e0 : mkEnv g16.fn.ntmps [.agg ⟨[.int .i64 k, .int .u64 key, .int .u64 val, .int .i64 l]⟩] = some (.agg ⟨[.int .i64 k, .int .u64 key, .int .u64 val, .int .i64 l]⟩) :: [some undef, some undef, some undef, some undef, some undef, some undef, some undef, some undef, some undef, some undef, some undef, some undef, some undef, some undef, some undef, some undef, some undef, some undef, some undef, some undef, some undef, some undef, some undef, some undef, some undef, some undef, some undef, some undef, some undef] := by kernel_rfl
  rw [e0]
  repeat (first | refine does_opn rfl (by simp only [Ev.put, List.set_cons_succ, List.set_cons_zero]; rfl) ?_ | refine does_nil ?_ | refine does_seq ?_ | refine does_region ?_ | refine does_opc rfl (isByte_yes _ hk _) (by simp only [Ev.put, List.set_cons_succ, List.set_cons_zero]; rfl) ?_ | refine does_opc rfl (isByte_yes _ hl _) (by simp only [Ev.put, List.set_cons_succ, List.set_cons_zero]; rfl) ?_)
  refine does_cond (b := false) rfl (fun h => absurd h (by simp)) (fun _ => ?_)
  refine does_skip ?_
  refine does_assoc (does_assoc (does_assoc (does_assoc (does_seq (does_seg 100 ((does_proj proj (y := (true, some (nptr 1 0), 30, some (.cells [nptr 1 0, .slice (some ⟨37, 0, some 2⟩) 18 18] 207 false), some (.cells ((opInts k key val l).map w8) 5 false))) (by kernel_rfl)).mono ?_))))))
  rintro ⟨x, ρ, H⟩ hp
  simp only [proj, Prod.mk.injEq] at hp
  obtain ⟨h1, h2, h3, h4, h5⟩ := hp
  cases x <;> simp at h1
  match ρ, h3 with
  | [a0, a1, a2, a3, a4, a5, a6, a7, a8, a9, a10, a11, a12, a13, a14, a15, a16, a17, a18, a19, a20, a21, a22, a23, a24, a25, a26, a27, a28, a29], _ =>
  have h2 : a4 = some (nptr 1 0) := by
    simpa [Ev.look] using h2
  subst h2
  refine does_seq (does_region ?_)
  refine does_opd (f := 105) (args := [nptr 1 0]) rfl (string_ok h4 h5 (bytesOf_w8 _) rfl (by omega) (by omega)) ?_
  rintro v H1 hv
  simp only [Prod.mk.injEq] at hv
  obtain ⟨rfl, rfl⟩ := hv
  simp only [Ev.put, List.set_cons_succ, List.set_cons_zero]
  repeat (first | refine does_opn rfl (by simp only [Ev.put, List.set_cons_succ, List.set_cons_zero]; rfl) ?_ | refine does_nil ?_ | refine does_seq ?_ | refine does_region ?_)
  exact does_ret ⟨_, rfl, rfl⟩

theorem bytes_no (k key val l : Int) (h : ¬ ((0 ≤ k ∧ k ≤ 255) ∧ 0 ≤ l ∧ l ≤ 255)) :
    Does (runw ctx1 16 [.agg ⟨[.int .i64 k, .int .u64 key, .int .u64 val, .int .i64 l]⟩] hp0) fun r => r.1 = .tuple ⟨[.string ⟨#[]⟩, .int .i64 3]⟩ := by
  refine does_run (fi := g16) rfl rfl rfl rfl ?_
  have e0 : mkEnv g16.fn.ntmps [.agg ⟨[.int .i64 k, .int .u64 key, .int .u64 val, .int .i64 l]⟩] = some (.agg ⟨[.int .i64 k, .int .u64 key, .int .u64 val, .int .i64 l]⟩) :: [some undef, some undef, some undef, some undef, some undef, some undef, some undef, some undef, some undef, some undef, some undef, some undef, some undef, some undef, some undef, some undef, some undef, some undef, some undef, some undef, some undef, some undef, some undef, some undef, some undef, some undef, some undef, some undef, some undef] := by kernel_rfl
  rw [e0]
  by_cases hk : 0 ≤ k ∧ k ≤ 255
  · have hl : ¬ (0 ≤ l ∧ l ≤ 255) := fun hl => h ⟨hk, hl⟩
    repeat (first | refine does_opn rfl (by simp only [Ev.put, List.set_cons_succ, List.set_cons_zero]; rfl) ?_ | refine does_nil ?_ | refine does_seq ?_ | refine does_region ?_ | refine does_ret ?_ | refine does_opc rfl (isByte_yes _ hk _) (by simp only [Ev.put, List.set_cons_succ, List.set_cons_zero]; rfl) ?_ | refine does_opc rfl (isByte_no _ hl _) (by simp only [Ev.put, List.set_cons_succ, List.set_cons_zero]; rfl) ?_)
    refine does_cond (b := true) rfl (fun _ => ?_) (fun h => absurd h (by simp))
    repeat (first | refine does_opn rfl (by simp only [Ev.put, List.set_cons_succ, List.set_cons_zero]; rfl) ?_ | refine does_nil ?_ | refine does_seq ?_ | refine does_region ?_ | refine does_ret ?_)
    exact ⟨_, rfl, rfl⟩
  · repeat (first | refine does_opn rfl (by simp only [Ev.put, List.set_cons_succ, List.set_cons_zero]; rfl) ?_ | refine does_nil ?_ | refine does_seq ?_ | refine does_region ?_ | refine does_ret ?_ | refine does_opc rfl (isByte_no _ hk _) (by simp only [Ev.put, List.set_cons_succ, List.set_cons_zero]; rfl) ?_)
    refine does_cond (b := true) rfl (fun _ => ?_) (fun h => absurd h (by simp))
    repeat (first | refine does_opn rfl (by simp only [Ev.put, List.set_cons_succ, List.set_cons_zero]; rfl) ?_ | refine does_nil ?_ | refine does_seq ?_ | refine does_region ?_ | refine does_ret ?_)
    exact ⟨_, rfl, rfl⟩

def ansInts (e : Int) (dn : Bool) (v : Int) : List Int := e :: (bif dn then 1 else 0) :: wordInts v
def proj18 (r : Ex × Env × AHeap) : Bool × Option Value × Nat × Option AObj × Option AObj := (match r.1 with | .normal => true | _ => false, Ev.look r.2.1 (.tmp 4), r.2.1.length, r.2.2.get 1, r.2.2.get 21)

theorem answer_no (e v : Int) (dn : Bool) (h : ¬ (0 ≤ e ∧ e ≤ 255)) : Does (runw ctx1 18 [.agg ⟨[.int .i64 e, .bool dn, .int .u64 v]⟩] hp0) fun r => r.1 = .tuple ⟨[.string ⟨#[]⟩, .int .i64 3]⟩ := by
  refine does_run (fi := g18) rfl rfl rfl rfl ?_
  have e0 : mkEnv g18.fn.ntmps [.agg ⟨[.int .i64 e, .bool dn, .int .u64 v]⟩] = some (.agg ⟨[.int .i64 e, .bool dn, .int .u64 v]⟩) :: [some undef, some undef, some undef, some undef, some undef, some undef, some undef, some undef, some undef, some undef, some undef, some undef, some undef, some undef, some undef, some undef, some undef, some undef, some undef, some undef, some undef] := by kernel_rfl
  rw [e0]
  repeat (first | refine does_opn rfl (by simp only [Ev.put, List.set_cons_succ, List.set_cons_zero]; rfl) ?_ | refine does_nil ?_ | refine does_seq ?_ | refine does_region ?_ | refine does_ret ?_ | refine does_opc rfl (isByte_no _ h _) (by simp only [Ev.put, List.set_cons_succ, List.set_cons_zero]; rfl) ?_)
  refine does_cond (b := true) rfl (fun _ => ?_) (fun h => absurd h (by simp))
  repeat (first | refine does_opn rfl (by simp only [Ev.put, List.set_cons_succ, List.set_cons_zero]; rfl) ?_ | refine does_nil ?_ | refine does_seq ?_ | refine does_region ?_ | refine does_ret ?_)
  exact ⟨_, rfl, rfl⟩

theorem answer_yes (e v : Int) (dn : Bool) (h : 0 ≤ e ∧ e ≤ 255) : Does (runw ctx1 18 [.agg ⟨[.int .i64 e, .bool dn, .int .u64 v]⟩] hp0) fun r => r.1 = .tuple ⟨[.string ⟨((ansInts e dn v).map b8).toArray⟩, .int .i64 0]⟩ := by
  refine does_run (fi := g18) rfl rfl rfl rfl ?_
  have e0 : mkEnv g18.fn.ntmps [.agg ⟨[.int .i64 e, .bool dn, .int .u64 v]⟩] = some (.agg ⟨[.int .i64 e, .bool dn, .int .u64 v]⟩) :: [some undef, some undef, some undef, some undef, some undef, some undef, some undef, some undef, some undef, some undef, some undef, some undef, some undef, some undef, some undef, some undef, some undef, some undef, some undef, some undef, some undef] := by kernel_rfl
  rw [e0]
  repeat (first | refine does_opn rfl (by simp only [Ev.put, List.set_cons_succ, List.set_cons_zero]; rfl) ?_ | refine does_nil ?_ | refine does_seq ?_ | refine does_region ?_ | refine does_ret ?_ | refine does_opc rfl (isByte_yes _ h _) (by simp only [Ev.put, List.set_cons_succ, List.set_cons_zero]; rfl) ?_)
  refine does_cond (b := false) rfl (fun h => absurd h (by simp)) (fun _ => ?_)
  refine does_skip ?_
  refine does_assoc (does_assoc (does_assoc (does_assoc (does_assoc (does_seq (does_seg 100 ((does_proj proj18 (y := (true, some (nptr 1 0), 22, some (.cells [nptr 1 0, .slice (some ⟨21, 0, some 2⟩) 10 10] 207 false), some (.cells ((ansInts e dn v).map w8) 5 false))) (by cases dn <;> kernel_rfl)).mono ?_)))))))
  rintro ⟨x, ρ, H⟩ hp
  simp only [proj18, Prod.mk.injEq] at hp
  obtain ⟨h1, h2, h3, h4, h5⟩ := hp
  cases x <;> simp at h1
  match ρ, h3 with
  | [a0, a1, a2, a3, a4, a5, a6, a7, a8, a9, a10, a11, a12, a13, a14, a15, a16, a17, a18, a19, a20, a21], _ =>
  have h2 : a4 = some (nptr 1 0) := by
    simpa [Ev.look] using h2
  subst h2
  refine does_seq (does_region ?_)
  refine does_opd (f := 105) (args := [nptr 1 0]) rfl (string_ok h4 h5 (bytesOf_w8 _) rfl (by omega) (by omega)) ?_
  rintro u H1 hv
  simp only [Prod.mk.injEq] at hv
  obtain ⟨rfl, rfl⟩ := hv
  simp only [Ev.put, List.set_cons_succ, List.set_cons_zero]
  repeat (first | refine does_opn rfl (by simp only [Ev.put, List.set_cons_succ, List.set_cons_zero]; rfl) ?_ | refine does_nil ?_ | refine does_seq ?_ | refine does_region ?_ | refine does_ret ?_)
  exact ⟨_, rfl, rfl⟩
end Go.Proofs.YtiiabmpobgoajaaGreat
