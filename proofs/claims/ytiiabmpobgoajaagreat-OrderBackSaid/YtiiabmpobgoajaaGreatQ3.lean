/- Part of the proof: Q3. -/
import Derived.Test.YtiiabmpobgoajaaGreatQ2
set_option linter.all false
namespace Go.Proofs.YtiiabmpobgoajaaGreat
open Go Go.Ev Tab
set_option maxRecDepth 10000
attribute [local irreducible] runw loopw

section
variable {C : Ctx} {call : Fun} {ops : Array Oper} {hs : List AHeap} {e : Ent}
theorem does_opb {o : Oper} {os : List Oper} {ρ ρ1 : Env} {H H1 : AHeap} {Q : Env × AHeap → Prop} {b b' : Bool} (e : stepV C call ops o ρ H = some (.bool b', H1)) (hb : b' = b) (hp : put ρ o.dst (.bool b) = ρ1)
    (h : Does (evOps C call ops os ρ1 H1) Q) : Does (evOps C call ops (o :: os) ρ H) Q := by
  subst hb; exact does_opn e hp h
theorem stable_last {es : List Ent} {Hf : AHeap} (hs : ∀ H ∈ phases es Hf, H = Hf) (hst : stepV C call ops e.o e.ρ Hf = some (e.v, Hf)) (hk : opKeep C e.o = true) (hv : vOk e.v = true) : stable C ops (phases es Hf) e = true := by
  unfold stable
  cases e.c with
  | eff => rfl
  | alloc => rfl
  | read lo hi =>
    simp only
    rw [List.all_eq_true]
    intro H hm
    rw [hs H (List.drop_subset _ _ (List.take_subset _ _ hm))]
    exact readAt_of hst hk hv
end

theorem parse_no (s : ByteArray) (h : s.size ≠ 18) : Does (runw ctx1 17 [.string s] hp0) fun r => r.1 = .tuple ⟨[.agg ⟨[.int .i64 0, .int .u64 0, .int .u64 0, .int .i64 0]⟩, .int .i64 4]⟩ := by
  refine does_run (fi := g17) rfl rfl rfl rfl ?_
  have e0 : mkEnv g17.fn.ntmps [.string s] = some (.string s) :: [some undef, some undef, some undef, some undef, some undef, some undef, some undef, some undef, some undef, some undef, some undef, some undef, some undef, some undef, some undef, some undef, some undef, some undef, some undef, some undef] := by kernel_rfl
  rw [e0]
  repeat (refine does_seq ?_)
  refine does_region ?_
  refine does_opn rfl (by simp only [Ev.put, List.set_cons_succ, List.set_cons_zero]; rfl) ?_
  refine does_opn rfl (by simp only [Ev.put, List.set_cons_succ, List.set_cons_zero]; rfl) ?_
  refine does_nil ?_
  repeat (refine does_seq ?_)
  refine does_region ?_
  refine does_opn rfl (by simp only [Ev.put, List.set_cons_succ, List.set_cons_zero]; rfl) ?_
  refine does_opn rfl (by simp only [Ev.put, List.set_cons_succ, List.set_cons_zero]; rfl) ?_
  refine does_opb (b := true) rfl (by simp [bne, h]; omega) (by simp only [Ev.put, List.set_cons_succ, List.set_cons_zero]; rfl) ?_
  refine does_nil ?_
  repeat (refine does_seq ?_)
  refine does_cond (b := true) rfl (fun _ => ?_) (fun h => absurd h (by simp))
  repeat (first | refine does_opn rfl (by simp only [Ev.put, List.set_cons_succ, List.set_cons_zero]; rfl) ?_ | refine does_nil ?_ | refine does_seq ?_ | refine does_region ?_ | refine does_ret ?_)
  exact ⟨_, rfl, rfl⟩

theorem pans_no (s : ByteArray) (h : s.size ≠ 10) : Does (runw ctx1 19 [.string s] hp0) fun r => r.1 = .tuple ⟨[.agg ⟨[.int .i64 0, .bool false, .int .u64 0]⟩, .int .i64 4]⟩ := by
  refine does_run (fi := g19) rfl rfl rfl rfl ?_
  have e0 : mkEnv g19.fn.ntmps [.string s] = some (.string s) :: [some undef, some undef, some undef, some undef, some undef, some undef, some undef, some undef, some undef, some undef, some undef, some undef, some undef, some undef, some undef, some undef, some undef, some undef, some undef, some undef, some undef, some undef] := by kernel_rfl
  rw [e0]
  repeat (refine does_seq ?_)
  refine does_region ?_
  refine does_opn rfl (by simp only [Ev.put, List.set_cons_succ, List.set_cons_zero]; rfl) ?_
  refine does_opn rfl (by simp only [Ev.put, List.set_cons_succ, List.set_cons_zero]; rfl) ?_
  refine does_nil ?_
  repeat (refine does_seq ?_)
  refine does_region ?_
  refine does_opn rfl (by simp only [Ev.put, List.set_cons_succ, List.set_cons_zero]; rfl) ?_
  refine does_opn rfl (by simp only [Ev.put, List.set_cons_succ, List.set_cons_zero]; rfl) ?_
  refine does_opb (b := true) rfl (by simp [bne, h]; omega) (by simp only [Ev.put, List.set_cons_succ, List.set_cons_zero]; rfl) ?_
  refine does_opn rfl (by simp only [Ev.put, List.set_cons_succ, List.set_cons_zero]; rfl) ?_
  refine does_opn rfl (by simp only [Ev.put, List.set_cons_succ, List.set_cons_zero]; rfl) ?_
  refine does_opn rfl (by simp only [Ev.put, List.set_cons_succ, List.set_cons_zero]; rfl) ?_
  refine does_opn rfl (by simp only [Ev.put, List.set_cons_succ, List.set_cons_zero]; rfl) ?_
  refine does_opn rfl (by simp only [Ev.put, List.set_cons_succ, List.set_cons_zero]; rfl) ?_
  refine does_nil ?_
  repeat (refine does_seq ?_)
  refine does_cond (b := true) rfl (fun _ => ?_) (fun h => absurd h (by simp))
  repeat (first | refine does_opn rfl (by simp only [Ev.put, List.set_cons_succ, List.set_cons_zero]; rfl) ?_ | refine does_nil ?_ | refine does_seq ?_ | refine does_region ?_ | refine does_ret ?_)
  exact ⟨_, rfl, rfl⟩

theorem pans_big (c0 c1 c2 c3 c4 c5 c6 c7 c8 c9 : UInt8) (h : ¬ c1.toNat ≤ 1) : Does (runw ctx1 19 [.string ⟨#[c0, c1, c2, c3, c4, c5, c6, c7, c8, c9]⟩] hp0) fun r => r.1 = .tuple ⟨[.agg ⟨[.int .i64 0, .bool false, .int .u64 0]⟩, .int .i64 4]⟩ := by
  refine does_run (fi := g19) rfl rfl rfl rfl ?_
  have e0 : mkEnv g19.fn.ntmps [.string ⟨#[c0, c1, c2, c3, c4, c5, c6, c7, c8, c9]⟩] = some (.string ⟨#[c0, c1, c2, c3, c4, c5, c6, c7, c8, c9]⟩) :: [some undef, some undef, some undef, some undef, some undef, some undef, some undef, some undef, some undef, some undef, some undef, some undef, some undef, some undef, some undef, some undef, some undef, some undef, some undef, some undef, some undef, some undef] := by kernel_rfl
  rw [e0]
  repeat (refine does_seq ?_)
  refine does_region ?_
  refine does_opn rfl (by simp only [Ev.put, List.set_cons_succ, List.set_cons_zero]; rfl) ?_
  refine does_opn rfl (by simp only [Ev.put, List.set_cons_succ, List.set_cons_zero]; rfl) ?_
  refine does_nil ?_
  repeat (refine does_seq ?_)
  refine does_region ?_
  refine does_opn rfl (by simp only [Ev.put, List.set_cons_succ, List.set_cons_zero]; rfl) ?_
  refine does_opn rfl (by simp only [Ev.put, List.set_cons_succ, List.set_cons_zero]; rfl) ?_
  refine does_opn rfl (by simp only [Ev.put, List.set_cons_succ, List.set_cons_zero]; rfl) ?_
  refine does_opn rfl (by simp only [Ev.put, List.set_cons_succ, List.set_cons_zero]; rfl) ?_
  refine does_opn rfl (by simp only [Ev.put, List.set_cons_succ, List.set_cons_zero]; rfl) ?_
  refine does_opn rfl (by simp only [Ev.put, List.set_cons_succ, List.set_cons_zero]; rfl) ?_
  refine does_opb (b := true) rfl (by simp; omega) (by simp only [Ev.put, List.set_cons_succ, List.set_cons_zero]; rfl) ?_
  refine does_opn rfl (by simp only [Ev.put, List.set_cons_succ, List.set_cons_zero]; rfl) ?_
  refine does_nil ?_
  repeat (refine does_seq ?_)
  refine does_cond (b := true) rfl (fun _ => ?_) (fun h => absurd h (by simp))
  repeat (first | refine does_opn rfl (by simp only [Ev.put, List.set_cons_succ, List.set_cons_zero]; rfl) ?_ | refine does_nil ?_ | refine does_seq ?_ | refine does_region ?_ | refine does_ret ?_)
  exact ⟨_, rfl, rfl⟩

theorem pans_yes (c0 c1 c2 c3 c4 c5 c6 c7 c8 c9 : UInt8) (h : c1.toNat ≤ 1) : Does (runw ctx1 19 [.string ⟨#[c0, c1, c2, c3, c4, c5, c6, c7, c8, c9]⟩] hp0) fun r =>
    r.1 = .tuple ⟨[.agg ⟨[.int .i64 (IntKind.i64.wrap c0.toNat), .bool ((c1.toNat : Int) == 1), .int .u64 (get64 [c2, c3, c4, c5, c6, c7, c8, c9])]⟩, .int .i64 0]⟩ := by
  refine does_run (fi := g19) rfl rfl rfl rfl ?_
  have e0 : mkEnv g19.fn.ntmps [.string ⟨#[c0, c1, c2, c3, c4, c5, c6, c7, c8, c9]⟩] = some (.string ⟨#[c0, c1, c2, c3, c4, c5, c6, c7, c8, c9]⟩) :: [some undef, some undef, some undef, some undef, some undef, some undef, some undef, some undef, some undef, some undef, some undef, some undef, some undef, some undef, some undef, some undef, some undef, some undef, some undef, some undef, some undef, some undef] := by kernel_rfl
  rw [e0]
  repeat (refine does_seq ?_)
  refine does_region ?_
  refine does_opn rfl (by simp only [Ev.put, List.set_cons_succ, List.set_cons_zero]; rfl) ?_
  refine does_opn rfl (by simp only [Ev.put, List.set_cons_succ, List.set_cons_zero]; rfl) ?_
  refine does_nil ?_
  repeat (refine does_seq ?_)
  refine does_region ?_
  refine does_opn rfl (by simp only [Ev.put, List.set_cons_succ, List.set_cons_zero]; rfl) ?_
  refine does_opn rfl (by simp only [Ev.put, List.set_cons_succ, List.set_cons_zero]; rfl) ?_
  refine does_opn rfl (by simp only [Ev.put, List.set_cons_succ, List.set_cons_zero]; rfl) ?_
  refine does_opn rfl (by simp only [Ev.put, List.set_cons_succ, List.set_cons_zero]; rfl) ?_
  refine does_opn rfl (by simp only [Ev.put, List.set_cons_succ, List.set_cons_zero]; rfl) ?_
  refine does_opn rfl (by simp only [Ev.put, List.set_cons_succ, List.set_cons_zero]; rfl) ?_
  refine does_opb (b := false) rfl (by simp; omega) (by simp only [Ev.put, List.set_cons_succ, List.set_cons_zero]; rfl) ?_
  refine does_opn rfl (by simp only [Ev.put, List.set_cons_succ, List.set_cons_zero]; rfl) ?_
  refine does_nil ?_
  repeat (refine does_seq ?_)
  refine does_cond (b := false) rfl (fun h => absurd h (by simp)) (fun _ => ?_)
  refine does_skip ?_
  repeat (refine does_seq ?_)
  refine does_draw rfl ?_
  refine does_dop rfl rfl (by simp only [Ev.put, List.set_cons_succ, List.set_cons_zero]; rfl) ?_
  refine does_dop rfl rfl (by simp only [Ev.put, List.set_cons_succ, List.set_cons_zero]; rfl) ?_
  refine does_dop rfl rfl (by simp only [Ev.put, List.set_cons_succ, List.set_cons_zero]; rfl) ?_
  refine does_dop rfl rfl (by simp only [Ev.put, List.set_cons_succ, List.set_cons_zero]; rfl) ?_
  refine does_dop rfl rfl (by simp only [Ev.put, List.set_cons_succ, List.set_cons_zero]; rfl) ?_
  refine does_dop rfl rfl (by simp only [Ev.put, List.set_cons_succ, List.set_cons_zero]; rfl) ?_
  refine does_dop rfl rfl (by simp only [Ev.put, List.set_cons_succ, List.set_cons_zero]; rfl) ?_
  refine does_dopk (v := .string ⟨#[c2, c3, c4, c5, c6, c7, c8, c9]⟩) rfl (by kernel_rfl) (by simp only [Ev.put, List.set_cons_succ, List.set_cons_zero]; rfl) ?_
  refine does_dopc (lp := loopw) rfl rfl rfl (get8 c2 c3 c4 c5 c6 c7 c8 c9 _) (by simp only [Ev.put, List.set_cons_succ, List.set_cons_zero]; rfl) ?_
  refine does_dop rfl rfl (by simp only [Ev.put, List.set_cons_succ, List.set_cons_zero]; rfl) ?_
  refine does_dop rfl rfl (by simp only [Ev.put, List.set_cons_succ, List.set_cons_zero]; rfl) ?_
  refine does_dop rfl rfl (by simp only [Ev.put, List.set_cons_succ, List.set_cons_zero]; rfl) ?_
  refine does_dnil ⟨?_, ?_⟩
  · simp only [List.all_cons, List.all_nil, Bool.and_true, Bool.and_eq_true]
    refine ⟨?_, ?_, ?_, ?_, ?_, ?_, ?_, ?_, ?_, ?_, ?_, ?_⟩
    all_goals first | exact stable_eff rfl | exact stable_alloc rfl | exact stable_free (call := runw ctx1) (by kernel_rfl) rfl (by kernel_rfl) rfl
  · exact does_ret ⟨_, rfl, rfl⟩

theorem refb_no1 (k key val l : Int) (h : k < 0) : Does (runw ctx1 20 [.agg ⟨[.int .i64 k, .int .u64 key, .int .u64 val, .int .i64 l]⟩] hp0) fun r => r.1 = .tuple ⟨[.string ⟨#[]⟩, .bool false]⟩ := by
  refine does_run (fi := g20) rfl rfl rfl rfl ?_
  have e0 : mkEnv g20.fn.ntmps [.agg ⟨[.int .i64 k, .int .u64 key, .int .u64 val, .int .i64 l]⟩] = some (.agg ⟨[.int .i64 k, .int .u64 key, .int .u64 val, .int .i64 l]⟩) :: [some undef, some undef, some undef, some undef, some undef, some undef, some undef, some undef, some undef, some undef, some undef, some undef, some undef, some undef, some undef, some undef, some undef, some undef, some undef, some undef, some undef, some undef, some undef, some undef, some undef, some undef, some undef, some undef, some undef, some undef, some undef, some undef, some undef, some undef, some undef, some undef, some undef, some undef, some undef, some undef] := by kernel_rfl
  rw [e0]
  repeat (refine does_seq ?_)
  refine does_region ?_
  refine does_opn rfl (by simp only [Ev.put, List.set_cons_succ, List.set_cons_zero]; rfl) ?_
  refine does_opn rfl (by simp only [Ev.put, List.set_cons_succ, List.set_cons_zero]; rfl) ?_
  refine does_opn rfl (by simp only [Ev.put, List.set_cons_succ, List.set_cons_zero]; rfl) ?_
  refine does_nil ?_
  repeat (refine does_seq ?_)
  refine does_region ?_
  refine does_opn rfl (by simp only [Ev.put, List.set_cons_succ, List.set_cons_zero]; rfl) ?_
  refine does_opn rfl (by simp only [Ev.put, List.set_cons_succ, List.set_cons_zero]; rfl) ?_
  refine does_opb (b := true) rfl (by simp; omega) (by simp only [Ev.put, List.set_cons_succ, List.set_cons_zero]; rfl) ?_
  refine does_opn rfl (by simp only [Ev.put, List.set_cons_succ, List.set_cons_zero]; rfl) ?_
  refine does_opn rfl (by simp only [Ev.put, List.set_cons_succ, List.set_cons_zero]; rfl) ?_
  refine does_opn rfl (by simp only [Ev.put, List.set_cons_succ, List.set_cons_zero]; rfl) ?_
  refine does_opn rfl (by simp only [Ev.put, List.set_cons_succ, List.set_cons_zero]; rfl) ?_
  refine does_opn rfl (by simp only [Ev.put, List.set_cons_succ, List.set_cons_zero]; rfl) ?_
  refine does_opn rfl (by simp only [Ev.put, List.set_cons_succ, List.set_cons_zero]; rfl) ?_
  refine does_opn rfl (by simp only [Ev.put, List.set_cons_succ, List.set_cons_zero]; rfl) ?_
  refine does_opn rfl (by simp only [Ev.put, List.set_cons_succ, List.set_cons_zero]; rfl) ?_
  refine does_opn rfl (by simp only [Ev.put, List.set_cons_succ, List.set_cons_zero]; rfl) ?_
  refine does_opn rfl (by simp only [Ev.put, List.set_cons_succ, List.set_cons_zero]; rfl) ?_
  refine does_opn rfl (by simp only [Ev.put, List.set_cons_succ, List.set_cons_zero]; rfl) ?_
  refine does_opn rfl (by simp only [Ev.put, List.set_cons_succ, List.set_cons_zero]; rfl) ?_
  refine does_opn rfl (by simp only [Ev.put, List.set_cons_succ, List.set_cons_zero]; rfl) ?_
  refine does_opn rfl (by simp only [Ev.put, List.set_cons_succ, List.set_cons_zero]; rfl) ?_
  refine does_opn rfl (by simp only [Ev.put, List.set_cons_succ, List.set_cons_zero]; rfl) ?_
  refine does_nil ?_
  repeat (refine does_seq ?_)
  refine does_cond (b := true) rfl (fun _ => ?_) (fun h => absurd h (by simp))
  repeat (first | refine does_opn rfl (by simp only [Ev.put, List.set_cons_succ, List.set_cons_zero]; rfl) ?_ | refine does_nil ?_ | refine does_seq ?_ | refine does_region ?_ | refine does_ret ?_)
  exact ⟨_, rfl, rfl⟩

theorem refb_no2 (k key val l : Int) (h0 : 0 ≤ k) (h : 255 < k) : Does (runw ctx1 20 [.agg ⟨[.int .i64 k, .int .u64 key, .int .u64 val, .int .i64 l]⟩] hp0) fun r => r.1 = .tuple ⟨[.string ⟨#[]⟩, .bool false]⟩ := by
  refine does_run (fi := g20) rfl rfl rfl rfl ?_
  have e0 : mkEnv g20.fn.ntmps [.agg ⟨[.int .i64 k, .int .u64 key, .int .u64 val, .int .i64 l]⟩] = some (.agg ⟨[.int .i64 k, .int .u64 key, .int .u64 val, .int .i64 l]⟩) :: [some undef, some undef, some undef, some undef, some undef, some undef, some undef, some undef, some undef, some undef, some undef, some undef, some undef, some undef, some undef, some undef, some undef, some undef, some undef, some undef, some undef, some undef, some undef, some undef, some undef, some undef, some undef, some undef, some undef, some undef, some undef, some undef, some undef, some undef, some undef, some undef, some undef, some undef, some undef, some undef] := by kernel_rfl
  rw [e0]
  repeat (refine does_seq ?_)
  refine does_region ?_
  refine does_opn rfl (by simp only [Ev.put, List.set_cons_succ, List.set_cons_zero]; rfl) ?_
  refine does_opn rfl (by simp only [Ev.put, List.set_cons_succ, List.set_cons_zero]; rfl) ?_
  refine does_opn rfl (by simp only [Ev.put, List.set_cons_succ, List.set_cons_zero]; rfl) ?_
  refine does_nil ?_
  repeat (refine does_seq ?_)
  refine does_region ?_
  refine does_opn rfl (by simp only [Ev.put, List.set_cons_succ, List.set_cons_zero]; rfl) ?_
  refine does_opn rfl (by simp only [Ev.put, List.set_cons_succ, List.set_cons_zero]; rfl) ?_
  refine does_opb (b := false) rfl (by simp; omega) (by simp only [Ev.put, List.set_cons_succ, List.set_cons_zero]; rfl) ?_
  refine does_opn rfl (by simp only [Ev.put, List.set_cons_succ, List.set_cons_zero]; rfl) ?_
  refine does_opn rfl (by simp only [Ev.put, List.set_cons_succ, List.set_cons_zero]; rfl) ?_
  refine does_opn rfl (by simp only [Ev.put, List.set_cons_succ, List.set_cons_zero]; rfl) ?_
  refine does_opb (b := true) rfl (by simp; omega) (by simp only [Ev.put, List.set_cons_succ, List.set_cons_zero]; rfl) ?_
  refine does_opn rfl (by simp only [Ev.put, List.set_cons_succ, List.set_cons_zero]; rfl) ?_
  refine does_opn rfl (by simp only [Ev.put, List.set_cons_succ, List.set_cons_zero]; rfl) ?_
  refine does_opn rfl (by simp only [Ev.put, List.set_cons_succ, List.set_cons_zero]; rfl) ?_
  refine does_opn rfl (by simp only [Ev.put, List.set_cons_succ, List.set_cons_zero]; rfl) ?_
  refine does_opn rfl (by simp only [Ev.put, List.set_cons_succ, List.set_cons_zero]; rfl) ?_
  refine does_opn rfl (by simp only [Ev.put, List.set_cons_succ, List.set_cons_zero]; rfl) ?_
  refine does_opn rfl (by simp only [Ev.put, List.set_cons_succ, List.set_cons_zero]; rfl) ?_
  refine does_opn rfl (by simp only [Ev.put, List.set_cons_succ, List.set_cons_zero]; rfl) ?_
  refine does_opn rfl (by simp only [Ev.put, List.set_cons_succ, List.set_cons_zero]; rfl) ?_
  refine does_opn rfl (by simp only [Ev.put, List.set_cons_succ, List.set_cons_zero]; rfl) ?_
  refine does_opn rfl (by simp only [Ev.put, List.set_cons_succ, List.set_cons_zero]; rfl) ?_
  refine does_nil ?_
  repeat (refine does_seq ?_)
  refine does_cond (b := true) rfl (fun _ => ?_) (fun h => absurd h (by simp))
  repeat (first | refine does_opn rfl (by simp only [Ev.put, List.set_cons_succ, List.set_cons_zero]; rfl) ?_ | refine does_nil ?_ | refine does_seq ?_ | refine does_region ?_ | refine does_ret ?_)
  exact ⟨_, rfl, rfl⟩

theorem refb_no3 (k key val l : Int) (h0 : 0 ≤ k) (h1 : k ≤ 255) (h : l < 0) : Does (runw ctx1 20 [.agg ⟨[.int .i64 k, .int .u64 key, .int .u64 val, .int .i64 l]⟩] hp0) fun r => r.1 = .tuple ⟨[.string ⟨#[]⟩, .bool false]⟩ := by
  refine does_run (fi := g20) rfl rfl rfl rfl ?_
  have e0 : mkEnv g20.fn.ntmps [.agg ⟨[.int .i64 k, .int .u64 key, .int .u64 val, .int .i64 l]⟩] = some (.agg ⟨[.int .i64 k, .int .u64 key, .int .u64 val, .int .i64 l]⟩) :: [some undef, some undef, some undef, some undef, some undef, some undef, some undef, some undef, some undef, some undef, some undef, some undef, some undef, some undef, some undef, some undef, some undef, some undef, some undef, some undef, some undef, some undef, some undef, some undef, some undef, some undef, some undef, some undef, some undef, some undef, some undef, some undef, some undef, some undef, some undef, some undef, some undef, some undef, some undef, some undef] := by kernel_rfl
  rw [e0]
  repeat (refine does_seq ?_)
  refine does_region ?_
  refine does_opn rfl (by simp only [Ev.put, List.set_cons_succ, List.set_cons_zero]; rfl) ?_
  refine does_opn rfl (by simp only [Ev.put, List.set_cons_succ, List.set_cons_zero]; rfl) ?_
  refine does_opn rfl (by simp only [Ev.put, List.set_cons_succ, List.set_cons_zero]; rfl) ?_
  refine does_nil ?_
  repeat (refine does_seq ?_)
  refine does_region ?_
  refine does_opn rfl (by simp only [Ev.put, List.set_cons_succ, List.set_cons_zero]; rfl) ?_
  refine does_opn rfl (by simp only [Ev.put, List.set_cons_succ, List.set_cons_zero]; rfl) ?_
  refine does_opb (b := false) rfl (by simp; omega) (by simp only [Ev.put, List.set_cons_succ, List.set_cons_zero]; rfl) ?_
  refine does_opn rfl (by simp only [Ev.put, List.set_cons_succ, List.set_cons_zero]; rfl) ?_
  refine does_opn rfl (by simp only [Ev.put, List.set_cons_succ, List.set_cons_zero]; rfl) ?_
  refine does_opn rfl (by simp only [Ev.put, List.set_cons_succ, List.set_cons_zero]; rfl) ?_
  refine does_opb (b := false) rfl (by simp; omega) (by simp only [Ev.put, List.set_cons_succ, List.set_cons_zero]; rfl) ?_
  refine does_opn rfl (by simp only [Ev.put, List.set_cons_succ, List.set_cons_zero]; rfl) ?_
  refine does_opn rfl (by simp only [Ev.put, List.set_cons_succ, List.set_cons_zero]; rfl) ?_
  refine does_opn rfl (by simp only [Ev.put, List.set_cons_succ, List.set_cons_zero]; rfl) ?_
  refine does_opn rfl (by simp only [Ev.put, List.set_cons_succ, List.set_cons_zero]; rfl) ?_
  refine does_opb (b := true) rfl (by simp; omega) (by simp only [Ev.put, List.set_cons_succ, List.set_cons_zero]; rfl) ?_
  refine does_opn rfl (by simp only [Ev.put, List.set_cons_succ, List.set_cons_zero]; rfl) ?_
  refine does_opn rfl (by simp only [Ev.put, List.set_cons_succ, List.set_cons_zero]; rfl) ?_
  refine does_opn rfl (by simp only [Ev.put, List.set_cons_succ, List.set_cons_zero]; rfl) ?_
  refine does_opn rfl (by simp only [Ev.put, List.set_cons_succ, List.set_cons_zero]; rfl) ?_
  refine does_opn rfl (by simp only [Ev.put, List.set_cons_succ, List.set_cons_zero]; rfl) ?_
  refine does_opn rfl (by simp only [Ev.put, List.set_cons_succ, List.set_cons_zero]; rfl) ?_
  refine does_nil ?_
  repeat (refine does_seq ?_)
  refine does_cond (b := true) rfl (fun _ => ?_) (fun h => absurd h (by simp))
  repeat (first | refine does_opn rfl (by simp only [Ev.put, List.set_cons_succ, List.set_cons_zero]; rfl) ?_ | refine does_nil ?_ | refine does_seq ?_ | refine does_region ?_ | refine does_ret ?_)
  exact ⟨_, rfl, rfl⟩

theorem refb_no4 (k key val l : Int) (h0 : 0 ≤ k) (h1 : k ≤ 255) (h2 : 0 ≤ l) (h : 255 < l) : Does (runw ctx1 20 [.agg ⟨[.int .i64 k, .int .u64 key, .int .u64 val, .int .i64 l]⟩] hp0) fun r => r.1 = .tuple ⟨[.string ⟨#[]⟩, .bool false]⟩ := by
  refine does_run (fi := g20) rfl rfl rfl rfl ?_
  have e0 : mkEnv g20.fn.ntmps [.agg ⟨[.int .i64 k, .int .u64 key, .int .u64 val, .int .i64 l]⟩] = some (.agg ⟨[.int .i64 k, .int .u64 key, .int .u64 val, .int .i64 l]⟩) :: [some undef, some undef, some undef, some undef, some undef, some undef, some undef, some undef, some undef, some undef, some undef, some undef, some undef, some undef, some undef, some undef, some undef, some undef, some undef, some undef, some undef, some undef, some undef, some undef, some undef, some undef, some undef, some undef, some undef, some undef, some undef, some undef, some undef, some undef, some undef, some undef, some undef, some undef, some undef, some undef] := by kernel_rfl
  rw [e0]
  repeat (refine does_seq ?_)
  refine does_region ?_
  refine does_opn rfl (by simp only [Ev.put, List.set_cons_succ, List.set_cons_zero]; rfl) ?_
  refine does_opn rfl (by simp only [Ev.put, List.set_cons_succ, List.set_cons_zero]; rfl) ?_
  refine does_opn rfl (by simp only [Ev.put, List.set_cons_succ, List.set_cons_zero]; rfl) ?_
  refine does_nil ?_
  repeat (refine does_seq ?_)
  refine does_region ?_
  refine does_opn rfl (by simp only [Ev.put, List.set_cons_succ, List.set_cons_zero]; rfl) ?_
  refine does_opn rfl (by simp only [Ev.put, List.set_cons_succ, List.set_cons_zero]; rfl) ?_
  refine does_opb (b := false) rfl (by simp; omega) (by simp only [Ev.put, List.set_cons_succ, List.set_cons_zero]; rfl) ?_
  refine does_opn rfl (by simp only [Ev.put, List.set_cons_succ, List.set_cons_zero]; rfl) ?_
  refine does_opn rfl (by simp only [Ev.put, List.set_cons_succ, List.set_cons_zero]; rfl) ?_
  refine does_opn rfl (by simp only [Ev.put, List.set_cons_succ, List.set_cons_zero]; rfl) ?_
  refine does_opb (b := false) rfl (by simp; omega) (by simp only [Ev.put, List.set_cons_succ, List.set_cons_zero]; rfl) ?_
  refine does_opn rfl (by simp only [Ev.put, List.set_cons_succ, List.set_cons_zero]; rfl) ?_
  refine does_opn rfl (by simp only [Ev.put, List.set_cons_succ, List.set_cons_zero]; rfl) ?_
  refine does_opn rfl (by simp only [Ev.put, List.set_cons_succ, List.set_cons_zero]; rfl) ?_
  refine does_opn rfl (by simp only [Ev.put, List.set_cons_succ, List.set_cons_zero]; rfl) ?_
  refine does_opb (b := false) rfl (by simp; omega) (by simp only [Ev.put, List.set_cons_succ, List.set_cons_zero]; rfl) ?_
  refine does_opn rfl (by simp only [Ev.put, List.set_cons_succ, List.set_cons_zero]; rfl) ?_
  refine does_opn rfl (by simp only [Ev.put, List.set_cons_succ, List.set_cons_zero]; rfl) ?_
  refine does_opn rfl (by simp only [Ev.put, List.set_cons_succ, List.set_cons_zero]; rfl) ?_
  refine does_opn rfl (by simp only [Ev.put, List.set_cons_succ, List.set_cons_zero]; rfl) ?_
  refine does_opb (b := true) rfl (by simp; omega) (by simp only [Ev.put, List.set_cons_succ, List.set_cons_zero]; rfl) ?_
  refine does_opn rfl (by simp only [Ev.put, List.set_cons_succ, List.set_cons_zero]; rfl) ?_
  refine does_nil ?_
  repeat (refine does_seq ?_)
  refine does_cond (b := true) rfl (fun _ => ?_) (fun h => absurd h (by simp))
  repeat (first | refine does_opn rfl (by simp only [Ev.put, List.set_cons_succ, List.set_cons_zero]; rfl) ?_ | refine does_nil ?_ | refine does_seq ?_ | refine does_region ?_ | refine does_ret ?_)
  exact ⟨_, rfl, rfl⟩

end Go.Proofs.YtiiabmpobgoajaaGreat
