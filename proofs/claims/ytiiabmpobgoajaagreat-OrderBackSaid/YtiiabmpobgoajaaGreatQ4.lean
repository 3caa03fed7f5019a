/- Part of the proof: Q4. -/
import Derived.Test.YtiiabmpobgoajaaGreatQ3
set_option linter.all false
namespace Go.Proofs.YtiiabmpobgoajaaGreat
open Go Go.Ev Tab
set_option maxRecDepth 10000
attribute [local irreducible] runw loopw

theorem conv_string {H : AHeap} {b n : Nat} {cs : List Value} {bs : List UInt8} (h : ldCells H b 0 n = some cs) (hb : bytesOf cs = some bs) : convA ctx1 H 205 9 (.slice (some ⟨b, 0, none⟩) n n) = some (.string ⟨bs.toArray⟩, H) := by
  have t1 : tdA ctx1 205 = some (.slice 5) := by kernel_rfl
  have t2 : tdA ctx1 9 = some .string := by kernel_rfl
  have t3 : tdA ctx1 5 = some (.int .u8) := by kernel_rfl
  simp only [convA, t1, t2, t3, h, Option.bind_some, hb, Option.map_some]

theorem step_conv {call : Fun} {ops : Array Oper} {o : Oper} {ρ : Env} {H : AHeap} {x : Operand} {b n : Nat} {cs : List Value} {bs : List UInt8} (ho : o.op = .convert 205 9 x) (hg : o.guard = none) (hx : Ev.look ρ x = some (.slice (some ⟨b, 0, none⟩) n n))
    (h : ldCells H b 0 n = some cs) (hb : bytesOf cs = some bs) : stepV ctx1 call ops o ρ H = some (.string ⟨bs.toArray⟩, H) :=
  stepV_val hg (by simp only [opEval, ho, hx, Option.bind_some, conv_string h hb, retVH, Option.map_some])

/-- An op's bytes, as the document tells them. -/
def refOp (k key val l : Int) : List Int := k :: (refInts key ++ refInts val ++ [l])
def refAn (e : Int) (dn : Bool) (v : Int) : List Int := e :: (bif dn then 1 else 0) :: refInts v

theorem refb_yes (k key val l : Int) (h0 : 0 ≤ k) (h1 : k ≤ 255) (h2 : 0 ≤ l) (h3 : l ≤ 255) : Does (runw ctx1 20 [.agg ⟨[.int .i64 k, .int .u64 key, .int .u64 val, .int .i64 l]⟩] hp0) fun r => r.1 = .tuple ⟨[.string ⟨((refOp k key val l).map b8).toArray⟩, .bool true]⟩ := by
  refine does_run (fi := g20) rfl rfl rfl rfl ?_
  have e0 : mkEnv g20.fn.ntmps [.agg ⟨[.int .i64 k, .int .u64 key, .int .u64 val, .int .i64 l]⟩] = some (.agg ⟨[.int .i64 k, .int .u64 key, .int .u64 val, .int .i64 l]⟩) :: [some undef, some undef, some undef, some undef, some undef, some undef, some undef, some undef, some undef, some undef, some undef, some undef, some undef, some undef, some undef, some undef, some undef, some undef, some undef, some undef, some undef, some undef, some undef, some undef, some undef, some undef, some undef, some undef, some undef, some undef, some undef, some undef, some undef, some undef, some undef, some undef, some undef, some undef, some undef, some undef] := by kernel_rfl
  rw [e0]
  repeat (refine does_seq ?_)
  refine does_region ?_
  refine does_opn rfl (by simp only [Ev.put, List.set_cons_succ, List.set_cons_zero]; rfl) ?_
  refine does_opn rfl (by simp only [Ev.put, List.set_cons_succ, List.set_cons_zero]; rfl) ?_
  refine does_opn rfl (by simp only [Ev.put, List.set_cons_succ, List.set_cons_zero]; rfl) ?_
  refine does_nil ?_
  repeat (refine does_seq ?_)
  refine does_region ?_
  refine does_opn rfl (by simp only [Ev.put, List.set_cons_succ, List.set_cons_zero]; rfl) ?_
  refine does_opn rfl (by simp only [Ev.put, List.set_cons_succ, List.set_cons_zero]; rfl) ?_
  refine does_opb (b := false) rfl (by simp; omega) (by simp only [Ev.put, List.set_cons_succ, List.set_cons_zero]; rfl) ?_
  refine does_opn rfl (by simp only [Ev.put, List.set_cons_succ, List.set_cons_zero]; rfl) ?_
  refine does_opn rfl (by simp only [Ev.put, List.set_cons_succ, List.set_cons_zero]; rfl) ?_
  refine does_opn rfl (by simp only [Ev.put, List.set_cons_succ, List.set_cons_zero]; rfl) ?_
  refine does_opb (b := false) rfl (by simp; omega) (by simp only [Ev.put, List.set_cons_succ, List.set_cons_zero]; rfl) ?_
  refine does_opn rfl (by simp only [Ev.put, List.set_cons_succ, List.set_cons_zero]; rfl) ?_
  refine does_opn rfl (by simp only [Ev.put, List.set_cons_succ, List.set_cons_zero]; rfl) ?_
  refine does_opn rfl (by simp only [Ev.put, List.set_cons_succ, List.set_cons_zero]; rfl) ?_
  refine does_opn rfl (by simp only [Ev.put, List.set_cons_succ, List.set_cons_zero]; rfl) ?_
  refine does_opb (b := false) rfl (by simp; omega) (by simp only [Ev.put, List.set_cons_succ, List.set_cons_zero]; rfl) ?_
  refine does_opn rfl (by simp only [Ev.put, List.set_cons_succ, List.set_cons_zero]; rfl) ?_
  refine does_opn rfl (by simp only [Ev.put, List.set_cons_succ, List.set_cons_zero]; rfl) ?_
  refine does_opn rfl (by simp only [Ev.put, List.set_cons_succ, List.set_cons_zero]; rfl) ?_
  refine does_opn rfl (by simp only [Ev.put, List.set_cons_succ, List.set_cons_zero]; rfl) ?_
  refine does_opb (b := false) rfl (by simp; omega) (by simp only [Ev.put, List.set_cons_succ, List.set_cons_zero]; rfl) ?_
  refine does_opn rfl (by simp only [Ev.put, List.set_cons_succ, List.set_cons_zero]; rfl) ?_
  refine does_nil ?_
  repeat (refine does_seq ?_)
  refine does_cond (b := false) rfl (fun h => absurd h (by simp)) (fun _ => ?_)
  refine does_skip ?_
  repeat (refine does_seq ?_)
  refine does_draw rfl ?_
  refine does_dop rfl rfl (by simp only [Ev.put, List.set_cons_succ, List.set_cons_zero]; rfl) ?_
  refine does_dop rfl rfl (by simp only [Ev.put, List.set_cons_succ, List.set_cons_zero]; rfl) ?_
  refine does_dop rfl rfl (by simp only [Ev.put, List.set_cons_succ, List.set_cons_zero]; rfl) ?_
  refine does_dop rfl rfl (by simp only [Ev.put, List.set_cons_succ, List.set_cons_zero]; rfl) ?_
  refine does_dop rfl rfl (by simp only [Ev.put, List.set_cons_succ, List.set_cons_zero]; rfl) ?_
  refine does_dopk (v := .int .i64 l) rfl (by kernel_rfl) (by simp only [Ev.put, List.set_cons_succ, List.set_cons_zero]; rfl) ?_
  refine does_dop rfl rfl (by simp only [Ev.put, List.set_cons_succ, List.set_cons_zero]; rfl) ?_
  refine does_dop rfl rfl (by simp only [Ev.put, List.set_cons_succ, List.set_cons_zero]; rfl) ?_
  refine does_dopk (v := .string ⟨([k].map b8).toArray⟩) rfl (by exact step_conv (x := .tmp 25) (b := 1) (n := 1) (cs := [k].map w8) rfl rfl (by kernel_rfl) (by kernel_rfl) (bytesOf_w8 [k])) (by simp only [Ev.put, List.set_cons_succ, List.set_cons_zero]; rfl) ?_
  refine does_dop rfl rfl (by simp only [Ev.put, List.set_cons_succ, List.set_cons_zero]; rfl) ?_
  refine does_dopk (v := .int .u64 key) rfl (by kernel_rfl) (by simp only [Ev.put, List.set_cons_succ, List.set_cons_zero]; rfl) ?_
  refine does_dopc (lp := loopw) rfl rfl rfl (word1 key _) (by simp only [Ev.put, List.set_cons_succ, List.set_cons_zero]; rfl) ?_
  refine does_dopk (v := .string ⟨((k :: refInts key).map b8).toArray⟩) rfl (by kernel_rfl) (by simp only [Ev.put, List.set_cons_succ, List.set_cons_zero]; rfl) ?_
  refine does_dop rfl rfl (by simp only [Ev.put, List.set_cons_succ, List.set_cons_zero]; rfl) ?_
  refine does_dopk (v := .int .u64 val) rfl (by kernel_rfl) (by simp only [Ev.put, List.set_cons_succ, List.set_cons_zero]; rfl) ?_
  refine does_dopc (lp := loopw) rfl rfl rfl (word1 val _) (by simp only [Ev.put, List.set_cons_succ, List.set_cons_zero]; rfl) ?_
  refine does_dopk (v := .string ⟨((k :: (refInts key ++ refInts val)).map b8).toArray⟩) rfl (by kernel_rfl) (by simp only [Ev.put, List.set_cons_succ, List.set_cons_zero]; rfl) ?_
  refine does_dopk (v := .string ⟨([l].map b8).toArray⟩) rfl (by exact step_conv (x := .tmp 38) (b := 2) (n := 1) (cs := [l].map w8) rfl rfl (by kernel_rfl) (by kernel_rfl) (bytesOf_w8 [l])) (by simp only [Ev.put, List.set_cons_succ, List.set_cons_zero]; rfl) ?_
  refine does_dopk (v := .string ⟨((refOp k key val l).map b8).toArray⟩) rfl (by kernel_rfl) (by simp only [Ev.put, List.set_cons_succ, List.set_cons_zero]; rfl) ?_
  refine does_dop rfl rfl (by simp only [Ev.put, List.set_cons_succ, List.set_cons_zero]; rfl) ?_
  refine does_dop rfl rfl (by simp only [Ev.put, List.set_cons_succ, List.set_cons_zero]; rfl) ?_
  refine does_dnil ⟨?_, ?_⟩
  · simp only [List.all_cons, List.all_nil, Bool.and_true, Bool.and_eq_true]
    refine ⟨?_, ?_, ?_, ?_, ?_, ?_, ?_, ?_, ?_, ?_, ?_, ?_, ?_, ?_, ?_, ?_, ?_, ?_, ?_, ?_, ?_⟩
    · exact stable_free (call := runw ctx1) (by kernel_rfl) rfl (by kernel_rfl) rfl
    · exact stable_last (call := runw ctx1) (by simp [phases]) (by kernel_rfl) (by kernel_rfl) rfl
    · exact stable_free (call := runw ctx1) (by kernel_rfl) rfl (by kernel_rfl) rfl
    · exact stable_alloc rfl
    · exact stable_free (call := runw ctx1) (by kernel_rfl) rfl (by kernel_rfl) rfl
    · exact stable_last (call := runw ctx1) (by simp [phases]) (by kernel_rfl) (by kernel_rfl) rfl
    · exact stable_free (call := runw ctx1) (by kernel_rfl) rfl (by kernel_rfl) rfl
    · exact stable_alloc rfl
    · exact stable_last (call := runw ctx1) (by simp [phases]) (by exact step_conv (x := .tmp 25) (b := 1) (n := 1) (cs := [k].map w8) rfl rfl (by kernel_rfl) (by kernel_rfl) (bytesOf_w8 [k])) (by kernel_rfl) rfl
    · exact stable_free (call := runw ctx1) (by kernel_rfl) rfl (by kernel_rfl) rfl
    · exact stable_last (call := runw ctx1) (by simp [phases]) (by kernel_rfl) (by kernel_rfl) rfl
    · exact stable_eff rfl
    · exact stable_free (call := runw ctx1) (by kernel_rfl) rfl (by kernel_rfl) rfl
    · exact stable_free (call := runw ctx1) (by kernel_rfl) rfl (by kernel_rfl) rfl
    · exact stable_last (call := runw ctx1) (by simp [phases]) (by kernel_rfl) (by kernel_rfl) rfl
    · exact stable_eff rfl
    · exact stable_free (call := runw ctx1) (by kernel_rfl) rfl (by kernel_rfl) rfl
    · exact stable_last (call := runw ctx1) (by simp [phases]) (by exact step_conv (x := .tmp 38) (b := 2) (n := 1) (cs := [l].map w8) rfl rfl (by kernel_rfl) (by kernel_rfl) (bytesOf_w8 [l])) (by kernel_rfl) rfl
    · exact stable_free (call := runw ctx1) (by kernel_rfl) rfl (by kernel_rfl) rfl
    · exact stable_free (call := runw ctx1) (by kernel_rfl) rfl (by kernel_rfl) rfl
    · exact stable_free (call := runw ctx1) (by kernel_rfl) rfl (by kernel_rfl) rfl
  · exact does_ret ⟨_, rfl, rfl⟩

theorem refa_no1 (e v : Int) (dn : Bool) (h : e < 0) : Does (runw ctx1 21 [.agg ⟨[.int .i64 e, .bool dn, .int .u64 v]⟩] hp0) fun r => r.1 = .tuple ⟨[.string ⟨#[]⟩, .bool false]⟩ := by
  refine does_run (fi := g21) rfl rfl rfl rfl ?_
  have e0 : mkEnv g21.fn.ntmps [.agg ⟨[.int .i64 e, .bool dn, .int .u64 v]⟩] = some (.agg ⟨[.int .i64 e, .bool dn, .int .u64 v]⟩) :: [some undef, some undef, some undef, some undef, some undef, some undef, some undef, some undef, some undef, some undef, some undef, some undef, some undef, some undef, some undef, some undef, some undef, some undef, some undef, some undef, some undef, some undef, some undef, some undef] := by kernel_rfl
  rw [e0]
  repeat (refine does_seq ?_)
  refine does_region ?_
  refine does_opn rfl (by simp only [Ev.put, List.set_cons_succ, List.set_cons_zero]; rfl) ?_
  refine does_opn rfl (by simp only [Ev.put, List.set_cons_succ, List.set_cons_zero]; rfl) ?_
  refine does_opn rfl (by simp only [Ev.put, List.set_cons_succ, List.set_cons_zero]; rfl) ?_
  refine does_nil ?_
  repeat (refine does_seq ?_)
  refine does_region ?_
  refine does_opn rfl (by simp only [Ev.put, List.set_cons_succ, List.set_cons_zero]; rfl) ?_
  refine does_opn rfl (by simp only [Ev.put, List.set_cons_succ, List.set_cons_zero]; rfl) ?_
  refine does_opb (b := true) rfl (by simp; omega) (by simp only [Ev.put, List.set_cons_succ, List.set_cons_zero]; rfl) ?_
  refine does_opn rfl (by simp only [Ev.put, List.set_cons_succ, List.set_cons_zero]; rfl) ?_
  refine does_opn rfl (by simp only [Ev.put, List.set_cons_succ, List.set_cons_zero]; rfl) ?_
  refine does_opn rfl (by simp only [Ev.put, List.set_cons_succ, List.set_cons_zero]; rfl) ?_
  refine does_opn rfl (by simp only [Ev.put, List.set_cons_succ, List.set_cons_zero]; rfl) ?_
  refine does_opn rfl (by simp only [Ev.put, List.set_cons_succ, List.set_cons_zero]; rfl) ?_
  refine does_nil ?_
  repeat (refine does_seq ?_)
  refine does_cond (b := true) rfl (fun _ => ?_) (fun h => absurd h (by simp))
  repeat (first | refine does_opn rfl (by simp only [Ev.put, List.set_cons_succ, List.set_cons_zero]; rfl) ?_ | refine does_nil ?_ | refine does_seq ?_ | refine does_region ?_ | refine does_ret ?_)
  exact ⟨_, rfl, rfl⟩

theorem refa_no2 (e v : Int) (dn : Bool) (h0 : 0 ≤ e) (h : 255 < e) : Does (runw ctx1 21 [.agg ⟨[.int .i64 e, .bool dn, .int .u64 v]⟩] hp0) fun r => r.1 = .tuple ⟨[.string ⟨#[]⟩, .bool false]⟩ := by
  refine does_run (fi := g21) rfl rfl rfl rfl ?_
  have e0 : mkEnv g21.fn.ntmps [.agg ⟨[.int .i64 e, .bool dn, .int .u64 v]⟩] = some (.agg ⟨[.int .i64 e, .bool dn, .int .u64 v]⟩) :: [some undef, some undef, some undef, some undef, some undef, some undef, some undef, some undef, some undef, some undef, some undef, some undef, some undef, some undef, some undef, some undef, some undef, some undef, some undef, some undef, some undef, some undef, some undef, some undef] := by kernel_rfl
  rw [e0]
  repeat (refine does_seq ?_)
  refine does_region ?_
  refine does_opn rfl (by simp only [Ev.put, List.set_cons_succ, List.set_cons_zero]; rfl) ?_
  refine does_opn rfl (by simp only [Ev.put, List.set_cons_succ, List.set_cons_zero]; rfl) ?_
  refine does_opn rfl (by simp only [Ev.put, List.set_cons_succ, List.set_cons_zero]; rfl) ?_
  refine does_nil ?_
  repeat (refine does_seq ?_)
  refine does_region ?_
  refine does_opn rfl (by simp only [Ev.put, List.set_cons_succ, List.set_cons_zero]; rfl) ?_
  refine does_opn rfl (by simp only [Ev.put, List.set_cons_succ, List.set_cons_zero]; rfl) ?_
  refine does_opb (b := false) rfl (by simp; omega) (by simp only [Ev.put, List.set_cons_succ, List.set_cons_zero]; rfl) ?_
  refine does_opn rfl (by simp only [Ev.put, List.set_cons_succ, List.set_cons_zero]; rfl) ?_
  refine does_opn rfl (by simp only [Ev.put, List.set_cons_succ, List.set_cons_zero]; rfl) ?_
  refine does_opn rfl (by simp only [Ev.put, List.set_cons_succ, List.set_cons_zero]; rfl) ?_
  refine does_opb (b := true) rfl (by simp; omega) (by simp only [Ev.put, List.set_cons_succ, List.set_cons_zero]; rfl) ?_
  refine does_opn rfl (by simp only [Ev.put, List.set_cons_succ, List.set_cons_zero]; rfl) ?_
  refine does_nil ?_
  repeat (refine does_seq ?_)
  refine does_cond (b := true) rfl (fun _ => ?_) (fun h => absurd h (by simp))
  repeat (first | refine does_opn rfl (by simp only [Ev.put, List.set_cons_succ, List.set_cons_zero]; rfl) ?_ | refine does_nil ?_ | refine does_seq ?_ | refine does_region ?_ | refine does_ret ?_)
  exact ⟨_, rfl, rfl⟩

theorem refa_yes_true (e v : Int) (h0 : 0 ≤ e) (h1 : e ≤ 255) : Does (runw ctx1 21 [.agg ⟨[.int .i64 e, .bool true, .int .u64 v]⟩] hp0) fun r => r.1 = .tuple ⟨[.string ⟨((refAn e true v).map b8).toArray⟩, .bool true]⟩ := by
  refine does_run (fi := g21) rfl rfl rfl rfl ?_
  have e0 : mkEnv g21.fn.ntmps [.agg ⟨[.int .i64 e, .bool true, .int .u64 v]⟩] = some (.agg ⟨[.int .i64 e, .bool true, .int .u64 v]⟩) :: [some undef, some undef, some undef, some undef, some undef, some undef, some undef, some undef, some undef, some undef, some undef, some undef, some undef, some undef, some undef, some undef, some undef, some undef, some undef, some undef, some undef, some undef, some undef, some undef] := by kernel_rfl
  rw [e0]
  repeat (refine does_seq ?_)
  refine does_region ?_
  refine does_opn rfl (by simp only [Ev.put, List.set_cons_succ, List.set_cons_zero]; rfl) ?_
  refine does_opn rfl (by simp only [Ev.put, List.set_cons_succ, List.set_cons_zero]; rfl) ?_
  refine does_opn rfl (by simp only [Ev.put, List.set_cons_succ, List.set_cons_zero]; rfl) ?_
  refine does_nil ?_
  repeat (refine does_seq ?_)
  refine does_region ?_
  refine does_opn rfl (by simp only [Ev.put, List.set_cons_succ, List.set_cons_zero]; rfl) ?_
  refine does_opn rfl (by simp only [Ev.put, List.set_cons_succ, List.set_cons_zero]; rfl) ?_
  refine does_opb (b := false) rfl (by simp; omega) (by simp only [Ev.put, List.set_cons_succ, List.set_cons_zero]; rfl) ?_
  refine does_opn rfl (by simp only [Ev.put, List.set_cons_succ, List.set_cons_zero]; rfl) ?_
  refine does_opn rfl (by simp only [Ev.put, List.set_cons_succ, List.set_cons_zero]; rfl) ?_
  refine does_opn rfl (by simp only [Ev.put, List.set_cons_succ, List.set_cons_zero]; rfl) ?_
  refine does_opb (b := false) rfl (by simp; omega) (by simp only [Ev.put, List.set_cons_succ, List.set_cons_zero]; rfl) ?_
  refine does_opn rfl (by simp only [Ev.put, List.set_cons_succ, List.set_cons_zero]; rfl) ?_
  refine does_nil ?_
  repeat (refine does_seq ?_)
  refine does_cond (b := false) rfl (fun h => absurd h (by simp)) (fun _ => ?_)
  refine does_skip ?_
  repeat (first | refine does_opn rfl (by simp only [Ev.put, List.set_cons_succ, List.set_cons_zero]; rfl) ?_ | refine does_nil ?_ | refine does_seq ?_ | refine does_region ?_ | refine does_ret ?_)
  refine does_cond (b := true) rfl (fun h => ?_) (fun h => absurd h (by simp))
  repeat (first | refine does_opn rfl (by simp only [Ev.put, List.set_cons_succ, List.set_cons_zero]; rfl) ?_ | refine does_nil ?_ | refine does_seq ?_ | refine does_region ?_ | refine does_ret ?_)
  skip
  repeat (first | refine does_opn rfl (by simp only [Ev.put, List.set_cons_succ, List.set_cons_zero]; rfl) ?_ | refine does_nil ?_ | refine does_seq ?_ | refine does_region ?_ | refine does_ret ?_)
  refine does_draw rfl ?_
  refine does_dop rfl rfl (by simp only [Ev.put, List.set_cons_succ, List.set_cons_zero]; rfl) ?_
  refine does_dop rfl rfl (by simp only [Ev.put, List.set_cons_succ, List.set_cons_zero]; rfl) ?_
  refine does_dop rfl rfl (by simp only [Ev.put, List.set_cons_succ, List.set_cons_zero]; rfl) ?_
  refine does_dop rfl rfl (by simp only [Ev.put, List.set_cons_succ, List.set_cons_zero]; rfl) ?_
  refine does_dop rfl rfl (by simp only [Ev.put, List.set_cons_succ, List.set_cons_zero]; rfl) ?_
  refine does_dopk (v := .string ⟨([e, 1].map b8).toArray⟩) rfl (by exact step_conv (x := .tmp 19) (b := 1) (n := 2) (cs := [e, 1].map w8) rfl rfl (by kernel_rfl) (by kernel_rfl) (bytesOf_w8 [e, 1])) (by simp only [Ev.put, List.set_cons_succ, List.set_cons_zero]; rfl) ?_
  refine does_dop rfl rfl (by simp only [Ev.put, List.set_cons_succ, List.set_cons_zero]; rfl) ?_
  refine does_dopk (v := .int .u64 v) rfl (by kernel_rfl) (by simp only [Ev.put, List.set_cons_succ, List.set_cons_zero]; rfl) ?_
  refine does_dopc (lp := loopw) rfl rfl rfl (word1 v _) (by simp only [Ev.put, List.set_cons_succ, List.set_cons_zero]; rfl) ?_
  refine does_dopk (v := .string ⟨((refAn e true v).map b8).toArray⟩) rfl (by kernel_rfl) (by simp only [Ev.put, List.set_cons_succ, List.set_cons_zero]; rfl) ?_
  refine does_dop rfl rfl (by simp only [Ev.put, List.set_cons_succ, List.set_cons_zero]; rfl) ?_
  refine does_dop rfl rfl (by simp only [Ev.put, List.set_cons_succ, List.set_cons_zero]; rfl) ?_
  refine does_dnil ⟨?_, ?_⟩
  · simp only [List.all_cons, List.all_nil, Bool.and_true, Bool.and_eq_true]
    refine ⟨?_, ?_, ?_, ?_, ?_, ?_, ?_, ?_, ?_, ?_, ?_, ?_⟩
    · exact stable_free (call := runw ctx1) (by kernel_rfl) rfl (by kernel_rfl) rfl
    · exact stable_last (call := runw ctx1) (by simp [phases]) (by kernel_rfl) (by kernel_rfl) rfl
    · exact stable_free (call := runw ctx1) (by kernel_rfl) rfl (by kernel_rfl) rfl
    · exact stable_free (call := runw ctx1) (by kernel_rfl) rfl (by kernel_rfl) rfl
    · exact stable_alloc rfl
    · exact stable_last (call := runw ctx1) (by simp [phases]) (by exact step_conv (x := .tmp 19) (b := 1) (n := 2) (cs := [e, 1].map w8) rfl rfl (by kernel_rfl) (by kernel_rfl) (bytesOf_w8 [e, 1])) (by kernel_rfl) rfl
    · exact stable_free (call := runw ctx1) (by kernel_rfl) rfl (by kernel_rfl) rfl
    · exact stable_last (call := runw ctx1) (by simp [phases]) (by kernel_rfl) (by kernel_rfl) rfl
    · exact stable_eff rfl
    · exact stable_free (call := runw ctx1) (by kernel_rfl) rfl (by kernel_rfl) rfl
    · exact stable_free (call := runw ctx1) (by kernel_rfl) rfl (by kernel_rfl) rfl
    · exact stable_free (call := runw ctx1) (by kernel_rfl) rfl (by kernel_rfl) rfl
  · exact does_ret ⟨_, rfl, rfl⟩

theorem refa_yes_false (e v : Int) (h0 : 0 ≤ e) (h1 : e ≤ 255) : Does (runw ctx1 21 [.agg ⟨[.int .i64 e, .bool false, .int .u64 v]⟩] hp0) fun r => r.1 = .tuple ⟨[.string ⟨((refAn e false v).map b8).toArray⟩, .bool true]⟩ := by
  refine does_run (fi := g21) rfl rfl rfl rfl ?_
  have e0 : mkEnv g21.fn.ntmps [.agg ⟨[.int .i64 e, .bool false, .int .u64 v]⟩] = some (.agg ⟨[.int .i64 e, .bool false, .int .u64 v]⟩) :: [some undef, some undef, some undef, some undef, some undef, some undef, some undef, some undef, some undef, some undef, some undef, some undef, some undef, some undef, some undef, some undef, some undef, some undef, some undef, some undef, some undef, some undef, some undef, some undef] := by kernel_rfl
  rw [e0]
  repeat (refine does_seq ?_)
  refine does_region ?_
  refine does_opn rfl (by simp only [Ev.put, List.set_cons_succ, List.set_cons_zero]; rfl) ?_
  refine does_opn rfl (by simp only [Ev.put, List.set_cons_succ, List.set_cons_zero]; rfl) ?_
  refine does_opn rfl (by simp only [Ev.put, List.set_cons_succ, List.set_cons_zero]; rfl) ?_
  refine does_nil ?_
  repeat (refine does_seq ?_)
  refine does_region ?_
  refine does_opn rfl (by simp only [Ev.put, List.set_cons_succ, List.set_cons_zero]; rfl) ?_
  refine does_opn rfl (by simp only [Ev.put, List.set_cons_succ, List.set_cons_zero]; rfl) ?_
  refine does_opb (b := false) rfl (by simp; omega) (by simp only [Ev.put, List.set_cons_succ, List.set_cons_zero]; rfl) ?_
  refine does_opn rfl (by simp only [Ev.put, List.set_cons_succ, List.set_cons_zero]; rfl) ?_
  refine does_opn rfl (by simp only [Ev.put, List.set_cons_succ, List.set_cons_zero]; rfl) ?_
  refine does_opn rfl (by simp only [Ev.put, List.set_cons_succ, List.set_cons_zero]; rfl) ?_
  refine does_opb (b := false) rfl (by simp; omega) (by simp only [Ev.put, List.set_cons_succ, List.set_cons_zero]; rfl) ?_
  refine does_opn rfl (by simp only [Ev.put, List.set_cons_succ, List.set_cons_zero]; rfl) ?_
  refine does_nil ?_
  repeat (refine does_seq ?_)
  refine does_cond (b := false) rfl (fun h => absurd h (by simp)) (fun _ => ?_)
  refine does_skip ?_
  repeat (first | refine does_opn rfl (by simp only [Ev.put, List.set_cons_succ, List.set_cons_zero]; rfl) ?_ | refine does_nil ?_ | refine does_seq ?_ | refine does_region ?_ | refine does_ret ?_)
  refine does_cond (b := false) rfl (fun h => absurd h (by simp)) (fun h => ?_)
  repeat (first | refine does_opn rfl (by simp only [Ev.put, List.set_cons_succ, List.set_cons_zero]; rfl) ?_ | refine does_nil ?_ | refine does_seq ?_ | refine does_region ?_ | refine does_ret ?_)
  refine does_skip ?_
  repeat (first | refine does_opn rfl (by simp only [Ev.put, List.set_cons_succ, List.set_cons_zero]; rfl) ?_ | refine does_nil ?_ | refine does_seq ?_ | refine does_region ?_ | refine does_ret ?_)
  refine does_draw rfl ?_
  refine does_dop rfl rfl (by simp only [Ev.put, List.set_cons_succ, List.set_cons_zero]; rfl) ?_
  refine does_dop rfl rfl (by simp only [Ev.put, List.set_cons_succ, List.set_cons_zero]; rfl) ?_
  refine does_dop rfl rfl (by simp only [Ev.put, List.set_cons_succ, List.set_cons_zero]; rfl) ?_
  refine does_dop rfl rfl (by simp only [Ev.put, List.set_cons_succ, List.set_cons_zero]; rfl) ?_
  refine does_dop rfl rfl (by simp only [Ev.put, List.set_cons_succ, List.set_cons_zero]; rfl) ?_
  refine does_dopk (v := .string ⟨([e, 0].map b8).toArray⟩) rfl (by exact step_conv (x := .tmp 19) (b := 1) (n := 2) (cs := [e, 0].map w8) rfl rfl (by kernel_rfl) (by kernel_rfl) (bytesOf_w8 [e, 0])) (by simp only [Ev.put, List.set_cons_succ, List.set_cons_zero]; rfl) ?_
  refine does_dop rfl rfl (by simp only [Ev.put, List.set_cons_succ, List.set_cons_zero]; rfl) ?_
  refine does_dopk (v := .int .u64 v) rfl (by kernel_rfl) (by simp only [Ev.put, List.set_cons_succ, List.set_cons_zero]; rfl) ?_
  refine does_dopc (lp := loopw) rfl rfl rfl (word1 v _) (by simp only [Ev.put, List.set_cons_succ, List.set_cons_zero]; rfl) ?_
  refine does_dopk (v := .string ⟨((refAn e false v).map b8).toArray⟩) rfl (by kernel_rfl) (by simp only [Ev.put, List.set_cons_succ, List.set_cons_zero]; rfl) ?_
  refine does_dop rfl rfl (by simp only [Ev.put, List.set_cons_succ, List.set_cons_zero]; rfl) ?_
  refine does_dop rfl rfl (by simp only [Ev.put, List.set_cons_succ, List.set_cons_zero]; rfl) ?_
  refine does_dnil ⟨?_, ?_⟩
  · simp only [List.all_cons, List.all_nil, Bool.and_true, Bool.and_eq_true]
    refine ⟨?_, ?_, ?_, ?_, ?_, ?_, ?_, ?_, ?_, ?_, ?_, ?_⟩
    · exact stable_free (call := runw ctx1) (by kernel_rfl) rfl (by kernel_rfl) rfl
    · exact stable_last (call := runw ctx1) (by simp [phases]) (by kernel_rfl) (by kernel_rfl) rfl
    · exact stable_free (call := runw ctx1) (by kernel_rfl) rfl (by kernel_rfl) rfl
    · exact stable_free (call := runw ctx1) (by kernel_rfl) rfl (by kernel_rfl) rfl
    · exact stable_alloc rfl
    · exact stable_last (call := runw ctx1) (by simp [phases]) (by exact step_conv (x := .tmp 19) (b := 1) (n := 2) (cs := [e, 0].map w8) rfl rfl (by kernel_rfl) (by kernel_rfl) (bytesOf_w8 [e, 0])) (by kernel_rfl) rfl
    · exact stable_free (call := runw ctx1) (by kernel_rfl) rfl (by kernel_rfl) rfl
    · exact stable_last (call := runw ctx1) (by simp [phases]) (by kernel_rfl) (by kernel_rfl) rfl
    · exact stable_eff rfl
    · exact stable_free (call := runw ctx1) (by kernel_rfl) rfl (by kernel_rfl) rfl
    · exact stable_free (call := runw ctx1) (by kernel_rfl) rfl (by kernel_rfl) rfl
    · exact stable_free (call := runw ctx1) (by kernel_rfl) rfl (by kernel_rfl) rfl
  · exact does_ret ⟨_, rfl, rfl⟩

end Go.Proofs.YtiiabmpobgoajaaGreat
