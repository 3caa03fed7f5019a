/- Part of the proof: Q2. -/
import Derived.Test.YtiiabmpobgoajaaGreatQ1
set_option linter.all false
namespace Go.Proofs.YtiiabmpobgoajaaGreat
open Go Go.Ev Tab
set_option maxRecDepth 10000
attribute [local irreducible] runw loopw

/-- The tables with three calls summed up. -/
noncomputable def ctx1 : Ctx := withFlat ctx [15, 106, 107]

section
variable {C : Ctx} {call : Fun} {ops : Array Oper} {hs : List AHeap} {e : Ent}
def allStep (C : Ctx) (call : Fun) (ops : Array Oper) (e : Ent) : List AHeap → Prop
  | [] => True
  | H :: l => (∃ H1, stepV C call ops e.o e.ρ H = some (e.v, H1)) ∧ allStep C call ops e l

theorem allStep_mem : ∀ {l : List AHeap}, allStep C call ops e l → ∀ H ∈ l, ∃ H1, stepV C call ops e.o e.ρ H = some (e.v, H1)
  | [], _, H, h => by simp at h
  | H0 :: l, h, H, hm => by
    rcases List.mem_cons.1 hm with rfl | hm
    · exact h.1
    · exact allStep_mem h.2 H hm

theorem stable_of (call : Fun) {lo hi : Nat} {l : List AHeap} (hc : e.c = .read lo hi) (hk : opKeep C e.o = true) (hv : vOk e.v = true) (hw : (hs.drop lo).take (hi + 1 - lo) = l) (h : allStep C call ops e l) : stable C ops hs e = true := by
  unfold stable
  rw [hc]
  simp only
  rw [hw, List.all_eq_true]
  intro H hm
  obtain ⟨H1, h1⟩ := allStep_mem h H hm
  exact readAt_of h1 hk hv

theorem stable_eff (hc : e.c = .eff) : stable C ops hs e = true := by unfold stable; rw [hc]
theorem stable_alloc (hc : e.c = .alloc) : stable C ops hs e = true := by unfold stable; rw [hc]

theorem does_dopc {lp : Lp} {i : Nat} {c : Cls} {is : List (Nat × Cls)} {o : Oper} {ρ ρ1 : Env} {H H1 : AHeap} {Q : List Ent × Env × AHeap → Prop} {f : FuncId} {args : List Value} {v : Value} (_ : lp = lp) (ho : ops.toList[i]? = some o) (e : stepV C call ops o ρ H = call f args H)
    (hc : call f args H = some (v, H1)) (hp : put ρ o.dst v = ρ1) (h : Does (drRun C call ops is ρ1 H1) fun d => Q (⟨i, o, c, ρ, H, v, H1⟩ :: d.1, d.2)) : Does (drRun C call ops ((i, c) :: is) ρ H) Q :=
  does_dop ho (e.trans hc) hp h
end

theorem does_dopk {C : Ctx} {call : Fun} {ops : Array Oper} {i : Nat} {c : Cls} {is : List (Nat × Cls)} {o : Oper} {ρ ρ1 : Env} {H : AHeap} {Q : List Ent × Env × AHeap → Prop} {v : Value} (ho : ops.toList[i]? = some o) (e : stepV C call ops o ρ H = some (v, H))
    (hp : put ρ o.dst v = ρ1) (h : Does (drRun C call ops is ρ1 H) fun d => Q (⟨i, o, c, ρ, H, v, H⟩ :: d.1, d.2)) : Does (drRun C call ops ((i, c) :: is) ρ H) Q := does_dop ho e hp h

theorem get8 (c0 c1 c2 c3 c4 c5 c6 c7 : UInt8) (H : AHeap) : runw ctx1 106 [.string ⟨#[c0, c1, c2, c3, c4, c5, c6, c7]⟩] H = some (.int .u64 (get64 [c0, c1, c2, c3, c4, c5, c6, c7]), H) := by
  obtain ⟨r, e, rfl⟩ := runw_flat' (C := ctx1) (f := 106) (H := H) (Q := fun r => r = (.int .u64 (get64 [c0, c1, c2, c3, c4, c5, c6, c7]), H)) rfl rfl ((get_8 c0 c1 c2 c3 c4 c5 c6 c7).mono fun r hr => by rw [hr]; exact ⟨rfl, rfl⟩)
  exact e
theorem get9 (c0 c1 c2 c3 c4 c5 c6 c7 c8 : UInt8) (H : AHeap) : runw ctx1 106 [.string ⟨#[c0, c1, c2, c3, c4, c5, c6, c7, c8]⟩] H = some (.int .u64 (get64 [c0, c1, c2, c3, c4, c5, c6, c7]), H) := by
  obtain ⟨r, e, rfl⟩ := runw_flat' (C := ctx1) (f := 106) (H := H) (Q := fun r => r = (.int .u64 (get64 [c0, c1, c2, c3, c4, c5, c6, c7]), H)) rfl rfl ((get_9 c0 c1 c2 c3 c4 c5 c6 c7 c8).mono fun r hr => by rw [hr]; exact ⟨rfl, rfl⟩)
  exact e
theorem get17 (c0 c1 c2 c3 c4 c5 c6 c7 c8 c9 c10 c11 c12 c13 c14 c15 c16 : UInt8) (H : AHeap) : runw ctx1 106 [.string ⟨#[c0, c1, c2, c3, c4, c5, c6, c7, c8, c9, c10, c11, c12, c13, c14, c15, c16]⟩] H = some (.int .u64 (get64 [c0, c1, c2, c3, c4, c5, c6, c7]), H) := by
  obtain ⟨r, e, rfl⟩ := runw_flat' (C := ctx1) (f := 106) (H := H) (Q := fun r => r = (.int .u64 (get64 [c0, c1, c2, c3, c4, c5, c6, c7]), H)) rfl rfl ((get_17 c0 c1 c2 c3 c4 c5 c6 c7 c8 c9 c10 c11 c12 c13 c14 c15 c16).mono fun r hr => by rw [hr]; exact ⟨rfl, rfl⟩)
  exact e
theorem word1 (w : Int) (H : AHeap) : runw ctx1 107 [.int .u64 w] H = some (.string ⟨((refInts w).map b8).toArray⟩, H) := by
  obtain ⟨r, e, rfl⟩ := runw_flat' (C := ctx1) (f := 107) (H := H) (Q := fun r => r = (.string ⟨((refInts w).map b8).toArray⟩, H)) rfl rfl ((word_hp0 w).mono fun r hr => by rw [hr]; exact ⟨rfl, rfl⟩)
  exact e

theorem parse_yes (c0 c1 c2 c3 c4 c5 c6 c7 c8 c9 c10 c11 c12 c13 c14 c15 c16 c17 : UInt8) :
    Does (runw ctx1 17 [.string ⟨#[c0, c1, c2, c3, c4, c5, c6, c7, c8, c9, c10, c11, c12, c13, c14, c15, c16, c17]⟩] hp0) fun r =>
      r.1 = .tuple ⟨[.agg ⟨[.int .i64 (IntKind.i64.wrap c0.toNat), .int .u64 (get64 [c1, c2, c3, c4, c5, c6, c7, c8]), .int .u64 (get64 [c9, c10, c11, c12, c13, c14, c15, c16]), .int .i64 (IntKind.i64.wrap c17.toNat)]⟩, .int .i64 0]⟩ := by
  refine does_run (fi := g17) rfl rfl rfl rfl ?_
  have e0 : mkEnv g17.fn.ntmps [.string ⟨#[c0, c1, c2, c3, c4, c5, c6, c7, c8, c9, c10, c11, c12, c13, c14, c15, c16, c17]⟩] = some (.string ⟨#[c0, c1, c2, c3, c4, c5, c6, c7, c8, c9, c10, c11, c12, c13, c14, c15, c16, c17]⟩) :: [some undef, some undef, some undef, some undef, some undef, some undef, some undef, some undef, some undef, some undef, some undef, some undef, some undef, some undef, some undef, some undef, some undef, some undef, some undef, some undef] := by kernel_rfl
  rw [e0]
  repeat (first | refine does_opn rfl (by simp only [Ev.put, List.set_cons_succ, List.set_cons_zero]; rfl) ?_ | refine does_nil ?_ | refine does_seq ?_ | refine does_region ?_)
  refine does_cond (b := false) rfl (fun h => absurd h (by simp)) (fun _ => ?_)
  refine does_skip ?_
  refine does_seq ?_
  refine does_draw rfl ?_
  iterate 4 (refine does_dop rfl rfl (by simp only [Ev.put, List.set_cons_succ, List.set_cons_zero]; rfl) ?_)
  refine does_dopk (v := .string ⟨#[c1, c2, c3, c4, c5, c6, c7, c8, c9, c10, c11, c12, c13, c14, c15, c16, c17]⟩) rfl (by kernel_rfl) (by simp only [Ev.put, List.set_cons_succ, List.set_cons_zero]; rfl) ?_
  refine does_dopc (lp := loopw) rfl rfl rfl (get17 c1 c2 c3 c4 c5 c6 c7 c8 c9 c10 c11 c12 c13 c14 c15 c16 c17 _) (by simp only [Ev.put, List.set_cons_succ, List.set_cons_zero]; rfl) ?_
  refine does_dop rfl rfl (by simp only [Ev.put, List.set_cons_succ, List.set_cons_zero]; rfl) ?_
  refine does_dopk (v := .string ⟨#[c9, c10, c11, c12, c13, c14, c15, c16, c17]⟩) rfl (by kernel_rfl) (by simp only [Ev.put, List.set_cons_succ, List.set_cons_zero]; rfl) ?_
  refine does_dopc (lp := loopw) rfl rfl rfl (get9 c9 c10 c11 c12 c13 c14 c15 c16 c17 _) (by simp only [Ev.put, List.set_cons_succ, List.set_cons_zero]; rfl) ?_
  repeat (refine does_dop rfl rfl (by simp only [Ev.put, List.set_cons_succ, List.set_cons_zero]; rfl) ?_)
  refine does_dnil ⟨?_, ?_⟩
  · simp only [List.all_cons, List.all_nil, Bool.and_true, Bool.and_eq_true]
    refine ⟨?_, ?_, ?_, ?_, ?_, ?_, ?_, ?_, ?_, ?_, ?_, ?_, ?_, ?_, ?_⟩
    all_goals first | exact stable_eff rfl | exact stable_alloc rfl | exact stable_free (call := runw ctx1) (by kernel_rfl) rfl (by kernel_rfl) rfl
  · exact does_ret ⟨_, rfl, rfl⟩
end Go.Proofs.YtiiabmpobgoajaaGreat
