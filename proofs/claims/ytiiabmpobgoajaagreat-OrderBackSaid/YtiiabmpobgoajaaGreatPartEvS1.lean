/- Walking through code with unknowns in it: what comes out, and what is so then. -/
import Derived.Test.YtiiabmpobgoajaaGreatPartEvV
import GoSem.ClaimChange
import Derived.ProofKit
import Derived.OpenShut
import Derived.Carry
set_option linter.all false
namespace Go.Ev
open Go Go.RowKit

/-- It comes to something, of which this is so. -/
def Does {α : Type} (x : Option α) (Q : α → Prop) : Prop := ∃ r, x = some r ∧ Q r

namespace Does
variable {α β : Type}
theorem some {r : α} {Q : α → Prop} (h : Q r) : Does (Option.some r) Q := ⟨r, rfl, h⟩
theorem of {x : Option α} {r : α} {Q : α → Prop} (e : x = Option.some r) (h : Q r) : Does x Q := ⟨r, e, h⟩
theorem mono {x : Option α} {Q R : α → Prop} (h : Does x Q) (k : ∀ r, Q r → R r) : Does x R := let ⟨r, e, q⟩ := h; ⟨r, e, k r q⟩
theorem bind {x : Option α} {f : α → Option β} {Q : β → Prop} (h : Does x fun a => Does (f a) Q) : Does (x.bind f) Q := by
  obtain ⟨a, e, b, e2, q⟩ := h
  exact ⟨b, by rw [e]; exact e2, q⟩
theorem map {x : Option α} {f : α → β} {Q : β → Prop} (h : Does x fun a => Q (f a)) : Does (x.map f) Q := by
  obtain ⟨a, e, q⟩ := h
  exact ⟨f a, by rw [e]; rfl, q⟩
theorem congr {x y : Option α} {Q : α → Prop} (e : x = y) (h : Does y Q) : Does x Q := by rw [e]; exact h
end Does

section
variable {C : Ctx} {call : Fun} {lp : Lp} {dr : List (Nat × List (Nat × Cls))} {ops : Array Oper} {ρ : Env} {H : AHeap}

/-- Behind a function's text. -/
def Fin (C : Ctx) (fn : Func) (Q : Value × AHeap → Prop) : Ex × Env × AHeap → Prop
  | (.exit _, _, _) => False
  | (_, ρ, H) => Does (resV C fn ρ H) fun v => Q (v, H)

theorem does_run {f : FuncId} {fi : FI} {c : Code} {args : List Value} {Q : Value × AHeap → Prop} (hs : C.sum f = none) (hc : C.same.contains f = false) (hf : C.fn.get f = some fi) (hb : fi.fn.body = some c)
    (h : Does (evCode C fi.draws (runw C) loopw c (mkEnv fi.fn.ntmps args) H) (Fin C fi.fn Q)) : Does (runw C f args H) Q := by
  obtain ⟨⟨x, ρ, H'⟩, e, q⟩ := h
  have key : (resV C fi.fn ρ H').map (fun v => (v, H')) = body C (runw C) loopw fi args H ∧ Does (resV C fi.fn ρ H') fun v => Q (v, H') := by
    unfold body
    simp only [hb, e, Option.bind_some]
    cases x with
    | exit i => exact absurd q (by simp [Fin])
    | normal => exact ⟨rfl, q⟩
    | ret => exact ⟨rfl, q⟩
  obtain ⟨k1, v, k2, k3⟩ := key
  refine ⟨(v, H'), runw_body hs hc hf ?_, k3⟩
  rw [← k1, k2]; rfl

/-- What comes behind a piece of code. -/
def Then (C : Ctx) (dr : List (Nat × List (Nat × Cls))) (call : Fun) (lp : Lp) (b : Code) (Q : Ex × Env × AHeap → Prop) : Ex × Env × AHeap → Prop
  | (.normal, ρ, H) => Does (evCode C dr call lp b ρ H) Q
  | r => Q r

theorem does_seq {a b : Code} {Q : Ex × Env × AHeap → Prop} (h : Does (evCode C dr call lp a ρ H) (Then C dr call lp b Q)) : Does (evCode C dr call lp (.seq a b) ρ H) Q := by
  obtain ⟨⟨x, ρ', H'⟩, e, q⟩ := h
  refine Does.bind ⟨_, e, ?_⟩
  cases x with
  | normal => exact q
  | exit i => exact ⟨_, rfl, q⟩
  | ret => exact ⟨_, rfl, q⟩

theorem does_skip {Q : Ex × Env × AHeap → Prop} (h : Q (.normal, ρ, H)) : Does (evCode C dr call lp .skip ρ H) Q := ⟨_, rfl, h⟩
theorem does_ret {Q : Ex × Env × AHeap → Prop} (h : Q (.ret, ρ, H)) : Does (evCode C dr call lp .ret ρ H) Q := ⟨_, rfl, h⟩
theorem does_exit {i : Nat} {Q : Ex × Env × AHeap → Prop} (h : Q (.exit i, ρ, H)) : Does (evCode C dr call lp (.exit i) ρ H) Q := ⟨_, rfl, h⟩

theorem does_cond {c : Operand} {x y : Code} {b : Bool} {Q : Ex × Env × AHeap → Prop} (hc : look ρ c = some (.bool b)) (h1 : b = true → Does (evCode C dr call lp x ρ H) Q) (h2 : b = false → Does (evCode C dr call lp y ρ H) Q) :
    Does (evCode C dr call lp (.cond c x y) ρ H) Q := by
  cases b with
  | true => exact Does.bind ⟨_, hc, h1 rfl⟩
  | false => exact Does.bind ⟨_, hc, h2 rfl⟩

/-- Behind a block. -/
def Out (i : Nat) (Q : Ex × Env × AHeap → Prop) : Ex × Env × AHeap → Prop
  | (.exit j, ρ, H) => cond (j.beq i) (Q (.normal, ρ, H)) (Q (.exit j, ρ, H))
  | r => Q r

theorem does_block {i : Nat} {b : Code} {Q : Ex × Env × AHeap → Prop} (h : Does (evCode C dr call lp b ρ H) (Out i Q)) : Does (evCode C dr call lp (.block i b) ρ H) Q := by
  obtain ⟨⟨x, ρ', H'⟩, e, q⟩ := h
  refine Does.map ⟨_, e, ?_⟩
  cases x with
  | normal => exact q
  | ret => exact q
  | exit j =>
    simp only [Out] at q
    cases hb : j.beq i <;> rw [hb] at q <;> simp only [hb, cond_true, cond_false] <;> exact q

/-- Behind one round. -/
def Round (g : Env → AHeap → Option (Ex × Env × AHeap)) (Q : Ex × Env × AHeap → Prop) : Ex × Env × AHeap → Prop
  | (.normal, ρ, H) => Does (loopw g ρ H) Q
  | r => Q r

theorem does_loopw {g : Env → AHeap → Option (Ex × Env × AHeap)} {Q : Ex × Env × AHeap → Prop} (h : Does (g ρ H) (Round g Q)) : Does (loopw g ρ H) Q := by
  obtain ⟨⟨x, ρ', H'⟩, e, q⟩ := h
  rw [loopw_eq]
  refine Does.bind ⟨_, e, ?_⟩
  cases x with
  | normal => exact q
  | exit i => exact ⟨_, rfl, q⟩
  | ret => exact ⟨_, rfl, q⟩

theorem does_loop {b : Code} {Q : Ex × Env × AHeap → Prop} (h : Does (loopw (evCode C dr call loopw b) ρ H) Q) : Does (evCode C dr call loopw (.loop b) ρ H) Q := h

/-- A loop, by what holds ahead of each round, and a measure. -/
theorem does_rounds {g : Env → AHeap → Option (Ex × Env × AHeap)} {Q : Ex × Env × AHeap → Prop} (I : Nat → Env → AHeap → Prop)
    (round : ∀ n ρ H, I n ρ H → Does (g ρ H) fun | (.normal, ρ', H') => ∃ m, m < n ∧ I m ρ' H' | r => Q r) : ∀ n ρ H, I n ρ H → Does (loopw g ρ H) Q := by
  intro n
  induction n using Nat.strongRecOn with
  | _ n ih =>
    intro ρ H hI
    refine does_loopw (Does.mono (round n ρ H hI) fun r hr => ?_)
    obtain ⟨x, ρ', H'⟩ := r
    cases x with
    | normal => obtain ⟨m, hm, hI'⟩ := hr; exact ih m hm ρ' H' hI'
    | exit i => exact hr
    | ret => exact hr

/-- Behind a region's operations. -/
def Norm (Q : Ex × Env × AHeap → Prop) : Env × AHeap → Prop := fun r => Q (.normal, r.1, r.2)

theorem does_region {id : Nat} {Q : Ex × Env × AHeap → Prop} (h : Does (evOps C call ops ops.toList ρ H) (Norm Q)) : Does (evCode C dr call lp (.region id ops false) ρ H) Q := Does.map h

theorem does_nil {Q : Env × AHeap → Prop} (h : Q (ρ, H)) : Does (evOps C call ops [] ρ H) Q := ⟨_, rfl, h⟩
theorem does_op {o : Oper} {os : List Oper} {Q : Env × AHeap → Prop} (h : Does (stepV C call ops o ρ H) fun r => Does (evOps C call ops os (put ρ o.dst r.1) r.2) Q) : Does (evOps C call ops (o :: os) ρ H) Q := Does.bind h

theorem step_val {o : Oper} {Q : Value × AHeap → Prop} {v : Value} {H' : AHeap} (e : stepV C call ops o ρ H = some (v, H')) (h : Q (v, H')) : Does (stepV C call ops o ρ H) Q := ⟨_, e, h⟩
theorem step_call {o : Oper} {Q : Value × AHeap → Prop} {f : FuncId} {args : List Value} (e : stepV C call ops o ρ H = call f args H) (h : Does (call f args H) Q) : Does (stepV C call ops o ρ H) Q := by rw [e]; exact h
end
end Go.Ev

namespace Go.Ev
open Go Go.RowKit

def flatV : Value → Bool
  | .tuple cs => cs.toList.all plain
  | v => plain v

theorem atom_eq {μ : Mu} {v v' : Value} (h : atom v = true) (r : VRel μ v v') : v' = v := by
  cases r <;> first | rfl | (simp [atom] at h)

theorem atoms_eq {μ : Mu} : ∀ {l l' : List Value}, l.all atom = true → VRelL μ l l' → l' = l
  | [], _, _, r => r.nil_right
  | v :: l, _, h, r => by
    obtain ⟨v', l'', rfl, r1, r2⟩ := r.cons_right
    simp only [List.all_cons, Bool.and_eq_true] at h
    rw [atom_eq h.1 r1, atoms_eq h.2 r2]

theorem plain_eq {μ : Mu} {v v' : Value} (h : plain v = true) (r : VRel μ v v') : v' = v := by
  cases v with
  | agg c =>
    obtain ⟨c', rfl, r2⟩ := r.agg_inv
    have := atoms_eq (by simpa [plain] using h) r2
    cases c; cases c'; simp at this; subst this; rfl
  | _ => exact atom_eq (by simpa [plain] using h) r

theorem plains_eq {μ : Mu} : ∀ {l l' : List Value}, l.all plain = true → VRelL μ l l' → l' = l
  | [], _, _, r => r.nil_right
  | v :: l, _, h, r => by
    obtain ⟨v', l'', rfl, r1, r2⟩ := r.cons_right
    simp only [List.all_cons, Bool.and_eq_true] at h
    rw [plain_eq h.1 r1, plains_eq h.2 r2]

theorem plains_refl {μ : Mu} : ∀ {l : List Value}, l.all plain = true → VRelL μ l l
  | [], _ => .nil
  | v :: l, h => by
    simp only [List.all_cons, Bool.and_eq_true] at h
    exact .cons (plain_refl h.1) (plains_refl h.2)

theorem flat_eq {μ : Mu} {v v' : Value} (h : flatV v = true) (r : VRel μ v v') : v' = v := by
  cases v with
  | tuple c =>
    obtain ⟨c', rfl, r2⟩ := r.tuple_inv
    have := plains_eq (by simpa [flatV] using h) r2
    cases c; cases c'; simp at this; subst this; rfl
  | _ => exact plain_eq (by simpa [flatV] using h) r

theorem flat_refl {μ : Mu} {v : Value} (h : flatV v = true) : VRel μ v v := by
  cases v with
  | tuple c => obtain ⟨c⟩ := c; exact .tuple' (plains_refl (by simpa [flatV] using h))
  | _ => exact plain_refl (by simpa [flatV] using h)

def hp0 : AHeap := ⟨0, .nil⟩

theorem hp0_get (b : Nat) : hp0.get b = none := AHeap.get_ge _ _ (Nat.zero_le _)

theorem WRel.empty (w : World) {B : Nat} (h : B ≤ w.heap.size) : WRel (fun _ => none) B hp0 w :=
  ⟨fun _ _ => rfl, fun b o r n hb => by (rw [hp0_get] at hb; cases hb), fun b b' o o' r n n' hb => by (rw [hp0_get] at hb; cases hb), h⟩

/-- A call seen from outside: nothing of the caller's heap is touched. -/
noncomputable def flatw (C : Ctx) (f : FuncId) : List Value → AHeap → Option (Value × AHeap) := fun args H =>
  cond (args.all plain) ((runw C f args hp0).bind fun r => cond (flatV r.1) (some (r.1, H)) none) none

theorem flatw_sound {P : Program} {C : Ctx} (hC : Good P C) {f : FuncId} (hs : C.same.contains f = false) :
    ∀ args H v H', flatw C f args H = some (v, H') → ∀ B μ w args', WRel μ B H w → VRelL μ args args' →
    Calls P f ⟨args'⟩ w fun e w' => ∃ μ' v', e = .returned v' ∧ VRel μ' v v' ∧ Went B μ H w μ' H' w' := by
  intro args H v H' h B μ w args' hW ha
  unfold flatw at h
  cases hp : args.all plain with
  | false => rw [hp] at h; cases h
  | true =>
    rw [hp, cond_true] at h
    obtain ⟨⟨u, h'⟩, h1, h2⟩ := Option.bind_eq_some_iff.1 h
    cases hf : flatV u with
    | false => simp only [hf, cond_false] at h2; cases h2
    | true =>
      simp only [hf, cond_true, Option.some.injEq, Prod.mk.injEq] at h2
      obtain ⟨rfl, rfl⟩ := h2
      rw [plains_eq hp ha]
      refine Calls.mono ((runw_sound hC f args hp0 u h' h1).2 hs w.heap.size (fun _ => none) w args (WRel.empty w (Nat.le_refl _)) (plains_refl hp)) fun e w' he => ?_
      obtain ⟨μ', v', rfl, r1, r2⟩ := he
      rw [flat_eq hf r1]
      refine ⟨μ, u, rfl, flat_refl hf, ⟨⟨hW.dom, fun b o r n hb hm => ?_, hW.inj, Nat.le_trans hW.base r2.below.size⟩, .refl _ _, r2.below.mono hW.base⟩⟩
      have := hW.obj b o r n hb hm
      exact this.of_heap (r2.below.block r this.there)

/-- Tables with flat calls summed up. -/
noncomputable def withFlat (C : Ctx) (l : List FuncId) : Ctx := { C with sum := fun f => cond (l.contains f) (some (flatw C f)) (C.sum f) }

theorem withFlat_keep (C : Ctx) (l : List FuncId) (o : Oper) : opKeep (withFlat C l) o = opKeep C o := rfl
theorem withFlat_okDraw (C : Ctx) (l : List FuncId) (ops : Array Oper) (items : List (Nat × Cls)) : okDraw (withFlat C l) ops items = okDraw C ops items := by
  have : ∀ (b E : List Nat) (is : List (Nat × Cls)) (seen : List Nat), okCls (withFlat C l) ops b E is seen = okCls C ops b E is seen := by
    intro b E is
    induction is with
    | nil => intro seen; rfl
    | cons p is ih =>
      intro seen
      obtain ⟨i, c⟩ := p
      simp only [okCls, ih]
      rfl
  unfold okDraw
  simp only [this]
theorem withFlat_okCode (C : Ctx) (l : List FuncId) (dr : List (Nat × List (Nat × Cls))) : ∀ c : Code, okCode (withFlat C l) dr c = okCode C dr c := by
  intro c
  induction c with
  | region id ops dw => cases dw <;> simp only [okCode, withFlat_okDraw]
  | seq a b ia ib => simp only [okCode, ia, ib]
  | cond x a b ia ib => simp only [okCode, ia, ib]
  | block i b ib => simp only [okCode, ib]
  | loop b ib => simp only [okCode, ib]
  | _ => rfl

theorem Good.flat {P : Program} {C : Ctx} (hC : Good P C) (l : List FuncId) (hl : l.all (fun f => !C.same.contains f) = true) : Good P (withFlat C l) := by
  refine ⟨⟨hC.base.ty, hC.base.fn, hC.base.meth, hC.base.eqs, hC.base.same⟩, hC.mixed, fun f fi h => ?_, fun f s h => ?_⟩
  · have := hC.fns f fi h
    unfold okFn at this ⊢
    split at this
    · simp only [withFlat_okCode]; exact this
    · rfl
  · unfold withFlat at h
    simp only at h
    cases hc : l.contains f with
    | false => rw [hc, cond_false] at h; exact hC.sum f s h
    | true =>
      rw [hc, cond_true] at h
      have hs : C.same.contains f = false := by
        rw [List.all_eq_true] at hl
        have := hl f (by simpa using hc)
        simpa using this
      rw [← Option.some.inj h]
      exact ⟨hs, flatw_sound hC hs⟩

theorem runw_flat {C : Ctx} {l : List FuncId} {f : FuncId} (hl : l.contains f = true) {args : List Value} {H : AHeap} {Q : Value × AHeap → Prop} (hp : args.all plain = true)
    (h : Does (runw C f args hp0) fun r => flatV r.1 = true ∧ Q (r.1, H)) : Does (runw (withFlat C l) f args H) Q := by
  obtain ⟨⟨v, H'⟩, e, q1, q2⟩ := h
  refine ⟨(v, H), runw_sum (s := flatw C f) (by unfold withFlat; simp only [hl, cond_true]) ?_, q2⟩
  unfold flatw
  rw [hp, cond_true, e]
  simp only [Option.bind_some, q1, cond_true]

end Go.Ev

namespace Go.Ev
open Go Go.RowKit

/-- Cells of these leaves, each fitting its kind. -/
def leafWf : List Leaf → List Value → Prop
  | [], [] => True
  | .bool :: ls, .bool _ :: vs => leafWf ls vs
  | .int k :: ls, .int j n :: vs => j = k ∧ (Lit.int k n).wf = true ∧ leafWf ls vs
  | .str :: ls, .string s :: vs => s.size ≤ maxLen ∧ leafWf ls vs
  | _, _ => False

theorem leafWf_append {l2 : List Leaf} {b : List Value} (k : leafWf l2 b) : ∀ {l1 : List Leaf} {a : List Value}, leafWf l1 a → leafWf (l1 ++ l2) (a ++ b) := by
  intro l1
  induction l1 with
  | nil => intro a h; cases a with
    | nil => exact k
    | cons _ _ => simp [leafWf] at h
  | cons l l1 ih =>
    intro a h
    cases a with
    | nil => cases l <;> simp [leafWf] at h
    | cons v a =>
      cases l with
      | bool => cases v <;> first | exact ih h | exact absurd h (by simp [leafWf])
      | int kk => cases v <;> first | exact ⟨h.1, h.2.1, ih h.2.2⟩ | exact absurd h (by simp [leafWf])
      | str => cases v <;> first | exact ⟨h.1, ih h.2⟩ | exact absurd h (by simp [leafWf])

section
variable {H : Type} {enc : TypeId × Value → H} {P : Program} {w : World} {base : Nat} {sp : Nat → Bool} {held : Bool}

theorem trod_leaf : ∀ (n : Nat) (t : TypeId) (ls : List Leaf), leavesP P n t = some ls → P.cellsOf t = ls.length → ∀ (fuel : Nat) (cs : List Value) (x : DataW H × List MemPlace),
    DataW.trod enc P w base sp held fuel t cs = some x → leafWf ls cs ∧ x.2 = [] := by
  intro n
  induction n with
  | zero => intro t ls h; simp [leavesP] at h
  | succ n ih =>
    intro t ls h hlen fuel cs x hx
    cases fuel with
    | zero => simp [DataW.trod] at hx
    | succ fuel =>
      unfold leavesP at h
      unfold DataW.trod at hx
      split at h
      · rename_i hu
        rw [hu] at hx
        cases h
        split at hx <;> simp_all [leafWf]
        rw [← hx]
      · rename_i k hu
        rw [hu] at hx
        cases h
        split at hx <;> simp_all [leafWf]
        rw [← hx.2]
      · rename_i hu
        rw [hu] at hx
        cases h
        split at hx <;> simp_all [leafWf]
        rw [← hx.2]
      · rename_i fs hu
        cases hs : P.stoodInHeld t with
        | true => rw [hs] at h; cases h
        | false =>
          rw [hs, cond_false] at h
          rw [hu] at hx
          have hx' : (if cs.length = P.cellsOf t then (fs.toList.mapM fun f => DataW.trod enc P w base sp held fuel f.type ((cs.drop f.offset).take (P.cellsOf f.type))).map fun xs => ((.agg (xs.map (·.1)) : DataW H), xs.flatMap (·.2)) else none) = some x := by
            split at hx <;> first | exact hx | simp_all
          split at hx'
          · rename_i hcl
            obtain ⟨xs, hxs, rfl⟩ := Option.map_eq_some_iff.1 hx'
            have key : ∀ (gs : List Field) (off : Nat) (ms : List Leaf) (ys : List (DataW H × List MemPlace)), leavesF (leavesP P n) P gs off = some ms →
                gs.mapM (fun f => DataW.trod enc P w base sp held fuel f.type ((cs.drop f.offset).take (P.cellsOf f.type))) = some ys →
                leafWf ms ((cs.drop off).take ms.length) ∧ ys.flatMap (·.2) = [] := by
              intro gs
              induction gs with
              | nil =>
                intro off ms ys hm hy
                simp only [leavesF, Option.some.injEq] at hm
                subst hm
                simp only [List.mapM_nil, Option.pure_def, Option.some.injEq] at hy
                subst hy
                exact ⟨trivial, rfl⟩
              | cons f gs ihg =>
                intro off ms ys hm hy
                simp only [leavesF] at hm
                cases hcnd : (!(f.name == "_") && f.offset.beq off && (P.info? f.type).isSome) with
                | false => rw [hcnd] at hm; cases hm
                | true =>
                  rw [hcnd, cond_true] at hm
                  simp only [Bool.and_eq_true] at hcnd
                  have c2 := beq_true hcnd.1.2
                  obtain ⟨l1, h1, hm⟩ := Option.bind_eq_some_iff.1 hm
                  cases hsz : ((P.cellsOf f.type).beq l1.length && !(l1.length.beq 0)) with
                  | false => rw [hsz] at hm; cases hm
                  | true =>
                    rw [hsz, cond_true] at hm
                    simp only [Bool.and_eq_true] at hsz
                    have hsz := beq_true hsz.1
                    obtain ⟨l2, h2, rfl⟩ := Option.map_eq_some_iff.1 hm
                    simp only [List.mapM_cons, Option.bind_eq_bind, Option.bind_eq_some_iff, Option.pure_def, Option.some.injEq] at hy
                    obtain ⟨y, hy1, ys', hy2, rfl⟩ := hy
                    obtain ⟨w1, p1⟩ := ih f.type l1 h1 hsz fuel _ y hy1
                    obtain ⟨w2, p2⟩ := ihg _ _ _ h2 hy2
                    refine ⟨?_, by simp [p1, p2]⟩
                    rw [c2, hsz] at w1
                    have := leafWf_append w2 w1
                    rw [List.length_append, List.take_add, List.drop_drop]
                    exact this
            obtain ⟨k1, k2⟩ := key fs.toList 0 ls xs h hxs
            refine ⟨?_, k2⟩
            rw [List.drop_zero, ← hlen, ← hcl, List.take_length] at k1
            exact k1
          · cases hx'
      · cases h
end
end Go.Ev

namespace Go.Ev
open Go Go.RowKit Go.ChangeShapes Go.WideShapes

theorem law_calls {P : Program} {C : Ctx} (hC : Good P C) {f : FuncId} (hs : C.same.contains f = false) {args : List Value} (hp : args.all plain = true)
    (h : Does (runw C f args hp0) fun r => r.1 = .bool true) (W : World) : Calls P f ⟨args⟩ W fun e W' => e = .returned (.bool true) ∧ Below W.heap.size W W' := by
  obtain ⟨⟨v, H'⟩, e, rfl⟩ := h
  refine Calls.mono ((runw_sound hC f args hp0 _ H' e).2 hs W.heap.size (fun _ => none) W args (WRel.empty W (Nat.le_refl _)) (plains_refl hp)) fun e W' he => ?_
  obtain ⟨μ', v', rfl, r1, r2⟩ := he
  cases r1
  exact ⟨rfl, r2.below⟩

section
variable {H : Type} {enc : TypeId × Value → H} {P : Program} {W W' : World}

theorem trodAll_below (hl : laidOutB P = true) (hb : Below W.heap.size W W') : ∀ {ts : List TypeId} {vs : List Value} {ds : List (DataW H)} {ps : List MemPlace},
    (∀ t ∈ ts, P.readableRec t = true ∧ t < P.types.size) → DataW.TrodAll enc P W 0 (fun _ => true) true ts vs ds ps → (∀ x ∈ ps, x.block < W.heap.size) →
    DataW.TrodAll enc P W' 0 (fun b => decide (b < W.heap.size)) true ts vs ds ps
  | [], vs, ds, ps, _, h, _ => by
    obtain ⟨rfl, rfl, rfl⟩ := trodAll_nil h
    exact trodAll_mk0
  | t :: ts, vs, ds, ps, hr, h, hlt => by
    obtain ⟨v0, vs0, d0, ds0, p0, q0, rfl, rfl, rfl, h0, r0⟩ := trodAll_cons h
    have ht := hr t (by simp)
    exact trodAll_cons_mk (Below.trod hl ht.1 ht.2 h0 hb fun x hx => hlt x (by simp [hx])) (trodAll_below hl hb (fun t ht => hr t (by simp [ht])) r0 fun x hx => hlt x (by simp [hx]))

theorem law_post {s : ChangeSpec} {fn : Func} {apart fresh handsOn : Bool} {args : Array Value} {ds : List (DataW H)} {before : List MemPlace} {tb : TypeId}
    (hl : laidOutB P = true) (hr : ∀ t ∈ fn.params.toList, P.readableRec t = true ∧ t < P.types.size) (hv : s.vars = []) (ht : fn.resultTypes = #[tb]) (hu : P.underlying tb = some .bool)
    (hW : DataW.Whole enc P fn.params.toList s.vars apart W args.toList ds [] before) (hfn : s.fn H ds = { results := [.lit (.bool true)], args := ds }) (hb : Below W.heap.size W W') :
    s.post enc P fn apart fresh handsOn false W args (.bool true) W' := by
  have hW' := hW
  obtain ⟨p, q, hA, hV, rfl, hz, hn⟩ := hW
  rw [hv] at hV
  obtain ⟨_, rfl⟩ := trodVars_none hV
  refine ⟨ds, [], p ++ [], [], p, [], hW', ?_, ?_, ?_, hb.frame _, fun h => by cases h⟩
  · rw [List.append_nil, hfn, ht]
    exact trodAll_mk1 (shut_bool hu _)
  · rw [List.append_nil, hfn]
    exact trodAll_below hl hb hr hA fun x hx => by simpa using hW'.lt x (by simp [hx])
  · rw [List.append_nil, hfn, hv]
    rfl
end
end Go.Ev

namespace Go.Ev
open Go Go.RowKit

section
variable {C : Ctx} {call : Fun} {lp : Lp} {dr : List (Nat × List (Nat × Cls))} {ops : Array Oper} {ρ ρ1 : Env} {H H1 : AHeap}

/-- One operation, the slots behind it written out: `does_opn rfl (by simp only [put, List.set_cons_succ, List.set_cons_zero]; rfl) ?_`. -/
theorem does_opn {o : Oper} {os : List Oper} {Q : Env × AHeap → Prop} {v : Value} (e : stepV C call ops o ρ H = some (v, H1)) (hp : put ρ o.dst v = ρ1)
    (h : Does (evOps C call ops os ρ1 H1) Q) : Does (evOps C call ops (o :: os) ρ H) Q := by
  subst hp; exact does_op (step_val e h)

/-- A call whose answer is known. -/
theorem does_opc {o : Oper} {os : List Oper} {Q : Env × AHeap → Prop} {f : FuncId} {args : List Value} {v : Value} (e : stepV C call ops o ρ H = call f args H) (hc : call f args H = some (v, H1)) (hp : put ρ o.dst v = ρ1)
    (h : Does (evOps C call ops os ρ1 H1) Q) : Does (evOps C call ops (o :: os) ρ H) Q := does_opn (e.trans hc) hp h

/-- A call of which something is known. -/
theorem does_opd {o : Oper} {os : List Oper} {Q : Env × AHeap → Prop} {f : FuncId} {args : List Value} {R : Value × AHeap → Prop} (e : stepV C call ops o ρ H = call f args H) (hc : Does (call f args H) R)
    (h : ∀ v H1, R (v, H1) → Does (evOps C call ops os (put ρ o.dst v) H1) Q) : Does (evOps C call ops (o :: os) ρ H) Q :=
  does_op (step_call e (hc.mono fun r hr => h r.1 r.2 hr))
end

/-- What a reckoning shows of its end. -/
theorem does_proj {α β : Type} {x : Option α} (f : α → β) {y : β} (h : x.map f = some y) : Does x fun r => f r = y := by
  obtain ⟨r, e, q⟩ := Option.map_eq_some_iff.1 h
  exact ⟨r, e, q⟩

/-- A stretch of code, with a bound, is the same without. -/
theorem does_seg {C : Ctx} {dr : List (Nat × List (Nat × Cls))} {c : Code} {ρ : Env} {H : AHeap} {Q : Ex × Env × AHeap → Prop} (n : Nat) (h : Does (evCode C dr (run C n) (fun g => loopN g n) c ρ H) Q) :
    Does (evCode C dr (runw C) loopw c ρ H) Q := by
  obtain ⟨r, e, q⟩ := h
  obtain ⟨N, hN⟩ := evCode_dir (C := C) (call := run C n) (calls := fun _ => runw C) (fun f args H r hr => ⟨0, fun _ _ => runw_run hr⟩)
    (lp := fun g => loopN g n) (lps := fun _ g => loopw g) (fun g gs hg ρ H r hr => by
      obtain ⟨M, hM⟩ := loopN_dir hg (fun _ => n) n 0 ρ H (fun _ _ => Nat.le_refl _) r hr
      exact ⟨M, fun m hm => loopw_iff.2 ⟨n, hM m hm⟩⟩) dr c ρ H r e
  exact ⟨r, hN N (Nat.le_refl _), q⟩

/-- A whole call, reckoned by the kernel. -/
theorem does_kernel {C : Ctx} {f : FuncId} {args : List Value} {H : AHeap} {β : Type} (n : Nat) (g : Value × AHeap → β) {y : β} (h : (run C n f args H).map g = some y) : Does (runw C f args H) fun r => g r = y := by
  obtain ⟨r, e, q⟩ := does_proj g h
  exact ⟨r, runw_run e, q⟩

/-- Of a struct's argument: its cells. -/
theorem struct_arg {H : Type} {enc : TypeId × Value → H} {P : Program} {W : World} {r : Reach} {b0 base : Nat} {sp : Nat → Bool} {held : Bool} {n : Nat} {t : TypeId} {ls : List Leaf} {v : Value} {d : DataW H} {ps : List MemPlace}
    (hl : leavesP P n t = some ls) (hc : P.cellsOf t = ls.length) (ha : aggT P t = true) (hk : Value.okWide P W r b0 t v) (h : DataW.Trod enc P W base sp held t v d ps) : ∃ cs, v = .agg ⟨cs⟩ ∧ leafWf ls cs := by
  unfold aggT at ha
  unfold Value.okWide at hk
  split at ha
  · rename_i fs hu
    rw [hu] at hk
    obtain ⟨cs, rfl, _, _⟩ := hk
    obtain ⟨fuel, hf⟩ := h
    have := (trod_leaf n t ls hl hc fuel _ _ hf).1
    obtain ⟨cs⟩ := cs
    exact ⟨cs, rfl, this⟩
  · cases ha
end Go.Ev

namespace Go.Ev
open Go Go.RowKit

mutual
/-- Values that the evaluator makes. -/
def vOk : Value → Bool
  | .func _ ⟨a⟩ ⟨c⟩ => vOkL a && vOkL c
  | .iface _ v => vOk v
  | .agg ⟨a⟩ => vOkL a
  | .tuple ⟨a⟩ => vOkL a
  | .float _ _ => false
  | .complex _ _ _ => false
  | .chan _ => false
  | _ => true
def vOkL : List Value → Bool
  | [] => true
  | x :: xs => vOk x && vOkL xs
end

mutual
theorem same_refl : ∀ v : Value, vOk v = true → same v v = true
  | .bool a, _ => by simp [same]
  | .int k a, _ => by simp [same]
  | .string a, _ => by simp [same]
  | .pointer a, _ => by simp [same]
  | .slice a l c, _ => by simp [same]
  | .map a, _ => by simp [same]
  | .func f ⟨a⟩ ⟨c⟩, h => by
    simp only [vOk, Bool.and_eq_true] at h
    simp [same, same_reflL a h.1, same_reflL c h.2]
  | .nilFunc, _ => rfl
  | .iface t v, h => by simp [same, same_refl v (by simpa [vOk] using h)]
  | .nilIface, _ => rfl
  | .agg ⟨a⟩, h => by simp [same, same_reflL a (by simpa [vOk] using h)]
  | .tuple ⟨a⟩, h => by simp [same, same_reflL a (by simpa [vOk] using h)]
  | .float _ _, h => by simp [vOk] at h
  | .complex _ _ _, h => by simp [vOk] at h
  | .chan _, h => by simp [vOk] at h
theorem same_reflL : ∀ v : List Value, vOkL v = true → sameL v v = true
  | [], _ => rfl
  | x :: xs, h => by
    simp only [vOkL, Bool.and_eq_true] at h
    simp [sameL, same_refl x h.1, same_reflL xs h.2]
end

section
variable {C : Ctx} {call : Fun} {lp : Lp} {dr : List (Nat × List (Nat × Cls))} {ops : Array Oper} {ρ ρ1 : Env} {H H1 : AHeap}

theorem does_draw {id : Nat} {items : List (Nat × Cls)} {Q : Ex × Env × AHeap → Prop} (hi : assoc id dr = some items)
    (h : Does (drRun C call ops items ρ H) fun d => d.1.all (stable C ops (phases d.1 d.2.2)) = true ∧ Norm Q d.2) : Does (evCode C dr call lp (.region id ops true) ρ H) Q := by
  obtain ⟨d, e, q1, q2⟩ := h
  refine Does.bind ⟨items, hi, Does.map ⟨d.2, ?_, q2⟩⟩
  unfold evDraw
  rw [e, Option.bind_some, q1, cond_true]

theorem does_dnil {Q : List Ent × Env × AHeap → Prop} (h : Q ([], ρ, H)) : Does (drRun C call ops [] ρ H) Q := ⟨_, rfl, h⟩

theorem does_dop {i : Nat} {c : Cls} {is : List (Nat × Cls)} {o : Oper} {Q : List Ent × Env × AHeap → Prop} {v : Value} (ho : ops.toList[i]? = some o) (e : stepV C call ops o ρ H = some (v, H1)) (hp : put ρ o.dst v = ρ1)
    (h : Does (drRun C call ops is ρ1 H1) fun d => Q (⟨i, o, c, ρ, H, v, H1⟩ :: d.1, d.2)) : Does (drRun C call ops ((i, c) :: is) ρ H) Q := by
  subst hp
  obtain ⟨d, e2, q⟩ := h
  exact ⟨_, by simp only [drRun, ho, Option.bind_some, e, e2, Option.map_some], q⟩

/-- A read that gives the same again. -/
theorem readAt_of {o : Oper} {v : Value} {H' : AHeap} (h : stepV C call ops o ρ H' = some (v, H1)) (hk : opKeep C o = true) (hv : vOk v = true) : readAt C ops ρ o v H' = true := by
  unfold readAt
  unfold stepV at h
  cases hw : wantedA ops ρ o with
  | none => rw [hw] at h; cases h
  | some b =>
    cases b with
    | false => rfl
    | true =>
      rw [hw] at h
      simp only [Option.bind_some] at h
      obtain ⟨r, hr, h⟩ := Option.bind_eq_some_iff.1 h
      obtain ⟨u, rfl⟩ := opKeep_sound hk hr
      simp only [Option.some.injEq, Prod.mk.injEq] at h
      simp only [hr]
      rw [h.1]; exact same_refl v hv
end

/-- Each read stands at one place alone. -/
def calm : List (Nat × Cls) → Nat → Bool
  | [], _ => true
  | (_, .eff) :: is, k => calm is (k + 1)
  | (_, .read lo hi) :: is, k => lo.beq k && hi.beq k && calm is k
  | (_, .alloc) :: _, _ => false

def keeps (C : Ctx) (ops : Array Oper) (items : List (Nat × Cls)) : Bool :=
  items.all fun p => match p.2 with
    | .read _ _ => (match ops.toList[p.1]? with | some o => opKeep C o | none => false)
    | _ => true

theorem calm_spec : ∀ {l r : List Ent} {e : Ent} {k : Nat}, calm ((l ++ e :: r).map fun e => (e.i, e.c)) k = true →
    (∀ x ∈ l ++ e :: r, x.c ≠ .alloc) ∧ ∀ lo hi, e.c = .read lo hi → lo = k + (effsOf l).length ∧ hi = lo
  | [], [], e, k, h => by
    cases hc : e.c with
    | eff => exact ⟨by simp [hc], by simp⟩
    | alloc => simp [calm, hc] at h
    | read lo hi =>
      simp only [List.nil_append, List.map_cons, calm, hc, Bool.and_eq_true] at h
      refine ⟨by simp [hc], fun a b e => ?_⟩
      cases e
      rw [beq_true h.1.1, beq_true h.1.2]; exact ⟨rfl, rfl⟩
  | [], e' :: r, e, k, h => by
    cases hc : e.c with
    | eff =>
      simp only [List.nil_append, List.map_cons, calm, hc] at h
      have := calm_spec (l := []) (r := r) (e := e') (k := k + 1) h
      refine ⟨fun x hx => ?_, by simp⟩
      rcases List.mem_cons.1 hx with rfl | hx
      · simp [hc]
      · exact this.1 x hx
    | alloc => simp [calm, hc] at h
    | read lo hi =>
      simp only [List.nil_append, List.map_cons, calm, hc, Bool.and_eq_true] at h
      have := calm_spec (l := []) (r := r) (e := e') (k := k) h.2
      refine ⟨fun x hx => ?_, fun a b e => ?_⟩
      · rcases List.mem_cons.1 hx with rfl | hx
        · simp [hc]
        · exact this.1 x hx
      · cases e
        rw [beq_true h.1.1, beq_true h.1.2]; exact ⟨rfl, rfl⟩
  | x :: l, r, e, k, h => by
    cases hc : x.c with
    | eff =>
      simp only [List.cons_append, List.map_cons, calm, hc] at h
      have := calm_spec (l := l) (r := r) (e := e) (k := k + 1) h
      refine ⟨fun y hy => ?_, fun a b hab => ?_⟩
      · rcases List.mem_cons.1 hy with rfl | hy
        · simp [hc]
        · exact this.1 y hy
      · have := this.2 a b hab
        rw [effsOf_cons hc]
        simp only [List.length_cons]
        omega
    | alloc => simp [calm, hc] at h
    | read lo hi =>
      simp only [List.cons_append, List.map_cons, calm, hc, Bool.and_eq_true] at h
      have := calm_spec (l := l) (r := r) (e := e) (k := k) h.2
      refine ⟨fun y hy => ?_, fun a b hab => ?_⟩
      · rcases List.mem_cons.1 hy with rfl | hy
        · simp [hc]
        · exact this.1 y hy
      · have hE : effsOf (x :: l) = effsOf l := by simp [effsOf, List.filter_cons, hc, isEff]
        rw [hE]
        exact this.2 a b hab

theorem does_calm {C : Ctx} {call : Fun} {lp : Lp} {dr : List (Nat × List (Nat × Cls))} {ops : Array Oper} {ρ : Env} {H : AHeap} {id : Nat} {items : List (Nat × Cls)} {Q : Ex × Env × AHeap → Prop} (hi : assoc id dr = some items)
    (hc : calm items 0 = true) (hk : keeps C ops items = true) (h : Does (drRun C call ops items ρ H) fun d => (d.1.all fun e => vOk e.v) = true ∧ Norm Q d.2) : Does (evCode C dr call lp (.region id ops true) ρ H) Q := by
  obtain ⟨⟨es, ρ', Hf⟩, e, q1, q2⟩ := h
  refine does_draw hi ⟨_, e, ?_, q2⟩
  obtain ⟨hch, him⟩ := drRun_chain e
  have keep : ∀ x ∈ es, ∀ lo hi, x.c = .read lo hi → opKeep C x.o = true := fun x hx lo hi hxc => by
    unfold keeps at hk
    rw [List.all_eq_true] at hk
    have := hk (x.i, x.c) (by rw [← him]; exact List.mem_map.2 ⟨x, hx, rfl⟩)
    simpa [hxc, (chain_mem hch x hx).1] using this
  rw [List.all_eq_true] at q1 ⊢
  intro x hx
  unfold stable
  cases hxc : x.c with
  | eff => rfl
  | alloc => rfl
  | read lo hi =>
    simp only
    obtain ⟨l, r, rfl⟩ := List.append_of_mem hx
    rw [← him] at hc
    obtain ⟨na, hw⟩ := calm_spec hc
    obtain ⟨rfl, rfl⟩ := hw lo hi hxc
    have hst := (chain_mem hch x hx).2
    obtain ⟨ρ1, H1, _, g⟩ := chain_split hch
    have hp0 : (phases (x :: r) Hf)[0]? = some x.H := by
      have : H1 = x.H := by cases g; rfl
      subst this
      refine phase0_steady g (fun y hy => ⟨fun lo hi hyc => ?_, fun hyc => absurd hyc (na y (by simp at hy ⊢; exact .inr hy))⟩) fun y hy => na y (by simp at hy ⊢; exact .inr hy)
      have hym : y ∈ l ++ x :: r := List.mem_append_right _ hy
      exact stepV_keep (keep y hym lo hi hyc) (chain_mem hch y hym).2
    have hdrop : ((phases (l ++ x :: r) Hf).drop (0 + (effsOf l).length)).take (0 + (effsOf l).length + 1 - (0 + (effsOf l).length)) = [x.H] := by
      rw [phases_append]
      have e1 : 0 + (effsOf l).length + 1 - (0 + (effsOf l).length) = 1 := by omega
      rw [e1]
      have e2 : ((effsOf l).map (·.H) ++ phases (x :: r) Hf).drop (0 + (effsOf l).length) = phases (x :: r) Hf := by
        rw [Nat.zero_add]
        have : (effsOf l).length = ((effsOf l).map (·.H)).length := by simp
        rw [this, List.drop_left]
      rw [e2]
      cases hph : phases (x :: r) Hf with
      | nil => rw [hph] at hp0; cases hp0
      | cons a as => rw [hph] at hp0; simp at hp0; simp [hp0]
    rw [hdrop]
    simp only [List.all_cons, List.all_nil, Bool.and_true]
    exact readAt_of hst (keep x hx _ _ hxc) (q1 x hx)
end Go.Ev

namespace Go.Ev
open Go

/-- Operations that no heap is asked in. -/
def heapless : Op → Bool
  | .move _ | .assign _ | .pick _ _ _ | .nilCheck _ | .makeInterface _ _ | .makeFunc _ _ _ | .field _ _ _ | .extract _ _ | .fieldAddr _ _ _ | .unOp _ _ _ | .binOp _ _ _ _ _ | .slice _ _ _ _ _
  | .indexAddr _ _ _ | .index _ _ _ => true
  | _ => false

variable {C : Ctx} {ρ : Env} {o : Oper}

def reHeap (H : AHeap) : OpRes → Option OpRes
  | .val v _ => some (.val v H)
  | .call _ _ => none

theorem retV_re (H H2 : AHeap) (x : Option Value) : retV H2 x = (retV H x).bind (reHeap H2) := by cases x <;> rfl

theorem heapless_eq (hp : heapless o.op = true) (H H2 : AHeap) : opEval C ρ H2 o = (opEval C ρ H o).bind (reHeap H2) := by
  cases hop : o.op <;> rw [hop] at hp <;> simp only [heapless, Bool.false_eq_true] at hp
  case move x => simp only [opEval, hop]; exact retV_re _ _ _
  case assign x => simp only [opEval, hop]; exact retV_re _ _ _
  case pick c a b =>
    simp only [opEval, hop]
    cases look ρ c with
    | none => rfl
    | some v =>
      simp only [Option.bind_some]
      split
      · exact retV_re _ _ _
      · exact retV_re _ _ _
      · rfl
  case nilCheck x =>
    simp only [opEval, hop]
    cases look ρ x with
    | none => rfl
    | some v =>
      simp only [Option.bind_some]
      split
      · rfl
      · rfl
      · rfl
      · split
        · rename_i t _ _
          cases methA C t _ <;> rfl
        · rfl
      · rfl
  case binOp op t x y u =>
    simp only [opEval, hop]
    cases look ρ x with
    | none => rfl
    | some v =>
      cases look ρ y with
      | none => rfl
      | some w => exact retV_re _ _ _
  case unOp op t x =>
    simp only [opEval, hop]
    cases look ρ x with
    | none => rfl
    | some v => exact retV_re _ _ _
  case makeInterface t x =>
    simp only [opEval, hop]
    split
    · rfl
    · rfl
    · cases look ρ x <;> rfl
  case makeFunc fn fs cs =>
    simp only [opEval, hop]
    split
    · cases looks ρ fs.toList with
      | none => rfl
      | some a => cases looks ρ cs.toList <;> rfl
    · cases looks ρ fs.toList with
      | none => rfl
      | some a => cases looks ρ cs.toList <;> rfl
    · rfl
  case slice t x l hh m =>
    simp only [opEval, hop]
    cases look ρ x with
    | none => rfl
    | some v =>
      cases looks ρ l.toList with
      | none => rfl
      | some a =>
        cases looks ρ hh.toList with
        | none => rfl
        | some b =>
          cases looks ρ m.toList with
          | none => rfl
          | some c => exact retV_re _ _ _
  case fieldAddr t x f =>
    simp only [opEval, hop]
    cases look ρ x with
    | none => rfl
    | some v =>
      simp only [Option.bind_some]
      split
      · split
        · rename_i sz _
          cases sz.beq 0 <;> rfl
        · rfl
      · rfl
  case field t x f =>
    simp only [opEval, hop]
    cases look ρ x with
    | none => rfl
    | some v =>
      simp only [Option.bind_some]
      split
      · split
        · rename_i ft _ _ _
          cases C.ty.get ft with
          | none => rfl
          | some ti =>
            simp only [Option.bind_some]
            cases (_ && _) with
            | false => rfl
            | true => exact retV_re _ _ _
        · rfl
      · rfl
  case indexAddr t x i =>
    simp only [opEval, hop]
    cases look ρ x with
    | none => rfl
    | some v =>
      cases look ρ i with
      | none => rfl
      | some iv =>
        simp only [Option.bind_some]
        cases idx iv with
        | none => rfl
        | some n =>
          simp only [Option.bind_some]
          split
          · rename_i e _ _ _
            cases C.ty.get e with
            | none => rfl
            | some ti =>
              simp only [Option.bind_some]
              split <;> rfl
          · rename_i e _ _ _ _
            cases C.ty.get e with
            | none => rfl
            | some ti =>
              simp only [Option.bind_some]
              split <;> rfl
          · rfl
  case index t x i =>
    simp only [opEval, hop]
    cases look ρ x with
    | none => rfl
    | some v =>
      cases look ρ i with
      | none => rfl
      | some iv =>
        simp only [Option.bind_some]
        cases idx iv with
        | none => rfl
        | some n =>
          simp only [Option.bind_some]
          split
          · rename_i e _ _
            cases C.ty.get e with
            | none => rfl
            | some ti =>
              simp only [Option.bind_some]
              split
              · exact retV_re _ _ _
              · rfl
          · rename_i str _
            split
            · cases str.data.toList[n.toNat]? <;> rfl
            · rfl
          · rfl
  case extract x i =>
    simp only [opEval, hop]
    cases look ρ x with
    | none => rfl
    | some v =>
      simp only [Option.bind_some]
      split
      · exact retV_re _ _ _
      · rfl


/-- The same, and some more. -/
def freeOp (C : Ctx) : Op → Bool
  | .build _ _ => true
  | .convert a b _ => (match tdA C a, tdA C b with | some (.int _), some (.int _) => true | _, _ => false)
  | o => heapless o

theorem free_eq (hp : freeOp C o.op = true) (H H2 : AHeap) : opEval C ρ H2 o = (opEval C ρ H o).bind (reHeap H2) := by
  unfold freeOp at hp
  split at hp
  · rename_i t ps hop
    simp only [opEval, hop]
    split
    · cases zeroOf C t with
      | none => rfl
      | some z =>
        cases lookParts ρ ps.toList with
        | none => rfl
        | some vs => exact retV_re _ _ _
    · rename_i e _ _ _ _
      cases zeroOf C t with
      | none => rfl
      | some z =>
        cases C.ty.get e with
        | none => rfl
        | some ti =>
          cases lookParts ρ ps.toList with
          | none => rfl
          | some vs => exact retV_re _ _ _
    · rfl
  · rename_i a b x hop
    split at hp
    · rename_i k1 k2 h1 h2
      simp only [opEval, hop]
      cases look ρ x with
      | none => rfl
      | some v =>
        simp only [Option.bind_some, convA, h1, h2]
        cases v <;> rfl
    · cases hp
  · exact heapless_eq hp H H2

theorem stable_free {call : Fun} {ops : Array Oper} {hs : List AHeap} {e : Ent} (hp : freeOp C e.o.op = true) (hg : e.o.guard = none) (hs' : stepV C call ops e.o e.ρ e.H = some (e.v, e.H')) (hv : vOk e.v = true) : stable C ops hs e = true := by
  unfold stable
  cases e.c with
  | eff => rfl
  | alloc => rfl
  | read lo hi =>
    simp only
    rw [List.all_eq_true]
    intro H _
    have hw : wantedA ops e.ρ e.o = some true := by unfold wantedA; rw [hg]
    unfold stepV at hs'
    rw [hw] at hs'
    simp only [Option.bind_some] at hs'
    obtain ⟨r, hr, hs'⟩ := Option.bind_eq_some_iff.1 hs'
    have e1 := free_eq (C := C) (ρ := e.ρ) hp e.H e.H
    have e2 := free_eq (C := C) (ρ := e.ρ) hp e.H H
    rw [hr] at e1 e2
    cases r with
    | call f args => cases e1
    | val v H1 =>
      simp only [Option.some.injEq, Prod.mk.injEq] at hs'
      unfold readAt
      rw [hw, e2]
      simp only [Option.bind_some, reHeap]
      rw [hs'.1]; exact same_refl _ hv
end Go.Ev
