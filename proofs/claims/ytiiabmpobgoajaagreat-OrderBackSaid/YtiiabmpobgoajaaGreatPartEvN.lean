/- A step of a region: one operation, guarded, calls by what is known of them. -/
import Derived.Test.YtiiabmpobgoajaaGreatPartEvI
set_option linter.all false
namespace Go.Ev
open Go Go.RowKit

/-- What is known of calls. -/
def CallOk (P : Program) (C : Ctx) (call : Fun) : Prop := ∀ f args H v H', call f args H = some (v, H') →
  (C.same.contains f = true → args = [v] ∧ H' = H) ∧
  (C.same.contains f = false → ∀ B μ w args', WRel μ B H w → VRelL μ args args' →
    Calls P f ⟨args'⟩ w fun e w' => ∃ μ' v', e = .returned v' ∧ VRel μ' v v' ∧ Went B μ H w μ' H' w')

section
variable {P : Program} {C : Ctx} (hC : CtxOk P C) {call : Fun} (hcall : CallOk P C call) {μ : Mu} {B : Nat} {H H' : AHeap} {w : World} {ops : Array Oper} {o : Oper} {a : Act} {ρ : Env}

theorem wanted_sound (hE : EnvRel μ ρ a.tmps) {b : Bool} (h : wantedA ops ρ o = some b) : Region.wanted o (yielded ops a.tmps) = b := by
  unfold wantedA at h
  unfold Region.wanted
  split at h
  · rename_i hg; simp at h; subst h; rw [hg]
  · rename_i j want hg
    rw [hg]
    split at h
    · rename_i d hd
      split at h
      · rename_i b' hb
        simp only [Option.some.injEq] at h
        subst h
        have hv : ρ[d]? = some (some (.bool b')) := by
          cases hx : ρ[d]? with
          | none => rw [hx] at hb; simp at hb
          | some y => rw [hx] at hb; simp at hb; rw [hb]
        obtain ⟨v', h1, h2⟩ := hE.get d _ hv
        cases h2
        have : yielded ops a.tmps j = some b' := by
          unfold yielded
          rw [← Array.getElem?_toList, hd]
          simp only [Option.bind_some]
          rw [h1]
        simp only [this]
        cases b' <;> cases want <;> rfl
      · simp at h
    · simp at h

include hC hcall in
/-- A step, with what is done behind it. -/
theorem stepV_sound {Q : Exit → Act → World → Prop} {i : Nat} (hi : ops[i]? = some o) (hW : WRel μ B H w) (hE : EnvRel μ ρ a.tmps) {v : Value}
    (h : stepV C call ops o ρ H = some (v, H')) {K : Act → World → Prop}
    (k : ∀ μ' v' w', VRel μ' v v' → Went B μ H w μ' H' w' → K (a.put o.dst v') w') : wpOp P ops Q i K a w := by
  simp only [stepV, Option.bind_eq_some_iff] at h
  obtain ⟨b, hb, h⟩ := h
  have hwant := wanted_sound hE hb
  unfold wpOp
  simp only [hi]
  rw [hwant]
  cases b with
  | false =>
    simp only [Option.some.injEq, Prod.mk.injEq] at h
    obtain ⟨rfl, rfl⟩ := h
    simp only [Bool.false_eq_true, if_false]
    exact k μ undef w .undef (.refl hW)
  | true =>
    simp only [if_true]
    simp only [Option.bind_eq_some_iff] at h
    obtain ⟨r, hr, h⟩ := h
    have hok := op_sound hC hW hE hr
    left
    unfold Oper.wp
    cases r with
    | val u H1 =>
      simp only [Option.some.injEq, Prod.mk.injEq] at h
      obtain ⟨rfl, rfl⟩ := h
      obtain ⟨μ', w', v', h1, h2, h3⟩ := hok
      rcases h1 with h1 | ⟨h1, rfl⟩
      · rw [h1]; exact k μ' v' w' h2 h3
      · rw [h1]; exact k μ' undef w' h2 h3
    | call f args =>
      simp only at h
      obtain ⟨args', hargs, hrun⟩ := hok
      have hc := hcall f args H v H' h
      rcases hrun with ⟨hs, _, hrun⟩ | ⟨hs, hrun⟩
      · rw [hrun]
        refine Calls.mono (hc.2 hs B μ w args' hW hargs) fun e w' he => ?_
        obtain ⟨μ', v', rfl, h2, h3⟩ := he
        exact k μ' v' w' h2 h3
      · obtain ⟨rfl, rfl⟩ := hc.1 hs
        obtain ⟨x, rfl, hx⟩ := hargs.one
        rw [hrun x rfl]
        exact k μ x w hx (.refl hW)

include hC hcall in
theorem evOps_sound {Q : Exit → Act → World → Prop} : ∀ (n i : Nat) (μ : Mu) (H : AHeap) (w : World) (a : Act) (ρ ρ' : Env) (H' : AHeap), i + n = ops.size → WRel μ B H w → EnvRel μ ρ a.tmps →
    evOps C call ops (ops.toList.drop i) ρ H = some (ρ', H') →
    (∀ μ' a' w', EnvRel μ' ρ' a'.tmps → a'.defers = a.defers → Went B μ H w μ' H' w' → Q .normal a' w') → wpOps P ops Q (List.range' i n) a w := by
  intro n
  induction n with
  | zero =>
    intro i μ H w a ρ ρ' H' hi hW hE h k
    rw [List.drop_eq_nil_of_le (by simp; omega)] at h
    simp only [evOps, Option.some.injEq, Prod.mk.injEq] at h
    obtain ⟨rfl, rfl⟩ := h
    exact k μ a w hE rfl (.refl hW)
  | succ n ih =>
    intro i μ H w a ρ ρ' H' hi hW hE h k
    have hlt : i < ops.size := by omega
    rw [List.drop_eq_getElem_cons (by simpa using hlt)] at h
    simp only [evOps, Option.bind_eq_some_iff] at h
    obtain ⟨⟨v, H1⟩, h1, h2⟩ := h
    rw [List.range'_succ, wpOps_cons]
    refine stepV_sound hC hcall (o := ops[i]) (Array.getElem?_eq_getElem hlt) hW hE (by simpa using h1) fun μ' v' w' hv hw => ?_
    refine ih (i + 1) μ' H1 w' _ _ ρ' H' (by omega) hw.rel ((hE.mono hw.keep.le).put _ hv) h2 fun μ2 a2 w2 hE2 hd hw2 => ?_
    refine k μ2 a2 w2 hE2 ?_ (hw.trans hw2)
    rw [hd]
    cases ops[i].dst <;> rfl
end
end Go.Ev

namespace Go.Ev
open Go Go.RowKit

/-- What each operation stands behind, as bits. -/
def befStep (acc : List Nat) (o : Oper) : Nat := o.after.toList.foldl (fun s e => cond (Region.binds .any e) (s ||| 2 ^ e.on ||| acc.getD e.on 0) s) 0
def befGo : List Oper → List Nat → List Nat
  | [], acc => acc
  | o :: os, acc => befGo os (acc ++ [befStep acc o])
def bef (ops : Array Oper) : List Nat := befGo ops.toList []

def isBef (b : List Nat) (i j : Nat) : Bool := (b.getD j 0).testBit i

theorem befGo_prefix : ∀ (os : List Oper) (acc : List Nat), ∃ r, befGo os acc = acc ++ r ∧ r.length = os.length
  | [], acc => ⟨[], by simp [befGo]⟩
  | o :: os, acc => by
    obtain ⟨r, h, hl⟩ := befGo_prefix os (acc ++ [befStep acc o])
    exact ⟨befStep acc o :: r, by simp [befGo, h], by simp [hl]⟩

theorem befGo_get : ∀ (os : List Oper) (acc : List Nat) (j : Nat) (o : Oper), os[j]? = some o →
    (befGo os acc)[acc.length + j]? = some (befStep ((befGo os acc).take (acc.length + j)) o)
  | [], acc, j, o, h => by simp at h
  | p :: os, acc, 0, o, h => by
    simp only [List.getElem?_cons_zero, Option.some.injEq] at h
    subst h
    obtain ⟨r, hr, _⟩ := befGo_prefix os (acc ++ [befStep acc p])
    simp [befGo, hr]
  | p :: os, acc, j + 1, o, h => by
    have := befGo_get os (acc ++ [befStep acc p]) j o (by simpa using h)
    simp only [befGo]
    simp only [List.length_append, List.length_singleton] at this
    have e : acc.length + 1 + j = acc.length + (j + 1) := by omega
    rwa [e] at this

theorem befStep_bit {acc : List Nat} {o : Oper} {i : Nat} (h : (befStep acc o).testBit i = true) :
    ∃ e ∈ o.after.toList, Region.binds .any e = true ∧ (i = e.on ∨ (acc.getD e.on 0).testBit i = true) := by
  unfold befStep at h
  have key : ∀ (l : List Edge) (s : Nat), (l.foldl (fun s e => cond (Region.binds .any e) (s ||| 2 ^ e.on ||| acc.getD e.on 0) s) s).testBit i = true →
      s.testBit i = true ∨ ∃ e ∈ l, Region.binds .any e = true ∧ (i = e.on ∨ (acc.getD e.on 0).testBit i = true) := by
    intro l
    induction l with
    | nil => intro s h; exact .inl h
    | cons e l ih =>
      intro s h
      simp only [List.foldl_cons] at h
      rcases ih _ h with h | ⟨e', h1, h2⟩
      · cases hb : Region.binds .any e with
        | false => rw [hb] at h; exact .inl h
        | true =>
          rw [hb] at h
          simp only [cond_true, Nat.testBit_or, Bool.or_eq_true, Nat.testBit_two_pow, decide_eq_true_eq] at h
          rcases h with (h | h) | h
          · exact .inl h
          · exact .inr ⟨e, by simp, hb, .inl h.symm⟩
          · exact .inr ⟨e, by simp, hb, .inr h⟩
      · exact .inr ⟨e', by simp [h1], h2⟩
  rcases key _ _ h with h | h
  · simp at h
  · exact h

theorem bef_listed {ops : Array Oper} {listed : Nat → Prop} (hcl : ∀ (j : Nat) o, ops.toList[j]? = some o → listed j → ∀ e ∈ o.after.toList, Region.binds .any e = true → listed e.on) :
    ∀ (j : Nat) (o : Oper) (i : Nat), ops.toList[j]? = some o → (∀ e ∈ o.after.toList, Region.binds .any e = true → listed e.on) → isBef (bef ops) i j = true → listed i := by
  intro j
  induction j using Nat.strongRecOn with
  | _ j ih =>
    intro o i ho hp hb
    have hg := befGo_get ops.toList [] j o ho
    simp only [List.length_nil, Nat.zero_add] at hg
    unfold isBef bef at hb
    rw [List.getD_eq_getElem?_getD, hg] at hb
    simp only [Option.getD_some] at hb
    obtain ⟨e, h1, h2, h3⟩ := befStep_bit hb
    rcases h3 with rfl | h3
    · exact hp e h1 h2
    · rw [List.getD_eq_getElem?_getD] at h3
      by_cases hlt : e.on < j
      · rw [List.getElem?_take_of_lt hlt] at h3
        have hle := hp e h1 h2
        have hlen : e.on < ops.toList.length := by
          have := (List.getElem?_eq_some_iff.1 ho).1
          omega
        obtain ⟨o', ho'⟩ : ∃ o', ops.toList[e.on]? = some o' := ⟨_, List.getElem?_eq_getElem hlen⟩
        exact ih e.on hlt o' i ho' (fun e' he' hb' => hcl e.on o' ho' hle e' he' hb') (by unfold isBef bef; rw [List.getD_eq_getElem?_getD]; exact h3)
      · rw [List.getElem?_eq_none (by simp; omega)] at h3
        simp at h3

/-- Operations that leave the heap as it is. -/
def opKeep (C : Ctx) (o : Oper) : Bool :=
  match o.op with
  | .move _ | .assign _ | .pick .. | .build .. | .nilCheck _ | .unOp .. | .makeInterface .. | .makeFunc .. | .fieldAddr .. | .field .. | .indexAddr .. | .index .. | .extract ..
  | .slice .. | .binOp .. | .load .. | .lookup .. => true
  | .convert s d _ =>
    match tdA C s, tdA C d with
    | some (.int _), some (.int _) => true
    | some (.slice _), some .string => true
    | _, _ => false
  | .call c =>
    match c.callee with
    | .builtin .len | .builtin .cap | .builtin .max | .builtin .min | .builtin .unsafeSliceData => true
    | _ => false
  | _ => false

def opAlloc (o : Oper) : Bool :=
  match o.op with
  | .alloc _ | .box .. | .buildSlice .. => true
  | _ => false

theorem retV_keep {H : AHeap} {x : Option Value} {r : OpRes} (h : retV H x = some r) : ∃ v, r = .val v H := by
  cases x with
  | none => simp [retV] at h
  | some u => simp [retV] at h; exact ⟨u, h.symm⟩

theorem val_keep {H : AHeap} {u : Value} {r : OpRes} (h : some (OpRes.val u H) = some r) : ∃ v, r = .val v H := ⟨u, (Option.some.inj h).symm⟩

theorem toCall_call {C : Ctx} {f : FuncId} {args : List Value} {r : OpRes} (h : toCall C f args = some r) : ∃ f args, r = .call f args := by
  unfold toCall at h
  cases hk : known C f with
  | false => simp [hk] at h
  | true => simp [hk] at h; exact ⟨_, _, h.symm⟩

theorem callA_call {C : Ctx} {ρ : Env} {c : Call} {r : OpRes} (h : callA C ρ c = some r) : ∃ f args, r = .call f args := by
  unfold callA at h
  split at h
  · obtain ⟨a, ha, h⟩ := Option.bind_eq_some_iff.1 h
    obtain ⟨b, hb, h⟩ := Option.bind_eq_some_iff.1 h
    split at h
    · exact toCall_call h
    · split at h
      · obtain ⟨c, hc, h⟩ := Option.bind_eq_some_iff.1 h
        exact toCall_call h
      · simp at h
    · simp at h
  · obtain ⟨a, ha, h⟩ := Option.bind_eq_some_iff.1 h
    obtain ⟨b, hb, h⟩ := Option.bind_eq_some_iff.1 h
    split at h
    · obtain ⟨c, hc, h⟩ := Option.bind_eq_some_iff.1 h
      exact toCall_call h
    · simp at h
  · simp at h

theorem opKeep_sound {C : Ctx} {o : Oper} {ρ : Env} {H : AHeap} {r : OpRes} (hp : opKeep C o = true) (h : opEval C ρ H o = some r) : ∃ v, r = .val v H := by
  unfold opKeep at hp
  cases ho : o.op <;> rw [ho] at hp <;> (try (simp at hp; done)) <;> simp only [opEval, ho] at h
  case move => exact retV_keep h
  case assign => exact retV_keep h
  case pick =>
    obtain ⟨a, ha, h⟩ := Option.bind_eq_some_iff.1 h
    split at h
    · exact retV_keep h
    · exact retV_keep h
    · simp at h
  case build =>
    split at h
    · obtain ⟨a, ha, h⟩ := Option.bind_eq_some_iff.1 h
      obtain ⟨b, hb, h⟩ := Option.bind_eq_some_iff.1 h
      exact retV_keep h
    · obtain ⟨a, ha, h⟩ := Option.bind_eq_some_iff.1 h
      obtain ⟨b, hb, h⟩ := Option.bind_eq_some_iff.1 h
      obtain ⟨c, hc, h⟩ := Option.bind_eq_some_iff.1 h
      exact retV_keep h
    · simp at h
  case load =>
    obtain ⟨a, ha, h⟩ := Option.bind_eq_some_iff.1 h
    exact retV_keep h
  case lookup =>
    obtain ⟨a, ha, h⟩ := Option.bind_eq_some_iff.1 h
    obtain ⟨b, hb, h⟩ := Option.bind_eq_some_iff.1 h
    exact retV_keep h
  case nilCheck =>
    obtain ⟨a, ha, h⟩ := Option.bind_eq_some_iff.1 h
    split at h
    · exact val_keep h
    · exact val_keep h
    · exact val_keep h
    · split at h
      · obtain ⟨f, hf, h⟩ := Option.map_eq_some_iff.1 h
        exact val_keep (congrArg some h)
      · simp at h
    · simp at h
  case binOp =>
    obtain ⟨a, ha, h⟩ := Option.bind_eq_some_iff.1 h
    obtain ⟨b, hb, h⟩ := Option.bind_eq_some_iff.1 h
    exact retV_keep h
  case unOp =>
    obtain ⟨a, ha, h⟩ := Option.bind_eq_some_iff.1 h
    exact retV_keep h
  case convert =>
    obtain ⟨a, ha, h⟩ := Option.bind_eq_some_iff.1 h
    unfold convA at h
    split at h
    · simp [retVH] at h; exact ⟨_, h.symm⟩
    · simp [retVH] at h; exact ⟨_, h.symm⟩
    · rename_i e1 e2; simp only [e1, e2] at hp; exact absurd hp (by simp)
    · rename_i e1 e2; simp only [e1, e2] at hp; exact absurd hp (by simp)
    · rename_i e1 e2; simp only [e1, e2] at hp; exact absurd hp (by simp)
    · split at h
      · simp [retVH] at h; exact ⟨_, h.symm⟩
      · simp [retVH] at h
    · split at h
      · simp only [retVH, Option.map_map, Option.map_eq_some_iff] at h
        obtain ⟨bs, _, h⟩ := h
        exact ⟨_, h.symm⟩
      · simp [retVH] at h
    · simp [retVH] at h
  case makeInterface =>
    split at h
    · simp at h
    · simp at h
    · obtain ⟨a, ha, h⟩ := Option.map_eq_some_iff.1 h
      exact val_keep (congrArg some h)
  case makeFunc =>
    split at h
    · obtain ⟨a, ha, h⟩ := Option.bind_eq_some_iff.1 h
      obtain ⟨b, hb, h⟩ := Option.map_eq_some_iff.1 h
      exact val_keep (congrArg some h)
    · obtain ⟨a, ha, h⟩ := Option.bind_eq_some_iff.1 h
      obtain ⟨b, hb, h⟩ := Option.map_eq_some_iff.1 h
      exact val_keep (congrArg some h)
    · simp at h
  case slice =>
    obtain ⟨a, ha, h⟩ := Option.bind_eq_some_iff.1 h
    obtain ⟨b, hb, h⟩ := Option.bind_eq_some_iff.1 h
    obtain ⟨c, hc, h⟩ := Option.bind_eq_some_iff.1 h
    obtain ⟨d, hd, h⟩ := Option.bind_eq_some_iff.1 h
    exact retV_keep h
  case fieldAddr =>
    obtain ⟨a, ha, h⟩ := Option.bind_eq_some_iff.1 h
    split at h
    · split at h
      · rename_i sz _
        cases hz : sz.beq 0 with
        | true => simp [hz] at h
        | false => simp only [hz, cond_false] at h; exact val_keep h
      · simp at h
    · simp at h
  case field =>
    obtain ⟨a, ha, h⟩ := Option.bind_eq_some_iff.1 h
    split at h
    · split at h
      · obtain ⟨b, hb, h⟩ := Option.bind_eq_some_iff.1 h
        generalize (_ && _) = q at h
        cases q with
        | true => exact retV_keep h
        | false => simp at h
      · simp at h
    · simp at h
  case indexAddr =>
    obtain ⟨a, ha, h⟩ := Option.bind_eq_some_iff.1 h
    obtain ⟨b, hb, h⟩ := Option.bind_eq_some_iff.1 h
    obtain ⟨c, hc, h⟩ := Option.bind_eq_some_iff.1 h
    split at h
    · obtain ⟨d, hd, h⟩ := Option.bind_eq_some_iff.1 h
      split at h
      · exact val_keep h
      · simp at h
    · obtain ⟨d, hd, h⟩ := Option.bind_eq_some_iff.1 h
      split at h
      · exact val_keep h
      · simp at h
    · simp at h
  case index =>
    obtain ⟨a, ha, h⟩ := Option.bind_eq_some_iff.1 h
    obtain ⟨b, hb, h⟩ := Option.bind_eq_some_iff.1 h
    obtain ⟨c, hc, h⟩ := Option.bind_eq_some_iff.1 h
    split at h
    · obtain ⟨d, hd, h⟩ := Option.bind_eq_some_iff.1 h
      split at h
      · exact retV_keep h
      · simp at h
    · split at h
      · obtain ⟨d, hd, h⟩ := Option.map_eq_some_iff.1 h
        exact val_keep (congrArg some h)
      · simp at h
    · simp at h
  case extract =>
    obtain ⟨a, ha, h⟩ := Option.bind_eq_some_iff.1 h
    split at h
    · exact retV_keep h
    · simp at h
  case call c =>
    split at h
    · rename_i b hb
      simp only [hb] at hp
      simp only [builtinA, Option.bind_eq_some_iff] at h
      obtain ⟨vs, hvs, h⟩ := h
      cases b <;> (try (simp at hp; done))
      all_goals
        split at h <;> first
          | (simp at h; done)
          | exact retV_keep h
          | exact val_keep h
          | (rename_i e; cases e; done)
          | (rename_i e _; cases e; done)
          | (split at h <;> first
              | exact val_keep h
              | (simp at h; done)
              | (split at h <;> first | exact val_keep h | (simp at h; done)))
          | (generalize (_ || _) = q at h
             cases q with
             | true => simp at h
             | false => exact val_keep h)
    · rename_i hn
      exfalso
      simp only at hp
      split at hp <;> first | (rename_i e; exact hn _ e) | (simp at hp; done)

/-- A step that leaves the heap. -/
theorem stepV_keep {C : Ctx} {call : Fun} {ops : Array Oper} {o : Oper} {ρ : Env} {H H' : AHeap} {v : Value} (hp : opKeep C o = true) (h : stepV C call ops o ρ H = some (v, H')) : H' = H := by
  simp only [stepV, Option.bind_eq_some_iff] at h
  obtain ⟨b, hb, h⟩ := h
  cases b with
  | false => simp at h; exact h.2.symm
  | true =>
    simp only [Option.bind_eq_some_iff] at h
    obtain ⟨r, hr, h⟩ := h
    obtain ⟨u, rfl⟩ := opKeep_sound hp hr
    simp at h; exact h.2.symm

end Go.Ev

namespace Go.Ev
open Go Go.RowKit

def tmpOf : Operand → List Tmp
  | .tmp t => [t]
  | _ => []

/-- The slots that an operation looks at. -/
def readsOf (ops : Array Oper) (o : Oper) : List Tmp :=
  o.op.operands.toList.flatMap tmpOf ++ (match o.guard with
    | some (j, _) => ((ops.toList[j]?).bind (·.dst)).toList
    | none => [])

theorem look_congr {ρ ρ' : Env} {x : Operand} (h : ∀ t ∈ tmpOf x, ρ[t]? = ρ'[t]?) : look ρ x = look ρ' x := by
  cases x with
  | tmp t => simp only [look]; rw [h t (by simp [tmpOf])]
  | _ => rfl

theorem looks_congr {ρ ρ' : Env} : ∀ {xs : List Operand}, (∀ x ∈ xs, look ρ x = look ρ' x) → looks ρ xs = looks ρ' xs
  | [], _ => rfl
  | x :: xs, h => by
    simp only [looks]
    rw [h x (by simp), looks_congr fun y hy => h y (by simp [hy])]

theorem lookParts_congr {ρ ρ' : Env} : ∀ {xs : List (Nat × Operand)}, (∀ x ∈ xs, look ρ x.2 = look ρ' x.2) → lookParts ρ xs = lookParts ρ' xs
  | [], _ => rfl
  | (i, x) :: xs, h => by
    simp only [lookParts]
    rw [h (i, x) (by simp), lookParts_congr fun y hy => h y (by simp [hy])]

theorem opEval_congr {C : Ctx} {o : Oper} {ρ ρ' : Env} {H : AHeap} (h : ∀ x ∈ o.op.operands, look ρ x = look ρ' x) : opEval C ρ H o = opEval C ρ' H o := by
  cases ho : o.op <;> rw [ho] at h <;> simp only [opEval, ho]
  case move x => rw [h x (by simp [Op.operands])]
  case assign x => rw [h x (by simp [Op.operands])]
  case pick c x y => rw [h c (by simp [Op.operands]), h x (by simp [Op.operands]), h y (by simp [Op.operands])]
  case box e x => rw [h x (by simp [Op.operands])]
  case build t ps => rw [lookParts_congr fun p hp => h p.2 (by simp [Op.operands]; exact ⟨p.1, by simpa using hp⟩)]
  case buildSlice t l ps => rw [lookParts_congr fun p hp => h p.2 (by simp [Op.operands]; exact ⟨p.1, by simpa using hp⟩)]
  case insert t m k v => rw [h m (by simp [Op.operands]), h k (by simp [Op.operands]), h v (by simp [Op.operands])]
  case load t x => rw [h x (by simp [Op.operands])]
  case store t x y => rw [h x (by simp [Op.operands]), h y (by simp [Op.operands])]
  case nilCheck x => rw [h x (by simp [Op.operands])]
  case binOp op t x y u => rw [h x (by simp [Op.operands]), h y (by simp [Op.operands])]
  case unOp op t x => rw [h x (by simp [Op.operands])]
  case convert s d x => rw [h x (by simp [Op.operands])]
  case makeInterface t x => rw [h x (by simp [Op.operands])]
  case makeFunc fn fs cs =>
    rw [looks_congr (xs := fs.toList) fun x hx => h x (by simp [Op.operands]; exact .inl (by simpa using hx)), looks_congr (xs := cs.toList) fun x hx => h x (by simp [Op.operands]; exact .inr (by simpa using hx))]
  case makeMap t r => cases r <;> rfl
  case makeSlice t l c => rw [h l (by simp [Op.operands]), h c (by simp [Op.operands])]
  case slice t x lo hi mx =>
    rw [h x (by simp [Op.operands]), looks_congr (xs := lo.toList) fun y hy => h y (by simp [Op.operands]; simp at hy; simp [hy]),
      looks_congr (xs := hi.toList) fun y hy => h y (by simp [Op.operands]; simp at hy; simp [hy]), looks_congr (xs := mx.toList) fun y hy => h y (by simp [Op.operands]; simp at hy; simp [hy])]
  case fieldAddr t x f => rw [h x (by simp [Op.operands])]
  case field t x f => rw [h x (by simp [Op.operands])]
  case indexAddr t x i => rw [h x (by simp [Op.operands]), h i (by simp [Op.operands])]
  case index t x i => rw [h x (by simp [Op.operands]), h i (by simp [Op.operands])]
  case lookup t m k ok => rw [h m (by simp [Op.operands]), h k (by simp [Op.operands])]
  case mapUpdate t m k v => rw [h m (by simp [Op.operands]), h k (by simp [Op.operands]), h v (by simp [Op.operands])]
  case mapEntry t m k => rw [h m (by simp [Op.operands]), h k (by simp [Op.operands])]
  case entryStore t m k v => rw [h m (by simp [Op.operands]), h k (by simp [Op.operands]), h v (by simp [Op.operands])]
  case extract x i => rw [h x (by simp [Op.operands])]
  case call c =>
    have ha : looks ρ c.args.toList = looks ρ' c.args.toList := looks_congr fun x hx => h x (by simp [Op.operands, Call.operands]; exact .inr (by simpa using hx))
    split
    · simp only [builtinA, ha]
    · rename_i hn
      unfold callA
      cases hc : c.callee with
      | value f => simp only [ha]; rw [h f (by simp [Op.operands, Call.operands, hc])]
      | invoke r n => simp only [ha]; rw [h r (by simp [Op.operands, Call.operands, hc])]
      | builtin b => exact absurd hc (hn b)

theorem wantedA_congr {ops : Array Oper} {o : Oper} {ρ ρ' : Env} (h : ∀ t ∈ readsOf ops o, ρ[t]? = ρ'[t]?) : wantedA ops ρ o = wantedA ops ρ' o := by
  unfold wantedA
  cases hg : o.guard with
  | none => rfl
  | some g =>
    obtain ⟨j, want⟩ := g
    cases hd : (ops.toList[j]?).bind (·.dst) with
    | none => simp only [hd]
    | some d =>
      simp only [hd]
      rw [h d (by
        unfold readsOf
        simp only [hg, hd]
        exact List.mem_append.2 (.inr (by simp)))]

theorem eval_congr {C : Ctx} {ops : Array Oper} {o : Oper} {ρ ρ' : Env} {H : AHeap} (h : ∀ t ∈ readsOf ops o, ρ[t]? = ρ'[t]?) : opEval C ρ H o = opEval C ρ' H o :=
  opEval_congr fun x hx => look_congr fun t ht => h t (by
    simp only [readsOf, List.mem_append, List.mem_flatMap]
    exact .inl ⟨x, by simpa using hx, ht⟩)

theorem stepV_congr {C : Ctx} {call : Fun} {ops : Array Oper} {o : Oper} {ρ ρ' : Env} {H : AHeap} (h : ∀ t ∈ readsOf ops o, ρ[t]? = ρ'[t]?) :
    stepV C call ops o ρ H = stepV C call ops o ρ' H := by
  unfold stepV
  rw [wantedA_congr h, eval_congr (C := C) (H := H) h]

section
variable {P : Program} {C : Ctx} (hC : CtxOk P C)
include hC

/-- A new variable: what it holds, whatever heap it comes to; and on the other side. -/
theorem alloc_both {o : Oper} {ρ : Env} {H : AHeap} {r : OpRes} (hp : opAlloc o = true) (h : opEval C ρ H o = some r) :
    ∃ (cs : List Value) (e : TypeId) (mk : Nat → Value), r = .val (mk H.next) (H.alloc (.cells cs e false)) ∧
      ∀ (μ : Mu) (w : World) (a : Act), EnvRel μ ρ a.tmps → ∃ (cs' : List Value) (v' : Value), VRelL μ cs cs' ∧
        (execOp a.eval o).run P w = .ok (.value v') (w.alloc (.cells ⟨cs'⟩ e)) ∧ ∀ (μ' : Mu) b, μ' b = some (w.heap.size, cs'.length) → VRel μ' (mk b) v' := by
  unfold opAlloc at hp
  cases ho : o.op <;> rw [ho] at hp <;> (try (simp at hp; done)) <;> simp only [opEval, ho] at h
  case alloc e =>
    obtain ⟨z, hz, rfl⟩ := Option.map_eq_some_iff.1 h
    refine ⟨z, e, fun b => nptr b 0, rfl, fun μ w a hE => ?_⟩
    obtain ⟨v, h1, h2, h3⟩ := zeroOf_sound hC hz w
    refine ⟨v.cells.toList, .pointer (some ⟨w.heap.size, 0, none⟩), by rw [← h2]; exact plain_cells h3, ?_, fun μ' b hb => .ptr _ _ _ _ hb⟩
    simp only [execOp, ho, Instr.alloc, Sem.run_bind, h1, Result.andThen_ok, newVar]
    simp [Go.newRow]
  case box e x =>
    obtain ⟨v, hv, rfl⟩ := Option.map_eq_some_iff.1 h
    refine ⟨cellsOf v, e, fun b => nptr b 0, rfl, fun μ w a hE => ?_⟩
    refine ⟨cellsOf (a.eval x), .pointer (some ⟨w.heap.size, 0, none⟩), (look_sound hE hv).cells, ?_, fun μ' b hb => .ptr _ _ _ _ hb⟩
    simp [execOp, ho, Instr.box, newVar, Go.newRow, cellsOf]
  case buildSlice t len ps =>
    split at h
    · rename_i e si by' z' hti
      obtain ⟨ti, hte, h⟩ := Option.bind_eq_some_iff.1 h
      obtain ⟨z, hz, h⟩ := Option.bind_eq_some_iff.1 h
      obtain ⟨vs, hvs, h⟩ := Option.bind_eq_some_iff.1 h
      cases hcond : (z.length.beq ti.size && !(ti.size.beq 0) && (len * ti.size).ble (2 ^ 24)) with
      | false => simp [hcond] at h
      | true =>
        simp only [hcond, cond_true] at h
        obtain ⟨cs, hcs, rfl⟩ := Option.map_eq_some_iff.1 h
        simp only [Bool.and_eq_true] at hcond
        obtain ⟨⟨c1, c2⟩, c3⟩ := hcond
        have c1 := beq_true c1
        have c3 := ble_true c3
        have c2 : ti.size ≠ 0 := by rintro e; rw [e] at c2; simp at c2
        refine ⟨cs, e, fun b => .slice (some ⟨b, 0, none⟩) len len, rfl, fun μ w a hE => ?_⟩
        obtain ⟨zv, h1, h2, h3⟩ := zeroOf_sound hC hz w
        have g1 := under_slice hC (tdA_of hti)
        have hp := lookParts_sound hE hvs
        have hzs : zv.cells.size = ti.size := by rw [← c1, ← h2]; simp
        obtain ⟨cs', e1, e2⟩ := fillA_sound (μ := μ) (place := fun i => some (i * ti.size, ti.size)) (place' := fun i => some (i * ti.size, ti.size))
          (fun i x hx => hx) hp (cells' := (Array.range (len * zv.cells.size)).map fun i => zv.cells[i % zv.cells.size]!)
            (by rw [repl_eq, h2]; exact VRelL.repl (by rw [← h2]; exact plain_cells h3) len) hcs
        refine ⟨cs'.toList, .slice (some ⟨w.heap.size, 0, none⟩) len len, e2, ?_, fun μ' b hb => .slice _ _ _ _ _ _ hb⟩
        have hw' : (Go.newRow e cs').run P w = .ok ⟨w.heap.size, 0, none⟩ (w.alloc (.cells cs' e)) := by simp [Go.newRow]
        simp only [Array.toArray_toList]
        simp only [execOp, ho, Instr.buildSlice, Sem.run_bind, run_und g1, Result.andThen_ok, run_sizeOf hC hte, Array.toList_map]
        have hno : ¬ (len * ti.size > 2 ^ 24) := by omega
        rw [if_neg hno]
        by_cases hl : len * ti.size = 0
        · have hl0 : len = 0 := by
            rcases Nat.mul_eq_zero.1 hl with h | h
            · exact h
            · exact absurd h c2
          subst hl0
          simp only [Nat.zero_mul] at e1
          have r0 : ∀ (f : Nat → Value), Array.map f (Array.range 0) = #[] := fun f => by simp
          rw [r0] at e1
          simp only [Nat.zero_mul, if_true, Sem.run_pure, r0, e1]
          simp [hw']
        · simp only [hl, if_false, Sem.run_bind, h1, Result.andThen_ok]
          rw [hzs] at e1
          simp [hzs, e1, hw']
    · simp at h
end
end Go.Ev

namespace Go.Ev
open Go Go.RowKit

def isEff : Cls → Bool
  | .eff => true
  | _ => false

/-- The canonical order is one that the region allows. -/
def okLin (b : List Nat) : List (Nat × Cls) → Nat → Bool
  | [], _ => true
  | (i, _) :: is, s => !(s.testBit i) && (b.getD i 0 &&& s).beq (b.getD i 0) && okLin b is (s ||| 2 ^ i)

def effIds (items : List (Nat × Cls)) : List Nat := (items.filter fun p => isEff p.2).map (·.1)

/-- Effects stand one behind the other; new variables stand ahead of them; reads stand where they are said to stand. -/
def okCls (C : Ctx) (ops : Array Oper) (b : List Nat) (E : List Nat) : List (Nat × Cls) → List Nat → Bool
  | [], _ => true
  | (i, c) :: is, seen =>
    (match ops.toList[i]? with
    | none => false
    | some o =>
      match c with
      | .eff => seen.all fun j => isBef b j i
      | .alloc => seen.isEmpty && opAlloc o && o.guard.isNone
      | .read lo hi => lo.ble E.length && opKeep C o && (E.take lo).all (fun j => isBef b j i) && (E.drop hi).all (fun j => isBef b i j)) &&
    okCls C ops b E is (match c with | .eff => i :: seen | _ => seen)

/-- No slot is written twice, or written and read, without an order. -/
def okSlots (ops : Array Oper) (b : List Nat) (items : List (Nat × Cls)) : Bool :=
  items.all fun p => items.all fun q => p.1.beq q.1 ||
    (match ops.toList[p.1]?, ops.toList[q.1]? with
    | some o, some u => (match u.dst with
      | some t => !((readsOf ops o).contains t || o.dst == some t) || isBef b p.1 q.1 || isBef b q.1 p.1
      | none => true)
    | _, _ => false)

def okDraw (C : Ctx) (ops : Array Oper) (items : List (Nat × Cls)) : Bool :=
  let b := bef ops
  ((List.range ops.size).all fun i => items.any fun p => p.1.beq i) && okLin b items 0 && okCls C ops b (effIds items) items [] && okSlots ops b items

/-- What was done, written into the slots. -/
def foldP (p : Nat → Bool) (es : List Ent) (ρ : Env) : Env := es.foldl (fun ρ e => if p e.i then put ρ e.o.dst e.v else ρ) ρ

theorem put_length (ρ : Env) (d : Option Tmp) (v : Value) : (put ρ d v).length = ρ.length := by cases d <;> simp [put]
theorem put_ne {ρ : Env} {d : Option Tmp} {v : Value} {t : Tmp} (h : d ≠ some t) : (put ρ d v)[t]? = ρ[t]? := by
  cases d with
  | none => rfl
  | some u => simp only [put]; rw [List.getElem?_set_ne (by rintro rfl; exact h rfl)]
theorem put_cong {ρ ρ' : Env} (hl : ρ.length = ρ'.length) {d : Option Tmp} {v : Value} {t : Tmp} (h : ρ[t]? = ρ'[t]?) : (put ρ d v)[t]? = (put ρ' d v)[t]? := by
  by_cases e : d = some t
  · subst e
    simp only [put]
    by_cases hlt : t < ρ.length
    · rw [List.getElem?_set_self hlt, List.getElem?_set_self (by rw [← hl]; exact hlt)]
    · rw [List.getElem?_eq_none (by rw [List.length_set]; exact Nat.le_of_not_lt hlt), List.getElem?_eq_none (by rw [List.length_set, ← hl]; exact Nat.le_of_not_lt hlt)]
  · rw [put_ne e, put_ne e, h]

theorem foldP_length (p : Nat → Bool) : ∀ (es : List Ent) (ρ : Env), (foldP p es ρ).length = ρ.length
  | [], _ => rfl
  | e :: es, ρ => by
    have := foldP_length p es (if p e.i then put ρ e.o.dst e.v else ρ)
    simp only [foldP, List.foldl_cons] at this ⊢
    rw [this]
    split
    · exact put_length _ _ _
    · rfl

theorem foldP_congr {p q : Nat → Bool} {t : Tmp} : ∀ (es : List Ent) (ρ ρ' : Env), ρ.length = ρ'.length → ρ[t]? = ρ'[t]? → (∀ e ∈ es, e.o.dst = some t → p e.i = q e.i) →
    (foldP p es ρ)[t]? = (foldP q es ρ')[t]?
  | [], _, _, _, h, _ => h
  | e :: es, ρ, ρ', hl, h, k => by
    simp only [foldP, List.foldl_cons]
    refine foldP_congr es _ _ ?_ ?_ fun x hx => k x (by simp [hx])
    · split <;> split <;> simp [put_length, hl]
    · by_cases hd : e.o.dst = some t
      · have := k e (by simp) hd
        rw [this]
        split
        · exact put_cong hl h
        · exact h
      · have : ∀ (r : Env), (if p e.i = true then put r e.o.dst e.v else r)[t]? = r[t]? := by intro r; split; exact put_ne hd; rfl
        rw [this]
        have : ∀ (r : Env), (if q e.i = true then put r e.o.dst e.v else r)[t]? = r[t]? := by intro r; split; exact put_ne hd; rfl
        rw [this]
        exact h

theorem foldP_append (p : Nat → Bool) (es es' : List Ent) (ρ : Env) : foldP p (es ++ es') ρ = foldP p es' (foldP p es ρ) := by simp [foldP]

/-- The canonical order, entry by entry. -/
inductive Chain (C : Ctx) (call : Fun) (ops : Array Oper) : List Ent → Env → AHeap → Env → AHeap → Prop where
  | nil (ρ : Env) (H : AHeap) : Chain C call ops [] ρ H ρ H
  | cons {e : Ent} {es : List Ent} {ρ' : Env} {H' : AHeap} : ops.toList[e.i]? = some e.o → stepV C call ops e.o e.ρ e.H = some (e.v, e.H') →
      Chain C call ops es (put e.ρ e.o.dst e.v) e.H' ρ' H' → Chain C call ops (e :: es) e.ρ e.H ρ' H'

theorem drRun_chain {C : Ctx} {call : Fun} {ops : Array Oper} : ∀ {items : List (Nat × Cls)} {ρ : Env} {H : AHeap} {es : List Ent} {ρ' : Env} {H' : AHeap},
    drRun C call ops items ρ H = some (es, ρ', H') → Chain C call ops es ρ H ρ' H' ∧ es.map (fun e => (e.i, e.c)) = items
  | [], ρ, H, es, ρ', H', h => by
    simp only [drRun, Option.some.injEq, Prod.mk.injEq] at h
    obtain ⟨rfl, rfl, rfl⟩ := h
    exact ⟨.nil _ _, rfl⟩
  | (i, c) :: is, ρ, H, es, ρ', H', h => by
    simp only [drRun, Option.bind_eq_some_iff, Option.map_eq_some_iff] at h
    obtain ⟨o, ho, ⟨v, H1⟩, hv, ⟨es1, ρ1, H2⟩, hr, he⟩ := h
    simp only [Prod.mk.injEq] at he
    obtain ⟨rfl, rfl, rfl⟩ := he
    obtain ⟨g1, g2⟩ := drRun_chain hr
    exact ⟨.cons (e := ⟨i, o, c, ρ, H, v, H1⟩) ho hv g1, by simp [g2]⟩

/-- An entry's slots are what the entries ahead of it wrote. -/
theorem chain_env {C : Ctx} {call : Fun} {ops : Array Oper} {es : List Ent} {ρ ρ' : Env} {H H' : AHeap} (h : Chain C call ops es ρ H ρ' H') :
    ∀ (p : Nat → Bool) (l r : List Ent) (e : Ent), es = l ++ e :: r → (∀ x ∈ l, p x.i = true) → e.ρ = foldP p l ρ := by
  induction h with
  | nil => intro p l r e he; simp at he
  | cons ho hv hc ih =>
    rename_i e0 es0 ρ0 H0
    intro p l r e he hp
    cases l with
    | nil => simp at he; rw [he.1]; rfl
    | cons x l =>
      simp only [List.cons_append, List.cons.injEq] at he
      obtain ⟨rfl, he⟩ := he
      have := ih p l r e he fun y hy => hp y (by simp [hy])
      rw [this]
      simp only [foldP, List.foldl_cons, hp e0 (by simp), if_true]

theorem chain_last {C : Ctx} {call : Fun} {ops : Array Oper} {es : List Ent} {ρ ρ' : Env} {H H' : AHeap} (h : Chain C call ops es ρ H ρ' H') :
    ∀ (p : Nat → Bool), (∀ x ∈ es, p x.i = true) → ρ' = foldP p es ρ := by
  induction h with
  | nil => intro p _; rfl
  | cons ho hv hc ih =>
    rename_i e0 es0 ρ0 H0
    intro p hp
    rw [ih p fun y hy => hp y (by simp [hy])]
    simp only [foldP, List.foldl_cons, hp e0 (by simp), if_true]

theorem chain_mem {C : Ctx} {call : Fun} {ops : Array Oper} {es : List Ent} {ρ ρ' : Env} {H H' : AHeap} (h : Chain C call ops es ρ H ρ' H') :
    ∀ e ∈ es, ops.toList[e.i]? = some e.o ∧ stepV C call ops e.o e.ρ e.H = some (e.v, e.H') := by
  induction h with
  | nil => intro e he; simp at he
  | cons ho hv hc ih =>
    intro e he
    rcases List.mem_cons.1 he with rfl | he
    · exact ⟨ho, hv⟩
    · exact ih e he

end Go.Ev

namespace Go.Ev
open Go Go.RowKit

theorem okLin_spec {b : List Nat} : ∀ {items : List (Nat × Cls)} {s : Nat}, okLin b items s = true → ∀ (l r : List (Nat × Cls)) (p : Nat × Cls), items = l ++ p :: r →
    s.testBit p.1 = false ∧ (∀ x ∈ l, x.1 ≠ p.1) ∧ ∀ j, isBef b j p.1 = true → s.testBit j = true ∨ ∃ x ∈ l, x.1 = j
  | [], s, _, l, r, p, he => by simp at he
  | (i, c) :: is, s, h, l, r, p, he => by
    simp only [okLin, Bool.and_eq_true] at h
    obtain ⟨⟨h1, h2⟩, h3⟩ := h
    cases l with
    | nil =>
      simp only [List.nil_append, List.cons.injEq] at he
      obtain ⟨rfl, rfl⟩ := he
      refine ⟨by simpa using h1, by simp, fun j hj => .inl ?_⟩
      have h2 := beq_true h2
      unfold isBef at hj
      rw [← h2, Nat.testBit_and, Bool.and_eq_true] at hj
      exact hj.2
    | cons x l =>
      simp only [List.cons_append, List.cons.injEq] at he
      obtain ⟨rfl, rfl⟩ := he
      obtain ⟨g1, g2, g3⟩ := okLin_spec h3 l r p rfl
      simp only [Nat.testBit_or, Nat.testBit_two_pow, Bool.or_eq_false_iff, decide_eq_false_iff_not] at g1
      refine ⟨g1.1, fun y hy => ?_, fun j hj => ?_⟩
      · rcases List.mem_cons.1 hy with rfl | hy
        · exact g1.2
        · exact g2 y hy
      · rcases g3 j hj with g | ⟨y, hy, e⟩
        · simp only [Nat.testBit_or, Nat.testBit_two_pow, Bool.or_eq_true, decide_eq_true_eq] at g
          rcases g with g | g
          · exact .inl g
          · exact .inr ⟨(i, c), by simp, g⟩
        · exact .inr ⟨y, by simp [hy], e⟩

def isAl : Cls → Bool
  | .alloc => true
  | _ => false

/-- What okCls says of one entry. -/
structure ClsOk (C : Ctx) (ops : Array Oper) (b : List Nat) (E : List Nat) (l : List (Nat × Cls)) (i : Nat) (o : Oper) (c : Cls) : Prop where
  eff : c = .eff → ∀ x ∈ l, isEff x.2 = true → isBef b x.1 i = true
  al : c = .alloc → (∀ x ∈ l, isEff x.2 = false) ∧ opAlloc o = true ∧ o.guard = none
  rd : ∀ lo hi, c = .read lo hi → lo ≤ E.length ∧ opKeep C o = true ∧ (∀ j ∈ E.take lo, isBef b j i = true) ∧ (∀ j ∈ E.drop hi, isBef b i j = true)

theorem okCls_spec {C : Ctx} {ops : Array Oper} {b E : List Nat} : ∀ {items : List (Nat × Cls)} {seen : List Nat}, okCls C ops b E items seen = true → ∀ (l r : List (Nat × Cls)) (i : Nat) (c : Cls) (o : Oper),
    items = l ++ (i, c) :: r → ops.toList[i]? = some o →
    (c = .eff → (∀ j ∈ seen, isBef b j i = true) ∧ ∀ x ∈ l, isEff x.2 = true → isBef b x.1 i = true) ∧
    (c = .alloc → seen = [] ∧ (∀ x ∈ l, isEff x.2 = false) ∧ opAlloc o = true ∧ o.guard = none) ∧
    (∀ lo hi, c = .read lo hi → lo ≤ E.length ∧ opKeep C o = true ∧ (∀ j ∈ E.take lo, isBef b j i = true) ∧ (∀ j ∈ E.drop hi, isBef b i j = true))
  | [], seen, _, l, r, i, c, o, he, _ => by simp at he
  | (i0, c0) :: is, seen, h, l, r, i, c, o, he, ho => by
    simp only [okCls, Bool.and_eq_true] at h
    obtain ⟨h1, h2⟩ := h
    cases l with
    | nil =>
      simp only [List.nil_append, List.cons.injEq, Prod.mk.injEq] at he
      obtain ⟨⟨rfl, rfl⟩, rfl⟩ := he
      simp only [ho] at h1
      refine ⟨?_, ?_, ?_⟩
      · rintro rfl; exact ⟨by simpa using h1, by simp⟩
      · rintro rfl
        simp only [Bool.and_eq_true] at h1
        exact ⟨by simpa using h1.1.1, by simp, h1.1.2, by simpa using h1.2⟩
      · rintro lo hi rfl
        simp only [Bool.and_eq_true] at h1
        exact ⟨ble_true h1.1.1.1, h1.1.1.2, by simpa using h1.1.2, by simpa using h1.2⟩
    | cons x l =>
      simp only [List.cons_append, List.cons.injEq] at he
      obtain ⟨rfl, rfl⟩ := he
      obtain ⟨g1, g2, g3⟩ := okCls_spec h2 l r i c o rfl ho
      refine ⟨fun hc => ?_, fun hc => ?_, g3⟩
      · obtain ⟨k1, k2⟩ := g1 hc
        cases c0 with
        | eff =>
          simp only [List.mem_cons, forall_eq_or_imp] at k1
          exact ⟨k1.2, fun x hx hx2 => by
            rcases List.mem_cons.1 hx with rfl | hx
            · exact k1.1
            · exact k2 x hx hx2⟩
        | read lo hi =>
          exact ⟨k1, fun x hx hx2 => by
            rcases List.mem_cons.1 hx with rfl | hx
            · simp [isEff] at hx2
            · exact k2 x hx hx2⟩
        | alloc =>
          exact ⟨k1, fun x hx hx2 => by
            rcases List.mem_cons.1 hx with rfl | hx
            · simp [isEff] at hx2
            · exact k2 x hx hx2⟩
      · obtain ⟨k1, k2, k3⟩ := g2 hc
        cases c0 with
        | eff => simp at k1
        | read lo hi =>
          exact ⟨k1, fun x hx => by
            rcases List.mem_cons.1 hx with rfl | hx
            · rfl
            · exact k2 x hx, k3⟩
        | alloc =>
          exact ⟨k1, fun x hx => by
            rcases List.mem_cons.1 hx with rfl | hx
            · rfl
            · exact k2 x hx, k3⟩

def effsOf (es : List Ent) : List Ent := es.filter fun e => isEff e.c

theorem phases_append : ∀ (l r : List Ent) (Hf : AHeap), phases (l ++ r) Hf = (effsOf l).map (·.H) ++ phases r Hf
  | [], r, Hf => rfl
  | e :: l, r, Hf => by
    have ih := phases_append l r Hf
    have hE : effsOf (e :: l) = if isEff e.c then e :: effsOf l else effsOf l := by simp [effsOf, List.filter_cons]
    cases hc : e.c with
    | eff => rw [hE, hc]; simp only [List.cons_append, phases, hc, isEff, if_true, List.map_cons, ih]
    | read lo hi => rw [hE, hc]; simp only [List.cons_append, phases, hc, isEff, Bool.false_eq_true, if_false, ih]
    | alloc => rw [hE, hc]; simp only [List.cons_append, phases, hc, isEff, Bool.false_eq_true, if_false, ih]

theorem phases_len (es : List Ent) (Hf : AHeap) : (phases es Hf).length = (effsOf es).length + 1 := by
  have := phases_append es [] Hf
  simp only [List.append_nil] at this
  rw [this]; simp [phases]

theorem phases_last (es : List Ent) (Hf : AHeap) : (phases es Hf)[(effsOf es).length]? = some Hf := by
  have := phases_append es [] Hf
  simp only [List.append_nil] at this
  rw [this]
  rw [List.getElem?_append_right (by simp)]
  simp [phases]

section
variable {P : Program} {C : Ctx} (hC : CtxOk P C) {call : Fun} {ops : Array Oper}

/-- What an entry of the chain does to the heap. -/
def EntOk (C : Ctx) (e : Ent) : Prop :=
  (∀ lo hi, e.c = .read lo hi → e.H' = e.H) ∧ (e.c = .alloc → ∃ cs t, e.H' = e.H.alloc (.cells cs t false))

/-- The heap ahead of the first effect. -/
theorem phase0 : ∀ {es : List Ent} {ρ ρ' : Env} {H Hf : AHeap}, Chain C call ops es ρ H ρ' Hf → (∀ e ∈ es, EntOk C e) →
    ∃ h, (phases es Hf)[0]? = some h ∧ H.next ≤ h.next ∧ (∀ b, b < H.next → h.get b = H.get b) ∧
      (∀ {μ : Mu} {B : Nat} {w : World}, WRel μ B H w → WRel μ B h w) ∧
      ∀ (l r : List Ent) (e : Ent), es = l ++ e :: r → e.c = .alloc → (∀ x ∈ l, isEff x.c = false) → H.next ≤ e.H.next ∧ e.H.next < h.next ∧ h.get e.H.next = e.H'.get e.H.next
  | [], ρ, ρ', H, Hf, h, _ => by
    cases h
    exact ⟨H, rfl, Nat.le_refl _, fun _ _ => rfl, fun h => h, fun l r e he => by simp at he⟩
  | e0 :: es, ρ, ρ', H, Hf, h, ok => by
    cases h with
    | cons ho hv hc =>
    have ok0 := ok e0 (by simp)
    cases hcl : e0.c with
    | eff =>
      refine ⟨e0.H, by simp [phases, hcl], Nat.le_refl _, fun _ _ => rfl, fun h => h, fun l r e he ha hl => ?_⟩
      cases l with
      | nil => simp at he; rw [← he.1, hcl] at ha; cases ha
      | cons x l =>
        simp at he
        have := hl x (by simp)
        rw [← he.1, hcl] at this; simp [isEff] at this
    | read lo hi =>
      have hH := ok0.1 lo hi hcl
      obtain ⟨h, g1, g2, g3, g4, g5⟩ := phase0 hc fun e he => ok e (by simp [he])
      rw [hH] at g2 g3 g4 g5
      refine ⟨h, by simpa [phases, hcl] using g1, g2, g3, fun hw => g4 hw, fun l r e he ha hl => ?_⟩
      cases l with
      | nil => simp at he; rw [← he.1, hcl] at ha; cases ha
      | cons x l =>
        simp only [List.cons_append, List.cons.injEq] at he
        exact g5 l r e he.2 ha fun y hy => hl y (by simp [hy])
    | alloc =>
      obtain ⟨cs, t, hH⟩ := ok0.2 hcl
      obtain ⟨h, g1, g2, g3, g4, g5⟩ := phase0 hc fun e he => ok e (by simp [he])
      rw [hH] at g2 g3 g4 g5
      simp only [AHeap.next_alloc] at g2 g3
      refine ⟨h, by simpa [phases, hcl] using g1, by omega, fun b hb => ?_, fun hw => g4 (hw.more _), fun l r e he ha hl => ?_⟩
      · rw [g3 b (by omega), AHeap.get_alloc, if_neg (by omega)]
      · cases l with
        | nil =>
          simp only [List.nil_append, List.cons.injEq] at he
          obtain ⟨rfl, rfl⟩ := he
          refine ⟨Nat.le_refl _, by omega, ?_⟩
          rw [g3 _ (by omega), hH]
        | cons x l =>
          simp only [List.cons_append, List.cons.injEq] at he
          obtain ⟨k1, k2, k3⟩ := g5 l r e he.2 ha fun y hy => hl y (by simp [hy])
          simp only [AHeap.next_alloc] at k1
          exact ⟨by omega, k2, k3⟩

/-- Without new variables ahead, the heap ahead of the first effect is the one that stands. -/
theorem phase0_steady : ∀ {es : List Ent} {ρ ρ' : Env} {H Hf : AHeap}, Chain C call ops es ρ H ρ' Hf → (∀ e ∈ es, EntOk C e) → (∀ e ∈ es, e.c ≠ .alloc) → (phases es Hf)[0]? = some H
  | [], ρ, ρ', H, Hf, h, _, _ => by cases h; rfl
  | e0 :: es, ρ, ρ', H, Hf, h, ok, na => by
    cases h with
    | cons ho hv hc =>
    cases hcl : e0.c with
    | eff => simp [phases, hcl]
    | read lo hi =>
      have := phase0_steady hc (fun e he => ok e (by simp [he])) fun e he => na e (by simp [he])
      rw [(ok e0 (by simp)).1 lo hi hcl] at this
      simpa [phases, hcl] using this
    | alloc => exact absurd hcl (na e0 (by simp))

theorem chain_split : ∀ {l r : List Ent} {ρ ρ' : Env} {H Hf : AHeap}, Chain C call ops (l ++ r) ρ H ρ' Hf → ∃ ρ1 H1, Chain C call ops l ρ H ρ1 H1 ∧ Chain C call ops r ρ1 H1 ρ' Hf
  | [], r, ρ, ρ', H, Hf, h => ⟨ρ, H, .nil _ _, h⟩
  | e :: l, r, ρ, ρ', H, Hf, h => by
    cases h with
    | cons ho hv hc =>
    obtain ⟨ρ1, H1, g1, g2⟩ := chain_split hc
    exact ⟨ρ1, H1, .cons ho hv g1, g2⟩

include hC in
theorem ent_ok {es : List Ent} {ρ ρ' : Env} {H Hf : AHeap} (h : Chain C call ops es ρ H ρ' Hf) {b E : List Nat} (hk : okCls C ops b E (es.map fun e => (e.i, e.c)) [] = true) : ∀ e ∈ es, EntOk C e := by
  intro e he
  obtain ⟨l, r, rfl⟩ := List.append_of_mem he
  obtain ⟨h1, h2⟩ := chain_mem h e he
  obtain ⟨g1, g2, g3⟩ := okCls_spec hk (l.map fun e => (e.i, e.c)) (r.map fun e => (e.i, e.c)) e.i e.c e.o (by simp) h1
  refine ⟨fun lo hi hc => ?_, fun hc => ?_⟩
  · exact stepV_keep (g3 lo hi hc).2.1 h2
  · obtain ⟨_, _, k1, k2⟩ := g2 hc
    simp only [stepV, wantedA, k2, Option.bind_some, Option.bind_eq_some_iff] at h2
    obtain ⟨r, hr, h2⟩ := h2
    obtain ⟨cs, t, mk, rfl, _⟩ := alloc_both hC k1 hr
    simp only [Option.some.injEq, Prod.mk.injEq] at h2
    exact ⟨cs, t, h2.2.symm⟩
end
end Go.Ev

namespace Go.Ev
open Go Go.RowKit

mutual
theorem same_eq : ∀ (u v : Value), same u v = true → u = v
  | .bool a, .bool b, h => by simp [same] at h; rw [h]
  | .int k a, .int j b, h => by simp [same] at h; rw [h.1, h.2]
  | .string a, .string b, h => by simp [same] at h; rw [h]
  | .pointer a, .pointer b, h => by simp [same] at h; rw [h]
  | .slice a l c, .slice b m d, h => by simp [same] at h; rw [h.1.1, h.1.2, h.2]
  | .map a, .map b, h => by simp [same] at h; rw [h]
  | .func f ⟨a⟩ ⟨c⟩, .func g ⟨b⟩ ⟨d⟩, h => by
    simp only [same, Bool.and_eq_true, decide_eq_true_eq] at h
    rw [h.1.1, same_eqL a b h.1.2, same_eqL c d h.2]
  | .nilFunc, .nilFunc, _ => rfl
  | .iface t v, .iface u w, h => by
    simp only [same, Bool.and_eq_true, beq_iff_eq] at h
    rw [h.1, same_eq v w h.2]
  | .nilIface, .nilIface, _ => rfl
  | .agg ⟨a⟩, .agg ⟨b⟩, h => by rw [same_eqL a b (by simpa [same] using h)]
  | .tuple ⟨a⟩, .tuple ⟨b⟩, h => by rw [same_eqL a b (by simpa [same] using h)]
theorem same_eqL : ∀ (u v : List Value), sameL u v = true → u = v
  | [], [], _ => rfl
  | x :: xs, y :: ys, h => by
    simp only [sameL, Bool.and_eq_true] at h
    rw [same_eq x y h.1, same_eqL xs ys h.2]
end

def lst (listed : Array Bool) (i : Nat) : Bool := listed.getD i false

theorem foldP_false {p : Nat → Bool} : ∀ (es : List Ent) (ρ : Env), (∀ e ∈ es, p e.i = false) → foldP p es ρ = ρ
  | [], _, _ => rfl
  | e :: es, ρ, h => by
    simp only [foldP, List.foldl_cons, h e (by simp), Bool.false_eq_true, if_false]
    exact foldP_false es ρ fun x hx => h x (by simp [hx])

/-- What the checks of a region's text give. -/
structure DrOk (C : Ctx) (call : Fun) (ops : Array Oper) (es : List Ent) (ρ0 : Env) (H0 : AHeap) (ρf : Env) (Hf : AHeap) : Prop where
  chain : Chain C call ops es ρ0 H0 ρf Hf
  all : ∀ i, i < ops.size → ∃ e ∈ es, e.i = i
  lin : okLin (bef ops) (es.map fun e => (e.i, e.c)) 0 = true
  cls : okCls C ops (bef ops) (effIds (es.map fun e => (e.i, e.c))) (es.map fun e => (e.i, e.c)) [] = true
  slots : okSlots ops (bef ops) (es.map fun e => (e.i, e.c)) = true
  stab : ∀ e ∈ es, stable C ops (phases es Hf) e = true

section
variable {P : Program} {C : Ctx} {call : Fun} {ops : Array Oper} {es : List Ent} {ρ0 ρf : Env} {H0 Hf : AHeap}

theorem DrOk.ne (D : DrOk C call ops es ρ0 H0 ρf Hf) {l r : List Ent} {e : Ent} (he : es = l ++ e :: r) : (∀ x ∈ l, x.i ≠ e.i) ∧ (∀ x ∈ r, x.i ≠ e.i) := by
  have key : ∀ (l r : List Ent) (e : Ent), es = l ++ e :: r → ∀ x ∈ l, x.i ≠ e.i := fun l r e he x hx => by
    have := (okLin_spec D.lin (l.map fun e => (e.i, e.c)) (r.map fun e => (e.i, e.c)) (e.i, e.c) (by rw [he]; simp)).2.1 (x.i, x.c) (List.mem_map.2 ⟨x, hx, rfl⟩)
    exact this
  refine ⟨key l r e he, fun x hx => ?_⟩
  obtain ⟨r1, r2, rfl⟩ := List.append_of_mem hx
  exact Ne.symm (key (l ++ e :: r1) r2 x (by rw [he]; simp) e (by simp))

theorem DrOk.prior (D : DrOk C call ops es ρ0 H0 ρf Hf) {l r : List Ent} {e : Ent} (he : es = l ++ e :: r) {j : Nat} (hj : isBef (bef ops) j e.i = true) : ∃ x ∈ l, x.i = j := by
  have := (okLin_spec D.lin (l.map fun e => (e.i, e.c)) (r.map fun e => (e.i, e.c)) (e.i, e.c) (by rw [he]; simp)).2.2 j hj
  rcases this with h | ⟨x, hx, h⟩
  · simp at h
  · obtain ⟨y, hy, rfl⟩ := List.mem_map.1 hx
    exact ⟨y, hy, h⟩

theorem DrOk.uniq (D : DrOk C call ops es ρ0 H0 ρf Hf) {x y : Ent} (hx : x ∈ es) (hy : y ∈ es) (h : x.i = y.i) : x = y := by
  obtain ⟨l, r, he⟩ := List.append_of_mem hy
  have hn := D.ne he
  rw [he] at hx
  rcases List.mem_append.1 hx with hx | hx
  · exact absurd h (hn.1 x hx)
  · rcases List.mem_cons.1 hx with hx | hx
    · exact hx
    · exact absurd h (hn.2 x hx)

theorem DrOk.edge (_D : DrOk C call ops es ρ0 H0 ρf Hf) {i : Nat} {o : Oper} (ho : ops.toList[i]? = some o) {g : Edge} (hg : g ∈ o.after.toList) (hb : Region.binds .any g = true) : isBef (bef ops) g.on i = true := by
  have hgt := befGo_get ops.toList [] i o ho
  simp only [List.length_nil, Nat.zero_add] at hgt
  unfold isBef bef
  rw [List.getD_eq_getElem?_getD, hgt]
  simp only [Option.getD_some]
  unfold befStep
  have key : ∀ (acc : List Nat) (l : List Edge) (s : Nat), (s.testBit g.on = true ∨ g ∈ l) → (l.foldl (fun s e => cond (Region.binds .any e) (s ||| 2 ^ e.on ||| acc.getD e.on 0) s) s).testBit g.on = true := by
    intro acc l
    induction l with
    | nil => intro s h; simpa using h
    | cons x l ih =>
      intro s h
      simp only [List.foldl_cons]
      refine ih _ ?_
      rcases h with h | h
      · left
        cases Region.binds .any x <;> simp [Nat.testBit_or, h]
      · rcases List.mem_cons.1 h with rfl | h
        · left
          rw [hb]
          simp [Nat.testBit_or]
        · exact .inr h
  exact key _ _ 0 (.inr hg)

/-- What stands behind what was done. -/
def Closed (ops : Array Oper) (p : Nat → Bool) : Prop := ∀ (j : Nat) o, ops.toList[j]? = some o → p j = true → ∀ e ∈ o.after.toList, Region.binds .any e = true → p e.on = true

/-- Who writes a slot that this one minds stands on one side of it. -/
theorem DrOk.sides (D : DrOk C call ops es ρ0 H0 ρf Hf) {l r : List Ent} {e : Ent} (he : es = l ++ e :: r) {p : Nat → Bool} (hcl : Closed ops p)
    (hno : p e.i = false) (hed : ∀ g ∈ e.o.after.toList, Region.binds .any g = true → p g.on = true) {t : Tmp} (ht : (readsOf ops e.o).contains t = true ∨ e.o.dst = some t) :
    (∀ x ∈ l, x.o.dst = some t → p x.i = true) ∧ (∀ x ∈ r, x.o.dst = some t → p x.i = false) := by
  have hme : e ∈ es := by rw [he]; simp
  have ho := (chain_mem D.chain e hme).1
  have side : ∀ x ∈ es, x.i ≠ e.i → x.o.dst = some t → isBef (bef ops) e.i x.i = true ∨ isBef (bef ops) x.i e.i = true := fun x hx hne hd => by
    have h := D.slots
    unfold okSlots at h
    rw [List.all_eq_true] at h
    have h := h (e.i, e.c) (List.mem_map.2 ⟨e, hme, rfl⟩)
    rw [List.all_eq_true] at h
    have h := h (x.i, x.c) (List.mem_map.2 ⟨x, hx, rfl⟩)
    simp only [ho, (chain_mem D.chain x hx).1, hd] at h
    rw [beq_false (Ne.symm hne), Bool.false_or] at h
    simp only [Bool.or_eq_true] at h
    rcases h with (h | h) | h
    · exfalso
      simp only [Bool.not_eq_true', Bool.or_eq_false_iff] at h
      rcases ht with ht | ht
      · rw [h.1] at ht; cases ht
      · rw [ht] at h; simp at h
    · exact .inl h
    · exact .inr h
  constructor
  · intro x hx hd
    have hxe : x ∈ es := by rw [he]; simp [hx]
    rcases side x hxe ((D.ne he).1 x hx) hd with h | h
    · exfalso
      obtain ⟨l1, l2, rfl⟩ := List.append_of_mem hx
      obtain ⟨y, hy, e1⟩ := D.prior (l := l1) (r := l2 ++ e :: r) (e := x) (by rw [he]; simp) h
      exact (D.ne he).1 y (by simp [hy]) e1
    · exact bef_listed (ops := ops) (listed := fun i => p i = true) hcl e.i e.o x.i ho hed h
  · intro x hx hd
    have hxe : x ∈ es := by rw [he]; simp [hx]
    rcases side x hxe ((D.ne he).2 x hx) hd with h | h
    · cases hp : p x.i with
      | false => rfl
      | true =>
        have := bef_listed (ops := ops) (listed := fun i => p i = true) hcl x.i x.o e.i (chain_mem D.chain x hxe).1 (hcl x.i x.o (chain_mem D.chain x hxe).1 hp) h
        have this : p e.i = true := this
        rw [hno] at this; cases this
    · exfalso
      obtain ⟨y, hy, e1⟩ := D.prior he h
      obtain ⟨r1, r2, rfl⟩ := List.append_of_mem hx
      exact (D.ne (l := l ++ e :: r1) (r := r2) (e := x) (by rw [he]; simp)).1 y (by simp [hy]) e1

/-- The slots that an operation minds are as the canonical order had them. -/
theorem DrOk.agree (D : DrOk C call ops es ρ0 H0 ρf Hf) {l r : List Ent} {e : Ent} (he : es = l ++ e :: r) {p : Nat → Bool} (hcl : Closed ops p)
    (hno : p e.i = false) (hed : ∀ g ∈ e.o.after.toList, Region.binds .any g = true → p g.on = true) {t : Tmp} (ht : (readsOf ops e.o).contains t = true ∨ e.o.dst = some t) :
    (foldP p es ρ0)[t]? = e.ρ[t]? := by
  obtain ⟨h1, h2⟩ := D.sides he hcl hno hed ht
  have hr := chain_env D.chain (fun _ => true) l r e he fun _ _ => rfl
  rw [hr]
  have e1 : foldP p es ρ0 = foldP p (e :: r) (foldP p l ρ0) := by rw [he, foldP_append]
  rw [e1]
  have e2 : (foldP p (e :: r) (foldP p l ρ0))[t]? = (foldP (fun _ => false) (e :: r) (foldP (fun _ => true) l ρ0))[t]? := by
    refine foldP_congr _ _ _ (by simp [foldP_length]) ?_ fun x hx hd => ?_
    · exact foldP_congr _ _ _ rfl rfl fun x hx hd => h1 x hx hd
    · rcases List.mem_cons.1 hx with rfl | hx
      · exact hno
      · exact h2 x hx hd
  rw [e2, foldP_false _ _ fun _ _ => rfl]

def add (p : Nat → Bool) (i : Nat) : Nat → Bool := fun j => p j || j.beq i

theorem add_ne {p : Nat → Bool} {i j : Nat} (h : j ≠ i) : add p i j = p j := by simp [add, beq_false h]
theorem add_self {p : Nat → Bool} {i : Nat} : add p i i = true := by simp [add]

theorem DrOk.put (D : DrOk C call ops es ρ0 H0 ρf Hf) {l r : List Ent} {e : Ent} (he : es = l ++ e :: r) {p : Nat → Bool} (hcl : Closed ops p)
    (hno : p e.i = false) (hed : ∀ g ∈ e.o.after.toList, Region.binds .any g = true → p g.on = true) :
    foldP (add p e.i) es ρ0 = Ev.put (foldP p es ρ0) e.o.dst e.v := by
  have hn := D.ne he
  apply List.ext_getElem?
  intro t
  by_cases hd : e.o.dst = some t
  · obtain ⟨h1, h2⟩ := D.sides he hcl hno hed (t := t) (.inr hd)
    have e1 : ∀ q : Nat → Bool, foldP q es ρ0 = foldP q r (foldP q [e] (foldP q l ρ0)) := fun q => by rw [he, foldP_append]; rfl
    rw [e1 (add p e.i)]
    have e2 : foldP (add p e.i) [e] (foldP (add p e.i) l ρ0) = Ev.put (foldP (add p e.i) l ρ0) e.o.dst e.v := by
      simp only [foldP, List.foldl_cons, List.foldl_nil, add_self, if_true]
    rw [e2]
    have e3 : (foldP (add p e.i) r (Ev.put (foldP (add p e.i) l ρ0) e.o.dst e.v))[t]? = (Ev.put (foldP (add p e.i) l ρ0) e.o.dst e.v)[t]? := by
      have := foldP_congr (p := add p e.i) (q := fun _ => false) (t := t) r (Ev.put (foldP (add p e.i) l ρ0) e.o.dst e.v) _ rfl rfl fun x hx hx2 => by
        rw [add_ne (hn.2 x hx)]; exact h2 x hx hx2
      rw [this, foldP_false _ _ fun _ _ => rfl]
    rw [e3, hd]
    simp only [Ev.put]
    by_cases hlt : t < ρ0.length
    · rw [List.getElem?_set_self (by simpa [foldP_length] using hlt), List.getElem?_set_self (by simpa [foldP_length] using hlt)]
    · rw [List.getElem?_eq_none (by simp [foldP_length]; omega), List.getElem?_eq_none (by simp [foldP_length]; omega)]
  · rw [put_ne hd]
    refine foldP_congr _ _ _ rfl rfl fun x hx hx2 => ?_
    by_cases h : x.i = e.i
    · have hme : e ∈ es := by rw [he]; simp
      have := D.uniq hx hme h
      rw [this] at hx2; exact absurd hx2 hd
    · exact add_ne h

end
end Go.Ev

namespace Go.Ev
open Go Go.RowKit

theorem isEff_eq {c : Cls} (h : isEff c = true) : c = .eff := by cases c <;> first | rfl | (simp [isEff] at h)

theorem eff_at : ∀ {es : List Ent} {k : Nat}, k < (effsOf es).length → ∃ l e r, es = l ++ e :: r ∧ e.c = .eff ∧ (effsOf l).length = k
  | [], k, h => by simp [effsOf] at h
  | e :: es, k, h => by
    have hE : effsOf (e :: es) = if isEff e.c then e :: effsOf es else effsOf es := by simp [effsOf, List.filter_cons]
    have hE' : ∀ l : List Ent, effsOf (e :: l) = if isEff e.c then e :: effsOf l else effsOf l := fun l => by simp [effsOf, List.filter_cons]
    cases hc : isEff e.c with
    | false =>
      rw [hE, hc, if_neg (by simp)] at h
      obtain ⟨l, x, r, h1, h2, h3⟩ := eff_at h
      exact ⟨e :: l, x, r, by rw [h1]; rfl, h2, by rw [hE', hc, if_neg (by simp)]; exact h3⟩
    | true =>
      rw [hE, hc, if_pos rfl] at h
      cases k with
      | zero => exact ⟨[], e, es, rfl, isEff_eq hc, rfl⟩
      | succ k =>
        obtain ⟨l, x, r, h1, h2, h3⟩ := eff_at (by simpa using h : k < (effsOf es).length)
        exact ⟨e :: l, x, r, by rw [h1]; rfl, h2, by rw [hE', hc, if_pos rfl]; simp [h3]⟩

theorem effsOf_append (l r : List Ent) : effsOf (l ++ r) = effsOf l ++ effsOf r := by simp [effsOf]
theorem effsOf_cons {e : Ent} {r : List Ent} (h : e.c = .eff) : effsOf (e :: r) = e :: effsOf r := by simp [effsOf, List.filter_cons, h, isEff]

theorem effIds_map (es : List Ent) : effIds (es.map fun e => (e.i, e.c)) = (effsOf es).map (·.i) := by
  unfold effIds effsOf
  rw [List.filter_map, List.map_map]
  rfl

def unl (n : Nat) (listed : Array Bool) : Nat := (List.range n).countP fun i => !lst listed i

theorem countP_lt {p q : Nat → Bool} {x : Nat} (hq : q x = true) (hp : p x = false) : ∀ {l : List Nat}, x ∈ l → (∀ y, p y = true → q y = true) → l.countP p < l.countP q
  | [], h, _ => by simp at h
  | y :: l, h, k => by
    have hle : l.countP p ≤ l.countP q := List.countP_mono_left fun y _ hy => k y hy
    rcases List.mem_cons.1 h with rfl | h
    · simp only [List.countP_cons, hq, hp]; simp; omega
    · have := countP_lt hq hp h k
      simp only [List.countP_cons]
      have : (if p y = true then 1 else 0) ≤ (if q y = true then 1 else 0) := by
        by_cases hy : p y = true
        · simp [hy, k y hy]
        · simp [hy]
      omega

theorem lst_set {listed : Array Bool} {i : Nat} (h : i < listed.size) : lst (listed.setIfInBounds i true) = add (lst listed) i := by
  funext j
  unfold lst add
  by_cases hij : j = i
  · subst hij; simp [h]
  · rw [getD_set_ne false (Ne.symm hij)]; simp [beq_false hij]

section
variable {P : Program} {C : Ctx} (hC : CtxOk P C) {call : Fun} (hcall : CallOk P C call) {ops : Array Oper} {es : List Ent} {ρ0 ρf : Env} {H0 Hf : AHeap}
  (D : DrOk C call ops es ρ0 H0 ρf Hf)

/-- How far a region has come. -/
structure DInv (ops : Array Oper) (es : List Ent) (ρ0 : Env) (H0 Hf : AHeap) (B : Nat) (μ0 : Mu) (w0 : World) (d0 : List Deferred) (listed : Array Bool) (k : Nat) (h : AHeap) (μ : Mu) (a : Act) (w : World) : Prop where
  size : listed.size = ops.size
  clo : Closed ops (lst listed)
  env : EnvRel μ (foldP (lst listed) es ρ0) a.tmps
  heap : (phases es Hf)[k]? = some h
  effs : ∀ l r e, es = l ++ e :: r → e.c = .eff → (lst listed e.i = true ↔ (effsOf l).length < k)
  pend : ∀ e ∈ es, e.c = .alloc → lst listed e.i = false → μ e.H.next = none ∧ h.get e.H.next = e.H'.get e.H.next
  went : Went B μ0 H0 w0 μ h w
  defers : a.defers = d0

variable {B : Nat} {μ0 : Mu} {w0 : World} {d0 : List Deferred} {listed : Array Bool} {k : Nat} {h : AHeap} {μ : Mu} {a : Act} {w : World}

include D in
theorem DrOk.clsAt {l r : List Ent} {e : Ent} (he : es = l ++ e :: r) :
    (e.c = .eff → ∀ x ∈ l, isEff x.c = true → isBef (bef ops) x.i e.i = true) ∧
    (e.c = .alloc → (∀ x ∈ l, isEff x.c = false) ∧ opAlloc e.o = true ∧ e.o.guard = none) ∧
    (∀ lo hi, e.c = .read lo hi → lo ≤ (effsOf es).length ∧ opKeep C e.o = true ∧ (∀ j ∈ ((effsOf es).map (·.i)).take lo, isBef (bef ops) j e.i = true) ∧ (∀ j ∈ ((effsOf es).map (·.i)).drop hi, isBef (bef ops) e.i j = true)) := by
  have hme : e ∈ es := by rw [he]; simp
  have := okCls_spec D.cls (l.map fun e => (e.i, e.c)) (r.map fun e => (e.i, e.c)) e.i e.c e.o (by rw [he]; simp) (chain_mem D.chain e hme).1
  rw [effIds_map] at this
  obtain ⟨h1, h2, h3⟩ := this
  refine ⟨fun hc x hx hx2 => (h1 hc).2 (x.i, x.c) (List.mem_map.2 ⟨x, hx, rfl⟩) hx2, fun hc => ?_, fun lo hi hc => ?_⟩
  · obtain ⟨_, g1, g2, g3⟩ := h2 hc
    exact ⟨fun x hx => g1 (x.i, x.c) (List.mem_map.2 ⟨x, hx, rfl⟩), g2, g3⟩
  · obtain ⟨g0, g1, g2, g3⟩ := h3 lo hi hc
    exact ⟨by simpa using g0, g1, g2, g3⟩

include D in
theorem DrOk.rest {l r : List Ent} {e : Ent} (he : es = l ++ e :: r) : Chain C call ops (e :: r) e.ρ e.H ρf Hf ∧ Chain C call ops r (Ev.put e.ρ e.o.dst e.v) e.H' ρf Hf := by
  have hch := D.chain
  rw [he] at hch
  obtain ⟨ρ1, H1, _, g⟩ := chain_split hch
  cases g with
  | cons ho hv hc => exact ⟨.cons ho hv hc, hc⟩

include hC D in
theorem DrOk.ents : ∀ e ∈ es, EntOk C e := ent_ok hC D.chain D.cls

include hC D in
/-- The heap behind an effect. -/
theorem DrOk.next {l r : List Ent} {e : Ent} (he : es = l ++ e :: r) (hc : e.c = .eff) : (phases es Hf)[(effsOf l).length]? = some e.H ∧ (phases es Hf)[(effsOf l).length + 1]? = some e.H' := by
  have hp : phases es Hf = (effsOf l).map (·.H) ++ phases (e :: r) Hf := by rw [he, phases_append]
  have hp2 : phases (e :: r) Hf = e.H :: phases r Hf := by simp only [phases, hc]
  have hs : (phases r Hf)[0]? = some e.H' := by
    refine phase0_steady (D.rest he).2 (fun x hx => D.ents hC x (by rw [he]; simp [hx])) fun x hx hx2 => ?_
    obtain ⟨r1, r2, rfl⟩ := List.append_of_mem hx
    have := (D.clsAt (l := l ++ e :: r1) (r := r2) (e := x) (by rw [he]; simp)).2.1 hx2
    have := this.1 e (by simp)
    rw [hc] at this; cases this
  rw [hp, hp2]
  constructor
  · rw [List.getElem?_append_right (by simp)]; simp
  · rw [List.getElem?_append_right (by simp)]; simp [hs]

include hC D in
/-- New variables are apart. -/
theorem DrOk.apart {x y : Ent} (hx : x ∈ es) (hy : y ∈ es) (cx : x.c = .alloc) (cy : y.c = .alloc) (hne : x.i ≠ y.i) : x.H.next ≠ y.H.next := by
  have key : ∀ (l r : List Ent) (x y : Ent), es = l ++ x :: r → y ∈ r → x.c = .alloc → y.c = .alloc → x.H.next < y.H.next := fun l r x y he hy cx cy => by
    obtain ⟨cs, t, hH⟩ := (D.ents hC x (by rw [he]; simp)).2 cx
    obtain ⟨r1, r2, rfl⟩ := List.append_of_mem hy
    obtain ⟨_, _, _, _, _, g⟩ := phase0 (D.rest he).2 fun z hz => D.ents hC z (by rw [he]; exact List.mem_append_right _ (List.mem_cons_of_mem _ hz))
    have hno := ((D.clsAt (l := l ++ x :: r1) (r := r2) (e := y) (by rw [he]; simp)).2.1 cy).1
    have := (g r1 r2 y rfl cy fun z hz => hno z (by simp [hz])).1
    rw [hH] at this
    simp only [AHeap.next_alloc] at this
    omega
  obtain ⟨l, r, he⟩ := List.append_of_mem hx
  rw [he] at hy
  rcases List.mem_append.1 hy with hy | hy
  · obtain ⟨l1, l2, rfl⟩ := List.append_of_mem hy
    have := key l1 (l2 ++ x :: r) y x (by rw [he]; simp) (by simp) cy cx
    omega
  · rcases List.mem_cons.1 hy with rfl | hy
    · exact absurd rfl hne
    · have := key l r x y he hy cx cy
      omega

include hC D in
theorem DrOk.start (hW : WRel μ0 B H0 w0) (hE : EnvRel μ0 ρ0 a.tmps) : ∃ h, DInv ops es ρ0 H0 Hf B μ0 w0 a.defers (Array.replicate ops.size false) 0 h μ0 a w0 := by
  obtain ⟨h, g1, g2, g3, g4, g5⟩ := phase0 D.chain (D.ents hC)
  have hl : ∀ i, lst (Array.replicate ops.size false) i = false := fun i => by
    unfold lst
    rw [Array.getD_eq_getD_getElem?, Array.getElem?_replicate]
    split <;> rfl
  refine ⟨h, by simp, fun j o ho hj => by { rw [hl] at hj; cases hj }, by rw [foldP_false _ _ fun e _ => hl e.i]; exact hE, g1, fun l r e he hc => by simp [hl], fun e he hc _ => ?_, ⟨g4 hW, ⟨g2, Mu.le_refl _, fun b hb hm => ⟨hm, g3 b hb⟩⟩, .refl _ _⟩, rfl⟩
  obtain ⟨l, r, hs⟩ := List.append_of_mem he
  obtain ⟨k1, k2, k3⟩ := g5 l r e hs hc ((D.clsAt hs).2.1 hc).1
  exact ⟨hW.dom _ k1, k3⟩

include D in
theorem DrOk.listed_all (hr : Region.ready .any ops listed = []) (hsz : listed.size = ops.size) : ∀ e ∈ es, lst listed e.i = true := by
  have key : ∀ (r l : List Ent), es = l ++ r → (∀ x ∈ l, lst listed x.i = true) → ∀ x ∈ r, lst listed x.i = true := by
    intro r
    induction r with
    | nil => intro l _ _ x hx; simp at hx
    | cons e r ih =>
      intro l he hl
      have hee : lst listed e.i = true := by
        cases hx : lst listed e.i with
        | true => rfl
        | false =>
          exfalso
          have ho := (chain_mem D.chain e (by rw [he]; simp)).1
          have hlt : e.i < listed.size := by
            have := (List.getElem?_eq_some_iff.1 ho).1
            rw [hsz]; simpa using this
          have : e.i ∈ Region.ready .any ops listed := by
            refine mem_ready.2 ⟨?_, e.o, by rw [← Array.getElem?_toList]; exact ho, fun g hg hb => ?_⟩
            · unfold lst at hx
              simpa [hlt] using hx
            · obtain ⟨x, hx1, hx2⟩ := D.prior he (D.edge ho (by simpa using hg) hb)
              have := hl x hx1
              rw [hx2] at this
              exact this
          rw [hr] at this; cases this
      intro x hx
      rcases List.mem_cons.1 hx with rfl | hx
      · exact hee
      · exact ih (l ++ [e]) (by rw [he]; simp) (fun y hy => by
          rcases List.mem_append.1 hy with hy | hy
          · exact hl y hy
          · rw [List.mem_singleton.1 hy]; exact hee) x hx
  exact key es [] rfl (by simp)

include D in
theorem DrOk.finish (I : DInv ops es ρ0 H0 Hf B μ0 w0 d0 listed k h μ a w) (hall : ∀ e ∈ es, lst listed e.i = true) : h = Hf ∧ EnvRel μ ρf a.tmps := by
  have hk : k = (effsOf es).length := by
    have h1 : k < (phases es Hf).length := (List.getElem?_eq_some_iff.1 I.heap).1
    rw [phases_len] at h1
    rcases Nat.lt_or_ge k (effsOf es).length with h2 | h2
    · obtain ⟨l, e, r, he, hc, hk⟩ := eff_at h2
      have := (I.effs l r e he hc).1 (hall e (by rw [he]; simp))
      omega
    · omega
  have := I.heap
  rw [hk, phases_last] at this
  refine ⟨(Option.some.inj this).symm, ?_⟩
  rw [chain_last D.chain (lst listed) hall]
  exact I.env
end
end Go.Ev

namespace Go.Ev
open Go Go.RowKit

section
variable {P : Program} {C : Ctx} (hC : CtxOk P C) {call : Fun} (hcall : CallOk P C call) {ops : Array Oper} {es : List Ent} {ρ0 ρf : Env} {H0 Hf : AHeap}
  (D : DrOk C call ops es ρ0 H0 ρf Hf)
variable {B : Nat} {μ0 : Mu} {w0 : World} {d0 : List Deferred} {listed : Array Bool} {k : Nat} {h : AHeap} {μ : Mu} {a : Act} {w : World}

theorem put_defers (a : Act) (d : Option Tmp) (v : Value) : (a.put d v).defers = a.defers := by cases d <;> rfl

include D in
/-- An effect's turn is its own. -/
theorem DrOk.turn (I : DInv ops es ρ0 H0 Hf B μ0 w0 d0 listed k h μ a w) {l r : List Ent} {e : Ent} (he : es = l ++ e :: r) (hc : e.c = .eff)
    (hno : lst listed e.i = false) (hed : ∀ g ∈ e.o.after.toList, Region.binds .any g = true → lst listed g.on = true) : (effsOf l).length = k := by
  have h1 : ¬ (effsOf l).length < k := fun hlt => by
    have := (I.effs l r e he hc).2 hlt
    rw [hno] at this; cases this
  rcases Nat.lt_or_ge k (effsOf l).length with h2 | h2
  · exfalso
    obtain ⟨l1, x, l2, hl, hx, hk⟩ := eff_at h2
    have hb := (D.clsAt he).1 hc x (by rw [hl]; simp) (by rw [hx]; rfl)
    have hp := bef_listed (ops := ops) (listed := fun i => lst listed i = true) I.clo e.i e.o x.i (chain_mem D.chain e (by rw [he]; simp)).1 hed hb
    have := (I.effs l1 (l2 ++ e :: r) x (by rw [he, hl]; simp) hx).1 hp
    omega
  · omega

include D in
/-- Where a read stands. -/
theorem DrOk.window (I : DInv ops es ρ0 H0 Hf B μ0 w0 d0 listed k h μ a w) {l r : List Ent} {e : Ent} (he : es = l ++ e :: r) {lo hi : Nat} (hc : e.c = .read lo hi)
    (hno : lst listed e.i = false) (hed : ∀ g ∈ e.o.after.toList, Region.binds .any g = true → lst listed g.on = true) : lo ≤ k ∧ k ≤ hi := by
  obtain ⟨g0, g1, g2, g3⟩ := (D.clsAt he).2.2 lo hi hc
  have hkl : k ≤ (effsOf es).length := by
    have := (List.getElem?_eq_some_iff.1 I.heap).1
    rw [phases_len] at this; omega
  have hid : ∀ {n : Nat}, n < (effsOf es).length → ∃ l1 x l2, es = l1 ++ x :: l2 ∧ x.c = .eff ∧ (effsOf l1).length = n ∧ ((effsOf es).map (·.i))[n]? = some x.i := fun {n} hn => by
    obtain ⟨l1, x, l2, h1, h2, h3⟩ := eff_at hn
    refine ⟨l1, x, l2, h1, h2, h3, ?_⟩
    rw [h1, effsOf_append, effsOf_cons h2, List.map_append, List.getElem?_append_right (by simp; omega)]
    simp [h3]
  constructor
  · rcases Nat.lt_or_ge k lo with h1 | h1
    · exfalso
      obtain ⟨l1, x, l2, k1, k2, k3, k4⟩ := hid (n := k) (by omega)
      have hb := g2 x.i (List.mem_of_getElem? (i := k) (by rw [List.getElem?_take_of_lt h1]; exact k4))
      have hp := bef_listed (ops := ops) (listed := fun i => lst listed i = true) I.clo e.i e.o x.i (chain_mem D.chain e (by rw [he]; simp)).1 hed hb
      have := (I.effs l1 l2 x k1 k2).1 hp
      omega
    · exact h1
  · rcases Nat.lt_or_ge hi k with h1 | h1
    · exfalso
      obtain ⟨l1, x, l2, k1, k2, k3, k4⟩ := hid (n := hi) (by omega)
      have hb := g3 x.i (List.mem_of_getElem? (i := 0) (by rw [List.getElem?_drop]; simpa using k4))
      have hx : lst listed x.i = true := (I.effs l1 l2 x k1 k2).2 (by omega)
      have ho := (chain_mem D.chain x (by rw [k1]; simp)).1
      have hp := bef_listed (ops := ops) (listed := fun i => lst listed i = true) I.clo x.i x.o e.i ho (I.clo x.i x.o ho hx) hb
      have hp : lst listed e.i = true := hp
      rw [hno] at hp; cases hp
    · exact h1

include D in
theorem DrOk.closed (I : DInv ops es ρ0 H0 Hf B μ0 w0 d0 listed k h μ a w) {e : Ent} (hm : e ∈ es)
    (hed : ∀ g ∈ e.o.after.toList, Region.binds .any g = true → lst listed g.on = true) : Closed ops (add (lst listed) e.i) := by
  intro j o ho hj g hg hb
  by_cases hji : j = e.i
  · subst hji
    have := (chain_mem D.chain e hm).1
    rw [ho] at this; cases this
    unfold add
    rw [hed g hg hb]; rfl
  · rw [add_ne hji] at hj
    unfold add
    rw [I.clo j o ho hj g hg hb]; rfl

include hC hcall D in
theorem DrOk.walk {Q : Exit → Act → World → Prop} (fin : ∀ μ' a' w', EnvRel μ' ρf a'.tmps → a'.defers = d0 → Went B μ0 H0 w0 μ' Hf w' → Q .normal a' w') :
    ∀ (fuel : Nat) (listed : Array Bool) (k : Nat) (h : AHeap) (μ : Mu) (a : Act) (w : World), unl ops.size listed ≤ fuel →
      DInv ops es ρ0 H0 Hf B μ0 w0 d0 listed k h μ a w → wpAny P .any ops Q fuel listed a w := by
  intro fuel
  have done : ∀ (listed : Array Bool) (k : Nat) (h : AHeap) (μ : Mu) (a : Act) (w : World), DInv ops es ρ0 H0 Hf B μ0 w0 d0 listed k h μ a w → Region.ready .any ops listed = [] → Q .normal a w :=
    fun listed k h μ a w I hr => by
      obtain ⟨rfl, hE⟩ := D.finish I (D.listed_all hr I.size)
      exact fin μ a w hE I.defers I.went
  induction fuel with
  | zero =>
    intro listed k h μ a w hu I
    have hr : Region.ready .any ops listed = [] := by
      unfold unl at hu
      have hz := List.countP_eq_zero.1 (Nat.le_zero.1 hu)
      apply List.eq_nil_iff_forall_not_mem.2
      intro j hj
      obtain ⟨h1, o, h2, _⟩ := mem_ready.1 hj
      have hlt : j < ops.size := (Array.getElem?_eq_some_iff.1 h2).1
      have := hz j (List.mem_range.2 hlt)
      unfold lst at this
      rw [← I.size] at hlt
      simp [hlt] at this h1
      rw [this] at h1; cases h1
    exact ⟨hr, done _ _ _ _ _ _ I hr⟩
  | succ fuel ih =>
    intro listed k h μ a w hu I
    refine ⟨done _ _ _ _ _ _ I, fun i hi => ?_⟩
    obtain ⟨h1, o, h2, h3⟩ := mem_ready.1 hi
    have hlt : i < ops.size := (Array.getElem?_eq_some_iff.1 h2).1
    have hlt' : i < listed.size := by rw [I.size]; exact hlt
    have hno : lst listed i = false := by
      unfold lst
      simp [hlt'] at h1 ⊢
      exact h1
    obtain ⟨e, hm, rfl⟩ := D.all i hlt
    obtain ⟨l, r, he⟩ := List.append_of_mem hm
    obtain ⟨ho, hst⟩ := chain_mem D.chain e hm
    have hoo : o = e.o := by
      rw [Array.getElem?_toList] at ho
      rw [ho] at h2; exact (Option.some.inj h2).symm
    subst hoo
    have hed : ∀ g ∈ e.o.after.toList, Region.binds .any g = true → lst listed g.on = true := fun g hg hb => h3 g (by simpa using hg) hb
    have hls := lst_set (listed := listed) hlt'
    have hu2 : unl ops.size (listed.setIfInBounds e.i true) ≤ fuel := by
      have : unl ops.size (listed.setIfInBounds e.i true) < unl ops.size listed := by
        unfold unl
        refine countP_lt (x := e.i) ?_ ?_ (List.mem_range.2 hlt) fun y hy => ?_
        · simp [hno]
        · rw [hls, add_self]; rfl
        · rw [hls] at hy
          unfold add at hy
          simp only [Bool.not_or, Bool.and_eq_true] at hy
          exact hy.1
      omega
    have hcl2 := D.closed I hm hed
    have hput := D.put he I.clo hno hed
    have hcg : ∀ {H : AHeap}, stepV C call ops e.o (foldP (lst listed) es ρ0) H = stepV C call ops e.o e.ρ H := fun {H} =>
      stepV_congr fun t ht => D.agree he I.clo hno hed (.inl (by simpa using ht))
    cases hc : e.c with
    | eff =>
      have hk := D.turn I he hc hno hed
      obtain ⟨p1, p2⟩ := D.next hC he hc
      rw [hk] at p1 p2
      have hh : h = e.H := by
        have := I.heap
        rw [p1] at this; exact (Option.some.inj this).symm
      subst hh
      refine stepV_sound hC hcall (H := e.H) (H' := e.H') (v := e.v) (ρ := foldP (lst listed) es ρ0) h2 I.went.rel I.env (by rw [hcg]; exact hst) fun μ' v' w' hv hw => ?_
      refine ih _ (k + 1) e.H' μ' _ _ hu2 ⟨by simp [I.size], by rw [hls]; exact hcl2, ?_, p2, fun l1 r1 x hx hx2 => ?_, fun x hx hx2 hx3 => ?_, I.went.trans hw, by rw [put_defers]; exact I.defers⟩
      · rw [hls, hput]; exact (I.env.mono hw.keep.le).put _ hv
      · rw [hls]
        have hxm : x ∈ es := by rw [hx]; simp
        by_cases hxe : x.i = e.i
        · have hxx := D.uniq hxm hm hxe
          subst hxx
          rw [add_self]
          have hll : (effsOf l1).length = k := by
            have := (I.effs l1 r1 x hx hx2)
            exact D.turn I hx hx2 hno hed
          simp [hll]
        · rw [add_ne hxe, I.effs l1 r1 x hx hx2]
          constructor
          · intro hh; omega
          · intro hh
            rcases Nat.lt_or_ge (effsOf l1).length k with h4 | h4
            · exact h4
            · exfalso
              have hkk : (effsOf l1).length = k := by omega
              have n1 : (effsOf es)[k]? = some x := by rw [hx, effsOf_append, effsOf_cons hx2, List.getElem?_append_right (by omega)]; simp [hkk]
              have n2 : (effsOf es)[k]? = some e := by rw [he, effsOf_append, effsOf_cons hc, List.getElem?_append_right (by omega)]; simp [hk]
              rw [n1] at n2
              exact hxe (congrArg Ent.i (Option.some.inj n2))
      · have hxe : x.i ≠ e.i := by
          intro hxe
          have hxx := D.uniq hx hm hxe
          rw [hxx, hc] at hx2; cases hx2
        rw [hls, add_ne hxe] at hx3
        obtain ⟨q1, q2⟩ := I.pend x hx hx2 hx3
        obtain ⟨r1, r2, rr⟩ := List.append_of_mem hx
        have hlt3 : x.H.next < e.H.next := by
          obtain ⟨cs, t, hH⟩ := (D.ents hC x hx).2 hx2
          rw [hH, AHeap.get_alloc, if_pos rfl] at q2
          exact AHeap.lt_of_get q2
        obtain ⟨s1, s2⟩ := hw.keep.pend _ hlt3 q1
        exact ⟨s1, s2.trans q2⟩
    | read lo hi =>
      obtain ⟨hk1, hk2⟩ := D.window I he hc hno hed
      obtain ⟨_, kp, _, _⟩ := (D.clsAt he).2.2 lo hi hc
      have hs := D.stab e hm
      unfold stable at hs
      rw [hc] at hs
      rw [List.all_eq_true] at hs
      have hmem : h ∈ ((phases es Hf).drop lo).take (hi + 1 - lo) := by
        refine List.mem_of_getElem? (i := k - lo) ?_
        rw [List.getElem?_take_of_lt (by omega), List.getElem?_drop]
        rw [show lo + (k - lo) = k by omega]; exact I.heap
      have hra := hs h hmem
      have hstep : stepV C call ops e.o e.ρ h = some (e.v, h) := by
        unfold readAt at hra
        unfold stepV
        cases hw : wantedA ops e.ρ e.o with
        | none => rw [hw] at hra; cases hra
        | some b =>
          cases b with
          | false =>
            simp only [stepV, hw, Option.bind_some] at hst
            simp only [Option.some.injEq, Prod.mk.injEq] at hst
            simp only [Option.bind_some]
            rw [hst.1]
          | true =>
            rw [hw] at hra
            simp only at hra
            simp only [Option.bind_some]
            cases hop : opEval C e.ρ h e.o with
            | none => rw [hop] at hra; cases hra
            | some rr =>
              obtain ⟨u, rfl⟩ := opKeep_sound kp hop
              rw [hop] at hra
              have := same_eq _ _ hra
              subst this
              rfl
      refine stepV_sound hC hcall (H := h) (H' := h) (v := e.v) (ρ := foldP (lst listed) es ρ0) h2 I.went.rel I.env (by rw [hcg]; exact hstep) fun μ' v' w' hv hw => ?_
      refine ih _ k h μ' _ _ hu2 ⟨by simp [I.size], by rw [hls]; exact hcl2, ?_, I.heap, fun l1 r1 x hx hx2 => ?_, fun x hx hx2 hx3 => ?_, I.went.trans hw, by rw [put_defers]; exact I.defers⟩
      · rw [hls, hput]; exact (I.env.mono hw.keep.le).put _ hv
      · have hxe : x.i ≠ e.i := by
          intro hxe
          have hxx := D.uniq (by rw [hx]; simp) hm hxe
          rw [hxx, hc] at hx2; cases hx2
        rw [hls, add_ne hxe]; exact I.effs l1 r1 x hx hx2
      · have hxe : x.i ≠ e.i := by
          intro hxe
          have hxx := D.uniq hx hm hxe
          rw [hxx, hc] at hx2; cases hx2
        rw [hls, add_ne hxe] at hx3
        obtain ⟨q1, q2⟩ := I.pend x hx hx2 hx3
        have hlt3 : x.H.next < h.next := by
          obtain ⟨cs, t, hH⟩ := (D.ents hC x hx).2 hx2
          rw [hH, AHeap.get_alloc, if_pos rfl] at q2
          exact AHeap.lt_of_get q2
        obtain ⟨s1, s2⟩ := hw.keep.pend _ hlt3 q1
        exact ⟨s1, s2.trans q2⟩
    | alloc =>
      obtain ⟨hne, ha, hg⟩ := (D.clsAt he).2.1 hc
      simp only [stepV, wantedA, hg, Option.bind_some, Option.bind_eq_some_iff] at hst
      obtain ⟨rr, hr, hst⟩ := hst
      have hr2 : opEval C (foldP (lst listed) es ρ0) e.H e.o = some rr := by
        rw [eval_congr (ops := ops) fun t ht => D.agree he I.clo hno hed (.inl (by simpa using ht))]; exact hr
      obtain ⟨cs, t, mk, rfl, hb⟩ := alloc_both hC ha hr2
      simp only [Option.some.injEq, Prod.mk.injEq] at hst
      obtain ⟨hv, hH⟩ := hst
      obtain ⟨cs', v', e1, e2, e3⟩ := hb μ w a I.env
      obtain ⟨q1, q2⟩ := I.pend e hm hc hno
      rw [← hH, AHeap.get_alloc, if_pos rfl] at q2
      have hlt3 : e.H.next < h.next := AHeap.lt_of_get q2
      have hle : μ.le (μ.put e.H.next (w.heap.size, cs'.length)) := Mu.put_le q1
      have hrel := I.went.rel.lay (ob := .cells ⟨cs'⟩ t) (n := cs'.length) q2 q1 (ORel.new_cells I.went.rel.base (VRelL.mono hle e1))
      have hge : H0.next ≤ e.H.next := by
        obtain ⟨_, _, _, _, _, g5⟩ := phase0 D.chain (D.ents hC)
        exact (g5 l r e he hc hne).1
      unfold wpOp
      simp only [h2]
      have hwant : Region.wanted e.o (yielded ops a.tmps) = true := by unfold Region.wanted; rw [hg]
      rw [hwant]
      simp only [if_true]
      left
      unfold Oper.wp
      rw [e2]
      simp only [Oper.upon]
      refine ih _ k h (μ.put e.H.next (w.heap.size, cs'.length)) _ _ hu2 ⟨by simp [I.size], by rw [hls]; exact hcl2, ?_, I.heap, fun l1 r1 x hx hx2 => ?_, fun x hx hx2 hx3 => ?_, ?_, by rw [put_defers]; exact I.defers⟩
      · rw [hls, hput]
        refine (I.env.mono hle).put _ ?_
        rw [← hv]
        exact e3 _ _ (Mu.put_same _ _ _)
      · have hxe : x.i ≠ e.i := by
          intro hxe
          have hxx := D.uniq (by rw [hx]; simp) hm hxe
          rw [hxx, hc] at hx2; cases hx2
        rw [hls, add_ne hxe]; exact I.effs l1 r1 x hx hx2
      · by_cases hxe : x.i = e.i
        · rw [hls, hxe, add_self] at hx3; cases hx3
        · rw [hls, add_ne hxe] at hx3
          obtain ⟨s1, s2⟩ := I.pend x hx hx2 hx3
          exact ⟨by rw [Mu.put_ne _ _ (D.apart hC hx hm hx2 hc hxe)]; exact s1, s2⟩
      · refine ⟨hrel, ⟨I.went.keep.next, Mu.le_trans I.went.keep.le hle, fun b hb hm0 => ?_⟩, I.went.below.alloc I.went.rel.base _⟩
        obtain ⟨s1, s2⟩ := I.went.keep.pend b hb hm0
        exact ⟨by rw [Mu.put_ne _ _ (by omega)]; exact s1, s2⟩
end

/-- The check gives what the walk needs. -/
theorem evDraw_ok {C : Ctx} {call : Fun} {ops : Array Oper} {items : List (Nat × Cls)} {ρ ρ' : Env} {H H' : AHeap} (hok : okDraw C ops items = true) (h : evDraw C call ops items ρ H = some (ρ', H')) :
    ∃ es, DrOk C call ops es ρ H ρ' H' := by
  simp only [evDraw, Option.bind_eq_some_iff] at h
  obtain ⟨⟨es, ρ1, H1⟩, hd, h⟩ := h
  obtain ⟨hch, him⟩ := drRun_chain hd
  cases hs : es.all (stable C ops (phases es H1)) with
  | false => simp [hs] at h
  | true =>
    simp only [hs, cond_true, Option.some.injEq, Prod.mk.injEq] at h
    obtain ⟨rfl, rfl⟩ := h
    unfold okDraw at hok
    simp only [Bool.and_eq_true] at hok
    obtain ⟨⟨⟨h1, h2⟩, h3⟩, h4⟩ := hok
    rw [← him] at h1 h2 h3 h4
    refine ⟨es, hch, fun i hi => ?_, h2, h3, h4, fun e he => by rw [List.all_eq_true] at hs; exact hs e he⟩
    rw [List.all_eq_true] at h1
    have := h1 i (List.mem_range.2 hi)
    rw [List.any_eq_true] at this
    obtain ⟨p, hp, hb⟩ := this
    obtain ⟨e, he, rfl⟩ := List.mem_map.1 hp
    exact ⟨e, he, beq_true hb⟩

section
variable {P : Program} {C : Ctx} (hC : CtxOk P C) {call : Fun} (hcall : CallOk P C call) {ops : Array Oper}
include hC hcall
theorem evDraw_sound (hm : P.follows .mixedOrders = true) {items : List (Nat × Cls)} {ρ ρ' : Env} {H H' : AHeap} (hok : okDraw C ops items = true) (h : evDraw C call ops items ρ H = some (ρ', H'))
    {B : Nat} {μ : Mu} {w : World} {a : Act} (hW : WRel μ B H w) (hE : EnvRel μ ρ a.tmps) {Q : Exit → Act → World → Prop} {id : Nat}
    (fin : ∀ μ' a' w', EnvRel μ' ρ' a'.tmps → a'.defers = a.defers → Went B μ H w μ' H' w' → Q .normal a' w') : (Code.region id ops true).wp P Q a w := by
  obtain ⟨es, D⟩ := evDraw_ok hok h
  refine wp_region_any hm ?_
  have hW' : WRel μ B H { w with drawn := w.drawn + 1 } := hW.of_heap rfl
  obtain ⟨h0, I⟩ := D.start hC hW' hE
  refine D.walk hC hcall (fun μ' a' w' h1 h2 h3 => fin μ' a' w' h1 h2 ⟨h3.rel, h3.keep, ?_⟩) ops.size _ 0 h0 μ a _ ?_ I
  · exact ((Below.refl B w).drew).trans h3.below
  · unfold unl
    exact Nat.le_trans List.countP_le_length (by simp)
end
end Go.Ev
