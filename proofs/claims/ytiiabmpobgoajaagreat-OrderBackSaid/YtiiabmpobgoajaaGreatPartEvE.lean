/- The operations without calls, one by one. -/
import Derived.Test.YtiiabmpobgoajaaGreatPartEvA
set_option linter.all false
namespace Go.Ev
open Go Go.RowKit

/-- What an operation of the model must come to, where the evaluator says so. -/
def OpOk (P : Program) (C : Ctx) (B : Nat) (μ : Mu) (H : AHeap) (w : World) (o : Oper) (a : Act) : OpRes → Prop
  | .val v H' => ∃ μ' w' v', ((execOp a.eval o).run P w = .ok (.value v') w' ∨ ((execOp a.eval o).run P w = .ok .skip w' ∧ v' = undef)) ∧ VRel μ' v v' ∧ Went B μ H w μ' H' w'
  | .call f args => ∃ args' : List Value, VRelL μ args args' ∧ ((C.same.contains f = false ∧ (C.fn.get f).isSome = true ∧ (execOp a.eval o).run P w = .ok (.enter f ⟨args'⟩) w) ∨
      (C.same.contains f = true ∧ ∀ x, args' = [x] → (execOp a.eval o).run P w = .ok (.value x) w))

section
variable {P : Program} {C : Ctx} (hC : CtxOk P C) {μ : Mu} {B : Nat} {H H' : AHeap} {w : World} {o : Oper} {a : Act} {ρ : Env}

theorem ok_pure (hW : WRel μ B H w) {v v' : Value} (hr : VRel μ v v') (h : (execOp a.eval o).run P w = .ok (.value v') w) : OpOk P C B μ H w o a (.val v H) :=
  ⟨μ, w, v', .inl h, hr, .refl hW⟩

theorem ok_retV (hW : WRel μ B H w) {v : Option Value} {r : OpRes} (h : retV H v = some r) (f : ∀ x, v = some x → ∃ v', VRel μ x v' ∧ (execOp a.eval o).run P w = .ok (.value v') w) :
    OpOk P C B μ H w o a r := by
  cases v with
  | none => simp [retV] at h
  | some x =>
    simp only [retV, Option.map_some, Option.some.injEq] at h
    subst h
    obtain ⟨v', h1, h2⟩ := f x rfl
    exact ok_pure hW h1 h2

theorem ok_alloc (hW : WRel μ B H w) {e : TypeId} {c c' : List Value} {v : Value} (hc : VRelL μ c c') {mk : Addr → Value}
    (hv : ∀ μ' : Mu, ∀ n, μ' H.next = some (w.heap.size, n) → c'.length ≤ n → VRel μ' v (mk ⟨w.heap.size, 0, none⟩))
    (h : ∀ w', (Go.newRow e ⟨c'⟩).run P w = .ok ⟨w.heap.size, 0, none⟩ w' → (execOp a.eval o).run P w = .ok (.value (mk ⟨w.heap.size, 0, none⟩)) w') :
    OpOk P C B μ H w o a (.val v (H.alloc (.cells c e false))) := by
  obtain ⟨μ', w', h1, h2, h3⟩ := newVar_sound (P := P) hW e hc
  exact ⟨μ', w', _, .inl (h w' h1), hv μ' _ h2 (Nat.le_refl _), h3⟩

theorem op_move (hW : WRel μ B H w) (hE : EnvRel μ ρ a.tmps) {x : Operand} (ho : o.op = .move x ∨ o.op = .assign x) {r : OpRes} (h : retV H (look ρ x) = some r) :
    OpOk P C B μ H w o a r :=
  ok_retV hW h fun v hv => ⟨_, look_sound hE hv, by rcases ho with ho | ho <;> simp [execOp, ho]⟩

theorem op_pick (hW : WRel μ B H w) (hE : EnvRel μ ρ a.tmps) {c x y : Operand} (ho : o.op = .pick c x y) {r : OpRes}
    (h : ((look ρ c).bind fun | .bool true => retV H (look ρ x) | .bool false => retV H (look ρ y) | _ => none) = some r) : OpOk P C B μ H w o a r := by
  simp only [Option.bind_eq_some_iff] at h
  obtain ⟨v, hv, h⟩ := h
  have hr := look_sound hE hv
  split at h
  · generalize he : a.eval c = z at hr
    cases hr
    exact ok_retV hW h fun v hv => ⟨_, look_sound hE hv, by simp [execOp, ho, he, asBool]⟩
  · generalize he : a.eval c = z at hr
    cases hr
    exact ok_retV hW h fun v hv => ⟨_, look_sound hE hv, by simp [execOp, ho, he, asBool]⟩
  · simp at h

include hC in
theorem op_alloc (hW : WRel μ B H w) {e : TypeId} (ho : o.op = .alloc e) {r : OpRes} (h : ((zeroOf C e).map fun z => OpRes.val (nptr H.next 0) (H.alloc (.cells z e false))) = some r) :
    OpOk P C B μ H w o a r := by
  simp only [Option.map_eq_some_iff] at h
  obtain ⟨z, hz, rfl⟩ := h
  obtain ⟨v, h1, h2, h3⟩ := zeroOf_sound hC hz w
  refine ok_alloc hW (c' := v.cells.toList) (mk := fun a => .pointer (some a)) (by rw [← h2]; exact plain_cells h3) (fun μ' n hn _ => .ptr _ _ _ _ hn) fun w' hw' => ?_
  simp only [execOp, ho, Instr.alloc, Sem.run_bind, h1, Result.andThen_ok, newVar]
  simp only [Array.toArray_toList] at hw'
  simp [hw']

theorem op_box (hW : WRel μ B H w) (hE : EnvRel μ ρ a.tmps) {e : TypeId} {x : Operand} (ho : o.op = .box e x) {r : OpRes}
    (h : ((look ρ x).map fun v => OpRes.val (nptr H.next 0) (H.alloc (.cells (cellsOf v) e false))) = some r) : OpOk P C B μ H w o a r := by
  simp only [Option.map_eq_some_iff] at h
  obtain ⟨v, hv, rfl⟩ := h
  refine ok_alloc hW (look_sound hE hv).cells (mk := fun a => .pointer (some a)) (fun μ' n hn _ => .ptr _ _ _ _ hn) fun w' hw' => ?_
  simp only [cellsOf, Array.toArray_toList] at hw'
  simp [execOp, ho, Instr.box, newVar, hw']

theorem run_mapM {α β : Type} (P : Program) (w : World) (f : α → Sem β) (g : α → β) : ∀ (l : List α), (∀ x ∈ l, (f x).run P w = .ok (g x) w) → (l.mapM f).run P w = .ok (l.map g) w
  | [], _ => rfl
  | x :: l, h => by
    rw [List.mapM_cons]
    simp only [Sem.run_bind, h x (by simp), Result.andThen_ok, run_mapM P w f g l fun y hy => h y (by simp [hy]), Sem.run_pure, List.map_cons]

theorem run_mapM_arr {α β : Type} (P : Program) (w : World) (f : α → Sem β) (g : α → β) (l : Array α) (h : ∀ x ∈ l.toList, (f x).run P w = .ok (g x) w) :
    (l.mapM f).run P w = .ok (l.map g) w := by
  rw [Array.mapM_eq_mapM_toList]
  simp only [Sem.run_map, run_mapM P w f g l.toList h, Result.andThen_ok]
  congr 1
  apply Array.ext'
  simp

theorem run_size_isSome {P : Program} {t : TypeId} (h : (P.info? t).isSome) (w : World) : (sizeOf t).run P w = .ok (P.cellsOf t) w := by
  obtain ⟨i, hi⟩ := Option.isSome_iff_exists.1 h
  simp [sizeOf, typeInfo, hi, Program.cellsOf]

include hC in
theorem op_build (hW : WRel μ B H w) (hE : EnvRel μ ρ a.tmps) {t : TypeId} {ps : Array (Nat × Operand)} (ho : o.op = .build t ps) {r : OpRes}
    (h : opEval C ρ H o = some r) : OpOk P C B μ H w o a r := by
  simp only [opEval, ho] at h
  split at h
  · rename_i fs si by' z' hti
    simp only [Option.bind_eq_some_iff] at h
    obtain ⟨z, hz, vs, hvs, h⟩ := h
    obtain ⟨zv, h1, h2, h3⟩ := zeroOf_sound hC hz w
    obtain ⟨fields, g1, g2, g3⟩ := under_struct hC (tdA_of hti)
    refine ok_retV hW h fun v hv => ?_
    simp only [Option.map_eq_some_iff] at hv
    obtain ⟨cs, hcs, rfl⟩ := hv
    have hp := lookParts_sound hE hvs
    have hmap : (Array.map (fun f : Go.Field => (f.offset, P.cellsOf f.type)) fields).toList = fs.map (·.2) := by
      rw [← g2]; simp
    obtain ⟨cs', e1, e2⟩ := fillA_sound (μ := μ) (place := fun i => (fs[i]?).map fun f => f.2) (place' := ((Array.map (fun f : Go.Field => (f.offset, P.cellsOf f.type)) fields)[·]?))
      (fun i x hx => by
        rw [← Array.getElem?_toList, hmap]
        simpa using hx) hp (cells' := zv.cells) (by rw [h2]; rw [← h2]; exact plain_cells h3) hcs
    refine ⟨.agg cs', ?_, ?_⟩
    · obtain ⟨l⟩ := cs'; exact .agg' e2
    · simp only [execOp, ho, Instr.build, Sem.run_bind, h1, Result.andThen_ok, run_und g1, Array.toList_map]
      rw [run_mapM_arr P w _ (fun f : Go.Field => (f.offset, P.cellsOf f.type)) fields (fun f hf => by simp [run_size_isSome (g3 f hf)])]
      simp only [Result.andThen_ok]
      rw [e1]
      simp
  · rename_i n e si by' z' hti
    simp only [Option.bind_eq_some_iff] at h
    obtain ⟨z, hz, ti, hte, vs, hvs, h⟩ := h
    obtain ⟨zv, h1, h2, h3⟩ := zeroOf_sound hC hz w
    have g1 := under_array hC (tdA_of hti)
    refine ok_retV hW h fun v hv => ?_
    simp only [Option.map_eq_some_iff] at hv
    obtain ⟨cs, hcs, rfl⟩ := hv
    have hp := lookParts_sound hE hvs
    obtain ⟨cs', e1, e2⟩ := fillA_sound (μ := μ) (place := fun i => some (i * ti.size, ti.size)) (place' := fun i => some (i * ti.size, ti.size))
      (fun i x hx => hx) hp (cells' := zv.cells) (by rw [h2]; rw [← h2]; exact plain_cells h3) hcs
    refine ⟨.agg cs', ?_, ?_⟩
    · obtain ⟨l⟩ := cs'; exact .agg' e2
    · simp only [execOp, ho, Instr.build, Sem.run_bind, h1, Result.andThen_ok, run_und g1, run_sizeOf hC hte, Array.toList_map]
      simp [e1]
  · simp at h

include hC in
theorem op_buildSlice (hW : WRel μ B H w) (hE : EnvRel μ ρ a.tmps) {t : TypeId} {len : Nat} {ps : Array (Nat × Operand)} (ho : o.op = .buildSlice t len ps) {r : OpRes}
    (h : opEval C ρ H o = some r) : OpOk P C B μ H w o a r := by
  simp only [opEval, ho] at h
  split at h
  · rename_i e si by' z' hti
    simp only [Option.bind_eq_some_iff] at h
    obtain ⟨ti, hte, z, hz, vs, hvs, h⟩ := h
    cases hcond : (z.length.beq ti.size && !(ti.size.beq 0) && (len * ti.size).ble (2 ^ 24)) with
    | false => simp [hcond] at h
    | true =>
      simp only [hcond, cond_true, Option.map_eq_some_iff] at h
      obtain ⟨cs, hcs, rfl⟩ := h
      simp only [Bool.and_eq_true] at hcond
      obtain ⟨⟨c1, c2⟩, c3⟩ := hcond
      have c1 := beq_true c1
      have c3 := ble_true c3
      have c2 : ti.size ≠ 0 := by rintro e; rw [e] at c2; simp at c2
      obtain ⟨zv, h1, h2, h3⟩ := zeroOf_sound hC hz w
      have g1 := under_slice hC (tdA_of hti)
      have hp := lookParts_sound hE hvs
      have hzs : zv.cells.size = ti.size := by rw [← c1, ← h2]; simp
      obtain ⟨cs', e1, e2⟩ := fillA_sound (μ := μ) (place := fun i => some (i * ti.size, ti.size)) (place' := fun i => some (i * ti.size, ti.size))
        (fun i x hx => hx) hp (cells' := (Array.range (len * zv.cells.size)).map fun i => zv.cells[i % zv.cells.size]!)
          (by rw [repl_eq, h2]; exact VRelL.repl (by rw [← h2]; exact plain_cells h3) len) hcs
      refine ok_alloc hW (c' := cs'.toList) e2 (mk := fun a => .slice (some a) len len) (fun μ' n hn _ => .slice _ _ _ _ _ _ hn) fun w' hw' => ?_
      simp only [Array.toArray_toList] at hw'
      simp only [execOp, ho, Instr.buildSlice, Sem.run_bind, run_und g1, Result.andThen_ok, run_sizeOf hC hte, Array.toList_map]
      have hno : ¬ (len * ti.size > 2 ^ 24) := by omega
      rw [if_neg hno]
      by_cases hl : len * ti.size = 0
      · have hl0 : len = 0 := by
          rcases Nat.mul_eq_zero.1 hl with h | h
          · exact h
          · exact absurd h c2
        subst hl0
        simp only [Nat.zero_mul] at e1
        have r0 : ∀ (f : Nat → Value), Array.map f (Array.range 0) = #[] := fun f => by simp
        rw [r0] at e1
        simp only [Nat.zero_mul, if_true, Sem.run_pure, r0, e1]
        simp [hw']
      · simp only [hl, if_false, Sem.run_bind, h1, Result.andThen_ok]
        rw [hzs] at e1
        simp [hzs, e1, hw']
  · simp at h

include hC in
theorem op_load (hW : WRel μ B H w) (hE : EnvRel μ ρ a.tmps) {t : TypeId} {x : Operand} (ho : o.op = .load t x) {r : OpRes}
    (h : ((look ρ x).bind fun p => retV H (loadV C H t p)) = some r) : OpOk P C B μ H w o a r := by
  simp only [Option.bind_eq_some_iff] at h
  obtain ⟨p, hp, h⟩ := h
  refine ok_retV hW h fun v hv => ?_
  obtain ⟨v', e1, _, e2⟩ := loadV_sound hC hW (look_sound hE hp) hv
  exact ⟨v', e2, by simp [execOp, ho, e1]⟩

include hC in
theorem op_store (hW : WRel μ B H w) (hE : EnvRel μ ρ a.tmps) {t : TypeId} {x y : Operand} (ho : o.op = .store t x y) {r : OpRes}
    (h : ((look ρ x).bind fun p => (look ρ y).bind fun v => retH (storeV C H t p v)) = some r) : OpOk P C B μ H w o a r := by
  simp only [Option.bind_eq_some_iff, retH, Option.map_eq_some_iff] at h
  obtain ⟨p, hp, v, hv, H', hs, rfl⟩ := h
  obtain ⟨w', e1, e2⟩ := storeV_sound hC hW (look_sound hE hp) (look_sound hE hv) hs
  exact ⟨μ, w', undef, .inr ⟨by simp [execOp, ho, e1], rfl⟩, .undef, e2⟩

include hC in
theorem op_nilCheck (hW : WRel μ B H w) (hE : EnvRel μ ρ a.tmps) {x : Operand} (ho : o.op = .nilCheck x) {r : OpRes} (h : opEval C ρ H o = some r) : OpOk P C B μ H w o a r := by
  simp only [opEval, ho, Option.bind_eq_some_iff] at h
  obtain ⟨v, hv, h⟩ := h
  have hr := look_sound hE hv
  generalize he : a.eval x = z at hr
  split at h
  · simp only [Option.some.injEq] at h; subst h
    cases hr with
    | ptr b r n o h => exact ok_pure hW (.ptr b r n o h) (by simp [execOp, ho, he])
  · simp only [Option.some.injEq] at h; subst h
    cases hr with
    | iface _ _ v' h => exact ok_pure hW (.iface _ _ v' h) (by simp [execOp, ho, he])
  · simp only [Option.some.injEq] at h; subst h
    cases hr with
    | func fn _ b' _ c' h1 h2 h3 h4 => exact ok_pure hW (.func _ _ b' _ c' h1 h2 h3 h4) (by simp [execOp, ho, he])
  · rename_i name first cap
    split at h
    · rename_i t u hf
      simp only [Option.map_eq_some_iff] at h
      obtain ⟨f, hm, rfl⟩ := h
      cases hr with
      | func fn _ b' _ c' h1 h2 h3 h4 =>
        refine ok_pure hW (.func _ first b' cap c' h1 h2 h3 h4) ?_
        obtain ⟨first⟩ := first
        simp only at hf
        subst hf
        obtain ⟨b'⟩ := b'
        match b', h1, h3 with
        | [y], _, h3 =>
          have := h3 0 (.iface t u) y rfl rfl
          cases this with
          | iface _ _ u' hu =>
            have ha := (hC.meth _ _ _ hm).ahead u' w
            simp [execOp, ho, he, ha]
    · simp at h
  · simp at h

theorem run_intBits {op : BinOp} {k : IntKind} {x y : Int} {v : Value} (h : intBits op k x y = some v) : (Op.intBits op k x y).run P w = .ok v w := by
  unfold intBits at h
  cases op <;> simp at h <;> subst h <;> simp [Op.intBits]

theorem run_intBin {op : BinOp} {t : TypeId} {k : IntKind} {x y : Int} {v : Value} (h1 : op ≠ .shl) (h2 : op ≠ .shr) (h : intBin op k x y = some v) :
    (binOp op t (.int k x) (.int k y)).run P w = .ok v w := by
  cases op <;> simp only [intBin] at h
  case add => simp at h; subst h; simp [binOp, Op.intArith]
  case sub => simp at h; subst h; simp [binOp, Op.intArith]
  case mul => simp at h; subst h; simp [binOp, Op.intArith]
  case quo =>
    split at h
    · simp at h
    · rename_i hy; simp at h; subst h; simp [binOp, Op.intDiv, hy]
  case rem =>
    split at h
    · simp at h
    · rename_i hy; simp at h; subst h; simp [binOp, Op.intDiv, hy]
  case eql => simp at h; subst h; simp [binOp, Op.intCmp]
  case neq => simp at h; subst h; simp [binOp, Op.intCmp]
  case lss => simp at h; subst h; simp [binOp, Op.intCmp]
  case leq => simp at h; subst h; simp [binOp, Op.intCmp]
  case gtr => simp at h; subst h; simp [binOp, Op.intCmp]
  case geq => simp at h; subst h; simp [binOp, Op.intCmp]
  case and => simpa [binOp] using run_intBits h
  case or => simpa [binOp] using run_intBits h
  case xor => simpa [binOp] using run_intBits h
  case andNot => simpa [binOp] using run_intBits h
  case shl => exact absurd rfl h1
  case shr => exact absurd rfl h2

theorem run_shiftA {op : BinOp} {k yk : IntKind} {x y : Int} {v : Value} (h : shiftA op k x y = some v) : (Op.shift op k x yk y).run P w = .ok v w := by
  unfold shiftA at h
  split at h
  · simp at h
  · rename_i hy
    cases op <;> simp at h <;> subst h <;> simp [Op.shift, hy]

theorem toList_loop (bs : ByteArray) : ∀ (k i : Nat) (r : List UInt8), bs.size - i = k → ByteArray.toList.loop bs i r = r.reverse ++ bs.data.toList.drop i := by
  intro k
  induction k with
  | zero =>
    intro i r h
    unfold ByteArray.toList.loop
    rw [if_neg (by omega), List.drop_eq_nil_of_le (by have : bs.data.toList.length = bs.size := rfl; omega)]
    simp
  | succ k ih =>
    intro i r h
    unfold ByteArray.toList.loop
    have hlt : i < bs.size := by omega
    rw [if_pos hlt, ih (i + 1) _ (by omega)]
    have hlt' : i < bs.data.toList.length := hlt
    rw [List.drop_eq_getElem_cons hlt']
    have : bs.get! i = bs.data.toList[i] := by
      show bs.data[i]! = _
      rw [getElem!_pos bs.data i hlt]
      simp
    rw [this]
    simp

theorem toList_data (bs : ByteArray) : bs.toList = bs.data.toList := by
  have := toList_loop bs bs.size 0 [] (by omega)
  simpa [ByteArray.toList] using this

theorem run_strBin {op : BinOp} {x y : ByteArray} {v : Value} (h : strBin op x y = some v) : (Op.stringOp op x y).run P w = .ok v w := by
  cases op <;> simp only [strBin] at h <;> try (simp at h; done)
  case add =>
    split at h
    · simp at h
    · rename_i hy; simp at h; subst h; simp only [Op.stringOp]; rw [if_neg hy]; simp
  all_goals (simp at h; subst h; simp [Op.stringOp, toList_data])

end
end Go.Ev

namespace Go.Ev
open Go Go.RowKit

theorem leafEq_rel {μ : Mu} {l : Leaf} {x y x' y' : Value} {b : Bool} (hx : VRel μ x x') (hy : VRel μ y y') (h : leafEq l x y = some b) : leafEq l x' y' = some b := by
  unfold leafEq at h
  split at h
  · cases hx; cases hy; exact h
  · cases hx; cases hy; exact h
  · cases hx; cases hy; exact h
  · simp at h

theorem cellsEq_rel {μ : Mu} : ∀ {ls : List Leaf} {xs ys xs' ys' : List Value} {b : Bool}, VRelL μ xs xs' → VRelL μ ys ys' → cellsEq ls xs ys = some b → cellsEq ls xs' ys' = some b
  | [], [], [], xs', ys', b, h1, h2, h => by rw [h1.nil_right, h2.nil_right]; exact h
  | l :: ls, x :: xs, y :: ys, xs', ys', b, h1, h2, h => by
    obtain ⟨x', xt, rfl, r1, t1⟩ := h1.cons_right
    obtain ⟨y', yt, rfl, r2, t2⟩ := h2.cons_right
    simp only [cellsEq, Option.bind_eq_some_iff, Option.map_eq_some_iff] at h ⊢
    obtain ⟨p, e1, q, e2, e3⟩ := h
    exact ⟨p, leafEq_rel r1 r2 e1, q, cellsEq_rel t1 t2 e2, e3⟩
  | [], [], _ :: _, _, _, _, _, _, h => by simp [cellsEq] at h
  | [], _ :: _, _, _, _, _, _, _, h => by simp [cellsEq] at h
  | _ :: _, [], _, _, _, _, _, _, h => by simp [cellsEq] at h
  | _ :: _, _ :: _, [], _, _, _, _, _, h => by simp [cellsEq] at h

theorem leafIs_rel {μ : Mu} {l : Leaf} {x x' : Value} (hx : VRel μ x x') (h : leafIs l x = true) : x' = x := by
  unfold leafIs at h
  split at h
  · cases hx; rfl
  · cases hx; rfl
  · cases hx; rfl
  · simp at h

theorem cellsAre_rel {μ : Mu} : ∀ {ls : List Leaf} {xs xs' : List Value}, VRelL μ xs xs' → cellsAre ls xs = true → xs' = xs
  | [], [], xs', h1, h => by rw [h1.nil_right]
  | l :: ls, x :: xs, xs', h1, h => by
    obtain ⟨x', xt, rfl, r1, t1⟩ := h1.cons_right
    simp only [cellsAre, Bool.and_eq_true] at h
    rw [leafIs_rel r1 h.1, cellsAre_rel t1 h.2]
  | [], _ :: _, _, _, h => by simp [cellsAre] at h
  | _ :: _, [], _, _, h => by simp [cellsAre] at h

section
variable {P : Program} {C : Ctx} (hC : CtxOk P C) {μ : Mu} {B : Nat} {H H' : AHeap} {w : World} {o : Oper} {a : Act} {ρ : Env}

set_option maxHeartbeats 2000000 in
include hC in
theorem valEq_sound {nc : Bool} {t : TypeId} {x y x' y' : Value} {b : Bool} (hx : VRel μ x x') (hy : VRel μ y y') (h : valEq C nc t x y = some b) :
    (Op.equal t x' y').run P w = .ok b w := by
  obtain ⟨dd, hdd⟩ : ∃ d, Op.maxDepth = d + 1 := ⟨9999, rfl⟩
  unfold valEq at h
  split at h <;> (try (simp at h; done))
  · rename_i a b' hd
    have hu := under_bool hC hd
    cases hx; cases hy; simp at h; subst h
    simp [Op.equal, hdd, Op.equalIn, run_und hu]
  · rename_i e hd
    have hu := under_ptr hC hd
    cases hx; cases hy; simp at h; subst h
    simp [Op.equal, hdd, Op.equalIn, run_und hu]
  · rename_i e q hd
    have hu := under_ptr hC hd
    cases hx; cases hy; simp at h; subst h
    simp [Op.equal, hdd, Op.equalIn, run_und hu]
  · rename_i e q hd
    have hu := under_ptr hC hd
    cases hx; cases hy; simp at h; subst h
    simp [Op.equal, hdd, Op.equalIn, run_und hu]
  · rename_i e p q hd
    have hu := under_ptr hC hd
    split at h
    · rename_i ti hte
      cases hc : (p.block.beq q.block && p.spot.isNone && q.spot.isNone && !(ti.size.beq 0)) with
      | false => simp [hc] at h
      | true =>
        simp only [hc, cond_true, Option.some.injEq] at h
        simp only [Bool.and_eq_true] at hc
        obtain ⟨⟨⟨c1, _⟩, _⟩, c4⟩ := hc
        have c1 := beq_true c1
        have c4 : ti.size ≠ 0 := by rintro e; rw [e] at c4; simp at c4
        cases hx with
        | ptr b1 r1 n1 o1 m1 =>
          cases hy with
          | ptr b2 r2 n2 o2 m2 =>
            simp only at c1 h
            subst c1
            rw [m1] at m2; cases m2
            have hb : b = (o1 == o2) := by
              rw [← h]
              by_cases e : o1 = o2
              · subst e; simp
              · rw [beq_false e]; simp [e]
            subst hb
            simp only [Op.equal, hdd, Op.equalIn, Sem.run_bind, run_und hu, Result.andThen_ok, run_sizeOf hC hte]
            simp [c4, sameAddr]
            rw [Bool.eq_iff_iff]; simp
    · simp at h
  · rename_i e p l c l' c' hd
    have hu := under_slice hC hd
    simp at h
    cases hy
    cases hx <;> (subst h; simp [Op.equal, hdd, Op.equalIn, run_und hu])
  · rename_i e l c q l' c' hd
    have hu := under_slice hC hd
    simp at h; subst h
    cases hx
    cases hy <;> simp [Op.equal, hdd, Op.equalIn, run_und hu]
  · rename_i k e p hd
    have hu := under_map hC hd
    simp at h
    cases hy
    cases hx <;> (subst h; simp [Op.equal, hdd, Op.equalIn, run_und hu])
  · rename_i k e p hd
    have hu := under_map hC hd
    simp at h; subst h
    cases hx
    cases hy; simp [Op.equal, hdd, Op.equalIn, run_und hu]
  · rename_i hd
    obtain ⟨_, _, _, hu⟩ := under_func hC hd
    simp at h; subst h
    cases hx; cases hy; simp [Op.equal, hdd, Op.equalIn, run_und hu]
  · rename_i hd
    obtain ⟨_, _, _, hu⟩ := under_func hC hd
    simp at h; subst h
    cases hx; cases hy; simp [Op.equal, hdd, Op.equalIn, run_und hu]
  · rename_i hd
    obtain ⟨_, _, _, hu⟩ := under_func hC hd
    simp at h; subst h
    cases hx; cases hy; simp [Op.equal, hdd, Op.equalIn, run_und hu]
  · rename_i hd
    obtain ⟨_, hu⟩ := under_iface hC hd
    simp at h; subst h
    cases hx; cases hy; simp [Op.equal, hdd, Op.equalIn, run_und hu]
  · rename_i hd
    obtain ⟨_, hu⟩ := under_iface hC hd
    simp at h; subst h
    cases hx; cases hy; simp [Op.equal, hdd, Op.equalIn, run_und hu]
  · rename_i hd
    obtain ⟨_, hu⟩ := under_iface hC hd
    cases nc with
    | false => simp at h
    | true =>
      simp at h; subst h
      cases hx; cases hy; simp [Op.equal, hdd, Op.equalIn, run_und hu]
  · rename_i fs xs ys hd
    simp only [Option.bind_eq_some_iff] at h
    obtain ⟨ls, h1, h2⟩ := h
    obtain ⟨xs', rfl, g1⟩ := hx.agg_inv
    obtain ⟨ys', rfl, g2⟩ := hy.agg_inv
    refine (hC.eqs _ _ h1).eq _ _ _ _ ?_
    exact cellsEq_rel g1 g2 h2
  · rename_i n e xs ys hd
    simp only [Option.bind_eq_some_iff] at h
    obtain ⟨ls, h1, h2⟩ := h
    obtain ⟨xs', rfl, g1⟩ := hx.agg_inv
    obtain ⟨ys', rfl, g2⟩ := hy.agg_inv
    refine (hC.eqs _ _ h1).eq _ _ _ _ ?_
    exact cellsEq_rel g1 g2 h2


theorem run_eqGuard_plain {op : BinOp} {t : TypeId} {x y : Operand} {u v : Value} (h1 : ¬ (u = .nilIface ∧ v = .nilIface)) (h2 : ∀ c d, ¬ (u = .agg c ∧ v = .agg d)) :
    (eqGuard op t x y u v).run P w = .ok () w := by
  unfold eqGuard
  cases op <;> simp <;> cases u <;> cases v <;> simp_all

theorem run_eqGuard_not {op : BinOp} {t : TypeId} {x y : Operand} {u v : Value} (h1 : op ≠ .eql) (h2 : op ≠ .neq) :
    (eqGuard op t x y u v).run P w = .ok () w := by
  unfold eqGuard
  cases op <;> simp_all

theorem run_eqGuard_const {op : BinOp} {t : TypeId} {x y : Operand} (h : (isConst x || isConst y) = true) :
    (eqGuard op t x y .nilIface .nilIface).run P w = .ok () w := by
  unfold eqGuard
  cases op <;> simp <;> cases x <;> cases y <;> simp_all [isConst]

include hC in
theorem run_eqGuard_agg {op : BinOp} {t : TypeId} {x y : Operand} {c d : Array Value} {ls : List Leaf} (h : leavesIn t C.eqs = some ls) :
    (eqGuard op t x y (.agg c) (.agg d)).run P w = .ok () w := by
  have := (hC.eqs _ _ h).guard
  unfold eqGuard
  cases op <;> simp [this]

theorem run_binOp_eql {t : TypeId} {x y : Value} {b : Bool} (h1 : ∀ k n, x ≠ .int k n) (h2 : ∀ s, x ≠ .string s) (h : (Op.equal t x y).run P w = .ok b w)
    (h3 : ∀ k n, x ≠ .float k n) (h4 : ∀ k n m, x ≠ .complex k n m) : (binOp .eql t x y).run P w = .ok (.bool b) w := by
  cases x <;> simp [binOp, h] <;> simp_all

theorem run_binOp_neq {t : TypeId} {x y : Value} {b : Bool} (h1 : ∀ k n, x ≠ .int k n) (h2 : ∀ s, x ≠ .string s) (h : (Op.equal t x y).run P w = .ok b w)
    (h3 : ∀ k n, x ≠ .float k n) (h4 : ∀ k n m, x ≠ .complex k n m) : (binOp .neq t x y).run P w = .ok (.bool !b) w := by
  cases x <;> simp [binOp, h] <;> simp_all

theorem valEq_shape {nc : Bool} {t : TypeId} {x y : Value} {b : Bool} (h : valEq C nc t x y = some b) :
    (∀ k n, x ≠ .int k n) ∧ (∀ s, x ≠ .string s) ∧ (∀ k n, x ≠ .float k n) ∧ (∀ k n m, x ≠ .complex k n m) ∧
    ((x = .nilIface ∧ y = .nilIface) → nc = true) ∧ (∀ c d, (x = .agg c ∧ y = .agg d) → ∃ ls, leavesIn t C.eqs = some ls) := by
  unfold valEq at h
  split at h <;> simp_all
  · cases nc <;> simp_all
  · rename_i h1 _
    simp only [Option.bind_eq_some_iff] at h
    obtain ⟨ls, h, _⟩ := h
    exact ⟨ls, h⟩
  · simp only [Option.bind_eq_some_iff] at h
    obtain ⟨ls, h, _⟩ := h
    exact ⟨ls, h⟩

end
end Go.Ev

namespace Go.Ev
open Go Go.RowKit

section
variable {P : Program} {C : Ctx} (hC : CtxOk P C) {μ : Mu} {B : Nat} {H H' : AHeap} {w : World} {o : Oper} {a : Act} {ρ : Env}

theorem intBin_rel {op : BinOp} {k : IntKind} {x y : Int} {z : Value} (h : intBin op k x y = some z) : VRel μ z z := by
  cases op <;> simp only [intBin, intBits] at h <;>
    first
      | (simp at h; subst h; first | exact .int _ _ | exact .bool _)
      | (split at h <;> simp at h; subst h; exact .int _ _)
      | (simp at h; done)

theorem strBin_rel {op : BinOp} {x y : ByteArray} {z : Value} (h : strBin op x y = some z) : VRel μ z z := by
  cases op <;> simp only [strBin] at h <;>
    first
      | (simp at h; done)
      | (split at h <;> simp at h; subst h; exact .string _)
      | (simp at h; subst h; exact .bool _)

include hC in
theorem op_binOp (hW : WRel μ B H w) (hE : EnvRel μ ρ a.tmps) {op : BinOp} {t yt : TypeId} {x y : Operand} (ho : o.op = .binOp op t x y yt) {r : OpRes} (h : opEval C ρ H o = some r) :
    OpOk P C B μ H w o a r := by
  simp only [opEval, ho, Option.bind_eq_some_iff] at h
  obtain ⟨u, hu, v, hv, h⟩ := h
  have ru := look_sound hE hu
  have rv := look_sound hE hv
  refine ok_retV hW h fun z hz => ?_
  suffices hs : ∃ z', VRel μ z z' ∧ (eqGuard op t x y (a.eval x) (a.eval y)).run P w = .ok () w ∧ (binOp op t (a.eval x) (a.eval y)).run P w = .ok z' w by
    obtain ⟨z', e1, e2, e3⟩ := hs
    exact ⟨z', e1, by simp [execOp, ho, e2, e3]⟩
  generalize a.eval x = u' at ru
  generalize a.eval y = v' at rv
  unfold binA at hz
  split at hz
  · cases ru; cases rv
    refine ⟨z, ?_, run_eqGuard_not (by simp) (by simp), by simpa [binOp] using run_shiftA hz⟩
    unfold shiftA at hz; split at hz <;> simp at hz; subst hz; exact .int _ _
  · cases ru; cases rv
    refine ⟨z, ?_, run_eqGuard_not (by simp) (by simp), by simpa [binOp] using run_shiftA hz⟩
    unfold shiftA at hz; split at hz <;> simp at hz; subst hz; exact .int _ _
  · rename_i hn1 hn2
    cases ru; cases rv
    split at hz
    · rename_i hk; subst hk
      exact ⟨z, intBin_rel hz, run_eqGuard_plain (by simp) (by simp), run_intBin hn1 hn2 hz⟩
    · simp at hz
  · cases ru; cases rv
    exact ⟨z, strBin_rel hz, run_eqGuard_plain (by simp) (by simp), by simpa [binOp] using run_strBin hz⟩
  · rename_i p q h1 h2 h3
    simp only [Option.map_eq_some_iff] at hz
    obtain ⟨b, hb, rfl⟩ := hz
    obtain ⟨g1, g2, g3, g4, g5, g6⟩ := valEq_shape hb
    have k1 : ∀ k n, u' ≠ .int k n := by rintro k n rfl; cases ru; exact g1 _ _ rfl
    have k2 : ∀ s, u' ≠ .string s := by rintro k rfl; cases ru; exact g2 _ rfl
    have k3 : ∀ k n, u' ≠ .float k n := by rintro k n rfl; cases ru
    have k4 : ∀ k n m, u' ≠ .complex k n m := by rintro k n m rfl; cases ru
    have he := valEq_sound hC (w := w) ru rv hb
    refine ⟨_, .bool b, ?_, run_binOp_eql k1 k2 he k3 k4⟩
    by_cases e1 : u' = .nilIface ∧ v' = .nilIface
    · obtain ⟨rfl, rfl⟩ := e1
      cases ru; cases rv
      exact run_eqGuard_const (g5 ⟨rfl, rfl⟩)
    · by_cases e2 : ∃ c d, u' = .agg c ∧ v' = .agg d
      · obtain ⟨c, d, rfl, rfl⟩ := e2
        cases ru with
        | agg c0 _ _ _ =>
          cases rv with
          | agg d0 _ _ _ =>
            obtain ⟨ls, hl⟩ := g6 _ _ ⟨rfl, rfl⟩
            exact run_eqGuard_agg hC hl
      · exact run_eqGuard_plain e1 fun c d hcd => e2 ⟨c, d, hcd⟩
  · rename_i p q h1 h2 h3
    simp only [Option.map_eq_some_iff] at hz
    obtain ⟨b, hb, rfl⟩ := hz
    obtain ⟨g1, g2, g3, g4, g5, g6⟩ := valEq_shape hb
    have k1 : ∀ k n, u' ≠ .int k n := by rintro k n rfl; cases ru; exact g1 _ _ rfl
    have k2 : ∀ s, u' ≠ .string s := by rintro k rfl; cases ru; exact g2 _ rfl
    have k3 : ∀ k n, u' ≠ .float k n := by rintro k n rfl; cases ru
    have k4 : ∀ k n m, u' ≠ .complex k n m := by rintro k n m rfl; cases ru
    have he := valEq_sound hC (w := w) ru rv hb
    refine ⟨_, .bool (!b), ?_, run_binOp_neq k1 k2 he k3 k4⟩
    by_cases e1 : u' = .nilIface ∧ v' = .nilIface
    · obtain ⟨rfl, rfl⟩ := e1
      cases ru; cases rv
      exact run_eqGuard_const (g5 ⟨rfl, rfl⟩)
    · by_cases e2 : ∃ c d, u' = .agg c ∧ v' = .agg d
      · obtain ⟨c, d, rfl, rfl⟩ := e2
        cases ru with
        | agg c0 _ _ _ =>
          cases rv with
          | agg d0 _ _ _ =>
            obtain ⟨ls, hl⟩ := g6 _ _ ⟨rfl, rfl⟩
            exact run_eqGuard_agg hC hl
      · exact run_eqGuard_plain e1 fun c d hcd => e2 ⟨c, d, hcd⟩
  · simp at hz

theorem op_unOp (hW : WRel μ B H w) (hE : EnvRel μ ρ a.tmps) {op : UnOp} {t : TypeId} {x : Operand} (ho : o.op = .unOp op t x) {r : OpRes}
    (h : ((look ρ x).bind fun v => retV H (unA op v)) = some r) : OpOk P C B μ H w o a r := by
  simp only [Option.bind_eq_some_iff] at h
  obtain ⟨u, hu, h⟩ := h
  have ru := look_sound hE hu
  refine ok_retV hW h fun z hz => ?_
  generalize he : a.eval x = u' at ru
  unfold unA at hz
  split at hz
  · cases ru; simp at hz; subst hz
    exact ⟨_, .int _ _, by simp [execOp, ho, he, Op.unary, Op.intArith]⟩
  · cases ru
    refine ⟨z, ?_, ?_⟩
    · simp [intBits] at hz; subst hz; exact .int _ _
    · simp [execOp, ho, he, Op.unary, run_intBits hz]
  · cases ru; simp at hz; subst hz
    exact ⟨_, .bool _, by simp [execOp, ho, he, Op.unary]⟩
  · simp at hz

include hC in
theorem op_makeInterface (hW : WRel μ B H w) (hE : EnvRel μ ρ a.tmps) {t : TypeId} {x : Operand} (ho : o.op = .makeInterface t x) {r : OpRes} (h : opEval C ρ H o = some r) :
    OpOk P C B μ H w o a r := by
  simp only [opEval, ho] at h
  split at h
  · simp at h
  · simp at h
  · rename_i td hne hd
    simp only [Option.map_eq_some_iff] at h
    obtain ⟨v, hv, rfl⟩ := h
    obtain ⟨d, h1, h2⟩ := under_any hC hd (by rintro rfl; exact hne rfl)
    refine ok_pure hW (.iface t _ _ (look_sound hE hv)) ?_
    cases d <;> first | exact absurd rfl (h2 _) | simp [execOp, ho, Instr.makeInterface, run_und h1]

theorem op_makeFunc (hW : WRel μ B H w) (hE : EnvRel μ ρ a.tmps) {fn : Fn} {fs cs : Array Operand} (ho : o.op = .makeFunc fn fs cs) {r : OpRes} (h : opEval C ρ H o = some r) :
    OpOk P C B μ H w o a r := by
  simp only [opEval, ho] at h
  have key : ∀ fn', fn = fn' → ((looks ρ fs.toList).bind fun a => (looks ρ cs.toList).map fun b => OpRes.val (.func fn' ⟨a⟩ ⟨b⟩) H) = some r → OpOk P C B μ H w o a r := by
    rintro _ rfl h
    simp only [Option.bind_eq_some_iff, Option.map_eq_some_iff] at h
    obtain ⟨xs, h1, ys, h2, rfl⟩ := h
    have e1 : (⟨fs.toList.map a.eval⟩ : Array Value) = fs.map a.eval := by apply Array.ext'; simp
    have e2 : (⟨cs.toList.map a.eval⟩ : Array Value) = cs.map a.eval := by apply Array.ext'; simp
    refine ok_pure hW (.func' fn (looks_sound hE h1) (looks_sound hE h2)) ?_
    rw [e1, e2]
    simp [execOp, ho, Instr.makeFunc]
  split at h
  · exact key _ rfl h
  · exact key _ rfl h
  · simp at h

theorem op_makeMap (hW : WRel μ B H w) {t : TypeId} (ho : o.op = .makeMap t none) {r : OpRes} (h : opEval C ρ H o = some r) :
    OpOk P C B μ H w o a r := by
  simp only [opEval, ho] at h
  split at h
  · simp only [Option.some.injEq] at h
    subst h
    refine ⟨_, w.alloc (.map #[] 0), _, .inl ?_, .map _ _ 0 (Mu.put_same _ _ (w.heap.size, 0)), hW.alloc ?_⟩
    · simp [execOp, ho, Instr.makeMap]
    · exact ⟨#[], heap_new _ _, hW.base, .nil⟩
  · simp at h

theorem idx_sound {v v' : Value} {n : Int} (hr : VRel μ v v') (h : idx v = some n) : ∃ k, v' = .int k n := by
  unfold idx at h
  split at h
  · simp at h; subst h; cases hr; exact ⟨_, rfl⟩
  · simp at h

theorem wrap_i64 {n : Int} (h0 : 0 ≤ n) (h1 : n < 2 ^ 47) : IntKind.i64.wrap n = n := by
  unfold IntKind.wrap
  have h1' : n < 140737488355328 := by simpa using h1
  have e : n % (2 ^ IntKind.i64.bits : Int) = n := Int.emod_eq_of_lt h0 (by simp [IntKind.bits]; omega)
  simp only [e]
  rw [if_neg]
  simp [IntKind.bits]
  omega

include hC in
theorem op_makeSlice (hW : WRel μ B H w) (hE : EnvRel μ ρ a.tmps) {t : TypeId} {x y : Operand} (ho : o.op = .makeSlice t x y) {r : OpRes} (h : opEval C ρ H o = some r) :
    OpOk P C B μ H w o a r := by
  simp only [opEval, ho] at h
  split at h
  · rename_i e hd
    simp only [Option.bind_eq_some_iff] at h
    obtain ⟨ti, hte, z, hz, lv, hl, cv, hc, l, hl', c, hc', h⟩ := h
    obtain ⟨kl, el⟩ := idx_sound (look_sound hE hl) hl'
    obtain ⟨kc, ec⟩ := idx_sound (look_sound hE hc) hc'
    split at h
    · rename_i hcond
      obtain ⟨c1, c2, c3, c4, c5, c6⟩ := hcond
      simp only [Option.some.injEq] at h
      subst h
      obtain ⟨zv, h1, h2, h3⟩ := zeroOf_sound hC hz w
      have hu := under_slice hC hd
      obtain ⟨i, hi1, hi2, hi3, hi4⟩ := run_typeInfo hC hte w
      have hzs : zv.cells.size = ti.size := by rw [← c6, ← h2]; simp
      have wl : IntKind.i64.wrap l = l := wrap_i64 c1 (by omega)
      have wc : IntKind.i64.wrap c = c := wrap_i64 (by omega) c3
      refine ok_alloc hW (c' := repl c.toNat z) (VRelL.repl (by rw [← h2]; exact plain_cells h3) _) (mk := fun a => .slice (some a) l.toNat c.toNat) (fun μ' n hn _ => .slice _ _ _ _ _ _ hn) fun w' hw' => ?_
      simp only [execOp, ho, Instr.makeSlice, el, ec, asInt, asIntOf, Sem.run_bind, run_und hu, Result.andThen_ok, Sem.run_pure, hi1, hi3, wl, wc]
      have t1 : (decide (c < 0) || decide (↑ti.bytes * c > 2 ^ 48)) = false := by
        simp only [Bool.or_eq_false_iff, decide_eq_false_iff_not]
        constructor
        · omega
        · have : (2 : Int) ^ 47 ≤ 2 ^ 48 := by decide
          omega
      have t2 : ¬ ((((decide (c < 0) || decide (↑ti.bytes * c > 2 ^ 48)) || decide (l < 0)) || decide (l > c)) = true) := by
        rw [t1]; simp; omega
      rw [if_neg t2]
      simp only [Sem.run_bind, run_askRoom, Result.andThen_ok, run_sizeOf hC hte]
      by_cases hz0 : c.toNat * ti.size = 0
      · have hc0 : c.toNat = 0 := by
          rcases Nat.mul_eq_zero.1 hz0 with h | h
          · exact h
          · exact absurd h c5
        rw [hc0] at hw' ⊢
        have r0 : ∀ (f : Nat → Value), Array.map f (Array.range 0) = #[] := fun f => by simp
        have r1 : (⟨repl 0 z⟩ : Array Value) = #[] := rfl
        rw [r1] at hw'
        simp only [Nat.zero_mul, if_true, Sem.run_bind, Sem.run_pure, Result.andThen_ok, r0, hw']
      · simp only [hz0, if_false, Sem.run_bind, h1, Result.andThen_ok, Sem.run_pure]
        have r1 : (Array.range (c.toNat * ti.size)).map (fun i => zv.cells[i % zv.cells.size]!) = ⟨repl c.toNat z⟩ := by
          apply Array.ext'
          rw [← hzs, repl_eq, h2]
        rw [r1, hw']
        simp
    · simp at h
  · simp at h

include hC in
theorem op_fieldAddr (hW : WRel μ B H w) (hE : EnvRel μ ρ a.tmps) {t : TypeId} {x : Operand} {f : Nat} (ho : o.op = .fieldAddr t x f) {r : OpRes} (h : opEval C ρ H o = some r) :
    OpOk P C B μ H w o a r := by
  simp only [opEval, ho, Option.bind_eq_some_iff] at h
  obtain ⟨v, hv, h⟩ := h
  have hr := look_sound hE hv
  generalize he : a.eval x = z at hr
  split at h
  · rename_i fs si by' z' b off hti
    obtain ⟨fields, g1, g2, g3⟩ := under_struct hC (tdA_of hti)
    split at h
    · rename_i ft fo sz hf
      cases hsz : sz.beq 0 with
      | true => simp [hsz] at h
      | false =>
        simp only [hsz, cond_false, Option.some.injEq] at h
        subst h
        cases hr with
        | ptr _ r' n _ hm =>
          refine ok_pure hW (.ptr _ _ _ _ hm) ?_
          have : ∃ fl, fields[f]? = some fl ∧ fl.offset = fo ∧ P.cellsOf fl.type = sz := by
            rw [← g2] at hf
            simp only [List.getElem?_map, Option.map_eq_some_iff, Prod.mk.injEq] at hf
            obtain ⟨fl, hfl, rfl, rfl, rfl⟩ := hf
            exact ⟨fl, by simpa using hfl, rfl, rfl⟩
          obtain ⟨fl, hfl, rfl, rfl⟩ := this
          have hne : P.cellsOf fl.type ≠ 0 := by intro e; rw [e] at hsz; simp at hsz
          have hmem : fl ∈ fields.toList := by
            have := Array.mem_of_getElem? hfl
            simpa using this
          simp only [execOp, ho, he, Instr.fieldAt, Sem.run_bind, run_und g1, Result.andThen_ok]
          simp [hfl, Instr.sureAddr, fieldPlace, run_size_isSome (g3 fl hmem), hne, add_none]
    · simp at h
  · simp at h

theorem take_drop_rel {l l' : List Value} (h : VRelL μ l l') (o n : Nat) : VRelL μ ((l.drop o).take n) ((l'.drop o).take n) := (h.drop o).take n

theorem extract_list {α : Type} (c : Array α) (o n : Nat) : (c.extract o (o + n)).toList = (c.toList.drop o).take n := by
  simp [Array.toList_extract, List.extract]

include hC in
theorem part_sound {t : TypeId} {ti : TI} (hti : C.ty.get t = some ti) {cs cs' : List Value} (h : VRelL μ cs cs') {off : Nat} (hle : off + ti.size ≤ cs.length) {v : Value}
    (hv : mkVal ti.td.agg ((cs.drop off).take ti.size) = some v) : ∃ v', VRel μ v v' ∧ (part t ⟨cs'⟩ off).run P w = .ok v' w := by
  have hl := h.length
  simp only [part, Sem.run_bind, run_isAgg hC hti, Result.andThen_ok]
  cases ha : ti.td.agg with
  | true =>
    rw [ha] at hv
    simp only [mkVal, Option.some.injEq] at hv
    subst hv
    refine ⟨.agg ⟨(cs'.drop off).take ti.size⟩, .agg' (take_drop_rel h _ _), ?_⟩
    have : (⟨cs'⟩ : Array Value).extract off (off + ti.size) = ⟨(cs'.drop off).take ti.size⟩ := by apply Array.ext'; rw [extract_list]
    simp [run_sizeOf hC hti, this]
  | false =>
    rw [ha] at hv
    cases hd : (cs.drop off).take ti.size with
    | nil => rw [hd] at hv; simp [mkVal] at hv
    | cons y ys =>
      rw [hd] at hv
      cases ys with
      | cons _ _ => simp [mkVal] at hv
      | nil =>
        simp only [mkVal, Option.some.injEq] at hv
        subst hv
        have hlen : ((cs.drop off).take ti.size).length = 1 := by rw [hd]; rfl
        have hpos : 0 < ti.size := by simp at hlen; omega
        have hy : cs[off]? = some y := by
          have e : ((cs.drop off).take ti.size)[0]? = some y := by rw [hd]; rfl
          rw [List.getElem?_take_of_lt hpos, List.getElem?_drop] at e
          simpa using e
        obtain ⟨y', h1, h2⟩ := h.get hy
        exact ⟨y', h2, by simp [h1]⟩

include hC in
theorem op_field (hW : WRel μ B H w) (hE : EnvRel μ ρ a.tmps) {t : TypeId} {x : Operand} {f : Nat} (ho : o.op = .field t x f) {r : OpRes} (h : opEval C ρ H o = some r) :
    OpOk P C B μ H w o a r := by
  simp only [opEval, ho, Option.bind_eq_some_iff] at h
  obtain ⟨v, hv, h⟩ := h
  have hr := look_sound hE hv
  generalize he : a.eval x = z at hr
  split at h
  · rename_i fs si by' z' cs hti
    obtain ⟨fields, g1, g2, g3⟩ := under_struct hC (tdA_of hti)
    split at h
    · rename_i ft fo sz hf
      simp only [Option.bind_eq_some_iff] at h
      obtain ⟨ti, hft, h⟩ := h
      cases hc : ((fo + sz).ble cs.size && sz.beq ti.size) with
      | false => simp [hc] at h
      | true =>
        simp only [hc, cond_true] at h
        simp only [Bool.and_eq_true] at hc
        have c1 := ble_true hc.1
        have c2 := beq_true hc.2
        subst c2
        obtain ⟨cs', rfl, hcs⟩ := hr.agg_inv
        refine ok_retV hW h fun u hu => ?_
        obtain ⟨u', e1, e2⟩ := part_sound (w := w) hC hft hcs (by simpa using c1) hu
        refine ⟨u', e1, ?_⟩
        have : ∃ fl, fields[f]? = some fl ∧ fl.offset = fo ∧ fl.type = ft := by
          rw [← g2] at hf
          simp only [List.getElem?_map, Option.map_eq_some_iff, Prod.mk.injEq] at hf
          obtain ⟨fl, hfl, rfl, rfl, _⟩ := hf
          exact ⟨fl, by simpa using hfl, rfl, rfl⟩
        obtain ⟨fl, hfl, rfl, rfl⟩ := this
        simp only [execOp, ho, he, Instr.field, Sem.run_bind, run_und g1, Result.andThen_ok, hfl, asAgg, Sem.run_pure]
        simp only [Array.toArray_toList] at e2
        simp [e2]
    · simp at h
  · simp at h

include hC in
theorem op_indexAddr (hW : WRel μ B H w) (hE : EnvRel μ ρ a.tmps) {t : TypeId} {x i : Operand} (ho : o.op = .indexAddr t x i) {r : OpRes} (h : opEval C ρ H o = some r) :
    OpOk P C B μ H w o a r := by
  simp only [opEval, ho, Option.bind_eq_some_iff] at h
  obtain ⟨v, hv, iv, hiv, n, hn, h⟩ := h
  have hr := look_sound hE hv
  obtain ⟨k, ei⟩ := idx_sound (look_sound hE hiv) hn
  generalize he : a.eval x = z at hr
  split at h
  · rename_i len e b off hd
    have hu := under_array hC hd
    simp only [Option.bind_eq_some_iff] at h
    obtain ⟨ti, hte, h⟩ := h
    split at h
    · rename_i hb
      simp only [Option.some.injEq] at h; subst h
      cases hr with
      | ptr _ r' n' _ hm =>
        refine ok_pure hW (.ptr _ _ _ _ hm) ?_
        simp [execOp, ho, he, ei, Instr.indexAt, asIntOf, run_und hu, Instr.sureAddr, hb, run_sizeOf hC hte, add_none]
    · simp at h
  · rename_i e ad len c hd
    have hu := under_slice hC hd
    simp only [Option.bind_eq_some_iff] at h
    obtain ⟨ti, hte, h⟩ := h
    split at h
    · rename_i hb
      simp only [Option.some.injEq] at h; subst h
      cases hr with
      | slice b r' n' o' _ _ hm =>
        refine ok_pure hW (.ptr _ _ _ _ hm) ?_
        simp [execOp, ho, he, ei, Instr.indexAt, asIntOf, run_und hu, hb, run_sizeOf hC hte, add_none]
      | grow b r' n' o' e' _ _ hm _ _ =>
        refine ok_pure hW (.ptr _ _ _ _ hm) ?_
        simp [execOp, ho, he, ei, Instr.indexAt, asIntOf, run_und hu, hb, run_sizeOf hC hte, add_none]
      | loose => omega
    · simp at h
  · simp at h

include hC in
theorem op_index (hW : WRel μ B H w) (hE : EnvRel μ ρ a.tmps) {t : TypeId} {x i : Operand} (ho : o.op = .index t x i) {r : OpRes} (h : opEval C ρ H o = some r) :
    OpOk P C B μ H w o a r := by
  simp only [opEval, ho, Option.bind_eq_some_iff] at h
  obtain ⟨v, hv, iv, hiv, n, hn, h⟩ := h
  have hr := look_sound hE hv
  obtain ⟨k, ei⟩ := idx_sound (look_sound hE hiv) hn
  generalize he : a.eval x = z at hr
  split at h
  · rename_i len e cs hd
    have hu := under_array hC hd
    simp only [Option.bind_eq_some_iff] at h
    obtain ⟨ti, hte, h⟩ := h
    split at h
    · rename_i hb
      obtain ⟨cs', rfl, hcs⟩ := hr.agg_inv
      refine ok_retV hW h fun u hu' => ?_
      obtain ⟨u', e1, e2⟩ := part_sound (w := w) hC hte hcs (off := n.toNat * ti.size) (by have := hb.2.2; rw [Nat.add_mul] at this; simp at this ⊢; omega) hu'
      refine ⟨u', e1, ?_⟩
      simp only [Array.toArray_toList] at e2
      simp [execOp, ho, he, ei, Instr.index, asIntOf, run_und hu, hb.1, hb.2.1, run_sizeOf hC hte, e2]
    · simp at h
  · rename_i s hd
    have hu := under_string hC hd
    split at h
    · rename_i hb
      simp only [Option.map_eq_some_iff] at h
      obtain ⟨c, hc, rfl⟩ := h
      cases hr with
      | string =>
        refine ok_pure hW (.int _ _) ?_
        have : s[n.toNat]? = some c := by
          rw [← hc]
          have : s[n.toNat]? = s.data[n.toNat]? := (Option.map_inj_right fun x y a => a).mp rfl
          rw [this]; simp
        simp [execOp, ho, he, ei, Instr.index, asIntOf, run_und hu, hb, this]
    · simp at h
  · simp at h

theorem op_extract (hW : WRel μ B H w) (hE : EnvRel μ ρ a.tmps) {x : Operand} {i : Nat} (ho : o.op = .extract x i) {r : OpRes} (h : opEval C ρ H o = some r) :
    OpOk P C B μ H w o a r := by
  simp only [opEval, ho, Option.bind_eq_some_iff] at h
  obtain ⟨v, hv, h⟩ := h
  have hr := look_sound hE hv
  split at h
  · obtain ⟨cs', he, hcs⟩ := hr.tuple_inv
    refine ok_retV hW h fun u hu => ?_
    obtain ⟨u', e1, e2⟩ := hcs.get hu
    exact ⟨u', e2, by simp [execOp, ho, he, Instr.extract]; simp at e1; simp [e1]⟩
  · simp at h

end
end Go.Ev

namespace Go.Ev
open Go Go.RowKit

theorem lookOpt_sound {μ : Mu} {ρ : Env} {a : Act} (hE : EnvRel μ ρ a.tmps) {x : Option Operand} {vs : List Value} (h : looks ρ x.toList = some vs) :
    (vs.head? = none ∧ x = none) ∨ ∃ v y, vs.head? = some v ∧ x = some y ∧ VRel μ v (a.eval y) := by
  cases x with
  | none => simp [looks] at h; subst h; exact .inl ⟨rfl, rfl⟩
  | some y =>
    simp only [Option.toList, looks, Option.bind_eq_some_iff, Option.map_eq_some_iff] at h
    obtain ⟨v, h1, us, h2, rfl⟩ := h
    exact .inr ⟨v, y, rfl, rfl, look_sound hE h1⟩

/-- A bound, if there is one. -/
def OptRel (μ : Mu) : Option Value → Option Value → Prop
  | none, none => True
  | some v, some v' => VRel μ v v'
  | _, _ => False

theorem lookOpt_rel {μ : Mu} {ρ : Env} {a : Act} (hE : EnvRel μ ρ a.tmps) {x : Option Operand} {vs : List Value} (h : looks ρ x.toList = some vs) :
    OptRel μ vs.head? (x.map a.eval) := by
  rcases lookOpt_sound hE h with ⟨h1, h2⟩ | ⟨v, y, h1, h2, h3⟩
  · rw [h1, h2]; trivial
  · rw [h1, h2]; exact h3

section
variable {P : Program} {C : Ctx} (hC : CtxOk P C) {μ : Mu} {B : Nat} {H H' : AHeap} {w : World} {o : Oper} {a : Act} {ρ : Env}

theorem bound_one {v v' : Value} (hr : VRel μ v v') {y y' l : Nat} (code : BoundsCode) (h : ((idx v).bind fun i => if 0 ≤ i ∧ i ≤ (y : Int) then some i.toNat else none) = some l) (hy : y ≤ y') :
    (Instr.sliceBound v' y' code).run P w = .ok l w ∧ l ≤ y := by
  simp only [Option.bind_eq_some_iff] at h
  obtain ⟨i, h1, h2⟩ := h
  obtain ⟨k, rfl⟩ := idx_sound hr h1
  split at h2
  · rename_i hb
    simp only [Option.some.injEq] at h2; subst h2
    have : 0 ≤ i ∧ i ≤ (y' : Int) := ⟨hb.1, by omega⟩
    exact ⟨by simp [Instr.sliceBound, asIntOf, this], by omega⟩
  · simp at h2

theorem bounds_none {isS : Bool} {len cap cap' : Nat} {lo hi lo' hi' : Option Value} (h1 : OptRel μ lo lo') (h2 : OptRel μ hi hi') {l h m : Nat} (hc : cap ≤ cap')
    (hb : boundsA len cap lo hi none = some (l, h, m)) : (Instr.sliceBounds isS len cap' lo' hi' none).run P w = .ok (l, h, cap') w ∧ m = cap ∧ l ≤ h ∧ (h = len ∨ h ≤ cap) := by
  simp only [boundsA, Option.bind_some, Option.bind_eq_some_iff, Option.some.injEq, Prod.mk.injEq] at hb
  obtain ⟨hh, e1, ll, e2, rfl, rfl, rfl⟩ := hb
  cases hi with
  | none =>
    cases hi' with
    | some _ => exact h2.elim
    | none =>
      simp only [Option.isNone_none, cond_true, Option.some.injEq] at e1
      subst e1
      cases lo with
      | none =>
        cases lo' with
        | some _ => exact h1.elim
        | none =>
          simp only [Option.some.injEq] at e2; subst e2
          exact ⟨by simp [Instr.sliceBounds], rfl, by omega, .inl rfl⟩
      | some v =>
        cases lo' with
        | none => exact h1.elim
        | some v' =>
          obtain ⟨g1, g2⟩ := bound_one (P := P) (w := w) h1 .sliceB e2 (Nat.le_refl _)
          exact ⟨by simp only [Instr.sliceBounds, Sem.run_bind, Sem.run_pure, Result.andThen_ok]; simp [g1], rfl, g2, .inl rfl⟩
  | some u =>
    cases hi' with
    | none => exact h2.elim
    | some u' =>
      obtain ⟨f1, f2⟩ := bound_one (P := P) (w := w) h2 (if isS then .sliceAcap else .sliceAlen) e1 hc
      cases lo with
      | none =>
        cases lo' with
        | some _ => exact h1.elim
        | none =>
          simp only [Option.some.injEq] at e2; subst e2
          exact ⟨by simp only [Instr.sliceBounds, Sem.run_bind, Sem.run_pure, Result.andThen_ok]; simp [f1], rfl, by omega, .inr f2⟩
      | some v =>
        cases lo' with
        | none => exact h1.elim
        | some v' =>
          obtain ⟨g1, g2⟩ := bound_one (P := P) (w := w) h1 .sliceB e2 (Nat.le_refl _)
          exact ⟨by simp only [Instr.sliceBounds, Sem.run_bind, Sem.run_pure, Result.andThen_ok]; simp [f1, g1], rfl, g2, .inr f2⟩

theorem bounds_some {len cap cap' : Nat} {lo hi lo' hi' mx mx' : Option Value} (h1 : OptRel μ lo lo') (h2 : OptRel μ hi hi') (h3 : OptRel μ mx mx') (hm : mx.isSome = true) {l h m : Nat} (hc : cap ≤ cap')
    (hb : boundsA len cap lo hi mx = some (l, h, m)) : (Instr.sliceBounds true len cap' lo' hi' mx').run P w = .ok (l, h, m) w ∧ m ≤ cap := by
  cases mx with
  | none => simp at hm
  | some x =>
    cases mx' with
    | none => exact h3.elim
    | some x' =>
      simp only [boundsA, Option.bind_eq_some_iff, Option.some.injEq, Prod.mk.injEq] at hb
      obtain ⟨mm, e0, hh, e1, ll, e2, rfl, rfl, rfl⟩ := hb
      obtain ⟨f0, f0'⟩ := bound_one (P := P) (w := w) h3 (if true then .slice3Acap else .slice3Alen) (by simpa [Option.bind_eq_some_iff] using e0) hc
      cases hi with
      | none => simp at e1
      | some u =>
        cases hi' with
        | none => exact h2.elim
        | some u' =>
          obtain ⟨f1, f2⟩ := bound_one (P := P) (w := w) h2 .slice3B (by simpa [Option.bind_eq_some_iff] using e1) (Nat.le_refl _)
          cases lo with
          | none =>
            cases lo' with
            | some _ => exact h1.elim
            | none =>
              simp only [Option.some.injEq] at e2; subst e2
              exact ⟨by simp only [Instr.sliceBounds, Sem.run_bind, Sem.run_pure, Result.andThen_ok]; simp at f0; simp [f0, f1], f0'⟩
          | some v =>
            cases lo' with
            | none => exact h1.elim
            | some v' =>
              obtain ⟨g1, g2⟩ := bound_one (P := P) (w := w) h1 (if (some x').isSome then .slice3C else .sliceB) (by simpa [Option.bind_eq_some_iff] using e2) (Nat.le_refl _)
              exact ⟨by simp only [Instr.sliceBounds, Sem.run_bind, Sem.run_pure, Result.andThen_ok]; simp at f0 g1; simp [f0, f1, g1], f0'⟩

/-- A cut of a row of known room. -/
theorem cut_exact {e : Nat} {b r n off len cap : Nat} (hm : μ b = some (r, n)) {lo hi mx lo' hi' mx' : Option Value} (h1 : OptRel μ lo lo') (h2 : OptRel μ hi hi') (h3 : OptRel μ mx mx')
    {v : Value} (h : cutSlice e ⟨b, off, none⟩ len cap lo hi mx = some v) (isS : Bool) (hS : isS = false → mx = none) :
    ∃ l h m, (Instr.sliceBounds isS len cap lo' hi' mx').run P w = .ok (l, h, m) w ∧
      VRel μ v (.slice (some (if m = l then ⟨r, off, none⟩ else (⟨r, off, none⟩ : Addr).add (l * e))) (h - l) (m - l)) := by
  simp only [cutSlice, Option.bind_eq_some_iff, Option.some.injEq] at h
  obtain ⟨⟨l, hh, m⟩, hb, rfl⟩ := h
  have hrun : (Instr.sliceBounds isS len cap lo' hi' mx').run P w = .ok (l, hh, m) w := by
    cases mx with
    | none =>
      cases mx' with
      | some _ => exact h3.elim
      | none =>
        obtain ⟨g1, g2, _⟩ := bounds_none (P := P) (w := w) (isS := isS) h1 h2 (Nat.le_refl cap) hb
        rw [g2]; exact g1
    | some x =>
      have : isS = true := by
        cases isS with
        | true => rfl
        | false => exact absurd (hS rfl) (by simp)
      subst this
      exact (bounds_some (P := P) (w := w) h1 h2 h3 rfl (Nat.le_refl cap) hb).1
  refine ⟨l, hh, m, hrun, ?_⟩
  by_cases e1 : m = l
  · subst e1
    simp only [Nat.beq_refl, cond_true, if_true]
    exact .slice _ _ _ _ _ _ hm
  · rw [beq_false e1]
    simp only [cond_false, e1, if_false, add_none]
    exact .slice _ _ _ _ _ _ hm

theorem cut_grow {e e0 : Nat} {b r n off len cap' : Nat} (hm : μ b = some (r, n)) (hl : len ≤ cap') (hn : off + cap' * e0 ≤ n) {lo hi mx lo' hi' mx' : Option Value} (h1 : OptRel μ lo lo') (h2 : OptRel μ hi hi') (h3 : OptRel μ mx mx')
    {v : Value} {c : Nat} (h : cutSlice e ⟨b, off, some (2 * e0)⟩ len c lo hi mx = some v) :
    ∃ l h m, (Instr.sliceBounds true len cap' lo' hi' mx').run P w = .ok (l, h, m) w ∧
      VRel μ v (.slice (some (if m = l then ⟨r, off, none⟩ else (⟨r, off, none⟩ : Addr).add (l * e))) (h - l) (m - l)) := by
  simp only [cutSlice] at h
  cases he : (2 * e0).beq (2 * e) with
  | false => simp [he] at h
  | true =>
    have he := beq_true he
    have he : e0 = e := by omega
    subst he
    simp only [Nat.beq_refl, Bool.not_true, cond_false] at h
    cases mx with
    | none =>
      cases mx' with
      | some _ => exact h3.elim
      | none =>
        simp only [Option.bind_eq_some_iff] at h
        obtain ⟨⟨l, hh, m⟩, hb, h⟩ := h
        obtain ⟨g1, g2, g3, g4⟩ := bounds_none (P := P) (w := w) (isS := true) h1 h2 hl hb
        refine ⟨l, hh, cap', g1, ?_⟩
        have hle : hh ≤ len := by omega
        by_cases e1 : l = 0
        · subst e1
          simp only [Nat.beq_refl, cond_true, Option.some.injEq] at h
          subst h
          have : (if cap' = 0 then (⟨r, off, none⟩ : Addr) else (⟨r, off, none⟩ : Addr).add (0 * e0)) = ⟨r, off, none⟩ := by
            split
            · rfl
            · rw [add_none]; simp
          rw [this]
          simp only [Nat.sub_zero]
          exact .grow _ _ _ _ _ _ _ hm (by omega) hn
        · rw [beq_false e1] at h
          simp only [cond_false] at h
          by_cases e2 : l = len
          · subst e2
            simp only [Nat.beq_refl, cond_true, Option.some.injEq] at h
            subst h
            have : hh - l = 0 := by omega
            rw [this]
            exact .loose _ _ _ _ _
          · rw [beq_false e2] at h
            simp only [cond_false, Option.some.injEq] at h
            subst h
            rw [if_neg (by omega), add_none]
            refine .grow _ _ _ _ _ _ _ hm (by omega) ?_
            have : l * e0 + (cap' - l) * e0 = cap' * e0 := by
              rw [← Nat.add_mul]; congr 1; omega
            omega
    | some x =>
      simp only [Option.bind_eq_some_iff, Option.some.injEq] at h
      obtain ⟨⟨l, hh, m⟩, hb, rfl⟩ := h
      obtain ⟨g1, g2⟩ := bounds_some (P := P) (w := w) h1 h2 h3 rfl hl hb
      refine ⟨l, hh, m, g1, ?_⟩
      by_cases e1 : m = l
      · subst e1
        simp only [Nat.beq_refl, cond_true, if_true]
        exact .slice _ _ _ _ _ _ hm
      · rw [beq_false e1]
        simp only [cond_false, e1, if_false, add_none]
        exact .slice _ _ _ _ _ _ hm

include hC in
theorem op_slice (hW : WRel μ B H w) (hE : EnvRel μ ρ a.tmps) {t : TypeId} {x : Operand} {lo hi mx : Option Operand} (ho : o.op = .slice t x lo hi mx) {r : OpRes} (h : opEval C ρ H o = some r) :
    OpOk P C B μ H w o a r := by
  simp only [opEval, ho, Option.bind_eq_some_iff] at h
  obtain ⟨v, hv, as, ha, bs, hb, cs, hc, h⟩ := h
  have hr := look_sound hE hv
  have r1 := lookOpt_rel hE ha
  have r2 := lookOpt_rel hE hb
  have r3 := lookOpt_rel hE hc
  generalize as.head? = l1 at h r1
  generalize bs.head? = l2 at h r2
  generalize cs.head? = l3 at h r3
  refine ok_retV hW h fun u hu => ?_
  suffices hs : ∃ u', VRel μ u u' ∧ (Instr.sliceAt t (a.eval x) (lo.map a.eval) (hi.map a.eval) (mx.map a.eval)).run P w = .ok u' w by
    obtain ⟨u', e1, e2⟩ := hs
    exact ⟨u', e1, by simp [execOp, ho, e2]⟩
  generalize a.eval x = z at hr
  unfold sliceA at hu
  split at hu
  · rename_i s hd
    have hut := under_string hC hd
    cases l3 with
    | some _ => simp at hu
    | none =>
      simp only [Option.isNone_none, cond_true, Option.bind_eq_some_iff, Option.some.injEq] at hu
      obtain ⟨⟨l, hh, m⟩, hb, rfl⟩ := hu
      cases hr with
      | string =>
        cases hmx : mx.map a.eval with
        | some _ => rw [hmx] at r3; exact r3.elim
        | none =>
          obtain ⟨g1, g2, _⟩ := bounds_none (P := P) (w := w) (isS := false) r1 r2 (Nat.le_refl _) hb
          refine ⟨_, .string _, ?_⟩
          simp [Instr.sliceAt, Instr.slice, run_und hut, g1]
  · rename_i e len cap hd
    have hut := under_slice hC hd
    simp only [Option.bind_eq_some_iff, Option.some.injEq] at hu
    obtain ⟨⟨l, hh, m⟩, hb, ti, hte, rfl⟩ := hu
    cases hr with
    | slice0 =>
      have hrun : (Instr.sliceBounds true len cap (lo.map a.eval) (hi.map a.eval) (mx.map a.eval)).run P w = .ok (l, hh, m) w := by
        cases l3 with
        | none =>
          cases hmx : mx.map a.eval with
          | some _ => rw [hmx] at r3; exact r3.elim
          | none =>
            obtain ⟨g1, g2, _⟩ := bounds_none (P := P) (w := w) (isS := true) r1 r2 (Nat.le_refl cap) hb
            rw [g2]; exact g1
        | some x => exact (bounds_some (P := P) (w := w) r1 r2 r3 rfl (Nat.le_refl cap) hb).1
      refine ⟨_, .slice0 _ _, ?_⟩
      simp only [Instr.sliceAt, Instr.slice, Sem.run_bind, run_und hut, Result.andThen_ok, hrun, run_sizeOf hC hte]
      simp
  · rename_i e ad len cap hd
    have hut := under_slice hC hd
    simp only [Option.bind_eq_some_iff] at hu
    obtain ⟨ti, hte, hu⟩ := hu
    cases hsz : ti.size.beq 0 with
    | true => simp [hsz] at hu
    | false =>
      simp only [hsz, cond_false] at hu
      cases hr with
      | slice b r' n off _ _ hm =>
        obtain ⟨l, hh, m, g1, g2⟩ := cut_exact (P := P) (w := w) hm r1 r2 r3 hu true (by simp)
        refine ⟨_, g2, ?_⟩
        simp only [Instr.sliceAt, Instr.slice, Sem.run_bind, run_und hut, Result.andThen_ok, g1, run_sizeOf hC hte]
        by_cases e1 : m = l <;> simp [e1]
      | grow b r' n off e0 _ cap' hm hl hn =>
        obtain ⟨l, hh, m, g1, g2⟩ := cut_grow (P := P) (w := w) hm hl hn r1 r2 r3 hu
        refine ⟨_, g2, ?_⟩
        simp only [Instr.sliceAt, Instr.slice, Sem.run_bind, run_und hut, Result.andThen_ok, g1, run_sizeOf hC hte]
        by_cases e1 : m = l <;> simp [e1]
      | loose b off e0 cap' ad' =>
        simp only [cutSlice] at hu
        cases he : (2 * e0 + 1).beq (2 * ti.size) with
        | true => have := beq_true he; omega
        | false => simp [he] at hu
  · rename_i n e ad hd
    have hut := under_array hC hd
    simp only [Option.bind_eq_some_iff] at hu
    obtain ⟨ti, hte, hu⟩ := hu
    cases hsz : (!(ti.size.beq 0)) && l3.isNone with
    | false =>
      cases hsp : ad.spot.isNone with
      | false => simp [hsp] at hu
      | true => simp_all
    | true =>
      simp only [Bool.and_eq_true] at hsz
      cases hr with
      | ptr b r' n' off hm =>
        have hl3 : l3 = none := by simpa using hsz.2
        subst hl3
        cases hmx : mx.map a.eval with
        | some _ => rw [hmx] at r3; exact r3.elim
        | none =>
          simp only [hsz.1, Option.isNone_none, Bool.and_true, cond_true] at hu
          obtain ⟨l, hh, m, g1, g2⟩ := cut_exact (P := P) (w := w) hm r1 r2 (mx := none) (mx' := none) trivial hu false (fun _ => rfl)
          refine ⟨_, g2, ?_⟩
          simp only [Instr.sliceAt, Instr.sureAddr, Sem.run_bind, run_und hut, Result.andThen_ok, Sem.run_pure, g1, run_sizeOf hC hte]
  · simp at hu

end
end Go.Ev
