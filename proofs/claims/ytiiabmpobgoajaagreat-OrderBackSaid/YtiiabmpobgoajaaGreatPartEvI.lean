/- Lengths, conversions, append, copy. -/
import Derived.Test.YtiiabmpobgoajaaGreatPartEvE
import Derived.Lib.UnsafeStr
set_option linter.all false
namespace Go.Ev
open Go Go.RowKit

theorem WRel.drew {μ : Mu} {B : Nat} {H : AHeap} {w : World} (h : WRel μ B H w) : WRel μ B H w.drew := h.of_heap rfl
theorem Went.drew_first {B : Nat} {μ μ' : Mu} {H H' : AHeap} {w w' : World} (h : Went B μ H w.drew μ' H' w') : Went B μ H w μ' H' w' :=
  ⟨h.rel, h.keep, (Below.refl B w).drew.trans h.below⟩

theorem All2.refl {α : Type} {R : α → α → Prop} : ∀ {l : List α}, (∀ x ∈ l, R x x) → All2 R l l
  | [], _ => .nil
  | x :: l, h => .cons (h x (by simp)) (All2.refl fun y hy => h y (by simp [hy]))

theorem VRelL.bytes {μ : Mu} (l : List UInt8) : VRelL μ (l.map fun b => Value.int .u8 b.toNat) (l.map fun b => Value.int .u8 b.toNat) :=
  All2.refl fun x hx => by
    obtain ⟨b, _, rfl⟩ := List.mem_map.1 hx
    exact .int _ _

section
variable {P : Program} {C : Ctx} (hC : CtxOk P C) {μ : Mu} {B : Nat} {H H' : AHeap} {w : World} {o : Oper} {a : Act} {ρ : Env}

theorem bytesOf_rel : ∀ {cs cs' : List Value} {bs : List UInt8}, VRelL μ cs cs' → bytesOf cs = some bs → cs' = cs
  | [], cs', bs, h, _ => h.nil_right
  | c :: cs, cs', bs, h, hb => by
    obtain ⟨c', t, rfl, r, tt⟩ := h.cons_right
    unfold bytesOf at hb
    split at hb
    · rename_i e; cases e
    · rename_i n ds e
      simp only [List.cons.injEq] at e
      obtain ⟨rfl, rfl⟩ := e
      split at hb
      · simp only [Option.map_eq_some_iff] at hb
        obtain ⟨us, h1, rfl⟩ := hb
        cases r
        rw [bytesOf_rel tt h1]
      · simp at hb
    · simp at hb

theorem bytesOf_cells : ∀ {cs : List Value} {bs : List UInt8}, bytesOf cs = some bs → cs = bs.map fun b => Value.int .u8 b.toNat
  | [], bs, h => by simp [bytesOf] at h; subst h; rfl
  | c :: cs, bs, h => by
    unfold bytesOf at h
    split at h
    · rename_i e; cases e
    · rename_i n ds e
      simp only [List.cons.injEq] at e
      obtain ⟨rfl, rfl⟩ := e
      split at h
      · rename_i hn
        simp only [Option.map_eq_some_iff] at h
        obtain ⟨us, h1, rfl⟩ := h
        rw [List.map_cons, ← bytesOf_cells h1]
        congr 2
        have : (UInt8.ofNat n.toNat).toNat = n.toNat := by simp; omega
        rw [this]; omega
      · simp at h
    · simp at h

theorem run_bytesLoop (P : Program) (w : World) : ∀ (cs : List Value) (bs : List UInt8) (s : ByteArray), bytesOf cs = some bs →
    (forIn cs s fun c (s : ByteArray) => (match c with
      | .int .u8 n => pure (ForInStep.yield (s.push (UInt8.ofNat n.toNat)))
      | _ => do
        (stuck "bytesToString: byte expected" : Sem PUnit)
        pure (ForInStep.yield s) : Sem (ForInStep ByteArray))).run P w = .ok ⟨(s.data.toList ++ bs).toArray⟩ w := by
  intro cs
  induction cs with
  | nil =>
    intro bs s h
    simp only [bytesOf, Option.some.injEq] at h
    subst h
    simp
  | cons c cs ih =>
    intro bs s h
    unfold bytesOf at h
    split at h
    · rename_i e; cases e
    · rename_i n ds e
      simp only [List.cons.injEq] at e
      obtain ⟨rfl, rfl⟩ := e
      split at h
      · simp only [Option.map_eq_some_iff] at h
        obtain ⟨us, h1, rfl⟩ := h
        rw [List.forIn_cons]
        simp only [Sem.run_bind, Sem.run_pure, Result.andThen_ok]
        rw [ih us _ h1]
        congr 2
        simp [ByteArray.push]
      · simp at h
    · simp at h

theorem run_bytesToString (P : Program) (w : World) {ad : Addr} {len cap : Nat} {cs : List Value} {bs : List UInt8} (h1 : (loadCells ad len).run P w = .ok ⟨cs⟩ w) (h2 : bytesOf cs = some bs) :
    (Conv.bytesToString (.slice (some ad) len cap)).run P w = .ok (.string ⟨bs.toArray⟩) w := by
  simp only [Conv.bytesToString, Sem.run_bind, h1, Result.andThen_ok]
  have := run_bytesLoop P w cs bs .empty h2
  rw [← Array.forIn_toList]
  refine Eq.trans (congrArg (fun r => Result.andThen r _) this) ?_
  simp

theorem freeze_new (w : World) (c : Array Value) (t : TypeId) (off : Nat) :
    (w.alloc (.cells c t)).freeze ⟨w.heap.size, off, none⟩ 1 = w.alloc (.cells c t (off, off + 1)) := by
  unfold World.freeze
  rw [if_neg (by decide)]
  show ({ w with heap := (w.heap.push (.cells c t)).modify w.heap.size _ } : World) = { w with heap := w.heap.push (.cells c t (off, off + 1)) }
  congr 1
  apply Array.ext_getElem?
  intro i
  simp only [Array.getElem?_modify, Array.getElem?_push]
  by_cases e : i = w.heap.size
  · subst e; simp
  · simp [e, Ne.symm e]

theorem choose_cap (P : Program) (w : World) (need old : Nat) (e : TypeId) : ∃ k, (choose (.appendCap need old e)).run P w = .ok (need + k) w.drew := by
  refine ⟨w.tape w.drawn (.appendCap need old e) % (2 ^ 63 - need), ?_⟩
  simp [run_choose, Question.forced, Question.cut]

/-- A row that comes to be with room behind it. -/
theorem alloc_grow (hW : WRel μ B H w) {e : TypeId} {c c' : List Value} {c1 : Array Value} {fz : Nat × Nat} (hc : VRelL μ c c') (h1 : c1.toList.take c'.length = c') (hle : c'.length ≤ c1.size)
    (hfz : ∀ i, i < c1.size → ¬ (fz.1 ≤ i ∧ i < fz.2)) :
    Went B μ H w (μ.put H.next (w.heap.size, c1.size)) (H.alloc (.cells c e false)) (w.alloc (.cells c1 e fz)) := by
  refine hW.alloc ⟨c1, e, fz, heap_new _ _, rfl, by rw [hc.length]; exact hle, ?_, fun _ => ⟨hW.base, rfl, hfz⟩⟩
  rw [hc.length, h1]
  exact VRelL.mono (Mu.put_le (hW.dom _ (Nat.le_refl _))) hc

include hC in
theorem op_convert (hW : WRel μ B H w) (hE : EnvRel μ ρ a.tmps) {s d : TypeId} {x : Operand} (ho : o.op = .convert s d x) {r : OpRes}
    (h : ((look ρ x).bind fun v => retVH (convA C H s d v)) = some r) : OpOk P C B μ H w o a r := by
  simp only [Option.bind_eq_some_iff, retVH, Option.map_eq_some_iff] at h
  obtain ⟨v, hv, ⟨u, H1⟩, hc, rfl⟩ := h
  have hr := look_sound hE hv
  suffices hs : ∃ μ' w' u', (convert s d (a.eval x)).run P w = .ok u' w' ∧ VRel μ' u u' ∧ Went B μ H w μ' H1 w' by
    obtain ⟨μ', w', u', e1, e2, e3⟩ := hs
    exact ⟨μ', w', u', .inl (by simp [execOp, ho, e1]), e2, e3⟩
  generalize a.eval x = z at hr
  unfold convA at hc
  split at hc
  · rename_i k0 k kn n h1 h2
    simp only [Option.some.injEq, Prod.mk.injEq] at hc
    obtain ⟨rfl, rfl⟩ := hc
    cases hr
    exact ⟨μ, w, _, by simp [convert, run_und (under_int hC h1), run_und (under_int hC h2), Conv.intToInt], .int _ _, .refl hW⟩
  · rename_i s h1 h2
    simp only [Option.some.injEq, Prod.mk.injEq] at hc
    obtain ⟨rfl, rfl⟩ := hc
    cases hr
    exact ⟨μ, w, _, by simp [convert, run_und (under_string hC h1), run_und (under_string hC h2)], .string _, .refl hW⟩
  · rename_i e s h1 h2
    split at hc
    · rename_i h3
      simp only [Option.some.injEq, Prod.mk.injEq] at hc
      obtain ⟨rfl, rfl⟩ := hc
      cases hr
      obtain ⟨k, hk⟩ := choose_cap P w s.size 0 e
      have g := alloc_grow (w := w.drew) hW.drew (e := e) (c := s.data.toList.map fun b : UInt8 => Value.int .u8 b.toNat) (c' := s.data.toList.map fun b : UInt8 => Value.int .u8 b.toNat)
        (c1 := (s.data.map fun b => Value.int .u8 b.toNat) ++ Array.replicate (s.size + k - s.size) (.int .u8 0)) (fz := (s.size + k, s.size + k + 1)) (VRelL.bytes _)
        (by simp)
        (by simp)
        (fun i hi => by
          have : s.data.size = s.size := rfl
          simp at hi
          simp; omega)
      have hsz : ((s.data.map fun b : UInt8 => Value.int .u8 b.toNat) ++ Array.replicate (s.size + k - s.size) (Value.int .u8 0)).size = s.size + k := by
        simp
      refine ⟨_, _, .slice (some ⟨w.heap.size, 0, none⟩) s.size (s.size + k), ?_, ?_, g.drew_first⟩
      · simp only [convert, Sem.run_bind, run_und (under_string hC h1), run_und (under_slice hC h2), Result.andThen_ok, run_und (under_int hC h3), Conv.stringToBytes, hk]
        simp only [Go.newRow, Sem.run_bind, run_newObj, World.alloc_eq, Result.andThen_ok, Sem.run_pure, markStringish, run_shape, World.size_drew]
        have hsh : (w.drew.alloc (.cells ((s.data.map fun b => Value.int .u8 b.toNat) ++ Array.replicate (s.size + k - s.size) (.int .u8 0)) e)).shape? w.heap.size = some (e, s.size + k) := by
          unfold World.shape?
          have := heap_new w.drew (.cells ((s.data.map fun b => Value.int .u8 b.toNat) ++ Array.replicate (s.size + k - s.size) (.int .u8 0)) e)
          rw [World.size_drew] at this
          rw [this]
          simp only [hsz]
        simp only [hsh, Result.andThen_ok, run_freeze]
        have := freeze_new w.drew ((s.data.map fun b => Value.int .u8 b.toNat) ++ Array.replicate (s.size + k - s.size) (.int .u8 0)) e (s.size + k)
        rw [World.size_drew] at this
        rw [this]
      · refine .grow _ _ (s.size + k) 0 1 _ _ ?_ (by omega) (by omega)
        exact (Mu.put_same _ _ _).trans (by rw [hsz]; rfl)
    · simp at hc
  · rename_i e b off h1 h2
    split at hc
    · rename_i ti c e' ro hte hb
      cases hcond : (!(ti.size.beq 0) && off.blt c.length) with
      | false => simp [hcond] at hc
      | true =>
        simp only [hcond, cond_true, Option.some.injEq, Prod.mk.injEq] at hc
        obtain ⟨rfl, rfl⟩ := hc
        simp only [Bool.and_eq_true] at hcond
        have c1 : ti.size ≠ 0 := by rintro e; have := hcond.1; rw [e] at this; simp at this
        have c2 := blt_true hcond.2
        cases hr with
        | ptr _ r n _ hm =>
          obtain ⟨c', t', fz, g1, g2, g3, _⟩ := hW.obj b _ r n hb hm
          refine ⟨μ, w, _, ?_, .ptr _ _ _ _ hm, .refl hW⟩
          have hsh : w.shape? r = some (t', c'.size) := by simp [World.shape?, g1]
          simp only [convert, Sem.run_bind, run_und (under_ptr hC h1), run_und (under_raw hC h2), Result.andThen_ok, Conv.unsafePointer, Conv.seenAt, viewAt, run_shape, hsh, cellsIn]
          have hno : ¬ (c'.size ≤ off) := by omega
          simp [hsh, run_sizeOf hC hte, c1, hno]
    · simp at hc
  · rename_i e b off h1 h2
    split at hc
    · rename_i ti c e' hte hb
      cases hcond : (!(ti.size.beq 0) && off.beq 0 && e'.beq e && ti.size.ble c.length) with
      | false => simp [hcond] at hc
      | true =>
        simp only [hcond, cond_true, Option.some.injEq, Prod.mk.injEq] at hc
        obtain ⟨rfl, rfl⟩ := hc
        simp only [Bool.and_eq_true] at hcond
        obtain ⟨⟨⟨c1, c2⟩, c3⟩, c4⟩ := hcond
        have c1 : ti.size ≠ 0 := by rintro e; rw [e] at c1; simp at c1
        have c2 := beq_true c2
        have c3 := beq_true c3
        have c4 := ble_true c4
        subst c2; subst c3
        cases hr with
        | ptr _ r n _ hm =>
          obtain ⟨c', t', fz, g1, g2, g3, _, g5⟩ := hW.obj b _ r n hb hm
          obtain ⟨_, rfl, _⟩ := g5 rfl
          refine ⟨μ, w, _, ?_, .ptr _ _ _ _ hm, .refl hW⟩
          have hsh : w.shape? r = some (t', c'.size) := by simp [World.shape?, g1]
          have hcs : P.cellsOf t' = ti.size := by
            obtain ⟨i, i1, i2, _⟩ := (hC.ty _ _ hte).info
            simp [Program.cellsOf, i1, i2]
          have hv : liesAt P P.depth t' (c'.size / P.cellsOf t') 0 t' 1 = true := by
            have hd : ∃ d, P.depth = d + 1 := ⟨_, rfl⟩
            obtain ⟨d, hd⟩ := hd
            rw [hd]
            simp only [liesAt]
            have : rowAt P (fun x => sameLayout P P.depth x t') P.depth t' (c'.size / P.cellsOf t') 0 1 = true := by
              rw [hd]
              simp only [rowAt, hcs, sameLayout]
              have : 1 ≤ c'.size / ti.size := by
                rw [Nat.le_div_iff_mul_le (by omega)]; omega
              simp [c1, this]
            rw [this]
            rfl
          simp only [convert, Sem.run_bind, run_und (under_raw hC h1), run_und (under_ptr hC h2), Result.andThen_ok, Conv.unsafePointer, Conv.seenAt, viewAt, run_shape, hsh, variablesAt, run_program]
          simp [hsh, run_sizeOf hC hte, c1, hv]
    · simp at hc
  · rename_i e l c h1 h2
    split at hc
    · rename_i h3
      simp only [Option.some.injEq, Prod.mk.injEq] at hc
      obtain ⟨rfl, rfl⟩ := hc
      cases hr
      exact ⟨μ, w, _, by simp [convert, run_und (under_slice hC h1), run_und (under_string hC h2), run_und (under_int hC h3), Conv.bytesToString], .string _, .refl hW⟩
    · simp at hc
  · rename_i e ad l c h1 h2
    split at hc
    · rename_i h3
      simp only [Option.map_eq_some_iff, Option.bind_eq_some_iff, Prod.mk.injEq] at hc
      obtain ⟨bs, ⟨cs, g1, g2⟩, rfl, rfl⟩ := hc
      have key : ∀ b r n off c', μ b = some (r, n) → ldCells H b off l = some cs → ∃ u', (convert s d (.slice (some ⟨r, off, none⟩) l c')).run P w = .ok u' w ∧ VRel μ (.string ⟨bs.toArray⟩) u' := by
        intro b r n off c' hm hl
        obtain ⟨c0, ty, fz, cs', f1, f2, f3, f4, _⟩ := ldCells_sound hW hm hl
        have := bytesOf_rel f4 g2
        subst this
        have hload := run_loadCells P f1 off l f2
        rw [← f3] at hload
        refine ⟨_, ?_, .string _⟩
        simp only [convert, Sem.run_bind, run_und (under_slice hC h1), run_und (under_string hC h2), Result.andThen_ok, run_und (under_int hC h3)]
        rw [run_bytesToString P w hload g2]
      cases hr with
      | slice b r n off _ _ hm =>
        obtain ⟨u', e1, e2⟩ := key b r n off c hm g1
        exact ⟨μ, w, u', e1, e2, .refl hW⟩
      | grow b r n off e0 _ c' hm _ _ =>
        obtain ⟨u', e1, e2⟩ := key b r n off c' hm g1
        exact ⟨μ, w, u', e1, e2, .refl hW⟩
      | loose b off e0 c' ad' =>
        have h0 : bs = [] := by
          unfold ldCells at g1
          split at g1
          · cases hle : (off + 0).ble (_ : List Value).length with
            | false => rw [hle] at g1; simp at g1
            | true => rw [hle] at g1; simp at g1; subst g1; simpa [bytesOf] using g2.symm
          · simp at g1
        subst h0
        refine ⟨μ, w, _, ?_, .string _, .refl hW⟩
        simp only [convert, Sem.run_bind, run_und (under_slice hC h1), run_und (under_string hC h2), Result.andThen_ok, run_und (under_int hC h3)]
        exact run_bytesToString P w (cs := []) (by simp [loadCells, loadCellsFrom]) rfl
    · simp at hc
  · simp at hc

end
end Go.Ev

namespace Go.Ev
open Go Go.RowKit

section
variable {P : Program} {C : Ctx} (hC : CtxOk P C) {μ : Mu} {B : Nat} {H H' : AHeap} {w : World} {o : Oper} {a : Act} {ρ : Env}

theorem lenOf_sound {x x' : Value} {n : Nat} (hr : VRel μ x x') (h : lenA x = some n) : (Builtin.lenOf x').run P w = .ok n w := by
  unfold lenA at h
  split at h
  · simp only [Option.some.injEq] at h; subst h; cases hr <;> rfl
  · simp only [Option.some.injEq] at h; subst h; cases hr; rfl
  · simp at h

/-- The cells that are appended or copied. -/
theorem rowOf_sound (hW : WRel μ B H w) {e n : Nat} {x x' : Value} {cs : List Value} (hr : VRel μ x x') (hlen : ∃ m, lenA x = some m ∧ n ≤ m) (h : rowOf C H e n x = some cs) :
    ∃ cs' : List Value, (Builtin.firstCells e n x').run P w = .ok ⟨cs'⟩ w ∧ VRelL μ cs cs' := by
  unfold rowOf at h
  split at h
  · simp only [Option.some.injEq] at h; subst h
    cases hr
    exact ⟨[], rfl, .nil⟩
  · rename_i ad l c
    cases hn : n.beq 0 with
    | true =>
      have hn := beq_true hn
      subst hn
      simp only [Nat.beq_refl, cond_true, Option.some.injEq] at h
      subst h
      refine ⟨[], ?_, .nil⟩
      cases hr <;> simp [Builtin.firstCells, loadCells, loadCellsFrom]
    | false =>
      rw [hn] at h
      simp only [cond_false] at h
      have go : ∀ b r k off, μ b = some (r, k) → ldCells H b off (n * e) = some cs → ∃ cs' : List Value, (loadCells ⟨r, off, none⟩ (n * e)).run P w = .ok ⟨cs'⟩ w ∧ VRelL μ cs cs' := by
        intro b r k off hm hl
        obtain ⟨c0, ty, fz, cs', f1, f2, f3, f4, _⟩ := ldCells_sound hW hm hl
        exact ⟨cs', by rw [f3]; exact run_loadCells P f1 off _ f2, f4⟩
      cases hr with
      | slice b r k off _ _ hm => exact go b r k off hm h
      | grow b r k off _ _ _ hm _ _ => exact go b r k off hm h
      | loose b off e0 c' ad' =>
        obtain ⟨m, h1, h2⟩ := hlen
        simp [lenA] at h1
        subst h1
        have : n = 0 := by omega
        rw [this] at hn; simp at hn
  · rename_i s
    simp only [Option.some.injEq] at h; subst h
    cases hr
    refine ⟨_, ?_, VRelL.bytes _⟩
    simp only [Builtin.firstCells, Sem.run_pure]
    congr 2
    apply Array.ext'
    rw [Array.toList_map, ByteArray.data_extract, Array.toList_extract]
    simp [List.map_take]
  · simp at h

theorem nextslicecap_le (need old : Nat) : Builtin.nextslicecap need old ≤ 2 * need + 1024 ∨ need ≤ old := by
  by_cases h : need ≤ old
  · exact .inr h
  · left
    unfold Builtin.nextslicecap
    split
    · omega
    · split
      · omega
      · have : ∀ (k c : Nat), c < need ∨ c ≤ need + (need + 768) / 4 → Builtin.growBy need k c ≤ need + (need + 768) / 4 ∨ Builtin.growBy need k c ≤ c + 0 := by
          intro k
          induction k with
          | zero => intro c _; exact .inr (by simp [Builtin.growBy])
          | succ k ih =>
            intro c hc
            unfold Builtin.growBy
            split
            · right; omega
            · rename_i hlt
              have hb : c + (c + 768) / 4 ≤ need + (need + 768) / 4 := by omega
              rcases ih (c + (c + 768) / 4) (.inr hb) with g | g
              · left; exact g
              · left; omega
        rcases this 4 old (.inl (by omega)) with g | g <;> omega


theorem cell_all {vs us : List Value} (h : VRelL μ vs us) (k : vs.all Value.oneCell' = true) : us.all Value.oneCell' = true := by
  induction h with
  | nil => rfl
  | cons hr _ ih => simp only [List.all_cons, Bool.and_eq_true] at k ⊢; exact ⟨by rw [hr.oneCell]; exact k.1, ih k.2⟩

theorem zeroCells_len (z : Array Value) (n : Nat) : (Builtin.zeroCells z n).size = n * z.size := by simp [Builtin.zeroCells]

/-- An append that makes a new row. -/
theorem append_new (hW : WRel μ B H w) {et : TypeId} {ti : TI} {zv : Value} (hzs : zv.cells.size = ti.size)
    {old old' new new' : List Value} (ho : VRelL μ old old') (hn : VRelL μ new new') {len n k : Nat} (l1 : old.length = len * ti.size) (l2 : new.length = n * ti.size) :
    Went B μ H w (μ.put H.next (w.heap.size, (len + n + k) * ti.size)) (H.alloc (.cells (old ++ new) et false))
      (w.drew.alloc (.cells ((⟨old'⟩ : Array Value) ++ ⟨new'⟩ ++ Builtin.zeroCells zv.cells (len + n + k - (len + n))) et)) := by
  have hl := ho.length
  have hl2 := hn.length
  have hsz : ((⟨old'⟩ : Array Value) ++ ⟨new'⟩ ++ Builtin.zeroCells zv.cells (len + n + k - (len + n))).size = (len + n + k) * ti.size := by
    have e1 : (⟨old'⟩ : Array Value).size = len * ti.size := by simp; omega
    have e2 : (⟨new'⟩ : Array Value).size = n * ti.size := by simp; omega
    rw [Array.size_append, Array.size_append, e1, e2, zeroCells_len, hzs, ← Nat.add_mul, ← Nat.add_mul]
    congr 1; omega
  have := alloc_grow (w := w.drew) hW.drew (e := et) (c := old ++ new) (c' := old' ++ new')
    (c1 := (⟨old'⟩ : Array Value) ++ ⟨new'⟩ ++ Builtin.zeroCells zv.cells (len + n + k - (len + n))) (fz := (0, 0)) (ho.append hn) (by simp [List.take_append, List.take_of_length_le]) (by simp) (fun i _ => by simp)
  rw [hsz] at this
  exact this.drew_first

include hC in
theorem appendA_sound (hW : WRel μ B H w) {t t1 ty : TypeId} {s s' x x' v : Value} (hs : VRel μ s s') (hx : VRel μ x x')
    (ht1 : ∀ k, P.underlying t1 ≠ some (.int k)) (hu1 : (P.underlying t1).isSome) (h : appendA C H t s x = some (v, H')) :
    ∃ μ' w' v', (Builtin.append_ #[t, t1] ty #[s', x']).run P w = .ok v' w' ∧ VRel μ' v v' ∧ Went B μ H w μ' H' w' := by
  unfold appendA at h
  split at h
  case h_2 => simp at h
  rename_i et base len cap hd
  have hu := under_slice hC hd
  simp only [Option.bind_eq_some_iff] at h
  obtain ⟨ti, hte, h⟩ := h
  cases c0 : (ti.size.beq 0 || ti.bytes.beq 0) with
  | true => simp [c0] at h
  | false =>
  simp only [c0, cond_false, Option.bind_eq_some_iff] at h
  obtain ⟨n, hn, z, hz, h⟩ := h
  simp only [Bool.or_eq_false_iff] at c0
  have hs0 : ti.size ≠ 0 := by intro e; rw [e] at c0; simp at c0
  have hb0 : ti.bytes ≠ 0 := by intro e; rw [e] at c0; simp at c0
  cases c1 : (!(z.length.beq ti.size)) with
  | true => simp [c1] at h
  | false =>
  simp only [c1, cond_false] at h
  have c1 : z.length = ti.size := beq_true (by simpa using c1)
  cases c2 : (2 ^ 47 : Nat).ble ((2 * (len + n) + 1024) * ti.bytes) with
  | true => simp [c2] at h
  | false =>
  simp only [c2, cond_false] at h
  have c2 : (2 * (len + n) + 1024) * ti.bytes < 2 ^ 47 := by
    rcases Nat.lt_or_ge ((2 * (len + n) + 1024) * ti.bytes) (2 ^ 47) with g | g
    · exact g
    · rw [Nat.ble_eq_true_of_le g] at c2; cases c2
  obtain ⟨d1, hd1⟩ := Option.isSome_iff_exists.1 hu1
  obtain ⟨i, hi1, hi2, hi3, hi4⟩ := run_typeInfo hC hte w
  have hlen := lenOf_sound (P := P) (w := w) hx hn
  have hd1' : ∀ k, d1 ≠ .int k := fun k e => ht1 k (by rw [hd1, e])
  have hrun : ∀ (base' : Option Addr) (cap' : Nat), (Builtin.append_ #[t, t1] ty #[.slice base' len cap', x']).run P w =
      if len + n ≤ cap' then
        ((Builtin.firstCells ti.size n x').run P w).andThen fun new w1 =>
          ((match base' with | some a => storeCells (a.add (len * ti.size)) new.toList | none => pure () : Sem Unit).run P w1).andThen fun _ w2 => .ok (.slice base' (len + n) cap') w2
      else ((choose (.appendCap (len + n) cap' et)).run P w).andThen fun newCap w1 =>
        ((Builtin.firstCells ti.size len (.slice base' len cap')).run P w1).andThen fun old w2 =>
        ((Builtin.firstCells ti.size n x').run P w2).andThen fun new w3 =>
        ((zeroValue et).run P w3).andThen fun z w4 =>
        .ok (.slice (some ⟨w4.heap.size, 0, none⟩) (len + n) newCap) (w4.alloc (.cells (old ++ new ++ Builtin.zeroCells z.cells (newCap - (len + n))) et)) := by
    intro base' cap'
    by_cases hle : len + n ≤ cap'
    · rw [if_pos hle]
      simp only [Builtin.append_, Sem.run_bind, run_und hu, run_und hd1, Result.andThen_ok, run_sizeOf hC hte, Sem.run_pure, List.getElem?_toArray, List.getElem?_cons_zero, List.getElem?_cons_succ]
      simp only [Bool.false_eq_true, if_false, Sem.run_bind, hlen, Result.andThen_ok, if_pos hle, Bool.not_false, if_true]
      cases base' <;> simp
    · rw [if_neg hle]
      have hno1 : ¬ (((len + n : Nat) : Int) > IntKind.i64.max ∧ (False ∨ i.bytes = 0)) := by
        rintro ⟨_, h | h⟩
        · exact h
        · exact hb0 (by rw [← hi3]; exact h)
      have hno2 : ¬ (Builtin.nextslicecap (len + n) cap' * i.bytes > 2 ^ 48) := by
        rcases nextslicecap_le (len + n) cap' with g | g
        · have : Builtin.nextslicecap (len + n) cap' * i.bytes ≤ (2 * (len + n) + 1024) * ti.bytes := by rw [hi3]; exact Nat.mul_le_mul_right _ g
          have : (2 : Nat) ^ 47 ≤ 2 ^ 48 := by decide
          omega
        · exact absurd g hle
      have hit : ∀ w, (typeInfo et).run P w = .ok i w := by
        intro w1
        obtain ⟨i', e1, _⟩ := hC.ty _ _ hte |>.info
        have g1 : (typeInfo et).run P w = .ok i' w := by simp [typeInfo, e1]
        rw [hi1] at g1
        simp only [Result.ok.injEq] at g1
        rw [g1.1]
        simp [typeInfo, e1]
      simp only [Builtin.append_, Sem.run_bind, run_und hu, run_und hd1, Result.andThen_ok, run_sizeOf hC hte, Sem.run_pure, List.getElem?_toArray, List.getElem?_cons_zero, List.getElem?_cons_succ]
      simp only [Bool.false_eq_true, if_false, Sem.run_bind, hlen, Result.andThen_ok, if_neg hle, hit, if_neg hno1, if_neg hno2, Bool.not_false, if_true, run_askRoom]
      obtain ⟨k, hk⟩ := choose_cap P w (len + n) cap' et
      simp only [hk, Result.andThen_ok, Sem.run_bind, Go.newRow, run_newObj, World.alloc_eq, Sem.run_pure]
  -- nothing is appended
  cases cn : n.beq 0 with
  | true =>
    simp only [cn, cond_true] at h
    cases cl : len.ble cap with
    | false => simp [cl] at h
    | true =>
      simp only [cl, cond_true, Option.some.injEq, Prod.mk.injEq] at h
      obtain ⟨rfl, rfl⟩ := h
      have hn0 := beq_true cn
      have hl0 := ble_true cl
      subst hn0
      have hfirst : (Builtin.firstCells ti.size 0 x').run P w = .ok #[] w := by
        cases hx <;> simp only [lenA] at hn <;> (try (simp at hn; done)) <;> simp [Builtin.firstCells, loadCells, loadCellsFrom]
      have fin : ∀ base' cap', s' = .slice base' len cap' → len ≤ cap' → ∃ μ' w' v', (Builtin.append_ #[t, t1] ty #[s', x']).run P w = .ok v' w' ∧ VRel μ' (.slice base len cap) v' ∧ Went B μ H w μ' H w' := by
        rintro base' cap' rfl hle
        refine ⟨μ, w, _, ?_, hs, .refl hW⟩
        rw [hrun, if_pos (by omega), hfirst]
        cases base' <;> simp [storeCells]
      cases hs with
      | slice0 => exact fin _ _ rfl hl0
      | slice => exact fin _ _ rfl hl0
      | grow _ _ _ _ _ _ _ _ h1 _ => exact fin _ _ rfl h1
      | loose => exact fin _ _ rfl (by omega)
  | false =>
  simp only [cn, cond_false, Option.bind_eq_some_iff] at h
  have hn0 : n ≠ 0 := by intro e; rw [e] at cn; simp at cn
  obtain ⟨new, hnew, h⟩ := h
  cases c3 : (!(new.all Value.oneCell' && new.length.beq (n * ti.size))) with
  | true => simp [c3] at h
  | false =>
  simp only [c3, cond_false] at h
  have c3 : (new.all Value.oneCell' && new.length.beq (n * ti.size)) = true := by simpa using c3
  simp only [Bool.and_eq_true] at c3
  have hnl := beq_true c3.2
  have c3 := c3.1
  have hrow : ∀ w1, WRel μ B H w1 → ∃ cs' : List Value, (Builtin.firstCells ti.size n x').run P w1 = .ok ⟨cs'⟩ w1 ∧ VRelL μ new cs' :=
    fun w1 hW1 => rowOf_sound hW1 hx ⟨n, hn, Nat.le_refl _⟩ hnew
  have hzero : ∀ w1, ∃ zv, (zeroValue et).run P w1 = .ok zv w1 ∧ zv.cells.size = ti.size := by
    intro w1
    obtain ⟨zv, g1, g2, _⟩ := zeroOf_sound hC hz w1
    exact ⟨zv, g1, by rw [← c1, ← g2]; simp⟩
  -- a new row is made
  have mk : ∀ (base' : Option Addr) (cap' : Nat) (old old' : List Value), s' = .slice base' len cap' → ¬ len + n ≤ cap' → VRelL μ old old' → old.length = len * ti.size →
      (Builtin.firstCells ti.size len (.slice base' len cap')).run P w.drew = .ok ⟨old'⟩ w.drew → ∀ H0, Keep μ μ H H0 → H0.next = H.next → WRel μ B H0 w →
      ∃ μ' w' v', (Builtin.append_ #[t, t1] ty #[s', x']).run P w = .ok v' w' ∧ VRel μ' (.slice (some ⟨H.next, 0, some (2 * ti.size)⟩) (len + n) (len + n)) v' ∧ Went B μ H w μ' (H0.alloc (.cells (old ++ new) et false)) w' := by
    rintro base' cap' old old' rfl hle ho hol hfc H0 hK hnx hW0
    obtain ⟨k, hk⟩ := choose_cap P w (len + n) cap' et
    obtain ⟨new', g1, g2⟩ := hrow w.drew hW.drew
    obtain ⟨zv, z1, z2⟩ := hzero w.drew
    have g := append_new hW0 z2 ho g2 (len := len) (n := n) (k := k) hol hnl (et := et)
    refine ⟨_, _, .slice (some ⟨w.heap.size, 0, none⟩) (len + n) (len + n + k), ?_, ?_, ⟨g.rel, hK.trans g.keep, g.below⟩⟩
    · rw [hrun, if_neg hle, hk]
      simp only [Result.andThen_ok, hfc, g1, z1]
      rfl
    · have hm := Mu.put_same μ H0.next (w.heap.size, (len + n + k) * ti.size)
      rw [hnx] at hm
      rw [hnx]
      exact .grow _ _ _ _ _ _ _ hm (by omega) (by simp)
  cases base with
  | none =>
    cases c4 : (len.beq 0 && cap.beq 0) with
    | false => simp [c4] at h
    | true =>
      simp only [c4, cond_true, Option.some.injEq, Prod.mk.injEq] at h
      obtain ⟨rfl, rfl⟩ := h
      simp only [Bool.and_eq_true] at c4
      have e1 := beq_true c4.1
      have e2 := beq_true c4.2
      subst e1; subst e2
      cases hs
      have := mk none 0 [] [] rfl (by omega) .nil (by simp) rfl H (.refl _ _) rfl hW
      simpa using this
  | some ad =>
    simp only at h
    cases hs with
    | slice b r m off _ _ hm =>
      simp only at h
      cases c4 : (len + n).ble cap with
      | true =>
        simp only [c4, cond_true, Option.map_eq_some_iff, Prod.mk.injEq] at h
        obtain ⟨H1, hst, rfl, rfl⟩ := h
        have hle := ble_true c4
        obtain ⟨new', g1, g2⟩ := hrow w hW
        obtain ⟨w', e1, e2⟩ := stCells_sound P hW hm g2 hst
        refine ⟨μ, w', _, ?_, .slice _ _ _ _ _ _ hm, e2⟩
        rw [hrun, if_pos hle, g1]
        simp only [Result.andThen_ok, add_none, e1]
      | false =>
        have hle : ¬ len + n ≤ cap := by
          intro g; rw [Nat.ble_eq_true_of_le g] at c4; cases c4
        simp only [c4, cond_false, Option.bind_eq_some_iff, Option.some.injEq, Prod.mk.injEq] at h
        obtain ⟨old, hold, rfl, rfl⟩ := h
        cases cl : len.beq 0 with
        | true =>
          have := beq_true cl
          subst this
          simp only [cl, cond_true, Option.some.injEq] at hold
          subst hold
          exact mk (some ⟨r, off, none⟩) cap [] [] rfl hle .nil (by simp) (by simp [Builtin.firstCells, loadCells, loadCellsFrom]) H (.refl _ _) rfl hW
        | false =>
          simp only [cl, cond_false] at hold
          obtain ⟨c0', ty', fz, cs', f1, f2, f3, f4, f5, _⟩ := ldCells_sound hW.drew hm hold
          refine mk (some ⟨r, off, none⟩) cap old cs' rfl hle f4 f5 ?_ H (.refl _ _) rfl hW
          simp only [Builtin.firstCells]
          rw [f3]; exact run_loadCells P f1 off _ f2
    | grow b r m off e0 _ cap' hm hl hnn =>
      simp only at h
      cases c4 : ((2 * e0).beq (2 * ti.size) && off.beq 0) with
      | false => simp [c4] at h
      | true =>
        simp only [c4, cond_true] at h
        simp only [Bool.and_eq_true] at c4
        have e1 := beq_true c4.1
        have e2 := beq_true c4.2
        have e1 : e0 = ti.size := by omega
        subst e1; subst e2
        split at h
        · rename_i c e' hb
          cases c5 : ((len * ti.size).ble c.length && e'.beq et) with
          | false => simp [c5] at h
          | true =>
            simp only [c5, cond_true, Option.some.injEq, Prod.mk.injEq] at h
            obtain ⟨rfl, rfl⟩ := h
            simp only [Bool.and_eq_true] at c5
            have e3 := ble_true c5.1
            have e4 := beq_true c5.2
            subst e4
            obtain ⟨c', t', fz, g1, g2, g3, g4, g5⟩ := hW.obj b _ r m hb hm
            obtain ⟨hBr, rfl, hfz⟩ := g5 rfl
            have hkill := hW.kill b
            have hkeep := keep_kill (H := H) hm
            have hold : VRelL μ (c.take (len * ti.size)) (c'.toList.take (len * ti.size)) := by
              have := g4.take (len * ti.size)
              rwa [List.take_take, Nat.min_eq_left e3] at this
            have hol : (c.take (len * ti.size)).length = len * ti.size := by simp; omega
            by_cases hle : len + n ≤ cap'
            · -- there is room
              obtain ⟨new', f1, f2⟩ := hrow w hW
              have hnl' : new'.length = n * ti.size := by rw [← f2.length]; exact hnl
              have hroom : len * ti.size + new'.length ≤ c'.size := by
                have : (len + n) * ti.size ≤ cap' * ti.size := Nat.mul_le_mul_right _ hle
                rw [Nat.add_mul] at this
                omega
              have hst := run_storeCells P r 0 new' (len * ti.size) w c' g1 (by omega) (cell_all f2 c3) (by rw [g2]; exact hfz)
              have hl2 := (Array.getElem?_eq_some_iff.1 g1).1
              have hspl : (splice c'.toList (len * ti.size) new').length = c'.size := by
                have := splice_length (c := c'.toList) (vs := new') (off := len * ti.size) (by simp; omega)
                simpa using this
              have W := hkill.reuse (r := r) (n := m) (o := .cells (c.take (len * ti.size) ++ new) t' false) (ob := .cells ⟨splice c'.toList (len * ti.size) new'⟩ t' fz)
                (fun x y k hx hk => by
                  rw [AHeap.get_kill] at hx
                  by_cases exb : x = b
                  · rw [if_pos exb] at hx; cases hx
                  · rw [if_neg exb] at hx; exact exb (hW.inj x b _ _ r k m hx hb hk hm)) hBr
                ⟨_, _, fz, setBlock_same hl2, by simpa using hspl.trans g2, by simp; omega, by
                  have e5 : (c.take (len * ti.size) ++ new).length = len * ti.size + new'.length := by simp; omega
                  rw [e5]
                  have e6 : (splice c'.toList (len * ti.size) new').take (len * ti.size + new'.length) = c'.toList.take (len * ti.size) ++ new' := by
                    unfold splice
                    rw [List.take_append_of_le_length (by simp; omega)]
                    rw [List.take_of_length_le (by simp; omega)]
                  simp only [e6]
                  exact VRelL.mono (Mu.put_le (hkill.dom _ (Nat.le_refl _))) (hold.append f2), fun _ => ⟨hBr, rfl, hfz⟩⟩
              refine ⟨_, _, .slice (some ⟨r, 0, none⟩) (len + n) cap', ?_, ?_, ⟨W.rel, hkeep.trans W.keep, W.below⟩⟩
              · rw [hrun, if_pos hle, f1]
                simp only [Result.andThen_ok]
                have e7 : (⟨r, 0, none⟩ : Addr).add (len * ti.size) = ⟨r, len * ti.size, none⟩ := by rw [add_none]; simp
                have hst' := run_storeCells P r (len * ti.size) new' 0 w c' g1 (by omega) (cell_all f2 c3) (by rw [g2]; exact hfz)
                simp only [e7, hst', Result.andThen_ok, Nat.add_zero]
              · exact .grow _ _ _ _ _ _ _ (Mu.put_same μ _ _) (by omega) (by simpa using hnn)
            · refine mk (some ⟨r, 0, none⟩) cap' _ _ rfl hle hold hol ?_ (H.kill b) hkeep rfl hkill
              simp only [Builtin.firstCells]
              have := run_loadCells P (w := w.drew) (r := r) (c := c') (fz := fz) g1 0 (len * ti.size) (by omega)
              simpa using this
        · simp at h
    | loose b off e0 c' ad' =>
      simp only at h
      cases c4 : ((2 * e0 + 1).beq (2 * ti.size) && off.beq 0) with
      | false => simp [c4] at h
      | true =>
        simp only [Bool.and_eq_true] at c4
        have := beq_true c4.1
        omega

end
end Go.Ev

namespace Go.Ev
open Go Go.RowKit

section
variable {P : Program} {C : Ctx} (hC : CtxOk P C) {μ : Mu} {B : Nat} {H H' : AHeap} {w : World} {o : Oper} {a : Act} {ρ : Env}

include hC in
theorem copyA_sound (hW : WRel μ B H w) {t ty t1 : TypeId} {d d' s s' v : Value} (hd : VRel μ d d') (hs : VRel μ s s') (h : copyA C H t d s = some (v, H')) :
    ∃ w', (Builtin.copy_ #[t, t1] ty #[d', s']).run P w = .ok v w' ∧ VRel μ v v ∧ Went B μ H w μ H' w' := by
  unfold copyA at h
  split at h
  case h_2 => simp at h
  rename_i et base len cap hdt
  have hu := under_slice hC hdt
  simp only [Option.bind_eq_some_iff] at h
  obtain ⟨ti, hte, h⟩ := h
  cases c0 : ti.size.beq 0 with
  | true => simp [c0] at h
  | false =>
  simp only [c0, cond_false, Option.bind_eq_some_iff] at h
  obtain ⟨n0, hn0, new, hnew, h⟩ := h
  have hlen := lenOf_sound (P := P) (w := w) hs hn0
  obtain ⟨new', g1, g2⟩ := rowOf_sound (P := P) hW hs ⟨n0, hn0, Nat.min_le_left n0 len⟩ hnew
  obtain ⟨base', cap', rfl, hb⟩ : ∃ base' cap', d' = .slice base' len cap' ∧ (base = none → base' = none) := by
    cases hd with
    | slice0 => exact ⟨_, _, rfl, fun _ => rfl⟩
    | slice => exact ⟨_, _, rfl, by simp⟩
    | grow => exact ⟨_, _, rfl, by simp⟩
    | loose => exact ⟨_, _, rfl, by simp⟩
  have hrun : (Builtin.copy_ #[t, t1] ty #[.slice base' len cap', s']).run P w =
      ((match base' with | some a => storeCells a new' | none => pure () : Sem Unit).run P w).andThen fun _ w2 => .ok (.int .i64 (Nat.min n0 len : Nat)) w2 := by
    simp only [Builtin.copy_, Sem.run_bind, run_und hu, Result.andThen_ok, run_sizeOf hC hte, List.getElem?_toArray, List.getElem?_cons_zero, List.getElem?_cons_succ, hlen, g1]
    cases base' <;> simp [goInt]
  have zero : (Nat.min n0 len).beq 0 = true → new' = [] := by
    intro hz
    have hz := beq_true hz
    have : (Builtin.firstCells ti.size 0 s').run P w = .ok #[] w := by
      cases hs <;> simp only [lenA] at hn0 <;> (try (simp at hn0; done)) <;> simp [Builtin.firstCells, loadCells, loadCellsFrom]
    rw [show min n0 len = 0 from hz, this] at g1
    simp only [Result.ok.injEq, Array.mk.injEq, and_true] at g1
    first | exact g1 | exact g1.symm
  cases base with
  | none =>
    cases hz : (Nat.min n0 len).beq 0 with
    | false => simp [hz] at h
    | true =>
      simp only [hz, cond_true, Option.some.injEq, Prod.mk.injEq] at h
      obtain ⟨rfl, rfl⟩ := h
      have := hb rfl
      subst this
      refine ⟨w, ?_, .int _ _, .refl hW⟩
      rw [hrun, beq_true hz]; simp
  | some ad =>
    cases hz : (Nat.min n0 len).beq 0 with
    | true =>
      simp only [hz, cond_true, Option.some.injEq, Prod.mk.injEq] at h
      obtain ⟨rfl, rfl⟩ := h
      refine ⟨w, ?_, .int _ _, .refl hW⟩
      rw [hrun, beq_true hz, zero hz]
      cases base' <;> simp [storeCells]
    | false =>
      simp only [hz, cond_false, Option.map_eq_some_iff, Prod.mk.injEq] at h
      obtain ⟨H1, hst, rfl, rfl⟩ := h
      have go : ∀ b r m off, μ b = some (r, m) → stCells H b off new = some H1 → base' = some ⟨r, off, none⟩ →
          ∃ w', (Builtin.copy_ #[t, t1] ty #[.slice base' len cap', s']).run P w = .ok (.int .i64 (Nat.min n0 len : Nat)) w' ∧ VRel μ (.int .i64 (Nat.min n0 len : Nat)) (.int .i64 (Nat.min n0 len : Nat)) ∧ Went B μ H w μ H1 w' := by
        rintro b r m off hm hst rfl
        obtain ⟨w', e1, e2⟩ := stCells_sound P hW hm g2 hst
        exact ⟨w', by rw [hrun]; simp only [e1, Result.andThen_ok], .int _ _, e2⟩
      cases hd with
      | slice b r m off _ _ hm => exact go b r m off hm hst rfl
      | grow b r m off _ _ _ hm _ _ => exact go b r m off hm hst rfl
      | loose b off e0 c' ad' => simp at hz

/-- Keys of a map: what the look for one comes to. -/
def KeyRun (P : Program) (kt : TypeId) (k : Value) (ls : List Leaf) : Prop :=
  (∀ (e : Bool) w, (Instr.checkKey e 10000 kt k).run P w = .ok () w) ∧
  (∀ (es : List MapEntry) w r, findA ls k es 0 = some r → (Instr.findKey kt k es).run P w = .ok r w) ∧ (∀ μ : Mu, VRel μ k k) ∧ cellsAre ls (cellsOf k) = true

theorem findNow_int (k0 : IntKind) (n : Int) : ∀ (es : List MapEntry) (i : Nat) r, findA [Leaf.int k0] (.int k0 n) es i = some r → Instr.findNow (.int k0) (.int k0 n) es i = some r := by
  intro es
  induction es with
  | nil => intro i r h; simpa [findA, Instr.findNow] using h
  | cons e es ih =>
    intro i r h
    simp only [findA, Option.bind_eq_some_iff] at h
    obtain ⟨b, h3, h4⟩ := h
    simp only [Instr.findNow]
    cases hk : e.key <;> simp [hk, isAggV, cellsOf, Value.cells, cellsEq, leafEq] at h3
    rename_i kk m
    obtain ⟨rfl, h3⟩ := h3
    rw [show Instr.sameNow (.int kk) (.int kk n) (.int kk m) = some (n == m) from by simp [Instr.sameNow], h3]
    cases b with
    | true => simpa using h4
    | false => exact ih _ _ h4

theorem findNow_str (s : ByteArray) : ∀ (es : List MapEntry) (i : Nat) r, findA [Leaf.str] (.string s) es i = some r → Instr.findNow .string (.string s) es i = some r := by
  intro es
  induction es with
  | nil => intro i r h; simpa [findA, Instr.findNow] using h
  | cons e es ih =>
    intro i r h
    simp only [findA, Option.bind_eq_some_iff] at h
    obtain ⟨b, h3, h4⟩ := h
    simp only [Instr.findNow]
    cases hk : e.key <;> simp [hk, isAggV, cellsOf, Value.cells, cellsEq, leafEq] at h3
    rename_i s'
    rw [show Instr.sameNow .string (.string s) (.string s') = some (s == s') from rfl, h3]
    cases b with
    | true => simpa using h4
    | false => exact ih _ _ h4

include hC in
theorem keyOk_sound {kt : TypeId} {k k' : Value} {ls : List Leaf} (hr : VRel μ k k') (h : keyOk C kt k = some ls) : k' = k ∧ KeyRun P kt k ls := by
  obtain ⟨dd, hdd⟩ : ∃ d, 10000 = d + 1 := ⟨9999, rfl⟩
  unfold keyOk at h
  simp only [Option.bind_eq_some_iff] at h
  obtain ⟨ls', h1, h2⟩ := h
  cases hca : cellsAre ls' (cellsOf k) with
  | false => simp [hca] at h2
  | true =>
  simp only [hca, cond_true, Option.some.injEq] at h2
  subst h2
  split at h1
  · rename_i kk k0 n hd
    have hu := under_int hC hd
    simp only [Option.some.injEq] at h1; subst h1
    cases hr
    simp [cellsOf, Value.cells, cellsAre, leafIs] at hca
    subst hca
    refine ⟨rfl, fun e w => ?_, fun es w r hf => ?_, fun _ => .int _ _, by simp [cellsOf, Value.cells, cellsAre, leafIs]⟩
    · rw [hdd]; simp [Instr.checkKey, run_und hu]
    · have := findNow_int _ _ es 0 r hf
      simp [Instr.findKey, run_und hu, this]
  · rename_i s hd
    have hu := under_string hC hd
    simp only [Option.some.injEq] at h1; subst h1
    cases hr
    refine ⟨rfl, fun e w => ?_, fun es w r hf => ?_, fun _ => .string _, hca⟩
    · rw [hdd]; simp [Instr.checkKey, run_und hu]
    · have := findNow_str _ es 0 r hf
      simp [Instr.findKey, run_und hu, this]
  · rename_i fs cs hd
    obtain ⟨fields, hu, _⟩ := under_struct hC hd
    obtain ⟨cs', rfl, hcs⟩ := hr.agg_inv
    have hcc := cellsAre_rel hcs hca
    have : cs' = cs := Array.ext' hcc
    subst this
    have hE := hC.eqs _ _ h1
    have hself : ∀ μ : Mu, VRel μ (.agg cs') (.agg cs') := by
      intro μ
      obtain ⟨cs'⟩ := cs'
      refine .agg' (All2.refl fun x hx => ?_)
      have : ∀ (ls : List Leaf) (xs : List Value), cellsAre ls xs = true → ∀ x ∈ xs, VRel μ x x := by
        intro ls
        induction ls with
        | nil => intro xs h x hx; cases xs <;> simp [cellsAre] at h; simp at hx
        | cons l ls ih =>
          intro xs h x hx
          cases xs with
          | nil => simp at hx
          | cons y ys =>
            simp only [cellsAre, Bool.and_eq_true] at h
            rcases List.mem_cons.1 hx with rfl | hx
            · cases l <;> cases x <;> simp [leafIs] at h <;> first | exact .bool _ | exact .int _ _ | exact .string _
            · exact ih ys h.2 x hx
      exact this _ _ hca x hx
    refine ⟨rfl, fun e w => hE.key e cs' w hca, fun es w r hf => ?_, hself, hca⟩
    have ask : ∀ (es : List MapEntry) (i : Nat) r w, findA ls' (.agg cs') es i = some r → (Instr.findAsking kt (.agg cs') es i).run P w = .ok r w := by
      intro es
      induction es with
      | nil => intro i r w h; simp [findA] at h; subst h; simp [Instr.findAsking]
      | cons e es ih =>
        intro i r w h
        simp only [findA, Option.bind_eq_some_iff] at h
        obtain ⟨b, h3, h4⟩ := h
        cases hk : e.key with
        | agg ds =>
          rw [hk] at h3
          simp only [isAggV, beq_self_eq_true, cond_true] at h3
          have := hE.eq cs' ds b w h3
          simp only [Instr.findAsking, hk, Sem.run_bind, this, Result.andThen_ok]
          cases b with
          | true => simp at h4; subst h4; simp
          | false => simpa using ih _ _ w h4
        | _ => rw [hk] at h3; simp [isAggV] at h3
    simp only [Instr.findKey, Sem.run_bind, run_und hu, Result.andThen_ok]
    cases es with
    | nil => simp [findA] at hf; subst hf; simp [Instr.findNow]
    | cons e es =>
      have : Instr.findNow (.struct fields) (.agg cs') (e :: es) 0 = none := by simp [Instr.findNow, Instr.sameNow]
      rw [this]
      exact ask _ _ _ _ hf
  · simp at h1

/-- A look into a map's entries, on both sides. -/
theorem findA_rel {ls : List Leaf} {k : Value} : ∀ {es es' : List MapEntry} {i : Nat} {r : Option (Nat × Value)}, All2 (ERel μ) es es' → (∀ μ : Mu, VRel μ k k) →
    findA ls k es i = some r → ∃ r', findA ls k es' i = some r' ∧ ((r = none ∧ r' = none) ∨ ∃ j v v', r = some (j, v) ∧ r' = some (j, v') ∧ VRel μ v v')
  | [], es', i, r, h, _, hf => by
    rw [h.nil_right]
    simp [findA] at hf; subst hf
    exact ⟨none, rfl, .inl ⟨rfl, rfl⟩⟩
  | e :: es, es', i, r, h, hk, hf => by
    obtain ⟨e', t, rfl, he, ht⟩ := h.cons_right
    simp only [findA, Option.bind_eq_some_iff] at hf ⊢
    obtain ⟨b, h3, h4⟩ := hf
    have hsh : isAggV e'.key = isAggV e.key := by
      have := he.key
      generalize e.key = x at this
      generalize e'.key = y at this
      cases this <;> rfl
    cases hc : (isAggV k == isAggV e.key) with
    | false => rw [hc] at h3; simp at h3
    | true =>
      rw [hc] at h3
      simp only [cond_true] at h3
      have g := cellsEq_rel (hk μ).cells he.key.cells h3
      rw [hsh, hc]
      simp only [cond_true, g]
      cases b with
      | true =>
        simp only [Option.some.injEq] at h4; subst h4
        exact ⟨_, ⟨true, rfl, rfl⟩, .inr ⟨i, e.val, e'.val, rfl, rfl, he.val⟩⟩
      | false =>
        obtain ⟨r', g1, g2⟩ := findA_rel ht hk h4
        exact ⟨r', ⟨false, rfl, g1⟩, g2⟩

theorem map_block (hW : WRel μ B H w) {b r n : Nat} {es : List MapEntry} {clock : Nat} (hb : H.get b = some (.map es clock)) (hm : μ b = some (r, n)) :
    ∃ es', w.heap[r]? = some (.map es' clock) ∧ B ≤ r ∧ All2 (ERel μ) es es'.toList := hW.obj b _ r n hb hm

theorem run_getObj {r : Nat} {x : Obj} (h : w.heap[r]? = some x) (hx : ∀ c t f, x ≠ .cells c t f) : (getObj r).run P w = .ok x w := by
  simp only [getObj, Sem.run, h]

theorem run_getMap {r : Nat} {es : Array MapEntry} {clock : Nat} (h : w.heap[r]? = some (.map es clock)) : (getObj r).run P w = .ok (.map es clock) w := by
  simp only [getObj, Sem.run, h]

theorem run_setMap {r : Nat} {es : Array MapEntry} {clock : Nat} (h : w.heap[r]? = some (.map es clock)) (x : Obj) : (setObj r x).run P w = .ok () (setBlock w r x) := by
  simp only [setObj, Sem.run, h]
  rfl

/-- A map holds something else. -/
theorem map_set (hW : WRel μ B H w) {b r n : Nat} {es es1 : List MapEntry} {es' es1' : Array MapEntry} {clock c1 : Nat} (hb : H.get b = some (.map es clock)) (hm : μ b = some (r, n))
    (hh : w.heap[r]? = some (.map es' clock)) (hB : B ≤ r) (h1 : All2 (ERel μ) es1 es1'.toList) : Went B μ H w μ (H.set b (.map es1 c1)) (setBlock w r (.map es1' c1)) :=
  hW.set hb hm hB ⟨es1', setBlock_same (Array.getElem?_eq_some_iff.1 hh).1, hB, h1⟩

end
end Go.Ev

namespace Go.Ev
open Go Go.RowKit

section
variable {P : Program} {C : Ctx} (hC : CtxOk P C) {μ : Mu} {B : Nat} {H H' : AHeap} {w : World} {o : Oper} {a : Act} {ρ : Env}

theorem run_getMap_bind {α : Type} {r : Nat} {es : Array MapEntry} {clock : Nat} (h : w.heap[r]? = some (.map es clock)) (f : Obj → Sem α) :
    (getObj r >>= f).run P w = (f (.map es clock)).run P w := by
  rw [Sem.run_bind, run_getMap h]; rfl

theorem ba_beq (s : ByteArray) : (s == s) = true := by
  cases s with | mk d =>
  show (d == d) = true
  simp
theorem ba_eq (s t : ByteArray) (h : (s == t) = true) : s = t := by
  cases s with | mk d => cases t with | mk e =>
  have : (d == e) = true := h
  simp at this
  rw [this]

theorem leafEq_true {l : Leaf} {x y : Value} (h : leafEq l x y = some true) : x = y := by
  unfold leafEq at h
  split at h
  · simp at h; rw [h]
  · split at h
    · rename_i hk; obtain ⟨rfl, rfl⟩ := hk; simp at h; rw [h]
    · simp at h
  · rename_i a b
    simp only [Option.some.injEq] at h
    rw [ba_eq _ _ h]
  · simp at h

theorem cellsEq_true : ∀ {ls : List Leaf} {xs ys : List Value}, cellsEq ls xs ys = some true → xs = ys
  | [], [], [], _ => rfl
  | l :: ls, x :: xs, y :: ys, h => by
    simp only [cellsEq, Option.bind_eq_some_iff, Option.map_eq_some_iff] at h
    obtain ⟨p, e1, q, e2, e3⟩ := h
    simp only [Bool.and_eq_true] at e3
    obtain ⟨rfl, rfl⟩ := e3
    rw [leafEq_true e1, cellsEq_true e2]
  | [], [], _ :: _, h => by simp [cellsEq] at h
  | [], _ :: _, _, h => by simp [cellsEq] at h
  | _ :: _, [], _, h => by simp [cellsEq] at h
  | _ :: _, _ :: _, [], h => by simp [cellsEq] at h

theorem cells_inj {x y : Value} (hs : isAggV x = isAggV y) (h : cellsOf x = cellsOf y) : x = y := by
  have na : ∀ {v : Value}, isAggV v = false → cellsOf v = [v] := by
    intro v hv
    cases v <;> first | rfl | simp [isAggV] at hv
  cases hx : isAggV x with
  | true =>
    rw [hx] at hs
    cases x <;> simp [isAggV] at hx
    cases y <;> simp [isAggV] at hs
    rename_i c d
    simp only [cellsOf, Value.cells] at h
    rw [Array.ext' h]
  | false =>
    rw [hx] at hs
    rw [na hx, na hs.symm] at h
    simpa using h

theorem findA_at {ls : List Leaf} {k v : Value} : ∀ {es : List MapEntry} {i j : Nat}, findA ls k es i = some (some (j, v)) → ∃ e, i ≤ j ∧ es[j - i]? = some e ∧ e.val = v ∧ e.key = k
  | [], i, j, h => by simp [findA] at h
  | e :: es, i, j, h => by
    simp only [findA, Option.bind_eq_some_iff] at h
    obtain ⟨b, h3, h4⟩ := h
    cases hc : (isAggV k == isAggV e.key) with
    | false => rw [hc] at h3; simp at h3
    | true =>
      rw [hc] at h3
      simp only [cond_true] at h3
      cases b with
      | true =>
        simp only [Option.some.injEq, Prod.mk.injEq] at h4
        obtain ⟨rfl, rfl⟩ := h4
        refine ⟨e, Nat.le_refl _, by simp, rfl, (cells_inj (by simpa using hc) (cellsEq_true h3)).symm⟩
      | false =>
        obtain ⟨e', g1, g2, g3, g4⟩ := findA_at h4
        refine ⟨e', by omega, ?_, g3, g4⟩
        have : j - i = (j - (i + 1)) + 1 := by omega
        rw [this]; simpa using g2

theorem leaf_same {l : Leaf} {x : Value} (n : Nat) (h : leafIs l x = true) : Instr.sameBits n x x = true := by
  cases l <;> cases x <;> simp [leafIs] at h <;> (cases n <;> simp [Instr.sameBits] <;> exact ba_beq _)

theorem zip_same {n : Nat} : ∀ {ls : List Leaf} {xs : List Value}, cellsAre ls xs = true → ((xs.zip xs).all fun (p : Value × Value) => Instr.sameBits n p.1 p.2) = true
  | [], [], _ => rfl
  | l :: ls, x :: xs, h => by
    simp only [cellsAre, Bool.and_eq_true] at h
    simp only [List.zip_cons_cons, List.all_cons, Bool.and_eq_true]
    exact ⟨leaf_same n h.1, zip_same h.2⟩
  | [], _ :: _, h => by simp [cellsAre] at h
  | _ :: _, [], h => by simp [cellsAre] at h

theorem key_same {ls : List Leaf} {k : Value} (h : cellsAre ls (cellsOf k) = true) : Instr.sameBits 10000 k k = true := by
  obtain ⟨dd, hdd⟩ : ∃ d, 10000 = d + 1 := ⟨9999, rfl⟩
  cases hk : isAggV k with
  | true =>
    cases k <;> simp [isAggV] at hk
    rename_i c
    simp only [cellsOf, Value.cells] at h
    rw [hdd]
    unfold Instr.sameBits
    simp only [beq_self_eq_true, Bool.true_and]
    exact zip_same h
  | false =>
    have : cellsOf k = [k] := by cases k <;> first | rfl | simp [isAggV] at hk
    rw [this] at h
    cases ls with
    | nil => simp [cellsAre] at h
    | cons l ls =>
      simp only [cellsAre, Bool.and_eq_true] at h
      exact leaf_same _ h.1

theorem run_stays {ls : List Leaf} {k : Value} (h : cellsAre ls (cellsOf k) = true) (w : World) : (Instr.keyThatStays k k).run P w = .ok k w := by
  simp [Instr.keyThatStays, key_same h]

include hC in
theorem lookupA_sound (hW : WRel μ B H w) {t : TypeId} {m m' k k' v : Value} {ok : Bool} (hm : VRel μ m m') (hk : VRel μ k k') (h : lookupA C H t m k ok = some v) :
    ∃ v', (Instr.lookup t m' k' ok).run P w = .ok v' w ∧ VRel μ v v' := by
  unfold lookupA at h
  split at h
  case h_2 => simp at h
  rename_i kt et r hd
  have hu := under_map hC hd
  simp only [Option.bind_eq_some_iff, Option.map_eq_some_iff] at h
  obtain ⟨ls, hl, f, ⟨es, he, hf⟩, ⟨u, b⟩, hub, rfl⟩ := h
  obtain ⟨rfl, hk1, hk2, hk3, _⟩ := keyOk_sound hC hk hl
  have tup : ∀ {x x' : Value} {b : Bool}, VRel μ x x' → VRel μ (cond ok (.tuple #[x, .bool b]) x) (if ok = true then .tuple #[x', .bool b] else x') := by
    intro x x' b hx
    cases ok with
    | true => exact .tuple' (.cons hx (.cons (.bool _) .nil))
    | false => exact hx
  cases hm with
  | map0 =>
    simp only [Option.some.injEq] at he; subst he
    simp [findA] at hf; subst hf
    simp only [Option.bind_eq_some_iff] at hub
    obtain ⟨ti, hte, z, hz, hub⟩ := hub
    cases hp : plain z with
    | false => simp [hp] at hub
    | true =>
      simp only [hp, cond_true, Option.some.injEq, Prod.mk.injEq] at hub
      obtain ⟨rfl, rfl⟩ := hub
      refine ⟨_, ?_, tup (plain_refl hp)⟩
      simp [Instr.lookup, run_und hu, hk1, hk2 [] w none rfl, run_zero hC hte hz]
  | map b' r' n hμ =>
    simp only at he
    cases hb : H.get b' with
    | none => simp [hb] at he
    | some ob =>
      cases ob with
      | cells _ _ _ => simp [hb] at he
      | map es0 clock =>
        simp [hb] at he; subst he
        obtain ⟨es', g1, g2, g3⟩ := map_block hW hb hμ
        obtain ⟨f', hf', hrel⟩ := findA_rel g3 hk3 hf
        rcases hrel with ⟨rfl, rfl⟩ | ⟨j, x, x', rfl, rfl, hx⟩
        · simp only [Option.bind_eq_some_iff] at hub
          obtain ⟨ti, hte, z, hz, hub⟩ := hub
          cases hp : plain z with
          | false => simp [hp] at hub
          | true =>
            simp only [hp, cond_true, Option.some.injEq, Prod.mk.injEq] at hub
            obtain ⟨rfl, rfl⟩ := hub
            refine ⟨_, ?_, tup (plain_refl hp)⟩
            simp [Instr.lookup, run_und hu, run_getMap g1, hk1, hk2 _ w _ hf', run_zero hC hte hz]
        · simp only [Option.some.injEq, Prod.mk.injEq] at hub
          obtain ⟨rfl, rfl⟩ := hub
          refine ⟨_, ?_, tup hx⟩
          simp [Instr.lookup, run_und hu, run_getMap g1, hk1, hk2 _ w _ hf']

/-- What an update finds. -/
theorem found_key {ls : List Leaf} {k v : Value} {es : Array MapEntry} {j : Nat} (h : findA ls k es.toList 0 = some (some (j, v))) : (((es[j]?).map (·.key)).getD k) = k := by
  obtain ⟨e, _, g2, _, g4⟩ := findA_at h
  simp only [Nat.sub_zero, Array.getElem?_toList] at g2
  rw [g2]; simpa using g4

theorem mod_rel {es : List MapEntry} {es' : Array MapEntry} (h : All2 (ERel μ) es es'.toList) (j : Nat) {f g : MapEntry → MapEntry} (hfg : ∀ a b, ERel μ a b → ERel μ (f a) (g b)) :
    All2 (ERel μ) (es.modify j f) (es'.modify j g).toList := by
  have : (es'.modify j g).toList = es'.toList.modify j g := by simp
  rw [this]
  exact h.modify j hfg

include hC in
theorem updA_sound (hW : WRel μ B H w) {t : TypeId} {m m' k k' v v' : Value} (hm : VRel μ m m') (hk : VRel μ k k') (hv : VRel μ v v') (h : updA C H t m k v = some H') :
    ∃ w', (Instr.mapUpdate t m' k' v').run P w = .ok () w' ∧ Went B μ H w μ H' w' := by
  unfold updA at h
  split at h
  case h_2 => simp at h
  rename_i kt et r hd
  have hu := under_map hC hd
  simp only [Option.bind_eq_some_iff] at h
  obtain ⟨ls, hl, h⟩ := h
  obtain ⟨rfl, hk1, hk2, hk3, hk4⟩ := keyOk_sound hC hk hl
  cases hm with
  | map _ r' n hμ =>
  split at h
  case h_2 => simp at h
  rename_i es clock hb
  obtain ⟨es', g1, g2, g3⟩ := map_block hW hb hμ
  simp only [Option.map_eq_some_iff] at h
  obtain ⟨f, hf, hH⟩ := h
  obtain ⟨f', hf', hrel⟩ := findA_rel g3 hk3 hf
  simp only [Instr.mapUpdate, Sem.run_bind, run_und hu, Result.andThen_ok, run_getMap g1, hk1, hk2 _ w _ hf']
  rcases hrel with ⟨rfl, rfl⟩ | ⟨j, x, x', rfl, rfl, hx⟩
  · simp only at hH; subst hH
    refine ⟨_, run_setMap g1 _, map_set hW hb hμ g1 g2 ?_⟩
    simp only [Array.toList_push]
    exact g3.append (.cons ⟨hk3 μ, hv, rfl⟩ .nil)
  · simp only at hH; subst hH
    simp only [Sem.run_bind, found_key hf', run_stays hk4, Result.andThen_ok]
    exact ⟨_, run_setMap g1 _, map_set hW hb hμ g1 g2 (mod_rel g3 j fun a b hab => ⟨hk3 μ, hv, hab.born⟩)⟩

include hC in
theorem delA_sound (hW : WRel μ B H w) {t ty t1 : TypeId} {m m' k k' : Value} (hm : VRel μ m m') (hk : VRel μ k k') (h : delA C H t m k = some H') :
    ∃ w', (Builtin.delete_ #[t, t1] ty #[m', k']).run P w = .ok (.tuple #[]) w' ∧ Went B μ H w μ H' w' := by
  unfold delA at h
  split at h
  case h_2 => simp at h
  rename_i kt et r hd
  have hu := under_map hC hd
  simp only [Option.bind_eq_some_iff] at h
  obtain ⟨ls, hl, h⟩ := h
  obtain ⟨rfl, hk1, hk2, hk3, hk4⟩ := keyOk_sound hC hk hl
  cases hm with
  | map _ r' n hμ =>
  split at h
  case h_2 => simp at h
  rename_i es clock hb
  obtain ⟨es', g1, g2, g3⟩ := map_block hW hb hμ
  simp only [Option.map_eq_some_iff] at h
  obtain ⟨f, hf, hH⟩ := h
  obtain ⟨f', hf', hrel⟩ := findA_rel g3 hk3 hf
  simp only [Builtin.delete_, Sem.run_bind, run_und hu, Result.andThen_ok, List.getElem?_toArray, List.getElem?_cons_zero, List.getElem?_cons_succ, run_getMap g1, hk1, hk2 _ w _ hf']
  rcases hrel with ⟨rfl, rfl⟩ | ⟨j, x, x', rfl, rfl, hx⟩
  · simp only at hH; subst hH
    simp only [Sem.run_bind, run_setMap g1, Result.andThen_ok, Sem.run_pure]
    exact ⟨_, rfl, map_set hW hb hμ g1 g2 g3⟩
  · simp only at hH; subst hH
    simp only [Sem.run_bind, run_setMap g1, Result.andThen_ok, Sem.run_pure]
    refine ⟨_, rfl, map_set hW hb hμ g1 g2 ?_⟩
    have : (es'.eraseIdxIfInBounds j).toList = es'.toList.eraseIdx j := by
      unfold Array.eraseIdxIfInBounds
      split
      · simp
      · rename_i hj
        rw [List.eraseIdx_of_length_le (by simpa using hj)]
    rw [this]
    exact g3.eraseIdx j

include hC in
theorem entA_sound (hW : WRel μ B H w) {t : TypeId} {m m' k k' v : Value} (hm : VRel μ m m') (hk : VRel μ k k') (h : entA C H t m k = some (v, H')) :
    ∃ w' v', (Instr.mapEntry t m' k').run P w = .ok v' w' ∧ VRel μ v v' ∧ Went B μ H w μ H' w' := by
  unfold entA at h
  split at h
  case h_2 => simp at h
  rename_i kt et r hd
  have hu := under_map hC hd
  simp only [Option.bind_eq_some_iff] at h
  obtain ⟨ls, hl, h⟩ := h
  obtain ⟨rfl, hk1, hk2, hk3, hk4⟩ := keyOk_sound hC hk hl
  cases hm with
  | map _ r' n hμ =>
  split at h
  case h_2 => simp at h
  rename_i es clock hb
  obtain ⟨es', g1, g2, g3⟩ := map_block hW hb hμ
  simp only [Option.bind_eq_some_iff] at h
  obtain ⟨f, hf, hH⟩ := h
  obtain ⟨f', hf', hrel⟩ := findA_rel g3 hk3 hf
  simp only [Instr.mapEntry, Sem.run_bind, run_und hu, Result.andThen_ok, run_getMap g1, hk1, hk2 _ w _ hf']
  rcases hrel with ⟨rfl, rfl⟩ | ⟨j, x, x', rfl, rfl, hx⟩
  · simp only [Option.bind_eq_some_iff] at hH
    obtain ⟨ti, hte, z, hz, hH⟩ := hH
    cases hp : plain z with
    | false => simp [hp] at hH
    | true =>
      simp only [hp, cond_true, Option.some.injEq, Prod.mk.injEq] at hH
      obtain ⟨rfl, rfl⟩ := hH
      simp only [Sem.run_bind, run_zero hC hte hz, Result.andThen_ok, run_setMap g1, Sem.run_pure]
      refine ⟨_, _, rfl, .tuple' (.cons (plain_refl hp) (.cons (.int _ _) .nil)), map_set hW hb hμ g1 g2 ?_⟩
      simp only [Array.toList_push]
      exact g3.append (.cons ⟨hk3 μ, plain_refl hp, rfl⟩ .nil)
  · simp only [Option.some.injEq, Prod.mk.injEq] at hH
    obtain ⟨rfl, rfl⟩ := hH
    simp only [Sem.run_bind, found_key hf', run_stays hk4, Result.andThen_ok, run_setMap g1, Sem.run_pure]
    have hborn : (((es[j]?).map (·.born)).getD 0) = (((es'[j]?).map (·.born)).getD 0) := by
      cases hj : es[j]? with
      | none =>
        have : es'[j]? = none := by
          rw [List.getElem?_eq_none_iff] at hj
          rw [Array.getElem?_eq_none_iff]
          have := g3.length
          simp at this; omega
        rw [this]
      | some e =>
        obtain ⟨e', k1, k2⟩ := g3.get hj
        simp only [Array.getElem?_toList] at k1
        rw [k1]; simpa using k2.born
    refine ⟨_, _, rfl, ?_, map_set hW hb hμ g1 g2 (mod_rel g3 j fun a b hab => ⟨hk3 μ, hab.val, hab.born⟩)⟩
    rw [hborn]
    have hgo : goInt ((Option.map (fun x : MapEntry => (x.born : Int)) es'[j]?).getD 0) = .int .i64 (((es'[j]?).map (·.born)).getD 0 : Nat) := by
      cases es'[j]? <;> rfl
    rw [hgo]
    exact .tuple' (.cons hx (.cons (.int _ _) .nil))

theorem entStA_sound (hW : WRel μ B H w) {t : TypeId} {m m' s s' v v' : Value} (hm : VRel μ m m') (hs : VRel μ s s') (hv : VRel μ v v') (h : entStA H m s v = some H') :
    ∃ w', (Instr.entryStore t m' s' v').run P w = .ok () w' ∧ Went B μ H w μ H' w' := by
  unfold entStA at h
  split at h
  case h_2 => simp at h
  rename_i r kk born
  cases hm with
  | map _ r' n hμ =>
  cases hs
  split at h
  case h_2 => simp at h
  rename_i es clock hb
  obtain ⟨es', g1, g2, g3⟩ := map_block hW hb hμ
  simp only [Option.map_eq_some_iff] at h
  obtain ⟨i, hi, rfl⟩ := h
  have hi' : es'.findIdx? (fun e => (e.born : Int) == born) = some i := by
    have hh : ∀ (l l' : List MapEntry), All2 (ERel μ) l l' → l.findIdx? (fun e => (e.born : Int) == born) = l'.findIdx? (fun e => (e.born : Int) == born) := by
      intro l l' h
      induction h with
      | nil => rfl
      | cons hr _ ih => simp only [List.findIdx?_cons, hr.born, ih]
    have := hh _ _ g3
    obtain ⟨l⟩ := es'
    rw [List.findIdx?_toArray, ← this]; exact hi
  simp only [Instr.entryStore, Sem.run_bind, run_getMap g1, Result.andThen_ok, asInt, asIntOf, Sem.run_pure, hi']
  exact ⟨_, run_setMap g1 _, map_set hW hb hμ g1 g2 (mod_rel g3 i fun a b hab => ⟨hab.key, hv, hab.born⟩)⟩

end
end Go.Ev

namespace Go.Ev
open Go Go.RowKit

section
variable {P : Program} {C : Ctx} (hC : CtxOk P C) {μ : Mu} {B : Nat} {H H' : AHeap} {w : World} {o : Oper} {a : Act} {ρ : Env}

theorem exec_builtin {c : Call} {b : Builtin} (ho : o.op = .call c) (hc : c.callee = .builtin b) :
    ∃ cs, ∀ w, (execOp a.eval o).run P w = (builtin b c.argTypes o.type cs (c.args.map a.eval)).run P w := by
  refine ⟨c.args.map fun | .const _ => true | _ => false, fun w => ?_⟩
  simp only [execOp, ho, resolve, hc, invoke, Sem.run_bind, Sem.run_pure, Result.andThen_ok]
  rfl

theorem minMax_sound {mx : Bool} : ∀ {xs : List Value} {x : Value} {v : Value} {x' : Value} {xs' : List Value}, VRel μ x x' → VRelL μ xs xs' → minMax mx x xs = some v →
    ∃ v', VRel μ v v' ∧ (xs'.foldlM (if mx then Builtin.max2 else Builtin.min2) x').run P w = .ok v' w
  | [], x, v, x', xs', hx, hxs, h => by
    rw [hxs.nil_right]
    cases x <;> simp [minMax] at h <;> subst h <;> exact ⟨x', hx, rfl⟩
  | y :: ys, x, v, x', xs', hx, hxs, h => by
    obtain ⟨y', t, rfl, hy, ht⟩ := hxs.cons_right
    unfold minMax at h
    split at h
    · rename_i e; cases e
    · rename_i k i k' j rest e
      simp only [List.cons.injEq] at e
      obtain ⟨rfl, rfl⟩ := e
      cases hk : decide (k = k') with
      | false => simp [hk] at h
      | true =>
        simp only [hk, cond_true] at h
        cases hx; cases hy
        obtain ⟨v', g1, g2⟩ := minMax_sound (VRel.int k _) ht h
        refine ⟨v', g1, ?_⟩
        rw [List.foldlM_cons]
        cases mx with
        | true => simpa [Builtin.max2] using g2
        | false => simpa [Builtin.min2] using g2
    · simp at h

theorem WRel.kill_any {b r n : Nat} {ob : AObj} {w' : World} (hW : WRel μ B H w) (hb : H.get b = some ob) (hm : μ b = some (r, n)) (hB : B ≤ r) (hs : w'.heap.size = w.heap.size)
    (hk : ∀ k, k ≠ r → w'.heap[k]? = w.heap[k]?) (h1 : w'.os = w.os) (h2 : w'.tape = w.tape) (h3 : w'.output = w.output) : Went B μ H w μ (H.kill b) w' := by
  have K := hW.kill b
  refine ⟨⟨K.dom, fun c o1 r1 k hc hk1 => ?_, K.inj, by rw [hs]; exact hW.base⟩, keep_kill hm, ⟨h1, h2, h3, by omega, fun k hk1 => hk k (by omega)⟩⟩
  have hne : r1 ≠ r := by
    rintro rfl
    rw [AHeap.get_kill] at hc
    by_cases e : c = b
    · rw [if_pos e] at hc; cases hc
    · rw [if_neg e] at hc; exact e (hW.inj c b o1 ob r1 k n hc hb hk1 hm)
  exact (K.obj c o1 r1 k hc hk1).of_heap (hk r1 hne)

theorem freeze_other (w : World) (r off n k : Nat) (h : k ≠ r) : (w.freeze ⟨r, off, none⟩ n).heap[k]? = w.heap[k]? := by
  unfold World.freeze
  split
  · rfl
  · simp only [Array.getElem?_modify]
    rw [if_neg (Ne.symm h)]
theorem freeze_size (w : World) (a : Addr) (n : Nat) : (w.freeze a n).heap.size = w.heap.size := by
  unfold World.freeze; split <;> simp
theorem freeze_os (w : World) (a : Addr) (n : Nat) : (w.freeze a n).os = w.os ∧ (w.freeze a n).tape = w.tape ∧ (w.freeze a n).output = w.output := by
  unfold World.freeze; split <;> exact ⟨rfl, rfl, rfl⟩

include hC in
theorem op_builtin (hW : WRel μ B H w) (hE : EnvRel μ ρ a.tmps) {c : Call} {b : Builtin} (ho : o.op = .call c) (hc : c.callee = .builtin b) {r : OpRes}
    (h : builtinA C ρ H b c.argTypes c.args = some r) : OpOk P C B μ H w o a r := by
  simp only [builtinA, Option.bind_eq_some_iff] at h
  obtain ⟨vs, hvs, h⟩ := h
  have hl := looks_sound hE hvs
  have hargs : c.args.map a.eval = ⟨c.args.toList.map a.eval⟩ := by apply Array.ext'; simp
  obtain ⟨cs, ex⟩ := exec_builtin (P := P) (a := a) ho hc
  rw [hargs] at ex
  generalize c.args.toList.map a.eval = us at hl ex
  split at h
  · -- len
    rename_i x
    obtain ⟨x', rfl, hx⟩ := hl.one
    have fin : ∀ n : Nat, (Builtin.len_ c.argTypes o.type #[x']).run P w = .ok (.int .i64 (n : Nat)) w → r = .val (.int .i64 (n : Nat)) H → OpOk P C B μ H w o a r := by
      rintro n h1 rfl
      exact ok_pure hW (.int _ _) (by rw [ex]; simp [builtin, h1])
    cases ht : c.argTypes[0]? with
    | none => simp [ht] at h
    | some t =>
      simp only [ht, Option.bind_some] at h
      split at h
      · rename_i s hd
        simp only [Option.some.injEq] at h
        cases hx
        exact fin _ (by simp [Builtin.len_, ht, run_und (under_string hC hd), goInt]) h.symm
      · rename_i n e hd
        simp only [Option.some.injEq] at h
        exact fin _ (by simp [Builtin.len_, ht, run_und (under_array hC hd), goInt]) h.symm
      · rename_i e hd
        split at h
        · rename_i n e' hd'
          simp only [Option.some.injEq] at h
          exact fin _ (by simp [Builtin.len_, ht, run_und (under_ptr hC hd), run_und (under_array hC hd'), goInt]) h.symm
        · simp at h
      · rename_i e ad n cp hd
        simp only [Option.some.injEq] at h
        cases hx <;> exact fin _ (by simp [Builtin.len_, ht, run_und (under_slice hC hd), goInt]) h.symm
      · rename_i k e hd
        simp only [Option.some.injEq] at h
        cases hx
        exact fin 0 (by simp [Builtin.len_, ht, run_und (under_map hC hd), goInt]) h.symm
      · rename_i k e m hd
        split at h
        · rename_i es clock hb
          simp only [Option.some.injEq] at h
          cases hx with
          | map _ r' n hμ =>
            obtain ⟨es', g1, g2, g3⟩ := map_block hW hb hμ
            have := g3.length
            exact fin es.length (by simp only [Builtin.len_, List.getElem?_toArray, List.getElem?_cons_zero, ht, Sem.run_bind, run_und (under_map hC hd), Result.andThen_ok, run_getMap g1]; simp [goInt]; simp at this; omega) h.symm
        · simp at h
      · simp at h
  · rename_i bl off cp
    obtain ⟨x', rfl, hx⟩ := hl.one
    cases ht : c.argTypes[0]? with
    | none => simp [ht] at h
    | some t =>
      simp only [ht, Option.bind_some] at h
      split at h
      · rename_i e hd
        simp only [Option.some.injEq] at h; subst h
        cases hx
        exact ok_pure hW (.int _ _) (by rw [ex]; simp [builtin, Builtin.cap_, ht, run_und (under_slice hC hd), goInt])
      · simp at h
  · rename_i s x
    obtain ⟨s', us', rfl, hs, ht'⟩ := hl.cons_right
    obtain ⟨x', rfl, hx⟩ := ht'.one
    simp only [Option.bind_eq_some_iff] at h
    obtain ⟨t, ht, t1, ht1, h⟩ := h
    have key : retVH (appendA C H t s x) = some r → (∀ k, P.underlying t1 ≠ some (.int k)) → (P.underlying t1).isSome → OpOk P C B μ H w o a r := by
      intro h' g1 g2
      simp only [retVH, Option.map_eq_some_iff] at h'
      obtain ⟨⟨v, H1⟩, h', rfl⟩ := h'
      obtain ⟨μ', w', v', e1, e2, e3⟩ := appendA_sound (ty := o.type) hC hW hs hx g1 g2 h'
      refine ⟨μ', w', v', .inl ?_, e2, e3⟩
      rw [ex]
      have : (Builtin.append_ c.argTypes o.type #[s', x']).run P w = (Builtin.append_ #[t, t1] o.type #[s', x']).run P w := by
        simp only [Builtin.append_, ht, ht1]
        rfl
      simp [builtin, this, e1]
    split at h
    · rename_i e hd
      have := under_slice hC hd
      exact key h (by rw [this]; simp) (by rw [this]; rfl)
    · rename_i hd
      have := under_string hC hd
      exact key h (by rw [this]; simp) (by rw [this]; rfl)
    · simp at h
  · rename_i d s
    obtain ⟨d', us', rfl, hd, ht'⟩ := hl.cons_right
    obtain ⟨s', rfl, hs⟩ := ht'.one
    simp only [Option.bind_eq_some_iff, retVH, Option.map_eq_some_iff] at h
    obtain ⟨t, ht, ⟨v, H1⟩, h, rfl⟩ := h
    obtain ⟨w', e1, e2, e3⟩ := copyA_sound (ty := o.type) (t1 := 0) hC hW hd hs h
    refine ⟨μ, w', v, .inl ?_, e2, e3⟩
    rw [ex]
    have : (Builtin.copy_ c.argTypes o.type #[d', s']).run P w = (Builtin.copy_ #[t, 0] o.type #[d', s']).run P w := by
      simp only [Builtin.copy_, ht]
      rfl
    simp [builtin, this, e1]
  · rename_i m k
    obtain ⟨m', us', rfl, hm, ht'⟩ := hl.cons_right
    obtain ⟨k', rfl, hk⟩ := ht'.one
    simp only [Option.bind_eq_some_iff, Option.map_eq_some_iff] at h
    obtain ⟨t, ht, H1, h, rfl⟩ := h
    obtain ⟨w', e1, e2⟩ := delA_sound (ty := o.type) (t1 := 0) hC hW hm hk h
    refine ⟨μ, w', _, .inl ?_, .tuple' .nil, e2⟩
    rw [ex]
    have : (Builtin.delete_ c.argTypes o.type #[m', k']).run P w = (Builtin.delete_ #[t, 0] o.type #[m', k']).run P w := by
      simp only [Builtin.delete_, ht]
      rfl
    simp [builtin, this, e1]
  · rename_i x xs
    obtain ⟨x', us', rfl, hx, hxs⟩ := hl.cons_right
    refine ok_retV hW h fun v hv => ?_
    obtain ⟨v', g1, g2⟩ := minMax_sound (P := P) (w := w) hx hxs hv
    exact ⟨v', g1, by rw [ex]; simp only [if_true] at g2; simp [builtin, Builtin.max_, g2]⟩
  · rename_i x xs
    obtain ⟨x', us', rfl, hx, hxs⟩ := hl.cons_right
    refine ok_retV hW h fun v hv => ?_
    obtain ⟨v', g1, g2⟩ := minMax_sound (P := P) (w := w) hx hxs hv
    exact ⟨v', g1, by rw [ex]; simp at g2; simp [builtin, Builtin.min_, g2]⟩
  · rename_i ad n cp
    obtain ⟨x', rfl, hx⟩ := hl.one
    cases hcond : (n.beq 0 || cp.beq 0 || (ad.spot.any fun s => (s % 2).beq 1)) with
    | true => simp [hcond] at h
    | false =>
      simp only [hcond, cond_false, Option.some.injEq] at h
      subst h
      simp only [Bool.or_eq_false_iff] at hcond
      have hn : n ≠ 0 := by intro e; rw [e] at hcond; simp at hcond
      have fin : ∀ b r' k off c', μ b = some (r', k) → c' ≠ 0 → (∀ w, (execOp a.eval o).run P w = (builtin .unsafeSliceData c.argTypes o.type cs #[.slice (some ⟨r', off, none⟩) n c']).run P w) →
          OpOk P C B μ H w o a (.val (.pointer (some ⟨b, off, none⟩)) H) := by
        intro b r' k off c' hm hc' ex
        refine ok_pure hW (.ptr _ _ _ _ hm) ?_
        rw [ex]
        have := Lib.run_unsafeSliceData_row (P := P) w c.argTypes o.type ⟨r', off, none⟩ n c' hc'
        simp only [builtin, Sem.run_bind, this, Result.andThen_ok, Sem.run_pure]
      cases hx with
      | slice b r' k off _ _ hm =>
        exact fin b r' k off cp hm (by intro e; rw [e] at hcond; simp at hcond) ex
      | grow b r' k off e _ c' hm h1 h2 => exact fin b r' k off c' hm (by omega) ex
      | loose b off e c' ad' =>
        have := hcond.2
        simp at this
  · rename_i bl n
    obtain ⟨p', us', rfl, hp, ht'⟩ := hl.cons_right
    obtain ⟨n', rfl, hn'⟩ := ht'.one
    cases hn'
    split at h
    · simp at h
    · rename_i hnn
      split at h
      · rename_i cl e t t1 hb hts
        split at h
        · rename_i e0 ti htd hte
          cases hcond : (n.toNat.ble cl.length && e0.beq e && ti.size.beq 1) with
          | false => simp [hcond] at h
          | true =>
            simp only [hcond, cond_true, Option.map_eq_some_iff] at h
            obtain ⟨bs, hbs, rfl⟩ := h
            simp only [Bool.and_eq_true] at hcond
            obtain ⟨⟨c1, c2⟩, c3⟩ := hcond
            have c1 := ble_true c1
            have c2 := beq_true c2
            have c3 := beq_true c3
            subst c2
            have hat : c.argTypes = #[t, t1] := Array.ext' hts
            cases hp with
            | ptr _ r' k _ hm =>
              obtain ⟨c', t', fz, g1, g2, g3, g4, g5⟩ := hW.obj _ _ r' k hb hm
              obtain ⟨hBr, rfl, hfz⟩ := g5 rfl
              have hrel : VRelL μ (cl.take n.toNat) (c'.toList.take n.toNat) := by
                have := g4.take n.toNat
                rwa [List.take_take, Nat.min_eq_left c1] at this
              have heq := bytesOf_rel hrel hbs
              have hcs := bytesOf_cells hbs
              have hlen : bs.length = n.toNat := by
                have : (cl.take n.toNat).length = n.toNat := by simp; omega
                rw [hcs] at this; simpa using this
              have W := hW.kill_any hb hm hBr (freeze_size w ⟨r', 0, none⟩ bs.length) (fun k hk => freeze_other w r' 0 bs.length k hk) (freeze_os _ _ _).1 (freeze_os _ _ _).2.1 (freeze_os _ _ _).2.2
              refine ⟨μ, _, .string ⟨bs.toArray⟩, .inl ?_, .string _, W⟩
              rw [ex, hat]
              have hsz : P.cellsOf t' = 1 := by
                obtain ⟨i, i1, i2, _⟩ := (hC.ty _ _ hte).info
                simp [Program.cellsOf, i1, i2, c3]
              have hrun := Lib.run_unsafeString_row (P := P) w t t1 o.type t' (under_ptr hC htd) hsz r' c'.size (by simp [World.shape?, g1]) bs
                (by rintro rfl; simp at hlen; omega) (by omega) (by omega) (fun j x hj => by
                  rw [add_none, cell_of g1]
                  have e1 : (c'.toList.take n.toNat)[j]? = some (Value.int .u8 x.toNat) := by
                    rw [heq, hcs, List.getElem?_map, hj]; rfl
                  have hjl : j < n.toNat := by
                    have := (List.getElem?_eq_some_iff.1 hj).1
                    omega
                  rw [List.getElem?_take_of_lt hjl] at e1
                  simpa using e1)
              have hn : (n : Int) = (bs.length : Nat) := by omega
              rw [hn]
              simp only [builtin, Sem.run_bind]
              have hrun' : (Builtin.unsafeString_ #[t, t1] o.type { toList := [Value.pointer (some ⟨r', 0, none⟩), Value.int .i64 (bs.length : Nat)] }).run P w = _ := hrun
              rw [hrun']
              simp
        · simp at h
      · simp at h
  · simp at h


theorem run_callFunc {f : FuncId} {fi : FI} (h : C.fn.get f = some fi) (hC : CtxOk P C) (args : Array Value) (w : World) : (callFunc f args).run P w = .ok (.enter f args) w := by
  obtain ⟨h1, h2, h3⟩ := hC.fn f fi h
  simp only [callFunc, Sem.run_bind, run_program, Result.andThen_ok, h1]
  have hb : fi.fn.body.isNone = false := by
    cases hx : fi.fn.body with
    | none => rw [hx] at h3; simp at h3
    | some _ => rfl
  rw [if_neg (by rw [h2]; simp), hb]
  simp

include hC in
theorem toCall_sound {f : FuncId} {args : List Value} {args' : List Value} {r : OpRes} (hr : VRelL μ args args') (h : toCall C f args = some r)
    (hrun : (execOp a.eval o).run P w = (callFunc f ⟨args'⟩).run P w) : OpOk P C B μ H w o a r := by
  unfold toCall at h
  cases hk : known C f with
  | false => simp [hk] at h
  | true =>
    simp only [hk, cond_true, Option.some.injEq] at h
    subst h
    refine ⟨args', hr, ?_⟩
    cases hs : C.same.contains f with
    | true =>
      right
      refine ⟨rfl, ?_⟩
      rintro x rfl
      rw [hrun]
      exact hC.same f hs x w
    | false =>
      left
      simp only [known, hs, Bool.or_false] at hk
      obtain ⟨fi, hfi⟩ := Option.isSome_iff_exists.1 hk
      exact ⟨rfl, hk, by rw [hrun]; exact run_callFunc hfi hC _ w⟩

include hC in
theorem op_call (hW : WRel μ B H w) (hE : EnvRel μ ρ a.tmps) {c : Call} (ho : o.op = .call c) {r : OpRes} (h : callA C ρ c = some r) : OpOk P C B μ H w o a r := by
  have hargs : c.args.map a.eval = ⟨c.args.toList.map a.eval⟩ := by apply Array.ext'; simp
  unfold callA at h
  split at h
  · rename_i f hc
    simp only [Option.bind_eq_some_iff] at h
    obtain ⟨fv, hfv, args, hargs', h⟩ := h
    have hl := looks_sound hE hargs'
    have hf := look_sound hE hfv
    generalize hef : a.eval f = fv' at hf
    split at h
    · rename_i g first cap
      cases hf with
      | func _ _ first' _ cap' h1 h2 h3 h4 =>
        refine toCall_sound hC (args' := first'.toList ++ c.args.toList.map a.eval ++ cap'.toList) (((VRelL.of_arr h1 h3).append hl).append (VRelL.of_arr h2 h4)) h ?_
        have : (first' ++ c.args.map a.eval ++ cap') = (⟨first'.toList ++ c.args.toList.map a.eval ++ cap'.toList⟩ : Array Value) := by apply Array.ext'; simp
        rw [← this]
        simp [execOp, ho, resolve, hc, hef, Deferred.ofValue, invoke]
    · rename_i name first cap
      cases hf with
      | func _ _ first' _ cap' h1 h2 h3 h4 =>
        have hall : VRelL μ (first.toList ++ args) (first'.toList ++ c.args.toList.map a.eval) := (VRelL.of_arr h1 h3).append hl
        split at h
        · rename_i t v rest he
          simp only [Option.bind_eq_some_iff] at h
          obtain ⟨g, hm, h⟩ := h
          rw [he] at hall
          obtain ⟨y, ys, hy, hr1, hr2⟩ := hall.cons_right
          cases hr1 with
          | iface _ _ v' hv =>
            refine toCall_sound hC (args' := v' :: ys) (.cons hv hr2) h ?_
            have e1 : (first' ++ c.args.map a.eval) = (⟨.iface t v' :: ys⟩ : Array Value) := by
              apply Array.ext'; rw [Array.toList_append, hargs]; exact hy
            have hmeth := (hC.meth _ _ _ hm).meth v' w
            have e2 : (first' ++ c.args.map a.eval)[0]? = some (.iface t v') := by rw [e1]; rfl
            have e3 : #[v'] ++ (first' ++ c.args.map a.eval).extract 1 (first' ++ c.args.map a.eval).size = (⟨v' :: ys⟩ : Array Value) := by
              rw [e1]; apply Array.ext'; simp
            simp only [execOp, ho, resolve, hc, hef, Deferred.ofValue, invoke, Sem.run_bind, Sem.run_pure, Result.andThen_ok, e2, callMethod, run_program, hmeth, e3]
        · simp at h
    · simp at h
  · rename_i rcv name hc
    simp only [Option.bind_eq_some_iff] at h
    obtain ⟨rv, hrv, args, hargs', h⟩ := h
    have hl := looks_sound hE hargs'
    have hr := look_sound hE hrv
    generalize her : a.eval rcv = rv' at hr
    split at h
    · rename_i t v
      simp only [Option.bind_eq_some_iff] at h
      obtain ⟨g, hm, h⟩ := h
      cases hr with
      | iface _ _ v' hv =>
        refine toCall_sound hC (args' := v' :: c.args.toList.map a.eval) (.cons hv hl) h ?_
        have hmeth := (hC.meth _ _ _ hm).meth v' w
        have e2 : (#[Value.iface t v'] ++ c.args.map a.eval)[0]? = some (.iface t v') := by
          rw [Array.getElem?_append_left (by simp)]; rfl
        have e3 : #[v'] ++ (#[Value.iface t v'] ++ c.args.map a.eval).extract 1 (#[Value.iface t v'] ++ c.args.map a.eval).size = (⟨v' :: c.args.toList.map a.eval⟩ : Array Value) := by
          apply Array.ext'; simp
          exact List.take_of_length_le (by simp)
        simp only [execOp, ho, resolve, hc, her, invoke, Sem.run_bind, Sem.run_pure, Result.andThen_ok, e2, callMethod, run_program, hmeth, e3]
    · simp at h
  · simp at h

include hC in
/-- THE LAW OF THE OPERATIONS. -/
theorem op_sound (hW : WRel μ B H w) (hE : EnvRel μ ρ a.tmps) {r : OpRes} (h : opEval C ρ H o = some r) : OpOk P C B μ H w o a r := by
  have h0 := h
  cases ho : o.op with
  | move x => exact op_move hW hE (.inl ho) (by simpa [opEval, ho] using h)
  | assign x => exact op_move hW hE (.inr ho) (by simpa [opEval, ho] using h)
  | pick c x y =>
    simp only [opEval, ho] at h
    exact op_pick hW hE ho h
  | alloc e => exact op_alloc hC hW ho (by simpa [opEval, ho] using h)
  | box e x => exact op_box hW hE ho (by simpa [opEval, ho] using h)
  | build t ps => exact op_build hC hW hE ho h
  | buildSlice t l ps => exact op_buildSlice hC hW hE ho h
  | load t x => exact op_load hC hW hE ho (by simpa [opEval, ho] using h)
  | store t x y => exact op_store hC hW hE ho (by simpa [opEval, ho] using h)
  | nilCheck x => exact op_nilCheck hC hW hE ho h
  | binOp op t x y yt => exact op_binOp hC hW hE ho h
  | unOp op t x => exact op_unOp hW hE ho (by simpa [opEval, ho] using h)
  | convert s d x => exact op_convert hC hW hE ho (by simpa [opEval, ho] using h)
  | makeInterface t x => exact op_makeInterface hC hW hE ho h
  | makeFunc f x y => exact op_makeFunc hW hE ho h
  | makeMap t r => cases r with
    | none => exact op_makeMap hW ho h
    | some _ => simp [opEval, ho] at h
  | makeSlice t l c => exact op_makeSlice hC hW hE ho h
  | slice t x l hh m => exact op_slice hC hW hE ho h
  | fieldAddr t x f => exact op_fieldAddr hC hW hE ho h
  | field t x f => exact op_field hC hW hE ho h
  | indexAddr t x i => exact op_indexAddr hC hW hE ho h
  | index t x i => exact op_index hC hW hE ho h
  | extract x i => exact op_extract hW hE ho h
  | lookup t m k ok =>
    simp only [opEval, ho, Option.bind_eq_some_iff] at h
    obtain ⟨mv, hm, kv, hk, h⟩ := h
    refine ok_retV hW h fun v hv => ?_
    obtain ⟨v', e1, e2⟩ := lookupA_sound hC hW (look_sound hE hm) (look_sound hE hk) hv
    exact ⟨v', e2, by simp [execOp, ho, e1]⟩
  | mapUpdate t m k x =>
    simp only [opEval, ho, Option.bind_eq_some_iff, retH, Option.map_eq_some_iff] at h
    obtain ⟨mv, hm, kv, hk, v, hv, H1, h, rfl⟩ := h
    obtain ⟨w', e1, e2⟩ := updA_sound hC hW (look_sound hE hm) (look_sound hE hk) (look_sound hE hv) h
    exact ⟨μ, w', undef, .inr ⟨by simp [execOp, ho, e1], rfl⟩, .undef, e2⟩
  | insert t m k x =>
    simp only [opEval, ho, Option.bind_eq_some_iff, retH, Option.map_eq_some_iff] at h
    obtain ⟨mv, hm, kv, hk, v, hv, H1, h, rfl⟩ := h
    obtain ⟨w', e1, e2⟩ := updA_sound hC hW (look_sound hE hm) (look_sound hE hk) (look_sound hE hv) h
    exact ⟨μ, w', undef, .inr ⟨by simp [execOp, ho, e1], rfl⟩, .undef, e2⟩
  | mapEntry t m k =>
    simp only [opEval, ho, Option.bind_eq_some_iff, retVH, Option.map_eq_some_iff] at h
    obtain ⟨mv, hm, kv, hk, ⟨v, H1⟩, h, rfl⟩ := h
    obtain ⟨w', v', e1, e2, e3⟩ := entA_sound hC hW (look_sound hE hm) (look_sound hE hk) h
    exact ⟨μ, w', v', .inl (by simp [execOp, ho, e1]), e2, e3⟩
  | entryStore t m s x =>
    simp only [opEval, ho, Option.bind_eq_some_iff, retH, Option.map_eq_some_iff] at h
    obtain ⟨mv, hm, sv, hs, v, hv, H1, h, rfl⟩ := h
    obtain ⟨w', e1, e2⟩ := entStA_sound (P := P) (t := t) hW (look_sound hE hm) (look_sound hE hs) (look_sound hE hv) h
    exact ⟨μ, w', undef, .inr ⟨by simp [execOp, ho, e1], rfl⟩, .undef, e2⟩
  | call c =>
    simp only [opEval, ho] at h
    split at h
    · rename_i b hc
      exact op_builtin hC hW hE ho hc h
    · exact op_call hC hW hE ho h
  | _ => simp [opEval, ho] at h

end
end Go.Ev
