/- Part of the proof: Q7. -/
import Derived.Test.YtiiabmpobgoajaaGreatQ6
import Derived.Test.YtiiabmpobgoajaaGreatQA
set_option linter.all false
namespace Go.Proofs.YtiiabmpobgoajaaGreat
open Go Go.Ev Tab
set_option maxRecDepth 10000
attribute [local irreducible] runw loopw

/-- The tables with all calls of the two laws summed up. -/
noncomputable def ctx2 : Ctx := withFlat ctx1 [16, 17, 18, 19, 20, 21]

theorem flat_eq2 {C C0 : Ctx} {f : FuncId} (hs : C.sum f = some (flatw C0 f)) {args : List Value} {v : Value} (hp : args.all plain = true) (hv : flatV v = true) (h : Does (runw C0 f args hp0) fun r => r.1 = v) (H : AHeap) : runw C f args H = some (v, H) := by
  obtain ⟨r, e, rfl⟩ := runw_flat' (C := C) (f := f) (H := H) (Q := fun r => r = (v, H)) hs hp (h.mono fun r hr => by rw [hr]; exact ⟨hv, rfl⟩)
  exact e

def Rng (w : Int) : Prop := 0 ≤ w ∧ w < 18446744073709551616
def Byt (k : Int) : Prop := 0 ≤ k ∧ k ≤ 255
def opV (k key val l : Int) : Value := .agg ⟨[.int .i64 k, .int .u64 key, .int .u64 val, .int .i64 l]⟩
def anV (e : Int) (dn : Bool) (v : Int) : Value := .agg ⟨[.int .i64 e, .bool dn, .int .u64 v]⟩
def opS (k key val l : Int) : Value := .string ⟨((opInts k key val l).map b8).toArray⟩
def anS (e : Int) (dn : Bool) (v : Int) : Value := .string ⟨((ansInts e dn v).map b8).toArray⟩
def noS : Value := .string ⟨#[]⟩

theorem refOp_eq {k key val l : Int} (h1 : Rng key) (h2 : Rng val) : (refOp k key val l).map b8 = (opInts k key val l).map b8 := by
  unfold refOp opInts
  simp only [List.map_cons, List.map_append, List.map_nil, word_ref h1.1 h1.2, word_ref h2.1 h2.2]
theorem refAn_eq {e v : Int} {dn : Bool} (h : Rng v) : (refAn e dn v).map b8 = (ansInts e dn v).map b8 := by
  unfold refAn ansInts
  simp only [List.map_cons, word_ref h.1 h.2]

theorem c16_yes {k l : Int} (key val : Int) (hk : Byt k) (hl : Byt l) (H : AHeap) : runw ctx2 16 [opV k key val l] H = some (.tuple ⟨[opS k key val l, .int .i64 0]⟩, H) := flat_eq2 rfl rfl rfl (bytes_yes k key val l hk hl) H
theorem c16_no {k l : Int} (key val : Int) (h : ¬ (Byt k ∧ Byt l)) (H : AHeap) : runw ctx2 16 [opV k key val l] H = some (.tuple ⟨[noS, .int .i64 3]⟩, H) := flat_eq2 rfl rfl rfl (bytes_no k key val l h) H
theorem c18_yes {e : Int} (dn : Bool) (v : Int) (h : Byt e) (H : AHeap) : runw ctx2 18 [anV e dn v] H = some (.tuple ⟨[anS e dn v, .int .i64 0]⟩, H) := flat_eq2 rfl rfl rfl (answer_yes e v dn h) H
theorem c18_no {e : Int} (dn : Bool) (v : Int) (h : ¬ Byt e) (H : AHeap) : runw ctx2 18 [anV e dn v] H = some (.tuple ⟨[noS, .int .i64 3]⟩, H) := flat_eq2 rfl rfl rfl (answer_no e v dn h) H
theorem c20_yes {k key val l : Int} (hk : Byt k) (hl : Byt l) (h1 : Rng key) (h2 : Rng val) (H : AHeap) : runw ctx2 20 [opV k key val l] H = some (.tuple ⟨[opS k key val l, .bool true]⟩, H) :=
  flat_eq2 rfl rfl rfl ((refb_yes k key val l hk.1 hk.2 hl.1 hl.2).mono fun r hr => by rw [hr, refOp_eq h1 h2]; rfl) H
theorem c20_no {k l : Int} (key val : Int) (h : ¬ (Byt k ∧ Byt l)) (H : AHeap) : runw ctx2 20 [opV k key val l] H = some (.tuple ⟨[noS, .bool false]⟩, H) := by
  refine flat_eq2 rfl rfl rfl ?_ H
  unfold Byt at h
  by_cases a : k < 0
  · exact refb_no1 k key val l a
  · by_cases b : 255 < k
    · exact refb_no2 k key val l (by omega) b
    · by_cases c : l < 0
      · exact refb_no3 k key val l (by omega) (by omega) c
      · exact refb_no4 k key val l (by omega) (by omega) (by omega) (by omega)
theorem c21_yes {e : Int} (dn : Bool) {v : Int} (h : Byt e) (hv : Rng v) (H : AHeap) : runw ctx2 21 [anV e dn v] H = some (.tuple ⟨[anS e dn v, .bool true]⟩, H) := by
  refine flat_eq2 rfl rfl rfl ?_ H
  cases dn with
  | true => exact (refa_yes_true e v h.1 h.2).mono fun r hr => by rw [hr, refAn_eq hv]; rfl
  | false => exact (refa_yes_false e v h.1 h.2).mono fun r hr => by rw [hr, refAn_eq hv]; rfl
theorem c21_no {e : Int} (dn : Bool) (v : Int) (h : ¬ Byt e) (H : AHeap) : runw ctx2 21 [anV e dn v] H = some (.tuple ⟨[noS, .bool false]⟩, H) := by
  refine flat_eq2 rfl rfl rfl ?_ H
  unfold Byt at h
  by_cases a : e < 0
  · exact refa_no1 e v dn a
  · exact refa_no2 e v dn (by omega) (by omega)
theorem awk2 (H : AHeap) : runw ctx2 15 [] H = some (.bool true, H) := flat_eq2 (C0 := ctx) rfl rfl rfl awake20 H

theorem i64byte (c : UInt8) : IntKind.i64.wrap (c.toNat : Int) = c.toNat := by
  have := c.toNat_lt
  simp [IntKind.wrap, IntKind.signed, IntKind.bits]
  omega

theorem c17_yes (c0 c1 c2 c3 c4 c5 c6 c7 c8 c9 c10 c11 c12 c13 c14 c15 c16 c17 : UInt8) (H : AHeap) :
    runw ctx2 17 [.string ⟨#[c0, c1, c2, c3, c4, c5, c6, c7, c8, c9, c10, c11, c12, c13, c14, c15, c16, c17]⟩] H =
      some (.tuple ⟨[opV c0.toNat (get64 [c1, c2, c3, c4, c5, c6, c7, c8]) (get64 [c9, c10, c11, c12, c13, c14, c15, c16]) c17.toNat, .int .i64 0]⟩, H) :=
  flat_eq2 rfl rfl rfl ((parse_yes c0 c1 c2 c3 c4 c5 c6 c7 c8 c9 c10 c11 c12 c13 c14 c15 c16 c17).mono fun r hr => by rw [hr, i64byte, i64byte]; rfl) H
theorem c17_no {s : ByteArray} (h : s.size ≠ 18) (H : AHeap) : runw ctx2 17 [.string s] H = some (.tuple ⟨[opV 0 0 0 0, .int .i64 4]⟩, H) := flat_eq2 rfl rfl rfl (parse_no s h) H
theorem c19_yes (c0 c1 c2 c3 c4 c5 c6 c7 c8 c9 : UInt8) (h : c1.toNat ≤ 1) (H : AHeap) :
    runw ctx2 19 [.string ⟨#[c0, c1, c2, c3, c4, c5, c6, c7, c8, c9]⟩] H = some (.tuple ⟨[anV c0.toNat ((c1.toNat : Int) == 1) (get64 [c2, c3, c4, c5, c6, c7, c8, c9]), .int .i64 0]⟩, H) :=
  flat_eq2 rfl rfl rfl ((pans_yes c0 c1 c2 c3 c4 c5 c6 c7 c8 c9 h).mono fun r hr => by rw [hr, i64byte]; rfl) H
theorem c19_no {s : ByteArray} (h : s.size ≠ 10) (H : AHeap) : runw ctx2 19 [.string s] H = some (.tuple ⟨[anV 0 false 0, .int .i64 4]⟩, H) := flat_eq2 rfl rfl rfl (pans_no s h) H
theorem c19_big (c0 c1 c2 c3 c4 c5 c6 c7 c8 c9 : UInt8) (h : ¬ c1.toNat ≤ 1) (H : AHeap) :
    runw ctx2 19 [.string ⟨#[c0, c1, c2, c3, c4, c5, c6, c7, c8, c9]⟩] H = some (.tuple ⟨[anV 0 false 0, .int .i64 4]⟩, H) := flat_eq2 rfl rfl rfl (pans_big c0 c1 c2 c3 c4 c5 c6 c7 c8 c9 h) H

/-- The bytes of what was read are the bytes. -/
theorem opS_back (c0 c1 c2 c3 c4 c5 c6 c7 c8 c9 c10 c11 c12 c13 c14 c15 c16 c17 : UInt8) :
    opS c0.toNat (get64 [c1, c2, c3, c4, c5, c6, c7, c8]) (get64 [c9, c10, c11, c12, c13, c14, c15, c16]) c17.toNat = .string ⟨#[c0, c1, c2, c3, c4, c5, c6, c7, c8, c9, c10, c11, c12, c13, c14, c15, c16, c17]⟩ := by
  unfold opS opInts
  simp only [List.map_cons, List.map_append, List.map_nil, word_get, b8_of]
  rfl
theorem anS_back (c0 c1 c2 c3 c4 c5 c6 c7 c8 c9 : UInt8) (h : c1.toNat ≤ 1) :
    anS c0.toNat ((c1.toNat : Int) == 1) (get64 [c2, c3, c4, c5, c6, c7, c8, c9]) = .string ⟨#[c0, c1, c2, c3, c4, c5, c6, c7, c8, c9]⟩ := by
  unfold anS ansInts
  simp only [List.map_cons, word_get, b8_of]
  have : b8 (bif ((c1.toNat : Int) == 1) then 1 else 0) = c1 := by
    by_cases e : (c1.toNat : Int) = 1
    · rw [show ((c1.toNat : Int) == 1) = true by simpa using e]
      rw [← b8_of c1, e]; rfl
    · rw [show ((c1.toNat : Int) == 1) = false by simpa using e]
      rw [← b8_of c1, show (c1.toNat : Int) = 0 by omega]; rfl
  rw [this]
end Go.Proofs.YtiiabmpobgoajaaGreat
