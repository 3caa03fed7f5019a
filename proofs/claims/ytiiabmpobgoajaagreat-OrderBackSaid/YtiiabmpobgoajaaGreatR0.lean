/- Part of the proof: R0. -/
import Derived.Test.YtiiabmpobgoajaaGreatQ9
set_option linter.all false
namespace Go.Proofs.YtiiabmpobgoajaaGreat
open Go Go.Ev Tab
set_option maxRecDepth 10000
set_option maxHeartbeats 4000000
attribute [local irreducible] runw loopw

theorem does_opbk {C : Ctx} {call : Fun} {ops : Array Oper} {o : Oper} {os : List Oper} {ρ ρ1 : Env} {H : AHeap} {Q : Env × AHeap → Prop} {b b' : Bool} (e : stepV C call ops o ρ H = some (.bool b', H)) (hb : b' = b) (hp : put ρ o.dst (.bool b) = ρ1)
    (h : Does (evOps C call ops os ρ1 H) Q) : Does (evOps C call ops (o :: os) ρ H) Q := does_opb e hb hp h
theorem c17_opS {k key val l : Int} (hk : Byt k) (hl : Byt l) (h1 : Rng key) (h2 : Rng val) (H : AHeap) : runw ctx2 17 [opS k key val l] H = some (.tuple ⟨[opV k key val l, .int .i64 0]⟩, H) := by
  have e1 := b8_nat k
  have e2 := b8_nat l
  have g1 := get_word h1.1 h1.2
  have g2 := get_word h2.1 h2.2
  unfold wordInts at g1 g2
  simp only [List.map_cons, List.map_nil] at g1 g2
  have := c17_yes (b8 k) (b8 (key.fdiv (2 ^ 56))) (b8 (key.fdiv (2 ^ 48))) (b8 (key.fdiv (2 ^ 40))) (b8 (key.fdiv (2 ^ 32))) (b8 (key.fdiv (2 ^ 24))) (b8 (key.fdiv (2 ^ 16))) (b8 (key.fdiv (2 ^ 8))) (b8 (key.fdiv (2 ^ 0)))
    (b8 (val.fdiv (2 ^ 56))) (b8 (val.fdiv (2 ^ 48))) (b8 (val.fdiv (2 ^ 40))) (b8 (val.fdiv (2 ^ 32))) (b8 (val.fdiv (2 ^ 24))) (b8 (val.fdiv (2 ^ 16))) (b8 (val.fdiv (2 ^ 8))) (b8 (val.fdiv (2 ^ 0))) (b8 l) H
  rw [g1, g2, e1, e2, Int.emod_eq_of_lt hk.1 (by have := hk.2; omega), Int.emod_eq_of_lt hl.1 (by have := hl.2; omega)] at this
  exact this
theorem c19_anS {e : Int} (dn : Bool) {v : Int} (he : Byt e) (hv : Rng v) (H : AHeap) : runw ctx2 19 [anS e dn v] H = some (.tuple ⟨[anV e dn v, .int .i64 0]⟩, H) := by
  have e1 := b8_nat e
  have g1 := get_word hv.1 hv.2
  unfold wordInts at g1
  simp only [List.map_cons, List.map_nil] at g1
  have hd : (b8 (bif dn then 1 else 0)).toNat ≤ 1 := by cases dn <;> decide
  have := c19_yes (b8 e) (b8 (bif dn then 1 else 0)) (b8 (v.fdiv (2 ^ 56))) (b8 (v.fdiv (2 ^ 48))) (b8 (v.fdiv (2 ^ 40))) (b8 (v.fdiv (2 ^ 32))) (b8 (v.fdiv (2 ^ 24))) (b8 (v.fdiv (2 ^ 16))) (b8 (v.fdiv (2 ^ 8))) (b8 (v.fdiv (2 ^ 0))) hd H
  rw [g1, e1, Int.emod_eq_of_lt he.1 (by have := he.2; omega)] at this
  have hb : (((b8 (bif dn then 1 else 0)).toNat : Int) == 1) = dn := by cases dn <;> rfl
  rw [hb] at this
  exact this

theorem wordInts_inj {x y : Int} (hx : Rng x) (hy : Rng y) (h : (wordInts x).map b8 = (wordInts y).map b8) : x = y := by
  rw [← get_word hx.1 hx.2, ← get_word hy.1 hy.2, h]
theorem byt_inj {x y : Int} (hx : Byt x) (hy : Byt y) (h : b8 x = b8 y) : x = y := by
  have := b8_inj h
  unfold Byt at hx hy
  omega
theorem op_ne {k key val l k2 key2 val2 l2 : Int} (hk : Byt k) (hl : Byt l) (h1 : Rng key) (h2 : Rng val) (hk2 : Byt k2) (hl2 : Byt l2) (h3 : Rng key2) (h4 : Rng val2) (hd : k = k2 → key = key2 → val = val2 → ¬l = l2) :
    (((opInts k key val l).map b8) == ((opInts k2 key2 val2 l2).map b8)) = false := by
  rw [beq_eq_false_iff_ne]
  intro h
  unfold opInts at h
  simp only [List.map_cons, List.map_append, List.map_nil, List.cons.injEq] at h
  obtain ⟨a, b⟩ := h
  have len : ∀ x : Int, ((wordInts x).map b8).length = 8 := fun x => rfl
  obtain ⟨c, d⟩ := List.append_inj b (by rw [List.length_append, List.length_append, len, len, len, len])
  obtain ⟨c1, c2⟩ := List.append_inj c (by rw [len, len])
  simp only [List.cons.injEq, and_true] at d
  exact hd (byt_inj hk hk2 a) (wordInts_inj h1 h3 c1) (wordInts_inj h2 h4 c2) (byt_inj hl hl2 d)
theorem an_ne {e v e2 v2 : Int} {dn dn2 : Bool} (he : Byt e) (hv : Rng v) (he2 : Byt e2) (hv2 : Rng v2) (ha : e = e2 → dn = dn2 → ¬v = v2) : (((ansInts e dn v).map b8) == ((ansInts e2 dn2 v2).map b8)) = false := by
  rw [beq_eq_false_iff_ne]
  intro h
  unfold ansInts at h
  simp only [List.map_cons, List.cons.injEq] at h
  obtain ⟨a, b, c⟩ := h
  refine ha (byt_inj he he2 a) ?_ (wordInts_inj hv hv2 c)
  cases dn <;> cases dn2 <;> first | rfl | (exact absurd b (by decide))

end Go.Proofs.YtiiabmpobgoajaaGreat
