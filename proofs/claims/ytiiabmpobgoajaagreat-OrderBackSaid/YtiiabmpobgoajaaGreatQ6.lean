/- Part of the proof: Q6. -/
import Derived.Test.YtiiabmpobgoajaaGreatQ5
set_option linter.all false
namespace Go.Proofs.YtiiabmpobgoajaaGreat
open Go Go.Ev

theorem u8wrap (x : Int) : IntKind.u8.wrap x = x % 256 := by simp [IntKind.wrap, IntKind.signed, IntKind.bits]
theorem u64wrap (x : Int) : IntKind.u64.wrap x = x % 18446744073709551616 := by simp [IntKind.wrap, IntKind.signed, IntKind.bits]
theorem b8_nat (x : Int) : ((b8 x).toNat : Int) = x % 256 := by
  unfold b8
  rw [u8wrap]
  have h : 0 ≤ x % 256 ∧ x % 256 < 256 := by omega
  rw [UInt8.toNat_ofNat_of_lt' (by show (x % 256).toNat < 2 ^ 8; omega)]
  omega
theorem b8_ext {x y : Int} (h : x % 256 = y % 256) : b8 x = b8 y := by unfold b8; rw [u8wrap, u8wrap, h]
theorem b8_inj {x y : Int} (h : b8 x = b8 y) : x % 256 = y % 256 := by rw [← b8_nat, ← b8_nat, h]
theorem b8_of (c : UInt8) : b8 c.toNat = c := by
  apply UInt8.toNat_inj.1
  have := b8_nat c.toNat
  have h2 := c.toNat_lt
  omega

theorem q256_eq {w : Int} (h : 0 ≤ w) (h2 : w < 18446744073709551616) : q256 w = w / 256 := by
  unfold q256
  rw [u64wrap, Int.tdiv_eq_ediv_of_nonneg h]
  omega

theorem fdivs (x : Int) (n : Nat) : x.fdiv (2 ^ n) = x / (2 ^ n) := Int.fdiv_eq_ediv_of_nonneg x (by
  have : (0 : Int) < 2 ^ n := Int.pow_pos (by omega)
  omega)

theorem fd0 (x : Int) : x.fdiv (2 ^ 0) = x / 1 := fdivs x 0
theorem fd8 (x : Int) : x.fdiv (2 ^ 8) = x / 256 := fdivs x 8
theorem fd16 (x : Int) : x.fdiv (2 ^ 16) = x / 65536 := fdivs x 16
theorem fd24 (x : Int) : x.fdiv (2 ^ 24) = x / 16777216 := fdivs x 24
theorem fd32 (x : Int) : x.fdiv (2 ^ 32) = x / 4294967296 := fdivs x 32
theorem fd40 (x : Int) : x.fdiv (2 ^ 40) = x / 1099511627776 := fdivs x 40
theorem fd48 (x : Int) : x.fdiv (2 ^ 48) = x / 281474976710656 := fdivs x 48
theorem fd56 (x : Int) : x.fdiv (2 ^ 56) = x / 72057594037927936 := fdivs x 56

theorem word_ref {w : Int} (h : 0 ≤ w) (h2 : w < 18446744073709551616) : (refInts w).map b8 = (wordInts w).map b8 := by
  have e1 := q256_eq h h2
  have e2 : q256 (q256 w) = w / 65536 := by rw [e1, q256_eq (by omega) (by omega)]; omega
  have e3 : q256 (q256 (q256 w)) = w / 16777216 := by rw [e2, q256_eq (by omega) (by omega)]; omega
  have e4 : q256 (q256 (q256 (q256 w))) = w / 4294967296 := by rw [e3, q256_eq (by omega) (by omega)]; omega
  have e5 : q256 (q256 (q256 (q256 (q256 w)))) = w / 1099511627776 := by rw [e4, q256_eq (by omega) (by omega)]; omega
  have e6 : q256 (q256 (q256 (q256 (q256 (q256 w))))) = w / 281474976710656 := by rw [e5, q256_eq (by omega) (by omega)]; omega
  have e7 : q256 (q256 (q256 (q256 (q256 (q256 (q256 w)))))) = w / 72057594037927936 := by rw [e6, q256_eq (by omega) (by omega)]; omega
  have key : ∀ x y : Int, 0 ≤ x → x = y → b8 (x.tmod 256) = b8 y := fun x y hx e => b8_ext (by rw [Int.tmod_eq_emod_of_nonneg hx, e]; omega)
  unfold refInts wordInts
  simp only [fd0, fd8, fd16, fd24, fd32, fd40, fd48, fd56, List.map_cons, List.map_nil, List.cons.injEq, and_true]
  refine ⟨key _ _ (by rw [e7]; omega) (by rw [e7]), key _ _ (by rw [e6]; omega) (by rw [e6]), key _ _ (by rw [e5]; omega) (by rw [e5]), key _ _ (by rw [e4]; omega) (by rw [e4]), key _ _ (by rw [e3]; omega) (by rw [e3]), key _ _ (by rw [e2]; omega) (by rw [e2]), key _ _ (by rw [e1]; omega) (by rw [e1]), key _ _ h (by omega)⟩

theorem or64_eq {w : Int} (h : 0 ≤ w) (h2 : w < 72057594037927936) (b : UInt8) : or64 w b = w * 256 + b.toNat := by
  have hb := b.toNat_lt
  obtain ⟨n, rfl⟩ := Int.eq_ofNat_of_zero_le h
  unfold or64
  have e1 : IntKind.u64.wrap ((n : Int) * 2 ^ 8) = ((n * 256 : Nat) : Int) := by rw [u64wrap]; omega
  have e2 : IntKind.u64.wrap ((b.toNat : Nat) : Int) = (b.toNat : Int) := by rw [u64wrap]; omega
  rw [e1, e2]
  have e3 : (BitVec.ofInt IntKind.u64.bits ((n * 256 : Nat) : Int) ||| BitVec.ofInt IntKind.u64.bits (b.toNat : Int)).toNat = n * 256 + b.toNat := by
    rw [BitVec.toNat_or, BitVec.ofInt_natCast, BitVec.ofInt_natCast, BitVec.toNat_ofNat, BitVec.toNat_ofNat]
    rw [Nat.mod_eq_of_lt (by show n * 256 < 2 ^ 64; omega), Nat.mod_eq_of_lt (by show b.toNat < 2 ^ 64; omega)]
    have := Nat.shiftLeft_add_eq_or_of_lt (b := b.toNat) (i := 8) (by omega) n
    rw [Nat.shiftLeft_eq] at this
    rw [← this]
  rw [e3, u64wrap]
  omega

def sum64 (c0 c1 c2 c3 c4 c5 c6 c7 : Int) : Int := ((((((c0 * 256 + c1) * 256 + c2) * 256 + c3) * 256 + c4) * 256 + c5) * 256 + c6) * 256 + c7

theorem get64_eq (c0 c1 c2 c3 c4 c5 c6 c7 : UInt8) : get64 [c0, c1, c2, c3, c4, c5, c6, c7] = sum64 c0.toNat c1.toNat c2.toNat c3.toNat c4.toNat c5.toNat c6.toNat c7.toNat := by
  have h0 := c0.toNat_lt; have h1 := c1.toNat_lt; have h2 := c2.toNat_lt; have h3 := c3.toNat_lt
  have h4 := c4.toNat_lt; have h5 := c5.toNat_lt; have h6 := c6.toNat_lt; have h7 := c7.toNat_lt
  have s0 : or64 0 c0 = c0.toNat := by rw [or64_eq (by omega) (by omega)]; omega
  have s1 : or64 (c0.toNat : Int) c1 = (c0.toNat * 256 + c1.toNat) := or64_eq (by omega) (by omega) _
  have s2 : or64 ((c0.toNat * 256 + c1.toNat) : Int) c2 = ((c0.toNat * 256 + c1.toNat) * 256 + c2.toNat) := or64_eq (by omega) (by omega) _
  have s3 : or64 (((c0.toNat * 256 + c1.toNat) * 256 + c2.toNat) : Int) c3 = (((c0.toNat * 256 + c1.toNat) * 256 + c2.toNat) * 256 + c3.toNat) := or64_eq (by omega) (by omega) _
  have s4 : or64 ((((c0.toNat * 256 + c1.toNat) * 256 + c2.toNat) * 256 + c3.toNat) : Int) c4 = ((((c0.toNat * 256 + c1.toNat) * 256 + c2.toNat) * 256 + c3.toNat) * 256 + c4.toNat) := or64_eq (by omega) (by omega) _
  have s5 : or64 (((((c0.toNat * 256 + c1.toNat) * 256 + c2.toNat) * 256 + c3.toNat) * 256 + c4.toNat) : Int) c5 = (((((c0.toNat * 256 + c1.toNat) * 256 + c2.toNat) * 256 + c3.toNat) * 256 + c4.toNat) * 256 + c5.toNat) := or64_eq (by omega) (by omega) _
  have s6 : or64 ((((((c0.toNat * 256 + c1.toNat) * 256 + c2.toNat) * 256 + c3.toNat) * 256 + c4.toNat) * 256 + c5.toNat) : Int) c6 = ((((((c0.toNat * 256 + c1.toNat) * 256 + c2.toNat) * 256 + c3.toNat) * 256 + c4.toNat) * 256 + c5.toNat) * 256 + c6.toNat) := or64_eq (by omega) (by omega) _
  have s7 : or64 (((((((c0.toNat * 256 + c1.toNat) * 256 + c2.toNat) * 256 + c3.toNat) * 256 + c4.toNat) * 256 + c5.toNat) * 256 + c6.toNat) : Int) c7 = (((((((c0.toNat * 256 + c1.toNat) * 256 + c2.toNat) * 256 + c3.toNat) * 256 + c4.toNat) * 256 + c5.toNat) * 256 + c6.toNat) * 256 + c7.toNat) := or64_eq (by omega) (by omega) _
  show or64 (or64 (or64 (or64 (or64 (or64 (or64 (or64 0 c0) c1) c2) c3) c4) c5) c6) c7 = _
  rw [s0, s1, s2, s3, s4, s5, s6, s7]
  rfl

theorem get_word {w : Int} (h : 0 ≤ w) (h2 : w < 18446744073709551616) : get64 ((wordInts w).map b8) = w := by
  unfold wordInts
  simp only [List.map_cons, List.map_nil, get64_eq, b8_nat, fd0, fd8, fd16, fd24, fd32, fd40, fd48, fd56]
  unfold sum64
  omega

theorem word_get (c0 c1 c2 c3 c4 c5 c6 c7 : UInt8) : (wordInts (get64 [c0, c1, c2, c3, c4, c5, c6, c7])).map b8 = [c0, c1, c2, c3, c4, c5, c6, c7] := by
  have h0 := c0.toNat_lt; have h1 := c1.toNat_lt; have h2 := c2.toNat_lt; have h3 := c3.toNat_lt
  have h4 := c4.toNat_lt; have h5 := c5.toNat_lt; have h6 := c6.toNat_lt; have h7 := c7.toNat_lt
  have key : ∀ (x : Int) (c : UInt8), x % 256 = c.toNat → b8 x = c := fun x c e => by
    rw [← b8_of c]; exact b8_ext (by rw [e]; have := c.toNat_lt; omega)
  rw [get64_eq]
  unfold wordInts sum64
  simp only [fd0, fd8, fd16, fd24, fd32, fd40, fd48, fd56, List.map_cons, List.map_nil, List.cons.injEq, and_true]
  refine ⟨key _ _ ?_, key _ _ ?_, key _ _ ?_, key _ _ ?_, key _ _ ?_, key _ _ ?_, key _ _ ?_, key _ _ ?_⟩ <;> omega

theorem get64_range (c0 c1 c2 c3 c4 c5 c6 c7 : UInt8) : 0 ≤ get64 [c0, c1, c2, c3, c4, c5, c6, c7] ∧ get64 [c0, c1, c2, c3, c4, c5, c6, c7] < 18446744073709551616 := by
  have h0 := c0.toNat_lt; have h1 := c1.toNat_lt; have h2 := c2.toNat_lt; have h3 := c3.toNat_lt
  have h4 := c4.toNat_lt; have h5 := c5.toNat_lt; have h6 := c6.toNat_lt; have h7 := c7.toNat_lt
  rw [get64_eq]
  unfold sum64
  omega
end Go.Proofs.YtiiabmpobgoajaaGreat
