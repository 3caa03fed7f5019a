/- Part of the proof: Q91. -/
import Derived.Test.YtiiabmpobgoajaaGreatQ9
set_option linter.all false
namespace Go.Proofs.YtiiabmpobgoajaaGreat
open Go Go.Ev Tab
set_option maxRecDepth 10000
set_option maxHeartbeats 4000000
attribute [local irreducible] runw loopw

theorem w4_18_11 (k key val l e v : Int) (dn : Bool) (c0 c1 c2 c3 c4 c5 c6 c7 c8 c9 c10 c11 c12 c13 c14 c15 c16 c17 : UInt8)  (hk : Byt k) (hl : Byt l) (hkey : Rng key) (hval : Rng val) (he : Byt e) (hv : Rng v) :
    Does (runw ctx2 4 [opV k key val l, anV e dn v, .string ⟨#[c0, c1, c2, c3, c4, c5, c6, c7, c8, c9, c10, c11, c12, c13, c14, c15, c16, c17]⟩] hp0) fun r => r.1 = .bool true := by
  refine does_run (fi := g4) rfl rfl rfl rfl ?_
  have e0 : mkEnv g4.fn.ntmps [opV k key val l, anV e dn v, .string ⟨#[c0, c1, c2, c3, c4, c5, c6, c7, c8, c9, c10, c11, c12, c13, c14, c15, c16, c17]⟩] = some (opV k key val l) :: some (anV e dn v) :: some (.string ⟨#[c0, c1, c2, c3, c4, c5, c6, c7, c8, c9, c10, c11, c12, c13, c14, c15, c16, c17]⟩) :: [some undef, some undef, some undef, some undef, some undef, some undef, some undef, some undef, some undef, some undef, some undef, some undef, some undef, some undef, some undef, some undef, some undef, some undef, some undef, some undef, some undef, some undef, some undef, some undef, some undef, some undef, some undef, some undef, some undef, some undef, some undef, some undef, some undef, some undef, some undef, some undef, some undef, some undef, some undef, some undef, some undef, some undef, some undef, some undef, some undef, some undef, some undef, some undef, some undef, some undef, some undef, some undef, some undef, some undef, some undef, some undef, some undef, some undef, some undef, some undef, some undef, some undef, some undef, some undef, some undef, some undef, some undef, some undef, some undef, some undef, some undef, some undef, some undef, some undef, some undef, some undef, some undef, some undef, some undef, some undef, some undef, some undef, some undef, some undef, some undef, some undef, some undef, some undef, some undef, some undef, some undef, some undef, some undef, some undef, some undef, some undef, some undef, some undef, some undef, some undef, some undef, some undef, some undef, some undef, some undef, some undef, some undef, some undef, some undef, some undef, some undef, some undef, some undef, some undef, some undef, some undef, some undef, some undef, some undef, some undef, some undef, some undef, some undef, some undef, some undef, some undef, some undef, some undef, some undef, some undef, some undef, some undef, some undef, some undef, some undef, some undef, some undef, some undef, some undef, some undef, some undef, some undef, some undef, some undef, some undef, some undef, some undef, some undef, some undef, some undef, some undef, some undef, some undef, some undef, some undef, some undef, some undef, some undef, some undef, some undef, some undef, some undef, some undef, some undef, some undef, some undef, some undef, some undef, some undef, some undef, some undef, some undef, some undef, some undef] := by kernel_rfl
  rw [e0]
  repeat (with_reducible refine does_seq ?_)
  with_reducible refine does_region ?_
  refine does_opn (v := nptr 0 0) (H1 := ⟨1, (.node .nil (some (.cells [.int .i64 k, .int .u64 key, .int .u64 val, .int .i64 l] 24 false)) .nil)⟩) (by kernel_rfl) (by simp only [Ev.put, List.set_cons_succ, List.set_cons_zero]; rfl) ?_
  refine does_opn (v := nptr 1 0) (H1 := ⟨2, (.node (.node .nil (some (.cells [.int .i64 e, .bool dn, .int .u64 v] 27 false)) .nil) (some (.cells [.int .i64 k, .int .u64 key, .int .u64 val, .int .i64 l] 24 false)) .nil)⟩) (by kernel_rfl) (by simp only [Ev.put, List.set_cons_succ, List.set_cons_zero]; rfl) ?_
  refine does_opn rfl (by simp only [Ev.put, List.set_cons_succ, List.set_cons_zero]; rfl) ?_
  refine does_nilS ?_
  repeat (with_reducible refine does_seq ?_)
  with_reducible refine does_region ?_
  refine does_opc rfl (awk2 _) (by simp only [Ev.put, List.set_cons_succ, List.set_cons_zero]; rfl) ?_
  refine does_opn rfl (by simp only [Ev.put, List.set_cons_succ, List.set_cons_zero]; rfl) ?_
  refine does_nilS ?_
  repeat (with_reducible refine does_seq ?_)
  refine does_cond (b := false) rfl (fun h => absurd h (by simp)) (fun _ => ?_)
  refine does_skipS ?_
  repeat (with_reducible refine does_seq ?_)
  with_reducible refine does_region ?_
  iterate 2 (refine does_opn rfl (by simp only [Ev.put, List.set_cons_succ, List.set_cons_zero]; rfl) ?_)
  refine does_opb (b := false) rfl (by kernel_rfl) (by simp only [Ev.put, List.set_cons_succ, List.set_cons_zero]; rfl) ?_
  refine does_nilS ?_
  repeat (with_reducible refine does_seq ?_)
  refine does_cond (b := false) rfl (fun h => absurd h (by simp)) (fun _ => ?_)
  refine does_skipS ?_
  repeat (with_reducible refine does_seq ?_)
  with_reducible refine does_region ?_
  refine does_opk (v := opV k key val l) (by kernel_rfl) (by simp only [Ev.put, List.set_cons_succ, List.set_cons_zero]; rfl) ?_
  refine does_opc rfl (c16_yes key val hk hl _) (by simp only [Ev.put, List.set_cons_succ, List.set_cons_zero]; rfl) ?_
  refine does_opk (v := .tuple ⟨[opS k key val l, .int .i64 0]⟩) (by kernel_rfl) (by simp only [Ev.put, List.set_cons_succ, List.set_cons_zero]; rfl) ?_
  refine does_opk (v := opS k key val l) (by kernel_rfl) (by simp only [Ev.put, List.set_cons_succ, List.set_cons_zero]; rfl) ?_
  refine does_opk (v := .int .i64 0) (by kernel_rfl) (by simp only [Ev.put, List.set_cons_succ, List.set_cons_zero]; rfl) ?_
  refine does_opk (v := opS k key val l) (by kernel_rfl) (by simp only [Ev.put, List.set_cons_succ, List.set_cons_zero]; rfl) ?_
  refine does_opk (v := .int .i64 0) (by kernel_rfl) (by simp only [Ev.put, List.set_cons_succ, List.set_cons_zero]; rfl) ?_
  refine does_nilS ?_
  repeat (with_reducible refine does_seq ?_)
  with_reducible refine does_region ?_
  refine does_opk (v := opV k key val l) (by kernel_rfl) (by simp only [Ev.put, List.set_cons_succ, List.set_cons_zero]; rfl) ?_
  refine does_opc rfl (c20_yes hk hl hkey hval _) (by simp only [Ev.put, List.set_cons_succ, List.set_cons_zero]; rfl) ?_
  refine does_opk (v := .tuple ⟨[opS k key val l, .bool true]⟩) (by kernel_rfl) (by simp only [Ev.put, List.set_cons_succ, List.set_cons_zero]; rfl) ?_
  refine does_opk (v := opS k key val l) (by kernel_rfl) (by simp only [Ev.put, List.set_cons_succ, List.set_cons_zero]; rfl) ?_
  refine does_opk (v := .bool true) (by kernel_rfl) (by simp only [Ev.put, List.set_cons_succ, List.set_cons_zero]; rfl) ?_
  refine does_opk (v := opS k key val l) (by kernel_rfl) (by simp only [Ev.put, List.set_cons_succ, List.set_cons_zero]; rfl) ?_
  refine does_opk (v := .bool true) (by kernel_rfl) (by simp only [Ev.put, List.set_cons_succ, List.set_cons_zero]; rfl) ?_
  refine does_nilS ?_
  repeat (with_reducible refine does_seq ?_)
  with_reducible refine does_region ?_
  refine does_opk (v := .bool true) (by kernel_rfl) (by simp only [Ev.put, List.set_cons_succ, List.set_cons_zero]; rfl) ?_
  refine does_opk (v := .int .i64 0) (by kernel_rfl) (by simp only [Ev.put, List.set_cons_succ, List.set_cons_zero]; rfl) ?_
  refine does_opk (v := .bool true) (by kernel_rfl) (by simp only [Ev.put, List.set_cons_succ, List.set_cons_zero]; rfl) ?_
  refine does_opk (v := .bool false) (by kernel_rfl) (by simp only [Ev.put, List.set_cons_succ, List.set_cons_zero]; rfl) ?_
  refine does_opk (v := .bool false) (by kernel_rfl) (by simp only [Ev.put, List.set_cons_succ, List.set_cons_zero]; rfl) ?_
  refine does_opk (v := .bool true) (by kernel_rfl) (by simp only [Ev.put, List.set_cons_succ, List.set_cons_zero]; rfl) ?_
  refine does_opk (v := .bool false) (by kernel_rfl) (by simp only [Ev.put, List.set_cons_succ, List.set_cons_zero]; rfl) ?_
  refine does_opk (v := .bool false) (by kernel_rfl) (by simp only [Ev.put, List.set_cons_succ, List.set_cons_zero]; rfl) ?_
  refine does_opk (v := undef) (by kernel_rfl) (by simp only [Ev.put, List.set_cons_succ, List.set_cons_zero]; rfl) ?_
  refine does_opk (v := undef) (by kernel_rfl) (by simp only [Ev.put, List.set_cons_succ, List.set_cons_zero]; rfl) ?_
  refine does_opk (v := .bool false) (by kernel_rfl) (by simp only [Ev.put, List.set_cons_succ, List.set_cons_zero]; rfl) ?_
  refine does_opk (v := .bool false) (by kernel_rfl) (by simp only [Ev.put, List.set_cons_succ, List.set_cons_zero]; rfl) ?_
  refine does_opk (v := .bool false) (by kernel_rfl) (by simp only [Ev.put, List.set_cons_succ, List.set_cons_zero]; rfl) ?_
  refine does_opk (v := opS k key val l) (by kernel_rfl) (by simp only [Ev.put, List.set_cons_succ, List.set_cons_zero]; rfl) ?_
  refine does_opk (v := opS k key val l) (by kernel_rfl) (by simp only [Ev.put, List.set_cons_succ, List.set_cons_zero]; rfl) ?_
  refine does_opb (b := false) rfl (by first | exact bytes_ne _ | simp) (by simp only [Ev.put, List.set_cons_succ, List.set_cons_zero]; rfl) ?_
  refine does_opk (v := .bool false) (by kernel_rfl) (by simp only [Ev.put, List.set_cons_succ, List.set_cons_zero]; rfl) ?_
  refine does_nilS ?_
  repeat (with_reducible refine does_seq ?_)
  refine does_cond (b := false) rfl (fun h => absurd h (by simp)) (fun _ => ?_)
  refine does_skipS ?_
  repeat (with_reducible refine does_seq ?_)
  with_reducible refine does_region ?_
  refine does_opk (v := anV e dn v) (by kernel_rfl) (by simp only [Ev.put, List.set_cons_succ, List.set_cons_zero]; rfl) ?_
  refine does_opc rfl (c18_yes dn v he _) (by simp only [Ev.put, List.set_cons_succ, List.set_cons_zero]; rfl) ?_
  refine does_opk (v := .tuple ⟨[anS e dn v, .int .i64 0]⟩) (by kernel_rfl) (by simp only [Ev.put, List.set_cons_succ, List.set_cons_zero]; rfl) ?_
  refine does_opk (v := anS e dn v) (by kernel_rfl) (by simp only [Ev.put, List.set_cons_succ, List.set_cons_zero]; rfl) ?_
  refine does_opk (v := .int .i64 0) (by kernel_rfl) (by simp only [Ev.put, List.set_cons_succ, List.set_cons_zero]; rfl) ?_
  refine does_opk (v := anS e dn v) (by kernel_rfl) (by simp only [Ev.put, List.set_cons_succ, List.set_cons_zero]; rfl) ?_
  refine does_opk (v := .int .i64 0) (by kernel_rfl) (by simp only [Ev.put, List.set_cons_succ, List.set_cons_zero]; rfl) ?_
  refine does_nilS ?_
  repeat (with_reducible refine does_seq ?_)
  with_reducible refine does_region ?_
  refine does_opk (v := anV e dn v) (by kernel_rfl) (by simp only [Ev.put, List.set_cons_succ, List.set_cons_zero]; rfl) ?_
  refine does_opc rfl (c21_yes dn he hv _) (by simp only [Ev.put, List.set_cons_succ, List.set_cons_zero]; rfl) ?_
  refine does_opk (v := .tuple ⟨[anS e dn v, .bool true]⟩) (by kernel_rfl) (by simp only [Ev.put, List.set_cons_succ, List.set_cons_zero]; rfl) ?_
  refine does_opk (v := anS e dn v) (by kernel_rfl) (by simp only [Ev.put, List.set_cons_succ, List.set_cons_zero]; rfl) ?_
  refine does_opk (v := .bool true) (by kernel_rfl) (by simp only [Ev.put, List.set_cons_succ, List.set_cons_zero]; rfl) ?_
  refine does_opk (v := anS e dn v) (by kernel_rfl) (by simp only [Ev.put, List.set_cons_succ, List.set_cons_zero]; rfl) ?_
  refine does_opk (v := .bool true) (by kernel_rfl) (by simp only [Ev.put, List.set_cons_succ, List.set_cons_zero]; rfl) ?_
  refine does_nilS ?_
  repeat (with_reducible refine does_seq ?_)
  with_reducible refine does_region ?_
  refine does_opk (v := .bool true) (by kernel_rfl) (by simp only [Ev.put, List.set_cons_succ, List.set_cons_zero]; rfl) ?_
  refine does_opk (v := .int .i64 0) (by kernel_rfl) (by simp only [Ev.put, List.set_cons_succ, List.set_cons_zero]; rfl) ?_
  refine does_opk (v := .bool true) (by kernel_rfl) (by simp only [Ev.put, List.set_cons_succ, List.set_cons_zero]; rfl) ?_
  refine does_opk (v := .bool false) (by kernel_rfl) (by simp only [Ev.put, List.set_cons_succ, List.set_cons_zero]; rfl) ?_
  refine does_opk (v := .bool false) (by kernel_rfl) (by simp only [Ev.put, List.set_cons_succ, List.set_cons_zero]; rfl) ?_
  refine does_opk (v := .bool true) (by kernel_rfl) (by simp only [Ev.put, List.set_cons_succ, List.set_cons_zero]; rfl) ?_
  refine does_opk (v := .bool false) (by kernel_rfl) (by simp only [Ev.put, List.set_cons_succ, List.set_cons_zero]; rfl) ?_
  refine does_opk (v := .bool false) (by kernel_rfl) (by simp only [Ev.put, List.set_cons_succ, List.set_cons_zero]; rfl) ?_
  refine does_opk (v := undef) (by kernel_rfl) (by simp only [Ev.put, List.set_cons_succ, List.set_cons_zero]; rfl) ?_
  refine does_opk (v := undef) (by kernel_rfl) (by simp only [Ev.put, List.set_cons_succ, List.set_cons_zero]; rfl) ?_
  refine does_opk (v := .bool false) (by kernel_rfl) (by simp only [Ev.put, List.set_cons_succ, List.set_cons_zero]; rfl) ?_
  refine does_opk (v := .bool false) (by kernel_rfl) (by simp only [Ev.put, List.set_cons_succ, List.set_cons_zero]; rfl) ?_
  refine does_opk (v := .bool false) (by kernel_rfl) (by simp only [Ev.put, List.set_cons_succ, List.set_cons_zero]; rfl) ?_
  refine does_opk (v := anS e dn v) (by kernel_rfl) (by simp only [Ev.put, List.set_cons_succ, List.set_cons_zero]; rfl) ?_
  refine does_opk (v := anS e dn v) (by kernel_rfl) (by simp only [Ev.put, List.set_cons_succ, List.set_cons_zero]; rfl) ?_
  refine does_opb (b := false) rfl (by first | exact bytes_ne _ | simp) (by simp only [Ev.put, List.set_cons_succ, List.set_cons_zero]; rfl) ?_
  refine does_opk (v := .bool false) (by kernel_rfl) (by simp only [Ev.put, List.set_cons_succ, List.set_cons_zero]; rfl) ?_
  refine does_nilS ?_
  repeat (with_reducible refine does_seq ?_)
  refine does_cond (b := false) rfl (fun h => absurd h (by simp)) (fun _ => ?_)
  refine does_skipS ?_
  repeat (with_reducible refine does_seq ?_)
  with_reducible refine does_region ?_
  refine does_opk (v := .string ⟨#[c0, c1, c2, c3, c4, c5, c6, c7, c8, c9, c10, c11, c12, c13, c14, c15, c16, c17]⟩) (by kernel_rfl) (by simp only [Ev.put, List.set_cons_succ, List.set_cons_zero]; rfl) ?_
  refine does_opc rfl (c17_yes c0 c1 c2 c3 c4 c5 c6 c7 c8 c9 c10 c11 c12 c13 c14 c15 c16 c17 _) (by simp only [Ev.put, List.set_cons_succ, List.set_cons_zero]; rfl) ?_
  refine does_opk (v := .tuple ⟨[opV c0.toNat (get64 [c1, c2, c3, c4, c5, c6, c7, c8]) (get64 [c9, c10, c11, c12, c13, c14, c15, c16]) c17.toNat, .int .i64 0]⟩) (by kernel_rfl) (by simp only [Ev.put, List.set_cons_succ, List.set_cons_zero]; rfl) ?_
  refine does_opk (v := opV c0.toNat (get64 [c1, c2, c3, c4, c5, c6, c7, c8]) (get64 [c9, c10, c11, c12, c13, c14, c15, c16]) c17.toNat) (by kernel_rfl) (by simp only [Ev.put, List.set_cons_succ, List.set_cons_zero]; rfl) ?_
  refine does_opk (v := .int .i64 0) (by kernel_rfl) (by simp only [Ev.put, List.set_cons_succ, List.set_cons_zero]; rfl) ?_
  refine does_opn (v := nptr 2 0) (H1 := ⟨3, (.node (.node .nil (some (.cells [.int .i64 e, .bool dn, .int .u64 v] 27 false)) .nil) (some (.cells [.int .i64 k, .int .u64 key, .int .u64 val, .int .i64 l] 24 false)) (.node .nil (some (.cells [.int .i64 0, .int .u64 0, .int .u64 0, .int .i64 0] 24 false)) .nil))⟩) (by kernel_rfl) (by simp only [Ev.put, List.set_cons_succ, List.set_cons_zero]; rfl) ?_
  refine does_opn (v := undef) (H1 := ⟨3, (.node (.node .nil (some (.cells [.int .i64 e, .bool dn, .int .u64 v] 27 false)) .nil) (some (.cells [.int .i64 k, .int .u64 key, .int .u64 val, .int .i64 l] 24 false)) (.node .nil (some (.cells [.int .i64 c0.toNat, .int .u64 (get64 [c1, c2, c3, c4, c5, c6, c7, c8]), .int .u64 (get64 [c9, c10, c11, c12, c13, c14, c15, c16]), .int .i64 c17.toNat] 24 false)) .nil))⟩) (by kernel_rfl) (by simp only [Ev.put, List.set_cons_succ, List.set_cons_zero]; rfl) ?_
  refine does_opk (v := .int .i64 0) (by kernel_rfl) (by simp only [Ev.put, List.set_cons_succ, List.set_cons_zero]; rfl) ?_
  refine does_nilS ?_
  repeat (with_reducible refine does_seq ?_)
  with_reducible refine does_region ?_
  refine does_opk (v := .string ⟨#[c0, c1, c2, c3, c4, c5, c6, c7, c8, c9, c10, c11, c12, c13, c14, c15, c16, c17]⟩) (by kernel_rfl) (by simp only [Ev.put, List.set_cons_succ, List.set_cons_zero]; rfl) ?_
  refine does_opk (v := .int .i64 18) (by kernel_rfl) (by simp only [Ev.put, List.set_cons_succ, List.set_cons_zero]; rfl) ?_
  refine does_opk (v := .bool false) (by kernel_rfl) (by simp only [Ev.put, List.set_cons_succ, List.set_cons_zero]; rfl) ?_
  refine does_nilS ?_
  repeat (with_reducible refine does_seq ?_)
  refine does_cond (b := false) rfl (fun h => absurd h (by simp)) (fun _ => ?_)
  repeat (with_reducible refine does_seq ?_)
  with_reducible refine does_region ?_
  refine does_opk (v := opV c0.toNat (get64 [c1, c2, c3, c4, c5, c6, c7, c8]) (get64 [c9, c10, c11, c12, c13, c14, c15, c16]) c17.toNat) (by kernel_rfl) (by simp only [Ev.put, List.set_cons_succ, List.set_cons_zero]; rfl) ?_
  refine does_opc rfl (c20_back c0 c1 c2 c3 c4 c5 c6 c7 c8 c9 c10 c11 c12 c13 c14 c15 c16 c17 _) (by simp only [Ev.put, List.set_cons_succ, List.set_cons_zero]; rfl) ?_
  refine does_opk (v := .tuple ⟨[.string ⟨#[c0, c1, c2, c3, c4, c5, c6, c7, c8, c9, c10, c11, c12, c13, c14, c15, c16, c17]⟩, .bool true]⟩) (by kernel_rfl) (by simp only [Ev.put, List.set_cons_succ, List.set_cons_zero]; rfl) ?_
  refine does_opk (v := .string ⟨#[c0, c1, c2, c3, c4, c5, c6, c7, c8, c9, c10, c11, c12, c13, c14, c15, c16, c17]⟩) (by kernel_rfl) (by simp only [Ev.put, List.set_cons_succ, List.set_cons_zero]; rfl) ?_
  refine does_opk (v := .bool true) (by kernel_rfl) (by simp only [Ev.put, List.set_cons_succ, List.set_cons_zero]; rfl) ?_
  refine does_opk (v := .string ⟨#[c0, c1, c2, c3, c4, c5, c6, c7, c8, c9, c10, c11, c12, c13, c14, c15, c16, c17]⟩) (by kernel_rfl) (by simp only [Ev.put, List.set_cons_succ, List.set_cons_zero]; rfl) ?_
  refine does_opk (v := .bool true) (by kernel_rfl) (by simp only [Ev.put, List.set_cons_succ, List.set_cons_zero]; rfl) ?_
  refine does_nilS ?_
  repeat (with_reducible refine does_seq ?_)
  with_reducible refine does_region ?_
  refine does_opk (v := .int .i64 0) (by kernel_rfl) (by simp only [Ev.put, List.set_cons_succ, List.set_cons_zero]; rfl) ?_
  refine does_opk (v := .bool false) (by kernel_rfl) (by simp only [Ev.put, List.set_cons_succ, List.set_cons_zero]; rfl) ?_
  refine does_opk (v := .bool false) (by kernel_rfl) (by simp only [Ev.put, List.set_cons_succ, List.set_cons_zero]; rfl) ?_
  refine does_opk (v := .string ⟨#[c0, c1, c2, c3, c4, c5, c6, c7, c8, c9, c10, c11, c12, c13, c14, c15, c16, c17]⟩) (by kernel_rfl) (by simp only [Ev.put, List.set_cons_succ, List.set_cons_zero]; rfl) ?_
  refine does_opk (v := .string ⟨#[c0, c1, c2, c3, c4, c5, c6, c7, c8, c9, c10, c11, c12, c13, c14, c15, c16, c17]⟩) (by kernel_rfl) (by simp only [Ev.put, List.set_cons_succ, List.set_cons_zero]; rfl) ?_
  refine does_opb (b := false) rfl (by first | exact bytes_ne _ | simp) (by simp only [Ev.put, List.set_cons_succ, List.set_cons_zero]; rfl) ?_
  refine does_opk (v := .bool false) (by kernel_rfl) (by simp only [Ev.put, List.set_cons_succ, List.set_cons_zero]; rfl) ?_
  refine does_nilS ?_
  repeat (with_reducible refine does_seq ?_)
  refine does_cond (b := false) rfl (fun h => absurd h (by simp)) (fun _ => ?_)
  refine does_skipS ?_
  repeat (with_reducible refine does_seq ?_)
  with_reducible refine does_region ?_
  refine does_opk (v := .string ⟨#[c0, c1, c2, c3, c4, c5, c6, c7, c8, c9, c10, c11, c12, c13, c14, c15, c16, c17]⟩) (by kernel_rfl) (by simp only [Ev.put, List.set_cons_succ, List.set_cons_zero]; rfl) ?_
  refine does_opc rfl (c19_no (by show ¬ ((18 : Nat) = 10); omega) _) (by simp only [Ev.put, List.set_cons_succ, List.set_cons_zero]; rfl) ?_
  refine does_opk (v := .tuple ⟨[anV 0 false 0, .int .i64 4]⟩) (by kernel_rfl) (by simp only [Ev.put, List.set_cons_succ, List.set_cons_zero]; rfl) ?_
  refine does_opk (v := anV 0 false 0) (by kernel_rfl) (by simp only [Ev.put, List.set_cons_succ, List.set_cons_zero]; rfl) ?_
  refine does_opk (v := .int .i64 4) (by kernel_rfl) (by simp only [Ev.put, List.set_cons_succ, List.set_cons_zero]; rfl) ?_
  refine does_opn (v := nptr 3 0) (H1 := ⟨4, (.node (.node (.node .nil (some (.cells [.int .i64 0, .bool false, .int .u64 0] 27 false)) .nil) (some (.cells [.int .i64 e, .bool dn, .int .u64 v] 27 false)) .nil) (some (.cells [.int .i64 k, .int .u64 key, .int .u64 val, .int .i64 l] 24 false)) (.node .nil (some (.cells [.int .i64 c0.toNat, .int .u64 (get64 [c1, c2, c3, c4, c5, c6, c7, c8]), .int .u64 (get64 [c9, c10, c11, c12, c13, c14, c15, c16]), .int .i64 c17.toNat] 24 false)) .nil))⟩) (by kernel_rfl) (by simp only [Ev.put, List.set_cons_succ, List.set_cons_zero]; rfl) ?_
  refine does_opn (v := undef) (H1 := ⟨4, (.node (.node (.node .nil (some (.cells [.int .i64 0, .bool false, .int .u64 0] 27 false)) .nil) (some (.cells [.int .i64 e, .bool dn, .int .u64 v] 27 false)) .nil) (some (.cells [.int .i64 k, .int .u64 key, .int .u64 val, .int .i64 l] 24 false)) (.node .nil (some (.cells [.int .i64 c0.toNat, .int .u64 (get64 [c1, c2, c3, c4, c5, c6, c7, c8]), .int .u64 (get64 [c9, c10, c11, c12, c13, c14, c15, c16]), .int .i64 c17.toNat] 24 false)) .nil))⟩) (by kernel_rfl) (by simp only [Ev.put, List.set_cons_succ, List.set_cons_zero]; rfl) ?_
  refine does_opk (v := .int .i64 4) (by kernel_rfl) (by simp only [Ev.put, List.set_cons_succ, List.set_cons_zero]; rfl) ?_
  refine does_nilS ?_
  repeat (with_reducible refine does_seq ?_)
  with_reducible refine does_region ?_
  refine does_opk (v := .string ⟨#[c0, c1, c2, c3, c4, c5, c6, c7, c8, c9, c10, c11, c12, c13, c14, c15, c16, c17]⟩) (by kernel_rfl) (by simp only [Ev.put, List.set_cons_succ, List.set_cons_zero]; rfl) ?_
  refine does_opk (v := .int .i64 18) (by kernel_rfl) (by simp only [Ev.put, List.set_cons_succ, List.set_cons_zero]; rfl) ?_
  refine does_opk (v := .bool true) (by kernel_rfl) (by simp only [Ev.put, List.set_cons_succ, List.set_cons_zero]; rfl) ?_
  refine does_opk (v := .bool true) (by kernel_rfl) (by simp only [Ev.put, List.set_cons_succ, List.set_cons_zero]; rfl) ?_
  refine does_opk (v := undef) (by kernel_rfl) (by simp only [Ev.put, List.set_cons_succ, List.set_cons_zero]; rfl) ?_
  refine does_opk (v := undef) (by kernel_rfl) (by simp only [Ev.put, List.set_cons_succ, List.set_cons_zero]; rfl) ?_
  refine does_opk (v := undef) (by kernel_rfl) (by simp only [Ev.put, List.set_cons_succ, List.set_cons_zero]; rfl) ?_
  refine does_opk (v := .bool true) (by kernel_rfl) (by simp only [Ev.put, List.set_cons_succ, List.set_cons_zero]; rfl) ?_
  refine does_nilS ?_
  repeat (with_reducible refine does_seq ?_)
  refine does_cond (b := true) rfl (fun _ => ?_) (fun h => absurd h (by simp))
  repeat (with_reducible refine does_seq ?_)
  with_reducible refine does_region ?_
  refine does_opk (v := .int .i64 4) (by kernel_rfl) (by simp only [Ev.put, List.set_cons_succ, List.set_cons_zero]; rfl) ?_
  refine does_opk (v := .bool false) (by kernel_rfl) (by simp only [Ev.put, List.set_cons_succ, List.set_cons_zero]; rfl) ?_
  refine does_opk (v := .bool false) (by kernel_rfl) (by simp only [Ev.put, List.set_cons_succ, List.set_cons_zero]; rfl) ?_
  refine does_opk (v := anV 0 false 0) (by kernel_rfl) (by simp only [Ev.put, List.set_cons_succ, List.set_cons_zero]; rfl) ?_
  refine does_opk (v := anV 0 false 0) (by kernel_rfl) (by simp only [Ev.put, List.set_cons_succ, List.set_cons_zero]; rfl) ?_
  refine does_opk (v := .bool false) (by kernel_rfl) (by simp only [Ev.put, List.set_cons_succ, List.set_cons_zero]; rfl) ?_
  refine does_opk (v := .bool false) (by kernel_rfl) (by simp only [Ev.put, List.set_cons_succ, List.set_cons_zero]; rfl) ?_
  refine does_nilS ?_
  repeat (with_reducible refine does_seq ?_)
  refine does_cond (b := false) rfl (fun h => absurd h (by simp)) (fun _ => ?_)
  refine does_skipS ?_
  exact rest4 (by kernel_rfl)

theorem w4_18_10 (k key val l e v : Int) (dn : Bool) (c0 c1 c2 c3 c4 c5 c6 c7 c8 c9 c10 c11 c12 c13 c14 c15 c16 c17 : UInt8)  (hk : Byt k) (hl : Byt l) (hkey : Rng key) (hval : Rng val) (hne : ¬ Byt e) :
    Does (runw ctx2 4 [opV k key val l, anV e dn v, .string ⟨#[c0, c1, c2, c3, c4, c5, c6, c7, c8, c9, c10, c11, c12, c13, c14, c15, c16, c17]⟩] hp0) fun r => r.1 = .bool true := by
  refine does_run (fi := g4) rfl rfl rfl rfl ?_
  have e0 : mkEnv g4.fn.ntmps [opV k key val l, anV e dn v, .string ⟨#[c0, c1, c2, c3, c4, c5, c6, c7, c8, c9, c10, c11, c12, c13, c14, c15, c16, c17]⟩] = some (opV k key val l) :: some (anV e dn v) :: some (.string ⟨#[c0, c1, c2, c3, c4, c5, c6, c7, c8, c9, c10, c11, c12, c13, c14, c15, c16, c17]⟩) :: [some undef, some undef, some undef, some undef, some undef, some undef, some undef, some undef, some undef, some undef, some undef, some undef, some undef, some undef, some undef, some undef, some undef, some undef, some undef, some undef, some undef, some undef, some undef, some undef, some undef, some undef, some undef, some undef, some undef, some undef, some undef, some undef, some undef, some undef, some undef, some undef, some undef, some undef, some undef, some undef, some undef, some undef, some undef, some undef, some undef, some undef, some undef, some undef, some undef, some undef, some undef, some undef, some undef, some undef, some undef, some undef, some undef, some undef, some undef, some undef, some undef, some undef, some undef, some undef, some undef, some undef, some undef, some undef, some undef, some undef, some undef, some undef, some undef, some undef, some undef, some undef, some undef, some undef, some undef, some undef, some undef, some undef, some undef, some undef, some undef, some undef, some undef, some undef, some undef, some undef, some undef, some undef, some undef, some undef, some undef, some undef, some undef, some undef, some undef, some undef, some undef, some undef, some undef, some undef, some undef, some undef, some undef, some undef, some undef, some undef, some undef, some undef, some undef, some undef, some undef, some undef, some undef, some undef, some undef, some undef, some undef, some undef, some undef, some undef, some undef, some undef, some undef, some undef, some undef, some undef, some undef, some undef, some undef, some undef, some undef, some undef, some undef, some undef, some undef, some undef, some undef, some undef, some undef, some undef, some undef, some undef, some undef, some undef, some undef, some undef, some undef, some undef, some undef, some undef, some undef, some undef, some undef, some undef, some undef, some undef, some undef, some undef, some undef, some undef, some undef, some undef, some undef, some undef, some undef, some undef, some undef, some undef, some undef, some undef] := by kernel_rfl
  rw [e0]
  repeat (with_reducible refine does_seq ?_)
  with_reducible refine does_region ?_
  refine does_opn (v := nptr 0 0) (H1 := ⟨1, (.node .nil (some (.cells [.int .i64 k, .int .u64 key, .int .u64 val, .int .i64 l] 24 false)) .nil)⟩) (by kernel_rfl) (by simp only [Ev.put, List.set_cons_succ, List.set_cons_zero]; rfl) ?_
  refine does_opn (v := nptr 1 0) (H1 := ⟨2, (.node (.node .nil (some (.cells [.int .i64 e, .bool dn, .int .u64 v] 27 false)) .nil) (some (.cells [.int .i64 k, .int .u64 key, .int .u64 val, .int .i64 l] 24 false)) .nil)⟩) (by kernel_rfl) (by simp only [Ev.put, List.set_cons_succ, List.set_cons_zero]; rfl) ?_
  refine does_opn rfl (by simp only [Ev.put, List.set_cons_succ, List.set_cons_zero]; rfl) ?_
  refine does_nilS ?_
  repeat (with_reducible refine does_seq ?_)
  with_reducible refine does_region ?_
  refine does_opc rfl (awk2 _) (by simp only [Ev.put, List.set_cons_succ, List.set_cons_zero]; rfl) ?_
  refine does_opn rfl (by simp only [Ev.put, List.set_cons_succ, List.set_cons_zero]; rfl) ?_
  refine does_nilS ?_
  repeat (with_reducible refine does_seq ?_)
  refine does_cond (b := false) rfl (fun h => absurd h (by simp)) (fun _ => ?_)
  refine does_skipS ?_
  repeat (with_reducible refine does_seq ?_)
  with_reducible refine does_region ?_
  iterate 2 (refine does_opn rfl (by simp only [Ev.put, List.set_cons_succ, List.set_cons_zero]; rfl) ?_)
  refine does_opb (b := false) rfl (by kernel_rfl) (by simp only [Ev.put, List.set_cons_succ, List.set_cons_zero]; rfl) ?_
  refine does_nilS ?_
  repeat (with_reducible refine does_seq ?_)
  refine does_cond (b := false) rfl (fun h => absurd h (by simp)) (fun _ => ?_)
  refine does_skipS ?_
  repeat (with_reducible refine does_seq ?_)
  with_reducible refine does_region ?_
  refine does_opk (v := opV k key val l) (by kernel_rfl) (by simp only [Ev.put, List.set_cons_succ, List.set_cons_zero]; rfl) ?_
  refine does_opc rfl (c16_yes key val hk hl _) (by simp only [Ev.put, List.set_cons_succ, List.set_cons_zero]; rfl) ?_
  refine does_opk (v := .tuple ⟨[opS k key val l, .int .i64 0]⟩) (by kernel_rfl) (by simp only [Ev.put, List.set_cons_succ, List.set_cons_zero]; rfl) ?_
  refine does_opk (v := opS k key val l) (by kernel_rfl) (by simp only [Ev.put, List.set_cons_succ, List.set_cons_zero]; rfl) ?_
  refine does_opk (v := .int .i64 0) (by kernel_rfl) (by simp only [Ev.put, List.set_cons_succ, List.set_cons_zero]; rfl) ?_
  refine does_opk (v := opS k key val l) (by kernel_rfl) (by simp only [Ev.put, List.set_cons_succ, List.set_cons_zero]; rfl) ?_
  refine does_opk (v := .int .i64 0) (by kernel_rfl) (by simp only [Ev.put, List.set_cons_succ, List.set_cons_zero]; rfl) ?_
  refine does_nilS ?_
  repeat (with_reducible refine does_seq ?_)
  with_reducible refine does_region ?_
  refine does_opk (v := opV k key val l) (by kernel_rfl) (by simp only [Ev.put, List.set_cons_succ, List.set_cons_zero]; rfl) ?_
  refine does_opc rfl (c20_yes hk hl hkey hval _) (by simp only [Ev.put, List.set_cons_succ, List.set_cons_zero]; rfl) ?_
  refine does_opk (v := .tuple ⟨[opS k key val l, .bool true]⟩) (by kernel_rfl) (by simp only [Ev.put, List.set_cons_succ, List.set_cons_zero]; rfl) ?_
  refine does_opk (v := opS k key val l) (by kernel_rfl) (by simp only [Ev.put, List.set_cons_succ, List.set_cons_zero]; rfl) ?_
  refine does_opk (v := .bool true) (by kernel_rfl) (by simp only [Ev.put, List.set_cons_succ, List.set_cons_zero]; rfl) ?_
  refine does_opk (v := opS k key val l) (by kernel_rfl) (by simp only [Ev.put, List.set_cons_succ, List.set_cons_zero]; rfl) ?_
  refine does_opk (v := .bool true) (by kernel_rfl) (by simp only [Ev.put, List.set_cons_succ, List.set_cons_zero]; rfl) ?_
  refine does_nilS ?_
  repeat (with_reducible refine does_seq ?_)
  with_reducible refine does_region ?_
  refine does_opk (v := .bool true) (by kernel_rfl) (by simp only [Ev.put, List.set_cons_succ, List.set_cons_zero]; rfl) ?_
  refine does_opk (v := .int .i64 0) (by kernel_rfl) (by simp only [Ev.put, List.set_cons_succ, List.set_cons_zero]; rfl) ?_
  refine does_opk (v := .bool true) (by kernel_rfl) (by simp only [Ev.put, List.set_cons_succ, List.set_cons_zero]; rfl) ?_
  refine does_opk (v := .bool false) (by kernel_rfl) (by simp only [Ev.put, List.set_cons_succ, List.set_cons_zero]; rfl) ?_
  refine does_opk (v := .bool false) (by kernel_rfl) (by simp only [Ev.put, List.set_cons_succ, List.set_cons_zero]; rfl) ?_
  refine does_opk (v := .bool true) (by kernel_rfl) (by simp only [Ev.put, List.set_cons_succ, List.set_cons_zero]; rfl) ?_
  refine does_opk (v := .bool false) (by kernel_rfl) (by simp only [Ev.put, List.set_cons_succ, List.set_cons_zero]; rfl) ?_
  refine does_opk (v := .bool false) (by kernel_rfl) (by simp only [Ev.put, List.set_cons_succ, List.set_cons_zero]; rfl) ?_
  refine does_opk (v := undef) (by kernel_rfl) (by simp only [Ev.put, List.set_cons_succ, List.set_cons_zero]; rfl) ?_
  refine does_opk (v := undef) (by kernel_rfl) (by simp only [Ev.put, List.set_cons_succ, List.set_cons_zero]; rfl) ?_
  refine does_opk (v := .bool false) (by kernel_rfl) (by simp only [Ev.put, List.set_cons_succ, List.set_cons_zero]; rfl) ?_
  refine does_opk (v := .bool false) (by kernel_rfl) (by simp only [Ev.put, List.set_cons_succ, List.set_cons_zero]; rfl) ?_
  refine does_opk (v := .bool false) (by kernel_rfl) (by simp only [Ev.put, List.set_cons_succ, List.set_cons_zero]; rfl) ?_
  refine does_opk (v := opS k key val l) (by kernel_rfl) (by simp only [Ev.put, List.set_cons_succ, List.set_cons_zero]; rfl) ?_
  refine does_opk (v := opS k key val l) (by kernel_rfl) (by simp only [Ev.put, List.set_cons_succ, List.set_cons_zero]; rfl) ?_
  refine does_opb (b := false) rfl (by first | exact bytes_ne _ | simp) (by simp only [Ev.put, List.set_cons_succ, List.set_cons_zero]; rfl) ?_
  refine does_opk (v := .bool false) (by kernel_rfl) (by simp only [Ev.put, List.set_cons_succ, List.set_cons_zero]; rfl) ?_
  refine does_nilS ?_
  repeat (with_reducible refine does_seq ?_)
  refine does_cond (b := false) rfl (fun h => absurd h (by simp)) (fun _ => ?_)
  refine does_skipS ?_
  repeat (with_reducible refine does_seq ?_)
  with_reducible refine does_region ?_
  refine does_opk (v := anV e dn v) (by kernel_rfl) (by simp only [Ev.put, List.set_cons_succ, List.set_cons_zero]; rfl) ?_
  refine does_opc rfl (c18_no dn v hne _) (by simp only [Ev.put, List.set_cons_succ, List.set_cons_zero]; rfl) ?_
  refine does_opk (v := .tuple ⟨[noS, .int .i64 3]⟩) (by kernel_rfl) (by simp only [Ev.put, List.set_cons_succ, List.set_cons_zero]; rfl) ?_
  refine does_opk (v := noS) (by kernel_rfl) (by simp only [Ev.put, List.set_cons_succ, List.set_cons_zero]; rfl) ?_
  refine does_opk (v := .int .i64 3) (by kernel_rfl) (by simp only [Ev.put, List.set_cons_succ, List.set_cons_zero]; rfl) ?_
  refine does_opk (v := noS) (by kernel_rfl) (by simp only [Ev.put, List.set_cons_succ, List.set_cons_zero]; rfl) ?_
  refine does_opk (v := .int .i64 3) (by kernel_rfl) (by simp only [Ev.put, List.set_cons_succ, List.set_cons_zero]; rfl) ?_
  refine does_nilS ?_
  repeat (with_reducible refine does_seq ?_)
  with_reducible refine does_region ?_
  refine does_opk (v := anV e dn v) (by kernel_rfl) (by simp only [Ev.put, List.set_cons_succ, List.set_cons_zero]; rfl) ?_
  refine does_opc rfl (c21_no dn v hne _) (by simp only [Ev.put, List.set_cons_succ, List.set_cons_zero]; rfl) ?_
  refine does_opk (v := .tuple ⟨[noS, .bool false]⟩) (by kernel_rfl) (by simp only [Ev.put, List.set_cons_succ, List.set_cons_zero]; rfl) ?_
  refine does_opk (v := noS) (by kernel_rfl) (by simp only [Ev.put, List.set_cons_succ, List.set_cons_zero]; rfl) ?_
  refine does_opk (v := .bool false) (by kernel_rfl) (by simp only [Ev.put, List.set_cons_succ, List.set_cons_zero]; rfl) ?_
  refine does_opk (v := noS) (by kernel_rfl) (by simp only [Ev.put, List.set_cons_succ, List.set_cons_zero]; rfl) ?_
  refine does_opk (v := .bool false) (by kernel_rfl) (by simp only [Ev.put, List.set_cons_succ, List.set_cons_zero]; rfl) ?_
  refine does_nilS ?_
  repeat (with_reducible refine does_seq ?_)
  with_reducible refine does_region ?_
  refine does_opk (v := .bool false) (by kernel_rfl) (by simp only [Ev.put, List.set_cons_succ, List.set_cons_zero]; rfl) ?_
  refine does_opk (v := .int .i64 3) (by kernel_rfl) (by simp only [Ev.put, List.set_cons_succ, List.set_cons_zero]; rfl) ?_
  refine does_opk (v := .bool false) (by kernel_rfl) (by simp only [Ev.put, List.set_cons_succ, List.set_cons_zero]; rfl) ?_
  refine does_opk (v := .bool false) (by kernel_rfl) (by simp only [Ev.put, List.set_cons_succ, List.set_cons_zero]; rfl) ?_
  refine does_opk (v := .bool false) (by kernel_rfl) (by simp only [Ev.put, List.set_cons_succ, List.set_cons_zero]; rfl) ?_
  refine does_opk (v := .bool false) (by kernel_rfl) (by simp only [Ev.put, List.set_cons_succ, List.set_cons_zero]; rfl) ?_
  refine does_opk (v := .bool true) (by kernel_rfl) (by simp only [Ev.put, List.set_cons_succ, List.set_cons_zero]; rfl) ?_
  refine does_opk (v := .bool true) (by kernel_rfl) (by simp only [Ev.put, List.set_cons_succ, List.set_cons_zero]; rfl) ?_
  refine does_opk (v := .int .i64 3) (by kernel_rfl) (by simp only [Ev.put, List.set_cons_succ, List.set_cons_zero]; rfl) ?_
  refine does_opk (v := .bool false) (by kernel_rfl) (by simp only [Ev.put, List.set_cons_succ, List.set_cons_zero]; rfl) ?_
  refine does_opk (v := .bool false) (by kernel_rfl) (by simp only [Ev.put, List.set_cons_succ, List.set_cons_zero]; rfl) ?_
  refine does_opk (v := .bool false) (by kernel_rfl) (by simp only [Ev.put, List.set_cons_succ, List.set_cons_zero]; rfl) ?_
  refine does_opk (v := .bool false) (by kernel_rfl) (by simp only [Ev.put, List.set_cons_succ, List.set_cons_zero]; rfl) ?_
  refine does_opk (v := noS) (by kernel_rfl) (by simp only [Ev.put, List.set_cons_succ, List.set_cons_zero]; rfl) ?_
  refine does_opk (v := noS) (by kernel_rfl) (by simp only [Ev.put, List.set_cons_succ, List.set_cons_zero]; rfl) ?_
  refine does_opb (b := false) rfl (by first | exact bytes_ne _ | simp) (by simp only [Ev.put, List.set_cons_succ, List.set_cons_zero]; rfl) ?_
  refine does_opk (v := .bool false) (by kernel_rfl) (by simp only [Ev.put, List.set_cons_succ, List.set_cons_zero]; rfl) ?_
  refine does_nilS ?_
  repeat (with_reducible refine does_seq ?_)
  refine does_cond (b := false) rfl (fun h => absurd h (by simp)) (fun _ => ?_)
  refine does_skipS ?_
  repeat (with_reducible refine does_seq ?_)
  with_reducible refine does_region ?_
  refine does_opk (v := .string ⟨#[c0, c1, c2, c3, c4, c5, c6, c7, c8, c9, c10, c11, c12, c13, c14, c15, c16, c17]⟩) (by kernel_rfl) (by simp only [Ev.put, List.set_cons_succ, List.set_cons_zero]; rfl) ?_
  refine does_opc rfl (c17_yes c0 c1 c2 c3 c4 c5 c6 c7 c8 c9 c10 c11 c12 c13 c14 c15 c16 c17 _) (by simp only [Ev.put, List.set_cons_succ, List.set_cons_zero]; rfl) ?_
  refine does_opk (v := .tuple ⟨[opV c0.toNat (get64 [c1, c2, c3, c4, c5, c6, c7, c8]) (get64 [c9, c10, c11, c12, c13, c14, c15, c16]) c17.toNat, .int .i64 0]⟩) (by kernel_rfl) (by simp only [Ev.put, List.set_cons_succ, List.set_cons_zero]; rfl) ?_
  refine does_opk (v := opV c0.toNat (get64 [c1, c2, c3, c4, c5, c6, c7, c8]) (get64 [c9, c10, c11, c12, c13, c14, c15, c16]) c17.toNat) (by kernel_rfl) (by simp only [Ev.put, List.set_cons_succ, List.set_cons_zero]; rfl) ?_
  refine does_opk (v := .int .i64 0) (by kernel_rfl) (by simp only [Ev.put, List.set_cons_succ, List.set_cons_zero]; rfl) ?_
  refine does_opn (v := nptr 2 0) (H1 := ⟨3, (.node (.node .nil (some (.cells [.int .i64 e, .bool dn, .int .u64 v] 27 false)) .nil) (some (.cells [.int .i64 k, .int .u64 key, .int .u64 val, .int .i64 l] 24 false)) (.node .nil (some (.cells [.int .i64 0, .int .u64 0, .int .u64 0, .int .i64 0] 24 false)) .nil))⟩) (by kernel_rfl) (by simp only [Ev.put, List.set_cons_succ, List.set_cons_zero]; rfl) ?_
  refine does_opn (v := undef) (H1 := ⟨3, (.node (.node .nil (some (.cells [.int .i64 e, .bool dn, .int .u64 v] 27 false)) .nil) (some (.cells [.int .i64 k, .int .u64 key, .int .u64 val, .int .i64 l] 24 false)) (.node .nil (some (.cells [.int .i64 c0.toNat, .int .u64 (get64 [c1, c2, c3, c4, c5, c6, c7, c8]), .int .u64 (get64 [c9, c10, c11, c12, c13, c14, c15, c16]), .int .i64 c17.toNat] 24 false)) .nil))⟩) (by kernel_rfl) (by simp only [Ev.put, List.set_cons_succ, List.set_cons_zero]; rfl) ?_
  refine does_opk (v := .int .i64 0) (by kernel_rfl) (by simp only [Ev.put, List.set_cons_succ, List.set_cons_zero]; rfl) ?_
  refine does_nilS ?_
  repeat (with_reducible refine does_seq ?_)
  with_reducible refine does_region ?_
  refine does_opk (v := .string ⟨#[c0, c1, c2, c3, c4, c5, c6, c7, c8, c9, c10, c11, c12, c13, c14, c15, c16, c17]⟩) (by kernel_rfl) (by simp only [Ev.put, List.set_cons_succ, List.set_cons_zero]; rfl) ?_
  refine does_opk (v := .int .i64 18) (by kernel_rfl) (by simp only [Ev.put, List.set_cons_succ, List.set_cons_zero]; rfl) ?_
  refine does_opk (v := .bool false) (by kernel_rfl) (by simp only [Ev.put, List.set_cons_succ, List.set_cons_zero]; rfl) ?_
  refine does_nilS ?_
  repeat (with_reducible refine does_seq ?_)
  refine does_cond (b := false) rfl (fun h => absurd h (by simp)) (fun _ => ?_)
  repeat (with_reducible refine does_seq ?_)
  with_reducible refine does_region ?_
  refine does_opk (v := opV c0.toNat (get64 [c1, c2, c3, c4, c5, c6, c7, c8]) (get64 [c9, c10, c11, c12, c13, c14, c15, c16]) c17.toNat) (by kernel_rfl) (by simp only [Ev.put, List.set_cons_succ, List.set_cons_zero]; rfl) ?_
  refine does_opc rfl (c20_back c0 c1 c2 c3 c4 c5 c6 c7 c8 c9 c10 c11 c12 c13 c14 c15 c16 c17 _) (by simp only [Ev.put, List.set_cons_succ, List.set_cons_zero]; rfl) ?_
  refine does_opk (v := .tuple ⟨[.string ⟨#[c0, c1, c2, c3, c4, c5, c6, c7, c8, c9, c10, c11, c12, c13, c14, c15, c16, c17]⟩, .bool true]⟩) (by kernel_rfl) (by simp only [Ev.put, List.set_cons_succ, List.set_cons_zero]; rfl) ?_
  refine does_opk (v := .string ⟨#[c0, c1, c2, c3, c4, c5, c6, c7, c8, c9, c10, c11, c12, c13, c14, c15, c16, c17]⟩) (by kernel_rfl) (by simp only [Ev.put, List.set_cons_succ, List.set_cons_zero]; rfl) ?_
  refine does_opk (v := .bool true) (by kernel_rfl) (by simp only [Ev.put, List.set_cons_succ, List.set_cons_zero]; rfl) ?_
  refine does_opk (v := .string ⟨#[c0, c1, c2, c3, c4, c5, c6, c7, c8, c9, c10, c11, c12, c13, c14, c15, c16, c17]⟩) (by kernel_rfl) (by simp only [Ev.put, List.set_cons_succ, List.set_cons_zero]; rfl) ?_
  refine does_opk (v := .bool true) (by kernel_rfl) (by simp only [Ev.put, List.set_cons_succ, List.set_cons_zero]; rfl) ?_
  refine does_nilS ?_
  repeat (with_reducible refine does_seq ?_)
  with_reducible refine does_region ?_
  refine does_opk (v := .int .i64 0) (by kernel_rfl) (by simp only [Ev.put, List.set_cons_succ, List.set_cons_zero]; rfl) ?_
  refine does_opk (v := .bool false) (by kernel_rfl) (by simp only [Ev.put, List.set_cons_succ, List.set_cons_zero]; rfl) ?_
  refine does_opk (v := .bool false) (by kernel_rfl) (by simp only [Ev.put, List.set_cons_succ, List.set_cons_zero]; rfl) ?_
  refine does_opk (v := .string ⟨#[c0, c1, c2, c3, c4, c5, c6, c7, c8, c9, c10, c11, c12, c13, c14, c15, c16, c17]⟩) (by kernel_rfl) (by simp only [Ev.put, List.set_cons_succ, List.set_cons_zero]; rfl) ?_
  refine does_opk (v := .string ⟨#[c0, c1, c2, c3, c4, c5, c6, c7, c8, c9, c10, c11, c12, c13, c14, c15, c16, c17]⟩) (by kernel_rfl) (by simp only [Ev.put, List.set_cons_succ, List.set_cons_zero]; rfl) ?_
  refine does_opb (b := false) rfl (by first | exact bytes_ne _ | simp) (by simp only [Ev.put, List.set_cons_succ, List.set_cons_zero]; rfl) ?_
  refine does_opk (v := .bool false) (by kernel_rfl) (by simp only [Ev.put, List.set_cons_succ, List.set_cons_zero]; rfl) ?_
  refine does_nilS ?_
  repeat (with_reducible refine does_seq ?_)
  refine does_cond (b := false) rfl (fun h => absurd h (by simp)) (fun _ => ?_)
  refine does_skipS ?_
  repeat (with_reducible refine does_seq ?_)
  with_reducible refine does_region ?_
  refine does_opk (v := .string ⟨#[c0, c1, c2, c3, c4, c5, c6, c7, c8, c9, c10, c11, c12, c13, c14, c15, c16, c17]⟩) (by kernel_rfl) (by simp only [Ev.put, List.set_cons_succ, List.set_cons_zero]; rfl) ?_
  refine does_opc rfl (c19_no (by show ¬ ((18 : Nat) = 10); omega) _) (by simp only [Ev.put, List.set_cons_succ, List.set_cons_zero]; rfl) ?_
  refine does_opk (v := .tuple ⟨[anV 0 false 0, .int .i64 4]⟩) (by kernel_rfl) (by simp only [Ev.put, List.set_cons_succ, List.set_cons_zero]; rfl) ?_
  refine does_opk (v := anV 0 false 0) (by kernel_rfl) (by simp only [Ev.put, List.set_cons_succ, List.set_cons_zero]; rfl) ?_
  refine does_opk (v := .int .i64 4) (by kernel_rfl) (by simp only [Ev.put, List.set_cons_succ, List.set_cons_zero]; rfl) ?_
  refine does_opn (v := nptr 3 0) (H1 := ⟨4, (.node (.node (.node .nil (some (.cells [.int .i64 0, .bool false, .int .u64 0] 27 false)) .nil) (some (.cells [.int .i64 e, .bool dn, .int .u64 v] 27 false)) .nil) (some (.cells [.int .i64 k, .int .u64 key, .int .u64 val, .int .i64 l] 24 false)) (.node .nil (some (.cells [.int .i64 c0.toNat, .int .u64 (get64 [c1, c2, c3, c4, c5, c6, c7, c8]), .int .u64 (get64 [c9, c10, c11, c12, c13, c14, c15, c16]), .int .i64 c17.toNat] 24 false)) .nil))⟩) (by kernel_rfl) (by simp only [Ev.put, List.set_cons_succ, List.set_cons_zero]; rfl) ?_
  refine does_opn (v := undef) (H1 := ⟨4, (.node (.node (.node .nil (some (.cells [.int .i64 0, .bool false, .int .u64 0] 27 false)) .nil) (some (.cells [.int .i64 e, .bool dn, .int .u64 v] 27 false)) .nil) (some (.cells [.int .i64 k, .int .u64 key, .int .u64 val, .int .i64 l] 24 false)) (.node .nil (some (.cells [.int .i64 c0.toNat, .int .u64 (get64 [c1, c2, c3, c4, c5, c6, c7, c8]), .int .u64 (get64 [c9, c10, c11, c12, c13, c14, c15, c16]), .int .i64 c17.toNat] 24 false)) .nil))⟩) (by kernel_rfl) (by simp only [Ev.put, List.set_cons_succ, List.set_cons_zero]; rfl) ?_
  refine does_opk (v := .int .i64 4) (by kernel_rfl) (by simp only [Ev.put, List.set_cons_succ, List.set_cons_zero]; rfl) ?_
  refine does_nilS ?_
  repeat (with_reducible refine does_seq ?_)
  with_reducible refine does_region ?_
  refine does_opk (v := .string ⟨#[c0, c1, c2, c3, c4, c5, c6, c7, c8, c9, c10, c11, c12, c13, c14, c15, c16, c17]⟩) (by kernel_rfl) (by simp only [Ev.put, List.set_cons_succ, List.set_cons_zero]; rfl) ?_
  refine does_opk (v := .int .i64 18) (by kernel_rfl) (by simp only [Ev.put, List.set_cons_succ, List.set_cons_zero]; rfl) ?_
  refine does_opk (v := .bool true) (by kernel_rfl) (by simp only [Ev.put, List.set_cons_succ, List.set_cons_zero]; rfl) ?_
  refine does_opk (v := .bool true) (by kernel_rfl) (by simp only [Ev.put, List.set_cons_succ, List.set_cons_zero]; rfl) ?_
  refine does_opk (v := undef) (by kernel_rfl) (by simp only [Ev.put, List.set_cons_succ, List.set_cons_zero]; rfl) ?_
  refine does_opk (v := undef) (by kernel_rfl) (by simp only [Ev.put, List.set_cons_succ, List.set_cons_zero]; rfl) ?_
  refine does_opk (v := undef) (by kernel_rfl) (by simp only [Ev.put, List.set_cons_succ, List.set_cons_zero]; rfl) ?_
  refine does_opk (v := .bool true) (by kernel_rfl) (by simp only [Ev.put, List.set_cons_succ, List.set_cons_zero]; rfl) ?_
  refine does_nilS ?_
  repeat (with_reducible refine does_seq ?_)
  refine does_cond (b := true) rfl (fun _ => ?_) (fun h => absurd h (by simp))
  repeat (with_reducible refine does_seq ?_)
  with_reducible refine does_region ?_
  refine does_opk (v := .int .i64 4) (by kernel_rfl) (by simp only [Ev.put, List.set_cons_succ, List.set_cons_zero]; rfl) ?_
  refine does_opk (v := .bool false) (by kernel_rfl) (by simp only [Ev.put, List.set_cons_succ, List.set_cons_zero]; rfl) ?_
  refine does_opk (v := .bool false) (by kernel_rfl) (by simp only [Ev.put, List.set_cons_succ, List.set_cons_zero]; rfl) ?_
  refine does_opk (v := anV 0 false 0) (by kernel_rfl) (by simp only [Ev.put, List.set_cons_succ, List.set_cons_zero]; rfl) ?_
  refine does_opk (v := anV 0 false 0) (by kernel_rfl) (by simp only [Ev.put, List.set_cons_succ, List.set_cons_zero]; rfl) ?_
  refine does_opk (v := .bool false) (by kernel_rfl) (by simp only [Ev.put, List.set_cons_succ, List.set_cons_zero]; rfl) ?_
  refine does_opk (v := .bool false) (by kernel_rfl) (by simp only [Ev.put, List.set_cons_succ, List.set_cons_zero]; rfl) ?_
  refine does_nilS ?_
  repeat (with_reducible refine does_seq ?_)
  refine does_cond (b := false) rfl (fun h => absurd h (by simp)) (fun _ => ?_)
  refine does_skipS ?_
  exact rest4 (by kernel_rfl)

theorem w4_18_01 (k key val l e v : Int) (dn : Bool) (c0 c1 c2 c3 c4 c5 c6 c7 c8 c9 c10 c11 c12 c13 c14 c15 c16 c17 : UInt8)  (hno : ¬ (Byt k ∧ Byt l)) (he : Byt e) (hv : Rng v) :
    Does (runw ctx2 4 [opV k key val l, anV e dn v, .string ⟨#[c0, c1, c2, c3, c4, c5, c6, c7, c8, c9, c10, c11, c12, c13, c14, c15, c16, c17]⟩] hp0) fun r => r.1 = .bool true := by
  refine does_run (fi := g4) rfl rfl rfl rfl ?_
  have e0 : mkEnv g4.fn.ntmps [opV k key val l, anV e dn v, .string ⟨#[c0, c1, c2, c3, c4, c5, c6, c7, c8, c9, c10, c11, c12, c13, c14, c15, c16, c17]⟩] = some (opV k key val l) :: some (anV e dn v) :: some (.string ⟨#[c0, c1, c2, c3, c4, c5, c6, c7, c8, c9, c10, c11, c12, c13, c14, c15, c16, c17]⟩) :: [some undef, some undef, some undef, some undef, some undef, some undef, some undef, some undef, some undef, some undef, some undef, some undef, some undef, some undef, some undef, some undef, some undef, some undef, some undef, some undef, some undef, some undef, some undef, some undef, some undef, some undef, some undef, some undef, some undef, some undef, some undef, some undef, some undef, some undef, some undef, some undef, some undef, some undef, some undef, some undef, some undef, some undef, some undef, some undef, some undef, some undef, some undef, some undef, some undef, some undef, some undef, some undef, some undef, some undef, some undef, some undef, some undef, some undef, some undef, some undef, some undef, some undef, some undef, some undef, some undef, some undef, some undef, some undef, some undef, some undef, some undef, some undef, some undef, some undef, some undef, some undef, some undef, some undef, some undef, some undef, some undef, some undef, some undef, some undef, some undef, some undef, some undef, some undef, some undef, some undef, some undef, some undef, some undef, some undef, some undef, some undef, some undef, some undef, some undef, some undef, some undef, some undef, some undef, some undef, some undef, some undef, some undef, some undef, some undef, some undef, some undef, some undef, some undef, some undef, some undef, some undef, some undef, some undef, some undef, some undef, some undef, some undef, some undef, some undef, some undef, some undef, some undef, some undef, some undef, some undef, some undef, some undef, some undef, some undef, some undef, some undef, some undef, some undef, some undef, some undef, some undef, some undef, some undef, some undef, some undef, some undef, some undef, some undef, some undef, some undef, some undef, some undef, some undef, some undef, some undef, some undef, some undef, some undef, some undef, some undef, some undef, some undef, some undef, some undef, some undef, some undef, some undef, some undef, some undef, some undef, some undef, some undef, some undef, some undef] := by kernel_rfl
  rw [e0]
  repeat (with_reducible refine does_seq ?_)
  with_reducible refine does_region ?_
  refine does_opn (v := nptr 0 0) (H1 := ⟨1, (.node .nil (some (.cells [.int .i64 k, .int .u64 key, .int .u64 val, .int .i64 l] 24 false)) .nil)⟩) (by kernel_rfl) (by simp only [Ev.put, List.set_cons_succ, List.set_cons_zero]; rfl) ?_
  refine does_opn (v := nptr 1 0) (H1 := ⟨2, (.node (.node .nil (some (.cells [.int .i64 e, .bool dn, .int .u64 v] 27 false)) .nil) (some (.cells [.int .i64 k, .int .u64 key, .int .u64 val, .int .i64 l] 24 false)) .nil)⟩) (by kernel_rfl) (by simp only [Ev.put, List.set_cons_succ, List.set_cons_zero]; rfl) ?_
  refine does_opn rfl (by simp only [Ev.put, List.set_cons_succ, List.set_cons_zero]; rfl) ?_
  refine does_nilS ?_
  repeat (with_reducible refine does_seq ?_)
  with_reducible refine does_region ?_
  refine does_opc rfl (awk2 _) (by simp only [Ev.put, List.set_cons_succ, List.set_cons_zero]; rfl) ?_
  refine does_opn rfl (by simp only [Ev.put, List.set_cons_succ, List.set_cons_zero]; rfl) ?_
  refine does_nilS ?_
  repeat (with_reducible refine does_seq ?_)
  refine does_cond (b := false) rfl (fun h => absurd h (by simp)) (fun _ => ?_)
  refine does_skipS ?_
  repeat (with_reducible refine does_seq ?_)
  with_reducible refine does_region ?_
  iterate 2 (refine does_opn rfl (by simp only [Ev.put, List.set_cons_succ, List.set_cons_zero]; rfl) ?_)
  refine does_opb (b := false) rfl (by kernel_rfl) (by simp only [Ev.put, List.set_cons_succ, List.set_cons_zero]; rfl) ?_
  refine does_nilS ?_
  repeat (with_reducible refine does_seq ?_)
  refine does_cond (b := false) rfl (fun h => absurd h (by simp)) (fun _ => ?_)
  refine does_skipS ?_
  repeat (with_reducible refine does_seq ?_)
  with_reducible refine does_region ?_
  refine does_opk (v := opV k key val l) (by kernel_rfl) (by simp only [Ev.put, List.set_cons_succ, List.set_cons_zero]; rfl) ?_
  refine does_opc rfl (c16_no key val hno _) (by simp only [Ev.put, List.set_cons_succ, List.set_cons_zero]; rfl) ?_
  refine does_opk (v := .tuple ⟨[noS, .int .i64 3]⟩) (by kernel_rfl) (by simp only [Ev.put, List.set_cons_succ, List.set_cons_zero]; rfl) ?_
  refine does_opk (v := noS) (by kernel_rfl) (by simp only [Ev.put, List.set_cons_succ, List.set_cons_zero]; rfl) ?_
  refine does_opk (v := .int .i64 3) (by kernel_rfl) (by simp only [Ev.put, List.set_cons_succ, List.set_cons_zero]; rfl) ?_
  refine does_opk (v := noS) (by kernel_rfl) (by simp only [Ev.put, List.set_cons_succ, List.set_cons_zero]; rfl) ?_
  refine does_opk (v := .int .i64 3) (by kernel_rfl) (by simp only [Ev.put, List.set_cons_succ, List.set_cons_zero]; rfl) ?_
  refine does_nilS ?_
  repeat (with_reducible refine does_seq ?_)
  with_reducible refine does_region ?_
  refine does_opk (v := opV k key val l) (by kernel_rfl) (by simp only [Ev.put, List.set_cons_succ, List.set_cons_zero]; rfl) ?_
  refine does_opc rfl (c20_no key val hno _) (by simp only [Ev.put, List.set_cons_succ, List.set_cons_zero]; rfl) ?_
  refine does_opk (v := .tuple ⟨[noS, .bool false]⟩) (by kernel_rfl) (by simp only [Ev.put, List.set_cons_succ, List.set_cons_zero]; rfl) ?_
  refine does_opk (v := noS) (by kernel_rfl) (by simp only [Ev.put, List.set_cons_succ, List.set_cons_zero]; rfl) ?_
  refine does_opk (v := .bool false) (by kernel_rfl) (by simp only [Ev.put, List.set_cons_succ, List.set_cons_zero]; rfl) ?_
  refine does_opk (v := noS) (by kernel_rfl) (by simp only [Ev.put, List.set_cons_succ, List.set_cons_zero]; rfl) ?_
  refine does_opk (v := .bool false) (by kernel_rfl) (by simp only [Ev.put, List.set_cons_succ, List.set_cons_zero]; rfl) ?_
  refine does_nilS ?_
  repeat (with_reducible refine does_seq ?_)
  with_reducible refine does_region ?_
  refine does_opk (v := .bool false) (by kernel_rfl) (by simp only [Ev.put, List.set_cons_succ, List.set_cons_zero]; rfl) ?_
  refine does_opk (v := .int .i64 3) (by kernel_rfl) (by simp only [Ev.put, List.set_cons_succ, List.set_cons_zero]; rfl) ?_
  refine does_opk (v := .bool false) (by kernel_rfl) (by simp only [Ev.put, List.set_cons_succ, List.set_cons_zero]; rfl) ?_
  refine does_opk (v := .bool false) (by kernel_rfl) (by simp only [Ev.put, List.set_cons_succ, List.set_cons_zero]; rfl) ?_
  refine does_opk (v := .bool false) (by kernel_rfl) (by simp only [Ev.put, List.set_cons_succ, List.set_cons_zero]; rfl) ?_
  refine does_opk (v := .bool false) (by kernel_rfl) (by simp only [Ev.put, List.set_cons_succ, List.set_cons_zero]; rfl) ?_
  refine does_opk (v := .bool true) (by kernel_rfl) (by simp only [Ev.put, List.set_cons_succ, List.set_cons_zero]; rfl) ?_
  refine does_opk (v := .bool true) (by kernel_rfl) (by simp only [Ev.put, List.set_cons_succ, List.set_cons_zero]; rfl) ?_
  refine does_opk (v := .int .i64 3) (by kernel_rfl) (by simp only [Ev.put, List.set_cons_succ, List.set_cons_zero]; rfl) ?_
  refine does_opk (v := .bool false) (by kernel_rfl) (by simp only [Ev.put, List.set_cons_succ, List.set_cons_zero]; rfl) ?_
  refine does_opk (v := .bool false) (by kernel_rfl) (by simp only [Ev.put, List.set_cons_succ, List.set_cons_zero]; rfl) ?_
  refine does_opk (v := .bool false) (by kernel_rfl) (by simp only [Ev.put, List.set_cons_succ, List.set_cons_zero]; rfl) ?_
  refine does_opk (v := .bool false) (by kernel_rfl) (by simp only [Ev.put, List.set_cons_succ, List.set_cons_zero]; rfl) ?_
  refine does_opk (v := noS) (by kernel_rfl) (by simp only [Ev.put, List.set_cons_succ, List.set_cons_zero]; rfl) ?_
  refine does_opk (v := noS) (by kernel_rfl) (by simp only [Ev.put, List.set_cons_succ, List.set_cons_zero]; rfl) ?_
  refine does_opb (b := false) rfl (by first | exact bytes_ne _ | simp) (by simp only [Ev.put, List.set_cons_succ, List.set_cons_zero]; rfl) ?_
  refine does_opk (v := .bool false) (by kernel_rfl) (by simp only [Ev.put, List.set_cons_succ, List.set_cons_zero]; rfl) ?_
  refine does_nilS ?_
  repeat (with_reducible refine does_seq ?_)
  refine does_cond (b := false) rfl (fun h => absurd h (by simp)) (fun _ => ?_)
  refine does_skipS ?_
  repeat (with_reducible refine does_seq ?_)
  with_reducible refine does_region ?_
  refine does_opk (v := anV e dn v) (by kernel_rfl) (by simp only [Ev.put, List.set_cons_succ, List.set_cons_zero]; rfl) ?_
  refine does_opc rfl (c18_yes dn v he _) (by simp only [Ev.put, List.set_cons_succ, List.set_cons_zero]; rfl) ?_
  refine does_opk (v := .tuple ⟨[anS e dn v, .int .i64 0]⟩) (by kernel_rfl) (by simp only [Ev.put, List.set_cons_succ, List.set_cons_zero]; rfl) ?_
  refine does_opk (v := anS e dn v) (by kernel_rfl) (by simp only [Ev.put, List.set_cons_succ, List.set_cons_zero]; rfl) ?_
  refine does_opk (v := .int .i64 0) (by kernel_rfl) (by simp only [Ev.put, List.set_cons_succ, List.set_cons_zero]; rfl) ?_
  refine does_opk (v := anS e dn v) (by kernel_rfl) (by simp only [Ev.put, List.set_cons_succ, List.set_cons_zero]; rfl) ?_
  refine does_opk (v := .int .i64 0) (by kernel_rfl) (by simp only [Ev.put, List.set_cons_succ, List.set_cons_zero]; rfl) ?_
  refine does_nilS ?_
  repeat (with_reducible refine does_seq ?_)
  with_reducible refine does_region ?_
  refine does_opk (v := anV e dn v) (by kernel_rfl) (by simp only [Ev.put, List.set_cons_succ, List.set_cons_zero]; rfl) ?_
  refine does_opc rfl (c21_yes dn he hv _) (by simp only [Ev.put, List.set_cons_succ, List.set_cons_zero]; rfl) ?_
  refine does_opk (v := .tuple ⟨[anS e dn v, .bool true]⟩) (by kernel_rfl) (by simp only [Ev.put, List.set_cons_succ, List.set_cons_zero]; rfl) ?_
  refine does_opk (v := anS e dn v) (by kernel_rfl) (by simp only [Ev.put, List.set_cons_succ, List.set_cons_zero]; rfl) ?_
  refine does_opk (v := .bool true) (by kernel_rfl) (by simp only [Ev.put, List.set_cons_succ, List.set_cons_zero]; rfl) ?_
  refine does_opk (v := anS e dn v) (by kernel_rfl) (by simp only [Ev.put, List.set_cons_succ, List.set_cons_zero]; rfl) ?_
  refine does_opk (v := .bool true) (by kernel_rfl) (by simp only [Ev.put, List.set_cons_succ, List.set_cons_zero]; rfl) ?_
  refine does_nilS ?_
  repeat (with_reducible refine does_seq ?_)
  with_reducible refine does_region ?_
  refine does_opk (v := .bool true) (by kernel_rfl) (by simp only [Ev.put, List.set_cons_succ, List.set_cons_zero]; rfl) ?_
  refine does_opk (v := .int .i64 0) (by kernel_rfl) (by simp only [Ev.put, List.set_cons_succ, List.set_cons_zero]; rfl) ?_
  refine does_opk (v := .bool true) (by kernel_rfl) (by simp only [Ev.put, List.set_cons_succ, List.set_cons_zero]; rfl) ?_
  refine does_opk (v := .bool false) (by kernel_rfl) (by simp only [Ev.put, List.set_cons_succ, List.set_cons_zero]; rfl) ?_
  refine does_opk (v := .bool false) (by kernel_rfl) (by simp only [Ev.put, List.set_cons_succ, List.set_cons_zero]; rfl) ?_
  refine does_opk (v := .bool true) (by kernel_rfl) (by simp only [Ev.put, List.set_cons_succ, List.set_cons_zero]; rfl) ?_
  refine does_opk (v := .bool false) (by kernel_rfl) (by simp only [Ev.put, List.set_cons_succ, List.set_cons_zero]; rfl) ?_
  refine does_opk (v := .bool false) (by kernel_rfl) (by simp only [Ev.put, List.set_cons_succ, List.set_cons_zero]; rfl) ?_
  refine does_opk (v := undef) (by kernel_rfl) (by simp only [Ev.put, List.set_cons_succ, List.set_cons_zero]; rfl) ?_
  refine does_opk (v := undef) (by kernel_rfl) (by simp only [Ev.put, List.set_cons_succ, List.set_cons_zero]; rfl) ?_
  refine does_opk (v := .bool false) (by kernel_rfl) (by simp only [Ev.put, List.set_cons_succ, List.set_cons_zero]; rfl) ?_
  refine does_opk (v := .bool false) (by kernel_rfl) (by simp only [Ev.put, List.set_cons_succ, List.set_cons_zero]; rfl) ?_
  refine does_opk (v := .bool false) (by kernel_rfl) (by simp only [Ev.put, List.set_cons_succ, List.set_cons_zero]; rfl) ?_
  refine does_opk (v := anS e dn v) (by kernel_rfl) (by simp only [Ev.put, List.set_cons_succ, List.set_cons_zero]; rfl) ?_
  refine does_opk (v := anS e dn v) (by kernel_rfl) (by simp only [Ev.put, List.set_cons_succ, List.set_cons_zero]; rfl) ?_
  refine does_opb (b := false) rfl (by first | exact bytes_ne _ | simp) (by simp only [Ev.put, List.set_cons_succ, List.set_cons_zero]; rfl) ?_
  refine does_opk (v := .bool false) (by kernel_rfl) (by simp only [Ev.put, List.set_cons_succ, List.set_cons_zero]; rfl) ?_
  refine does_nilS ?_
  repeat (with_reducible refine does_seq ?_)
  refine does_cond (b := false) rfl (fun h => absurd h (by simp)) (fun _ => ?_)
  refine does_skipS ?_
  repeat (with_reducible refine does_seq ?_)
  with_reducible refine does_region ?_
  refine does_opk (v := .string ⟨#[c0, c1, c2, c3, c4, c5, c6, c7, c8, c9, c10, c11, c12, c13, c14, c15, c16, c17]⟩) (by kernel_rfl) (by simp only [Ev.put, List.set_cons_succ, List.set_cons_zero]; rfl) ?_
  refine does_opc rfl (c17_yes c0 c1 c2 c3 c4 c5 c6 c7 c8 c9 c10 c11 c12 c13 c14 c15 c16 c17 _) (by simp only [Ev.put, List.set_cons_succ, List.set_cons_zero]; rfl) ?_
  refine does_opk (v := .tuple ⟨[opV c0.toNat (get64 [c1, c2, c3, c4, c5, c6, c7, c8]) (get64 [c9, c10, c11, c12, c13, c14, c15, c16]) c17.toNat, .int .i64 0]⟩) (by kernel_rfl) (by simp only [Ev.put, List.set_cons_succ, List.set_cons_zero]; rfl) ?_
  refine does_opk (v := opV c0.toNat (get64 [c1, c2, c3, c4, c5, c6, c7, c8]) (get64 [c9, c10, c11, c12, c13, c14, c15, c16]) c17.toNat) (by kernel_rfl) (by simp only [Ev.put, List.set_cons_succ, List.set_cons_zero]; rfl) ?_
  refine does_opk (v := .int .i64 0) (by kernel_rfl) (by simp only [Ev.put, List.set_cons_succ, List.set_cons_zero]; rfl) ?_
  refine does_opn (v := nptr 2 0) (H1 := ⟨3, (.node (.node .nil (some (.cells [.int .i64 e, .bool dn, .int .u64 v] 27 false)) .nil) (some (.cells [.int .i64 k, .int .u64 key, .int .u64 val, .int .i64 l] 24 false)) (.node .nil (some (.cells [.int .i64 0, .int .u64 0, .int .u64 0, .int .i64 0] 24 false)) .nil))⟩) (by kernel_rfl) (by simp only [Ev.put, List.set_cons_succ, List.set_cons_zero]; rfl) ?_
  refine does_opn (v := undef) (H1 := ⟨3, (.node (.node .nil (some (.cells [.int .i64 e, .bool dn, .int .u64 v] 27 false)) .nil) (some (.cells [.int .i64 k, .int .u64 key, .int .u64 val, .int .i64 l] 24 false)) (.node .nil (some (.cells [.int .i64 c0.toNat, .int .u64 (get64 [c1, c2, c3, c4, c5, c6, c7, c8]), .int .u64 (get64 [c9, c10, c11, c12, c13, c14, c15, c16]), .int .i64 c17.toNat] 24 false)) .nil))⟩) (by kernel_rfl) (by simp only [Ev.put, List.set_cons_succ, List.set_cons_zero]; rfl) ?_
  refine does_opk (v := .int .i64 0) (by kernel_rfl) (by simp only [Ev.put, List.set_cons_succ, List.set_cons_zero]; rfl) ?_
  refine does_nilS ?_
  repeat (with_reducible refine does_seq ?_)
  with_reducible refine does_region ?_
  refine does_opk (v := .string ⟨#[c0, c1, c2, c3, c4, c5, c6, c7, c8, c9, c10, c11, c12, c13, c14, c15, c16, c17]⟩) (by kernel_rfl) (by simp only [Ev.put, List.set_cons_succ, List.set_cons_zero]; rfl) ?_
  refine does_opk (v := .int .i64 18) (by kernel_rfl) (by simp only [Ev.put, List.set_cons_succ, List.set_cons_zero]; rfl) ?_
  refine does_opk (v := .bool false) (by kernel_rfl) (by simp only [Ev.put, List.set_cons_succ, List.set_cons_zero]; rfl) ?_
  refine does_nilS ?_
  repeat (with_reducible refine does_seq ?_)
  refine does_cond (b := false) rfl (fun h => absurd h (by simp)) (fun _ => ?_)
  repeat (with_reducible refine does_seq ?_)
  with_reducible refine does_region ?_
  refine does_opk (v := opV c0.toNat (get64 [c1, c2, c3, c4, c5, c6, c7, c8]) (get64 [c9, c10, c11, c12, c13, c14, c15, c16]) c17.toNat) (by kernel_rfl) (by simp only [Ev.put, List.set_cons_succ, List.set_cons_zero]; rfl) ?_
  refine does_opc rfl (c20_back c0 c1 c2 c3 c4 c5 c6 c7 c8 c9 c10 c11 c12 c13 c14 c15 c16 c17 _) (by simp only [Ev.put, List.set_cons_succ, List.set_cons_zero]; rfl) ?_
  refine does_opk (v := .tuple ⟨[.string ⟨#[c0, c1, c2, c3, c4, c5, c6, c7, c8, c9, c10, c11, c12, c13, c14, c15, c16, c17]⟩, .bool true]⟩) (by kernel_rfl) (by simp only [Ev.put, List.set_cons_succ, List.set_cons_zero]; rfl) ?_
  refine does_opk (v := .string ⟨#[c0, c1, c2, c3, c4, c5, c6, c7, c8, c9, c10, c11, c12, c13, c14, c15, c16, c17]⟩) (by kernel_rfl) (by simp only [Ev.put, List.set_cons_succ, List.set_cons_zero]; rfl) ?_
  refine does_opk (v := .bool true) (by kernel_rfl) (by simp only [Ev.put, List.set_cons_succ, List.set_cons_zero]; rfl) ?_
  refine does_opk (v := .string ⟨#[c0, c1, c2, c3, c4, c5, c6, c7, c8, c9, c10, c11, c12, c13, c14, c15, c16, c17]⟩) (by kernel_rfl) (by simp only [Ev.put, List.set_cons_succ, List.set_cons_zero]; rfl) ?_
  refine does_opk (v := .bool true) (by kernel_rfl) (by simp only [Ev.put, List.set_cons_succ, List.set_cons_zero]; rfl) ?_
  refine does_nilS ?_
  repeat (with_reducible refine does_seq ?_)
  with_reducible refine does_region ?_
  refine does_opk (v := .int .i64 0) (by kernel_rfl) (by simp only [Ev.put, List.set_cons_succ, List.set_cons_zero]; rfl) ?_
  refine does_opk (v := .bool false) (by kernel_rfl) (by simp only [Ev.put, List.set_cons_succ, List.set_cons_zero]; rfl) ?_
  refine does_opk (v := .bool false) (by kernel_rfl) (by simp only [Ev.put, List.set_cons_succ, List.set_cons_zero]; rfl) ?_
  refine does_opk (v := .string ⟨#[c0, c1, c2, c3, c4, c5, c6, c7, c8, c9, c10, c11, c12, c13, c14, c15, c16, c17]⟩) (by kernel_rfl) (by simp only [Ev.put, List.set_cons_succ, List.set_cons_zero]; rfl) ?_
  refine does_opk (v := .string ⟨#[c0, c1, c2, c3, c4, c5, c6, c7, c8, c9, c10, c11, c12, c13, c14, c15, c16, c17]⟩) (by kernel_rfl) (by simp only [Ev.put, List.set_cons_succ, List.set_cons_zero]; rfl) ?_
  refine does_opb (b := false) rfl (by first | exact bytes_ne _ | simp) (by simp only [Ev.put, List.set_cons_succ, List.set_cons_zero]; rfl) ?_
  refine does_opk (v := .bool false) (by kernel_rfl) (by simp only [Ev.put, List.set_cons_succ, List.set_cons_zero]; rfl) ?_
  refine does_nilS ?_
  repeat (with_reducible refine does_seq ?_)
  refine does_cond (b := false) rfl (fun h => absurd h (by simp)) (fun _ => ?_)
  refine does_skipS ?_
  repeat (with_reducible refine does_seq ?_)
  with_reducible refine does_region ?_
  refine does_opk (v := .string ⟨#[c0, c1, c2, c3, c4, c5, c6, c7, c8, c9, c10, c11, c12, c13, c14, c15, c16, c17]⟩) (by kernel_rfl) (by simp only [Ev.put, List.set_cons_succ, List.set_cons_zero]; rfl) ?_
  refine does_opc rfl (c19_no (by show ¬ ((18 : Nat) = 10); omega) _) (by simp only [Ev.put, List.set_cons_succ, List.set_cons_zero]; rfl) ?_
  refine does_opk (v := .tuple ⟨[anV 0 false 0, .int .i64 4]⟩) (by kernel_rfl) (by simp only [Ev.put, List.set_cons_succ, List.set_cons_zero]; rfl) ?_
  refine does_opk (v := anV 0 false 0) (by kernel_rfl) (by simp only [Ev.put, List.set_cons_succ, List.set_cons_zero]; rfl) ?_
  refine does_opk (v := .int .i64 4) (by kernel_rfl) (by simp only [Ev.put, List.set_cons_succ, List.set_cons_zero]; rfl) ?_
  refine does_opn (v := nptr 3 0) (H1 := ⟨4, (.node (.node (.node .nil (some (.cells [.int .i64 0, .bool false, .int .u64 0] 27 false)) .nil) (some (.cells [.int .i64 e, .bool dn, .int .u64 v] 27 false)) .nil) (some (.cells [.int .i64 k, .int .u64 key, .int .u64 val, .int .i64 l] 24 false)) (.node .nil (some (.cells [.int .i64 c0.toNat, .int .u64 (get64 [c1, c2, c3, c4, c5, c6, c7, c8]), .int .u64 (get64 [c9, c10, c11, c12, c13, c14, c15, c16]), .int .i64 c17.toNat] 24 false)) .nil))⟩) (by kernel_rfl) (by simp only [Ev.put, List.set_cons_succ, List.set_cons_zero]; rfl) ?_
  refine does_opn (v := undef) (H1 := ⟨4, (.node (.node (.node .nil (some (.cells [.int .i64 0, .bool false, .int .u64 0] 27 false)) .nil) (some (.cells [.int .i64 e, .bool dn, .int .u64 v] 27 false)) .nil) (some (.cells [.int .i64 k, .int .u64 key, .int .u64 val, .int .i64 l] 24 false)) (.node .nil (some (.cells [.int .i64 c0.toNat, .int .u64 (get64 [c1, c2, c3, c4, c5, c6, c7, c8]), .int .u64 (get64 [c9, c10, c11, c12, c13, c14, c15, c16]), .int .i64 c17.toNat] 24 false)) .nil))⟩) (by kernel_rfl) (by simp only [Ev.put, List.set_cons_succ, List.set_cons_zero]; rfl) ?_
  refine does_opk (v := .int .i64 4) (by kernel_rfl) (by simp only [Ev.put, List.set_cons_succ, List.set_cons_zero]; rfl) ?_
  refine does_nilS ?_
  repeat (with_reducible refine does_seq ?_)
  with_reducible refine does_region ?_
  refine does_opk (v := .string ⟨#[c0, c1, c2, c3, c4, c5, c6, c7, c8, c9, c10, c11, c12, c13, c14, c15, c16, c17]⟩) (by kernel_rfl) (by simp only [Ev.put, List.set_cons_succ, List.set_cons_zero]; rfl) ?_
  refine does_opk (v := .int .i64 18) (by kernel_rfl) (by simp only [Ev.put, List.set_cons_succ, List.set_cons_zero]; rfl) ?_
  refine does_opk (v := .bool true) (by kernel_rfl) (by simp only [Ev.put, List.set_cons_succ, List.set_cons_zero]; rfl) ?_
  refine does_opk (v := .bool true) (by kernel_rfl) (by simp only [Ev.put, List.set_cons_succ, List.set_cons_zero]; rfl) ?_
  refine does_opk (v := undef) (by kernel_rfl) (by simp only [Ev.put, List.set_cons_succ, List.set_cons_zero]; rfl) ?_
  refine does_opk (v := undef) (by kernel_rfl) (by simp only [Ev.put, List.set_cons_succ, List.set_cons_zero]; rfl) ?_
  refine does_opk (v := undef) (by kernel_rfl) (by simp only [Ev.put, List.set_cons_succ, List.set_cons_zero]; rfl) ?_
  refine does_opk (v := .bool true) (by kernel_rfl) (by simp only [Ev.put, List.set_cons_succ, List.set_cons_zero]; rfl) ?_
  refine does_nilS ?_
  repeat (with_reducible refine does_seq ?_)
  refine does_cond (b := true) rfl (fun _ => ?_) (fun h => absurd h (by simp))
  repeat (with_reducible refine does_seq ?_)
  with_reducible refine does_region ?_
  refine does_opk (v := .int .i64 4) (by kernel_rfl) (by simp only [Ev.put, List.set_cons_succ, List.set_cons_zero]; rfl) ?_
  refine does_opk (v := .bool false) (by kernel_rfl) (by simp only [Ev.put, List.set_cons_succ, List.set_cons_zero]; rfl) ?_
  refine does_opk (v := .bool false) (by kernel_rfl) (by simp only [Ev.put, List.set_cons_succ, List.set_cons_zero]; rfl) ?_
  refine does_opk (v := anV 0 false 0) (by kernel_rfl) (by simp only [Ev.put, List.set_cons_succ, List.set_cons_zero]; rfl) ?_
  refine does_opk (v := anV 0 false 0) (by kernel_rfl) (by simp only [Ev.put, List.set_cons_succ, List.set_cons_zero]; rfl) ?_
  refine does_opk (v := .bool false) (by kernel_rfl) (by simp only [Ev.put, List.set_cons_succ, List.set_cons_zero]; rfl) ?_
  refine does_opk (v := .bool false) (by kernel_rfl) (by simp only [Ev.put, List.set_cons_succ, List.set_cons_zero]; rfl) ?_
  refine does_nilS ?_
  repeat (with_reducible refine does_seq ?_)
  refine does_cond (b := false) rfl (fun h => absurd h (by simp)) (fun _ => ?_)
  refine does_skipS ?_
  exact rest4 (by kernel_rfl)

theorem w4_18_00 (k key val l e v : Int) (dn : Bool) (c0 c1 c2 c3 c4 c5 c6 c7 c8 c9 c10 c11 c12 c13 c14 c15 c16 c17 : UInt8)  (hno : ¬ (Byt k ∧ Byt l)) (hne : ¬ Byt e) :
    Does (runw ctx2 4 [opV k key val l, anV e dn v, .string ⟨#[c0, c1, c2, c3, c4, c5, c6, c7, c8, c9, c10, c11, c12, c13, c14, c15, c16, c17]⟩] hp0) fun r => r.1 = .bool true := by
  refine does_run (fi := g4) rfl rfl rfl rfl ?_
  have e0 : mkEnv g4.fn.ntmps [opV k key val l, anV e dn v, .string ⟨#[c0, c1, c2, c3, c4, c5, c6, c7, c8, c9, c10, c11, c12, c13, c14, c15, c16, c17]⟩] = some (opV k key val l) :: some (anV e dn v) :: some (.string ⟨#[c0, c1, c2, c3, c4, c5, c6, c7, c8, c9, c10, c11, c12, c13, c14, c15, c16, c17]⟩) :: [some undef, some undef, some undef, some undef, some undef, some undef, some undef, some undef, some undef, some undef, some undef, some undef, some undef, some undef, some undef, some undef, some undef, some undef, some undef, some undef, some undef, some undef, some undef, some undef, some undef, some undef, some undef, some undef, some undef, some undef, some undef, some undef, some undef, some undef, some undef, some undef, some undef, some undef, some undef, some undef, some undef, some undef, some undef, some undef, some undef, some undef, some undef, some undef, some undef, some undef, some undef, some undef, some undef, some undef, some undef, some undef, some undef, some undef, some undef, some undef, some undef, some undef, some undef, some undef, some undef, some undef, some undef, some undef, some undef, some undef, some undef, some undef, some undef, some undef, some undef, some undef, some undef, some undef, some undef, some undef, some undef, some undef, some undef, some undef, some undef, some undef, some undef, some undef, some undef, some undef, some undef, some undef, some undef, some undef, some undef, some undef, some undef, some undef, some undef, some undef, some undef, some undef, some undef, some undef, some undef, some undef, some undef, some undef, some undef, some undef, some undef, some undef, some undef, some undef, some undef, some undef, some undef, some undef, some undef, some undef, some undef, some undef, some undef, some undef, some undef, some undef, some undef, some undef, some undef, some undef, some undef, some undef, some undef, some undef, some undef, some undef, some undef, some undef, some undef, some undef, some undef, some undef, some undef, some undef, some undef, some undef, some undef, some undef, some undef, some undef, some undef, some undef, some undef, some undef, some undef, some undef, some undef, some undef, some undef, some undef, some undef, some undef, some undef, some undef, some undef, some undef, some undef, some undef, some undef, some undef, some undef, some undef, some undef, some undef] := by kernel_rfl
  rw [e0]
  repeat (with_reducible refine does_seq ?_)
  with_reducible refine does_region ?_
  refine does_opn (v := nptr 0 0) (H1 := ⟨1, (.node .nil (some (.cells [.int .i64 k, .int .u64 key, .int .u64 val, .int .i64 l] 24 false)) .nil)⟩) (by kernel_rfl) (by simp only [Ev.put, List.set_cons_succ, List.set_cons_zero]; rfl) ?_
  refine does_opn (v := nptr 1 0) (H1 := ⟨2, (.node (.node .nil (some (.cells [.int .i64 e, .bool dn, .int .u64 v] 27 false)) .nil) (some (.cells [.int .i64 k, .int .u64 key, .int .u64 val, .int .i64 l] 24 false)) .nil)⟩) (by kernel_rfl) (by simp only [Ev.put, List.set_cons_succ, List.set_cons_zero]; rfl) ?_
  refine does_opn rfl (by simp only [Ev.put, List.set_cons_succ, List.set_cons_zero]; rfl) ?_
  refine does_nilS ?_
  repeat (with_reducible refine does_seq ?_)
  with_reducible refine does_region ?_
  refine does_opc rfl (awk2 _) (by simp only [Ev.put, List.set_cons_succ, List.set_cons_zero]; rfl) ?_
  refine does_opn rfl (by simp only [Ev.put, List.set_cons_succ, List.set_cons_zero]; rfl) ?_
  refine does_nilS ?_
  repeat (with_reducible refine does_seq ?_)
  refine does_cond (b := false) rfl (fun h => absurd h (by simp)) (fun _ => ?_)
  refine does_skipS ?_
  repeat (with_reducible refine does_seq ?_)
  with_reducible refine does_region ?_
  iterate 2 (refine does_opn rfl (by simp only [Ev.put, List.set_cons_succ, List.set_cons_zero]; rfl) ?_)
  refine does_opb (b := false) rfl (by kernel_rfl) (by simp only [Ev.put, List.set_cons_succ, List.set_cons_zero]; rfl) ?_
  refine does_nilS ?_
  repeat (with_reducible refine does_seq ?_)
  refine does_cond (b := false) rfl (fun h => absurd h (by simp)) (fun _ => ?_)
  refine does_skipS ?_
  repeat (with_reducible refine does_seq ?_)
  with_reducible refine does_region ?_
  refine does_opk (v := opV k key val l) (by kernel_rfl) (by simp only [Ev.put, List.set_cons_succ, List.set_cons_zero]; rfl) ?_
  refine does_opc rfl (c16_no key val hno _) (by simp only [Ev.put, List.set_cons_succ, List.set_cons_zero]; rfl) ?_
  refine does_opk (v := .tuple ⟨[noS, .int .i64 3]⟩) (by kernel_rfl) (by simp only [Ev.put, List.set_cons_succ, List.set_cons_zero]; rfl) ?_
  refine does_opk (v := noS) (by kernel_rfl) (by simp only [Ev.put, List.set_cons_succ, List.set_cons_zero]; rfl) ?_
  refine does_opk (v := .int .i64 3) (by kernel_rfl) (by simp only [Ev.put, List.set_cons_succ, List.set_cons_zero]; rfl) ?_
  refine does_opk (v := noS) (by kernel_rfl) (by simp only [Ev.put, List.set_cons_succ, List.set_cons_zero]; rfl) ?_
  refine does_opk (v := .int .i64 3) (by kernel_rfl) (by simp only [Ev.put, List.set_cons_succ, List.set_cons_zero]; rfl) ?_
  refine does_nilS ?_
  repeat (with_reducible refine does_seq ?_)
  with_reducible refine does_region ?_
  refine does_opk (v := opV k key val l) (by kernel_rfl) (by simp only [Ev.put, List.set_cons_succ, List.set_cons_zero]; rfl) ?_
  refine does_opc rfl (c20_no key val hno _) (by simp only [Ev.put, List.set_cons_succ, List.set_cons_zero]; rfl) ?_
  refine does_opk (v := .tuple ⟨[noS, .bool false]⟩) (by kernel_rfl) (by simp only [Ev.put, List.set_cons_succ, List.set_cons_zero]; rfl) ?_
  refine does_opk (v := noS) (by kernel_rfl) (by simp only [Ev.put, List.set_cons_succ, List.set_cons_zero]; rfl) ?_
  refine does_opk (v := .bool false) (by kernel_rfl) (by simp only [Ev.put, List.set_cons_succ, List.set_cons_zero]; rfl) ?_
  refine does_opk (v := noS) (by kernel_rfl) (by simp only [Ev.put, List.set_cons_succ, List.set_cons_zero]; rfl) ?_
  refine does_opk (v := .bool false) (by kernel_rfl) (by simp only [Ev.put, List.set_cons_succ, List.set_cons_zero]; rfl) ?_
  refine does_nilS ?_
  repeat (with_reducible refine does_seq ?_)
  with_reducible refine does_region ?_
  refine does_opk (v := .bool false) (by kernel_rfl) (by simp only [Ev.put, List.set_cons_succ, List.set_cons_zero]; rfl) ?_
  refine does_opk (v := .int .i64 3) (by kernel_rfl) (by simp only [Ev.put, List.set_cons_succ, List.set_cons_zero]; rfl) ?_
  refine does_opk (v := .bool false) (by kernel_rfl) (by simp only [Ev.put, List.set_cons_succ, List.set_cons_zero]; rfl) ?_
  refine does_opk (v := .bool false) (by kernel_rfl) (by simp only [Ev.put, List.set_cons_succ, List.set_cons_zero]; rfl) ?_
  refine does_opk (v := .bool false) (by kernel_rfl) (by simp only [Ev.put, List.set_cons_succ, List.set_cons_zero]; rfl) ?_
  refine does_opk (v := .bool false) (by kernel_rfl) (by simp only [Ev.put, List.set_cons_succ, List.set_cons_zero]; rfl) ?_
  refine does_opk (v := .bool true) (by kernel_rfl) (by simp only [Ev.put, List.set_cons_succ, List.set_cons_zero]; rfl) ?_
  refine does_opk (v := .bool true) (by kernel_rfl) (by simp only [Ev.put, List.set_cons_succ, List.set_cons_zero]; rfl) ?_
  refine does_opk (v := .int .i64 3) (by kernel_rfl) (by simp only [Ev.put, List.set_cons_succ, List.set_cons_zero]; rfl) ?_
  refine does_opk (v := .bool false) (by kernel_rfl) (by simp only [Ev.put, List.set_cons_succ, List.set_cons_zero]; rfl) ?_
  refine does_opk (v := .bool false) (by kernel_rfl) (by simp only [Ev.put, List.set_cons_succ, List.set_cons_zero]; rfl) ?_
  refine does_opk (v := .bool false) (by kernel_rfl) (by simp only [Ev.put, List.set_cons_succ, List.set_cons_zero]; rfl) ?_
  refine does_opk (v := .bool false) (by kernel_rfl) (by simp only [Ev.put, List.set_cons_succ, List.set_cons_zero]; rfl) ?_
  refine does_opk (v := noS) (by kernel_rfl) (by simp only [Ev.put, List.set_cons_succ, List.set_cons_zero]; rfl) ?_
  refine does_opk (v := noS) (by kernel_rfl) (by simp only [Ev.put, List.set_cons_succ, List.set_cons_zero]; rfl) ?_
  refine does_opb (b := false) rfl (by first | exact bytes_ne _ | simp) (by simp only [Ev.put, List.set_cons_succ, List.set_cons_zero]; rfl) ?_
  refine does_opk (v := .bool false) (by kernel_rfl) (by simp only [Ev.put, List.set_cons_succ, List.set_cons_zero]; rfl) ?_
  refine does_nilS ?_
  repeat (with_reducible refine does_seq ?_)
  refine does_cond (b := false) rfl (fun h => absurd h (by simp)) (fun _ => ?_)
  refine does_skipS ?_
  repeat (with_reducible refine does_seq ?_)
  with_reducible refine does_region ?_
  refine does_opk (v := anV e dn v) (by kernel_rfl) (by simp only [Ev.put, List.set_cons_succ, List.set_cons_zero]; rfl) ?_
  refine does_opc rfl (c18_no dn v hne _) (by simp only [Ev.put, List.set_cons_succ, List.set_cons_zero]; rfl) ?_
  refine does_opk (v := .tuple ⟨[noS, .int .i64 3]⟩) (by kernel_rfl) (by simp only [Ev.put, List.set_cons_succ, List.set_cons_zero]; rfl) ?_
  refine does_opk (v := noS) (by kernel_rfl) (by simp only [Ev.put, List.set_cons_succ, List.set_cons_zero]; rfl) ?_
  refine does_opk (v := .int .i64 3) (by kernel_rfl) (by simp only [Ev.put, List.set_cons_succ, List.set_cons_zero]; rfl) ?_
  refine does_opk (v := noS) (by kernel_rfl) (by simp only [Ev.put, List.set_cons_succ, List.set_cons_zero]; rfl) ?_
  refine does_opk (v := .int .i64 3) (by kernel_rfl) (by simp only [Ev.put, List.set_cons_succ, List.set_cons_zero]; rfl) ?_
  refine does_nilS ?_
  repeat (with_reducible refine does_seq ?_)
  with_reducible refine does_region ?_
  refine does_opk (v := anV e dn v) (by kernel_rfl) (by simp only [Ev.put, List.set_cons_succ, List.set_cons_zero]; rfl) ?_
  refine does_opc rfl (c21_no dn v hne _) (by simp only [Ev.put, List.set_cons_succ, List.set_cons_zero]; rfl) ?_
  refine does_opk (v := .tuple ⟨[noS, .bool false]⟩) (by kernel_rfl) (by simp only [Ev.put, List.set_cons_succ, List.set_cons_zero]; rfl) ?_
  refine does_opk (v := noS) (by kernel_rfl) (by simp only [Ev.put, List.set_cons_succ, List.set_cons_zero]; rfl) ?_
  refine does_opk (v := .bool false) (by kernel_rfl) (by simp only [Ev.put, List.set_cons_succ, List.set_cons_zero]; rfl) ?_
  refine does_opk (v := noS) (by kernel_rfl) (by simp only [Ev.put, List.set_cons_succ, List.set_cons_zero]; rfl) ?_
  refine does_opk (v := .bool false) (by kernel_rfl) (by simp only [Ev.put, List.set_cons_succ, List.set_cons_zero]; rfl) ?_
  refine does_nilS ?_
  repeat (with_reducible refine does_seq ?_)
  with_reducible refine does_region ?_
  refine does_opk (v := .bool false) (by kernel_rfl) (by simp only [Ev.put, List.set_cons_succ, List.set_cons_zero]; rfl) ?_
  refine does_opk (v := .int .i64 3) (by kernel_rfl) (by simp only [Ev.put, List.set_cons_succ, List.set_cons_zero]; rfl) ?_
  refine does_opk (v := .bool false) (by kernel_rfl) (by simp only [Ev.put, List.set_cons_succ, List.set_cons_zero]; rfl) ?_
  refine does_opk (v := .bool false) (by kernel_rfl) (by simp only [Ev.put, List.set_cons_succ, List.set_cons_zero]; rfl) ?_
  refine does_opk (v := .bool false) (by kernel_rfl) (by simp only [Ev.put, List.set_cons_succ, List.set_cons_zero]; rfl) ?_
  refine does_opk (v := .bool false) (by kernel_rfl) (by simp only [Ev.put, List.set_cons_succ, List.set_cons_zero]; rfl) ?_
  refine does_opk (v := .bool true) (by kernel_rfl) (by simp only [Ev.put, List.set_cons_succ, List.set_cons_zero]; rfl) ?_
  refine does_opk (v := .bool true) (by kernel_rfl) (by simp only [Ev.put, List.set_cons_succ, List.set_cons_zero]; rfl) ?_
  refine does_opk (v := .int .i64 3) (by kernel_rfl) (by simp only [Ev.put, List.set_cons_succ, List.set_cons_zero]; rfl) ?_
  refine does_opk (v := .bool false) (by kernel_rfl) (by simp only [Ev.put, List.set_cons_succ, List.set_cons_zero]; rfl) ?_
  refine does_opk (v := .bool false) (by kernel_rfl) (by simp only [Ev.put, List.set_cons_succ, List.set_cons_zero]; rfl) ?_
  refine does_opk (v := .bool false) (by kernel_rfl) (by simp only [Ev.put, List.set_cons_succ, List.set_cons_zero]; rfl) ?_
  refine does_opk (v := .bool false) (by kernel_rfl) (by simp only [Ev.put, List.set_cons_succ, List.set_cons_zero]; rfl) ?_
  refine does_opk (v := noS) (by kernel_rfl) (by simp only [Ev.put, List.set_cons_succ, List.set_cons_zero]; rfl) ?_
  refine does_opk (v := noS) (by kernel_rfl) (by simp only [Ev.put, List.set_cons_succ, List.set_cons_zero]; rfl) ?_
  refine does_opb (b := false) rfl (by first | exact bytes_ne _ | simp) (by simp only [Ev.put, List.set_cons_succ, List.set_cons_zero]; rfl) ?_
  refine does_opk (v := .bool false) (by kernel_rfl) (by simp only [Ev.put, List.set_cons_succ, List.set_cons_zero]; rfl) ?_
  refine does_nilS ?_
  repeat (with_reducible refine does_seq ?_)
  refine does_cond (b := false) rfl (fun h => absurd h (by simp)) (fun _ => ?_)
  refine does_skipS ?_
  repeat (with_reducible refine does_seq ?_)
  with_reducible refine does_region ?_
  refine does_opk (v := .string ⟨#[c0, c1, c2, c3, c4, c5, c6, c7, c8, c9, c10, c11, c12, c13, c14, c15, c16, c17]⟩) (by kernel_rfl) (by simp only [Ev.put, List.set_cons_succ, List.set_cons_zero]; rfl) ?_
  refine does_opc rfl (c17_yes c0 c1 c2 c3 c4 c5 c6 c7 c8 c9 c10 c11 c12 c13 c14 c15 c16 c17 _) (by simp only [Ev.put, List.set_cons_succ, List.set_cons_zero]; rfl) ?_
  refine does_opk (v := .tuple ⟨[opV c0.toNat (get64 [c1, c2, c3, c4, c5, c6, c7, c8]) (get64 [c9, c10, c11, c12, c13, c14, c15, c16]) c17.toNat, .int .i64 0]⟩) (by kernel_rfl) (by simp only [Ev.put, List.set_cons_succ, List.set_cons_zero]; rfl) ?_
  refine does_opk (v := opV c0.toNat (get64 [c1, c2, c3, c4, c5, c6, c7, c8]) (get64 [c9, c10, c11, c12, c13, c14, c15, c16]) c17.toNat) (by kernel_rfl) (by simp only [Ev.put, List.set_cons_succ, List.set_cons_zero]; rfl) ?_
  refine does_opk (v := .int .i64 0) (by kernel_rfl) (by simp only [Ev.put, List.set_cons_succ, List.set_cons_zero]; rfl) ?_
  refine does_opn (v := nptr 2 0) (H1 := ⟨3, (.node (.node .nil (some (.cells [.int .i64 e, .bool dn, .int .u64 v] 27 false)) .nil) (some (.cells [.int .i64 k, .int .u64 key, .int .u64 val, .int .i64 l] 24 false)) (.node .nil (some (.cells [.int .i64 0, .int .u64 0, .int .u64 0, .int .i64 0] 24 false)) .nil))⟩) (by kernel_rfl) (by simp only [Ev.put, List.set_cons_succ, List.set_cons_zero]; rfl) ?_
  refine does_opn (v := undef) (H1 := ⟨3, (.node (.node .nil (some (.cells [.int .i64 e, .bool dn, .int .u64 v] 27 false)) .nil) (some (.cells [.int .i64 k, .int .u64 key, .int .u64 val, .int .i64 l] 24 false)) (.node .nil (some (.cells [.int .i64 c0.toNat, .int .u64 (get64 [c1, c2, c3, c4, c5, c6, c7, c8]), .int .u64 (get64 [c9, c10, c11, c12, c13, c14, c15, c16]), .int .i64 c17.toNat] 24 false)) .nil))⟩) (by kernel_rfl) (by simp only [Ev.put, List.set_cons_succ, List.set_cons_zero]; rfl) ?_
  refine does_opk (v := .int .i64 0) (by kernel_rfl) (by simp only [Ev.put, List.set_cons_succ, List.set_cons_zero]; rfl) ?_
  refine does_nilS ?_
  repeat (with_reducible refine does_seq ?_)
  with_reducible refine does_region ?_
  refine does_opk (v := .string ⟨#[c0, c1, c2, c3, c4, c5, c6, c7, c8, c9, c10, c11, c12, c13, c14, c15, c16, c17]⟩) (by kernel_rfl) (by simp only [Ev.put, List.set_cons_succ, List.set_cons_zero]; rfl) ?_
  refine does_opk (v := .int .i64 18) (by kernel_rfl) (by simp only [Ev.put, List.set_cons_succ, List.set_cons_zero]; rfl) ?_
  refine does_opk (v := .bool false) (by kernel_rfl) (by simp only [Ev.put, List.set_cons_succ, List.set_cons_zero]; rfl) ?_
  refine does_nilS ?_
  repeat (with_reducible refine does_seq ?_)
  refine does_cond (b := false) rfl (fun h => absurd h (by simp)) (fun _ => ?_)
  repeat (with_reducible refine does_seq ?_)
  with_reducible refine does_region ?_
  refine does_opk (v := opV c0.toNat (get64 [c1, c2, c3, c4, c5, c6, c7, c8]) (get64 [c9, c10, c11, c12, c13, c14, c15, c16]) c17.toNat) (by kernel_rfl) (by simp only [Ev.put, List.set_cons_succ, List.set_cons_zero]; rfl) ?_
  refine does_opc rfl (c20_back c0 c1 c2 c3 c4 c5 c6 c7 c8 c9 c10 c11 c12 c13 c14 c15 c16 c17 _) (by simp only [Ev.put, List.set_cons_succ, List.set_cons_zero]; rfl) ?_
  refine does_opk (v := .tuple ⟨[.string ⟨#[c0, c1, c2, c3, c4, c5, c6, c7, c8, c9, c10, c11, c12, c13, c14, c15, c16, c17]⟩, .bool true]⟩) (by kernel_rfl) (by simp only [Ev.put, List.set_cons_succ, List.set_cons_zero]; rfl) ?_
  refine does_opk (v := .string ⟨#[c0, c1, c2, c3, c4, c5, c6, c7, c8, c9, c10, c11, c12, c13, c14, c15, c16, c17]⟩) (by kernel_rfl) (by simp only [Ev.put, List.set_cons_succ, List.set_cons_zero]; rfl) ?_
  refine does_opk (v := .bool true) (by kernel_rfl) (by simp only [Ev.put, List.set_cons_succ, List.set_cons_zero]; rfl) ?_
  refine does_opk (v := .string ⟨#[c0, c1, c2, c3, c4, c5, c6, c7, c8, c9, c10, c11, c12, c13, c14, c15, c16, c17]⟩) (by kernel_rfl) (by simp only [Ev.put, List.set_cons_succ, List.set_cons_zero]; rfl) ?_
  refine does_opk (v := .bool true) (by kernel_rfl) (by simp only [Ev.put, List.set_cons_succ, List.set_cons_zero]; rfl) ?_
  refine does_nilS ?_
  repeat (with_reducible refine does_seq ?_)
  with_reducible refine does_region ?_
  refine does_opk (v := .int .i64 0) (by kernel_rfl) (by simp only [Ev.put, List.set_cons_succ, List.set_cons_zero]; rfl) ?_
  refine does_opk (v := .bool false) (by kernel_rfl) (by simp only [Ev.put, List.set_cons_succ, List.set_cons_zero]; rfl) ?_
  refine does_opk (v := .bool false) (by kernel_rfl) (by simp only [Ev.put, List.set_cons_succ, List.set_cons_zero]; rfl) ?_
  refine does_opk (v := .string ⟨#[c0, c1, c2, c3, c4, c5, c6, c7, c8, c9, c10, c11, c12, c13, c14, c15, c16, c17]⟩) (by kernel_rfl) (by simp only [Ev.put, List.set_cons_succ, List.set_cons_zero]; rfl) ?_
  refine does_opk (v := .string ⟨#[c0, c1, c2, c3, c4, c5, c6, c7, c8, c9, c10, c11, c12, c13, c14, c15, c16, c17]⟩) (by kernel_rfl) (by simp only [Ev.put, List.set_cons_succ, List.set_cons_zero]; rfl) ?_
  refine does_opb (b := false) rfl (by first | exact bytes_ne _ | simp) (by simp only [Ev.put, List.set_cons_succ, List.set_cons_zero]; rfl) ?_
  refine does_opk (v := .bool false) (by kernel_rfl) (by simp only [Ev.put, List.set_cons_succ, List.set_cons_zero]; rfl) ?_
  refine does_nilS ?_
  repeat (with_reducible refine does_seq ?_)
  refine does_cond (b := false) rfl (fun h => absurd h (by simp)) (fun _ => ?_)
  refine does_skipS ?_
  repeat (with_reducible refine does_seq ?_)
  with_reducible refine does_region ?_
  refine does_opk (v := .string ⟨#[c0, c1, c2, c3, c4, c5, c6, c7, c8, c9, c10, c11, c12, c13, c14, c15, c16, c17]⟩) (by kernel_rfl) (by simp only [Ev.put, List.set_cons_succ, List.set_cons_zero]; rfl) ?_
  refine does_opc rfl (c19_no (by show ¬ ((18 : Nat) = 10); omega) _) (by simp only [Ev.put, List.set_cons_succ, List.set_cons_zero]; rfl) ?_
  refine does_opk (v := .tuple ⟨[anV 0 false 0, .int .i64 4]⟩) (by kernel_rfl) (by simp only [Ev.put, List.set_cons_succ, List.set_cons_zero]; rfl) ?_
  refine does_opk (v := anV 0 false 0) (by kernel_rfl) (by simp only [Ev.put, List.set_cons_succ, List.set_cons_zero]; rfl) ?_
  refine does_opk (v := .int .i64 4) (by kernel_rfl) (by simp only [Ev.put, List.set_cons_succ, List.set_cons_zero]; rfl) ?_
  refine does_opn (v := nptr 3 0) (H1 := ⟨4, (.node (.node (.node .nil (some (.cells [.int .i64 0, .bool false, .int .u64 0] 27 false)) .nil) (some (.cells [.int .i64 e, .bool dn, .int .u64 v] 27 false)) .nil) (some (.cells [.int .i64 k, .int .u64 key, .int .u64 val, .int .i64 l] 24 false)) (.node .nil (some (.cells [.int .i64 c0.toNat, .int .u64 (get64 [c1, c2, c3, c4, c5, c6, c7, c8]), .int .u64 (get64 [c9, c10, c11, c12, c13, c14, c15, c16]), .int .i64 c17.toNat] 24 false)) .nil))⟩) (by kernel_rfl) (by simp only [Ev.put, List.set_cons_succ, List.set_cons_zero]; rfl) ?_
  refine does_opn (v := undef) (H1 := ⟨4, (.node (.node (.node .nil (some (.cells [.int .i64 0, .bool false, .int .u64 0] 27 false)) .nil) (some (.cells [.int .i64 e, .bool dn, .int .u64 v] 27 false)) .nil) (some (.cells [.int .i64 k, .int .u64 key, .int .u64 val, .int .i64 l] 24 false)) (.node .nil (some (.cells [.int .i64 c0.toNat, .int .u64 (get64 [c1, c2, c3, c4, c5, c6, c7, c8]), .int .u64 (get64 [c9, c10, c11, c12, c13, c14, c15, c16]), .int .i64 c17.toNat] 24 false)) .nil))⟩) (by kernel_rfl) (by simp only [Ev.put, List.set_cons_succ, List.set_cons_zero]; rfl) ?_
  refine does_opk (v := .int .i64 4) (by kernel_rfl) (by simp only [Ev.put, List.set_cons_succ, List.set_cons_zero]; rfl) ?_
  refine does_nilS ?_
  repeat (with_reducible refine does_seq ?_)
  with_reducible refine does_region ?_
  refine does_opk (v := .string ⟨#[c0, c1, c2, c3, c4, c5, c6, c7, c8, c9, c10, c11, c12, c13, c14, c15, c16, c17]⟩) (by kernel_rfl) (by simp only [Ev.put, List.set_cons_succ, List.set_cons_zero]; rfl) ?_
  refine does_opk (v := .int .i64 18) (by kernel_rfl) (by simp only [Ev.put, List.set_cons_succ, List.set_cons_zero]; rfl) ?_
  refine does_opk (v := .bool true) (by kernel_rfl) (by simp only [Ev.put, List.set_cons_succ, List.set_cons_zero]; rfl) ?_
  refine does_opk (v := .bool true) (by kernel_rfl) (by simp only [Ev.put, List.set_cons_succ, List.set_cons_zero]; rfl) ?_
  refine does_opk (v := undef) (by kernel_rfl) (by simp only [Ev.put, List.set_cons_succ, List.set_cons_zero]; rfl) ?_
  refine does_opk (v := undef) (by kernel_rfl) (by simp only [Ev.put, List.set_cons_succ, List.set_cons_zero]; rfl) ?_
  refine does_opk (v := undef) (by kernel_rfl) (by simp only [Ev.put, List.set_cons_succ, List.set_cons_zero]; rfl) ?_
  refine does_opk (v := .bool true) (by kernel_rfl) (by simp only [Ev.put, List.set_cons_succ, List.set_cons_zero]; rfl) ?_
  refine does_nilS ?_
  repeat (with_reducible refine does_seq ?_)
  refine does_cond (b := true) rfl (fun _ => ?_) (fun h => absurd h (by simp))
  repeat (with_reducible refine does_seq ?_)
  with_reducible refine does_region ?_
  refine does_opk (v := .int .i64 4) (by kernel_rfl) (by simp only [Ev.put, List.set_cons_succ, List.set_cons_zero]; rfl) ?_
  refine does_opk (v := .bool false) (by kernel_rfl) (by simp only [Ev.put, List.set_cons_succ, List.set_cons_zero]; rfl) ?_
  refine does_opk (v := .bool false) (by kernel_rfl) (by simp only [Ev.put, List.set_cons_succ, List.set_cons_zero]; rfl) ?_
  refine does_opk (v := anV 0 false 0) (by kernel_rfl) (by simp only [Ev.put, List.set_cons_succ, List.set_cons_zero]; rfl) ?_
  refine does_opk (v := anV 0 false 0) (by kernel_rfl) (by simp only [Ev.put, List.set_cons_succ, List.set_cons_zero]; rfl) ?_
  refine does_opk (v := .bool false) (by kernel_rfl) (by simp only [Ev.put, List.set_cons_succ, List.set_cons_zero]; rfl) ?_
  refine does_opk (v := .bool false) (by kernel_rfl) (by simp only [Ev.put, List.set_cons_succ, List.set_cons_zero]; rfl) ?_
  refine does_nilS ?_
  repeat (with_reducible refine does_seq ?_)
  refine does_cond (b := false) rfl (fun h => absurd h (by simp)) (fun _ => ?_)
  refine does_skipS ?_
  exact rest4 (by kernel_rfl)

end Go.Proofs.YtiiabmpobgoajaaGreat
