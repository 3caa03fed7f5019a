/- Part of the proof: R4. -/
import Derived.Test.YtiiabmpobgoajaaGreatR0
set_option linter.all false
namespace Go.Proofs.YtiiabmpobgoajaaGreat
open Go Go.Ev Tab
set_option maxRecDepth 10000
set_option maxHeartbeats 4000000
attribute [local irreducible] runw loopw

theorem w3_ny_same (k key val l k2 key2 val2 l2 e v : Int) (dn : Bool) (hno : ¬ (Byt k ∧ Byt l)) (hk2 : Byt k2) (hl2 : Byt l2) (he : Byt e) (hv : Rng v) : Does (runw ctx2 3 [opV k key val l, opV k2 key2 val2 l2, anV e dn v, anV e dn v] hp0) fun r => r.1 = .bool true := by
  refine does_run (fi := g3) rfl rfl rfl rfl ?_
  have e0 : mkEnv g3.fn.ntmps [opV k key val l, opV k2 key2 val2 l2, anV e dn v, anV e dn v] = some (opV k key val l) :: some (opV k2 key2 val2 l2) :: some (anV e dn v) :: some (anV e dn v) :: [some undef, some undef, some undef, some undef, some undef, some undef, some undef, some undef, some undef, some undef, some undef, some undef, some undef, some undef, some undef, some undef, some undef, some undef, some undef, some undef, some undef, some undef, some undef, some undef, some undef, some undef, some undef, some undef, some undef, some undef, some undef, some undef, some undef, some undef, some undef, some undef, some undef, some undef, some undef, some undef, some undef, some undef, some undef, some undef, some undef, some undef, some undef, some undef, some undef, some undef, some undef, some undef, some undef, some undef, some undef, some undef, some undef, some undef, some undef, some undef, some undef, some undef, some undef, some undef, some undef, some undef, some undef, some undef, some undef, some undef, some undef, some undef, some undef, some undef, some undef, some undef, some undef, some undef, some undef, some undef, some undef, some undef, some undef, some undef, some undef, some undef, some undef, some undef, some undef, some undef, some undef, some undef, some undef] := by kernel_rfl
  rw [e0]
  repeat (with_reducible refine does_seq ?_)
  with_reducible refine does_region ?_
  refine does_opn (v := nptr 0 0) (H1 := ⟨1, (.node .nil (some (.cells [.int .i64 k, .int .u64 key, .int .u64 val, .int .i64 l] 24 false)) .nil)⟩) (by kernel_rfl) (by simp only [Ev.put, List.set_cons_succ, List.set_cons_zero]; rfl) ?_
  refine does_opn (v := nptr 1 0) (H1 := ⟨2, (.node (.node .nil (some (.cells [.int .i64 k2, .int .u64 key2, .int .u64 val2, .int .i64 l2] 24 false)) .nil) (some (.cells [.int .i64 k, .int .u64 key, .int .u64 val, .int .i64 l] 24 false)) .nil)⟩) (by kernel_rfl) (by simp only [Ev.put, List.set_cons_succ, List.set_cons_zero]; rfl) ?_
  refine does_opn (v := nptr 2 0) (H1 := ⟨3, (.node (.node .nil (some (.cells [.int .i64 k2, .int .u64 key2, .int .u64 val2, .int .i64 l2] 24 false)) .nil) (some (.cells [.int .i64 k, .int .u64 key, .int .u64 val, .int .i64 l] 24 false)) (.node .nil (some (.cells [.int .i64 e, .bool dn, .int .u64 v] 27 false)) .nil))⟩) (by kernel_rfl) (by simp only [Ev.put, List.set_cons_succ, List.set_cons_zero]; rfl) ?_
  refine does_opn (v := nptr 3 0) (H1 := ⟨4, (.node (.node (.node .nil (some (.cells [.int .i64 e, .bool dn, .int .u64 v] 27 false)) .nil) (some (.cells [.int .i64 k2, .int .u64 key2, .int .u64 val2, .int .i64 l2] 24 false)) .nil) (some (.cells [.int .i64 k, .int .u64 key, .int .u64 val, .int .i64 l] 24 false)) (.node .nil (some (.cells [.int .i64 e, .bool dn, .int .u64 v] 27 false)) .nil))⟩) (by kernel_rfl) (by simp only [Ev.put, List.set_cons_succ, List.set_cons_zero]; rfl) ?_
  refine does_opn rfl (by simp only [Ev.put, List.set_cons_succ, List.set_cons_zero]; rfl) ?_
  refine does_nilS ?_
  repeat (with_reducible refine does_seq ?_)
  with_reducible refine does_region ?_
  refine does_opc rfl (awk2 _) (by simp only [Ev.put, List.set_cons_succ, List.set_cons_zero]; rfl) ?_
  refine does_opn rfl (by simp only [Ev.put, List.set_cons_succ, List.set_cons_zero]; rfl) ?_
  refine does_nilS ?_
  repeat (with_reducible refine does_seq ?_)
  refine does_cond (b := false) rfl (fun h => absurd h (by simp)) (fun _ => ?_)
  refine does_skipS ?_
  repeat (with_reducible refine does_seq ?_)
  with_reducible refine does_region ?_
  refine does_opk (v := opV k key val l) (by kernel_rfl) (by simp only [Ev.put, List.set_cons_succ, List.set_cons_zero]; rfl) ?_
  refine does_opc rfl (c16_no key val hno _) (by simp only [Ev.put, List.set_cons_succ, List.set_cons_zero]; rfl) ?_
  refine does_opk (v := .tuple ⟨[noS, .int .i64 3]⟩) (by kernel_rfl) (by simp only [Ev.put, List.set_cons_succ, List.set_cons_zero]; rfl) ?_
  refine does_opk (v := noS) (by kernel_rfl) (by simp only [Ev.put, List.set_cons_succ, List.set_cons_zero]; rfl) ?_
  refine does_opk (v := .int .i64 3) (by kernel_rfl) (by simp only [Ev.put, List.set_cons_succ, List.set_cons_zero]; rfl) ?_
  refine does_opk (v := noS) (by kernel_rfl) (by simp only [Ev.put, List.set_cons_succ, List.set_cons_zero]; rfl) ?_
  refine does_opk (v := .int .i64 3) (by kernel_rfl) (by simp only [Ev.put, List.set_cons_succ, List.set_cons_zero]; rfl) ?_
  refine does_nilS ?_
  repeat (with_reducible refine does_seq ?_)
  with_reducible refine does_region ?_
  refine does_opk (v := opV k2 key2 val2 l2) (by kernel_rfl) (by simp only [Ev.put, List.set_cons_succ, List.set_cons_zero]; rfl) ?_
  refine does_opc rfl (c16_yes key2 val2 hk2 hl2 _) (by simp only [Ev.put, List.set_cons_succ, List.set_cons_zero]; rfl) ?_
  refine does_opk (v := .tuple ⟨[opS k2 key2 val2 l2, .int .i64 0]⟩) (by kernel_rfl) (by simp only [Ev.put, List.set_cons_succ, List.set_cons_zero]; rfl) ?_
  refine does_opk (v := opS k2 key2 val2 l2) (by kernel_rfl) (by simp only [Ev.put, List.set_cons_succ, List.set_cons_zero]; rfl) ?_
  refine does_opk (v := .int .i64 0) (by kernel_rfl) (by simp only [Ev.put, List.set_cons_succ, List.set_cons_zero]; rfl) ?_
  refine does_opk (v := opS k2 key2 val2 l2) (by kernel_rfl) (by simp only [Ev.put, List.set_cons_succ, List.set_cons_zero]; rfl) ?_
  refine does_opk (v := .int .i64 0) (by kernel_rfl) (by simp only [Ev.put, List.set_cons_succ, List.set_cons_zero]; rfl) ?_
  refine does_nilS ?_
  repeat (with_reducible refine does_seq ?_)
  with_reducible refine does_region ?_
  refine does_opk (v := .int .i64 3) (by kernel_rfl) (by simp only [Ev.put, List.set_cons_succ, List.set_cons_zero]; rfl) ?_
  refine does_opk (v := .bool false) (by kernel_rfl) (by simp only [Ev.put, List.set_cons_succ, List.set_cons_zero]; rfl) ?_
  refine does_nilS ?_
  repeat (with_reducible refine does_seq ?_)
  refine does_cond (b := false) rfl (fun h => absurd h (by simp)) (fun _ => ?_)
  refine does_skipS ?_
  repeat (with_reducible refine does_seq ?_)
  with_reducible refine does_region ?_
  refine does_opk (v := anV e dn v) (by kernel_rfl) (by simp only [Ev.put, List.set_cons_succ, List.set_cons_zero]; rfl) ?_
  refine does_opc rfl (c18_yes dn v he _) (by simp only [Ev.put, List.set_cons_succ, List.set_cons_zero]; rfl) ?_
  refine does_opk (v := .tuple ⟨[anS e dn v, .int .i64 0]⟩) (by kernel_rfl) (by simp only [Ev.put, List.set_cons_succ, List.set_cons_zero]; rfl) ?_
  refine does_opk (v := anS e dn v) (by kernel_rfl) (by simp only [Ev.put, List.set_cons_succ, List.set_cons_zero]; rfl) ?_
  refine does_opk (v := .int .i64 0) (by kernel_rfl) (by simp only [Ev.put, List.set_cons_succ, List.set_cons_zero]; rfl) ?_
  refine does_opk (v := anS e dn v) (by kernel_rfl) (by simp only [Ev.put, List.set_cons_succ, List.set_cons_zero]; rfl) ?_
  refine does_opk (v := .int .i64 0) (by kernel_rfl) (by simp only [Ev.put, List.set_cons_succ, List.set_cons_zero]; rfl) ?_
  refine does_nilS ?_
  repeat (with_reducible refine does_seq ?_)
  with_reducible refine does_region ?_
  refine does_opk (v := anV e dn v) (by kernel_rfl) (by simp only [Ev.put, List.set_cons_succ, List.set_cons_zero]; rfl) ?_
  refine does_opc rfl (c18_yes dn v he _) (by simp only [Ev.put, List.set_cons_succ, List.set_cons_zero]; rfl) ?_
  refine does_opk (v := .tuple ⟨[anS e dn v, .int .i64 0]⟩) (by kernel_rfl) (by simp only [Ev.put, List.set_cons_succ, List.set_cons_zero]; rfl) ?_
  refine does_opk (v := anS e dn v) (by kernel_rfl) (by simp only [Ev.put, List.set_cons_succ, List.set_cons_zero]; rfl) ?_
  refine does_opk (v := .int .i64 0) (by kernel_rfl) (by simp only [Ev.put, List.set_cons_succ, List.set_cons_zero]; rfl) ?_
  refine does_opk (v := anS e dn v) (by kernel_rfl) (by simp only [Ev.put, List.set_cons_succ, List.set_cons_zero]; rfl) ?_
  refine does_opk (v := .int .i64 0) (by kernel_rfl) (by simp only [Ev.put, List.set_cons_succ, List.set_cons_zero]; rfl) ?_
  refine does_nilS ?_
  repeat (with_reducible refine does_seq ?_)
  with_reducible refine does_region ?_
  refine does_opk (v := .int .i64 0) (by kernel_rfl) (by simp only [Ev.put, List.set_cons_succ, List.set_cons_zero]; rfl) ?_
  refine does_opk (v := .bool true) (by kernel_rfl) (by simp only [Ev.put, List.set_cons_succ, List.set_cons_zero]; rfl) ?_
  refine does_nilS ?_
  repeat (with_reducible refine does_seq ?_)
  refine does_cond (b := true) rfl (fun _ => ?_) (fun h => absurd h (by simp))
  repeat (with_reducible refine does_seq ?_)
  with_reducible refine does_region ?_
  refine does_opk (v := anS e dn v) (by kernel_rfl) (by simp only [Ev.put, List.set_cons_succ, List.set_cons_zero]; rfl) ?_
  refine does_opc rfl (c19_anS dn he hv _) (by simp only [Ev.put, List.set_cons_succ, List.set_cons_zero]; rfl) ?_
  refine does_opk (v := .tuple ⟨[anV e dn v, .int .i64 0]⟩) (by kernel_rfl) (by simp only [Ev.put, List.set_cons_succ, List.set_cons_zero]; rfl) ?_
  refine does_opk (v := anV e dn v) (by kernel_rfl) (by simp only [Ev.put, List.set_cons_succ, List.set_cons_zero]; rfl) ?_
  refine does_opk (v := .int .i64 0) (by kernel_rfl) (by simp only [Ev.put, List.set_cons_succ, List.set_cons_zero]; rfl) ?_
  refine does_opn (v := nptr 4 0) (H1 := ⟨5, (.node (.node (.node .nil (some (.cells [.int .i64 e, .bool dn, .int .u64 v] 27 false)) .nil) (some (.cells [.int .i64 k2, .int .u64 key2, .int .u64 val2, .int .i64 l2] 24 false)) .nil) (some (.cells [.int .i64 k, .int .u64 key, .int .u64 val, .int .i64 l] 24 false)) (.node (.node .nil (some (.cells [.int .i64 0, .bool false, .int .u64 0] 27 false)) .nil) (some (.cells [.int .i64 e, .bool dn, .int .u64 v] 27 false)) .nil))⟩) (by kernel_rfl) (by simp only [Ev.put, List.set_cons_succ, List.set_cons_zero]; rfl) ?_
  refine does_opn (v := undef) (H1 := ⟨5, (.node (.node (.node .nil (some (.cells [.int .i64 e, .bool dn, .int .u64 v] 27 false)) .nil) (some (.cells [.int .i64 k2, .int .u64 key2, .int .u64 val2, .int .i64 l2] 24 false)) .nil) (some (.cells [.int .i64 k, .int .u64 key, .int .u64 val, .int .i64 l] 24 false)) (.node (.node .nil (some (.cells [.int .i64 e, .bool dn, .int .u64 v] 27 false)) .nil) (some (.cells [.int .i64 e, .bool dn, .int .u64 v] 27 false)) .nil))⟩) (by kernel_rfl) (by simp only [Ev.put, List.set_cons_succ, List.set_cons_zero]; rfl) ?_
  refine does_opk (v := .int .i64 0) (by kernel_rfl) (by simp only [Ev.put, List.set_cons_succ, List.set_cons_zero]; rfl) ?_
  refine does_nilS ?_
  repeat (with_reducible refine does_seq ?_)
  with_reducible refine does_region ?_
  refine does_opk (v := .int .i64 0) (by kernel_rfl) (by simp only [Ev.put, List.set_cons_succ, List.set_cons_zero]; rfl) ?_
  refine does_opk (v := .bool false) (by kernel_rfl) (by simp only [Ev.put, List.set_cons_succ, List.set_cons_zero]; rfl) ?_
  refine does_opk (v := .bool false) (by kernel_rfl) (by simp only [Ev.put, List.set_cons_succ, List.set_cons_zero]; rfl) ?_
  refine does_opk (v := anV e dn v) (by kernel_rfl) (by simp only [Ev.put, List.set_cons_succ, List.set_cons_zero]; rfl) ?_
  refine does_opk (v := anV e dn v) (by kernel_rfl) (by simp only [Ev.put, List.set_cons_succ, List.set_cons_zero]; rfl) ?_
  refine does_opbk (b' := !(e == e && (dn == dn && (v == v && true)))) (b := false) (by kernel_rfl) (by simp) (by simp only [Ev.put, List.set_cons_succ, List.set_cons_zero]; rfl) ?_
  refine does_opk (v := .bool false) (by kernel_rfl) (by simp only [Ev.put, List.set_cons_succ, List.set_cons_zero]; rfl) ?_
  refine does_opk (v := .bool false) (by kernel_rfl) (by simp only [Ev.put, List.set_cons_succ, List.set_cons_zero]; rfl) ?_
  refine does_opk (v := .int .i64 0) (by kernel_rfl) (by simp only [Ev.put, List.set_cons_succ, List.set_cons_zero]; rfl) ?_
  refine does_opk (v := .bool true) (by kernel_rfl) (by simp only [Ev.put, List.set_cons_succ, List.set_cons_zero]; rfl) ?_
  refine does_opk (v := .bool true) (by kernel_rfl) (by simp only [Ev.put, List.set_cons_succ, List.set_cons_zero]; rfl) ?_
  refine does_opk (v := anS e dn v) (by kernel_rfl) (by simp only [Ev.put, List.set_cons_succ, List.set_cons_zero]; rfl) ?_
  refine does_opk (v := anS e dn v) (by kernel_rfl) (by simp only [Ev.put, List.set_cons_succ, List.set_cons_zero]; rfl) ?_
  refine does_opbk (b' := ((ansInts e dn v).map b8) == ((ansInts e dn v).map b8)) (b := true) (by kernel_rfl) (by simp) (by simp only [Ev.put, List.set_cons_succ, List.set_cons_zero]; rfl) ?_
  refine does_opk (v := anV e dn v) (by kernel_rfl) (by simp only [Ev.put, List.set_cons_succ, List.set_cons_zero]; rfl) ?_
  refine does_opk (v := anV e dn v) (by kernel_rfl) (by simp only [Ev.put, List.set_cons_succ, List.set_cons_zero]; rfl) ?_
  refine does_opbk (b' := e == e && (dn == dn && (v == v && true))) (b := true) (by kernel_rfl) (by simp) (by simp only [Ev.put, List.set_cons_succ, List.set_cons_zero]; rfl) ?_
  refine does_opk (v := .bool false) (by kernel_rfl) (by simp only [Ev.put, List.set_cons_succ, List.set_cons_zero]; rfl) ?_
  refine does_opk (v := .bool false) (by kernel_rfl) (by simp only [Ev.put, List.set_cons_succ, List.set_cons_zero]; rfl) ?_
  refine does_opk (v := .bool false) (by kernel_rfl) (by simp only [Ev.put, List.set_cons_succ, List.set_cons_zero]; rfl) ?_
  refine does_nilS ?_
  repeat (with_reducible refine does_seq ?_)
  refine does_cond (b := false) rfl (fun h => absurd h (by simp)) (fun _ => ?_)
  refine does_skipS ?_
  repeat (with_reducible refine does_seq ?_)
  with_reducible refine does_region ?_
  refine does_opk (v := .bool true) (by kernel_rfl) (by simp only [Ev.put, List.set_cons_succ, List.set_cons_zero]; rfl) ?_
  refine does_nilS ?_
  exact does_ret ⟨_, rfl, rfl⟩

theorem w3_ny_diff (k key val l k2 key2 val2 l2 e v e2 v2 : Int) (dn dn2 : Bool) (hno : ¬ (Byt k ∧ Byt l)) (hk2 : Byt k2) (hl2 : Byt l2) (he : Byt e) (hv : Rng v) (he2 : Byt e2) (hv2 : Rng v2) (ha : e = e2 → dn = dn2 → ¬v = v2) : Does (runw ctx2 3 [opV k key val l, opV k2 key2 val2 l2, anV e dn v, anV e2 dn2 v2] hp0) fun r => r.1 = .bool true := by
  refine does_run (fi := g3) rfl rfl rfl rfl ?_
  have e0 : mkEnv g3.fn.ntmps [opV k key val l, opV k2 key2 val2 l2, anV e dn v, anV e2 dn2 v2] = some (opV k key val l) :: some (opV k2 key2 val2 l2) :: some (anV e dn v) :: some (anV e2 dn2 v2) :: [some undef, some undef, some undef, some undef, some undef, some undef, some undef, some undef, some undef, some undef, some undef, some undef, some undef, some undef, some undef, some undef, some undef, some undef, some undef, some undef, some undef, some undef, some undef, some undef, some undef, some undef, some undef, some undef, some undef, some undef, some undef, some undef, some undef, some undef, some undef, some undef, some undef, some undef, some undef, some undef, some undef, some undef, some undef, some undef, some undef, some undef, some undef, some undef, some undef, some undef, some undef, some undef, some undef, some undef, some undef, some undef, some undef, some undef, some undef, some undef, some undef, some undef, some undef, some undef, some undef, some undef, some undef, some undef, some undef, some undef, some undef, some undef, some undef, some undef, some undef, some undef, some undef, some undef, some undef, some undef, some undef, some undef, some undef, some undef, some undef, some undef, some undef, some undef, some undef, some undef, some undef, some undef, some undef] := by kernel_rfl
  rw [e0]
  repeat (with_reducible refine does_seq ?_)
  with_reducible refine does_region ?_
  refine does_opn (v := nptr 0 0) (H1 := ⟨1, (.node .nil (some (.cells [.int .i64 k, .int .u64 key, .int .u64 val, .int .i64 l] 24 false)) .nil)⟩) (by kernel_rfl) (by simp only [Ev.put, List.set_cons_succ, List.set_cons_zero]; rfl) ?_
  refine does_opn (v := nptr 1 0) (H1 := ⟨2, (.node (.node .nil (some (.cells [.int .i64 k2, .int .u64 key2, .int .u64 val2, .int .i64 l2] 24 false)) .nil) (some (.cells [.int .i64 k, .int .u64 key, .int .u64 val, .int .i64 l] 24 false)) .nil)⟩) (by kernel_rfl) (by simp only [Ev.put, List.set_cons_succ, List.set_cons_zero]; rfl) ?_
  refine does_opn (v := nptr 2 0) (H1 := ⟨3, (.node (.node .nil (some (.cells [.int .i64 k2, .int .u64 key2, .int .u64 val2, .int .i64 l2] 24 false)) .nil) (some (.cells [.int .i64 k, .int .u64 key, .int .u64 val, .int .i64 l] 24 false)) (.node .nil (some (.cells [.int .i64 e, .bool dn, .int .u64 v] 27 false)) .nil))⟩) (by kernel_rfl) (by simp only [Ev.put, List.set_cons_succ, List.set_cons_zero]; rfl) ?_
  refine does_opn (v := nptr 3 0) (H1 := ⟨4, (.node (.node (.node .nil (some (.cells [.int .i64 e2, .bool dn2, .int .u64 v2] 27 false)) .nil) (some (.cells [.int .i64 k2, .int .u64 key2, .int .u64 val2, .int .i64 l2] 24 false)) .nil) (some (.cells [.int .i64 k, .int .u64 key, .int .u64 val, .int .i64 l] 24 false)) (.node .nil (some (.cells [.int .i64 e, .bool dn, .int .u64 v] 27 false)) .nil))⟩) (by kernel_rfl) (by simp only [Ev.put, List.set_cons_succ, List.set_cons_zero]; rfl) ?_
  refine does_opn rfl (by simp only [Ev.put, List.set_cons_succ, List.set_cons_zero]; rfl) ?_
  refine does_nilS ?_
  repeat (with_reducible refine does_seq ?_)
  with_reducible refine does_region ?_
  refine does_opc rfl (awk2 _) (by simp only [Ev.put, List.set_cons_succ, List.set_cons_zero]; rfl) ?_
  refine does_opn rfl (by simp only [Ev.put, List.set_cons_succ, List.set_cons_zero]; rfl) ?_
  refine does_nilS ?_
  repeat (with_reducible refine does_seq ?_)
  refine does_cond (b := false) rfl (fun h => absurd h (by simp)) (fun _ => ?_)
  refine does_skipS ?_
  repeat (with_reducible refine does_seq ?_)
  with_reducible refine does_region ?_
  refine does_opk (v := opV k key val l) (by kernel_rfl) (by simp only [Ev.put, List.set_cons_succ, List.set_cons_zero]; rfl) ?_
  refine does_opc rfl (c16_no key val hno _) (by simp only [Ev.put, List.set_cons_succ, List.set_cons_zero]; rfl) ?_
  refine does_opk (v := .tuple ⟨[noS, .int .i64 3]⟩) (by kernel_rfl) (by simp only [Ev.put, List.set_cons_succ, List.set_cons_zero]; rfl) ?_
  refine does_opk (v := noS) (by kernel_rfl) (by simp only [Ev.put, List.set_cons_succ, List.set_cons_zero]; rfl) ?_
  refine does_opk (v := .int .i64 3) (by kernel_rfl) (by simp only [Ev.put, List.set_cons_succ, List.set_cons_zero]; rfl) ?_
  refine does_opk (v := noS) (by kernel_rfl) (by simp only [Ev.put, List.set_cons_succ, List.set_cons_zero]; rfl) ?_
  refine does_opk (v := .int .i64 3) (by kernel_rfl) (by simp only [Ev.put, List.set_cons_succ, List.set_cons_zero]; rfl) ?_
  refine does_nilS ?_
  repeat (with_reducible refine does_seq ?_)
  with_reducible refine does_region ?_
  refine does_opk (v := opV k2 key2 val2 l2) (by kernel_rfl) (by simp only [Ev.put, List.set_cons_succ, List.set_cons_zero]; rfl) ?_
  refine does_opc rfl (c16_yes key2 val2 hk2 hl2 _) (by simp only [Ev.put, List.set_cons_succ, List.set_cons_zero]; rfl) ?_
  refine does_opk (v := .tuple ⟨[opS k2 key2 val2 l2, .int .i64 0]⟩) (by kernel_rfl) (by simp only [Ev.put, List.set_cons_succ, List.set_cons_zero]; rfl) ?_
  refine does_opk (v := opS k2 key2 val2 l2) (by kernel_rfl) (by simp only [Ev.put, List.set_cons_succ, List.set_cons_zero]; rfl) ?_
  refine does_opk (v := .int .i64 0) (by kernel_rfl) (by simp only [Ev.put, List.set_cons_succ, List.set_cons_zero]; rfl) ?_
  refine does_opk (v := opS k2 key2 val2 l2) (by kernel_rfl) (by simp only [Ev.put, List.set_cons_succ, List.set_cons_zero]; rfl) ?_
  refine does_opk (v := .int .i64 0) (by kernel_rfl) (by simp only [Ev.put, List.set_cons_succ, List.set_cons_zero]; rfl) ?_
  refine does_nilS ?_
  repeat (with_reducible refine does_seq ?_)
  with_reducible refine does_region ?_
  refine does_opk (v := .int .i64 3) (by kernel_rfl) (by simp only [Ev.put, List.set_cons_succ, List.set_cons_zero]; rfl) ?_
  refine does_opk (v := .bool false) (by kernel_rfl) (by simp only [Ev.put, List.set_cons_succ, List.set_cons_zero]; rfl) ?_
  refine does_nilS ?_
  repeat (with_reducible refine does_seq ?_)
  refine does_cond (b := false) rfl (fun h => absurd h (by simp)) (fun _ => ?_)
  refine does_skipS ?_
  repeat (with_reducible refine does_seq ?_)
  with_reducible refine does_region ?_
  refine does_opk (v := anV e dn v) (by kernel_rfl) (by simp only [Ev.put, List.set_cons_succ, List.set_cons_zero]; rfl) ?_
  refine does_opc rfl (c18_yes dn v he _) (by simp only [Ev.put, List.set_cons_succ, List.set_cons_zero]; rfl) ?_
  refine does_opk (v := .tuple ⟨[anS e dn v, .int .i64 0]⟩) (by kernel_rfl) (by simp only [Ev.put, List.set_cons_succ, List.set_cons_zero]; rfl) ?_
  refine does_opk (v := anS e dn v) (by kernel_rfl) (by simp only [Ev.put, List.set_cons_succ, List.set_cons_zero]; rfl) ?_
  refine does_opk (v := .int .i64 0) (by kernel_rfl) (by simp only [Ev.put, List.set_cons_succ, List.set_cons_zero]; rfl) ?_
  refine does_opk (v := anS e dn v) (by kernel_rfl) (by simp only [Ev.put, List.set_cons_succ, List.set_cons_zero]; rfl) ?_
  refine does_opk (v := .int .i64 0) (by kernel_rfl) (by simp only [Ev.put, List.set_cons_succ, List.set_cons_zero]; rfl) ?_
  refine does_nilS ?_
  repeat (with_reducible refine does_seq ?_)
  with_reducible refine does_region ?_
  refine does_opk (v := anV e2 dn2 v2) (by kernel_rfl) (by simp only [Ev.put, List.set_cons_succ, List.set_cons_zero]; rfl) ?_
  refine does_opc rfl (c18_yes dn2 v2 he2 _) (by simp only [Ev.put, List.set_cons_succ, List.set_cons_zero]; rfl) ?_
  refine does_opk (v := .tuple ⟨[anS e2 dn2 v2, .int .i64 0]⟩) (by kernel_rfl) (by simp only [Ev.put, List.set_cons_succ, List.set_cons_zero]; rfl) ?_
  refine does_opk (v := anS e2 dn2 v2) (by kernel_rfl) (by simp only [Ev.put, List.set_cons_succ, List.set_cons_zero]; rfl) ?_
  refine does_opk (v := .int .i64 0) (by kernel_rfl) (by simp only [Ev.put, List.set_cons_succ, List.set_cons_zero]; rfl) ?_
  refine does_opk (v := anS e2 dn2 v2) (by kernel_rfl) (by simp only [Ev.put, List.set_cons_succ, List.set_cons_zero]; rfl) ?_
  refine does_opk (v := .int .i64 0) (by kernel_rfl) (by simp only [Ev.put, List.set_cons_succ, List.set_cons_zero]; rfl) ?_
  refine does_nilS ?_
  repeat (with_reducible refine does_seq ?_)
  with_reducible refine does_region ?_
  refine does_opk (v := .int .i64 0) (by kernel_rfl) (by simp only [Ev.put, List.set_cons_succ, List.set_cons_zero]; rfl) ?_
  refine does_opk (v := .bool true) (by kernel_rfl) (by simp only [Ev.put, List.set_cons_succ, List.set_cons_zero]; rfl) ?_
  refine does_nilS ?_
  repeat (with_reducible refine does_seq ?_)
  refine does_cond (b := true) rfl (fun _ => ?_) (fun h => absurd h (by simp))
  repeat (with_reducible refine does_seq ?_)
  with_reducible refine does_region ?_
  refine does_opk (v := anS e dn v) (by kernel_rfl) (by simp only [Ev.put, List.set_cons_succ, List.set_cons_zero]; rfl) ?_
  refine does_opc rfl (c19_anS dn he hv _) (by simp only [Ev.put, List.set_cons_succ, List.set_cons_zero]; rfl) ?_
  refine does_opk (v := .tuple ⟨[anV e dn v, .int .i64 0]⟩) (by kernel_rfl) (by simp only [Ev.put, List.set_cons_succ, List.set_cons_zero]; rfl) ?_
  refine does_opk (v := anV e dn v) (by kernel_rfl) (by simp only [Ev.put, List.set_cons_succ, List.set_cons_zero]; rfl) ?_
  refine does_opk (v := .int .i64 0) (by kernel_rfl) (by simp only [Ev.put, List.set_cons_succ, List.set_cons_zero]; rfl) ?_
  refine does_opn (v := nptr 4 0) (H1 := ⟨5, (.node (.node (.node .nil (some (.cells [.int .i64 e2, .bool dn2, .int .u64 v2] 27 false)) .nil) (some (.cells [.int .i64 k2, .int .u64 key2, .int .u64 val2, .int .i64 l2] 24 false)) .nil) (some (.cells [.int .i64 k, .int .u64 key, .int .u64 val, .int .i64 l] 24 false)) (.node (.node .nil (some (.cells [.int .i64 0, .bool false, .int .u64 0] 27 false)) .nil) (some (.cells [.int .i64 e, .bool dn, .int .u64 v] 27 false)) .nil))⟩) (by kernel_rfl) (by simp only [Ev.put, List.set_cons_succ, List.set_cons_zero]; rfl) ?_
  refine does_opn (v := undef) (H1 := ⟨5, (.node (.node (.node .nil (some (.cells [.int .i64 e2, .bool dn2, .int .u64 v2] 27 false)) .nil) (some (.cells [.int .i64 k2, .int .u64 key2, .int .u64 val2, .int .i64 l2] 24 false)) .nil) (some (.cells [.int .i64 k, .int .u64 key, .int .u64 val, .int .i64 l] 24 false)) (.node (.node .nil (some (.cells [.int .i64 e, .bool dn, .int .u64 v] 27 false)) .nil) (some (.cells [.int .i64 e, .bool dn, .int .u64 v] 27 false)) .nil))⟩) (by kernel_rfl) (by simp only [Ev.put, List.set_cons_succ, List.set_cons_zero]; rfl) ?_
  refine does_opk (v := .int .i64 0) (by kernel_rfl) (by simp only [Ev.put, List.set_cons_succ, List.set_cons_zero]; rfl) ?_
  refine does_nilS ?_
  repeat (with_reducible refine does_seq ?_)
  with_reducible refine does_region ?_
  refine does_opk (v := .int .i64 0) (by kernel_rfl) (by simp only [Ev.put, List.set_cons_succ, List.set_cons_zero]; rfl) ?_
  refine does_opk (v := .bool false) (by kernel_rfl) (by simp only [Ev.put, List.set_cons_succ, List.set_cons_zero]; rfl) ?_
  refine does_opk (v := .bool false) (by kernel_rfl) (by simp only [Ev.put, List.set_cons_succ, List.set_cons_zero]; rfl) ?_
  refine does_opk (v := anV e dn v) (by kernel_rfl) (by simp only [Ev.put, List.set_cons_succ, List.set_cons_zero]; rfl) ?_
  refine does_opk (v := anV e dn v) (by kernel_rfl) (by simp only [Ev.put, List.set_cons_succ, List.set_cons_zero]; rfl) ?_
  refine does_opbk (b' := !(e == e && (dn == dn && (v == v && true)))) (b := false) (by kernel_rfl) (by simp) (by simp only [Ev.put, List.set_cons_succ, List.set_cons_zero]; rfl) ?_
  refine does_opk (v := .bool false) (by kernel_rfl) (by simp only [Ev.put, List.set_cons_succ, List.set_cons_zero]; rfl) ?_
  refine does_opk (v := .bool false) (by kernel_rfl) (by simp only [Ev.put, List.set_cons_succ, List.set_cons_zero]; rfl) ?_
  refine does_opk (v := .int .i64 0) (by kernel_rfl) (by simp only [Ev.put, List.set_cons_succ, List.set_cons_zero]; rfl) ?_
  refine does_opk (v := .bool true) (by kernel_rfl) (by simp only [Ev.put, List.set_cons_succ, List.set_cons_zero]; rfl) ?_
  refine does_opk (v := .bool true) (by kernel_rfl) (by simp only [Ev.put, List.set_cons_succ, List.set_cons_zero]; rfl) ?_
  refine does_opk (v := anS e dn v) (by kernel_rfl) (by simp only [Ev.put, List.set_cons_succ, List.set_cons_zero]; rfl) ?_
  refine does_opk (v := anS e2 dn2 v2) (by kernel_rfl) (by simp only [Ev.put, List.set_cons_succ, List.set_cons_zero]; rfl) ?_
  refine does_opbk (b' := ((ansInts e dn v).map b8) == ((ansInts e2 dn2 v2).map b8)) (b := false) (by kernel_rfl) (an_ne he hv he2 hv2 ha) (by simp only [Ev.put, List.set_cons_succ, List.set_cons_zero]; rfl) ?_
  refine does_opk (v := anV e dn v) (by kernel_rfl) (by simp only [Ev.put, List.set_cons_succ, List.set_cons_zero]; rfl) ?_
  refine does_opk (v := anV e2 dn2 v2) (by kernel_rfl) (by simp only [Ev.put, List.set_cons_succ, List.set_cons_zero]; rfl) ?_
  refine does_opbk (b' := e == e2 && (dn == dn2 && (v == v2 && true))) (b := false) (by kernel_rfl) (by simp; exact ha) (by simp only [Ev.put, List.set_cons_succ, List.set_cons_zero]; rfl) ?_
  refine does_opk (v := .bool false) (by kernel_rfl) (by simp only [Ev.put, List.set_cons_succ, List.set_cons_zero]; rfl) ?_
  refine does_opk (v := .bool false) (by kernel_rfl) (by simp only [Ev.put, List.set_cons_succ, List.set_cons_zero]; rfl) ?_
  refine does_opk (v := .bool false) (by kernel_rfl) (by simp only [Ev.put, List.set_cons_succ, List.set_cons_zero]; rfl) ?_
  refine does_nilS ?_
  repeat (with_reducible refine does_seq ?_)
  refine does_cond (b := false) rfl (fun h => absurd h (by simp)) (fun _ => ?_)
  refine does_skipS ?_
  repeat (with_reducible refine does_seq ?_)
  with_reducible refine does_region ?_
  refine does_opk (v := .bool true) (by kernel_rfl) (by simp only [Ev.put, List.set_cons_succ, List.set_cons_zero]; rfl) ?_
  refine does_nilS ?_
  exact does_ret ⟨_, rfl, rfl⟩

theorem w3_ny_yn (k key val l k2 key2 val2 l2 e v e2 v2 : Int) (dn dn2 : Bool) (hno : ¬ (Byt k ∧ Byt l)) (hk2 : Byt k2) (hl2 : Byt l2) (he : Byt e) (hv : Rng v) (hne2 : ¬ Byt e2) : Does (runw ctx2 3 [opV k key val l, opV k2 key2 val2 l2, anV e dn v, anV e2 dn2 v2] hp0) fun r => r.1 = .bool true := by
  refine does_run (fi := g3) rfl rfl rfl rfl ?_
  have e0 : mkEnv g3.fn.ntmps [opV k key val l, opV k2 key2 val2 l2, anV e dn v, anV e2 dn2 v2] = some (opV k key val l) :: some (opV k2 key2 val2 l2) :: some (anV e dn v) :: some (anV e2 dn2 v2) :: [some undef, some undef, some undef, some undef, some undef, some undef, some undef, some undef, some undef, some undef, some undef, some undef, some undef, some undef, some undef, some undef, some undef, some undef, some undef, some undef, some undef, some undef, some undef, some undef, some undef, some undef, some undef, some undef, some undef, some undef, some undef, some undef, some undef, some undef, some undef, some undef, some undef, some undef, some undef, some undef, some undef, some undef, some undef, some undef, some undef, some undef, some undef, some undef, some undef, some undef, some undef, some undef, some undef, some undef, some undef, some undef, some undef, some undef, some undef, some undef, some undef, some undef, some undef, some undef, some undef, some undef, some undef, some undef, some undef, some undef, some undef, some undef, some undef, some undef, some undef, some undef, some undef, some undef, some undef, some undef, some undef, some undef, some undef, some undef, some undef, some undef, some undef, some undef, some undef, some undef, some undef, some undef, some undef] := by kernel_rfl
  rw [e0]
  repeat (with_reducible refine does_seq ?_)
  with_reducible refine does_region ?_
  refine does_opn (v := nptr 0 0) (H1 := ⟨1, (.node .nil (some (.cells [.int .i64 k, .int .u64 key, .int .u64 val, .int .i64 l] 24 false)) .nil)⟩) (by kernel_rfl) (by simp only [Ev.put, List.set_cons_succ, List.set_cons_zero]; rfl) ?_
  refine does_opn (v := nptr 1 0) (H1 := ⟨2, (.node (.node .nil (some (.cells [.int .i64 k2, .int .u64 key2, .int .u64 val2, .int .i64 l2] 24 false)) .nil) (some (.cells [.int .i64 k, .int .u64 key, .int .u64 val, .int .i64 l] 24 false)) .nil)⟩) (by kernel_rfl) (by simp only [Ev.put, List.set_cons_succ, List.set_cons_zero]; rfl) ?_
  refine does_opn (v := nptr 2 0) (H1 := ⟨3, (.node (.node .nil (some (.cells [.int .i64 k2, .int .u64 key2, .int .u64 val2, .int .i64 l2] 24 false)) .nil) (some (.cells [.int .i64 k, .int .u64 key, .int .u64 val, .int .i64 l] 24 false)) (.node .nil (some (.cells [.int .i64 e, .bool dn, .int .u64 v] 27 false)) .nil))⟩) (by kernel_rfl) (by simp only [Ev.put, List.set_cons_succ, List.set_cons_zero]; rfl) ?_
  refine does_opn (v := nptr 3 0) (H1 := ⟨4, (.node (.node (.node .nil (some (.cells [.int .i64 e2, .bool dn2, .int .u64 v2] 27 false)) .nil) (some (.cells [.int .i64 k2, .int .u64 key2, .int .u64 val2, .int .i64 l2] 24 false)) .nil) (some (.cells [.int .i64 k, .int .u64 key, .int .u64 val, .int .i64 l] 24 false)) (.node .nil (some (.cells [.int .i64 e, .bool dn, .int .u64 v] 27 false)) .nil))⟩) (by kernel_rfl) (by simp only [Ev.put, List.set_cons_succ, List.set_cons_zero]; rfl) ?_
  refine does_opn rfl (by simp only [Ev.put, List.set_cons_succ, List.set_cons_zero]; rfl) ?_
  refine does_nilS ?_
  repeat (with_reducible refine does_seq ?_)
  with_reducible refine does_region ?_
  refine does_opc rfl (awk2 _) (by simp only [Ev.put, List.set_cons_succ, List.set_cons_zero]; rfl) ?_
  refine does_opn rfl (by simp only [Ev.put, List.set_cons_succ, List.set_cons_zero]; rfl) ?_
  refine does_nilS ?_
  repeat (with_reducible refine does_seq ?_)
  refine does_cond (b := false) rfl (fun h => absurd h (by simp)) (fun _ => ?_)
  refine does_skipS ?_
  repeat (with_reducible refine does_seq ?_)
  with_reducible refine does_region ?_
  refine does_opk (v := opV k key val l) (by kernel_rfl) (by simp only [Ev.put, List.set_cons_succ, List.set_cons_zero]; rfl) ?_
  refine does_opc rfl (c16_no key val hno _) (by simp only [Ev.put, List.set_cons_succ, List.set_cons_zero]; rfl) ?_
  refine does_opk (v := .tuple ⟨[noS, .int .i64 3]⟩) (by kernel_rfl) (by simp only [Ev.put, List.set_cons_succ, List.set_cons_zero]; rfl) ?_
  refine does_opk (v := noS) (by kernel_rfl) (by simp only [Ev.put, List.set_cons_succ, List.set_cons_zero]; rfl) ?_
  refine does_opk (v := .int .i64 3) (by kernel_rfl) (by simp only [Ev.put, List.set_cons_succ, List.set_cons_zero]; rfl) ?_
  refine does_opk (v := noS) (by kernel_rfl) (by simp only [Ev.put, List.set_cons_succ, List.set_cons_zero]; rfl) ?_
  refine does_opk (v := .int .i64 3) (by kernel_rfl) (by simp only [Ev.put, List.set_cons_succ, List.set_cons_zero]; rfl) ?_
  refine does_nilS ?_
  repeat (with_reducible refine does_seq ?_)
  with_reducible refine does_region ?_
  refine does_opk (v := opV k2 key2 val2 l2) (by kernel_rfl) (by simp only [Ev.put, List.set_cons_succ, List.set_cons_zero]; rfl) ?_
  refine does_opc rfl (c16_yes key2 val2 hk2 hl2 _) (by simp only [Ev.put, List.set_cons_succ, List.set_cons_zero]; rfl) ?_
  refine does_opk (v := .tuple ⟨[opS k2 key2 val2 l2, .int .i64 0]⟩) (by kernel_rfl) (by simp only [Ev.put, List.set_cons_succ, List.set_cons_zero]; rfl) ?_
  refine does_opk (v := opS k2 key2 val2 l2) (by kernel_rfl) (by simp only [Ev.put, List.set_cons_succ, List.set_cons_zero]; rfl) ?_
  refine does_opk (v := .int .i64 0) (by kernel_rfl) (by simp only [Ev.put, List.set_cons_succ, List.set_cons_zero]; rfl) ?_
  refine does_opk (v := opS k2 key2 val2 l2) (by kernel_rfl) (by simp only [Ev.put, List.set_cons_succ, List.set_cons_zero]; rfl) ?_
  refine does_opk (v := .int .i64 0) (by kernel_rfl) (by simp only [Ev.put, List.set_cons_succ, List.set_cons_zero]; rfl) ?_
  refine does_nilS ?_
  repeat (with_reducible refine does_seq ?_)
  with_reducible refine does_region ?_
  refine does_opk (v := .int .i64 3) (by kernel_rfl) (by simp only [Ev.put, List.set_cons_succ, List.set_cons_zero]; rfl) ?_
  refine does_opk (v := .bool false) (by kernel_rfl) (by simp only [Ev.put, List.set_cons_succ, List.set_cons_zero]; rfl) ?_
  refine does_nilS ?_
  repeat (with_reducible refine does_seq ?_)
  refine does_cond (b := false) rfl (fun h => absurd h (by simp)) (fun _ => ?_)
  refine does_skipS ?_
  repeat (with_reducible refine does_seq ?_)
  with_reducible refine does_region ?_
  refine does_opk (v := anV e dn v) (by kernel_rfl) (by simp only [Ev.put, List.set_cons_succ, List.set_cons_zero]; rfl) ?_
  refine does_opc rfl (c18_yes dn v he _) (by simp only [Ev.put, List.set_cons_succ, List.set_cons_zero]; rfl) ?_
  refine does_opk (v := .tuple ⟨[anS e dn v, .int .i64 0]⟩) (by kernel_rfl) (by simp only [Ev.put, List.set_cons_succ, List.set_cons_zero]; rfl) ?_
  refine does_opk (v := anS e dn v) (by kernel_rfl) (by simp only [Ev.put, List.set_cons_succ, List.set_cons_zero]; rfl) ?_
  refine does_opk (v := .int .i64 0) (by kernel_rfl) (by simp only [Ev.put, List.set_cons_succ, List.set_cons_zero]; rfl) ?_
  refine does_opk (v := anS e dn v) (by kernel_rfl) (by simp only [Ev.put, List.set_cons_succ, List.set_cons_zero]; rfl) ?_
  refine does_opk (v := .int .i64 0) (by kernel_rfl) (by simp only [Ev.put, List.set_cons_succ, List.set_cons_zero]; rfl) ?_
  refine does_nilS ?_
  repeat (with_reducible refine does_seq ?_)
  with_reducible refine does_region ?_
  refine does_opk (v := anV e2 dn2 v2) (by kernel_rfl) (by simp only [Ev.put, List.set_cons_succ, List.set_cons_zero]; rfl) ?_
  refine does_opc rfl (c18_no dn2 v2 hne2 _) (by simp only [Ev.put, List.set_cons_succ, List.set_cons_zero]; rfl) ?_
  refine does_opk (v := .tuple ⟨[noS, .int .i64 3]⟩) (by kernel_rfl) (by simp only [Ev.put, List.set_cons_succ, List.set_cons_zero]; rfl) ?_
  refine does_opk (v := noS) (by kernel_rfl) (by simp only [Ev.put, List.set_cons_succ, List.set_cons_zero]; rfl) ?_
  refine does_opk (v := .int .i64 3) (by kernel_rfl) (by simp only [Ev.put, List.set_cons_succ, List.set_cons_zero]; rfl) ?_
  refine does_opk (v := noS) (by kernel_rfl) (by simp only [Ev.put, List.set_cons_succ, List.set_cons_zero]; rfl) ?_
  refine does_opk (v := .int .i64 3) (by kernel_rfl) (by simp only [Ev.put, List.set_cons_succ, List.set_cons_zero]; rfl) ?_
  refine does_nilS ?_
  repeat (with_reducible refine does_seq ?_)
  with_reducible refine does_region ?_
  refine does_opk (v := .int .i64 0) (by kernel_rfl) (by simp only [Ev.put, List.set_cons_succ, List.set_cons_zero]; rfl) ?_
  refine does_opk (v := .bool true) (by kernel_rfl) (by simp only [Ev.put, List.set_cons_succ, List.set_cons_zero]; rfl) ?_
  refine does_nilS ?_
  repeat (with_reducible refine does_seq ?_)
  refine does_cond (b := true) rfl (fun _ => ?_) (fun h => absurd h (by simp))
  repeat (with_reducible refine does_seq ?_)
  with_reducible refine does_region ?_
  refine does_opk (v := anS e dn v) (by kernel_rfl) (by simp only [Ev.put, List.set_cons_succ, List.set_cons_zero]; rfl) ?_
  refine does_opc rfl (c19_anS dn he hv _) (by simp only [Ev.put, List.set_cons_succ, List.set_cons_zero]; rfl) ?_
  refine does_opk (v := .tuple ⟨[anV e dn v, .int .i64 0]⟩) (by kernel_rfl) (by simp only [Ev.put, List.set_cons_succ, List.set_cons_zero]; rfl) ?_
  refine does_opk (v := anV e dn v) (by kernel_rfl) (by simp only [Ev.put, List.set_cons_succ, List.set_cons_zero]; rfl) ?_
  refine does_opk (v := .int .i64 0) (by kernel_rfl) (by simp only [Ev.put, List.set_cons_succ, List.set_cons_zero]; rfl) ?_
  refine does_opn (v := nptr 4 0) (H1 := ⟨5, (.node (.node (.node .nil (some (.cells [.int .i64 e2, .bool dn2, .int .u64 v2] 27 false)) .nil) (some (.cells [.int .i64 k2, .int .u64 key2, .int .u64 val2, .int .i64 l2] 24 false)) .nil) (some (.cells [.int .i64 k, .int .u64 key, .int .u64 val, .int .i64 l] 24 false)) (.node (.node .nil (some (.cells [.int .i64 0, .bool false, .int .u64 0] 27 false)) .nil) (some (.cells [.int .i64 e, .bool dn, .int .u64 v] 27 false)) .nil))⟩) (by kernel_rfl) (by simp only [Ev.put, List.set_cons_succ, List.set_cons_zero]; rfl) ?_
  refine does_opn (v := undef) (H1 := ⟨5, (.node (.node (.node .nil (some (.cells [.int .i64 e2, .bool dn2, .int .u64 v2] 27 false)) .nil) (some (.cells [.int .i64 k2, .int .u64 key2, .int .u64 val2, .int .i64 l2] 24 false)) .nil) (some (.cells [.int .i64 k, .int .u64 key, .int .u64 val, .int .i64 l] 24 false)) (.node (.node .nil (some (.cells [.int .i64 e, .bool dn, .int .u64 v] 27 false)) .nil) (some (.cells [.int .i64 e, .bool dn, .int .u64 v] 27 false)) .nil))⟩) (by kernel_rfl) (by simp only [Ev.put, List.set_cons_succ, List.set_cons_zero]; rfl) ?_
  refine does_opk (v := .int .i64 0) (by kernel_rfl) (by simp only [Ev.put, List.set_cons_succ, List.set_cons_zero]; rfl) ?_
  refine does_nilS ?_
  repeat (with_reducible refine does_seq ?_)
  with_reducible refine does_region ?_
  refine does_opk (v := .int .i64 0) (by kernel_rfl) (by simp only [Ev.put, List.set_cons_succ, List.set_cons_zero]; rfl) ?_
  refine does_opk (v := .bool false) (by kernel_rfl) (by simp only [Ev.put, List.set_cons_succ, List.set_cons_zero]; rfl) ?_
  refine does_opk (v := .bool false) (by kernel_rfl) (by simp only [Ev.put, List.set_cons_succ, List.set_cons_zero]; rfl) ?_
  refine does_opk (v := anV e dn v) (by kernel_rfl) (by simp only [Ev.put, List.set_cons_succ, List.set_cons_zero]; rfl) ?_
  refine does_opk (v := anV e dn v) (by kernel_rfl) (by simp only [Ev.put, List.set_cons_succ, List.set_cons_zero]; rfl) ?_
  refine does_opbk (b' := !(e == e && (dn == dn && (v == v && true)))) (b := false) (by kernel_rfl) (by simp) (by simp only [Ev.put, List.set_cons_succ, List.set_cons_zero]; rfl) ?_
  refine does_opk (v := .bool false) (by kernel_rfl) (by simp only [Ev.put, List.set_cons_succ, List.set_cons_zero]; rfl) ?_
  refine does_opk (v := .bool false) (by kernel_rfl) (by simp only [Ev.put, List.set_cons_succ, List.set_cons_zero]; rfl) ?_
  refine does_opk (v := .int .i64 3) (by kernel_rfl) (by simp only [Ev.put, List.set_cons_succ, List.set_cons_zero]; rfl) ?_
  refine does_opk (v := .bool false) (by kernel_rfl) (by simp only [Ev.put, List.set_cons_succ, List.set_cons_zero]; rfl) ?_
  refine does_opk (v := .bool false) (by kernel_rfl) (by simp only [Ev.put, List.set_cons_succ, List.set_cons_zero]; rfl) ?_
  refine does_opk (v := undef) (by kernel_rfl) (by simp only [Ev.put, List.set_cons_succ, List.set_cons_zero]; rfl) ?_
  refine does_opk (v := undef) (by kernel_rfl) (by simp only [Ev.put, List.set_cons_succ, List.set_cons_zero]; rfl) ?_
  refine does_opk (v := undef) (by kernel_rfl) (by simp only [Ev.put, List.set_cons_succ, List.set_cons_zero]; rfl) ?_
  refine does_opk (v := undef) (by kernel_rfl) (by simp only [Ev.put, List.set_cons_succ, List.set_cons_zero]; rfl) ?_
  refine does_opk (v := undef) (by kernel_rfl) (by simp only [Ev.put, List.set_cons_succ, List.set_cons_zero]; rfl) ?_
  refine does_opk (v := undef) (by kernel_rfl) (by simp only [Ev.put, List.set_cons_succ, List.set_cons_zero]; rfl) ?_
  refine does_opk (v := undef) (by kernel_rfl) (by simp only [Ev.put, List.set_cons_succ, List.set_cons_zero]; rfl) ?_
  refine does_opk (v := .bool false) (by kernel_rfl) (by simp only [Ev.put, List.set_cons_succ, List.set_cons_zero]; rfl) ?_
  refine does_opk (v := .bool false) (by kernel_rfl) (by simp only [Ev.put, List.set_cons_succ, List.set_cons_zero]; rfl) ?_
  refine does_nilS ?_
  repeat (with_reducible refine does_seq ?_)
  refine does_cond (b := false) rfl (fun h => absurd h (by simp)) (fun _ => ?_)
  refine does_skipS ?_
  repeat (with_reducible refine does_seq ?_)
  with_reducible refine does_region ?_
  refine does_opk (v := .bool true) (by kernel_rfl) (by simp only [Ev.put, List.set_cons_succ, List.set_cons_zero]; rfl) ?_
  refine does_nilS ?_
  exact does_ret ⟨_, rfl, rfl⟩

theorem w3_ny_ny (k key val l k2 key2 val2 l2 e v e2 v2 : Int) (dn dn2 : Bool) (hno : ¬ (Byt k ∧ Byt l)) (hk2 : Byt k2) (hl2 : Byt l2) (hne : ¬ Byt e) (he2 : Byt e2) : Does (runw ctx2 3 [opV k key val l, opV k2 key2 val2 l2, anV e dn v, anV e2 dn2 v2] hp0) fun r => r.1 = .bool true := by
  refine does_run (fi := g3) rfl rfl rfl rfl ?_
  have e0 : mkEnv g3.fn.ntmps [opV k key val l, opV k2 key2 val2 l2, anV e dn v, anV e2 dn2 v2] = some (opV k key val l) :: some (opV k2 key2 val2 l2) :: some (anV e dn v) :: some (anV e2 dn2 v2) :: [some undef, some undef, some undef, some undef, some undef, some undef, some undef, some undef, some undef, some undef, some undef, some undef, some undef, some undef, some undef, some undef, some undef, some undef, some undef, some undef, some undef, some undef, some undef, some undef, some undef, some undef, some undef, some undef, some undef, some undef, some undef, some undef, some undef, some undef, some undef, some undef, some undef, some undef, some undef, some undef, some undef, some undef, some undef, some undef, some undef, some undef, some undef, some undef, some undef, some undef, some undef, some undef, some undef, some undef, some undef, some undef, some undef, some undef, some undef, some undef, some undef, some undef, some undef, some undef, some undef, some undef, some undef, some undef, some undef, some undef, some undef, some undef, some undef, some undef, some undef, some undef, some undef, some undef, some undef, some undef, some undef, some undef, some undef, some undef, some undef, some undef, some undef, some undef, some undef, some undef, some undef, some undef, some undef] := by kernel_rfl
  rw [e0]
  repeat (with_reducible refine does_seq ?_)
  with_reducible refine does_region ?_
  refine does_opn (v := nptr 0 0) (H1 := ⟨1, (.node .nil (some (.cells [.int .i64 k, .int .u64 key, .int .u64 val, .int .i64 l] 24 false)) .nil)⟩) (by kernel_rfl) (by simp only [Ev.put, List.set_cons_succ, List.set_cons_zero]; rfl) ?_
  refine does_opn (v := nptr 1 0) (H1 := ⟨2, (.node (.node .nil (some (.cells [.int .i64 k2, .int .u64 key2, .int .u64 val2, .int .i64 l2] 24 false)) .nil) (some (.cells [.int .i64 k, .int .u64 key, .int .u64 val, .int .i64 l] 24 false)) .nil)⟩) (by kernel_rfl) (by simp only [Ev.put, List.set_cons_succ, List.set_cons_zero]; rfl) ?_
  refine does_opn (v := nptr 2 0) (H1 := ⟨3, (.node (.node .nil (some (.cells [.int .i64 k2, .int .u64 key2, .int .u64 val2, .int .i64 l2] 24 false)) .nil) (some (.cells [.int .i64 k, .int .u64 key, .int .u64 val, .int .i64 l] 24 false)) (.node .nil (some (.cells [.int .i64 e, .bool dn, .int .u64 v] 27 false)) .nil))⟩) (by kernel_rfl) (by simp only [Ev.put, List.set_cons_succ, List.set_cons_zero]; rfl) ?_
  refine does_opn (v := nptr 3 0) (H1 := ⟨4, (.node (.node (.node .nil (some (.cells [.int .i64 e2, .bool dn2, .int .u64 v2] 27 false)) .nil) (some (.cells [.int .i64 k2, .int .u64 key2, .int .u64 val2, .int .i64 l2] 24 false)) .nil) (some (.cells [.int .i64 k, .int .u64 key, .int .u64 val, .int .i64 l] 24 false)) (.node .nil (some (.cells [.int .i64 e, .bool dn, .int .u64 v] 27 false)) .nil))⟩) (by kernel_rfl) (by simp only [Ev.put, List.set_cons_succ, List.set_cons_zero]; rfl) ?_
  refine does_opn rfl (by simp only [Ev.put, List.set_cons_succ, List.set_cons_zero]; rfl) ?_
  refine does_nilS ?_
  repeat (with_reducible refine does_seq ?_)
  with_reducible refine does_region ?_
  refine does_opc rfl (awk2 _) (by simp only [Ev.put, List.set_cons_succ, List.set_cons_zero]; rfl) ?_
  refine does_opn rfl (by simp only [Ev.put, List.set_cons_succ, List.set_cons_zero]; rfl) ?_
  refine does_nilS ?_
  repeat (with_reducible refine does_seq ?_)
  refine does_cond (b := false) rfl (fun h => absurd h (by simp)) (fun _ => ?_)
  refine does_skipS ?_
  repeat (with_reducible refine does_seq ?_)
  with_reducible refine does_region ?_
  refine does_opk (v := opV k key val l) (by kernel_rfl) (by simp only [Ev.put, List.set_cons_succ, List.set_cons_zero]; rfl) ?_
  refine does_opc rfl (c16_no key val hno _) (by simp only [Ev.put, List.set_cons_succ, List.set_cons_zero]; rfl) ?_
  refine does_opk (v := .tuple ⟨[noS, .int .i64 3]⟩) (by kernel_rfl) (by simp only [Ev.put, List.set_cons_succ, List.set_cons_zero]; rfl) ?_
  refine does_opk (v := noS) (by kernel_rfl) (by simp only [Ev.put, List.set_cons_succ, List.set_cons_zero]; rfl) ?_
  refine does_opk (v := .int .i64 3) (by kernel_rfl) (by simp only [Ev.put, List.set_cons_succ, List.set_cons_zero]; rfl) ?_
  refine does_opk (v := noS) (by kernel_rfl) (by simp only [Ev.put, List.set_cons_succ, List.set_cons_zero]; rfl) ?_
  refine does_opk (v := .int .i64 3) (by kernel_rfl) (by simp only [Ev.put, List.set_cons_succ, List.set_cons_zero]; rfl) ?_
  refine does_nilS ?_
  repeat (with_reducible refine does_seq ?_)
  with_reducible refine does_region ?_
  refine does_opk (v := opV k2 key2 val2 l2) (by kernel_rfl) (by simp only [Ev.put, List.set_cons_succ, List.set_cons_zero]; rfl) ?_
  refine does_opc rfl (c16_yes key2 val2 hk2 hl2 _) (by simp only [Ev.put, List.set_cons_succ, List.set_cons_zero]; rfl) ?_
  refine does_opk (v := .tuple ⟨[opS k2 key2 val2 l2, .int .i64 0]⟩) (by kernel_rfl) (by simp only [Ev.put, List.set_cons_succ, List.set_cons_zero]; rfl) ?_
  refine does_opk (v := opS k2 key2 val2 l2) (by kernel_rfl) (by simp only [Ev.put, List.set_cons_succ, List.set_cons_zero]; rfl) ?_
  refine does_opk (v := .int .i64 0) (by kernel_rfl) (by simp only [Ev.put, List.set_cons_succ, List.set_cons_zero]; rfl) ?_
  refine does_opk (v := opS k2 key2 val2 l2) (by kernel_rfl) (by simp only [Ev.put, List.set_cons_succ, List.set_cons_zero]; rfl) ?_
  refine does_opk (v := .int .i64 0) (by kernel_rfl) (by simp only [Ev.put, List.set_cons_succ, List.set_cons_zero]; rfl) ?_
  refine does_nilS ?_
  repeat (with_reducible refine does_seq ?_)
  with_reducible refine does_region ?_
  refine does_opk (v := .int .i64 3) (by kernel_rfl) (by simp only [Ev.put, List.set_cons_succ, List.set_cons_zero]; rfl) ?_
  refine does_opk (v := .bool false) (by kernel_rfl) (by simp only [Ev.put, List.set_cons_succ, List.set_cons_zero]; rfl) ?_
  refine does_nilS ?_
  repeat (with_reducible refine does_seq ?_)
  refine does_cond (b := false) rfl (fun h => absurd h (by simp)) (fun _ => ?_)
  refine does_skipS ?_
  repeat (with_reducible refine does_seq ?_)
  with_reducible refine does_region ?_
  refine does_opk (v := anV e dn v) (by kernel_rfl) (by simp only [Ev.put, List.set_cons_succ, List.set_cons_zero]; rfl) ?_
  refine does_opc rfl (c18_no dn v hne _) (by simp only [Ev.put, List.set_cons_succ, List.set_cons_zero]; rfl) ?_
  refine does_opk (v := .tuple ⟨[noS, .int .i64 3]⟩) (by kernel_rfl) (by simp only [Ev.put, List.set_cons_succ, List.set_cons_zero]; rfl) ?_
  refine does_opk (v := noS) (by kernel_rfl) (by simp only [Ev.put, List.set_cons_succ, List.set_cons_zero]; rfl) ?_
  refine does_opk (v := .int .i64 3) (by kernel_rfl) (by simp only [Ev.put, List.set_cons_succ, List.set_cons_zero]; rfl) ?_
  refine does_opk (v := noS) (by kernel_rfl) (by simp only [Ev.put, List.set_cons_succ, List.set_cons_zero]; rfl) ?_
  refine does_opk (v := .int .i64 3) (by kernel_rfl) (by simp only [Ev.put, List.set_cons_succ, List.set_cons_zero]; rfl) ?_
  refine does_nilS ?_
  repeat (with_reducible refine does_seq ?_)
  with_reducible refine does_region ?_
  refine does_opk (v := anV e2 dn2 v2) (by kernel_rfl) (by simp only [Ev.put, List.set_cons_succ, List.set_cons_zero]; rfl) ?_
  refine does_opc rfl (c18_yes dn2 v2 he2 _) (by simp only [Ev.put, List.set_cons_succ, List.set_cons_zero]; rfl) ?_
  refine does_opk (v := .tuple ⟨[anS e2 dn2 v2, .int .i64 0]⟩) (by kernel_rfl) (by simp only [Ev.put, List.set_cons_succ, List.set_cons_zero]; rfl) ?_
  refine does_opk (v := anS e2 dn2 v2) (by kernel_rfl) (by simp only [Ev.put, List.set_cons_succ, List.set_cons_zero]; rfl) ?_
  refine does_opk (v := .int .i64 0) (by kernel_rfl) (by simp only [Ev.put, List.set_cons_succ, List.set_cons_zero]; rfl) ?_
  refine does_opk (v := anS e2 dn2 v2) (by kernel_rfl) (by simp only [Ev.put, List.set_cons_succ, List.set_cons_zero]; rfl) ?_
  refine does_opk (v := .int .i64 0) (by kernel_rfl) (by simp only [Ev.put, List.set_cons_succ, List.set_cons_zero]; rfl) ?_
  refine does_nilS ?_
  repeat (with_reducible refine does_seq ?_)
  with_reducible refine does_region ?_
  refine does_opk (v := .int .i64 3) (by kernel_rfl) (by simp only [Ev.put, List.set_cons_succ, List.set_cons_zero]; rfl) ?_
  refine does_opk (v := .bool false) (by kernel_rfl) (by simp only [Ev.put, List.set_cons_succ, List.set_cons_zero]; rfl) ?_
  refine does_nilS ?_
  repeat (with_reducible refine does_seq ?_)
  refine does_cond (b := false) rfl (fun h => absurd h (by simp)) (fun _ => ?_)
  refine does_skipS ?_
  repeat (with_reducible refine does_seq ?_)
  with_reducible refine does_region ?_
  refine does_opk (v := .bool true) (by kernel_rfl) (by simp only [Ev.put, List.set_cons_succ, List.set_cons_zero]; rfl) ?_
  refine does_nilS ?_
  exact does_ret ⟨_, rfl, rfl⟩

theorem w3_ny_nn (k key val l k2 key2 val2 l2 e v e2 v2 : Int) (dn dn2 : Bool) (hno : ¬ (Byt k ∧ Byt l)) (hk2 : Byt k2) (hl2 : Byt l2) (hne : ¬ Byt e) (hne2 : ¬ Byt e2) : Does (runw ctx2 3 [opV k key val l, opV k2 key2 val2 l2, anV e dn v, anV e2 dn2 v2] hp0) fun r => r.1 = .bool true := by
  refine does_run (fi := g3) rfl rfl rfl rfl ?_
  have e0 : mkEnv g3.fn.ntmps [opV k key val l, opV k2 key2 val2 l2, anV e dn v, anV e2 dn2 v2] = some (opV k key val l) :: some (opV k2 key2 val2 l2) :: some (anV e dn v) :: some (anV e2 dn2 v2) :: [some undef, some undef, some undef, some undef, some undef, some undef, some undef, some undef, some undef, some undef, some undef, some undef, some undef, some undef, some undef, some undef, some undef, some undef, some undef, some undef, some undef, some undef, some undef, some undef, some undef, some undef, some undef, some undef, some undef, some undef, some undef, some undef, some undef, some undef, some undef, some undef, some undef, some undef, some undef, some undef, some undef, some undef, some undef, some undef, some undef, some undef, some undef, some undef, some undef, some undef, some undef, some undef, some undef, some undef, some undef, some undef, some undef, some undef, some undef, some undef, some undef, some undef, some undef, some undef, some undef, some undef, some undef, some undef, some undef, some undef, some undef, some undef, some undef, some undef, some undef, some undef, some undef, some undef, some undef, some undef, some undef, some undef, some undef, some undef, some undef, some undef, some undef, some undef, some undef, some undef, some undef, some undef, some undef] := by kernel_rfl
  rw [e0]
  repeat (with_reducible refine does_seq ?_)
  with_reducible refine does_region ?_
  refine does_opn (v := nptr 0 0) (H1 := ⟨1, (.node .nil (some (.cells [.int .i64 k, .int .u64 key, .int .u64 val, .int .i64 l] 24 false)) .nil)⟩) (by kernel_rfl) (by simp only [Ev.put, List.set_cons_succ, List.set_cons_zero]; rfl) ?_
  refine does_opn (v := nptr 1 0) (H1 := ⟨2, (.node (.node .nil (some (.cells [.int .i64 k2, .int .u64 key2, .int .u64 val2, .int .i64 l2] 24 false)) .nil) (some (.cells [.int .i64 k, .int .u64 key, .int .u64 val, .int .i64 l] 24 false)) .nil)⟩) (by kernel_rfl) (by simp only [Ev.put, List.set_cons_succ, List.set_cons_zero]; rfl) ?_
  refine does_opn (v := nptr 2 0) (H1 := ⟨3, (.node (.node .nil (some (.cells [.int .i64 k2, .int .u64 key2, .int .u64 val2, .int .i64 l2] 24 false)) .nil) (some (.cells [.int .i64 k, .int .u64 key, .int .u64 val, .int .i64 l] 24 false)) (.node .nil (some (.cells [.int .i64 e, .bool dn, .int .u64 v] 27 false)) .nil))⟩) (by kernel_rfl) (by simp only [Ev.put, List.set_cons_succ, List.set_cons_zero]; rfl) ?_
  refine does_opn (v := nptr 3 0) (H1 := ⟨4, (.node (.node (.node .nil (some (.cells [.int .i64 e2, .bool dn2, .int .u64 v2] 27 false)) .nil) (some (.cells [.int .i64 k2, .int .u64 key2, .int .u64 val2, .int .i64 l2] 24 false)) .nil) (some (.cells [.int .i64 k, .int .u64 key, .int .u64 val, .int .i64 l] 24 false)) (.node .nil (some (.cells [.int .i64 e, .bool dn, .int .u64 v] 27 false)) .nil))⟩) (by kernel_rfl) (by simp only [Ev.put, List.set_cons_succ, List.set_cons_zero]; rfl) ?_
  refine does_opn rfl (by simp only [Ev.put, List.set_cons_succ, List.set_cons_zero]; rfl) ?_
  refine does_nilS ?_
  repeat (with_reducible refine does_seq ?_)
  with_reducible refine does_region ?_
  refine does_opc rfl (awk2 _) (by simp only [Ev.put, List.set_cons_succ, List.set_cons_zero]; rfl) ?_
  refine does_opn rfl (by simp only [Ev.put, List.set_cons_succ, List.set_cons_zero]; rfl) ?_
  refine does_nilS ?_
  repeat (with_reducible refine does_seq ?_)
  refine does_cond (b := false) rfl (fun h => absurd h (by simp)) (fun _ => ?_)
  refine does_skipS ?_
  repeat (with_reducible refine does_seq ?_)
  with_reducible refine does_region ?_
  refine does_opk (v := opV k key val l) (by kernel_rfl) (by simp only [Ev.put, List.set_cons_succ, List.set_cons_zero]; rfl) ?_
  refine does_opc rfl (c16_no key val hno _) (by simp only [Ev.put, List.set_cons_succ, List.set_cons_zero]; rfl) ?_
  refine does_opk (v := .tuple ⟨[noS, .int .i64 3]⟩) (by kernel_rfl) (by simp only [Ev.put, List.set_cons_succ, List.set_cons_zero]; rfl) ?_
  refine does_opk (v := noS) (by kernel_rfl) (by simp only [Ev.put, List.set_cons_succ, List.set_cons_zero]; rfl) ?_
  refine does_opk (v := .int .i64 3) (by kernel_rfl) (by simp only [Ev.put, List.set_cons_succ, List.set_cons_zero]; rfl) ?_
  refine does_opk (v := noS) (by kernel_rfl) (by simp only [Ev.put, List.set_cons_succ, List.set_cons_zero]; rfl) ?_
  refine does_opk (v := .int .i64 3) (by kernel_rfl) (by simp only [Ev.put, List.set_cons_succ, List.set_cons_zero]; rfl) ?_
  refine does_nilS ?_
  repeat (with_reducible refine does_seq ?_)
  with_reducible refine does_region ?_
  refine does_opk (v := opV k2 key2 val2 l2) (by kernel_rfl) (by simp only [Ev.put, List.set_cons_succ, List.set_cons_zero]; rfl) ?_
  refine does_opc rfl (c16_yes key2 val2 hk2 hl2 _) (by simp only [Ev.put, List.set_cons_succ, List.set_cons_zero]; rfl) ?_
  refine does_opk (v := .tuple ⟨[opS k2 key2 val2 l2, .int .i64 0]⟩) (by kernel_rfl) (by simp only [Ev.put, List.set_cons_succ, List.set_cons_zero]; rfl) ?_
  refine does_opk (v := opS k2 key2 val2 l2) (by kernel_rfl) (by simp only [Ev.put, List.set_cons_succ, List.set_cons_zero]; rfl) ?_
  refine does_opk (v := .int .i64 0) (by kernel_rfl) (by simp only [Ev.put, List.set_cons_succ, List.set_cons_zero]; rfl) ?_
  refine does_opk (v := opS k2 key2 val2 l2) (by kernel_rfl) (by simp only [Ev.put, List.set_cons_succ, List.set_cons_zero]; rfl) ?_
  refine does_opk (v := .int .i64 0) (by kernel_rfl) (by simp only [Ev.put, List.set_cons_succ, List.set_cons_zero]; rfl) ?_
  refine does_nilS ?_
  repeat (with_reducible refine does_seq ?_)
  with_reducible refine does_region ?_
  refine does_opk (v := .int .i64 3) (by kernel_rfl) (by simp only [Ev.put, List.set_cons_succ, List.set_cons_zero]; rfl) ?_
  refine does_opk (v := .bool false) (by kernel_rfl) (by simp only [Ev.put, List.set_cons_succ, List.set_cons_zero]; rfl) ?_
  refine does_nilS ?_
  repeat (with_reducible refine does_seq ?_)
  refine does_cond (b := false) rfl (fun h => absurd h (by simp)) (fun _ => ?_)
  refine does_skipS ?_
  repeat (with_reducible refine does_seq ?_)
  with_reducible refine does_region ?_
  refine does_opk (v := anV e dn v) (by kernel_rfl) (by simp only [Ev.put, List.set_cons_succ, List.set_cons_zero]; rfl) ?_
  refine does_opc rfl (c18_no dn v hne _) (by simp only [Ev.put, List.set_cons_succ, List.set_cons_zero]; rfl) ?_
  refine does_opk (v := .tuple ⟨[noS, .int .i64 3]⟩) (by kernel_rfl) (by simp only [Ev.put, List.set_cons_succ, List.set_cons_zero]; rfl) ?_
  refine does_opk (v := noS) (by kernel_rfl) (by simp only [Ev.put, List.set_cons_succ, List.set_cons_zero]; rfl) ?_
  refine does_opk (v := .int .i64 3) (by kernel_rfl) (by simp only [Ev.put, List.set_cons_succ, List.set_cons_zero]; rfl) ?_
  refine does_opk (v := noS) (by kernel_rfl) (by simp only [Ev.put, List.set_cons_succ, List.set_cons_zero]; rfl) ?_
  refine does_opk (v := .int .i64 3) (by kernel_rfl) (by simp only [Ev.put, List.set_cons_succ, List.set_cons_zero]; rfl) ?_
  refine does_nilS ?_
  repeat (with_reducible refine does_seq ?_)
  with_reducible refine does_region ?_
  refine does_opk (v := anV e2 dn2 v2) (by kernel_rfl) (by simp only [Ev.put, List.set_cons_succ, List.set_cons_zero]; rfl) ?_
  refine does_opc rfl (c18_no dn2 v2 hne2 _) (by simp only [Ev.put, List.set_cons_succ, List.set_cons_zero]; rfl) ?_
  refine does_opk (v := .tuple ⟨[noS, .int .i64 3]⟩) (by kernel_rfl) (by simp only [Ev.put, List.set_cons_succ, List.set_cons_zero]; rfl) ?_
  refine does_opk (v := noS) (by kernel_rfl) (by simp only [Ev.put, List.set_cons_succ, List.set_cons_zero]; rfl) ?_
  refine does_opk (v := .int .i64 3) (by kernel_rfl) (by simp only [Ev.put, List.set_cons_succ, List.set_cons_zero]; rfl) ?_
  refine does_opk (v := noS) (by kernel_rfl) (by simp only [Ev.put, List.set_cons_succ, List.set_cons_zero]; rfl) ?_
  refine does_opk (v := .int .i64 3) (by kernel_rfl) (by simp only [Ev.put, List.set_cons_succ, List.set_cons_zero]; rfl) ?_
  refine does_nilS ?_
  repeat (with_reducible refine does_seq ?_)
  with_reducible refine does_region ?_
  refine does_opk (v := .int .i64 3) (by kernel_rfl) (by simp only [Ev.put, List.set_cons_succ, List.set_cons_zero]; rfl) ?_
  refine does_opk (v := .bool false) (by kernel_rfl) (by simp only [Ev.put, List.set_cons_succ, List.set_cons_zero]; rfl) ?_
  refine does_nilS ?_
  repeat (with_reducible refine does_seq ?_)
  refine does_cond (b := false) rfl (fun h => absurd h (by simp)) (fun _ => ?_)
  refine does_skipS ?_
  repeat (with_reducible refine does_seq ?_)
  with_reducible refine does_region ?_
  refine does_opk (v := .bool true) (by kernel_rfl) (by simp only [Ev.put, List.set_cons_succ, List.set_cons_zero]; rfl) ?_
  refine does_nilS ?_
  exact does_ret ⟨_, rfl, rfl⟩

end Go.Proofs.YtiiabmpobgoajaaGreat
