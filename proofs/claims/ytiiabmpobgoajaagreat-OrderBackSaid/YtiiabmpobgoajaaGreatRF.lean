/- Part of the proof: RF. -/
import Derived.Test.YtiiabmpobgoajaaGreatR1
import Derived.Test.YtiiabmpobgoajaaGreatR2
import Derived.Test.YtiiabmpobgoajaaGreatR3
import Derived.Test.YtiiabmpobgoajaaGreatR4
import Derived.Test.YtiiabmpobgoajaaGreatR5
import Derived.Test.YtiiabmpobgoajaaGreatPartEvS1
import Derived.Test.YtiiabmpobgoajaaGreatRows
import Derived.WalkKit
set_option linter.all false
namespace Go.Proofs.YtiiabmpobgoajaaGreat.orderBack
open Go Go.Ev Go.RowKit Go.ChangeShapes Go.WideShapes Go.ChangeAt Tab
set_option maxRecDepth 10000
set_option maxHeartbeats 4000000
attribute [local irreducible] runw loopw
theorem own : ownKnob Tryz.prog.godebug = none := by kernel_rfl
theorem laid : laidOutB Tryz.prog = true := by kernel_rfl
theorem good1 : Ev.Good Tryz.prog ctx1 := Ev.Good.flat good _ (by kernel_rfl)
theorem good2 : Ev.Good Tryz.prog ctx2 := Ev.Good.flat good1 _ (by kernel_rfl)

theorem leaf_op {cs : List Value} (h : leafWf [.int .i64, .int .u64, .int .u64, .int .i64] cs) : ∃ k key val l, cs = [.int .i64 k, .int .u64 key, .int .u64 val, .int .i64 l] ∧ (Lit.int .u64 key).wf = true ∧ (Lit.int .u64 val).wf = true := by
  match cs, h with
  | [.int a k, .int b key, .int c val, .int d l], h =>
    simp only [leafWf] at h
    obtain ⟨rfl, _, rfl, h2, rfl, h3, rfl, _⟩ := h
    exact ⟨_, _, _, _, rfl, h2, h3⟩
theorem leaf_an {cs : List Value} (h : leafWf [.int .i64, .bool, .int .u64] cs) : ∃ e dn v, cs = [.int .i64 e, .bool dn, .int .u64 v] ∧ (Lit.int .u64 v).wf = true := by
  match cs, h with
  | [.int a e, .bool dn, .int c v], h =>
    simp only [leafWf] at h
    obtain ⟨rfl, _, rfl, h2, _⟩ := h
    exact ⟨_, _, _, rfl, h2⟩

theorem wf_u64 {n : Int} (h : (Lit.int .u64 n).wf = true) : Rng n := by
  simp [Lit.wf, IntKind.min, IntKind.max, IntKind.signed, IntKind.bits] at h
  unfold Rng; omega

theorem walk (k key val l k2 key2 val2 l2 e v e2 v2 : Int) (dn dn2 : Bool) (h1 : Rng key) (h2 : Rng val) (h3 : Rng key2) (h4 : Rng val2) (h5 : Rng v) (h6 : Rng v2) : Does (runw ctx2 3 [opV k key val l, opV k2 key2 val2 l2, anV e dn v, anV e2 dn2 v2] hp0) fun r => r.1 = .bool true := by
  by_cases ho : Byt k ∧ Byt l
  · by_cases hp : Byt k2 ∧ Byt l2
    · by_cases heq : k = k2 ∧ key = key2 ∧ val = val2 ∧ l = l2
      · obtain ⟨rfl, rfl, rfl, rfl⟩ := heq
        by_cases ha : Byt e
        · by_cases hb : Byt e2
          · by_cases aeq : e = e2 ∧ dn = dn2 ∧ v = v2
            · obtain ⟨rfl, rfl, rfl⟩ := aeq
              exact w3_same_same k key val l e v dn ho.1 ho.2 h1 h2 ha h5
            · exact w3_same_diff k key val l e v e2 v2 dn dn2 ho.1 ho.2 h1 h2 ha h5 hb h6 (fun a b c => aeq ⟨a, b, c⟩)
          · exact w3_same_yn k key val l e v e2 v2 dn dn2 ho.1 ho.2 h1 h2 ha h5 hb
        · by_cases hb : Byt e2
          · exact w3_same_ny k key val l e v e2 v2 dn dn2 ho.1 ho.2 h1 h2 ha hb
          · exact w3_same_nn k key val l e v e2 v2 dn dn2 ho.1 ho.2 h1 h2 ha hb
      ·
        by_cases ha : Byt e
        · by_cases hb : Byt e2
          · by_cases aeq : e = e2 ∧ dn = dn2 ∧ v = v2
            · obtain ⟨rfl, rfl, rfl⟩ := aeq
              exact w3_diff_same k key val l k2 key2 val2 l2 e v dn ho.1 ho.2 h1 h2 hp.1 hp.2 h3 h4 (fun a b c d => heq ⟨a, b, c, d⟩) ha h5
            · exact w3_diff_diff k key val l k2 key2 val2 l2 e v e2 v2 dn dn2 ho.1 ho.2 h1 h2 hp.1 hp.2 h3 h4 (fun a b c d => heq ⟨a, b, c, d⟩) ha h5 hb h6 (fun a b c => aeq ⟨a, b, c⟩)
          · exact w3_diff_yn k key val l k2 key2 val2 l2 e v e2 v2 dn dn2 ho.1 ho.2 h1 h2 hp.1 hp.2 h3 h4 (fun a b c d => heq ⟨a, b, c, d⟩) ha h5 hb
        · by_cases hb : Byt e2
          · exact w3_diff_ny k key val l k2 key2 val2 l2 e v e2 v2 dn dn2 ho.1 ho.2 h1 h2 hp.1 hp.2 h3 h4 (fun a b c d => heq ⟨a, b, c, d⟩) ha hb
          · exact w3_diff_nn k key val l k2 key2 val2 l2 e v e2 v2 dn dn2 ho.1 ho.2 h1 h2 hp.1 hp.2 h3 h4 (fun a b c d => heq ⟨a, b, c, d⟩) ha hb
    ·
      by_cases ha : Byt e
      · by_cases hb : Byt e2
        · by_cases aeq : e = e2 ∧ dn = dn2 ∧ v = v2
          · obtain ⟨rfl, rfl, rfl⟩ := aeq
            exact w3_yn_same k key val l k2 key2 val2 l2 e v dn ho.1 ho.2 h1 h2 hp ha h5
          · exact w3_yn_diff k key val l k2 key2 val2 l2 e v e2 v2 dn dn2 ho.1 ho.2 h1 h2 hp ha h5 hb h6 (fun a b c => aeq ⟨a, b, c⟩)
        · exact w3_yn_yn k key val l k2 key2 val2 l2 e v e2 v2 dn dn2 ho.1 ho.2 h1 h2 hp ha h5 hb
      · by_cases hb : Byt e2
        · exact w3_yn_ny k key val l k2 key2 val2 l2 e v e2 v2 dn dn2 ho.1 ho.2 h1 h2 hp ha hb
        · exact w3_yn_nn k key val l k2 key2 val2 l2 e v e2 v2 dn dn2 ho.1 ho.2 h1 h2 hp ha hb
  · by_cases hp : Byt k2 ∧ Byt l2
    ·
      by_cases ha : Byt e
      · by_cases hb : Byt e2
        · by_cases aeq : e = e2 ∧ dn = dn2 ∧ v = v2
          · obtain ⟨rfl, rfl, rfl⟩ := aeq
            exact w3_ny_same k key val l k2 key2 val2 l2 e v dn ho hp.1 hp.2 ha h5
          · exact w3_ny_diff k key val l k2 key2 val2 l2 e v e2 v2 dn dn2 ho hp.1 hp.2 ha h5 hb h6 (fun a b c => aeq ⟨a, b, c⟩)
        · exact w3_ny_yn k key val l k2 key2 val2 l2 e v e2 v2 dn dn2 ho hp.1 hp.2 ha h5 hb
      · by_cases hb : Byt e2
        · exact w3_ny_ny k key val l k2 key2 val2 l2 e v e2 v2 dn dn2 ho hp.1 hp.2 ha hb
        · exact w3_ny_nn k key val l k2 key2 val2 l2 e v e2 v2 dn dn2 ho hp.1 hp.2 ha hb
    ·
      by_cases ha : Byt e
      · by_cases hb : Byt e2
        · by_cases aeq : e = e2 ∧ dn = dn2 ∧ v = v2
          · obtain ⟨rfl, rfl, rfl⟩ := aeq
            exact w3_nn_same k key val l k2 key2 val2 l2 e v dn ho hp ha h5
          · exact w3_nn_diff k key val l k2 key2 val2 l2 e v e2 v2 dn dn2 ho hp ha h5 hb h6 (fun a b c => aeq ⟨a, b, c⟩)
        · exact w3_nn_yn k key val l k2 key2 val2 l2 e v e2 v2 dn dn2 ho hp ha h5 hb
      · by_cases hb : Byt e2
        · exact w3_nn_ny k key val l k2 key2 val2 l2 e v e2 v2 dn dn2 ho hp ha hb
        · exact w3_nn_nn k key val l k2 key2 val2 l2 e v e2 v2 dn dn2 ho hp ha hb

set_option maxRecDepth 100000 in
theorem lifted (os : Os) (started : os.Started) (H : Type) (enc : TypeId × Value → H) :
    ReturnsInHanded {} Tryz.checked os 3 .any (Rows.orderBackSpec.pre6 enc Tryz.prog Tryz.f3 Rows.orderBackRow.domain false) (Rows.orderBackSpec.post enc Tryz.prog Tryz.f3 false true false false) := by
  refine returnsInHanded_of_change (C := Tryz.checked) own started (by kernel_rfl) Tryz.func3
    (ChangeSpec.witness6 (enc := enc) (C := Tryz.checked) false ⟨#[], #[.agg #[.int .i64 0, .int .u64 0, .int .u64 0, .int .i64 0], .agg #[.int .i64 0, .int .u64 0, .int .u64 0, .int .i64 0], .agg #[.int .i64 0, .bool false, .int .u64 0], .agg #[.int .i64 0, .bool false, .int .u64 0]], []⟩ 8 (by kernel_rfl) (by kernel_rfl) (by kernel_rfl) (by kernel_rfl)) ?_
  intro W base args ds gs before hval0 hW hcnd _
  have hW' := hW
  obtain ⟨p, q, hA, hV, rfl, hfz, hnd⟩ := hW
  rw [Tryz.params3] at hA
  obtain ⟨v0, vs0, d0, ds0, p0, q0, hargs, rfl, rfl, h0, r0⟩ := trodAll_cons hA
  obtain ⟨v1, vs1, d1, ds1, p1, q1, rfl, rfl, rfl, h1, r1⟩ := trodAll_cons r0
  obtain ⟨v2, vs2, d2, ds2, p2, q2, rfl, rfl, rfl, h2, r2⟩ := trodAll_cons r1
  obtain ⟨v3, vs3, d3, ds3, p3, q3, rfl, rfl, rfl, h3, r3⟩ := trodAll_cons r2
  obtain ⟨rfl, rfl, rfl⟩ := trodAll_nil r3
  obtain rfl : args = #[v0, v1, v2, v3] := by cases args; simp_all
  obtain ⟨cs0, rfl, w0⟩ := struct_arg (n := 20) (ls := [.int .i64, .int .u64, .int .u64, .int .i64]) (by kernel_rfl) (by kernel_rfl) (by kernel_rfl) (hval0 0 24 v0 rfl rfl) h0
  obtain ⟨cs1, rfl, w1⟩ := struct_arg (n := 20) (ls := [.int .i64, .int .u64, .int .u64, .int .i64]) (by kernel_rfl) (by kernel_rfl) (by kernel_rfl) (hval0 1 24 v1 rfl rfl) h1
  obtain ⟨cs2, rfl, w2⟩ := struct_arg (n := 20) (ls := [.int .i64, .bool, .int .u64]) (by kernel_rfl) (by kernel_rfl) (by kernel_rfl) (hval0 2 27 v2 rfl rfl) h2
  obtain ⟨cs3, rfl, w3⟩ := struct_arg (n := 20) (ls := [.int .i64, .bool, .int .u64]) (by kernel_rfl) (by kernel_rfl) (by kernel_rfl) (hval0 3 27 v3 rfl rfl) h3
  obtain ⟨k, key, val, l, rfl, z1, z2⟩ := leaf_op w0
  obtain ⟨k2, key2, val2, l2, rfl, z3, z4⟩ := leaf_op w1
  obtain ⟨e, dn, v, rfl, z5⟩ := leaf_an w2
  obtain ⟨e2, dn2, v2, rfl, z6⟩ := leaf_an w3
  have hlaw := law_calls good2 (f := 3) (by kernel_rfl) (args := [opV k key val l, opV k2 key2 val2 l2, anV e dn v, anV e2 dn2 v2]) (by rfl) (walk k key val l k2 key2 val2 l2 e v e2 v2 dn dn2 (wf_u64 z1) (wf_u64 z2) (wf_u64 z3) (wf_u64 z4) (wf_u64 z5) (wf_u64 z6)) W
  obtain ⟨rfl, rfl⟩ := trodVars_none hV
  refine hlaw.mono fun x W' ⟨he, hb⟩ => ⟨.bool true, he, ?_⟩
  exact law_post (ds := [d0, d1, d2, d3]) (tb := 4) laid (of_decide_eq_true (by kernel_rfl)) rfl rfl (by kernel_rfl) hW' (by rfl) hb
end Go.Proofs.YtiiabmpobgoajaaGreat.orderBack
