/- Part of the proof: QF. -/
import Derived.Test.YtiiabmpobgoajaaGreatQ91
import Derived.Test.YtiiabmpobgoajaaGreatQ9o
import Derived.Test.YtiiabmpobgoajaaGreatQ9b
import Derived.Test.YtiiabmpobgoajaaGreatQ9r
import Derived.Test.YtiiabmpobgoajaaGreatPartEvS1
import Derived.Test.YtiiabmpobgoajaaGreatRows
import Derived.WalkKit
set_option linter.all false
namespace Go.Proofs.YtiiabmpobgoajaaGreat.orderBytes
open Go Go.Ev Go.RowKit Go.ChangeShapes Go.WideShapes Go.ChangeAt Tab
set_option maxRecDepth 10000
set_option maxHeartbeats 4000000
attribute [local irreducible] runw loopw
theorem own : ownKnob Tryz.prog.godebug = none := by kernel_rfl
theorem laid : laidOutB Tryz.prog = true := by kernel_rfl
theorem good1 : Ev.Good Tryz.prog ctx1 := Ev.Good.flat good _ (by kernel_rfl)
theorem good2 : Ev.Good Tryz.prog ctx2 := Ev.Good.flat good1 _ (by kernel_rfl)

theorem list18 (l : List UInt8) (h : l.length = 18) : ∃ c0 c1 c2 c3 c4 c5 c6 c7 c8 c9 c10 c11 c12 c13 c14 c15 c16 c17, l = [c0, c1, c2, c3, c4, c5, c6, c7, c8, c9, c10, c11, c12, c13, c14, c15, c16, c17] := by
  match l, h with
  | [c0, c1, c2, c3, c4, c5, c6, c7, c8, c9, c10, c11, c12, c13, c14, c15, c16, c17], _ => exact ⟨_, _, _, _, _, _, _, _, _, _, _, _, _, _, _, _, _, _, rfl⟩
theorem list10 (l : List UInt8) (h : l.length = 10) : ∃ c0 c1 c2 c3 c4 c5 c6 c7 c8 c9, l = [c0, c1, c2, c3, c4, c5, c6, c7, c8, c9] := by
  match l, h with
  | [c0, c1, c2, c3, c4, c5, c6, c7, c8, c9], _ => exact ⟨_, _, _, _, _, _, _, _, _, _, rfl⟩

theorem long (k key val l e v : Int) (dn : Bool) (s : ByteArray) (h : ¬ s.size ≤ 40) : Does (runw ctx2 4 [opV k key val l, anV e dn v, .string s] hp0) fun r => r.1 = .bool true := by
  refine does_run (fi := g4) rfl rfl rfl rfl ?_
  have e0 : mkEnv g4.fn.ntmps [opV k key val l, anV e dn v, .string s] = some (opV k key val l) :: some (anV e dn v) :: some (.string s) :: [some undef, some undef, some undef, some undef, some undef, some undef, some undef, some undef, some undef, some undef, some undef, some undef, some undef, some undef, some undef, some undef, some undef, some undef, some undef, some undef, some undef, some undef, some undef, some undef, some undef, some undef, some undef, some undef, some undef, some undef, some undef, some undef, some undef, some undef, some undef, some undef, some undef, some undef, some undef, some undef, some undef, some undef, some undef, some undef, some undef, some undef, some undef, some undef, some undef, some undef, some undef, some undef, some undef, some undef, some undef, some undef, some undef, some undef, some undef, some undef, some undef, some undef, some undef, some undef, some undef, some undef, some undef, some undef, some undef, some undef, some undef, some undef, some undef, some undef, some undef, some undef, some undef, some undef, some undef, some undef, some undef, some undef, some undef, some undef, some undef, some undef, some undef, some undef, some undef, some undef, some undef, some undef, some undef, some undef, some undef, some undef, some undef, some undef, some undef, some undef, some undef, some undef, some undef, some undef, some undef, some undef, some undef, some undef, some undef, some undef, some undef, some undef, some undef, some undef, some undef, some undef, some undef, some undef, some undef, some undef, some undef, some undef, some undef, some undef, some undef, some undef, some undef, some undef, some undef, some undef, some undef, some undef, some undef, some undef, some undef, some undef, some undef, some undef, some undef, some undef, some undef, some undef, some undef, some undef, some undef, some undef, some undef, some undef, some undef, some undef, some undef, some undef, some undef, some undef, some undef, some undef, some undef, some undef, some undef, some undef, some undef, some undef, some undef, some undef, some undef, some undef, some undef, some undef, some undef, some undef, some undef, some undef, some undef, some undef] := by kernel_rfl
  rw [e0]
  repeat (with_reducible refine does_seq ?_)
  with_reducible refine does_region ?_
  refine does_opn (v := nptr 0 0) (H1 := ⟨1, (.node .nil (some (.cells [.int .i64 k, .int .u64 key, .int .u64 val, .int .i64 l] 24 false)) .nil)⟩) (by kernel_rfl) (by simp only [Ev.put, List.set_cons_succ, List.set_cons_zero]; rfl) ?_
  refine does_opn (v := nptr 1 0) (H1 := ⟨2, (.node (.node .nil (some (.cells [.int .i64 e, .bool dn, .int .u64 v] 27 false)) .nil) (some (.cells [.int .i64 k, .int .u64 key, .int .u64 val, .int .i64 l] 24 false)) .nil)⟩) (by kernel_rfl) (by simp only [Ev.put, List.set_cons_succ, List.set_cons_zero]; rfl) ?_
  refine does_opn rfl (by simp only [Ev.put, List.set_cons_succ, List.set_cons_zero]; rfl) ?_
  refine does_nilS ?_
  repeat (with_reducible refine does_seq ?_)
  with_reducible refine does_region ?_
  refine does_opc rfl (awk2 _) (by simp only [Ev.put, List.set_cons_succ, List.set_cons_zero]; rfl) ?_
  refine does_opn rfl (by simp only [Ev.put, List.set_cons_succ, List.set_cons_zero]; rfl) ?_
  refine does_nilS ?_
  repeat (with_reducible refine does_seq ?_)
  refine does_cond (b := false) rfl (fun h => absurd h (by simp)) (fun _ => ?_)
  refine does_skipS ?_
  repeat (with_reducible refine does_seq ?_)
  with_reducible refine does_region ?_
  iterate 2 (refine does_opn rfl (by simp only [Ev.put, List.set_cons_succ, List.set_cons_zero]; rfl) ?_)
  refine does_opb (b := true) rfl (by simp; omega) (by simp only [Ev.put, List.set_cons_succ, List.set_cons_zero]; rfl) ?_
  refine does_nilS ?_
  repeat (with_reducible refine does_seq ?_)
  refine does_cond (b := true) rfl (fun _ => ?_) (fun h => absurd h (by simp))
  with_reducible refine does_seq ?_
  with_reducible refine does_region ?_
  refine does_opk (v := .bool true) (by kernel_rfl) (by simp only [Ev.put, List.set_cons_succ, List.set_cons_zero]; rfl) ?_
  refine does_nilS ?_
  exact does_ret ⟨_, rfl, rfl⟩

theorem walk (k l : Int) (key val e : Int) (dn : Bool) (v : Int) (s : ByteArray) (h1 : Rng key) (h2 : Rng val) (h3 : Rng v) : Does (runw ctx2 4 [opV k key val l, anV e dn v, .string s] hp0) fun r => r.1 = .bool true := by
  by_cases h40 : s.size ≤ 40
  · by_cases ho : Byt k ∧ Byt l <;> by_cases ha : Byt e
    all_goals
      by_cases h18 : s.size = 18
      · obtain ⟨⟨d⟩⟩ := s
        obtain ⟨c0, c1, c2, c3, c4, c5, c6, c7, c8, c9, c10, c11, c12, c13, c14, c15, c16, c17, rfl⟩ := list18 d h18
        first
        | exact w4_18_11 k key val l e v dn _ _ _ _ _ _ _ _ _ _ _ _ _ _ _ _ _ _ ho.1 ho.2 h1 h2 ha h3
        | exact w4_18_10 k key val l e v dn _ _ _ _ _ _ _ _ _ _ _ _ _ _ _ _ _ _ ho.1 ho.2 h1 h2 ha
        | exact w4_18_01 k key val l e v dn _ _ _ _ _ _ _ _ _ _ _ _ _ _ _ _ _ _ ho ha h3
        | exact w4_18_00 k key val l e v dn _ _ _ _ _ _ _ _ _ _ _ _ _ _ _ _ _ _ ho ha
      · by_cases h10 : s.size = 10
        · obtain ⟨⟨d⟩⟩ := s
          obtain ⟨c0, c1, c2, c3, c4, c5, c6, c7, c8, c9, rfl⟩ := list10 d h10
          by_cases hb : c1.toNat ≤ 1
          · first
            | exact w4_ok_11 k key val l e v dn _ _ _ _ _ _ _ _ _ _ hb ho.1 ho.2 h1 h2 ha h3
            | exact w4_ok_10 k key val l e v dn _ _ _ _ _ _ _ _ _ _ hb ho.1 ho.2 h1 h2 ha
            | exact w4_ok_01 k key val l e v dn _ _ _ _ _ _ _ _ _ _ hb ho ha h3
            | exact w4_ok_00 k key val l e v dn _ _ _ _ _ _ _ _ _ _ hb ho ha
          · first
            | exact w4_big_11 k key val l e v dn _ _ _ _ _ _ _ _ _ _ hb ho.1 ho.2 h1 h2 ha h3
            | exact w4_big_10 k key val l e v dn _ _ _ _ _ _ _ _ _ _ hb ho.1 ho.2 h1 h2 ha
            | exact w4_big_01 k key val l e v dn _ _ _ _ _ _ _ _ _ _ hb ho ha h3
            | exact w4_big_00 k key val l e v dn _ _ _ _ _ _ _ _ _ _ hb ho ha
        · first
          | exact w4_rest_11 k key val l e v dn s h40 h18 h10 ho.1 ho.2 h1 h2 ha h3
          | exact w4_rest_10 k key val l e v dn s h40 h18 h10 ho.1 ho.2 h1 h2 ha
          | exact w4_rest_01 k key val l e v dn s h40 h18 h10 ho ha h3
          | exact w4_rest_00 k key val l e v dn s h40 h18 h10 ho ha
  · exact long k key val l e v dn s h40

theorem leaf_op {cs : List Value} (h : leafWf [.int .i64, .int .u64, .int .u64, .int .i64] cs) : ∃ k key val l, cs = [.int .i64 k, .int .u64 key, .int .u64 val, .int .i64 l] ∧ (Lit.int .u64 key).wf = true ∧ (Lit.int .u64 val).wf = true := by
  match cs, h with
  | [.int a k, .int b key, .int c val, .int d l], h =>
    simp only [leafWf] at h
    obtain ⟨rfl, _, rfl, h2, rfl, h3, rfl, _⟩ := h
    exact ⟨_, _, _, _, rfl, h2, h3⟩
theorem leaf_an {cs : List Value} (h : leafWf [.int .i64, .bool, .int .u64] cs) : ∃ e dn v, cs = [.int .i64 e, .bool dn, .int .u64 v] ∧ (Lit.int .u64 v).wf = true := by
  match cs, h with
  | [.int a e, .bool dn, .int c v], h =>
    simp only [leafWf] at h
    obtain ⟨rfl, _, rfl, h2, _⟩ := h
    exact ⟨_, _, _, rfl, h2⟩

theorem wf_u64 {n : Int} (h : (Lit.int .u64 n).wf = true) : Rng n := by
  simp [Lit.wf, IntKind.min, IntKind.max, IntKind.signed, IntKind.bits] at h
  unfold Rng; omega

set_option maxRecDepth 100000 in
theorem lifted (os : Os) (started : os.Started) (H : Type) (enc : TypeId × Value → H) :
    ReturnsInHanded {} Tryz.checked os 4 .any (Rows.orderBytesSpec.pre6 enc Tryz.prog Tryz.f4 Rows.orderBytesRow.domain false) (Rows.orderBytesSpec.post enc Tryz.prog Tryz.f4 false true false false) := by
  refine returnsInHanded_of_change (C := Tryz.checked) own started (by kernel_rfl) Tryz.func4
    (ChangeSpec.witness6 (enc := enc) (C := Tryz.checked) false ⟨#[], #[.agg #[.int .i64 0, .int .u64 0, .int .u64 0, .int .i64 0], .agg #[.int .i64 0, .bool false, .int .u64 0], .string ⟨#[]⟩], []⟩ 8 (by kernel_rfl) (by kernel_rfl) (by kernel_rfl) (by kernel_rfl)) ?_
  intro W base args ds gs before hval0 hW hcnd _
  have hW' := hW
  obtain ⟨p, q, hA, hV, rfl, hfz, hnd⟩ := hW
  rw [Tryz.params4] at hA
  obtain ⟨v0, vs0, d0, ds0, p0, q0, hargs, rfl, rfl, h0, r0⟩ := trodAll_cons hA
  obtain ⟨v1, vs1, d1, ds1, p1, q1, rfl, rfl, rfl, h1, r1⟩ := trodAll_cons r0
  obtain ⟨v2, vs2, d2, ds2, p2, q2, rfl, rfl, rfl, h2, r2⟩ := trodAll_cons r1
  obtain ⟨rfl, rfl, rfl⟩ := trodAll_nil r2
  obtain rfl : args = #[v0, v1, v2] := by cases args; simp_all
  have k0 := hval0 0 24 v0 rfl rfl
  have k1 := hval0 1 27 v1 rfl rfl
  obtain ⟨cs0, rfl, w0⟩ := struct_arg (n := 20) (ls := [.int .i64, .int .u64, .int .u64, .int .i64]) (by kernel_rfl) (by kernel_rfl) (by kernel_rfl) k0 h0
  obtain ⟨cs1, rfl, w1⟩ := struct_arg (n := 20) (ls := [.int .i64, .bool, .int .u64]) (by kernel_rfl) (by kernel_rfl) (by kernel_rfl) k1 h1
  obtain ⟨k, key, val, l, rfl, z1, z2⟩ := leaf_op w0
  obtain ⟨e, dn, v, rfl, z3⟩ := leaf_an w1
  obtain ⟨s, rfl, _, _, _⟩ := Go.ChangeMaps.open_string (t := 9) (by kernel_rfl) (hval0 2 9 v2 rfl rfl) h2
  have hlaw := law_calls good2 (f := 4) (by kernel_rfl) (args := [opV k key val l, anV e dn v, .string s]) (by rfl) (walk k l key val e dn v s (wf_u64 z1) (wf_u64 z2) (wf_u64 z3)) W
  obtain ⟨rfl, rfl⟩ := trodVars_none hV
  refine hlaw.mono fun x W' ⟨he, hb⟩ => ⟨.bool true, he, ?_⟩
  exact law_post (ds := [d0, d1, d2]) (tb := 4) laid (of_decide_eq_true (by kernel_rfl)) rfl rfl (by kernel_rfl) hW' (by rfl) hb

end Go.Proofs.YtiiabmpobgoajaaGreat.orderBytes
