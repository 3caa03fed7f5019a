/- Closed facts of the row. -/
import Derived.Test.YtiiabmpobgoajaaGreatJorderBack0
import Derived.Test.YtiiabmpobgoajaaGreatJorderBack1
import Derived.Test.YtiiabmpobgoajaaGreatJorderBack2
import Derived.Test.YtiiabmpobgoajaaGreatRows
import Derived.WalkKit
import Derived.ProofKit
import Derived.OpenShut
set_option linter.all false
namespace Go.Proofs.YtiiabmpobgoajaaGreat.orderBack
open Go Go.RowKit Go.ChangeShapes Go.WideShapes Go.ChangeAt

theorem band {a b : Bool} (h : a = true) (k : b = true) : (a && b) = true := by rw [h, k]; rfl
set_option maxRecDepth 100000 in
theorem joined : joinedFacts Tryz.prog 3 Tryz.f3 Rows.orderBackSpec Rows.orderBackRow = true := (band (band (band (band (band (band (band (band (band (band (band (band (band (band (band (band (band (band (band (band (band (band (band (band (band (band (band (band (band (band (band j0 j1) j2) j3) j4) j5) j6) j7) j8) j9) j10) j11) j12) j13) j14) j15) j16) j17) j18) j19) j20) j21) j22) j23) j24) j25) j26) j27) (by as_aux_lemma => kernel_rfl)) j29) j30) j31)
theorem over_of (h : ∀ (os : Os) (_ : os.Started) (H : Type) (enc : TypeId × Value → H),
    ReturnsInHanded {} Tryz.checked os 3 .any (Rows.orderBackSpec.pre6 enc Tryz.prog Tryz.f3 Rows.orderBackRow.domain false) (Rows.orderBackSpec.post enc Tryz.prog Tryz.f3 false true false false)) : Rows.orderBackRow.holds Tryz.pinned (OpenSpec.ofChange Rows.orderBackSpec) :=
  OpenClaim.holds_of_wide 3 Tryz.f3 rfl rfl rfl rfl rfl rfl rfl ⟨rfl, rfl, rfl, rfl, rfl⟩ rfl rfl rfl rfl rfl (by as_aux_lemma => kernel_rfl) Tryz.func3 joined
    (of_decide_eq_true (by as_aux_lemma => kernel_rfl)) (by unfold Func.isWrapper; first | (rw [if_pos (by decide +kernel)]; kernel_rfl) | (rw [if_neg (by decide +kernel)]; exact ⟨rfl, rfl⟩))
    (fun os started H enc _ => h os started H enc)
end Go.Proofs.YtiiabmpobgoajaaGreat.orderBack
