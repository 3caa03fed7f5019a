/- Closed facts of the row, one by one. -/
import Derived.Test.YtiiabmpobgoajaaGreatRows
import Derived.WalkKit
import Derived.ProofKit
import Derived.OpenShut
set_option linter.all false
namespace Go.Proofs.YtiiabmpobgoajaaGreat.orderBack
open Go Go.RowKit Go.ChangeShapes Go.WideShapes Go.ChangeAt
theorem j2 : (mapsRowed Tryz.prog) = true := by kernel_rfl
theorem j5 : ((Rows.orderBackRow.stops == [])) = true := by kernel_rfl
theorem j8 : ((Tryz.prog.stopKnobs == [])) = true := by kernel_rfl
theorem j11 : ((Rows.orderBackRow.recurses == Tryz.prog.recurses 3)) = true := by kernel_rfl
theorem j14 : ((Rows.orderBackRow.ifaces == (Tryz.f3.params.toList ++ Rows.orderBackSpec.plain.varTypes Tryz.prog).any (Tryz.prog.ifacesRec ·))) = true := by kernel_rfl
theorem j17 : ((Rows.orderBackRow.wideKeys == (Tryz.f3.params.toList ++ Rows.orderBackSpec.plain.varTypes Tryz.prog ++ Tryz.f3.resultTypes.toList).any (Tryz.prog.wideKeysFrom ·))) = true := by kernel_rfl
theorem j20 : ((Rows.orderBackRow.ifacesOut == Tryz.f3.resultTypes.toList.any (Tryz.prog.ifacesRec ·))) = true := by kernel_rfl
theorem j23 : (Rows.orderBackRow.shortTexts.isNone) = true := by kernel_rfl
theorem j26 : ((Rows.orderBackRow.lifted == Tryz.prog.liftsFinal)) = true := by kernel_rfl
theorem j29 : ((Rows.orderBackRow.pinned == Rows.orderBackRow.pinnedBy)) = true := by kernel_rfl
end Go.Proofs.YtiiabmpobgoajaaGreat.orderBack
