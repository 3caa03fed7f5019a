/- Closed facts of the row, one by one. -/
import Derived.Test.YtiiabmpobgoajaaGreatRows
import Derived.WalkKit
import Derived.ProofKit
import Derived.OpenShut
set_option linter.all false
namespace Go.Proofs.YtiiabmpobgoajaaGreat.orderBytes
open Go Go.RowKit Go.ChangeShapes Go.WideShapes Go.ChangeAt
theorem j2 : (mapsRowed Tryz.prog) = true := by kernel_rfl
theorem j5 : ((Rows.orderBytesRow.stops == [])) = true := by kernel_rfl
theorem j8 : ((Tryz.prog.stopKnobs == [])) = true := by kernel_rfl
theorem j11 : ((Rows.orderBytesRow.recurses == Tryz.prog.recurses 4)) = true := by kernel_rfl
theorem j14 : ((Rows.orderBytesRow.ifaces == (Tryz.f4.params.toList ++ Rows.orderBytesSpec.plain.varTypes Tryz.prog).any (Tryz.prog.ifacesRec ·))) = true := by kernel_rfl
theorem j17 : ((Rows.orderBytesRow.wideKeys == (Tryz.f4.params.toList ++ Rows.orderBytesSpec.plain.varTypes Tryz.prog ++ Tryz.f4.resultTypes.toList).any (Tryz.prog.wideKeysFrom ·))) = true := by kernel_rfl
theorem j20 : ((Rows.orderBytesRow.ifacesOut == Tryz.f4.resultTypes.toList.any (Tryz.prog.ifacesRec ·))) = true := by kernel_rfl
theorem j23 : (Rows.orderBytesRow.shortTexts.isNone) = true := by kernel_rfl
theorem j26 : ((Rows.orderBytesRow.lifted == Tryz.prog.liftsFinal)) = true := by kernel_rfl
theorem j29 : ((Rows.orderBytesRow.pinned == Rows.orderBytesRow.pinnedBy)) = true := by kernel_rfl
end Go.Proofs.YtiiabmpobgoajaaGreat.orderBytes
