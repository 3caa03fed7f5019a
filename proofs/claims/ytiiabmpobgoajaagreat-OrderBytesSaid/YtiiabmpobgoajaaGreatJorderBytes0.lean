/- Closed facts of the row, one by one. -/
import Derived.Test.YtiiabmpobgoajaaGreatRows
import Derived.WalkKit
import Derived.ProofKit
import Derived.OpenShut
set_option linter.all false
namespace Go.Proofs.YtiiabmpobgoajaaGreat.orderBytes
open Go Go.RowKit Go.ChangeShapes Go.WideShapes Go.ChangeAt
theorem j0 : (Rows.orderBytesRow.wf (OpenSpec.ofChange Rows.orderBytesSpec)) = true := by kernel_rfl
theorem j3 : (Tryz.f4.params.all (Tryz.prog.readableRec ·)) = true := by kernel_rfl
theorem j6 : ((Tryz.prog.stops == [])) = true := by kernel_rfl
theorem j9 : ((Rows.orderBytesRow.inPlace == Tryz.prog.inPlace 4)) = true := by kernel_rfl
theorem j12 : ((Rows.orderBytesRow.named == Tryz.prog.varsNamed 4)) = true := by kernel_rfl
theorem j15 : ((Rows.orderBytesRow.mapsOut == Tryz.prog.mapsAmong Tryz.f4.resultTypes.toList)) = true := by kernel_rfl
theorem j18 : (Rows.orderBytesSpec.vars.all (Tryz.prog.varReadable ·)) = true := by kernel_rfl
theorem j21 : ((Rows.orderBytesRow.loopsOut == Tryz.f4.resultTypes.toList.any (Tryz.prog.loopsFrom ·))) = true := by kernel_rfl
theorem j24 : (Tryz.prog.stopsHeard) = true := by kernel_rfl
theorem j27 : ((Tryz.prog.make == some Rows.orderBytesRow.make)) = true := by kernel_rfl
theorem j30 : ((Rows.orderBytesRow.veiled == (Tryz.f4.params.toList ++ Rows.orderBytesSpec.plain.varTypes Tryz.prog ++ Tryz.f4.resultTypes.toList).any (Tryz.prog.veiledRec ·))) = true := by kernel_rfl
end Go.Proofs.YtiiabmpobgoajaaGreat.orderBytes
