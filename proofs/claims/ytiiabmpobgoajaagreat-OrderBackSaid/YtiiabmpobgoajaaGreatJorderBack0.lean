/- Closed facts of the row, one by one. -/
import Derived.Test.YtiiabmpobgoajaaGreatRows
import Derived.WalkKit
import Derived.ProofKit
import Derived.OpenShut
set_option linter.all false
namespace Go.Proofs.YtiiabmpobgoajaaGreat.orderBack
open Go Go.RowKit Go.ChangeShapes Go.WideShapes Go.ChangeAt
theorem j0 : (Rows.orderBackRow.wf (OpenSpec.ofChange Rows.orderBackSpec)) = true := by kernel_rfl
theorem j3 : (Tryz.f3.params.all (Tryz.prog.readableRec ·)) = true := by kernel_rfl
theorem j6 : ((Tryz.prog.stops == [])) = true := by kernel_rfl
theorem j9 : ((Rows.orderBackRow.inPlace == Tryz.prog.inPlace 3)) = true := by kernel_rfl
theorem j12 : ((Rows.orderBackRow.named == Tryz.prog.varsNamed 3)) = true := by kernel_rfl
theorem j15 : ((Rows.orderBackRow.mapsOut == Tryz.prog.mapsAmong Tryz.f3.resultTypes.toList)) = true := by kernel_rfl
theorem j18 : (Rows.orderBackSpec.vars.all (Tryz.prog.varReadable ·)) = true := by kernel_rfl
theorem j21 : ((Rows.orderBackRow.loopsOut == Tryz.f3.resultTypes.toList.any (Tryz.prog.loopsFrom ·))) = true := by kernel_rfl
theorem j24 : (Tryz.prog.stopsHeard) = true := by kernel_rfl
theorem j27 : ((Tryz.prog.make == some Rows.orderBackRow.make)) = true := by kernel_rfl
theorem j30 : ((Rows.orderBackRow.veiled == (Tryz.f3.params.toList ++ Rows.orderBackSpec.plain.varTypes Tryz.prog ++ Tryz.f3.resultTypes.toList).any (Tryz.prog.veiledRec ·))) = true := by kernel_rfl
end Go.Proofs.YtiiabmpobgoajaaGreat.orderBack
