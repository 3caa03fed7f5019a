/- Closed facts of the row, one by one. -/
import Derived.Test.YtiiabmpobgoajaaGreatRows
import Derived.WalkKit
import Derived.ProofKit
import Derived.OpenShut
set_option linter.all false
namespace Go.Proofs.YtiiabmpobgoajaaGreat.orderBack
open Go Go.RowKit Go.ChangeShapes Go.WideShapes Go.ChangeAt
theorem j1 : (laidOutB Tryz.prog) = true := by kernel_rfl
theorem j4 : (namedTie Tryz.prog Rows.orderBackRow.named Rows.orderBackSpec.vars) = true := by kernel_rfl
theorem j7 : ((Rows.orderBackRow.knobs == [])) = true := by kernel_rfl
theorem j10 : ((Rows.orderBackRow.unfollowed == Tryz.prog.unfollowed 3)) = true := by kernel_rfl
theorem j13 : ((Rows.orderBackRow.maps == (Tryz.f3.params.toList ++ Rows.orderBackSpec.plain.varTypes Tryz.prog).any (Tryz.prog.mapsRec ·))) = true := by kernel_rfl
theorem j16 : ((Rows.orderBackRow.loops == (Tryz.f3.params.toList ++ Rows.orderBackSpec.plain.varTypes Tryz.prog).any (Tryz.prog.loopsFrom ·))) = true := by kernel_rfl
theorem j19 : (Tryz.f3.resultTypes.all (fun t => Tryz.prog.readableRec t && decide (t < Tryz.prog.types.size))) = true := by kernel_rfl
theorem j22 : ((Rows.orderBackRow.plainKeys == Tryz.prog.plainKeys)) = true := by kernel_rfl
theorem j25 : (Tryz.prog.mayEnter) = true := by kernel_rfl
theorem j28 : ((Rows.orderBackRow.kinds == (if Rows.orderBackRow.domain.isEmpty then [] else Tryz.f3.params.toList.map fun t => match Tryz.prog.underlying t with | some (.int k) => some k | _ => none))) = true := by kernel_rfl
theorem j31 : (Rows.orderBackRow.veiledFits Tryz.prog Tryz.f3.params.toList (Tryz.f3.params.toList ++ Rows.orderBackSpec.plain.varTypes Tryz.prog ++ Tryz.f3.resultTypes.toList)) = true := by kernel_rfl
end Go.Proofs.YtiiabmpobgoajaaGreat.orderBack
