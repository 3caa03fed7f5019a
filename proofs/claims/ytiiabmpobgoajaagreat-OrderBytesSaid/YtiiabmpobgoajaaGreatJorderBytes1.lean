/- Closed facts of the row, one by one. -/
import Derived.Test.YtiiabmpobgoajaaGreatRows
import Derived.WalkKit
import Derived.ProofKit
import Derived.OpenShut
set_option linter.all false
namespace Go.Proofs.YtiiabmpobgoajaaGreat.orderBytes
open Go Go.RowKit Go.ChangeShapes Go.WideShapes Go.ChangeAt
theorem j1 : (laidOutB Tryz.prog) = true := by kernel_rfl
theorem j4 : (namedTie Tryz.prog Rows.orderBytesRow.named Rows.orderBytesSpec.vars) = true := by kernel_rfl
theorem j7 : ((Rows.orderBytesRow.knobs == [])) = true := by kernel_rfl
theorem j10 : ((Rows.orderBytesRow.unfollowed == Tryz.prog.unfollowed 4)) = true := by kernel_rfl
theorem j13 : ((Rows.orderBytesRow.maps == (Tryz.f4.params.toList ++ Rows.orderBytesSpec.plain.varTypes Tryz.prog).any (Tryz.prog.mapsRec ·))) = true := by kernel_rfl
theorem j16 : ((Rows.orderBytesRow.loops == (Tryz.f4.params.toList ++ Rows.orderBytesSpec.plain.varTypes Tryz.prog).any (Tryz.prog.loopsFrom ·))) = true := by kernel_rfl
theorem j19 : (Tryz.f4.resultTypes.all (fun t => Tryz.prog.readableRec t && decide (t < Tryz.prog.types.size))) = true := by kernel_rfl
theorem j22 : ((Rows.orderBytesRow.plainKeys == Tryz.prog.plainKeys)) = true := by kernel_rfl
theorem j25 : (Tryz.prog.mayEnter) = true := by kernel_rfl
theorem j28 : ((Rows.orderBytesRow.kinds == (if Rows.orderBytesRow.domain.isEmpty then [] else Tryz.f4.params.toList.map fun t => match Tryz.prog.underlying t with | some (.int k) => some k | _ => none))) = true := by kernel_rfl
theorem j31 : (Rows.orderBytesRow.veiledFits Tryz.prog Tryz.f4.params.toList (Tryz.f4.params.toList ++ Rows.orderBytesSpec.plain.varTypes Tryz.prog ++ Tryz.f4.resultTypes.toList)) = true := by kernel_rfl
end Go.Proofs.YtiiabmpobgoajaaGreat.orderBytes
