/- The statement OrderBytes holds: of every op, every answer and every text the bytes and the way back are the document's. No further condition. -/
import Derived.Test.YtiiabmpobgoajaaGreatQF
import Derived.Test.YtiiabmpobgoajaaGreatJorderBytes
set_option linter.all false
namespace Go.Proofs.YtiiabmpobgoajaaGreat.orderBytes
open Go
theorem proved : Rows.OrderBytesSaid := over_of fun os started H enc => lifted os started H enc
end Go.Proofs.YtiiabmpobgoajaaGreat.orderBytes
