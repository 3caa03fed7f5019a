/- The statement OrderBack holds: what was told as bytes is read as it was, and unlike ops and unlike answers have unlike bytes. No further condition. -/
import Derived.Test.YtiiabmpobgoajaaGreatRF
import Derived.Test.YtiiabmpobgoajaaGreatJorderBack
set_option linter.all false
namespace Go.Proofs.YtiiabmpobgoajaaGreat.orderBack
open Go
theorem proved : Rows.OrderBackSaid := over_of fun os started H enc => lifted os started H enc
end Go.Proofs.YtiiabmpobgoajaaGreat.orderBack
