/- Part of the proof: QA. -/
import Derived.Test.YtiiabmpobgoajaaGreatTabF
import Derived.Test.YtiiabmpobgoajaaGreatPartEvS1
set_option linter.all false
namespace Go.Proofs.YtiiabmpobgoajaaGreat
open Go Go.Ev Tab
/-- Law 20 is awake. -/
theorem awake_20 : Does (runw ctx 15 [] hp0) fun r => (match r.1 with | .bool b => b | _ => false) = true :=
  does_kernel 100000 (fun r => match r.1 with | .bool b => b | _ => false) (by kernel_rfl)
theorem awake20 : Does (runw ctx 15 [] hp0) fun r => r.1 = .bool true := awake_20.mono fun r h => by
  obtain ⟨v, H⟩ := r
  cases v <;> simp_all
end Go.Proofs.YtiiabmpobgoajaaGreat
