/-
  No cell of these rows narrows 'for every input' (looked for: loops, veiled, ifaces, maps, wideKeys, modest, calm, conditions, laid).
  DERIVED. THE GIVEN ROWS OF THIS SEAT. 12 by the template 'for every input the law returns true; each argument reads behind the call as it read before'; 0 by the template 'total and deterministic' (their statements: YtiiabmpobgoajaaGreatTotals.lean).
  GIVEN WITH THE SEED: the statements are not yours to turn. If you find one false, say at which input.
  Laid BY PROGRAM, IN A SANDBOX (cutbox-rows.mjs): the forced cells as the released guide's own fill.sh prints them over the translation f018783de7ab5780… (all of the seat's roots in one cut). By AI agents, Wed Nov 11 2026. No macro, syntax, notation, axiom, sorry.
-/
import Derived.Test.YtiiabmpobgoajaaGreatChecked
import GoSem.Claim
import GoSem.ClaimJoined
import GoSem.ClaimMapViews
import Derived.JoinedTies
import Derived.KernelRfl
namespace Go.Proofs.YtiiabmpobgoajaaGreat
/- THE CELL 'sum', in the pinned program and in every row, IS THE sha256 OF THE DUMP (.gsa) THAT YtiiabmpobgoajaaGreatProg.lean LOADS. Nothing in Lean hashes anything: it is a label: what it is worth is what the hold of that sum in a sandbox is worth. -/
noncomputable def Tryz.pinned : Pinned := { name := "ytiiabmpobgoajaagreat", sum := "f018783de7ab5780237e7bdee1d77e0f6fb6748399e802eb08223498cb0e5b5a", checked := Tryz.checked }
namespace Rows
def none {H : Type} : Left H := { results := [], args := [] }

/-- 'revenantlaw20.OrderBack': WHATEVER THE INPUT: true; the input reads as it did. -/
def orderBackSpec : ChangeSpec := { name := "orderBack", fn := fun _ => fun
  | [d1, d2, d3, d4] => { results := [.lit (.bool true)], args := [d1, d2, d3, d4] }
  | _ => none }
def orderBackRow : OpenClaim := { program := "ytiiabmpobgoajaagreat", sum := "f018783de7ab5780237e7bdee1d77e0f6fb6748399e802eb08223498cb0e5b5a", func := "revenant/revenantlaw20.OrderBack", spec := "orderBack", inPlace := ["internal/abi.NoEscape"], unfollowed := true, recurses := true, plainKeys := false, apart := false }
def OrderBackSaid : Prop := orderBackRow.holds Tryz.pinned (OpenSpec.ofChange orderBackSpec)

/-- ITS FALSE NEIGHBOUR: 'it returns false'. Refute it at one input. -/
def orderBackWrong : ChangeSpec := { name := "orderBack", fn := fun _ => fun
  | [d1, d2, d3, d4] => { results := [.lit (.bool false)], args := [d1, d2, d3, d4] }
  | _ => none }
def OrderBackWrongFalsely : Prop := orderBackRow.holds Tryz.pinned (OpenSpec.ofChange orderBackWrong)

/-- 'revenantlaw20.OrderBytes': WHATEVER THE INPUT: true; the input reads as it did. -/
def orderBytesSpec : ChangeSpec := { name := "orderBytes", fn := fun _ => fun
  | [d1, d2, d3] => { results := [.lit (.bool true)], args := [d1, d2, d3] }
  | _ => none }
def orderBytesRow : OpenClaim := { program := "ytiiabmpobgoajaagreat", sum := "f018783de7ab5780237e7bdee1d77e0f6fb6748399e802eb08223498cb0e5b5a", func := "revenant/revenantlaw20.OrderBytes", spec := "orderBytes", inPlace := ["internal/abi.NoEscape"], unfollowed := true, recurses := true, plainKeys := false, apart := false }
def OrderBytesSaid : Prop := orderBytesRow.holds Tryz.pinned (OpenSpec.ofChange orderBytesSpec)

/-- ITS FALSE NEIGHBOUR: 'it returns false'. Refute it at one input. -/
def orderBytesWrong : ChangeSpec := { name := "orderBytes", fn := fun _ => fun
  | [d1, d2, d3] => { results := [.lit (.bool false)], args := [d1, d2, d3] }
  | _ => none }
def OrderBytesWrongFalsely : Prop := orderBytesRow.holds Tryz.pinned (OpenSpec.ofChange orderBytesWrong)

/-- 'revenantlaw23.RunSame': WHATEVER THE INPUT: true; the input reads as it did. -/
def runSameSpec : ChangeSpec := { name := "runSame", fn := fun _ => fun
  | [d] => { results := [.lit (.bool true)], args := [d] }
  | _ => none }
def runSameRow : OpenClaim := { program := "ytiiabmpobgoajaagreat", sum := "f018783de7ab5780237e7bdee1d77e0f6fb6748399e802eb08223498cb0e5b5a", func := "revenant/revenantlaw23.RunSame", spec := "runSame", unfollowed := true, recurses := true, plainKeys := false, apart := false }
def RunSameSaid : Prop := runSameRow.holds Tryz.pinned (OpenSpec.ofChange runSameSpec)

/-- ITS FALSE NEIGHBOUR: 'it returns false'. Refute it at one input. -/
def runSameWrong : ChangeSpec := { name := "runSame", fn := fun _ => fun
  | [d] => { results := [.lit (.bool false)], args := [d] }
  | _ => none }
def RunSameWrongFalsely : Prop := runSameRow.holds Tryz.pinned (OpenSpec.ofChange runSameWrong)

/-- 'revenantlaw23.RunSteps': WHATEVER THE INPUT: true; the input reads as it did. -/
def runStepsSpec : ChangeSpec := { name := "runSteps", fn := fun _ => fun
  | [d] => { results := [.lit (.bool true)], args := [d] }
  | _ => none }
def runStepsRow : OpenClaim := { program := "ytiiabmpobgoajaagreat", sum := "f018783de7ab5780237e7bdee1d77e0f6fb6748399e802eb08223498cb0e5b5a", func := "revenant/revenantlaw23.RunSteps", spec := "runSteps", unfollowed := true, recurses := true, plainKeys := false, apart := false }
def RunStepsSaid : Prop := runStepsRow.holds Tryz.pinned (OpenSpec.ofChange runStepsSpec)

/-- ITS FALSE NEIGHBOUR: 'it returns false'. Refute it at one input. -/
def runStepsWrong : ChangeSpec := { name := "runSteps", fn := fun _ => fun
  | [d] => { results := [.lit (.bool false)], args := [d] }
  | _ => none }
def RunStepsWrongFalsely : Prop := runStepsRow.holds Tryz.pinned (OpenSpec.ofChange runStepsWrong)

/-- 'revenantlaw20.OrderExact': WHATEVER THE INPUT: true; the input reads as it did. -/
def orderExactSpec : ChangeSpec := { name := "orderExact", fn := fun _ => fun
  | [d1, d2, d3] => { results := [.lit (.bool true)], args := [d1, d2, d3] }
  | _ => none }
def orderExactRow : OpenClaim := { program := "ytiiabmpobgoajaagreat", sum := "f018783de7ab5780237e7bdee1d77e0f6fb6748399e802eb08223498cb0e5b5a", func := "revenant/revenantlaw20.OrderExact", spec := "orderExact", inPlace := ["internal/abi.NoEscape"], unfollowed := true, recurses := true, plainKeys := false, apart := false }
def OrderExactSaid : Prop := orderExactRow.holds Tryz.pinned (OpenSpec.ofChange orderExactSpec)

/-- ITS FALSE NEIGHBOUR: 'it returns false'. Refute it at one input. -/
def orderExactWrong : ChangeSpec := { name := "orderExact", fn := fun _ => fun
  | [d1, d2, d3] => { results := [.lit (.bool false)], args := [d1, d2, d3] }
  | _ => none }
def OrderExactWrongFalsely : Prop := orderExactRow.holds Tryz.pinned (OpenSpec.ofChange orderExactWrong)

/-- 'revenantlaw14.AllocExact': WHATEVER THE INPUT: true; the input reads as it did. -/
def allocExactSpec : ChangeSpec := { name := "allocExact", fn := fun _ => fun
  | [d1, d2, d3] => { results := [.lit (.bool true)], args := [d1, d2, d3] }
  | _ => none }
def allocExactRow : OpenClaim := { program := "ytiiabmpobgoajaagreat", sum := "f018783de7ab5780237e7bdee1d77e0f6fb6748399e802eb08223498cb0e5b5a", func := "revenant/revenantlaw14.AllocExact", spec := "allocExact", inPlace := ["maps.clone"], unfollowed := true, recurses := true, plainKeys := false, apart := false }
def AllocExactSaid : Prop := allocExactRow.holds Tryz.pinned (OpenSpec.ofChange allocExactSpec)

/-- ITS FALSE NEIGHBOUR: 'it returns false'. Refute it at one input. -/
def allocExactWrong : ChangeSpec := { name := "allocExact", fn := fun _ => fun
  | [d1, d2, d3] => { results := [.lit (.bool false)], args := [d1, d2, d3] }
  | _ => none }
def AllocExactWrongFalsely : Prop := allocExactRow.holds Tryz.pinned (OpenSpec.ofChange allocExactWrong)

/-- 'revenantlaw16.ChainExact': WHATEVER THE INPUT: true; the input reads as it did. -/
def chainExactSpec : ChangeSpec := { name := "chainExact", fn := fun _ => fun
  | [d1, d2, d3, d4] => { results := [.lit (.bool true)], args := [d1, d2, d3, d4] }
  | _ => none }
def chainExactRow : OpenClaim := { program := "ytiiabmpobgoajaagreat", sum := "f018783de7ab5780237e7bdee1d77e0f6fb6748399e802eb08223498cb0e5b5a", func := "revenant/revenantlaw16.ChainExact", spec := "chainExact", inPlace := ["maps.clone"], unfollowed := true, recurses := true, plainKeys := false, apart := false }
def ChainExactSaid : Prop := chainExactRow.holds Tryz.pinned (OpenSpec.ofChange chainExactSpec)

/-- ITS FALSE NEIGHBOUR: 'it returns false'. Refute it at one input. -/
def chainExactWrong : ChangeSpec := { name := "chainExact", fn := fun _ => fun
  | [d1, d2, d3, d4] => { results := [.lit (.bool false)], args := [d1, d2, d3, d4] }
  | _ => none }
def ChainExactWrongFalsely : Prop := chainExactRow.holds Tryz.pinned (OpenSpec.ofChange chainExactWrong)

/-- 'revenantlaw17.TableExact': WHATEVER THE INPUT: true; the input reads as it did. -/
def tableExactSpec : ChangeSpec := { name := "tableExact", fn := fun _ => fun
  | [d1, d2, d3] => { results := [.lit (.bool true)], args := [d1, d2, d3] }
  | _ => none }
def tableExactRow : OpenClaim := { program := "ytiiabmpobgoajaagreat", sum := "f018783de7ab5780237e7bdee1d77e0f6fb6748399e802eb08223498cb0e5b5a", func := "revenant/revenantlaw17.TableExact", spec := "tableExact", inPlace := ["maps.clone"], unfollowed := true, recurses := true, plainKeys := false, apart := false }
def TableExactSaid : Prop := tableExactRow.holds Tryz.pinned (OpenSpec.ofChange tableExactSpec)

/-- ITS FALSE NEIGHBOUR: 'it returns false'. Refute it at one input. -/
def tableExactWrong : ChangeSpec := { name := "tableExact", fn := fun _ => fun
  | [d1, d2, d3] => { results := [.lit (.bool false)], args := [d1, d2, d3] }
  | _ => none }
def TableExactWrongFalsely : Prop := tableExactRow.holds Tryz.pinned (OpenSpec.ofChange tableExactWrong)

/-- 'revenantlaw19.SkipExact': WHATEVER THE INPUT: true; the input reads as it did. -/
def skipExactSpec : ChangeSpec := { name := "skipExact", fn := fun _ => fun
  | [d1, d2, d3] => { results := [.lit (.bool true)], args := [d1, d2, d3] }
  | _ => none }
def skipExactRow : OpenClaim := { program := "ytiiabmpobgoajaagreat", sum := "f018783de7ab5780237e7bdee1d77e0f6fb6748399e802eb08223498cb0e5b5a", func := "revenant/revenantlaw19.SkipExact", spec := "skipExact", inPlace := ["maps.clone"], unfollowed := true, recurses := true, plainKeys := false, apart := false }
def SkipExactSaid : Prop := skipExactRow.holds Tryz.pinned (OpenSpec.ofChange skipExactSpec)

/-- ITS FALSE NEIGHBOUR: 'it returns false'. Refute it at one input. -/
def skipExactWrong : ChangeSpec := { name := "skipExact", fn := fun _ => fun
  | [d1, d2, d3] => { results := [.lit (.bool false)], args := [d1, d2, d3] }
  | _ => none }
def SkipExactWrongFalsely : Prop := skipExactRow.holds Tryz.pinned (OpenSpec.ofChange skipExactWrong)

/-- 'revenantlaw23.RunExact': WHATEVER THE INPUT: true; the input reads as it did. -/
def runExactSpec : ChangeSpec := { name := "runExact", fn := fun _ => fun
  | [d1, d2] => { results := [.lit (.bool true)], args := [d1, d2] }
  | _ => none }
def runExactRow : OpenClaim := { program := "ytiiabmpobgoajaagreat", sum := "f018783de7ab5780237e7bdee1d77e0f6fb6748399e802eb08223498cb0e5b5a", func := "revenant/revenantlaw23.RunExact", spec := "runExact", inPlace := ["maps.clone"], unfollowed := true, recurses := true, plainKeys := false, apart := false }
def RunExactSaid : Prop := runExactRow.holds Tryz.pinned (OpenSpec.ofChange runExactSpec)

/-- ITS FALSE NEIGHBOUR: 'it returns false'. Refute it at one input. -/
def runExactWrong : ChangeSpec := { name := "runExact", fn := fun _ => fun
  | [d1, d2] => { results := [.lit (.bool false)], args := [d1, d2] }
  | _ => none }
def RunExactWrongFalsely : Prop := runExactRow.holds Tryz.pinned (OpenSpec.ofChange runExactWrong)

/-- 'revenantlaw29.HaltStops': WHATEVER THE INPUT: true; the input reads as it did. -/
def haltStopsSpec : ChangeSpec := { name := "haltStops", fn := fun _ => fun
  | [d1, d2, d3] => { results := [.lit (.bool true)], args := [d1, d2, d3] }
  | _ => none }
def haltStopsRow : OpenClaim := { program := "ytiiabmpobgoajaagreat", sum := "f018783de7ab5780237e7bdee1d77e0f6fb6748399e802eb08223498cb0e5b5a", func := "revenant/revenantlaw29.HaltStops", spec := "haltStops", unfollowed := true, recurses := true, plainKeys := false, apart := false }
def HaltStopsSaid : Prop := haltStopsRow.holds Tryz.pinned (OpenSpec.ofChange haltStopsSpec)

/-- ITS FALSE NEIGHBOUR: 'it returns false'. Refute it at one input. -/
def haltStopsWrong : ChangeSpec := { name := "haltStops", fn := fun _ => fun
  | [d1, d2, d3] => { results := [.lit (.bool false)], args := [d1, d2, d3] }
  | _ => none }
def HaltStopsWrongFalsely : Prop := haltStopsRow.holds Tryz.pinned (OpenSpec.ofChange haltStopsWrong)

/-- 'revenantlaw26.AuditTold': WHATEVER THE INPUT: true; the input reads as it did. -/
def auditToldSpec : ChangeSpec := { name := "auditTold", fn := fun _ => fun
  | [d1, d2, d3] => { results := [.lit (.bool true)], args := [d1, d2, d3] }
  | _ => none }
def auditToldRow : OpenClaim := { program := "ytiiabmpobgoajaagreat", sum := "f018783de7ab5780237e7bdee1d77e0f6fb6748399e802eb08223498cb0e5b5a", func := "revenant/revenantlaw26.AuditTold", spec := "auditTold", unfollowed := true, recurses := true, plainKeys := false, apart := false }
def AuditToldSaid : Prop := auditToldRow.holds Tryz.pinned (OpenSpec.ofChange auditToldSpec)

/-- ITS FALSE NEIGHBOUR: 'it returns false'. Refute it at one input. -/
def auditToldWrong : ChangeSpec := { name := "auditTold", fn := fun _ => fun
  | [d1, d2, d3] => { results := [.lit (.bool false)], args := [d1, d2, d3] }
  | _ => none }
def AuditToldWrongFalsely : Prop := auditToldRow.holds Tryz.pinned (OpenSpec.ofChange auditToldWrong)

/- THE SECOND FORM. 'bulk': how many values and letters a reading holds, each counted each time it is reached (what is shared counts as often as it is met; a slice's spare places count too). A statement '..UptoSaid' is the law's where the arguments, and the package variables that the reading takes, are together of bulk at most 1048576: NARROWER than '..Said'. Prove '..Said' where nothing that the law and all that it calls make is longer than what came in: it says more and counts as full. Else prove '..UptoSaid'. A law counts once. -/
mutual
def uptoBulk {H : Type} : DataW H → Nat
  | .lit (.string bytes) => bytes.length + 1
  | .lit _ => 1
  | .nil => 1
  | .ptr d => uptoBulk d + 1
  | .slice elems spare => uptoBulkAll elems + uptoBulkAll spare + 1
  | .agg parts => uptoBulkAll parts + 1
  | .iface _ d => uptoBulk d + 1
  | .map entries => uptoBulkEntries entries + 1
  | .held _ => 1
def uptoBulkAll {H : Type} : List (DataW H) → Nat
  | [] => 0
  | d :: r => uptoBulk d + uptoBulkAll r
def uptoBulkEntries {H : Type} : List (Lit × DataW H) → Nat
  | [] => 0
  | x :: r => uptoBulkEntry x + uptoBulkEntries r
def uptoBulkEntry {H : Type} : Lit × DataW H → Nat
  | (.string bytes, d) => bytes.length + uptoBulk d + 1
  | (_, d) => uptoBulk d + 1
 end
def uptoSmall : (H : Type) → List (DataW H) → Bool := fun _ ds => decide (uptoBulkAll ds ≤ 1048576)
def OpenSpec.upto (s : _root_.Go.ChangeSpec) : _root_.Go.OpenSpec := { _root_.Go.OpenSpec.ofChange s with cond := some uptoSmall }

/-- 'revenantlaw20.OrderBack', WHERE WHAT IT READS IS OF BULK AT MOST 1048576: true; the input reads as it did. -/
def orderBackUptoRow : OpenClaim := { program := "ytiiabmpobgoajaagreat", sum := "f018783de7ab5780237e7bdee1d77e0f6fb6748399e802eb08223498cb0e5b5a", func := "revenant/revenantlaw20.OrderBack", spec := "orderBack", inPlace := ["internal/abi.NoEscape"], unfollowed := true, recurses := true, plainKeys := false, apart := false, narrowed := true }
def OrderBackUptoSaid : Prop := orderBackUptoRow.holds Tryz.pinned (OpenSpec.upto orderBackSpec)

/-- 'revenantlaw20.OrderBytes', WHERE WHAT IT READS IS OF BULK AT MOST 1048576: true; the input reads as it did. -/
def orderBytesUptoRow : OpenClaim := { program := "ytiiabmpobgoajaagreat", sum := "f018783de7ab5780237e7bdee1d77e0f6fb6748399e802eb08223498cb0e5b5a", func := "revenant/revenantlaw20.OrderBytes", spec := "orderBytes", inPlace := ["internal/abi.NoEscape"], unfollowed := true, recurses := true, plainKeys := false, apart := false, narrowed := true }
def OrderBytesUptoSaid : Prop := orderBytesUptoRow.holds Tryz.pinned (OpenSpec.upto orderBytesSpec)

/-- 'revenantlaw23.RunSame', WHERE WHAT IT READS IS OF BULK AT MOST 1048576: true; the input reads as it did. -/
def runSameUptoRow : OpenClaim := { program := "ytiiabmpobgoajaagreat", sum := "f018783de7ab5780237e7bdee1d77e0f6fb6748399e802eb08223498cb0e5b5a", func := "revenant/revenantlaw23.RunSame", spec := "runSame", unfollowed := true, recurses := true, plainKeys := false, apart := false, narrowed := true }
def RunSameUptoSaid : Prop := runSameUptoRow.holds Tryz.pinned (OpenSpec.upto runSameSpec)

/-- 'revenantlaw23.RunSteps', WHERE WHAT IT READS IS OF BULK AT MOST 1048576: true; the input reads as it did. -/
def runStepsUptoRow : OpenClaim := { program := "ytiiabmpobgoajaagreat", sum := "f018783de7ab5780237e7bdee1d77e0f6fb6748399e802eb08223498cb0e5b5a", func := "revenant/revenantlaw23.RunSteps", spec := "runSteps", unfollowed := true, recurses := true, plainKeys := false, apart := false, narrowed := true }
def RunStepsUptoSaid : Prop := runStepsUptoRow.holds Tryz.pinned (OpenSpec.upto runStepsSpec)

/-- 'revenantlaw20.OrderExact', WHERE WHAT IT READS IS OF BULK AT MOST 1048576: true; the input reads as it did. -/
def orderExactUptoRow : OpenClaim := { program := "ytiiabmpobgoajaagreat", sum := "f018783de7ab5780237e7bdee1d77e0f6fb6748399e802eb08223498cb0e5b5a", func := "revenant/revenantlaw20.OrderExact", spec := "orderExact", inPlace := ["internal/abi.NoEscape"], unfollowed := true, recurses := true, plainKeys := false, apart := false, narrowed := true }
def OrderExactUptoSaid : Prop := orderExactUptoRow.holds Tryz.pinned (OpenSpec.upto orderExactSpec)

/-- 'revenantlaw14.AllocExact', WHERE WHAT IT READS IS OF BULK AT MOST 1048576: true; the input reads as it did. -/
def allocExactUptoRow : OpenClaim := { program := "ytiiabmpobgoajaagreat", sum := "f018783de7ab5780237e7bdee1d77e0f6fb6748399e802eb08223498cb0e5b5a", func := "revenant/revenantlaw14.AllocExact", spec := "allocExact", inPlace := ["maps.clone"], unfollowed := true, recurses := true, plainKeys := false, apart := false, narrowed := true }
def AllocExactUptoSaid : Prop := allocExactUptoRow.holds Tryz.pinned (OpenSpec.upto allocExactSpec)

/-- 'revenantlaw16.ChainExact', WHERE WHAT IT READS IS OF BULK AT MOST 1048576: true; the input reads as it did. -/
def chainExactUptoRow : OpenClaim := { program := "ytiiabmpobgoajaagreat", sum := "f018783de7ab5780237e7bdee1d77e0f6fb6748399e802eb08223498cb0e5b5a", func := "revenant/revenantlaw16.ChainExact", spec := "chainExact", inPlace := ["maps.clone"], unfollowed := true, recurses := true, plainKeys := false, apart := false, narrowed := true }
def ChainExactUptoSaid : Prop := chainExactUptoRow.holds Tryz.pinned (OpenSpec.upto chainExactSpec)

/-- 'revenantlaw17.TableExact', WHERE WHAT IT READS IS OF BULK AT MOST 1048576: true; the input reads as it did. -/
def tableExactUptoRow : OpenClaim := { program := "ytiiabmpobgoajaagreat", sum := "f018783de7ab5780237e7bdee1d77e0f6fb6748399e802eb08223498cb0e5b5a", func := "revenant/revenantlaw17.TableExact", spec := "tableExact", inPlace := ["maps.clone"], unfollowed := true, recurses := true, plainKeys := false, apart := false, narrowed := true }
def TableExactUptoSaid : Prop := tableExactUptoRow.holds Tryz.pinned (OpenSpec.upto tableExactSpec)

/-- 'revenantlaw19.SkipExact', WHERE WHAT IT READS IS OF BULK AT MOST 1048576: true; the input reads as it did. -/
def skipExactUptoRow : OpenClaim := { program := "ytiiabmpobgoajaagreat", sum := "f018783de7ab5780237e7bdee1d77e0f6fb6748399e802eb08223498cb0e5b5a", func := "revenant/revenantlaw19.SkipExact", spec := "skipExact", inPlace := ["maps.clone"], unfollowed := true, recurses := true, plainKeys := false, apart := false, narrowed := true }
def SkipExactUptoSaid : Prop := skipExactUptoRow.holds Tryz.pinned (OpenSpec.upto skipExactSpec)

/-- 'revenantlaw23.RunExact', WHERE WHAT IT READS IS OF BULK AT MOST 1048576: true; the input reads as it did. -/
def runExactUptoRow : OpenClaim := { program := "ytiiabmpobgoajaagreat", sum := "f018783de7ab5780237e7bdee1d77e0f6fb6748399e802eb08223498cb0e5b5a", func := "revenant/revenantlaw23.RunExact", spec := "runExact", inPlace := ["maps.clone"], unfollowed := true, recurses := true, plainKeys := false, apart := false, narrowed := true }
def RunExactUptoSaid : Prop := runExactUptoRow.holds Tryz.pinned (OpenSpec.upto runExactSpec)

/-- 'revenantlaw29.HaltStops', WHERE WHAT IT READS IS OF BULK AT MOST 1048576: true; the input reads as it did. -/
def haltStopsUptoRow : OpenClaim := { program := "ytiiabmpobgoajaagreat", sum := "f018783de7ab5780237e7bdee1d77e0f6fb6748399e802eb08223498cb0e5b5a", func := "revenant/revenantlaw29.HaltStops", spec := "haltStops", unfollowed := true, recurses := true, plainKeys := false, apart := false, narrowed := true }
def HaltStopsUptoSaid : Prop := haltStopsUptoRow.holds Tryz.pinned (OpenSpec.upto haltStopsSpec)

/-- 'revenantlaw26.AuditTold', WHERE WHAT IT READS IS OF BULK AT MOST 1048576: true; the input reads as it did. -/
def auditToldUptoRow : OpenClaim := { program := "ytiiabmpobgoajaagreat", sum := "f018783de7ab5780237e7bdee1d77e0f6fb6748399e802eb08223498cb0e5b5a", func := "revenant/revenantlaw26.AuditTold", spec := "auditTold", unfollowed := true, recurses := true, plainKeys := false, apart := false, narrowed := true }
def AuditToldUptoSaid : Prop := auditToldUptoRow.holds Tryz.pinned (OpenSpec.upto auditToldSpec)

end Rows
end Go.Proofs.YtiiabmpobgoajaaGreat
