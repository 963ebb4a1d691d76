/-
  NARROWER THAN 'FOR EVERY INPUT', by the rows' own cells (each row's printed sentence says how): CircuitChanges: laid · CircuitChecks: laid · CircuitNets: laid · CircuitParts: laid · CircuitReturns: laid · CircuitJoins: laid · CircuitMerges: laid · PressurePorts: laid · PressureNets: laid · PressureCauses: laid · PressureSteps: laid · PressureRests: laid.
  DERIVED. THE GIVEN ROWS OF THIS SEAT. 12 by the template 'for every input the law returns true; each argument reads behind the call as it read before'; 0 by the template 'total and deterministic' (their statements: YtmgemgdljjblmaaGreatDoorTotals.lean).
  GIVEN WITH THE SEED: the statements are not yours to turn. If you find one false, say at which input.
  Laid BY PROGRAM, IN A SANDBOX (cutbox-rows.mjs): the forced cells as the released guide's own fill.sh prints them over the translation 60aa669fa41117b5… (all of the seat's roots in one cut). By AI agents, Wed Nov 11 2026. No macro, syntax, notation, axiom, sorry.
-/
import Derived.Test.YtmgemgdljjblmaaGreatDoorChecked
import GoSem.Claim
import GoSem.ClaimJoined
import GoSem.ClaimMapViews
import Derived.JoinedTies
import Derived.KernelRfl
namespace Go.Proofs.YtmgemgdljjblmaaGreatDoor
/- THE CELL 'sum', in the pinned program and in every row, IS THE sha256 OF THE DUMP (.gsa) THAT YtmgemgdljjblmaaGreatDoorProg.lean LOADS. Nothing in Lean hashes anything: it is a label: what it is worth is what the hold of that sum in a sandbox is worth. -/
noncomputable def Tryz.pinned : Pinned := { name := "ytmgemgdljjblmaagreatdoor", sum := "60aa669fa41117b5fd0d691f84b97ee5e795a4f2000264a26a399b7a9174d05a", checked := Tryz.checked }
namespace Rows
def none {H : Type} : Left H := { results := [], args := [] }

/- WHAT THE LISTED PACKAGE-LEVEL VARIABLES READ AS WHEN THE CALL BEGINS. Each datum BY PROGRAM (the guide's laid-datum.mjs) off the statement by which the dump's own 'gosem.cut.vars' lays the variable. In a bare row this is a premise. The card (YtmgemgdljjblmaaGreatDoorCards.lean) ties it to the program's text. -/
def laid_pneumatic_lexer_ranges {H : Type} : DataW H := .agg [.agg [.lit (.int .u8 65), .lit (.int .u8 90), .lit (.int .u8 1)], .agg [.lit (.int .u8 97), .lit (.int .u8 122), .lit (.int .u8 1)], .agg [.lit (.int .u8 48), .lit (.int .u8 57), .lit (.int .u8 2)], .agg [.lit (.int .u8 95), .lit (.int .u8 95), .lit (.int .u8 3)], .agg [.lit (.int .u8 32), .lit (.int .u8 32), .lit (.int .u8 5)], .agg [.lit (.int .u8 10), .lit (.int .u8 10), .lit (.int .u8 5)]]

/-- 'pneumaticlaw21.CircuitChanges': WHATEVER THE INPUT: true; the input reads as it did. -/
def circuitChangesSpec : ChangeSpec := { name := "circuitChanges", fn := fun _ => fun
  | [d1, d2, d3] => { results := [.lit (.bool true)], args := [d1, d2, d3] }
  | _ => none }
def circuitChangesRow : OpenClaim := { program := "ytmgemgdljjblmaagreatdoor", sum := "60aa669fa41117b5fd0d691f84b97ee5e795a4f2000264a26a399b7a9174d05a", func := "pneumatic/pneumaticlaw21.CircuitChanges", spec := "circuitChanges", inPlace := ["internal/bytealg.IndexByteString", "internal/bytealg.abigen_runtime_cmpstring", "slices.overlaps[pneumatic/api.Part]"], unfollowed := true, recurses := true, named := ["pneumatic/lexer.ranges"], plainKeys := false, apart := false, laid := [("pneumatic/lexer.ranges", laid_pneumatic_lexer_ranges)] }
def CircuitChangesSaid : Prop := circuitChangesRow.holds Tryz.pinned (OpenSpec.ofChange circuitChangesSpec)

/-- ITS FALSE NEIGHBOUR: 'it returns false'. Refute it at one input. -/
def circuitChangesWrong : ChangeSpec := { name := "circuitChanges", fn := fun _ => fun
  | [d1, d2, d3] => { results := [.lit (.bool false)], args := [d1, d2, d3] }
  | _ => none }
def CircuitChangesWrongFalsely : Prop := circuitChangesRow.holds Tryz.pinned (OpenSpec.ofChange circuitChangesWrong)

/-- 'pneumaticlaw21.CircuitChecks': WHATEVER THE INPUT: true; the input reads as it did. -/
def circuitChecksSpec : ChangeSpec := { name := "circuitChecks", fn := fun _ => fun
  | [d1, d2] => { results := [.lit (.bool true)], args := [d1, d2] }
  | _ => none }
def circuitChecksRow : OpenClaim := { program := "ytmgemgdljjblmaagreatdoor", sum := "60aa669fa41117b5fd0d691f84b97ee5e795a4f2000264a26a399b7a9174d05a", func := "pneumatic/pneumaticlaw21.CircuitChecks", spec := "circuitChecks", inPlace := ["internal/bytealg.IndexByteString", "internal/bytealg.abigen_runtime_cmpstring", "slices.overlaps[pneumatic/api.Part]"], unfollowed := true, recurses := true, named := ["pneumatic/lexer.ranges"], plainKeys := false, apart := false, laid := [("pneumatic/lexer.ranges", laid_pneumatic_lexer_ranges)] }
def CircuitChecksSaid : Prop := circuitChecksRow.holds Tryz.pinned (OpenSpec.ofChange circuitChecksSpec)

/-- ITS FALSE NEIGHBOUR: 'it returns false'. Refute it at one input. -/
def circuitChecksWrong : ChangeSpec := { name := "circuitChecks", fn := fun _ => fun
  | [d1, d2] => { results := [.lit (.bool false)], args := [d1, d2] }
  | _ => none }
def CircuitChecksWrongFalsely : Prop := circuitChecksRow.holds Tryz.pinned (OpenSpec.ofChange circuitChecksWrong)

/-- 'pneumaticlaw21.CircuitNets': WHATEVER THE INPUT: true; the input reads as it did. -/
def circuitNetsSpec : ChangeSpec := { name := "circuitNets", fn := fun _ => fun
  | [d1, d2] => { results := [.lit (.bool true)], args := [d1, d2] }
  | _ => none }
def circuitNetsRow : OpenClaim := { program := "ytmgemgdljjblmaagreatdoor", sum := "60aa669fa41117b5fd0d691f84b97ee5e795a4f2000264a26a399b7a9174d05a", func := "pneumatic/pneumaticlaw21.CircuitNets", spec := "circuitNets", inPlace := ["internal/bytealg.IndexByteString", "internal/bytealg.abigen_runtime_cmpstring", "slices.overlaps[pneumatic/api.Part]"], unfollowed := true, recurses := true, named := ["pneumatic/lexer.ranges"], plainKeys := false, apart := false, laid := [("pneumatic/lexer.ranges", laid_pneumatic_lexer_ranges)] }
def CircuitNetsSaid : Prop := circuitNetsRow.holds Tryz.pinned (OpenSpec.ofChange circuitNetsSpec)

/-- ITS FALSE NEIGHBOUR: 'it returns false'. Refute it at one input. -/
def circuitNetsWrong : ChangeSpec := { name := "circuitNets", fn := fun _ => fun
  | [d1, d2] => { results := [.lit (.bool false)], args := [d1, d2] }
  | _ => none }
def CircuitNetsWrongFalsely : Prop := circuitNetsRow.holds Tryz.pinned (OpenSpec.ofChange circuitNetsWrong)

/-- 'pneumaticlaw21.CircuitParts': WHATEVER THE INPUT: true; the input reads as it did. -/
def circuitPartsSpec : ChangeSpec := { name := "circuitParts", fn := fun _ => fun
  | [d] => { results := [.lit (.bool true)], args := [d] }
  | _ => none }
def circuitPartsRow : OpenClaim := { program := "ytmgemgdljjblmaagreatdoor", sum := "60aa669fa41117b5fd0d691f84b97ee5e795a4f2000264a26a399b7a9174d05a", func := "pneumatic/pneumaticlaw21.CircuitParts", spec := "circuitParts", inPlace := ["internal/bytealg.IndexByteString", "internal/bytealg.abigen_runtime_cmpstring", "slices.overlaps[pneumatic/api.Part]"], unfollowed := true, recurses := true, named := ["pneumatic/lexer.ranges"], plainKeys := false, apart := false, laid := [("pneumatic/lexer.ranges", laid_pneumatic_lexer_ranges)] }
def CircuitPartsSaid : Prop := circuitPartsRow.holds Tryz.pinned (OpenSpec.ofChange circuitPartsSpec)

/-- ITS FALSE NEIGHBOUR: 'it returns false'. Refute it at one input. -/
def circuitPartsWrong : ChangeSpec := { name := "circuitParts", fn := fun _ => fun
  | [d] => { results := [.lit (.bool false)], args := [d] }
  | _ => none }
def CircuitPartsWrongFalsely : Prop := circuitPartsRow.holds Tryz.pinned (OpenSpec.ofChange circuitPartsWrong)

/-- 'pneumaticlaw21.CircuitReturns': WHATEVER THE INPUT: true; the input reads as it did. -/
def circuitReturnsSpec : ChangeSpec := { name := "circuitReturns", fn := fun _ => fun
  | [d1, d2] => { results := [.lit (.bool true)], args := [d1, d2] }
  | _ => none }
def circuitReturnsRow : OpenClaim := { program := "ytmgemgdljjblmaagreatdoor", sum := "60aa669fa41117b5fd0d691f84b97ee5e795a4f2000264a26a399b7a9174d05a", func := "pneumatic/pneumaticlaw21.CircuitReturns", spec := "circuitReturns", inPlace := ["internal/bytealg.IndexByteString", "internal/bytealg.abigen_runtime_cmpstring", "slices.overlaps[pneumatic/api.Part]"], unfollowed := true, recurses := true, named := ["pneumatic/lexer.ranges"], plainKeys := false, apart := false, laid := [("pneumatic/lexer.ranges", laid_pneumatic_lexer_ranges)] }
def CircuitReturnsSaid : Prop := circuitReturnsRow.holds Tryz.pinned (OpenSpec.ofChange circuitReturnsSpec)

/-- ITS FALSE NEIGHBOUR: 'it returns false'. Refute it at one input. -/
def circuitReturnsWrong : ChangeSpec := { name := "circuitReturns", fn := fun _ => fun
  | [d1, d2] => { results := [.lit (.bool false)], args := [d1, d2] }
  | _ => none }
def CircuitReturnsWrongFalsely : Prop := circuitReturnsRow.holds Tryz.pinned (OpenSpec.ofChange circuitReturnsWrong)

/-- 'pneumaticlaw21.CircuitJoins': WHATEVER THE INPUT: true; the input reads as it did. -/
def circuitJoinsSpec : ChangeSpec := { name := "circuitJoins", fn := fun _ => fun
  | [d1, d2, d3] => { results := [.lit (.bool true)], args := [d1, d2, d3] }
  | _ => none }
def circuitJoinsRow : OpenClaim := { program := "ytmgemgdljjblmaagreatdoor", sum := "60aa669fa41117b5fd0d691f84b97ee5e795a4f2000264a26a399b7a9174d05a", func := "pneumatic/pneumaticlaw21.CircuitJoins", spec := "circuitJoins", inPlace := ["internal/bytealg.IndexByteString", "internal/bytealg.abigen_runtime_cmpstring", "slices.overlaps[pneumatic/api.Part]", "slices.overlaps[pneumatic/api.Pipe]"], unfollowed := true, recurses := true, named := ["pneumatic/lexer.ranges"], plainKeys := false, apart := false, laid := [("pneumatic/lexer.ranges", laid_pneumatic_lexer_ranges)] }
def CircuitJoinsSaid : Prop := circuitJoinsRow.holds Tryz.pinned (OpenSpec.ofChange circuitJoinsSpec)

/-- ITS FALSE NEIGHBOUR: 'it returns false'. Refute it at one input. -/
def circuitJoinsWrong : ChangeSpec := { name := "circuitJoins", fn := fun _ => fun
  | [d1, d2, d3] => { results := [.lit (.bool false)], args := [d1, d2, d3] }
  | _ => none }
def CircuitJoinsWrongFalsely : Prop := circuitJoinsRow.holds Tryz.pinned (OpenSpec.ofChange circuitJoinsWrong)

/-- 'pneumaticlaw21.CircuitMerges': WHATEVER THE INPUT: true; the input reads as it did. -/
def circuitMergesSpec : ChangeSpec := { name := "circuitMerges", fn := fun _ => fun
  | [d1, d2, d3] => { results := [.lit (.bool true)], args := [d1, d2, d3] }
  | _ => none }
def circuitMergesRow : OpenClaim := { program := "ytmgemgdljjblmaagreatdoor", sum := "60aa669fa41117b5fd0d691f84b97ee5e795a4f2000264a26a399b7a9174d05a", func := "pneumatic/pneumaticlaw21.CircuitMerges", spec := "circuitMerges", inPlace := ["internal/bytealg.IndexByteString", "internal/bytealg.abigen_runtime_cmpstring", "slices.overlaps[pneumatic/api.Part]", "slices.overlaps[pneumatic/api.Pipe]"], unfollowed := true, recurses := true, named := ["pneumatic/lexer.ranges"], plainKeys := false, apart := false, laid := [("pneumatic/lexer.ranges", laid_pneumatic_lexer_ranges)] }
def CircuitMergesSaid : Prop := circuitMergesRow.holds Tryz.pinned (OpenSpec.ofChange circuitMergesSpec)

/-- ITS FALSE NEIGHBOUR: 'it returns false'. Refute it at one input. -/
def circuitMergesWrong : ChangeSpec := { name := "circuitMerges", fn := fun _ => fun
  | [d1, d2, d3] => { results := [.lit (.bool false)], args := [d1, d2, d3] }
  | _ => none }
def CircuitMergesWrongFalsely : Prop := circuitMergesRow.holds Tryz.pinned (OpenSpec.ofChange circuitMergesWrong)

/-- 'pneumaticlaw24.PressurePorts': WHATEVER THE INPUT: true; the input reads as it did. -/
def pressurePortsSpec : ChangeSpec := { name := "pressurePorts", fn := fun _ => fun
  | [d1, d2, d3] => { results := [.lit (.bool true)], args := [d1, d2, d3] }
  | _ => none }
def pressurePortsRow : OpenClaim := { program := "ytmgemgdljjblmaagreatdoor", sum := "60aa669fa41117b5fd0d691f84b97ee5e795a4f2000264a26a399b7a9174d05a", func := "pneumatic/pneumaticlaw24.PressurePorts", spec := "pressurePorts", inPlace := ["internal/bytealg.IndexByteString", "internal/bytealg.abigen_runtime_cmpstring"], unfollowed := true, recurses := true, named := ["pneumatic/lexer.ranges"], plainKeys := false, apart := false, laid := [("pneumatic/lexer.ranges", laid_pneumatic_lexer_ranges)] }
def PressurePortsSaid : Prop := pressurePortsRow.holds Tryz.pinned (OpenSpec.ofChange pressurePortsSpec)

/-- ITS FALSE NEIGHBOUR: 'it returns false'. Refute it at one input. -/
def pressurePortsWrong : ChangeSpec := { name := "pressurePorts", fn := fun _ => fun
  | [d1, d2, d3] => { results := [.lit (.bool false)], args := [d1, d2, d3] }
  | _ => none }
def PressurePortsWrongFalsely : Prop := pressurePortsRow.holds Tryz.pinned (OpenSpec.ofChange pressurePortsWrong)

/-- 'pneumaticlaw24.PressureNets': WHATEVER THE INPUT: true; the input reads as it did. -/
def pressureNetsSpec : ChangeSpec := { name := "pressureNets", fn := fun _ => fun
  | [d1, d2] => { results := [.lit (.bool true)], args := [d1, d2] }
  | _ => none }
def pressureNetsRow : OpenClaim := { program := "ytmgemgdljjblmaagreatdoor", sum := "60aa669fa41117b5fd0d691f84b97ee5e795a4f2000264a26a399b7a9174d05a", func := "pneumatic/pneumaticlaw24.PressureNets", spec := "pressureNets", inPlace := ["internal/bytealg.IndexByteString", "internal/bytealg.abigen_runtime_cmpstring"], unfollowed := true, recurses := true, named := ["pneumatic/lexer.ranges"], plainKeys := false, apart := false, laid := [("pneumatic/lexer.ranges", laid_pneumatic_lexer_ranges)] }
def PressureNetsSaid : Prop := pressureNetsRow.holds Tryz.pinned (OpenSpec.ofChange pressureNetsSpec)

/-- ITS FALSE NEIGHBOUR: 'it returns false'. Refute it at one input. -/
def pressureNetsWrong : ChangeSpec := { name := "pressureNets", fn := fun _ => fun
  | [d1, d2] => { results := [.lit (.bool false)], args := [d1, d2] }
  | _ => none }
def PressureNetsWrongFalsely : Prop := pressureNetsRow.holds Tryz.pinned (OpenSpec.ofChange pressureNetsWrong)

/-- 'pneumaticlaw24.PressureCauses': WHATEVER THE INPUT: true; the input reads as it did. -/
def pressureCausesSpec : ChangeSpec := { name := "pressureCauses", fn := fun _ => fun
  | [d1, d2] => { results := [.lit (.bool true)], args := [d1, d2] }
  | _ => none }
def pressureCausesRow : OpenClaim := { program := "ytmgemgdljjblmaagreatdoor", sum := "60aa669fa41117b5fd0d691f84b97ee5e795a4f2000264a26a399b7a9174d05a", func := "pneumatic/pneumaticlaw24.PressureCauses", spec := "pressureCauses", inPlace := ["internal/bytealg.IndexByteString", "internal/bytealg.abigen_runtime_cmpstring"], unfollowed := true, recurses := true, named := ["pneumatic/lexer.ranges"], plainKeys := false, apart := false, laid := [("pneumatic/lexer.ranges", laid_pneumatic_lexer_ranges)] }
def PressureCausesSaid : Prop := pressureCausesRow.holds Tryz.pinned (OpenSpec.ofChange pressureCausesSpec)

/-- ITS FALSE NEIGHBOUR: 'it returns false'. Refute it at one input. -/
def pressureCausesWrong : ChangeSpec := { name := "pressureCauses", fn := fun _ => fun
  | [d1, d2] => { results := [.lit (.bool false)], args := [d1, d2] }
  | _ => none }
def PressureCausesWrongFalsely : Prop := pressureCausesRow.holds Tryz.pinned (OpenSpec.ofChange pressureCausesWrong)

/-- 'pneumaticlaw24.PressureSteps': WHATEVER THE INPUT: true; the input reads as it did. -/
def pressureStepsSpec : ChangeSpec := { name := "pressureSteps", fn := fun _ => fun
  | [d1, d2] => { results := [.lit (.bool true)], args := [d1, d2] }
  | _ => none }
def pressureStepsRow : OpenClaim := { program := "ytmgemgdljjblmaagreatdoor", sum := "60aa669fa41117b5fd0d691f84b97ee5e795a4f2000264a26a399b7a9174d05a", func := "pneumatic/pneumaticlaw24.PressureSteps", spec := "pressureSteps", inPlace := ["internal/bytealg.IndexByteString", "internal/bytealg.abigen_runtime_cmpstring"], unfollowed := true, recurses := true, named := ["pneumatic/lexer.ranges"], plainKeys := false, apart := false, laid := [("pneumatic/lexer.ranges", laid_pneumatic_lexer_ranges)] }
def PressureStepsSaid : Prop := pressureStepsRow.holds Tryz.pinned (OpenSpec.ofChange pressureStepsSpec)

/-- ITS FALSE NEIGHBOUR: 'it returns false'. Refute it at one input. -/
def pressureStepsWrong : ChangeSpec := { name := "pressureSteps", fn := fun _ => fun
  | [d1, d2] => { results := [.lit (.bool false)], args := [d1, d2] }
  | _ => none }
def PressureStepsWrongFalsely : Prop := pressureStepsRow.holds Tryz.pinned (OpenSpec.ofChange pressureStepsWrong)

/-- 'pneumaticlaw24.PressureRests': WHATEVER THE INPUT: true; the input reads as it did. -/
def pressureRestsSpec : ChangeSpec := { name := "pressureRests", fn := fun _ => fun
  | [d1, d2] => { results := [.lit (.bool true)], args := [d1, d2] }
  | _ => none }
def pressureRestsRow : OpenClaim := { program := "ytmgemgdljjblmaagreatdoor", sum := "60aa669fa41117b5fd0d691f84b97ee5e795a4f2000264a26a399b7a9174d05a", func := "pneumatic/pneumaticlaw24.PressureRests", spec := "pressureRests", inPlace := ["internal/bytealg.IndexByteString", "internal/bytealg.abigen_runtime_cmpstring"], unfollowed := true, recurses := true, named := ["pneumatic/lexer.ranges"], plainKeys := false, apart := false, laid := [("pneumatic/lexer.ranges", laid_pneumatic_lexer_ranges)] }
def PressureRestsSaid : Prop := pressureRestsRow.holds Tryz.pinned (OpenSpec.ofChange pressureRestsSpec)

/-- ITS FALSE NEIGHBOUR: 'it returns false'. Refute it at one input. -/
def pressureRestsWrong : ChangeSpec := { name := "pressureRests", fn := fun _ => fun
  | [d1, d2] => { results := [.lit (.bool false)], args := [d1, d2] }
  | _ => none }
def PressureRestsWrongFalsely : Prop := pressureRestsRow.holds Tryz.pinned (OpenSpec.ofChange pressureRestsWrong)

/- THE SECOND FORM. 'bulk': how many values and letters a reading holds, each counted each time it is reached (what is shared counts as often as it is met; a slice's spare places count too). A statement '..UptoSaid' is the law's where the arguments, and the package variables that the reading takes, are together of bulk at most 1048576: NARROWER than '..Said'. Prove '..Said' where nothing that the law and all that it calls make is longer than what came in: it says more and counts as full. Else prove '..UptoSaid'. A law counts once. -/
mutual
def uptoBulk {H : Type} : DataW H → Nat
  | .lit (.string bytes) => bytes.length + 1
  | .lit _ => 1
  | .nil => 1
  | .ptr d => uptoBulk d + 1
  | .slice elems spare => uptoBulkAll elems + uptoBulkAll spare + 1
  | .agg parts => uptoBulkAll parts + 1
  | .iface _ d => uptoBulk d + 1
  | .map entries => uptoBulkEntries entries + 1
  | .held _ => 1
def uptoBulkAll {H : Type} : List (DataW H) → Nat
  | [] => 0
  | d :: r => uptoBulk d + uptoBulkAll r
def uptoBulkEntries {H : Type} : List (Lit × DataW H) → Nat
  | [] => 0
  | x :: r => uptoBulkEntry x + uptoBulkEntries r
def uptoBulkEntry {H : Type} : Lit × DataW H → Nat
  | (.string bytes, d) => bytes.length + uptoBulk d + 1
  | (_, d) => uptoBulk d + 1
 end
def uptoSmall : (H : Type) → List (DataW H) → Bool := fun _ ds => decide (uptoBulkAll ds ≤ 1048576)
def OpenSpec.upto (s : _root_.Go.ChangeSpec) : _root_.Go.OpenSpec := { _root_.Go.OpenSpec.ofChange s with cond := some uptoSmall }

/-- 'pneumaticlaw21.CircuitChanges', WHERE WHAT IT READS IS OF BULK AT MOST 1048576: true; the input reads as it did. -/
def circuitChangesUptoRow : OpenClaim := { program := "ytmgemgdljjblmaagreatdoor", sum := "60aa669fa41117b5fd0d691f84b97ee5e795a4f2000264a26a399b7a9174d05a", func := "pneumatic/pneumaticlaw21.CircuitChanges", spec := "circuitChanges", inPlace := ["internal/bytealg.IndexByteString", "internal/bytealg.abigen_runtime_cmpstring", "slices.overlaps[pneumatic/api.Part]"], unfollowed := true, recurses := true, named := ["pneumatic/lexer.ranges"], plainKeys := false, apart := false, laid := [("pneumatic/lexer.ranges", laid_pneumatic_lexer_ranges)], narrowed := true }
def CircuitChangesUptoSaid : Prop := circuitChangesUptoRow.holds Tryz.pinned (OpenSpec.upto circuitChangesSpec)

/-- 'pneumaticlaw21.CircuitChecks', WHERE WHAT IT READS IS OF BULK AT MOST 1048576: true; the input reads as it did. -/
def circuitChecksUptoRow : OpenClaim := { program := "ytmgemgdljjblmaagreatdoor", sum := "60aa669fa41117b5fd0d691f84b97ee5e795a4f2000264a26a399b7a9174d05a", func := "pneumatic/pneumaticlaw21.CircuitChecks", spec := "circuitChecks", inPlace := ["internal/bytealg.IndexByteString", "internal/bytealg.abigen_runtime_cmpstring", "slices.overlaps[pneumatic/api.Part]"], unfollowed := true, recurses := true, named := ["pneumatic/lexer.ranges"], plainKeys := false, apart := false, laid := [("pneumatic/lexer.ranges", laid_pneumatic_lexer_ranges)], narrowed := true }
def CircuitChecksUptoSaid : Prop := circuitChecksUptoRow.holds Tryz.pinned (OpenSpec.upto circuitChecksSpec)

/-- 'pneumaticlaw21.CircuitNets', WHERE WHAT IT READS IS OF BULK AT MOST 1048576: true; the input reads as it did. -/
def circuitNetsUptoRow : OpenClaim := { program := "ytmgemgdljjblmaagreatdoor", sum := "60aa669fa41117b5fd0d691f84b97ee5e795a4f2000264a26a399b7a9174d05a", func := "pneumatic/pneumaticlaw21.CircuitNets", spec := "circuitNets", inPlace := ["internal/bytealg.IndexByteString", "internal/bytealg.abigen_runtime_cmpstring", "slices.overlaps[pneumatic/api.Part]"], unfollowed := true, recurses := true, named := ["pneumatic/lexer.ranges"], plainKeys := false, apart := false, laid := [("pneumatic/lexer.ranges", laid_pneumatic_lexer_ranges)], narrowed := true }
def CircuitNetsUptoSaid : Prop := circuitNetsUptoRow.holds Tryz.pinned (OpenSpec.upto circuitNetsSpec)

/-- 'pneumaticlaw21.CircuitParts', WHERE WHAT IT READS IS OF BULK AT MOST 1048576: true; the input reads as it did. -/
def circuitPartsUptoRow : OpenClaim := { program := "ytmgemgdljjblmaagreatdoor", sum := "60aa669fa41117b5fd0d691f84b97ee5e795a4f2000264a26a399b7a9174d05a", func := "pneumatic/pneumaticlaw21.CircuitParts", spec := "circuitParts", inPlace := ["internal/bytealg.IndexByteString", "internal/bytealg.abigen_runtime_cmpstring", "slices.overlaps[pneumatic/api.Part]"], unfollowed := true, recurses := true, named := ["pneumatic/lexer.ranges"], plainKeys := false, apart := false, laid := [("pneumatic/lexer.ranges", laid_pneumatic_lexer_ranges)], narrowed := true }
def CircuitPartsUptoSaid : Prop := circuitPartsUptoRow.holds Tryz.pinned (OpenSpec.upto circuitPartsSpec)

/-- 'pneumaticlaw21.CircuitReturns', WHERE WHAT IT READS IS OF BULK AT MOST 1048576: true; the input reads as it did. -/
def circuitReturnsUptoRow : OpenClaim := { program := "ytmgemgdljjblmaagreatdoor", sum := "60aa669fa41117b5fd0d691f84b97ee5e795a4f2000264a26a399b7a9174d05a", func := "pneumatic/pneumaticlaw21.CircuitReturns", spec := "circuitReturns", inPlace := ["internal/bytealg.IndexByteString", "internal/bytealg.abigen_runtime_cmpstring", "slices.overlaps[pneumatic/api.Part]"], unfollowed := true, recurses := true, named := ["pneumatic/lexer.ranges"], plainKeys := false, apart := false, laid := [("pneumatic/lexer.ranges", laid_pneumatic_lexer_ranges)], narrowed := true }
def CircuitReturnsUptoSaid : Prop := circuitReturnsUptoRow.holds Tryz.pinned (OpenSpec.upto circuitReturnsSpec)

/-- 'pneumaticlaw21.CircuitJoins', WHERE WHAT IT READS IS OF BULK AT MOST 1048576: true; the input reads as it did. -/
def circuitJoinsUptoRow : OpenClaim := { program := "ytmgemgdljjblmaagreatdoor", sum := "60aa669fa41117b5fd0d691f84b97ee5e795a4f2000264a26a399b7a9174d05a", func := "pneumatic/pneumaticlaw21.CircuitJoins", spec := "circuitJoins", inPlace := ["internal/bytealg.IndexByteString", "internal/bytealg.abigen_runtime_cmpstring", "slices.overlaps[pneumatic/api.Part]", "slices.overlaps[pneumatic/api.Pipe]"], unfollowed := true, recurses := true, named := ["pneumatic/lexer.ranges"], plainKeys := false, apart := false, laid := [("pneumatic/lexer.ranges", laid_pneumatic_lexer_ranges)], narrowed := true }
def CircuitJoinsUptoSaid : Prop := circuitJoinsUptoRow.holds Tryz.pinned (OpenSpec.upto circuitJoinsSpec)

/-- 'pneumaticlaw21.CircuitMerges', WHERE WHAT IT READS IS OF BULK AT MOST 1048576: true; the input reads as it did. -/
def circuitMergesUptoRow : OpenClaim := { program := "ytmgemgdljjblmaagreatdoor", sum := "60aa669fa41117b5fd0d691f84b97ee5e795a4f2000264a26a399b7a9174d05a", func := "pneumatic/pneumaticlaw21.CircuitMerges", spec := "circuitMerges", inPlace := ["internal/bytealg.IndexByteString", "internal/bytealg.abigen_runtime_cmpstring", "slices.overlaps[pneumatic/api.Part]", "slices.overlaps[pneumatic/api.Pipe]"], unfollowed := true, recurses := true, named := ["pneumatic/lexer.ranges"], plainKeys := false, apart := false, laid := [("pneumatic/lexer.ranges", laid_pneumatic_lexer_ranges)], narrowed := true }
def CircuitMergesUptoSaid : Prop := circuitMergesUptoRow.holds Tryz.pinned (OpenSpec.upto circuitMergesSpec)

/-- 'pneumaticlaw24.PressurePorts', WHERE WHAT IT READS IS OF BULK AT MOST 1048576: true; the input reads as it did. -/
def pressurePortsUptoRow : OpenClaim := { program := "ytmgemgdljjblmaagreatdoor", sum := "60aa669fa41117b5fd0d691f84b97ee5e795a4f2000264a26a399b7a9174d05a", func := "pneumatic/pneumaticlaw24.PressurePorts", spec := "pressurePorts", inPlace := ["internal/bytealg.IndexByteString", "internal/bytealg.abigen_runtime_cmpstring"], unfollowed := true, recurses := true, named := ["pneumatic/lexer.ranges"], plainKeys := false, apart := false, laid := [("pneumatic/lexer.ranges", laid_pneumatic_lexer_ranges)], narrowed := true }
def PressurePortsUptoSaid : Prop := pressurePortsUptoRow.holds Tryz.pinned (OpenSpec.upto pressurePortsSpec)

/-- 'pneumaticlaw24.PressureNets', WHERE WHAT IT READS IS OF BULK AT MOST 1048576: true; the input reads as it did. -/
def pressureNetsUptoRow : OpenClaim := { program := "ytmgemgdljjblmaagreatdoor", sum := "60aa669fa41117b5fd0d691f84b97ee5e795a4f2000264a26a399b7a9174d05a", func := "pneumatic/pneumaticlaw24.PressureNets", spec := "pressureNets", inPlace := ["internal/bytealg.IndexByteString", "internal/bytealg.abigen_runtime_cmpstring"], unfollowed := true, recurses := true, named := ["pneumatic/lexer.ranges"], plainKeys := false, apart := false, laid := [("pneumatic/lexer.ranges", laid_pneumatic_lexer_ranges)], narrowed := true }
def PressureNetsUptoSaid : Prop := pressureNetsUptoRow.holds Tryz.pinned (OpenSpec.upto pressureNetsSpec)

/-- 'pneumaticlaw24.PressureCauses', WHERE WHAT IT READS IS OF BULK AT MOST 1048576: true; the input reads as it did. -/
def pressureCausesUptoRow : OpenClaim := { program := "ytmgemgdljjblmaagreatdoor", sum := "60aa669fa41117b5fd0d691f84b97ee5e795a4f2000264a26a399b7a9174d05a", func := "pneumatic/pneumaticlaw24.PressureCauses", spec := "pressureCauses", inPlace := ["internal/bytealg.IndexByteString", "internal/bytealg.abigen_runtime_cmpstring"], unfollowed := true, recurses := true, named := ["pneumatic/lexer.ranges"], plainKeys := false, apart := false, laid := [("pneumatic/lexer.ranges", laid_pneumatic_lexer_ranges)], narrowed := true }
def PressureCausesUptoSaid : Prop := pressureCausesUptoRow.holds Tryz.pinned (OpenSpec.upto pressureCausesSpec)

/-- 'pneumaticlaw24.PressureSteps', WHERE WHAT IT READS IS OF BULK AT MOST 1048576: true; the input reads as it did. -/
def pressureStepsUptoRow : OpenClaim := { program := "ytmgemgdljjblmaagreatdoor", sum := "60aa669fa41117b5fd0d691f84b97ee5e795a4f2000264a26a399b7a9174d05a", func := "pneumatic/pneumaticlaw24.PressureSteps", spec := "pressureSteps", inPlace := ["internal/bytealg.IndexByteString", "internal/bytealg.abigen_runtime_cmpstring"], unfollowed := true, recurses := true, named := ["pneumatic/lexer.ranges"], plainKeys := false, apart := false, laid := [("pneumatic/lexer.ranges", laid_pneumatic_lexer_ranges)], narrowed := true }
def PressureStepsUptoSaid : Prop := pressureStepsUptoRow.holds Tryz.pinned (OpenSpec.upto pressureStepsSpec)

/-- 'pneumaticlaw24.PressureRests', WHERE WHAT IT READS IS OF BULK AT MOST 1048576: true; the input reads as it did. -/
def pressureRestsUptoRow : OpenClaim := { program := "ytmgemgdljjblmaagreatdoor", sum := "60aa669fa41117b5fd0d691f84b97ee5e795a4f2000264a26a399b7a9174d05a", func := "pneumatic/pneumaticlaw24.PressureRests", spec := "pressureRests", inPlace := ["internal/bytealg.IndexByteString", "internal/bytealg.abigen_runtime_cmpstring"], unfollowed := true, recurses := true, named := ["pneumatic/lexer.ranges"], plainKeys := false, apart := false, laid := [("pneumatic/lexer.ranges", laid_pneumatic_lexer_ranges)], narrowed := true }
def PressureRestsUptoSaid : Prop := pressureRestsUptoRow.holds Tryz.pinned (OpenSpec.upto pressureRestsSpec)

end Rows
end Go.Proofs.YtmgemgdljjblmaaGreatDoor
