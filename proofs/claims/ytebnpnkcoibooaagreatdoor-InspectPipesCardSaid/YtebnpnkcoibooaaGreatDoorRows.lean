/-
  NARROWER THAN 'FOR EVERY INPUT', by the rows' own cells (each row's printed sentence says how): PressurePorts: laid · PressureCauses: laid · PressureSteps: laid · PressureRests: laid · InspectFinds: laid · InspectDriven: laid · InspectSides: laid · InspectPipes: laid · PressureGrows: laid.
  DERIVED. THE GIVEN ROWS OF THIS SEAT. 9 by the template 'for every input the law returns true; each argument reads behind the call as it read before'; 0 by the template 'total and deterministic' (their statements: YtebnpnkcoibooaaGreatDoorTotals.lean).
  GIVEN WITH THE SEED: the statements are not yours to turn. If you find one false, say at which input.
  Laid BY PROGRAM, IN A SANDBOX (cutbox-rows.mjs): the forced cells as the released guide's own fill.sh prints them over the translation c1f78a44cd1d3a9c… (all of the seat's roots in one cut). By AI agents, Wed Nov 11 2026. No macro, syntax, notation, axiom, sorry.
-/
import Derived.Test.YtebnpnkcoibooaaGreatDoorChecked
import GoSem.Claim
import GoSem.ClaimJoined
import GoSem.ClaimMapViews
import Derived.JoinedTies
import Derived.KernelRfl
namespace Go.Proofs.YtebnpnkcoibooaaGreatDoor
/- THE CELL 'sum', in the pinned program and in every row, IS THE sha256 OF THE DUMP (.gsa) THAT YtebnpnkcoibooaaGreatDoorProg.lean LOADS. Nothing in Lean hashes anything: it is a label: what it is worth is what the hold of that sum in a sandbox is worth. -/
noncomputable def Tryz.pinned : Pinned := { name := "ytebnpnkcoibooaagreatdoor", sum := "c1f78a44cd1d3a9c72683bd7f35c9317f6106116ce09bb96eda19167b5e04823", checked := Tryz.checked }
namespace Rows
def none {H : Type} : Left H := { results := [], args := [] }

/- WHAT THE LISTED PACKAGE-LEVEL VARIABLES READ AS WHEN THE CALL BEGINS. Each datum BY PROGRAM (the guide's laid-datum.mjs) off the statement by which the dump's own 'gosem.cut.vars' lays the variable. In a bare row this is a premise. The card (YtebnpnkcoibooaaGreatDoorCards.lean) ties it to the program's text. -/
def laid_pneumatic_lexer_ranges {H : Type} : DataW H := .agg [.agg [.lit (.int .u8 65), .lit (.int .u8 90), .lit (.int .u8 1)], .agg [.lit (.int .u8 97), .lit (.int .u8 122), .lit (.int .u8 1)], .agg [.lit (.int .u8 48), .lit (.int .u8 57), .lit (.int .u8 2)], .agg [.lit (.int .u8 95), .lit (.int .u8 95), .lit (.int .u8 3)], .agg [.lit (.int .u8 32), .lit (.int .u8 32), .lit (.int .u8 5)], .agg [.lit (.int .u8 10), .lit (.int .u8 10), .lit (.int .u8 5)]]

/-- 'pneumaticlaw24.PressurePorts': WHATEVER THE INPUT: true; the input reads as it did. -/
def pressurePortsSpec : ChangeSpec := { name := "pressurePorts", fn := fun _ => fun
  | [d1, d2, d3] => { results := [.lit (.bool true)], args := [d1, d2, d3] }
  | _ => none }
def pressurePortsRow : OpenClaim := { program := "ytebnpnkcoibooaagreatdoor", sum := "c1f78a44cd1d3a9c72683bd7f35c9317f6106116ce09bb96eda19167b5e04823", func := "pneumatic/pneumaticlaw24.PressurePorts", spec := "pressurePorts", inPlace := ["internal/bytealg.IndexByteString", "internal/bytealg.abigen_runtime_cmpstring"], unfollowed := true, recurses := true, named := ["pneumatic/lexer.ranges"], plainKeys := false, apart := false, laid := [("pneumatic/lexer.ranges", laid_pneumatic_lexer_ranges)] }
def PressurePortsSaid : Prop := pressurePortsRow.holds Tryz.pinned (OpenSpec.ofChange pressurePortsSpec)

/-- ITS FALSE NEIGHBOUR: 'it returns false'. Refute it at one input. -/
def pressurePortsWrong : ChangeSpec := { name := "pressurePorts", fn := fun _ => fun
  | [d1, d2, d3] => { results := [.lit (.bool false)], args := [d1, d2, d3] }
  | _ => none }
def PressurePortsWrongFalsely : Prop := pressurePortsRow.holds Tryz.pinned (OpenSpec.ofChange pressurePortsWrong)

/-- 'pneumaticlaw24.PressureCauses': WHATEVER THE INPUT: true; the input reads as it did. -/
def pressureCausesSpec : ChangeSpec := { name := "pressureCauses", fn := fun _ => fun
  | [d1, d2] => { results := [.lit (.bool true)], args := [d1, d2] }
  | _ => none }
def pressureCausesRow : OpenClaim := { program := "ytebnpnkcoibooaagreatdoor", sum := "c1f78a44cd1d3a9c72683bd7f35c9317f6106116ce09bb96eda19167b5e04823", func := "pneumatic/pneumaticlaw24.PressureCauses", spec := "pressureCauses", inPlace := ["internal/bytealg.IndexByteString", "internal/bytealg.abigen_runtime_cmpstring"], unfollowed := true, recurses := true, named := ["pneumatic/lexer.ranges"], plainKeys := false, apart := false, laid := [("pneumatic/lexer.ranges", laid_pneumatic_lexer_ranges)] }
def PressureCausesSaid : Prop := pressureCausesRow.holds Tryz.pinned (OpenSpec.ofChange pressureCausesSpec)

/-- ITS FALSE NEIGHBOUR: 'it returns false'. Refute it at one input. -/
def pressureCausesWrong : ChangeSpec := { name := "pressureCauses", fn := fun _ => fun
  | [d1, d2] => { results := [.lit (.bool false)], args := [d1, d2] }
  | _ => none }
def PressureCausesWrongFalsely : Prop := pressureCausesRow.holds Tryz.pinned (OpenSpec.ofChange pressureCausesWrong)

/-- 'pneumaticlaw24.PressureSteps': WHATEVER THE INPUT: true; the input reads as it did. -/
def pressureStepsSpec : ChangeSpec := { name := "pressureSteps", fn := fun _ => fun
  | [d1, d2] => { results := [.lit (.bool true)], args := [d1, d2] }
  | _ => none }
def pressureStepsRow : OpenClaim := { program := "ytebnpnkcoibooaagreatdoor", sum := "c1f78a44cd1d3a9c72683bd7f35c9317f6106116ce09bb96eda19167b5e04823", func := "pneumatic/pneumaticlaw24.PressureSteps", spec := "pressureSteps", inPlace := ["internal/bytealg.IndexByteString", "internal/bytealg.abigen_runtime_cmpstring"], unfollowed := true, recurses := true, named := ["pneumatic/lexer.ranges"], plainKeys := false, apart := false, laid := [("pneumatic/lexer.ranges", laid_pneumatic_lexer_ranges)] }
def PressureStepsSaid : Prop := pressureStepsRow.holds Tryz.pinned (OpenSpec.ofChange pressureStepsSpec)

/-- ITS FALSE NEIGHBOUR: 'it returns false'. Refute it at one input. -/
def pressureStepsWrong : ChangeSpec := { name := "pressureSteps", fn := fun _ => fun
  | [d1, d2] => { results := [.lit (.bool false)], args := [d1, d2] }
  | _ => none }
def PressureStepsWrongFalsely : Prop := pressureStepsRow.holds Tryz.pinned (OpenSpec.ofChange pressureStepsWrong)

/-- 'pneumaticlaw24.PressureRests': WHATEVER THE INPUT: true; the input reads as it did. -/
def pressureRestsSpec : ChangeSpec := { name := "pressureRests", fn := fun _ => fun
  | [d1, d2] => { results := [.lit (.bool true)], args := [d1, d2] }
  | _ => none }
def pressureRestsRow : OpenClaim := { program := "ytebnpnkcoibooaagreatdoor", sum := "c1f78a44cd1d3a9c72683bd7f35c9317f6106116ce09bb96eda19167b5e04823", func := "pneumatic/pneumaticlaw24.PressureRests", spec := "pressureRests", inPlace := ["internal/bytealg.IndexByteString", "internal/bytealg.abigen_runtime_cmpstring"], unfollowed := true, recurses := true, named := ["pneumatic/lexer.ranges"], plainKeys := false, apart := false, laid := [("pneumatic/lexer.ranges", laid_pneumatic_lexer_ranges)] }
def PressureRestsSaid : Prop := pressureRestsRow.holds Tryz.pinned (OpenSpec.ofChange pressureRestsSpec)

/-- ITS FALSE NEIGHBOUR: 'it returns false'. Refute it at one input. -/
def pressureRestsWrong : ChangeSpec := { name := "pressureRests", fn := fun _ => fun
  | [d1, d2] => { results := [.lit (.bool false)], args := [d1, d2] }
  | _ => none }
def PressureRestsWrongFalsely : Prop := pressureRestsRow.holds Tryz.pinned (OpenSpec.ofChange pressureRestsWrong)

/-- 'pneumaticlaw22.InspectFinds': WHATEVER THE INPUT: true; the input reads as it did. -/
def inspectFindsSpec : ChangeSpec := { name := "inspectFinds", fn := fun _ => fun
  | [d1, d2] => { results := [.lit (.bool true)], args := [d1, d2] }
  | _ => none }
def inspectFindsRow : OpenClaim := { program := "ytebnpnkcoibooaagreatdoor", sum := "c1f78a44cd1d3a9c72683bd7f35c9317f6106116ce09bb96eda19167b5e04823", func := "pneumatic/pneumaticlaw22.InspectFinds", spec := "inspectFinds", inPlace := ["internal/bytealg.IndexByteString", "internal/bytealg.abigen_runtime_cmpstring", "slices.overlaps[pneumatic/api.Pipe]"], unfollowed := true, recurses := true, named := ["pneumatic/lexer.ranges"], plainKeys := false, apart := false, laid := [("pneumatic/lexer.ranges", laid_pneumatic_lexer_ranges)] }
def InspectFindsSaid : Prop := inspectFindsRow.holds Tryz.pinned (OpenSpec.ofChange inspectFindsSpec)

/-- ITS FALSE NEIGHBOUR: 'it returns false'. Refute it at one input. -/
def inspectFindsWrong : ChangeSpec := { name := "inspectFinds", fn := fun _ => fun
  | [d1, d2] => { results := [.lit (.bool false)], args := [d1, d2] }
  | _ => none }
def InspectFindsWrongFalsely : Prop := inspectFindsRow.holds Tryz.pinned (OpenSpec.ofChange inspectFindsWrong)

/-- 'pneumaticlaw22.InspectDriven': WHATEVER THE INPUT: true; the input reads as it did. -/
def inspectDrivenSpec : ChangeSpec := { name := "inspectDriven", fn := fun _ => fun
  | [d] => { results := [.lit (.bool true)], args := [d] }
  | _ => none }
def inspectDrivenRow : OpenClaim := { program := "ytebnpnkcoibooaagreatdoor", sum := "c1f78a44cd1d3a9c72683bd7f35c9317f6106116ce09bb96eda19167b5e04823", func := "pneumatic/pneumaticlaw22.InspectDriven", spec := "inspectDriven", inPlace := ["internal/bytealg.IndexByteString", "internal/bytealg.abigen_runtime_cmpstring", "slices.overlaps[pneumatic/api.Pipe]"], unfollowed := true, recurses := true, named := ["pneumatic/lexer.ranges"], plainKeys := false, apart := false, laid := [("pneumatic/lexer.ranges", laid_pneumatic_lexer_ranges)] }
def InspectDrivenSaid : Prop := inspectDrivenRow.holds Tryz.pinned (OpenSpec.ofChange inspectDrivenSpec)

/-- ITS FALSE NEIGHBOUR: 'it returns false'. Refute it at one input. -/
def inspectDrivenWrong : ChangeSpec := { name := "inspectDriven", fn := fun _ => fun
  | [d] => { results := [.lit (.bool false)], args := [d] }
  | _ => none }
def InspectDrivenWrongFalsely : Prop := inspectDrivenRow.holds Tryz.pinned (OpenSpec.ofChange inspectDrivenWrong)

/-- 'pneumaticlaw22.InspectSides': WHATEVER THE INPUT: true; the input reads as it did. -/
def inspectSidesSpec : ChangeSpec := { name := "inspectSides", fn := fun _ => fun
  | [d1, d2] => { results := [.lit (.bool true)], args := [d1, d2] }
  | _ => none }
def inspectSidesRow : OpenClaim := { program := "ytebnpnkcoibooaagreatdoor", sum := "c1f78a44cd1d3a9c72683bd7f35c9317f6106116ce09bb96eda19167b5e04823", func := "pneumatic/pneumaticlaw22.InspectSides", spec := "inspectSides", inPlace := ["internal/bytealg.IndexByteString", "internal/bytealg.abigen_runtime_cmpstring", "slices.overlaps[pneumatic/api.Pipe]"], unfollowed := true, recurses := true, named := ["pneumatic/lexer.ranges"], plainKeys := false, apart := false, laid := [("pneumatic/lexer.ranges", laid_pneumatic_lexer_ranges)] }
def InspectSidesSaid : Prop := inspectSidesRow.holds Tryz.pinned (OpenSpec.ofChange inspectSidesSpec)

/-- ITS FALSE NEIGHBOUR: 'it returns false'. Refute it at one input. -/
def inspectSidesWrong : ChangeSpec := { name := "inspectSides", fn := fun _ => fun
  | [d1, d2] => { results := [.lit (.bool false)], args := [d1, d2] }
  | _ => none }
def InspectSidesWrongFalsely : Prop := inspectSidesRow.holds Tryz.pinned (OpenSpec.ofChange inspectSidesWrong)

/-- 'pneumaticlaw22.InspectPipes': WHATEVER THE INPUT: true; the input reads as it did. -/
def inspectPipesSpec : ChangeSpec := { name := "inspectPipes", fn := fun _ => fun
  | [d1, d2] => { results := [.lit (.bool true)], args := [d1, d2] }
  | _ => none }
def inspectPipesRow : OpenClaim := { program := "ytebnpnkcoibooaagreatdoor", sum := "c1f78a44cd1d3a9c72683bd7f35c9317f6106116ce09bb96eda19167b5e04823", func := "pneumatic/pneumaticlaw22.InspectPipes", spec := "inspectPipes", inPlace := ["internal/bytealg.IndexByteString", "internal/bytealg.abigen_runtime_cmpstring", "slices.overlaps[pneumatic/api.Pipe]"], unfollowed := true, recurses := true, named := ["pneumatic/lexer.ranges"], plainKeys := false, apart := false, laid := [("pneumatic/lexer.ranges", laid_pneumatic_lexer_ranges)] }
def InspectPipesSaid : Prop := inspectPipesRow.holds Tryz.pinned (OpenSpec.ofChange inspectPipesSpec)

/-- ITS FALSE NEIGHBOUR: 'it returns false'. Refute it at one input. -/
def inspectPipesWrong : ChangeSpec := { name := "inspectPipes", fn := fun _ => fun
  | [d1, d2] => { results := [.lit (.bool false)], args := [d1, d2] }
  | _ => none }
def InspectPipesWrongFalsely : Prop := inspectPipesRow.holds Tryz.pinned (OpenSpec.ofChange inspectPipesWrong)

/-- 'pneumaticlaw24.PressureGrows': WHATEVER THE INPUT: true; the input reads as it did. -/
def pressureGrowsSpec : ChangeSpec := { name := "pressureGrows", fn := fun _ => fun
  | [d1, d2, d3] => { results := [.lit (.bool true)], args := [d1, d2, d3] }
  | _ => none }
def pressureGrowsRow : OpenClaim := { program := "ytebnpnkcoibooaagreatdoor", sum := "c1f78a44cd1d3a9c72683bd7f35c9317f6106116ce09bb96eda19167b5e04823", func := "pneumatic/pneumaticlaw24.PressureGrows", spec := "pressureGrows", inPlace := ["internal/bytealg.IndexByteString", "internal/bytealg.abigen_runtime_cmpstring", "slices.overlaps[pneumatic/api.Pipe]"], unfollowed := true, recurses := true, named := ["pneumatic/lexer.ranges"], plainKeys := false, apart := false, laid := [("pneumatic/lexer.ranges", laid_pneumatic_lexer_ranges)] }
def PressureGrowsSaid : Prop := pressureGrowsRow.holds Tryz.pinned (OpenSpec.ofChange pressureGrowsSpec)

/-- ITS FALSE NEIGHBOUR: 'it returns false'. Refute it at one input. -/
def pressureGrowsWrong : ChangeSpec := { name := "pressureGrows", fn := fun _ => fun
  | [d1, d2, d3] => { results := [.lit (.bool false)], args := [d1, d2, d3] }
  | _ => none }
def PressureGrowsWrongFalsely : Prop := pressureGrowsRow.holds Tryz.pinned (OpenSpec.ofChange pressureGrowsWrong)

/- THE SECOND FORM. 'bulk': how many values and letters a reading holds, each counted each time it is reached (what is shared counts as often as it is met; a slice's spare places count too). A statement '..UptoSaid' is the law's where the arguments, and the package variables that the reading takes, are together of bulk at most 1048576: NARROWER than '..Said'. Prove '..Said' where nothing that the law and all that it calls make is longer than what came in: it says more and counts as full. Else prove '..UptoSaid'. A law counts once. -/
mutual
def uptoBulk {H : Type} : DataW H → Nat
  | .lit (.string bytes) => bytes.length + 1
  | .lit _ => 1
  | .nil => 1
  | .ptr d => uptoBulk d + 1
  | .slice elems spare => uptoBulkAll elems + uptoBulkAll spare + 1
  | .agg parts => uptoBulkAll parts + 1
  | .iface _ d => uptoBulk d + 1
  | .map entries => uptoBulkEntries entries + 1
  | .held _ => 1
def uptoBulkAll {H : Type} : List (DataW H) → Nat
  | [] => 0
  | d :: r => uptoBulk d + uptoBulkAll r
def uptoBulkEntries {H : Type} : List (Lit × DataW H) → Nat
  | [] => 0
  | x :: r => uptoBulkEntry x + uptoBulkEntries r
def uptoBulkEntry {H : Type} : Lit × DataW H → Nat
  | (.string bytes, d) => bytes.length + uptoBulk d + 1
  | (_, d) => uptoBulk d + 1
 end
def uptoSmall : (H : Type) → List (DataW H) → Bool := fun _ ds => decide (uptoBulkAll ds ≤ 1048576)
def OpenSpec.upto (s : _root_.Go.ChangeSpec) : _root_.Go.OpenSpec := { _root_.Go.OpenSpec.ofChange s with cond := some uptoSmall }

/-- 'pneumaticlaw24.PressurePorts', WHERE WHAT IT READS IS OF BULK AT MOST 1048576: true; the input reads as it did. -/
def pressurePortsUptoRow : OpenClaim := { program := "ytebnpnkcoibooaagreatdoor", sum := "c1f78a44cd1d3a9c72683bd7f35c9317f6106116ce09bb96eda19167b5e04823", func := "pneumatic/pneumaticlaw24.PressurePorts", spec := "pressurePorts", inPlace := ["internal/bytealg.IndexByteString", "internal/bytealg.abigen_runtime_cmpstring"], unfollowed := true, recurses := true, named := ["pneumatic/lexer.ranges"], plainKeys := false, apart := false, laid := [("pneumatic/lexer.ranges", laid_pneumatic_lexer_ranges)], narrowed := true }
def PressurePortsUptoSaid : Prop := pressurePortsUptoRow.holds Tryz.pinned (OpenSpec.upto pressurePortsSpec)

/-- 'pneumaticlaw24.PressureCauses', WHERE WHAT IT READS IS OF BULK AT MOST 1048576: true; the input reads as it did. -/
def pressureCausesUptoRow : OpenClaim := { program := "ytebnpnkcoibooaagreatdoor", sum := "c1f78a44cd1d3a9c72683bd7f35c9317f6106116ce09bb96eda19167b5e04823", func := "pneumatic/pneumaticlaw24.PressureCauses", spec := "pressureCauses", inPlace := ["internal/bytealg.IndexByteString", "internal/bytealg.abigen_runtime_cmpstring"], unfollowed := true, recurses := true, named := ["pneumatic/lexer.ranges"], plainKeys := false, apart := false, laid := [("pneumatic/lexer.ranges", laid_pneumatic_lexer_ranges)], narrowed := true }
def PressureCausesUptoSaid : Prop := pressureCausesUptoRow.holds Tryz.pinned (OpenSpec.upto pressureCausesSpec)

/-- 'pneumaticlaw24.PressureSteps', WHERE WHAT IT READS IS OF BULK AT MOST 1048576: true; the input reads as it did. -/
def pressureStepsUptoRow : OpenClaim := { program := "ytebnpnkcoibooaagreatdoor", sum := "c1f78a44cd1d3a9c72683bd7f35c9317f6106116ce09bb96eda19167b5e04823", func := "pneumatic/pneumaticlaw24.PressureSteps", spec := "pressureSteps", inPlace := ["internal/bytealg.IndexByteString", "internal/bytealg.abigen_runtime_cmpstring"], unfollowed := true, recurses := true, named := ["pneumatic/lexer.ranges"], plainKeys := false, apart := false, laid := [("pneumatic/lexer.ranges", laid_pneumatic_lexer_ranges)], narrowed := true }
def PressureStepsUptoSaid : Prop := pressureStepsUptoRow.holds Tryz.pinned (OpenSpec.upto pressureStepsSpec)

/-- 'pneumaticlaw24.PressureRests', WHERE WHAT IT READS IS OF BULK AT MOST 1048576: true; the input reads as it did. -/
def pressureRestsUptoRow : OpenClaim := { program := "ytebnpnkcoibooaagreatdoor", sum := "c1f78a44cd1d3a9c72683bd7f35c9317f6106116ce09bb96eda19167b5e04823", func := "pneumatic/pneumaticlaw24.PressureRests", spec := "pressureRests", inPlace := ["internal/bytealg.IndexByteString", "internal/bytealg.abigen_runtime_cmpstring"], unfollowed := true, recurses := true, named := ["pneumatic/lexer.ranges"], plainKeys := false, apart := false, laid := [("pneumatic/lexer.ranges", laid_pneumatic_lexer_ranges)], narrowed := true }
def PressureRestsUptoSaid : Prop := pressureRestsUptoRow.holds Tryz.pinned (OpenSpec.upto pressureRestsSpec)

/-- 'pneumaticlaw22.InspectFinds', WHERE WHAT IT READS IS OF BULK AT MOST 1048576: true; the input reads as it did. -/
def inspectFindsUptoRow : OpenClaim := { program := "ytebnpnkcoibooaagreatdoor", sum := "c1f78a44cd1d3a9c72683bd7f35c9317f6106116ce09bb96eda19167b5e04823", func := "pneumatic/pneumaticlaw22.InspectFinds", spec := "inspectFinds", inPlace := ["internal/bytealg.IndexByteString", "internal/bytealg.abigen_runtime_cmpstring", "slices.overlaps[pneumatic/api.Pipe]"], unfollowed := true, recurses := true, named := ["pneumatic/lexer.ranges"], plainKeys := false, apart := false, laid := [("pneumatic/lexer.ranges", laid_pneumatic_lexer_ranges)], narrowed := true }
def InspectFindsUptoSaid : Prop := inspectFindsUptoRow.holds Tryz.pinned (OpenSpec.upto inspectFindsSpec)

/-- 'pneumaticlaw22.InspectDriven', WHERE WHAT IT READS IS OF BULK AT MOST 1048576: true; the input reads as it did. -/
def inspectDrivenUptoRow : OpenClaim := { program := "ytebnpnkcoibooaagreatdoor", sum := "c1f78a44cd1d3a9c72683bd7f35c9317f6106116ce09bb96eda19167b5e04823", func := "pneumatic/pneumaticlaw22.InspectDriven", spec := "inspectDriven", inPlace := ["internal/bytealg.IndexByteString", "internal/bytealg.abigen_runtime_cmpstring", "slices.overlaps[pneumatic/api.Pipe]"], unfollowed := true, recurses := true, named := ["pneumatic/lexer.ranges"], plainKeys := false, apart := false, laid := [("pneumatic/lexer.ranges", laid_pneumatic_lexer_ranges)], narrowed := true }
def InspectDrivenUptoSaid : Prop := inspectDrivenUptoRow.holds Tryz.pinned (OpenSpec.upto inspectDrivenSpec)

/-- 'pneumaticlaw22.InspectSides', WHERE WHAT IT READS IS OF BULK AT MOST 1048576: true; the input reads as it did. -/
def inspectSidesUptoRow : OpenClaim := { program := "ytebnpnkcoibooaagreatdoor", sum := "c1f78a44cd1d3a9c72683bd7f35c9317f6106116ce09bb96eda19167b5e04823", func := "pneumatic/pneumaticlaw22.InspectSides", spec := "inspectSides", inPlace := ["internal/bytealg.IndexByteString", "internal/bytealg.abigen_runtime_cmpstring", "slices.overlaps[pneumatic/api.Pipe]"], unfollowed := true, recurses := true, named := ["pneumatic/lexer.ranges"], plainKeys := false, apart := false, laid := [("pneumatic/lexer.ranges", laid_pneumatic_lexer_ranges)], narrowed := true }
def InspectSidesUptoSaid : Prop := inspectSidesUptoRow.holds Tryz.pinned (OpenSpec.upto inspectSidesSpec)

/-- 'pneumaticlaw22.InspectPipes', WHERE WHAT IT READS IS OF BULK AT MOST 1048576: true; the input reads as it did. -/
def inspectPipesUptoRow : OpenClaim := { program := "ytebnpnkcoibooaagreatdoor", sum := "c1f78a44cd1d3a9c72683bd7f35c9317f6106116ce09bb96eda19167b5e04823", func := "pneumatic/pneumaticlaw22.InspectPipes", spec := "inspectPipes", inPlace := ["internal/bytealg.IndexByteString", "internal/bytealg.abigen_runtime_cmpstring", "slices.overlaps[pneumatic/api.Pipe]"], unfollowed := true, recurses := true, named := ["pneumatic/lexer.ranges"], plainKeys := false, apart := false, laid := [("pneumatic/lexer.ranges", laid_pneumatic_lexer_ranges)], narrowed := true }
def InspectPipesUptoSaid : Prop := inspectPipesUptoRow.holds Tryz.pinned (OpenSpec.upto inspectPipesSpec)

/-- 'pneumaticlaw24.PressureGrows', WHERE WHAT IT READS IS OF BULK AT MOST 1048576: true; the input reads as it did. -/
def pressureGrowsUptoRow : OpenClaim := { program := "ytebnpnkcoibooaagreatdoor", sum := "c1f78a44cd1d3a9c72683bd7f35c9317f6106116ce09bb96eda19167b5e04823", func := "pneumatic/pneumaticlaw24.PressureGrows", spec := "pressureGrows", inPlace := ["internal/bytealg.IndexByteString", "internal/bytealg.abigen_runtime_cmpstring", "slices.overlaps[pneumatic/api.Pipe]"], unfollowed := true, recurses := true, named := ["pneumatic/lexer.ranges"], plainKeys := false, apart := false, laid := [("pneumatic/lexer.ranges", laid_pneumatic_lexer_ranges)], narrowed := true }
def PressureGrowsUptoSaid : Prop := pressureGrowsUptoRow.holds Tryz.pinned (OpenSpec.upto pressureGrowsSpec)

end Rows
end Go.Proofs.YtebnpnkcoibooaaGreatDoor
