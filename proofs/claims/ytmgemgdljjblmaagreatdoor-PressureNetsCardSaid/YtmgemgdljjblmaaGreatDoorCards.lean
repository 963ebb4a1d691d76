/-
  DERIVED. GIVEN WITH THE SEED: THE CARDS: each row of YtmgemgdljjblmaaGreatDoorRows.lean that lists a variable, with what it lists TIED to the program's text (the seventh form; the later family's looks); each row that meets fmt, with fmt's text TOLD by the authors' own Lean function (tested against real Go, not proved from fmt's source: count such statements apart). THE CARD IS WHAT COUNTS. Prove the row's statement (the work); the ties are given (YtmgemgdljjblmaaGreatDoorTie.lean); close each card by the builder's one call (the guide's Derived/Test/ToyasCard.lean, 'card_holds'). Laid BY PROGRAM, IN A SANDBOX (cutbox-door.mjs). By AI agents, Wed Nov 11 2026. No macro, syntax, notation, axiom, sorry.
-/
import Derived.Test.YtmgemgdljjblmaaGreatDoorRows
import GoSem.ClaimSeven
namespace Go.Proofs.YtmgemgdljjblmaaGreatDoor
namespace Rows

/-- THE TIED CARD OF 'pneumaticlaw21.CircuitChanges'. -/
def circuitChangesCard : Claim7 := { stood := { row := circuitChangesRow, standIns := [], harness := (true, "68ed87adc379870c474784a90b92b1b9f2437e88e51b69d71db7e933d799f8bd"), looks := false }, kinds := [], alts := [], laidByText := true, laidKinds := [.data], laidTests := true, laidLooks := .later }
def CircuitChangesCardSaid : Prop := Claim7.holds Tryz.pinned (.plain (OpenSpec.ofChange circuitChangesSpec)) circuitChangesCard

/-- THE TIED CARD OF 'pneumaticlaw21.CircuitChecks'. -/
def circuitChecksCard : Claim7 := { stood := { row := circuitChecksRow, standIns := [], harness := (true, "68ed87adc379870c474784a90b92b1b9f2437e88e51b69d71db7e933d799f8bd"), looks := false }, kinds := [], alts := [], laidByText := true, laidKinds := [.data], laidTests := true, laidLooks := .later }
def CircuitChecksCardSaid : Prop := Claim7.holds Tryz.pinned (.plain (OpenSpec.ofChange circuitChecksSpec)) circuitChecksCard

/-- THE TIED CARD OF 'pneumaticlaw21.CircuitNets'. -/
def circuitNetsCard : Claim7 := { stood := { row := circuitNetsRow, standIns := [], harness := (true, "68ed87adc379870c474784a90b92b1b9f2437e88e51b69d71db7e933d799f8bd"), looks := false }, kinds := [], alts := [], laidByText := true, laidKinds := [.data], laidTests := true, laidLooks := .later }
def CircuitNetsCardSaid : Prop := Claim7.holds Tryz.pinned (.plain (OpenSpec.ofChange circuitNetsSpec)) circuitNetsCard

/-- THE TIED CARD OF 'pneumaticlaw21.CircuitParts'. -/
def circuitPartsCard : Claim7 := { stood := { row := circuitPartsRow, standIns := [], harness := (true, "68ed87adc379870c474784a90b92b1b9f2437e88e51b69d71db7e933d799f8bd"), looks := false }, kinds := [], alts := [], laidByText := true, laidKinds := [.data], laidTests := true, laidLooks := .later }
def CircuitPartsCardSaid : Prop := Claim7.holds Tryz.pinned (.plain (OpenSpec.ofChange circuitPartsSpec)) circuitPartsCard

/-- THE TIED CARD OF 'pneumaticlaw21.CircuitReturns'. -/
def circuitReturnsCard : Claim7 := { stood := { row := circuitReturnsRow, standIns := [], harness := (true, "68ed87adc379870c474784a90b92b1b9f2437e88e51b69d71db7e933d799f8bd"), looks := false }, kinds := [], alts := [], laidByText := true, laidKinds := [.data], laidTests := true, laidLooks := .later }
def CircuitReturnsCardSaid : Prop := Claim7.holds Tryz.pinned (.plain (OpenSpec.ofChange circuitReturnsSpec)) circuitReturnsCard

/-- THE TIED CARD OF 'pneumaticlaw21.CircuitJoins'. -/
def circuitJoinsCard : Claim7 := { stood := { row := circuitJoinsRow, standIns := [], harness := (true, "68ed87adc379870c474784a90b92b1b9f2437e88e51b69d71db7e933d799f8bd"), looks := false }, kinds := [], alts := [], laidByText := true, laidKinds := [.data], laidTests := true, laidLooks := .later }
def CircuitJoinsCardSaid : Prop := Claim7.holds Tryz.pinned (.plain (OpenSpec.ofChange circuitJoinsSpec)) circuitJoinsCard

/-- THE TIED CARD OF 'pneumaticlaw21.CircuitMerges'. -/
def circuitMergesCard : Claim7 := { stood := { row := circuitMergesRow, standIns := [], harness := (true, "68ed87adc379870c474784a90b92b1b9f2437e88e51b69d71db7e933d799f8bd"), looks := false }, kinds := [], alts := [], laidByText := true, laidKinds := [.data], laidTests := true, laidLooks := .later }
def CircuitMergesCardSaid : Prop := Claim7.holds Tryz.pinned (.plain (OpenSpec.ofChange circuitMergesSpec)) circuitMergesCard

/-- THE TIED CARD OF 'pneumaticlaw24.PressurePorts'. -/
def pressurePortsCard : Claim7 := { stood := { row := pressurePortsRow, standIns := [], harness := (true, "68ed87adc379870c474784a90b92b1b9f2437e88e51b69d71db7e933d799f8bd"), looks := false }, kinds := [], alts := [], laidByText := true, laidKinds := [.data], laidTests := true, laidLooks := .later }
def PressurePortsCardSaid : Prop := Claim7.holds Tryz.pinned (.plain (OpenSpec.ofChange pressurePortsSpec)) pressurePortsCard

/-- THE TIED CARD OF 'pneumaticlaw24.PressureNets'. -/
def pressureNetsCard : Claim7 := { stood := { row := pressureNetsRow, standIns := [], harness := (true, "68ed87adc379870c474784a90b92b1b9f2437e88e51b69d71db7e933d799f8bd"), looks := false }, kinds := [], alts := [], laidByText := true, laidKinds := [.data], laidTests := true, laidLooks := .later }
def PressureNetsCardSaid : Prop := Claim7.holds Tryz.pinned (.plain (OpenSpec.ofChange pressureNetsSpec)) pressureNetsCard

/-- THE TIED CARD OF 'pneumaticlaw24.PressureCauses'. -/
def pressureCausesCard : Claim7 := { stood := { row := pressureCausesRow, standIns := [], harness := (true, "68ed87adc379870c474784a90b92b1b9f2437e88e51b69d71db7e933d799f8bd"), looks := false }, kinds := [], alts := [], laidByText := true, laidKinds := [.data], laidTests := true, laidLooks := .later }
def PressureCausesCardSaid : Prop := Claim7.holds Tryz.pinned (.plain (OpenSpec.ofChange pressureCausesSpec)) pressureCausesCard

/-- THE TIED CARD OF 'pneumaticlaw24.PressureSteps'. -/
def pressureStepsCard : Claim7 := { stood := { row := pressureStepsRow, standIns := [], harness := (true, "68ed87adc379870c474784a90b92b1b9f2437e88e51b69d71db7e933d799f8bd"), looks := false }, kinds := [], alts := [], laidByText := true, laidKinds := [.data], laidTests := true, laidLooks := .later }
def PressureStepsCardSaid : Prop := Claim7.holds Tryz.pinned (.plain (OpenSpec.ofChange pressureStepsSpec)) pressureStepsCard

/-- THE TIED CARD OF 'pneumaticlaw24.PressureRests'. -/
def pressureRestsCard : Claim7 := { stood := { row := pressureRestsRow, standIns := [], harness := (true, "68ed87adc379870c474784a90b92b1b9f2437e88e51b69d71db7e933d799f8bd"), looks := false }, kinds := [], alts := [], laidByText := true, laidKinds := [.data], laidTests := true, laidLooks := .later }
def PressureRestsCardSaid : Prop := Claim7.holds Tryz.pinned (.plain (OpenSpec.ofChange pressureRestsSpec)) pressureRestsCard

/-- THE SECOND FORM's CARD OF 'pneumaticlaw21.CircuitChanges'. -/
def circuitChangesUptoCard : Claim7 := { stood := { row := circuitChangesUptoRow, standIns := [], harness := (true, "68ed87adc379870c474784a90b92b1b9f2437e88e51b69d71db7e933d799f8bd"), looks := false }, kinds := [], alts := [], laidByText := true, laidKinds := [.data], laidTests := true, laidLooks := .later }
def CircuitChangesUptoCardSaid : Prop := Claim7.holds Tryz.pinned (.plain (OpenSpec.upto circuitChangesSpec)) circuitChangesUptoCard

/-- THE SECOND FORM's CARD OF 'pneumaticlaw21.CircuitChecks'. -/
def circuitChecksUptoCard : Claim7 := { stood := { row := circuitChecksUptoRow, standIns := [], harness := (true, "68ed87adc379870c474784a90b92b1b9f2437e88e51b69d71db7e933d799f8bd"), looks := false }, kinds := [], alts := [], laidByText := true, laidKinds := [.data], laidTests := true, laidLooks := .later }
def CircuitChecksUptoCardSaid : Prop := Claim7.holds Tryz.pinned (.plain (OpenSpec.upto circuitChecksSpec)) circuitChecksUptoCard

/-- THE SECOND FORM's CARD OF 'pneumaticlaw21.CircuitNets'. -/
def circuitNetsUptoCard : Claim7 := { stood := { row := circuitNetsUptoRow, standIns := [], harness := (true, "68ed87adc379870c474784a90b92b1b9f2437e88e51b69d71db7e933d799f8bd"), looks := false }, kinds := [], alts := [], laidByText := true, laidKinds := [.data], laidTests := true, laidLooks := .later }
def CircuitNetsUptoCardSaid : Prop := Claim7.holds Tryz.pinned (.plain (OpenSpec.upto circuitNetsSpec)) circuitNetsUptoCard

/-- THE SECOND FORM's CARD OF 'pneumaticlaw21.CircuitParts'. -/
def circuitPartsUptoCard : Claim7 := { stood := { row := circuitPartsUptoRow, standIns := [], harness := (true, "68ed87adc379870c474784a90b92b1b9f2437e88e51b69d71db7e933d799f8bd"), looks := false }, kinds := [], alts := [], laidByText := true, laidKinds := [.data], laidTests := true, laidLooks := .later }
def CircuitPartsUptoCardSaid : Prop := Claim7.holds Tryz.pinned (.plain (OpenSpec.upto circuitPartsSpec)) circuitPartsUptoCard

/-- THE SECOND FORM's CARD OF 'pneumaticlaw21.CircuitReturns'. -/
def circuitReturnsUptoCard : Claim7 := { stood := { row := circuitReturnsUptoRow, standIns := [], harness := (true, "68ed87adc379870c474784a90b92b1b9f2437e88e51b69d71db7e933d799f8bd"), looks := false }, kinds := [], alts := [], laidByText := true, laidKinds := [.data], laidTests := true, laidLooks := .later }
def CircuitReturnsUptoCardSaid : Prop := Claim7.holds Tryz.pinned (.plain (OpenSpec.upto circuitReturnsSpec)) circuitReturnsUptoCard

/-- THE SECOND FORM's CARD OF 'pneumaticlaw21.CircuitJoins'. -/
def circuitJoinsUptoCard : Claim7 := { stood := { row := circuitJoinsUptoRow, standIns := [], harness := (true, "68ed87adc379870c474784a90b92b1b9f2437e88e51b69d71db7e933d799f8bd"), looks := false }, kinds := [], alts := [], laidByText := true, laidKinds := [.data], laidTests := true, laidLooks := .later }
def CircuitJoinsUptoCardSaid : Prop := Claim7.holds Tryz.pinned (.plain (OpenSpec.upto circuitJoinsSpec)) circuitJoinsUptoCard

/-- THE SECOND FORM's CARD OF 'pneumaticlaw21.CircuitMerges'. -/
def circuitMergesUptoCard : Claim7 := { stood := { row := circuitMergesUptoRow, standIns := [], harness := (true, "68ed87adc379870c474784a90b92b1b9f2437e88e51b69d71db7e933d799f8bd"), looks := false }, kinds := [], alts := [], laidByText := true, laidKinds := [.data], laidTests := true, laidLooks := .later }
def CircuitMergesUptoCardSaid : Prop := Claim7.holds Tryz.pinned (.plain (OpenSpec.upto circuitMergesSpec)) circuitMergesUptoCard

/-- THE SECOND FORM's CARD OF 'pneumaticlaw24.PressurePorts'. -/
def pressurePortsUptoCard : Claim7 := { stood := { row := pressurePortsUptoRow, standIns := [], harness := (true, "68ed87adc379870c474784a90b92b1b9f2437e88e51b69d71db7e933d799f8bd"), looks := false }, kinds := [], alts := [], laidByText := true, laidKinds := [.data], laidTests := true, laidLooks := .later }
def PressurePortsUptoCardSaid : Prop := Claim7.holds Tryz.pinned (.plain (OpenSpec.upto pressurePortsSpec)) pressurePortsUptoCard

/-- THE SECOND FORM's CARD OF 'pneumaticlaw24.PressureNets'. -/
def pressureNetsUptoCard : Claim7 := { stood := { row := pressureNetsUptoRow, standIns := [], harness := (true, "68ed87adc379870c474784a90b92b1b9f2437e88e51b69d71db7e933d799f8bd"), looks := false }, kinds := [], alts := [], laidByText := true, laidKinds := [.data], laidTests := true, laidLooks := .later }
def PressureNetsUptoCardSaid : Prop := Claim7.holds Tryz.pinned (.plain (OpenSpec.upto pressureNetsSpec)) pressureNetsUptoCard

/-- THE SECOND FORM's CARD OF 'pneumaticlaw24.PressureCauses'. -/
def pressureCausesUptoCard : Claim7 := { stood := { row := pressureCausesUptoRow, standIns := [], harness := (true, "68ed87adc379870c474784a90b92b1b9f2437e88e51b69d71db7e933d799f8bd"), looks := false }, kinds := [], alts := [], laidByText := true, laidKinds := [.data], laidTests := true, laidLooks := .later }
def PressureCausesUptoCardSaid : Prop := Claim7.holds Tryz.pinned (.plain (OpenSpec.upto pressureCausesSpec)) pressureCausesUptoCard

/-- THE SECOND FORM's CARD OF 'pneumaticlaw24.PressureSteps'. -/
def pressureStepsUptoCard : Claim7 := { stood := { row := pressureStepsUptoRow, standIns := [], harness := (true, "68ed87adc379870c474784a90b92b1b9f2437e88e51b69d71db7e933d799f8bd"), looks := false }, kinds := [], alts := [], laidByText := true, laidKinds := [.data], laidTests := true, laidLooks := .later }
def PressureStepsUptoCardSaid : Prop := Claim7.holds Tryz.pinned (.plain (OpenSpec.upto pressureStepsSpec)) pressureStepsUptoCard

/-- THE SECOND FORM's CARD OF 'pneumaticlaw24.PressureRests'. -/
def pressureRestsUptoCard : Claim7 := { stood := { row := pressureRestsUptoRow, standIns := [], harness := (true, "68ed87adc379870c474784a90b92b1b9f2437e88e51b69d71db7e933d799f8bd"), looks := false }, kinds := [], alts := [], laidByText := true, laidKinds := [.data], laidTests := true, laidLooks := .later }
def PressureRestsUptoCardSaid : Prop := Claim7.holds Tryz.pinned (.plain (OpenSpec.upto pressureRestsSpec)) pressureRestsUptoCard
end Rows
end Go.Proofs.YtmgemgdljjblmaaGreatDoor
