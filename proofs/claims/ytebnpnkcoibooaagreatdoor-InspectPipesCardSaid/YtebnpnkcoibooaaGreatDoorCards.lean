/-
  DERIVED. GIVEN WITH THE SEED: THE CARDS: each row of YtebnpnkcoibooaaGreatDoorRows.lean that lists a variable, with what it lists TIED to the program's text (the seventh form; the later family's looks); each row that meets fmt, with fmt's text TOLD by the authors' own Lean function (tested against real Go, not proved from fmt's source: count such statements apart). THE CARD IS WHAT COUNTS. Prove the row's statement (the work); the ties are given (YtebnpnkcoibooaaGreatDoorTie.lean); close each card by the builder's one call (the guide's Derived/Test/ToyasCard.lean, 'card_holds'). Laid BY PROGRAM, IN A SANDBOX (cutbox-door.mjs). By AI agents, Wed Nov 11 2026. No macro, syntax, notation, axiom, sorry.
-/
import Derived.Test.YtebnpnkcoibooaaGreatDoorRows
import GoSem.ClaimSeven
namespace Go.Proofs.YtebnpnkcoibooaaGreatDoor
namespace Rows

/-- THE TIED CARD OF 'pneumaticlaw24.PressurePorts'. -/
def pressurePortsCard : Claim7 := { stood := { row := pressurePortsRow, standIns := [], harness := (true, "83f069099d8588fc8fe9e33e4fc94e43d0b46e9b51dec15e10f758937bee3e13"), looks := false }, kinds := [], alts := [], laidByText := true, laidKinds := [.data], laidTests := true, laidLooks := .later }
def PressurePortsCardSaid : Prop := Claim7.holds Tryz.pinned (.plain (OpenSpec.ofChange pressurePortsSpec)) pressurePortsCard

/-- THE TIED CARD OF 'pneumaticlaw24.PressureCauses'. -/
def pressureCausesCard : Claim7 := { stood := { row := pressureCausesRow, standIns := [], harness := (true, "83f069099d8588fc8fe9e33e4fc94e43d0b46e9b51dec15e10f758937bee3e13"), looks := false }, kinds := [], alts := [], laidByText := true, laidKinds := [.data], laidTests := true, laidLooks := .later }
def PressureCausesCardSaid : Prop := Claim7.holds Tryz.pinned (.plain (OpenSpec.ofChange pressureCausesSpec)) pressureCausesCard

/-- THE TIED CARD OF 'pneumaticlaw24.PressureSteps'. -/
def pressureStepsCard : Claim7 := { stood := { row := pressureStepsRow, standIns := [], harness := (true, "83f069099d8588fc8fe9e33e4fc94e43d0b46e9b51dec15e10f758937bee3e13"), looks := false }, kinds := [], alts := [], laidByText := true, laidKinds := [.data], laidTests := true, laidLooks := .later }
def PressureStepsCardSaid : Prop := Claim7.holds Tryz.pinned (.plain (OpenSpec.ofChange pressureStepsSpec)) pressureStepsCard

/-- THE TIED CARD OF 'pneumaticlaw24.PressureRests'. -/
def pressureRestsCard : Claim7 := { stood := { row := pressureRestsRow, standIns := [], harness := (true, "83f069099d8588fc8fe9e33e4fc94e43d0b46e9b51dec15e10f758937bee3e13"), looks := false }, kinds := [], alts := [], laidByText := true, laidKinds := [.data], laidTests := true, laidLooks := .later }
def PressureRestsCardSaid : Prop := Claim7.holds Tryz.pinned (.plain (OpenSpec.ofChange pressureRestsSpec)) pressureRestsCard

/-- THE TIED CARD OF 'pneumaticlaw22.InspectFinds'. -/
def inspectFindsCard : Claim7 := { stood := { row := inspectFindsRow, standIns := [], harness := (true, "83f069099d8588fc8fe9e33e4fc94e43d0b46e9b51dec15e10f758937bee3e13"), looks := false }, kinds := [], alts := [], laidByText := true, laidKinds := [.data], laidTests := true, laidLooks := .later }
def InspectFindsCardSaid : Prop := Claim7.holds Tryz.pinned (.plain (OpenSpec.ofChange inspectFindsSpec)) inspectFindsCard

/-- THE TIED CARD OF 'pneumaticlaw22.InspectDriven'. -/
def inspectDrivenCard : Claim7 := { stood := { row := inspectDrivenRow, standIns := [], harness := (true, "83f069099d8588fc8fe9e33e4fc94e43d0b46e9b51dec15e10f758937bee3e13"), looks := false }, kinds := [], alts := [], laidByText := true, laidKinds := [.data], laidTests := true, laidLooks := .later }
def InspectDrivenCardSaid : Prop := Claim7.holds Tryz.pinned (.plain (OpenSpec.ofChange inspectDrivenSpec)) inspectDrivenCard

/-- THE TIED CARD OF 'pneumaticlaw22.InspectSides'. -/
def inspectSidesCard : Claim7 := { stood := { row := inspectSidesRow, standIns := [], harness := (true, "83f069099d8588fc8fe9e33e4fc94e43d0b46e9b51dec15e10f758937bee3e13"), looks := false }, kinds := [], alts := [], laidByText := true, laidKinds := [.data], laidTests := true, laidLooks := .later }
def InspectSidesCardSaid : Prop := Claim7.holds Tryz.pinned (.plain (OpenSpec.ofChange inspectSidesSpec)) inspectSidesCard

/-- THE TIED CARD OF 'pneumaticlaw22.InspectPipes'. -/
def inspectPipesCard : Claim7 := { stood := { row := inspectPipesRow, standIns := [], harness := (true, "83f069099d8588fc8fe9e33e4fc94e43d0b46e9b51dec15e10f758937bee3e13"), looks := false }, kinds := [], alts := [], laidByText := true, laidKinds := [.data], laidTests := true, laidLooks := .later }
def InspectPipesCardSaid : Prop := Claim7.holds Tryz.pinned (.plain (OpenSpec.ofChange inspectPipesSpec)) inspectPipesCard

/-- THE TIED CARD OF 'pneumaticlaw24.PressureGrows'. -/
def pressureGrowsCard : Claim7 := { stood := { row := pressureGrowsRow, standIns := [], harness := (true, "83f069099d8588fc8fe9e33e4fc94e43d0b46e9b51dec15e10f758937bee3e13"), looks := false }, kinds := [], alts := [], laidByText := true, laidKinds := [.data], laidTests := true, laidLooks := .later }
def PressureGrowsCardSaid : Prop := Claim7.holds Tryz.pinned (.plain (OpenSpec.ofChange pressureGrowsSpec)) pressureGrowsCard

/-- THE SECOND FORM's CARD OF 'pneumaticlaw24.PressurePorts'. -/
def pressurePortsUptoCard : Claim7 := { stood := { row := pressurePortsUptoRow, standIns := [], harness := (true, "83f069099d8588fc8fe9e33e4fc94e43d0b46e9b51dec15e10f758937bee3e13"), looks := false }, kinds := [], alts := [], laidByText := true, laidKinds := [.data], laidTests := true, laidLooks := .later }
def PressurePortsUptoCardSaid : Prop := Claim7.holds Tryz.pinned (.plain (OpenSpec.upto pressurePortsSpec)) pressurePortsUptoCard

/-- THE SECOND FORM's CARD OF 'pneumaticlaw24.PressureCauses'. -/
def pressureCausesUptoCard : Claim7 := { stood := { row := pressureCausesUptoRow, standIns := [], harness := (true, "83f069099d8588fc8fe9e33e4fc94e43d0b46e9b51dec15e10f758937bee3e13"), looks := false }, kinds := [], alts := [], laidByText := true, laidKinds := [.data], laidTests := true, laidLooks := .later }
def PressureCausesUptoCardSaid : Prop := Claim7.holds Tryz.pinned (.plain (OpenSpec.upto pressureCausesSpec)) pressureCausesUptoCard

/-- THE SECOND FORM's CARD OF 'pneumaticlaw24.PressureSteps'. -/
def pressureStepsUptoCard : Claim7 := { stood := { row := pressureStepsUptoRow, standIns := [], harness := (true, "83f069099d8588fc8fe9e33e4fc94e43d0b46e9b51dec15e10f758937bee3e13"), looks := false }, kinds := [], alts := [], laidByText := true, laidKinds := [.data], laidTests := true, laidLooks := .later }
def PressureStepsUptoCardSaid : Prop := Claim7.holds Tryz.pinned (.plain (OpenSpec.upto pressureStepsSpec)) pressureStepsUptoCard

/-- THE SECOND FORM's CARD OF 'pneumaticlaw24.PressureRests'. -/
def pressureRestsUptoCard : Claim7 := { stood := { row := pressureRestsUptoRow, standIns := [], harness := (true, "83f069099d8588fc8fe9e33e4fc94e43d0b46e9b51dec15e10f758937bee3e13"), looks := false }, kinds := [], alts := [], laidByText := true, laidKinds := [.data], laidTests := true, laidLooks := .later }
def PressureRestsUptoCardSaid : Prop := Claim7.holds Tryz.pinned (.plain (OpenSpec.upto pressureRestsSpec)) pressureRestsUptoCard

/-- THE SECOND FORM's CARD OF 'pneumaticlaw22.InspectFinds'. -/
def inspectFindsUptoCard : Claim7 := { stood := { row := inspectFindsUptoRow, standIns := [], harness := (true, "83f069099d8588fc8fe9e33e4fc94e43d0b46e9b51dec15e10f758937bee3e13"), looks := false }, kinds := [], alts := [], laidByText := true, laidKinds := [.data], laidTests := true, laidLooks := .later }
def InspectFindsUptoCardSaid : Prop := Claim7.holds Tryz.pinned (.plain (OpenSpec.upto inspectFindsSpec)) inspectFindsUptoCard

/-- THE SECOND FORM's CARD OF 'pneumaticlaw22.InspectDriven'. -/
def inspectDrivenUptoCard : Claim7 := { stood := { row := inspectDrivenUptoRow, standIns := [], harness := (true, "83f069099d8588fc8fe9e33e4fc94e43d0b46e9b51dec15e10f758937bee3e13"), looks := false }, kinds := [], alts := [], laidByText := true, laidKinds := [.data], laidTests := true, laidLooks := .later }
def InspectDrivenUptoCardSaid : Prop := Claim7.holds Tryz.pinned (.plain (OpenSpec.upto inspectDrivenSpec)) inspectDrivenUptoCard

/-- THE SECOND FORM's CARD OF 'pneumaticlaw22.InspectSides'. -/
def inspectSidesUptoCard : Claim7 := { stood := { row := inspectSidesUptoRow, standIns := [], harness := (true, "83f069099d8588fc8fe9e33e4fc94e43d0b46e9b51dec15e10f758937bee3e13"), looks := false }, kinds := [], alts := [], laidByText := true, laidKinds := [.data], laidTests := true, laidLooks := .later }
def InspectSidesUptoCardSaid : Prop := Claim7.holds Tryz.pinned (.plain (OpenSpec.upto inspectSidesSpec)) inspectSidesUptoCard

/-- THE SECOND FORM's CARD OF 'pneumaticlaw22.InspectPipes'. -/
def inspectPipesUptoCard : Claim7 := { stood := { row := inspectPipesUptoRow, standIns := [], harness := (true, "83f069099d8588fc8fe9e33e4fc94e43d0b46e9b51dec15e10f758937bee3e13"), looks := false }, kinds := [], alts := [], laidByText := true, laidKinds := [.data], laidTests := true, laidLooks := .later }
def InspectPipesUptoCardSaid : Prop := Claim7.holds Tryz.pinned (.plain (OpenSpec.upto inspectPipesSpec)) inspectPipesUptoCard

/-- THE SECOND FORM's CARD OF 'pneumaticlaw24.PressureGrows'. -/
def pressureGrowsUptoCard : Claim7 := { stood := { row := pressureGrowsUptoRow, standIns := [], harness := (true, "83f069099d8588fc8fe9e33e4fc94e43d0b46e9b51dec15e10f758937bee3e13"), looks := false }, kinds := [], alts := [], laidByText := true, laidKinds := [.data], laidTests := true, laidLooks := .later }
def PressureGrowsUptoCardSaid : Prop := Claim7.holds Tryz.pinned (.plain (OpenSpec.upto pressureGrowsSpec)) pressureGrowsUptoCard
end Rows
end Go.Proofs.YtebnpnkcoibooaaGreatDoor
