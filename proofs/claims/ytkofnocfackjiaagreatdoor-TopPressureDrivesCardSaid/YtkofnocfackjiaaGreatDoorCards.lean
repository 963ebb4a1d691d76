/-
  DERIVED. GIVEN WITH THE SEED: THE CARDS: each row of YtkofnocfackjiaaGreatDoorRows.lean that lists a variable, with what it lists TIED to the program's text (the seventh form; the later family's looks); each row that meets fmt, with fmt's text TOLD by the authors' own Lean function (tested against real Go, not proved from fmt's source: count such statements apart). THE CARD IS WHAT COUNTS. Prove the row's statement (the work); the ties are given (YtkofnocfackjiaaGreatDoorTie.lean); close each card by the builder's one call (the guide's Derived/Test/ToyasCard.lean, 'card_holds'). Laid BY PROGRAM, IN A SANDBOX (cutbox-door.mjs). By AI agents, Wed Nov 11 2026. No macro, syntax, notation, axiom, sorry.
-/
import Derived.Test.YtkofnocfackjiaaGreatDoorRows
import GoSem.ClaimSeven
namespace Go.Proofs.YtkofnocfackjiaaGreatDoor
namespace Rows

/-- THE TIED CARD OF 'pneumaticlaw26.LabelParses'. -/
def labelParsesCard : Claim7 := { stood := { row := labelParsesRow, standIns := [], harness := (true, "5e0eefb4a316c12276683b4a6595c2c71170ef9619c018063a3f2e44f7681f25"), looks := true }, kinds := [], alts := [], laidByText := true, laidKinds := [.data, .data, .data, .sentinel, .sentinel, .data], laidTests := true, laidLooks := .later }
def LabelParsesCardSaid : Prop := Claim7.holds Tryz.pinned (.plain (OpenSpec.ofChange labelParsesSpec)) labelParsesCard

/-- THE TIED CARD OF 'pneumaticlaw26.LabelNames'. -/
def labelNamesCard : Claim7 := { stood := { row := labelNamesRow, standIns := [], harness := (true, "5e0eefb4a316c12276683b4a6595c2c71170ef9619c018063a3f2e44f7681f25"), looks := true }, kinds := [], alts := [], laidByText := true, laidKinds := [.data, .data, .data, .sentinel, .sentinel, .data], laidTests := true, laidLooks := .later }
def LabelNamesCardSaid : Prop := Claim7.holds Tryz.pinned (.plain (OpenSpec.ofChange labelNamesSpec)) labelNamesCard

/-- THE TIED CARD OF 'pneumaticlaw26.LabelFinds'. -/
def labelFindsCard : Claim7 := { stood := { row := labelFindsRow, standIns := [], harness := (true, "5e0eefb4a316c12276683b4a6595c2c71170ef9619c018063a3f2e44f7681f25"), looks := true }, kinds := [], alts := [], laidByText := true, laidKinds := [.data, .data, .data, .sentinel, .sentinel, .data], laidTests := true, laidLooks := .later }
def LabelFindsCardSaid : Prop := Claim7.holds Tryz.pinned (.plain (OpenSpec.ofChange labelFindsSpec)) labelFindsCard

/-- THE TIED CARD OF 'pneumaticlaw26.LabelOrders'. -/
def labelOrdersCard : Claim7 := { stood := { row := labelOrdersRow, standIns := [], harness := (true, "5e0eefb4a316c12276683b4a6595c2c71170ef9619c018063a3f2e44f7681f25"), looks := true }, kinds := [], alts := [], laidByText := true, laidKinds := [.data, .data, .data, .sentinel, .sentinel, .data], laidTests := true, laidLooks := .later }
def LabelOrdersCardSaid : Prop := Claim7.holds Tryz.pinned (.plain (OpenSpec.ofChange labelOrdersSpec)) labelOrdersCard

/-- THE TIED CARD OF 'pneumaticlaw26.LabelDiffers'. -/
def labelDiffersCard : Claim7 := { stood := { row := labelDiffersRow, standIns := [], harness := (true, "5e0eefb4a316c12276683b4a6595c2c71170ef9619c018063a3f2e44f7681f25"), looks := true }, kinds := [], alts := [], laidByText := true, laidKinds := [.data, .data, .data, .sentinel, .sentinel, .data], laidTests := true, laidLooks := .later }
def LabelDiffersCardSaid : Prop := Claim7.holds Tryz.pinned (.plain (OpenSpec.ofChange labelDiffersSpec)) labelDiffersCard

/-- THE TIED CARD OF 'pneumaticlaw26.LabelFormats'. -/
def labelFormatsCard : Claim7 := { stood := { row := labelFormatsRow, standIns := [], harness := (true, "5e0eefb4a316c12276683b4a6595c2c71170ef9619c018063a3f2e44f7681f25"), looks := true }, kinds := [], alts := [], laidByText := true, laidKinds := [.data, .data, .data, .sentinel, .sentinel, .data], laidTests := true, laidLooks := .later }
def LabelFormatsCardSaid : Prop := Claim7.holds Tryz.pinned (.plain (OpenSpec.ofChange labelFormatsSpec)) labelFormatsCard

/-- THE TIED CARD OF 'pneumaticlaw26.LabelBelongs'. -/
def labelBelongsCard : Claim7 := { stood := { row := labelBelongsRow, standIns := [], harness := (true, "5e0eefb4a316c12276683b4a6595c2c71170ef9619c018063a3f2e44f7681f25"), looks := true }, kinds := [], alts := [], laidByText := true, laidKinds := [.data, .data, .data, .sentinel, .sentinel, .data], laidTests := true, laidLooks := .later }
def LabelBelongsCardSaid : Prop := Claim7.holds Tryz.pinned (.plain (OpenSpec.ofChange labelBelongsSpec)) labelBelongsCard

/-- THE TIED CARD OF 'pneumatictop.TopPressureDrives'. -/
def topPressureDrivesCard : Claim7 := { stood := { row := topPressureDrivesRow, standIns := [], harness := (true, "5e0eefb4a316c12276683b4a6595c2c71170ef9619c018063a3f2e44f7681f25"), looks := true }, kinds := [], alts := [], laidByText := true, laidKinds := [.data, .data, .data, .data], laidTests := true, laidLooks := .later }
def TopPressureDrivesCardSaid : Prop := Claim7.holds Tryz.pinned (.plain (OpenSpec.ofChange topPressureDrivesSpec)) topPressureDrivesCard

/-- THE SECOND FORM's CARD OF 'pneumaticlaw26.LabelParses'. -/
def labelParsesUptoCard : Claim7 := { stood := { row := labelParsesUptoRow, standIns := [], harness := (true, "5e0eefb4a316c12276683b4a6595c2c71170ef9619c018063a3f2e44f7681f25"), looks := true }, kinds := [], alts := [], laidByText := true, laidKinds := [.data, .data, .data, .sentinel, .sentinel, .data], laidTests := true, laidLooks := .later }
def LabelParsesUptoCardSaid : Prop := Claim7.holds Tryz.pinned (.plain (OpenSpec.upto labelParsesSpec)) labelParsesUptoCard

/-- THE SECOND FORM's CARD OF 'pneumaticlaw26.LabelNames'. -/
def labelNamesUptoCard : Claim7 := { stood := { row := labelNamesUptoRow, standIns := [], harness := (true, "5e0eefb4a316c12276683b4a6595c2c71170ef9619c018063a3f2e44f7681f25"), looks := true }, kinds := [], alts := [], laidByText := true, laidKinds := [.data, .data, .data, .sentinel, .sentinel, .data], laidTests := true, laidLooks := .later }
def LabelNamesUptoCardSaid : Prop := Claim7.holds Tryz.pinned (.plain (OpenSpec.upto labelNamesSpec)) labelNamesUptoCard

/-- THE SECOND FORM's CARD OF 'pneumaticlaw26.LabelFinds'. -/
def labelFindsUptoCard : Claim7 := { stood := { row := labelFindsUptoRow, standIns := [], harness := (true, "5e0eefb4a316c12276683b4a6595c2c71170ef9619c018063a3f2e44f7681f25"), looks := true }, kinds := [], alts := [], laidByText := true, laidKinds := [.data, .data, .data, .sentinel, .sentinel, .data], laidTests := true, laidLooks := .later }
def LabelFindsUptoCardSaid : Prop := Claim7.holds Tryz.pinned (.plain (OpenSpec.upto labelFindsSpec)) labelFindsUptoCard

/-- THE SECOND FORM's CARD OF 'pneumaticlaw26.LabelOrders'. -/
def labelOrdersUptoCard : Claim7 := { stood := { row := labelOrdersUptoRow, standIns := [], harness := (true, "5e0eefb4a316c12276683b4a6595c2c71170ef9619c018063a3f2e44f7681f25"), looks := true }, kinds := [], alts := [], laidByText := true, laidKinds := [.data, .data, .data, .sentinel, .sentinel, .data], laidTests := true, laidLooks := .later }
def LabelOrdersUptoCardSaid : Prop := Claim7.holds Tryz.pinned (.plain (OpenSpec.upto labelOrdersSpec)) labelOrdersUptoCard

/-- THE SECOND FORM's CARD OF 'pneumaticlaw26.LabelDiffers'. -/
def labelDiffersUptoCard : Claim7 := { stood := { row := labelDiffersUptoRow, standIns := [], harness := (true, "5e0eefb4a316c12276683b4a6595c2c71170ef9619c018063a3f2e44f7681f25"), looks := true }, kinds := [], alts := [], laidByText := true, laidKinds := [.data, .data, .data, .sentinel, .sentinel, .data], laidTests := true, laidLooks := .later }
def LabelDiffersUptoCardSaid : Prop := Claim7.holds Tryz.pinned (.plain (OpenSpec.upto labelDiffersSpec)) labelDiffersUptoCard

/-- THE SECOND FORM's CARD OF 'pneumaticlaw26.LabelFormats'. -/
def labelFormatsUptoCard : Claim7 := { stood := { row := labelFormatsUptoRow, standIns := [], harness := (true, "5e0eefb4a316c12276683b4a6595c2c71170ef9619c018063a3f2e44f7681f25"), looks := true }, kinds := [], alts := [], laidByText := true, laidKinds := [.data, .data, .data, .sentinel, .sentinel, .data], laidTests := true, laidLooks := .later }
def LabelFormatsUptoCardSaid : Prop := Claim7.holds Tryz.pinned (.plain (OpenSpec.upto labelFormatsSpec)) labelFormatsUptoCard

/-- THE SECOND FORM's CARD OF 'pneumaticlaw26.LabelBelongs'. -/
def labelBelongsUptoCard : Claim7 := { stood := { row := labelBelongsUptoRow, standIns := [], harness := (true, "5e0eefb4a316c12276683b4a6595c2c71170ef9619c018063a3f2e44f7681f25"), looks := true }, kinds := [], alts := [], laidByText := true, laidKinds := [.data, .data, .data, .sentinel, .sentinel, .data], laidTests := true, laidLooks := .later }
def LabelBelongsUptoCardSaid : Prop := Claim7.holds Tryz.pinned (.plain (OpenSpec.upto labelBelongsSpec)) labelBelongsUptoCard

/-- THE SECOND FORM's CARD OF 'pneumatictop.TopPressureDrives'. -/
def topPressureDrivesUptoCard : Claim7 := { stood := { row := topPressureDrivesUptoRow, standIns := [], harness := (true, "5e0eefb4a316c12276683b4a6595c2c71170ef9619c018063a3f2e44f7681f25"), looks := true }, kinds := [], alts := [], laidByText := true, laidKinds := [.data, .data, .data, .data], laidTests := true, laidLooks := .later }
def TopPressureDrivesUptoCardSaid : Prop := Claim7.holds Tryz.pinned (.plain (OpenSpec.upto topPressureDrivesSpec)) topPressureDrivesUptoCard
end Rows
end Go.Proofs.YtkofnocfackjiaaGreatDoor
