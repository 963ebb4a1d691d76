/-
  DERIVED. GIVEN WITH THE SEED: THE CARDS: each row of YtfcljeghfckabaaGreatDoorRows.lean that lists a variable, with what it lists TIED to the program's text (the seventh form; the later family's looks); each row that meets fmt, with fmt's text TOLD by the authors' own Lean function (tested against real Go, not proved from fmt's source: count such statements apart). THE CARD IS WHAT COUNTS. Prove the row's statement (the work); the ties are given (YtfcljeghfckabaaGreatDoorTie.lean); close each card by the builder's one call (the guide's Derived/Test/ToyasCard.lean, 'card_holds'). Laid BY PROGRAM, IN A SANDBOX (cutbox-door.mjs). By AI agents, Wed Nov 11 2026. No macro, syntax, notation, axiom, sorry.
-/
import Derived.Test.YtfcljeghfckabaaGreatDoorRows
import GoSem.ClaimSeven
namespace Go.Proofs.YtfcljeghfckabaaGreatDoor
namespace Rows

/-- THE TIED CARD OF 'pneumaticlaw25.LayoutLengths'. -/
def layoutLengthsCard : Claim7 := { stood := { row := layoutLengthsRow, standIns := [], harness := (true, "492bca6397630fa383ad1f4abe2d5e1dcaad43cc81c6449b378c0fb129101a3b"), looks := false }, kinds := [], alts := [], laidByText := true, laidKinds := [.data, .data, .pinned], laidTests := true, laidLooks := .later }
def LayoutLengthsCardSaid : Prop := Claim7.holds Tryz.pinned (.plain (OpenSpec.ofChange layoutLengthsSpec)) layoutLengthsCard

/-- THE TIED CARD OF 'pneumaticlaw25.LayoutArranges'. -/
def layoutArrangesCard : Claim7 := { stood := { row := layoutArrangesRow, standIns := [], harness := (true, "492bca6397630fa383ad1f4abe2d5e1dcaad43cc81c6449b378c0fb129101a3b"), looks := false }, kinds := [], alts := [], laidByText := true, laidKinds := [.data, .data, .pinned], laidTests := true, laidLooks := .later }
def LayoutArrangesCardSaid : Prop := Claim7.holds Tryz.pinned (.plain (OpenSpec.ofChange layoutArrangesSpec)) layoutArrangesCard

/-- THE TIED CARD OF 'pneumaticlaw25.LayoutShortens'. -/
def layoutShortensCard : Claim7 := { stood := { row := layoutShortensRow, standIns := [], harness := (true, "492bca6397630fa383ad1f4abe2d5e1dcaad43cc81c6449b378c0fb129101a3b"), looks := false }, kinds := [], alts := [], laidByText := true, laidKinds := [.data, .data, .pinned], laidTests := true, laidLooks := .later }
def LayoutShortensCardSaid : Prop := Claim7.holds Tryz.pinned (.plain (OpenSpec.ofChange layoutShortensSpec)) layoutShortensCard

/-- THE TIED CARD OF 'pneumaticlaw25.LayoutMoves'. -/
def layoutMovesCard : Claim7 := { stood := { row := layoutMovesRow, standIns := [], harness := (true, "492bca6397630fa383ad1f4abe2d5e1dcaad43cc81c6449b378c0fb129101a3b"), looks := false }, kinds := [], alts := [], laidByText := true, laidKinds := [.data, .data, .pinned], laidTests := true, laidLooks := .later }
def LayoutMovesCardSaid : Prop := Claim7.holds Tryz.pinned (.plain (OpenSpec.ofChange layoutMovesSpec)) layoutMovesCard

/-- THE TIED CARD OF 'pneumaticlaw25.LayoutPlaces'. -/
def layoutPlacesCard : Claim7 := { stood := { row := layoutPlacesRow, standIns := [], harness := (true, "492bca6397630fa383ad1f4abe2d5e1dcaad43cc81c6449b378c0fb129101a3b"), looks := false }, kinds := [], alts := [], laidByText := true, laidKinds := [.data, .data, .pinned], laidTests := true, laidLooks := .later }
def LayoutPlacesCardSaid : Prop := Claim7.holds Tryz.pinned (.plain (OpenSpec.ofChange layoutPlacesSpec)) layoutPlacesCard

/-- THE TIED CARD OF 'pneumaticlaw25.LayoutReads'. -/
def layoutReadsCard : Claim7 := { stood := { row := layoutReadsRow, standIns := [], harness := (true, "492bca6397630fa383ad1f4abe2d5e1dcaad43cc81c6449b378c0fb129101a3b"), looks := false }, kinds := [], alts := [], laidByText := true, laidKinds := [.data, .listed, .data, .data, .pinned], laidTests := true, laidLooks := .later }
def LayoutReadsCardSaid : Prop := Claim7.holds Tryz.pinned (.plain (OpenSpec.ofChange layoutReadsSpec)) layoutReadsCard

/-- THE TIED CARD OF 'pneumaticlaw25.LayoutDraws'. -/
def layoutDrawsCard : Claim7 := { stood := { row := layoutDrawsRow, standIns := [], harness := (true, "492bca6397630fa383ad1f4abe2d5e1dcaad43cc81c6449b378c0fb129101a3b"), looks := false }, kinds := [], alts := [], laidByText := true, laidKinds := [.data, .listed, .data, .data, .pinned], laidTests := true, laidLooks := .later }
def LayoutDrawsCardSaid : Prop := Claim7.holds Tryz.pinned (.plain (OpenSpec.ofChange layoutDrawsSpec)) layoutDrawsCard

/-- THE SECOND FORM's CARD OF 'pneumaticlaw25.LayoutLengths'. -/
def layoutLengthsUptoCard : Claim7 := { stood := { row := layoutLengthsUptoRow, standIns := [], harness := (true, "492bca6397630fa383ad1f4abe2d5e1dcaad43cc81c6449b378c0fb129101a3b"), looks := false }, kinds := [], alts := [], laidByText := true, laidKinds := [.data, .data, .pinned], laidTests := true, laidLooks := .later }
def LayoutLengthsUptoCardSaid : Prop := Claim7.holds Tryz.pinned (.plain (OpenSpec.upto layoutLengthsSpec)) layoutLengthsUptoCard

/-- THE SECOND FORM's CARD OF 'pneumaticlaw25.LayoutArranges'. -/
def layoutArrangesUptoCard : Claim7 := { stood := { row := layoutArrangesUptoRow, standIns := [], harness := (true, "492bca6397630fa383ad1f4abe2d5e1dcaad43cc81c6449b378c0fb129101a3b"), looks := false }, kinds := [], alts := [], laidByText := true, laidKinds := [.data, .data, .pinned], laidTests := true, laidLooks := .later }
def LayoutArrangesUptoCardSaid : Prop := Claim7.holds Tryz.pinned (.plain (OpenSpec.upto layoutArrangesSpec)) layoutArrangesUptoCard

/-- THE SECOND FORM's CARD OF 'pneumaticlaw25.LayoutShortens'. -/
def layoutShortensUptoCard : Claim7 := { stood := { row := layoutShortensUptoRow, standIns := [], harness := (true, "492bca6397630fa383ad1f4abe2d5e1dcaad43cc81c6449b378c0fb129101a3b"), looks := false }, kinds := [], alts := [], laidByText := true, laidKinds := [.data, .data, .pinned], laidTests := true, laidLooks := .later }
def LayoutShortensUptoCardSaid : Prop := Claim7.holds Tryz.pinned (.plain (OpenSpec.upto layoutShortensSpec)) layoutShortensUptoCard

/-- THE SECOND FORM's CARD OF 'pneumaticlaw25.LayoutMoves'. -/
def layoutMovesUptoCard : Claim7 := { stood := { row := layoutMovesUptoRow, standIns := [], harness := (true, "492bca6397630fa383ad1f4abe2d5e1dcaad43cc81c6449b378c0fb129101a3b"), looks := false }, kinds := [], alts := [], laidByText := true, laidKinds := [.data, .data, .pinned], laidTests := true, laidLooks := .later }
def LayoutMovesUptoCardSaid : Prop := Claim7.holds Tryz.pinned (.plain (OpenSpec.upto layoutMovesSpec)) layoutMovesUptoCard

/-- THE SECOND FORM's CARD OF 'pneumaticlaw25.LayoutPlaces'. -/
def layoutPlacesUptoCard : Claim7 := { stood := { row := layoutPlacesUptoRow, standIns := [], harness := (true, "492bca6397630fa383ad1f4abe2d5e1dcaad43cc81c6449b378c0fb129101a3b"), looks := false }, kinds := [], alts := [], laidByText := true, laidKinds := [.data, .data, .pinned], laidTests := true, laidLooks := .later }
def LayoutPlacesUptoCardSaid : Prop := Claim7.holds Tryz.pinned (.plain (OpenSpec.upto layoutPlacesSpec)) layoutPlacesUptoCard

/-- THE SECOND FORM's CARD OF 'pneumaticlaw25.LayoutReads'. -/
def layoutReadsUptoCard : Claim7 := { stood := { row := layoutReadsUptoRow, standIns := [], harness := (true, "492bca6397630fa383ad1f4abe2d5e1dcaad43cc81c6449b378c0fb129101a3b"), looks := false }, kinds := [], alts := [], laidByText := true, laidKinds := [.data, .listed, .data, .data, .pinned], laidTests := true, laidLooks := .later }
def LayoutReadsUptoCardSaid : Prop := Claim7.holds Tryz.pinned (.plain (OpenSpec.upto layoutReadsSpec)) layoutReadsUptoCard

/-- THE SECOND FORM's CARD OF 'pneumaticlaw25.LayoutDraws'. -/
def layoutDrawsUptoCard : Claim7 := { stood := { row := layoutDrawsUptoRow, standIns := [], harness := (true, "492bca6397630fa383ad1f4abe2d5e1dcaad43cc81c6449b378c0fb129101a3b"), looks := false }, kinds := [], alts := [], laidByText := true, laidKinds := [.data, .listed, .data, .data, .pinned], laidTests := true, laidLooks := .later }
def LayoutDrawsUptoCardSaid : Prop := Claim7.holds Tryz.pinned (.plain (OpenSpec.upto layoutDrawsSpec)) layoutDrawsUptoCard
end Rows
end Go.Proofs.YtfcljeghfckabaaGreatDoor
