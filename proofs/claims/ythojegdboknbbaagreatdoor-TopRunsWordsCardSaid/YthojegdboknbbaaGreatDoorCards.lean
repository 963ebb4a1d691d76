/-
  DERIVED. GIVEN WITH THE SEED: THE CARDS: each row of YthojegdboknbbaaGreatDoorRows.lean that lists a variable, with what it lists TIED to the program's text (the seventh form; the later family's looks); each row that meets fmt, with fmt's text TOLD by the authors' own Lean function (tested against real Go, not proved from fmt's source: count such statements apart). THE CARD IS WHAT COUNTS. Prove the row's statement (the work); the ties are given (YthojegdboknbbaaGreatDoorTie.lean); close each card by the builder's one call (the guide's Derived/Test/ToyasCard.lean, 'card_holds'). Laid BY PROGRAM, IN A SANDBOX (cutbox-door.mjs). By AI agents, Wed Nov 11 2026. No macro, syntax, notation, axiom, sorry.
-/
import Derived.Test.YthojegdboknbbaaGreatDoorRows
import GoSem.ClaimSeven
namespace Go.Proofs.YthojegdboknbbaaGreatDoor
namespace Rows

/-- THE TIED CARD OF 'pneumatictop.TopRunsWords'. -/
def topRunsWordsCard : Claim7 := { stood := { row := topRunsWordsRow, standIns := [], harness := (true, "34bdde82e88dd1481853784e6092e463142c9cb1df05c417dc301f770997572a"), looks := false }, kinds := [], alts := [], laidByText := true, laidKinds := [.data, .data, .data], laidTests := true, laidLooks := .later }
def TopRunsWordsCardSaid : Prop := Claim7.holds Tryz.pinned (.plain (OpenSpec.ofChange topRunsWordsSpec)) topRunsWordsCard

/-- THE SECOND FORM's CARD OF 'pneumatictop.TopRunsWords'. -/
def topRunsWordsUptoCard : Claim7 := { stood := { row := topRunsWordsUptoRow, standIns := [], harness := (true, "34bdde82e88dd1481853784e6092e463142c9cb1df05c417dc301f770997572a"), looks := false }, kinds := [], alts := [], laidByText := true, laidKinds := [.data, .data, .data], laidTests := true, laidLooks := .later }
def TopRunsWordsUptoCardSaid : Prop := Claim7.holds Tryz.pinned (.plain (OpenSpec.upto topRunsWordsSpec)) topRunsWordsUptoCard
end Rows
end Go.Proofs.YthojegdboknbbaaGreatDoor
