/-
  DERIVED. GIVEN WITH THE SEED: THE CARDS: each row of YthkjeoagelhocaaGreatDoorRows.lean that lists a variable, with what it lists TIED to the program's text (the seventh form; the later family's looks); each row that meets fmt, with fmt's text TOLD by the authors' own Lean function (tested against real Go, not proved from fmt's source: count such statements apart). THE CARD IS WHAT COUNTS. Prove the row's statement (the work); the ties are given (YthkjeoagelhocaaGreatDoorTie.lean); close each card by the builder's one call (the guide's Derived/Test/ToyasCard.lean, 'card_holds'). Laid BY PROGRAM, IN A SANDBOX (cutbox-door.mjs). By AI agents, Wed Nov 11 2026. No macro, syntax, notation, axiom, sorry.
-/
import Derived.Test.YthkjeoagelhocaaGreatDoorRows
import GoSem.ClaimSeven
namespace Go.Proofs.YthkjeoagelhocaaGreatDoor
namespace Rows

/-- THE TIED CARD OF 'pneumatictop.TopPressureLegend'. -/
def topPressureLegendCard : Claim7 := { stood := { row := topPressureLegendRow, standIns := [], harness := (true, "c7414661c559602cec66dbfa3eba74e7d728c5a1d83bfdc81187772e773527ff"), looks := true }, kinds := [], alts := [], laidByText := true, laidKinds := [.data, .data, .data, .data, .sentinel, .sentinel, .data, .pinned], laidTests := true, laidLooks := .later }
def TopPressureLegendCardSaid : Prop := Claim7.holds Tryz.pinned (.plain (OpenSpec.ofChange topPressureLegendSpec)) topPressureLegendCard

/-- THE SECOND FORM's CARD OF 'pneumatictop.TopPressureLegend'. -/
def topPressureLegendUptoCard : Claim7 := { stood := { row := topPressureLegendUptoRow, standIns := [], harness := (true, "c7414661c559602cec66dbfa3eba74e7d728c5a1d83bfdc81187772e773527ff"), looks := true }, kinds := [], alts := [], laidByText := true, laidKinds := [.data, .data, .data, .data, .sentinel, .sentinel, .data, .pinned], laidTests := true, laidLooks := .later }
def TopPressureLegendUptoCardSaid : Prop := Claim7.holds Tryz.pinned (.plain (OpenSpec.upto topPressureLegendSpec)) topPressureLegendUptoCard
end Rows
end Go.Proofs.YthkjeoagelhocaaGreatDoor
