/-
  DERIVED. GIVEN WITH THE SEED: THE CARDS: each row of YtmfjjncfdpejiaaGreatDoorRows.lean that lists a variable, with what it lists TIED to the program's text (the seventh form; the later family's looks); each row that meets fmt, with fmt's text TOLD by the authors' own Lean function (tested against real Go, not proved from fmt's source: count such statements apart). THE CARD IS WHAT COUNTS. Prove the row's statement (the work); the ties are given (YtmfjjncfdpejiaaGreatDoorTie.lean); close each card by the builder's one call (the guide's Derived/Test/ToyasCard.lean, 'card_holds'). Laid BY PROGRAM, IN A SANDBOX (cutbox-door.mjs). By AI agents, Wed Nov 11 2026. No macro, syntax, notation, axiom, sorry.
-/
import Derived.Test.YtmfjjncfdpejiaaGreatDoorRows
import GoSem.ClaimSeven
namespace Go.Proofs.YtmfjjncfdpejiaaGreatDoor
namespace Rows

/-- THE TIED CARD OF 'pneumaticlaw23.NetlistParses'. -/
def netlistParsesCard : Claim7 := { stood := { row := netlistParsesRow, standIns := [], harness := (true, "d706d9b092086e3714bce1edafacee044936f05f64434f028ef86f1ab378c0e0"), looks := true }, kinds := [], alts := [], laidByText := true, laidKinds := [.data, .data, .data, .sentinel, .sentinel, .data], laidTests := true, laidLooks := .later }
def NetlistParsesCardSaid : Prop := Claim7.holds Tryz.pinned (.plain (OpenSpec.ofChange netlistParsesSpec)) netlistParsesCard

/-- THE TIED CARD OF 'pneumaticlaw23.NetlistRenames'. -/
def netlistRenamesCard : Claim7 := { stood := { row := netlistRenamesRow, standIns := [], harness := (true, "d706d9b092086e3714bce1edafacee044936f05f64434f028ef86f1ab378c0e0"), looks := true }, kinds := [], alts := [], laidByText := true, laidKinds := [.data, .data, .data, .sentinel, .sentinel, .data], laidTests := true, laidLooks := .later }
def NetlistRenamesCardSaid : Prop := Claim7.holds Tryz.pinned (.plain (OpenSpec.ofChange netlistRenamesSpec)) netlistRenamesCard

/-- THE TIED CARD OF 'pneumaticlaw23.NetlistFormats'. -/
def netlistFormatsCard : Claim7 := { stood := { row := netlistFormatsRow, standIns := [], harness := (true, "d706d9b092086e3714bce1edafacee044936f05f64434f028ef86f1ab378c0e0"), looks := true }, kinds := [], alts := [], laidByText := true, laidKinds := [.data, .data, .data, .sentinel, .sentinel, .data], laidTests := true, laidLooks := .later }
def NetlistFormatsCardSaid : Prop := Claim7.holds Tryz.pinned (.plain (OpenSpec.ofChange netlistFormatsSpec)) netlistFormatsCard

/-- THE TIED CARD OF 'pneumaticlaw23.NetlistUnites'. -/
def netlistUnitesCard : Claim7 := { stood := { row := netlistUnitesRow, standIns := [], harness := (true, "d706d9b092086e3714bce1edafacee044936f05f64434f028ef86f1ab378c0e0"), looks := true }, kinds := [], alts := [], laidByText := true, laidKinds := [.data, .data, .data, .sentinel, .sentinel, .data], laidTests := true, laidLooks := .later }
def NetlistUnitesCardSaid : Prop := Claim7.holds Tryz.pinned (.plain (OpenSpec.ofChange netlistUnitesSpec)) netlistUnitesCard

/-- THE TIED CARD OF 'pneumaticlaw23.NetlistPorts'. -/
def netlistPortsCard : Claim7 := { stood := { row := netlistPortsRow, standIns := [], harness := (true, "d706d9b092086e3714bce1edafacee044936f05f64434f028ef86f1ab378c0e0"), looks := true }, kinds := [], alts := [], laidByText := true, laidKinds := [.data, .data, .data, .sentinel, .sentinel, .data], laidTests := true, laidLooks := .later }
def NetlistPortsCardSaid : Prop := Claim7.holds Tryz.pinned (.plain (OpenSpec.ofChange netlistPortsSpec)) netlistPortsCard

/-- THE TIED CARD OF 'pneumaticlaw23.NetlistReturns'. -/
def netlistReturnsCard : Claim7 := { stood := { row := netlistReturnsRow, standIns := [], harness := (true, "d706d9b092086e3714bce1edafacee044936f05f64434f028ef86f1ab378c0e0"), looks := true }, kinds := [], alts := [], laidByText := true, laidKinds := [.data, .data, .data, .sentinel, .sentinel, .data], laidTests := true, laidLooks := .later }
def NetlistReturnsCardSaid : Prop := Claim7.holds Tryz.pinned (.plain (OpenSpec.ofChange netlistReturnsSpec)) netlistReturnsCard

/-- THE TIED CARD OF 'pneumaticlaw23.NetlistJoins'. -/
def netlistJoinsCard : Claim7 := { stood := { row := netlistJoinsRow, standIns := [], harness := (true, "d706d9b092086e3714bce1edafacee044936f05f64434f028ef86f1ab378c0e0"), looks := true }, kinds := [], alts := [], laidByText := true, laidKinds := [.data, .data, .data, .sentinel, .sentinel, .data], laidTests := true, laidLooks := .later }
def NetlistJoinsCardSaid : Prop := Claim7.holds Tryz.pinned (.plain (OpenSpec.ofChange netlistJoinsSpec)) netlistJoinsCard

/-- THE TIED CARD OF 'pneumaticlaw23.NetlistReads'. -/
def netlistReadsCard : Claim7 := { stood := { row := netlistReadsRow, standIns := [], harness := (true, "d706d9b092086e3714bce1edafacee044936f05f64434f028ef86f1ab378c0e0"), looks := true }, kinds := [], alts := [], laidByText := true, laidKinds := [.data, .data, .data, .data, .sentinel, .sentinel, .data, .pinned], laidTests := true, laidLooks := .later }
def NetlistReadsCardSaid : Prop := Claim7.holds Tryz.pinned (.plain (OpenSpec.ofChange netlistReadsSpec)) netlistReadsCard

/-- THE TIED CARD OF 'pneumatictop.TopPressureRename'. -/
def topPressureRenameCard : Claim7 := { stood := { row := topPressureRenameRow, standIns := [], harness := (true, "d706d9b092086e3714bce1edafacee044936f05f64434f028ef86f1ab378c0e0"), looks := true }, kinds := [], alts := [], laidByText := true, laidKinds := [.data, .data, .data, .data, .data, .pinned], laidTests := true, laidLooks := .later }
def TopPressureRenameCardSaid : Prop := Claim7.holds Tryz.pinned (.plain (OpenSpec.ofChange topPressureRenameSpec)) topPressureRenameCard

/-- THE TIED CARD OF 'pneumatictop.TopCircuitsRead'. -/
def topCircuitsReadCard : Claim7 := { stood := { row := topCircuitsReadRow, standIns := [], harness := (true, "d706d9b092086e3714bce1edafacee044936f05f64434f028ef86f1ab378c0e0"), looks := true }, kinds := [], alts := [], laidByText := true, laidKinds := [.data, .data, .data, .sentinel, .sentinel, .data], laidTests := true, laidLooks := .later }
def TopCircuitsReadCardSaid : Prop := Claim7.holds Tryz.pinned (.plain (OpenSpec.ofChange topCircuitsReadSpec)) topCircuitsReadCard

/-- THE TIED CARD OF 'pneumatictop.TopCircuitsPrune'. -/
def topCircuitsPruneCard : Claim7 := { stood := { row := topCircuitsPruneRow, standIns := [], harness := (true, "d706d9b092086e3714bce1edafacee044936f05f64434f028ef86f1ab378c0e0"), looks := true }, kinds := [], alts := [], laidByText := true, laidKinds := [.data, .data, .data, .sentinel, .sentinel, .data], laidTests := true, laidLooks := .later }
def TopCircuitsPruneCardSaid : Prop := Claim7.holds Tryz.pinned (.plain (OpenSpec.ofChange topCircuitsPruneSpec)) topCircuitsPruneCard

/-- THE TIED CARD OF 'pneumatictop.TopCircuitsRename'. -/
def topCircuitsRenameCard : Claim7 := { stood := { row := topCircuitsRenameRow, standIns := [], harness := (true, "d706d9b092086e3714bce1edafacee044936f05f64434f028ef86f1ab378c0e0"), looks := true }, kinds := [], alts := [], laidByText := true, laidKinds := [.data, .data, .data, .data, .sentinel, .sentinel, .data, .pinned], laidTests := true, laidLooks := .later }
def TopCircuitsRenameCardSaid : Prop := Claim7.holds Tryz.pinned (.plain (OpenSpec.ofChange topCircuitsRenameSpec)) topCircuitsRenameCard

/-- THE SECOND FORM's CARD OF 'pneumaticlaw23.NetlistParses'. -/
def netlistParsesUptoCard : Claim7 := { stood := { row := netlistParsesUptoRow, standIns := [], harness := (true, "d706d9b092086e3714bce1edafacee044936f05f64434f028ef86f1ab378c0e0"), looks := true }, kinds := [], alts := [], laidByText := true, laidKinds := [.data, .data, .data, .sentinel, .sentinel, .data], laidTests := true, laidLooks := .later }
def NetlistParsesUptoCardSaid : Prop := Claim7.holds Tryz.pinned (.plain (OpenSpec.upto netlistParsesSpec)) netlistParsesUptoCard

/-- THE SECOND FORM's CARD OF 'pneumaticlaw23.NetlistRenames'. -/
def netlistRenamesUptoCard : Claim7 := { stood := { row := netlistRenamesUptoRow, standIns := [], harness := (true, "d706d9b092086e3714bce1edafacee044936f05f64434f028ef86f1ab378c0e0"), looks := true }, kinds := [], alts := [], laidByText := true, laidKinds := [.data, .data, .data, .sentinel, .sentinel, .data], laidTests := true, laidLooks := .later }
def NetlistRenamesUptoCardSaid : Prop := Claim7.holds Tryz.pinned (.plain (OpenSpec.upto netlistRenamesSpec)) netlistRenamesUptoCard

/-- THE SECOND FORM's CARD OF 'pneumaticlaw23.NetlistFormats'. -/
def netlistFormatsUptoCard : Claim7 := { stood := { row := netlistFormatsUptoRow, standIns := [], harness := (true, "d706d9b092086e3714bce1edafacee044936f05f64434f028ef86f1ab378c0e0"), looks := true }, kinds := [], alts := [], laidByText := true, laidKinds := [.data, .data, .data, .sentinel, .sentinel, .data], laidTests := true, laidLooks := .later }
def NetlistFormatsUptoCardSaid : Prop := Claim7.holds Tryz.pinned (.plain (OpenSpec.upto netlistFormatsSpec)) netlistFormatsUptoCard

/-- THE SECOND FORM's CARD OF 'pneumaticlaw23.NetlistUnites'. -/
def netlistUnitesUptoCard : Claim7 := { stood := { row := netlistUnitesUptoRow, standIns := [], harness := (true, "d706d9b092086e3714bce1edafacee044936f05f64434f028ef86f1ab378c0e0"), looks := true }, kinds := [], alts := [], laidByText := true, laidKinds := [.data, .data, .data, .sentinel, .sentinel, .data], laidTests := true, laidLooks := .later }
def NetlistUnitesUptoCardSaid : Prop := Claim7.holds Tryz.pinned (.plain (OpenSpec.upto netlistUnitesSpec)) netlistUnitesUptoCard

/-- THE SECOND FORM's CARD OF 'pneumaticlaw23.NetlistPorts'. -/
def netlistPortsUptoCard : Claim7 := { stood := { row := netlistPortsUptoRow, standIns := [], harness := (true, "d706d9b092086e3714bce1edafacee044936f05f64434f028ef86f1ab378c0e0"), looks := true }, kinds := [], alts := [], laidByText := true, laidKinds := [.data, .data, .data, .sentinel, .sentinel, .data], laidTests := true, laidLooks := .later }
def NetlistPortsUptoCardSaid : Prop := Claim7.holds Tryz.pinned (.plain (OpenSpec.upto netlistPortsSpec)) netlistPortsUptoCard

/-- THE SECOND FORM's CARD OF 'pneumaticlaw23.NetlistReturns'. -/
def netlistReturnsUptoCard : Claim7 := { stood := { row := netlistReturnsUptoRow, standIns := [], harness := (true, "d706d9b092086e3714bce1edafacee044936f05f64434f028ef86f1ab378c0e0"), looks := true }, kinds := [], alts := [], laidByText := true, laidKinds := [.data, .data, .data, .sentinel, .sentinel, .data], laidTests := true, laidLooks := .later }
def NetlistReturnsUptoCardSaid : Prop := Claim7.holds Tryz.pinned (.plain (OpenSpec.upto netlistReturnsSpec)) netlistReturnsUptoCard

/-- THE SECOND FORM's CARD OF 'pneumaticlaw23.NetlistJoins'. -/
def netlistJoinsUptoCard : Claim7 := { stood := { row := netlistJoinsUptoRow, standIns := [], harness := (true, "d706d9b092086e3714bce1edafacee044936f05f64434f028ef86f1ab378c0e0"), looks := true }, kinds := [], alts := [], laidByText := true, laidKinds := [.data, .data, .data, .sentinel, .sentinel, .data], laidTests := true, laidLooks := .later }
def NetlistJoinsUptoCardSaid : Prop := Claim7.holds Tryz.pinned (.plain (OpenSpec.upto netlistJoinsSpec)) netlistJoinsUptoCard

/-- THE SECOND FORM's CARD OF 'pneumaticlaw23.NetlistReads'. -/
def netlistReadsUptoCard : Claim7 := { stood := { row := netlistReadsUptoRow, standIns := [], harness := (true, "d706d9b092086e3714bce1edafacee044936f05f64434f028ef86f1ab378c0e0"), looks := true }, kinds := [], alts := [], laidByText := true, laidKinds := [.data, .data, .data, .data, .sentinel, .sentinel, .data, .pinned], laidTests := true, laidLooks := .later }
def NetlistReadsUptoCardSaid : Prop := Claim7.holds Tryz.pinned (.plain (OpenSpec.upto netlistReadsSpec)) netlistReadsUptoCard

/-- THE SECOND FORM's CARD OF 'pneumatictop.TopPressureRename'. -/
def topPressureRenameUptoCard : Claim7 := { stood := { row := topPressureRenameUptoRow, standIns := [], harness := (true, "d706d9b092086e3714bce1edafacee044936f05f64434f028ef86f1ab378c0e0"), looks := true }, kinds := [], alts := [], laidByText := true, laidKinds := [.data, .data, .data, .data, .data, .pinned], laidTests := true, laidLooks := .later }
def TopPressureRenameUptoCardSaid : Prop := Claim7.holds Tryz.pinned (.plain (OpenSpec.upto topPressureRenameSpec)) topPressureRenameUptoCard

/-- THE SECOND FORM's CARD OF 'pneumatictop.TopCircuitsRead'. -/
def topCircuitsReadUptoCard : Claim7 := { stood := { row := topCircuitsReadUptoRow, standIns := [], harness := (true, "d706d9b092086e3714bce1edafacee044936f05f64434f028ef86f1ab378c0e0"), looks := true }, kinds := [], alts := [], laidByText := true, laidKinds := [.data, .data, .data, .sentinel, .sentinel, .data], laidTests := true, laidLooks := .later }
def TopCircuitsReadUptoCardSaid : Prop := Claim7.holds Tryz.pinned (.plain (OpenSpec.upto topCircuitsReadSpec)) topCircuitsReadUptoCard

/-- THE SECOND FORM's CARD OF 'pneumatictop.TopCircuitsPrune'. -/
def topCircuitsPruneUptoCard : Claim7 := { stood := { row := topCircuitsPruneUptoRow, standIns := [], harness := (true, "d706d9b092086e3714bce1edafacee044936f05f64434f028ef86f1ab378c0e0"), looks := true }, kinds := [], alts := [], laidByText := true, laidKinds := [.data, .data, .data, .sentinel, .sentinel, .data], laidTests := true, laidLooks := .later }
def TopCircuitsPruneUptoCardSaid : Prop := Claim7.holds Tryz.pinned (.plain (OpenSpec.upto topCircuitsPruneSpec)) topCircuitsPruneUptoCard

/-- THE SECOND FORM's CARD OF 'pneumatictop.TopCircuitsRename'. -/
def topCircuitsRenameUptoCard : Claim7 := { stood := { row := topCircuitsRenameUptoRow, standIns := [], harness := (true, "d706d9b092086e3714bce1edafacee044936f05f64434f028ef86f1ab378c0e0"), looks := true }, kinds := [], alts := [], laidByText := true, laidKinds := [.data, .data, .data, .data, .sentinel, .sentinel, .data, .pinned], laidTests := true, laidLooks := .later }
def TopCircuitsRenameUptoCardSaid : Prop := Claim7.holds Tryz.pinned (.plain (OpenSpec.upto topCircuitsRenameSpec)) topCircuitsRenameUptoCard
end Rows
end Go.Proofs.YtmfjjncfdpejiaaGreatDoor
