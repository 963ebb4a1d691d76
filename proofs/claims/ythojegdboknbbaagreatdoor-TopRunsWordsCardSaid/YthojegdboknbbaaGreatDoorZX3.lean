/- Lemmas and contracts for the proof of a statement of this seat. -/
import Derived.Test.YthojegdboknbbaaGreatDoorZX2
import Derived.Test.YthojegdboknbbaaGreatDoorZCA
import Derived.Test.YthojegdboknbbaaGreatDoorZA7
import Derived.Shelf.SortM.Plain
import Derived.Shelf.SlLaysF0
import Derived.Ground.SlgmProg
import Derived.Shelf.SlSortCmp.NoneTotal
import Derived.WalkMore
import Derived.WalkSpells
import Derived.Deep.RegionHeld3
import Derived.Sort.Grow
import Derived.Test.YthojegdboknbbaaGreatDoorZN1
set_option linter.unusedVariables false
set_option linter.unusedSimpArgs false
namespace Go.Am
open Go Go.Proofs Go.Shelf Go.RowKit Go.Lib Go.Sort Go.Pn
end Go.Am
namespace Go.Am
open Go Go.Proofs Go.Shelf Go.RowKit Go.Lib Go.Sort Go.Pn
end Go.Am
namespace Go.Am
open Go Go.Proofs Go.Pn
instance : Inhabited Cube := ⟨⟨0, 0⟩⟩
end Go.Am
namespace Go.Am
open Go Go.Proofs Go.Pn
end Go.Am
