/- Lemmas and contracts for the proof of a statement of this seat. -/
import Derived.Test.YtkofnocfackjiaaGreatDoorZCG
import Derived.Sort.Grow
import Derived.Shelf.SortM.Plain
import Derived.Shelf.SortM.SortNone
import Derived.Ground.SlgmProg
set_option linter.unusedVariables false
set_option linter.unusedSimpArgs false
/- slices.Sort at int: the bridge from the library's contract (the world behind it) to a call's contract. -/
namespace Go.Am
open Go Go.Proofs Go.Pn

end Go.Am
/- slices.Sort at int. -/
namespace Go.Am
open Go Go.Proofs Go.Shelf

end Go.Am

namespace Go.Am
open Go Go.Proofs Go.Pn

end Go.Am
