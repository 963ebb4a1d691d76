/- Lemmas and contracts for the proof of a statement of this seat. -/
import Derived.Test.YtkofnocfackjiaaGreatDoorZCT
import Derived.Test.YtkofnocfackjiaaGreatDoorZCJ
set_option linter.unusedVariables false
set_option linter.unusedSimpArgs false
/- Contracts: the awake examples of chapter 22, and what is small there. -/
namespace Go.Am
open Go Go.Proofs Go.Pn


end Go.Am
/- Contracts: the law InspectSides. -/
namespace Go.Am
open Go Go.Proofs Go.Pn


end Go.Am
