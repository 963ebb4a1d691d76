/- Lemmas and contracts for the proof of a statement of this seat. -/
import Derived.Test.YtkofnocfackjiaaGreatDoorZCB
set_option linter.unusedVariables false
set_option linter.unusedSimpArgs false
/- Contracts: chapter 24, the reference: Once, Step, Flow. -/
namespace Go.Am
open Go Go.Proofs Go.Pn

end Go.Am
/- Contracts: chapter 24, the reference: Flow. -/
namespace Go.Am
open Go Go.Proofs Go.Pn

end Go.Am
/- Contracts: chapter 24, the reference: Rest. -/
namespace Go.Am
open Go Go.Proofs Go.Pn

end Go.Am
