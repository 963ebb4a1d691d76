/- Lemmas and contracts for the proof of a statement of this seat. -/
import Derived.Test.YtfcljeghfckabaaGreatDoorZCP
import Derived.Test.YtfcljeghfckabaaGreatDoorZC7
set_option linter.unusedVariables false
set_option linter.unusedSimpArgs false
/- Plain laws: a part that is added, and removed again. -/
namespace Go.Am
open Go Go.Proofs Go.Pn

end Go.Am
/- Contracts: package circuit: Join. -/
namespace Go.Am
open Go Go.Proofs Go.Pn




end Go.Am
