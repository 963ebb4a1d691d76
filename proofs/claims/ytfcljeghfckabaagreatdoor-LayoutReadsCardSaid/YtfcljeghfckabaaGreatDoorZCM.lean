/- Lemmas and contracts for the proof of a statement of this seat. -/
import Derived.Test.YtfcljeghfckabaaGreatDoorZCK
import Derived.Test.YtfcljeghfckabaaGreatDoorZCL
set_option linter.unusedVariables false
set_option linter.unusedSimpArgs false
/- Plain facts for the laws PressureCauses, PressureRests. -/
namespace Go.Am
open Go Go.Proofs Go.Pn

end Go.Am
/- Plain facts for the law PressureCauses. -/
namespace Go.Am
open Go Go.Proofs Go.Pn

end Go.Am
/- Contracts: the law PressureRests. -/
namespace Go.Am
open Go Go.Proofs Go.Pn


end Go.Am
