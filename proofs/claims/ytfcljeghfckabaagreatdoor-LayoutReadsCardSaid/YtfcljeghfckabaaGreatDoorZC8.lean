/- Contracts: the laws CircuitChecks and CircuitChanges. -/
import Derived.Test.YtfcljeghfckabaaGreatDoorZC7
set_option linter.unusedVariables false
set_option linter.unusedSimpArgs false
namespace Go.Am
open Go Go.Proofs Go.Pn


end Go.Am
