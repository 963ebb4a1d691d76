/- Contracts: package circuit: Net; the law CircuitNets. -/
import Derived.Test.YtfcljeghfckabaaGreatDoorZC8
set_option linter.unusedVariables false
set_option linter.unusedSimpArgs false
namespace Go.Am
open Go Go.Proofs Go.Pn


end Go.Am
