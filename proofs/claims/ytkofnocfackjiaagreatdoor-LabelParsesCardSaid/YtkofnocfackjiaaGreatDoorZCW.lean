/- Plain facts for the laws InspectDriven, InspectPipes. -/
import Derived.Test.YtkofnocfackjiaaGreatDoorZCU
import Derived.Test.YtkofnocfackjiaaGreatDoorZCJ
import Derived.Test.YtkofnocfackjiaaGreatDoorZCR
set_option linter.unusedVariables false
set_option linter.unusedSimpArgs false
namespace Go.Am
open Go Go.Proofs Go.Pn

end Go.Am
