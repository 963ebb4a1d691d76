/- Plain: where groups come from; chapter 26. -/
import Derived.Test.YtkofnocfackjiaaGreatDoorZF1
import Derived.Test.YtkofnocfackjiaaGreatDoorZCW
import Derived.Test.YtkofnocfackjiaaGreatDoorZF3
set_option linter.unusedVariables false
set_option linter.unusedSimpArgs false
namespace Go.Am
open Go Go.Proofs Go.Pn

end Go.Am
