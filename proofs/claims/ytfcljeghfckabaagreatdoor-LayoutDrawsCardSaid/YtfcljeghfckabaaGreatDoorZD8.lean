/- Plain: places in order are right; places moved aside or mirrored; chapter 25. -/
import Derived.Test.YtfcljeghfckabaaGreatDoorZD3
set_option linter.unusedVariables false
set_option linter.unusedSimpArgs false
namespace Go.Am
open Go Go.Proofs Go.Pn

end Go.Am
