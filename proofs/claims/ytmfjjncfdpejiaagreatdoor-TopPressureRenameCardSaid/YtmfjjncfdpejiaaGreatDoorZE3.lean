/- Contracts: the reference's fields of a line; chapter 25. -/
import Derived.Test.YtmfjjncfdpejiaaGreatDoorZCX
set_option linter.unusedVariables false
set_option linter.unusedSimpArgs false
namespace Go.Am
open Go Go.Proofs Go.Pn
end Go.Am
