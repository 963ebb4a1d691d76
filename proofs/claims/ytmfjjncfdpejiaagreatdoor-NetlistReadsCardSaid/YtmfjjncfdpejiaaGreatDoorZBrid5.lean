/- The bridge of chapter 25: places, numbers, lines. -/
import Derived.Test.YtmfjjncfdpejiaaGreatDoorZBrid
import Derived.Test.YtmfjjncfdpejiaaGreatDoorZCX
set_option linter.unusedVariables false
set_option linter.unusedSimpArgs false
namespace Go.Am
open Go Go.Proofs Go.Pn
section
variable {H : Type} {enc : TypeId × Value -> H} {W : World} {own : Nat -> Prop}
end
end Go.Am
