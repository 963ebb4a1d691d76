/- The bridge of round 5: two texts in a row. -/
import Derived.Test.YthkjeoagelhocaaGreatDoorZBrid4
import Derived.OpenShut
set_option linter.unusedVariables false
set_option linter.unusedSimpArgs false
namespace Go.Am
open Go Go.Proofs Go.Pn
section
variable {H : Type} {enc : TypeId × Value -> H} {W : World} {own : Nat -> Prop}
end
end Go.Am
