/- The bridge: a finding. -/
import Derived.Test.YthkjeoagelhocaaGreatDoorZBrid
import Derived.Test.YthkjeoagelhocaaGreatDoorZCQ
set_option linter.unusedVariables false
set_option linter.unusedSimpArgs false
namespace Go.Am
open Go Go.Proofs Go.Pn
section
variable {H : Type} {enc : TypeId × Value -> H} {W : World} {own : Nat -> Prop}
end
end Go.Am
