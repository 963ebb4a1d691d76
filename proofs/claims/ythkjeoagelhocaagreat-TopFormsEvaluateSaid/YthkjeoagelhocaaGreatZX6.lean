/- The bridge of the forms: tables and bytes. -/
import Derived.Test.YthkjeoagelhocaaGreatZX2
import Derived.ProofKit
import Derived.OpenShut
import Derived.Carry
import Derived.SizedLaws
import Derived.ChangeShapes
set_option linter.unusedVariables false
set_option linter.unusedSimpArgs false
namespace Go.Am
open Go Go.Proofs Go.Pn

section
variable {H : Type} {enc : TypeId × Value → H} {W : World} {own : Nat → Prop}
theorem cells3 : (Tryz.prog).cellsOf 3 = 1 := by kernel_rfl
end
end Go.Am
