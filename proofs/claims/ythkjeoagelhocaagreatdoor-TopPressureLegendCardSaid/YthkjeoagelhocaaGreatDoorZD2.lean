/- Contracts: layout.Arrange. -/
import Derived.Test.YthkjeoagelhocaaGreatDoorZCX
import Derived.Test.YthkjeoagelhocaaGreatDoorZCA
set_option linter.unusedVariables false
set_option linter.unusedSimpArgs false
namespace Go.Am
open Go Go.Proofs Go.Pn
@[simp] def Kjj (b : Nat) (st : St) : Nat := match get st.s b with | some (.cells _ [[x]]) => nameOf x | _ => 0
