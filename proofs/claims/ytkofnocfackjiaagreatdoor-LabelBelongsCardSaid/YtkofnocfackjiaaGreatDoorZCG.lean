/- Lemmas and contracts for the proof of a statement of this seat. -/
import Derived.Test.YtkofnocfackjiaaGreatDoorZCF
set_option linter.unusedVariables false
set_option linter.unusedSimpArgs false
/- Contracts: package pressure: states. -/
namespace Go.Am
open Go Go.Proofs Go.Pn


end Go.Am
/- The states as the program finds them are the states. -/
namespace Go.Am
open Go Go.Proofs Go.Pn

end Go.Am
/- Contracts: package pressure: Nets, At, Push. -/
namespace Go.Am
open Go Go.Proofs Go.Pn

end Go.Am
/- Contracts: package pressure: Flow. -/
namespace Go.Am
open Go Go.Proofs Go.Pn


end Go.Am
/- Contracts: package pressure: step. -/
namespace Go.Am
open Go Go.Proofs Go.Pn


@[simp] theorem range6_0 : (List.range 6)[0]? = some 0 := rfl
@[simp] theorem range6_1 : (List.range 6)[1]? = some 1 := rfl
@[simp] theorem range6_2 : (List.range 6)[2]? = some 2 := rfl
@[simp] theorem range6_3 : (List.range 6)[3]? = some 3 := rfl
@[simp] theorem range6_4 : (List.range 6)[4]? = some 4 := rfl
@[simp] theorem range6_5 : (List.range 6)[5]? = some 5 := rfl
end Go.Am
