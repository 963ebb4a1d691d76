/- Contracts: the laws CircuitChecks and CircuitChanges. -/
import Derived.Test.YtebnpnkcoibooaaGreatDoorZC7
set_option linter.unusedVariables false
set_option linter.unusedSimpArgs false
namespace Go.Am
open Go Go.Proofs Go.Pn


theorem empty_sized : Sized ⟨[], []⟩ := ⟨by simp, by simp, by simp⟩
end Go.Am
