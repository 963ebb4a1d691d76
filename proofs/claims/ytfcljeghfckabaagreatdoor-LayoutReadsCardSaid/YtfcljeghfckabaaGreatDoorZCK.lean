/- Lemmas and contracts for the proof of a statement of this seat. -/
import Derived.Test.YtfcljeghfckabaaGreatDoorZCJ
import Derived.Test.YtfcljeghfckabaaGreatDoorZC7
set_option linter.unusedVariables false
set_option linter.unusedSimpArgs false
/- Contracts: the awake examples of chapter 24. -/
namespace Go.Am
open Go Go.Proofs Go.Pn


section
variable {P : Program} {G : Globs} {N n0 : Nat}
@[simp] theorem thenQ_normal {K : St → Prop} {Q : Exit → St → Prop} {st : St} : thenQ K Q .normal st = K st := rfl
end

end Go.Am
/- Contracts: the laws PressureNets, PressurePorts, PressureSteps. -/
namespace Go.Am
open Go Go.Proofs Go.Pn


end Go.Am
