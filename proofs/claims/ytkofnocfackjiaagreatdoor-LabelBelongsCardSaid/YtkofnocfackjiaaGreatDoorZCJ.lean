/- Lemmas and contracts for the proof of a statement of this seat. -/
import Derived.Test.YtkofnocfackjiaaGreatDoorZCH
import Derived.Test.YtkofnocfackjiaaGreatDoorZC7
import Derived.Test.YtkofnocfackjiaaGreatDoorZCR
set_option linter.unusedVariables false
set_option linter.unusedSimpArgs false
/- Contracts: slices.Compact, slices.Clone at int. -/
namespace Go.Am
open Go Go.Proofs Go.Pn


end Go.Am
/- Contracts: package pressure: Rest. -/
namespace Go.Am
open Go Go.Proofs Go.Pn


end Go.Am
/- Contracts: the awake examples of chapter 24. -/
namespace Go.Am
open Go Go.Proofs Go.Pn


section
variable {P : Program} {G : Globs} {N n0 : Nat}
@[simp] theorem thenQ_normal {K : St → Prop} {Q : Exit → St → Prop} {st : St} : thenQ K Q .normal st = K st := rfl
end

end Go.Am
/- Contracts: the laws PressureNets, PressurePorts, PressureSteps. -/
namespace Go.Am
open Go Go.Proofs Go.Pn


end Go.Am
/- Contracts: the laws PressurePorts, PressureSteps. -/
namespace Go.Am
open Go Go.Proofs Go.Pn


structure AskedV where
  port : Port
  nm : Txt
@[simp] def AskedV.av (x : AskedV) : AV := .agg [.p (.int .i64 x.port.part), .p (.str x.port.name), .p (.str x.nm)]

end Go.Am
/- Plain facts for the laws PressureCauses, PressureRests. -/
namespace Go.Am
open Go Go.Proofs Go.Pn

end Go.Am
/- Plain facts for the law PressureCauses. -/
namespace Go.Am
open Go Go.Proofs Go.Pn

end Go.Am
/- Contracts: the law PressureRests. -/
namespace Go.Am
open Go Go.Proofs Go.Pn


end Go.Am
/- Contracts: the law PressureGrows. -/
namespace Go.Am
open Go Go.Proofs Go.Pn

end Go.Am
