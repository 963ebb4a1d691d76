/- Contracts: the laws PressurePorts, PressureSteps. -/
import Derived.Test.YtfcljeghfckabaaGreatDoorZCK
set_option linter.unusedVariables false
set_option linter.unusedSimpArgs false
namespace Go.Am
open Go Go.Proofs Go.Pn


/-- A port and the name of a part. -/
structure AskedV where
  port : Port
  nm : Txt
@[simp] def AskedV.av (x : AskedV) : AV := .agg [.p (.int .i64 x.port.part), .p (.str x.port.name), .p (.str x.nm)]

end Go.Am
