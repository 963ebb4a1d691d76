/- Contracts: package netlist: ends, their order, names; strings.Cut at one byte; chapter 23. -/
import Derived.Test.YthkjeoagelhocaaGreatDoorZN1
import Derived.Test.YthkjeoagelhocaaGreatDoorZC6
set_option linter.unusedVariables false
set_option linter.unusedSimpArgs false
namespace Go.Am
open Go Go.Proofs Go.Pn
end Go.Am
