/- Sorting by a strict order, in plain Lean; ports by names; circuits of drafts; chapter 23. -/
import Derived.Test.YthojegdboknbbaaGreatDoorZCP
set_option linter.unusedVariables false
set_option linter.unusedSimpArgs false
namespace Go.Am
open Go Go.Proofs Go.Pn
section
variable {α : Type} {lt : α -> α -> Bool}
end
structure End where
 part : Txt
 port : Txt
 deriving DecidableEq
@[simp] def End.enc (a : End) : List PV := [.str a.part, .str a.port]
@[simp] def End.row (a : End) : List AV := [.p (.str a.part), .p (.str a.port)]
@[simp] def End.av (a : End) : AV := .agg [.p (.str a.part), .p (.str a.port)]
abbrev EndP := End × End
@[simp] def EndP.enc (x : EndP) : List PV := [.str x.1.part, .str x.1.port, .str x.2.part, .str x.2.port]
@[simp] def EndP.row (x : EndP) : List AV := [.p (.str x.1.part), .p (.str x.1.port), .p (.str x.2.part), .p (.str x.2.port)]
@[simp] def EndP.av (x : EndP) : AV := .agg [.p (.str x.1.part), .p (.str x.1.port), .p (.str x.2.part), .p (.str x.2.port)]
end Go.Am
