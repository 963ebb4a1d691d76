/- Lemmas and contracts for the proof of a statement of this seat. -/
import Derived.Test.YtmfjjncfdpejiaaGreatDoorZCQ
import Derived.Test.YtmfjjncfdpejiaaGreatDoorZC6
set_option linter.unusedVariables false
set_option linter.unusedSimpArgs false
namespace Go.Am
open Go Go.Proofs Go.Pn
structure Plc where
 row : Int
 col : Int
 deriving DecidableEq
@[simp] def Plc.enc (p : Plc) : List PV := [.int .i64 p.row, .int .i64 p.col]
@[simp] def Plc.row_ (p : Plc) : List AV := [.p (.int .i64 p.row), .p (.int .i64 p.col)]
@[simp] def Plc.av (p : Plc) : AV := .agg [.p (.int .i64 p.row), .p (.int .i64 p.col)]
end Go.Am
namespace Go.Am
open Go Go.Proofs Go.Pn
end Go.Am
namespace Go.Am
open Go Go.Proofs Go.Pn
end Go.Am
namespace Go.Am
open Go Go.Proofs Go.Pn
end Go.Am
namespace Go.Am
open Go Go.Proofs Go.Pn
end Go.Am
namespace Go.Am
open Go Go.Proofs Go.Pn
end Go.Am
namespace Go.Am
open Go Go.Proofs Go.Pn
end Go.Am
namespace Go.Am
open Go Go.Proofs Go.Pn
end Go.Am
namespace Go.Am
open Go Go.Proofs Go.Pn
end Go.Am
namespace Go.Am
open Go Go.Proofs Go.Pn
end Go.Am
