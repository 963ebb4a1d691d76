/- Lemmas and contracts for the proof of a statement of this seat. -/
import Derived.Test.YthkjeoagelhocaaGreatZC5
import Derived.Test.YthkjeoagelhocaaGreatZA5
set_option linter.unusedVariables false
set_option linter.unusedSimpArgs false
/- Contracts: package circuit: Limits. -/
namespace Go.Am
open Go Go.Proofs Go.Pn

end Go.Am
/- Contracts: package circuit: moved. -/
namespace Go.Am
open Go Go.Proofs Go.Pn

end Go.Am
/- Contracts: package circuit: the functions that Add, Remove and Net hand over. -/
namespace Go.Am
open Go Go.Proofs Go.Pn

end Go.Am
/- Contracts: slices.BinarySearchFunc. -/
namespace Go.Am
open Go Go.Proofs Go.Pn


end Go.Am
/- Contracts: slices.BinarySearchFunc over pipes. -/
namespace Go.Am
open Go Go.Proofs Go.Pn


end Go.Am
/- Contracts: slices.Clone. -/
namespace Go.Am
open Go Go.Proofs Go.Pn


theorem renS_acc {ρ : List Nat} {b b' k : Nat} {rows : List (List AV)} (hb : ρ[b]? = some b') (h : renR ρ rows = some rows) : renS ρ [(b, accB k rows)] = some [(b', accB k rows)] := by
  unfold accB
  by_cases e : rows = []
  · simp [renS, e, hb]
  · simp [renS, e, hb, renB, h]


end Go.Am
/- Contracts: slices.Insert of one part. -/
namespace Go.Am
open Go Go.Proofs Go.Pn


end Go.Am
/- Contracts: slices.Insert of one pipe. -/
namespace Go.Am
open Go Go.Proofs Go.Pn


end Go.Am
/- Contracts: slices.Delete of one part; slices.DeleteFunc over pipes. -/
namespace Go.Am
open Go Go.Proofs Go.Pn


end Go.Am
/- Contracts: package circuit: Add. -/
namespace Go.Am
open Go Go.Proofs Go.Pn


end Go.Am
/- Contracts: package circuit: Remove. -/
namespace Go.Am
open Go Go.Proofs Go.Pn


end Go.Am
