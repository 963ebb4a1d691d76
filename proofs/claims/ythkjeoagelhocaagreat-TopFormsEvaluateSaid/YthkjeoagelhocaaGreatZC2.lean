/- Contracts: the library's sort, at texts, for at most twelve. -/
import Derived.Test.YthkjeoagelhocaaGreatZC1
set_option linter.unusedVariables false
set_option linter.unusedSimpArgs false
namespace Go.Am
open Go Go.Proofs Go.Pn


@[simp] theorem renR_replicate {ρ : List Nat} {n : Nat} {r : List AV} (h : pureL r = true) : renR ρ (List.replicate n r) = some (List.replicate n r) := by
  induction n with
  | zero => rfl
  | succ n ih => simp [List.replicate_succ, renR, renL_pure h, ih]

end Go.Am
