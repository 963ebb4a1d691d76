/- Contracts: the library's sort, at texts, for at most twelve. -/
import Derived.Test.YthojegdboknbbaaGreatDoorZC1
set_option linter.unusedVariables false
set_option linter.unusedSimpArgs false
namespace Go.Am
open Go Go.Proofs Go.Pn
@[simp] theorem J5w {n : Nat} {r : List AV} {x : List PV} (h : unpL r = some x) : unpR (List.replicate n r) = some (List.replicate n x) := by
 induction n with
 | zero => rfl
 | succ n ih => simp [List.replicate_succ, unpR, h, ih]
@[simp] theorem J43 {ρ : List Nat} {n : Nat} {r : List AV} (h : Ja5 r = true) : renR ρ (List.replicate n r) = some (List.replicate n r) := by
 induction n with
 | zero => rfl
 | succ n ih => simp [List.replicate_succ, renR, Jrt h, ih]
end Go.Am
