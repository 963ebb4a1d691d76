/- Lemmas and contracts for the proof of a statement of this seat. -/
import Derived.Test.YthojegdboknbbaaGreatDoorZX1
import Derived.Test.YthojegdboknbbaaGreatDoorZX5
import Derived.Test.YthojegdboknbbaaGreatDoorZC1
set_option linter.unusedVariables false
set_option linter.unusedSimpArgs false
namespace Go.Am
open Go
structure HSt where
 best : Nat
 least : Nat
deriving DecidableEq
section
variable (n b : Nat) (P : List Cube) (lit : List Cube -> Nat) (take : HSt -> Nat -> Bool)
end
section
variable {n b : Nat} {P : List Cube} {lit : List Cube -> Nat} {take : HSt -> Nat -> Bool}
end
end Go.Am
namespace Go.Am
open Go Go.Proofs Go.Pn
end Go.Am
