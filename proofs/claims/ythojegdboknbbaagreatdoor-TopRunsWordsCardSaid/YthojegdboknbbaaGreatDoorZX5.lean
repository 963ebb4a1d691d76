/- Lemmas and contracts for the proof of a statement of this seat. -/
import Derived.Test.YthojegdboknbbaaGreatDoorZX4
import Derived.Test.YthojegdboknbbaaGreatDoorZCA
import Derived.Test.YthojegdboknbbaaGreatDoorZA7
set_option linter.unusedVariables false
set_option linter.unusedSimpArgs false
namespace Go.Am
open Go Go.Proofs Go.Pn
def ints (l : List Nat) : List Int := l.map fun (k : Nat) => (k : Int)
theorem Jp6 {l : List Nat} : l.map nrow = (ints l).map Int.row := by unfold ints; rw [List.map_map]; rfl
end Go.Am
namespace Go.Am
open Go Go.Proofs Go.Pn
end Go.Am
namespace Go.Am
open Go Go.Proofs Go.Pn
def bstC (o : Option (List Nat)) : ABlk := .cells 1 [[.p (.lst 1 ((o.getD []).map nenc))]]
def fndC (o : Option (List Nat)) : ABlk := .cells 1 [[.p (.bool o.isSome)]]
@[simp] theorem J38 {ρ : List Nat} {o : Option (List Nat)} : renB ρ (bstC o) = some (bstC o) := rfl
@[simp] theorem J4e {ρ : List Nat} {o : Option (List Nat)} : renB ρ (fndC o) = some (fndC o) := rfl
def intC (n : Nat) : ABlk := .cells 1 [[.p (.int .i64 n)]]
theorem Jcm {ρ : List Nat} {n : Nat} : renB ρ (intC n) = some (intC n) := rfl
end Go.Am
namespace Go.Am
open Go Go.Proofs Go.Pn
theorem Jzc {a b : Nat} : max (a : Int) (b : Int) = ((max a b : Nat) : Int) := by omega
end Go.Am
