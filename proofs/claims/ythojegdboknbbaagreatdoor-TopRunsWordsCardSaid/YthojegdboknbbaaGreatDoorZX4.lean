/- Lemmas and contracts for the proof of a statement of this seat. -/
import Derived.Test.YthojegdboknbbaaGreatDoorZX3
import Derived.Test.YthojegdboknbbaaGreatDoorZC1
set_option linter.unusedVariables false
set_option linter.unusedSimpArgs false
namespace Go.Am
open Go Go.Proofs Go.Pn
@[simp] def Tsk.work (x : Tsk) : AV := .iptr 5 [[.int .i64 x.n, .int .u64 x.on, .int .i64 x.n, .int .u64 x.free, .lst 2 ((J1h x).map Cube.enc)]] 0 0
@[simp] def nrow (k : Nat) : List AV := [.p (.int .i64 k)]
@[simp] def nenc (k : Nat) : List PV := [.int .i64 k]
end Go.Am
namespace Go.Am
open Go Go.Proofs Go.Pn
end Go.Am
namespace Go.Am
open Go Go.Proofs Go.Pn
def zeros : List Nat := List.replicate 64 0
end Go.Am
namespace Go.Am
open Go Go.Proofs Go.Pn
end Go.Am
namespace Go.Am
open Go Go.Proofs Go.Pn
end Go.Am
namespace Go.Am
open Go Go.Proofs Go.Pn
end Go.Am
namespace Go.Am
open Go Go.Proofs Go.Pn
end Go.Am
namespace Go.Am
open Go Go.Proofs Go.Pn
end Go.Am
namespace Go.Am
open Go Go.Proofs Go.Pn
def outI (b1 : Nat) (l : List Nat) : ABlk := .cells 1 [[.acc b1 1 l.length]]
@[simp] theorem J4c {b : Nat} {l : List Nat} : Jh4 (outI b l) = b := rfl
theorem Jaw {ρ : List Nat} {L : List Nat} : (match accB 1 (L.map nrow) with
   | some y => Jaj (renB ρ y) fun y' => accB 1 (L.map nrow) = some y'
   | none => True) := by
 by_cases h : L = []
 . subst h; exact trivial
 . have e : accB 1 (L.map nrow) = some (.cells 1 (L.map nrow)) := by simp [accB, h]
   have e3 : renB ρ (.cells 1 (L.map nrow)) = some (.cells 1 (L.map nrow)) := by show (renR _ _).map _ = _; rw [Jao fun x => rfl]; rfl
   rw [e]
   simp [-renB, e3]
end Go.Am
namespace Go.Am
open Go Go.Proofs
theorem Jd0 {ρ : List Nat} {k : Nat} {rows : List (List AV)} : renB ρ (.cells k rows) = (renR ρ rows).map (.cells k) := rfl
end Go.Am
