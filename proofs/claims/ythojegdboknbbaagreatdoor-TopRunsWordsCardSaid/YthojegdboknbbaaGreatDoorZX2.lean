/- Lemmas and contracts for the proof of a statement of this seat. -/
import Derived.Test.YthojegdboknbbaaGreatDoorZC1
import Derived.Test.YthojegdboknbbaaGreatDoorZX1
import Derived.Test.YthojegdboknbbaaGreatDoorZA7
set_option linter.unusedVariables false
set_option linter.unusedSimpArgs false
namespace Go.Am
open Go Go.Proofs Go.Pn
@[simp] def Cube.enc (c : Cube) : List PV := [.int .u64 c.care, .int .u64 c.value]
@[simp] def Cube.row (c : Cube) : List AV := [.p (.int .u64 c.care), .p (.int .u64 c.value)]
@[simp] def Cube.av (c : Cube) : AV := .agg [.p (.int .u64 c.care), .p (.int .u64 c.value)]
@[simp] def Tsk.av (x : Tsk) : AV := .agg [.p (.int .i64 x.n), .p (.int .u64 x.on), .p (.int .i64 x.n), .p (.int .u64 x.free)]
def p2 (n : Nat) : Nat := 2 ^ n
@[simp] theorem J34 : IntKind.i64.bits = 64 := rfl
@[simp] theorem J35 : IntKind.u64.bits = 64 := rfl
theorem J3r {n : Nat} (h : n < 2 ^ 62) : IntKind.i64.wrap (n : Int) = n := wrap_i64 (by omega) (by omega)
end Go.Am
namespace Go.Am
open Go Go.Proofs Go.Pn
theorem Jhv {ρ : List Nat} {s' : Store} {b k : Nat} {α : Type} {f : α -> List AV} (hf : ∀ x, Ja5 (f x) = true) {D : List α} (h : (ρ[b]?).bind (get s') = accB k (D.map f)) : Jcr ρ s' b (accB k (D.map f)) :=
 of_eq_true (Jds h (Jao hf))
end Go.Am
namespace Go.Am
open Go Go.Proofs Go.Pn
def whole (n : Nat) : Nat := p2 (p2 n) - 1
def tabC (n o : Nat) : ABlk := .cells 2 [[.p (.int .i64 n), .p (.int .u64 o)]]
@[simp] theorem J5c {ρ : List Nat} {n o : Nat} : renB ρ (tabC n o) = some (tabC n o) := rfl
end Go.Am
namespace Go.Am
open Go Go.Proofs Go.Pn
end Go.Am
namespace Go.Am
open Go Go.Proofs Go.Pn
def Jh4 : ABlk -> Nat
 | .cells _ [[x]] => nameOf x
 | _ => 0
@[simp] def Jh5 (b : Nat) (st : St) : Nat := match get st.s b with | some x => Jh4 x | none => 0
def outB (b2 : Nat) (l : List Cube) : ABlk := .cells 1 [[.acc b2 2 l.length]]
@[simp] theorem J4a {b : Nat} {l : List Cube} : Jh4 (outB b l) = b := rfl
end Go.Am
namespace Go.Am
open Go Go.Proofs Go.Pn
end Go.Am
