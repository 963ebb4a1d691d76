/- Lemmas and contracts for the proof of a statement of this seat. -/
import Derived.Test.YthojegdboknbbaaGreatDoorZC6
import Derived.Test.YthojegdboknbbaaGreatDoorZS2
import Derived.Test.YthojegdboknbbaaGreatDoorZA5
set_option linter.unusedVariables false
set_option linter.unusedSimpArgs false
namespace Go.Am
open Go Go.Proofs Go.Pn
end Go.Am
namespace Go.Am
open Go Go.Proofs Go.Pn
end Go.Am
namespace Go.Am
open Go Go.Proofs Go.Pn
@[simp] theorem zs3 : Jd9 Tryz.prog 3 = some false := by kernel_rfl
@[simp] theorem J4h {z v : AV} : hit true z (some v) = .tup [v, .p (.bool true)] := (rfl)
@[simp] theorem J4g {z : AV} : hit true z none = .tup [z, .p (.bool false)] := (rfl)
@[simp] theorem Ka0 {b s : Nat} {td : TD} {x : AV} : zeroV ⟨false, s, b, [x], td⟩ = x := (rfl)
end Go.Am
namespace Go.Am
open Go Go.Proofs Go.Pn
end Go.Am
namespace Go.Am
open Go Go.Proofs Go.Pn
end Go.Am
namespace Go.Am
open Go Go.Proofs Go.Pn
end Go.Am
namespace Go.Am
open Go Go.Proofs Go.Pn
end Go.Am
