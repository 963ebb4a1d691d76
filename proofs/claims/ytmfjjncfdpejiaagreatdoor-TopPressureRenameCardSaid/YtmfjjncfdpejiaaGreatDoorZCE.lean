/- Lemmas and contracts for the proof of a statement of this seat. -/
import Derived.Test.YtmfjjncfdpejiaaGreatDoorZCB
set_option linter.unusedVariables false
set_option linter.unusedSimpArgs false
namespace Go.Am
open Go Go.Proofs Go.Pn
end Go.Am
namespace Go.Am
open Go Go.Proofs Go.Pn
theorem Jz9 (c : Circuit) (l : List Int) (i : Int) : Jea c l i = [] \/ ∃ y, Jea c l i = [y] := by
 have := @Keh (Jal c i).toNat (decide (Jdk l i = 1))
 unfold Jea
 generalize Jeb (Jal c i).toNat (decide (Jdk l i = 1)) = L at this
 match L, this with
 | [], _ => exact .inl rfl
 | [y], _ => exact .inr ⟨y, rfl⟩
 | _ :: _ :: _, h => simp at h
end Go.Am
namespace Go.Am
open Go Go.Proofs Go.Pn
end Go.Am
