/- Lemmas and contracts for the proof of a statement of this seat. -/
import Derived.Test.YtkofnocfackjiaaGreatDoorZCB
set_option linter.unusedVariables false
set_option linter.unusedSimpArgs false
/- Contracts: chapter 24, the reference: Once, Step, Flow. -/
namespace Go.Am
open Go Go.Proofs Go.Pn

end Go.Am
/- Contracts: chapter 24, the reference: Flow. -/
namespace Go.Am
open Go Go.Proofs Go.Pn

def flowB (c : Circuit) (l : List Int) (i : Nat) : Bool := (passAt c l i).any fun y => flowsB (prs c l).contains ⟨i, netN c i y.to, y.fr.map (netN c i), y.all⟩
def flowT (c : Circuit) (l : List Int) (k : Nat) : List Int := ((List.range k).filter (flowB c l)).map fun (i : Nat) => (i : Int)
def flowL (c : Circuit) (l : List Int) : List Int := flowT c l c.parts.length
theorem under_mkd {c : Circuit} {l : List Int} (h : checkQ c l = 0) : mkd (underL c l) = (prs c l).contains := by
  funext n
  by_cases hn : n < (nets c).length
  · simp [mkd, under_mk hn, -getElem?_pos]
  · rw [mkd, List.getElem?_eq_none (by rw [under_len]; omega)]
    simp only [Option.getD_none]
    symm
    rw [← Bool.not_eq_true, List.contains_iff_mem]
    exact fun hm => hn (prs_lt h n hm)
theorem pass_cases (c : Circuit) (l : List Int) (i : Int) : passAt c l i = [] ∨ ∃ y, passAt c l i = [y] := by
  have := @passed_len (kindAt c i).toNat (decide (posOf l i = 1))
  unfold passAt
  generalize passedOf (kindAt c i).toNat (decide (posOf l i = 1)) = L at this
  match L, this with
  | [], _ => exact .inl rfl
  | [y], _ => exact .inr ⟨y, rfl⟩
  | _ :: _ :: _, h => simp at h

end Go.Am
/- Contracts: chapter 24, the reference: Rest. -/
namespace Go.Am
open Go Go.Proofs Go.Pn

end Go.Am
