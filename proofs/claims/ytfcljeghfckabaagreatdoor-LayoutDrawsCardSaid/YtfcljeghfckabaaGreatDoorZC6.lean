/- Lemmas and contracts for the proof of a statement of this seat. -/
import Derived.Test.YtfcljeghfckabaaGreatDoorZC5
import Derived.Test.YtfcljeghfckabaaGreatDoorZA6
set_option linter.unusedVariables false
set_option linter.unusedSimpArgs false
/- Contracts: package circuit: Limits. -/
namespace Go.Am
open Go Go.Proofs Go.Pn

end Go.Am
/- Contracts: package circuit: moved. -/
namespace Go.Am
open Go Go.Proofs Go.Pn

end Go.Am
/- Contracts: package circuit: the functions that Add, Remove and Net hand over. -/
namespace Go.Am
open Go Go.Proofs Go.Pn

end Go.Am
/- Contracts: slices.BinarySearchFunc. -/
namespace Go.Am
open Go Go.Proofs Go.Pn


end Go.Am
/- Contracts: slices.BinarySearchFunc over pipes. -/
namespace Go.Am
open Go Go.Proofs Go.Pn


end Go.Am
/- Contracts: slices.Clone. -/
namespace Go.Am
open Go Go.Proofs Go.Pn


theorem renS_acc {ρ : List Nat} {b b' k : Nat} {rows : List (List AV)} (hb : ρ[b]? = some b') (h : renR ρ rows = some rows) : renS ρ [(b, accB k rows)] = some [(b', accB k rows)] := by
  unfold accB
  by_cases e : rows = []
  · simp [renS, e, hb]
  · simp [renS, e, hb, renB, h]


end Go.Am
/- Contracts: slices.Insert of one part. -/
namespace Go.Am
open Go Go.Proofs Go.Pn


end Go.Am
/- Contracts: slices.Insert of one pipe. -/
namespace Go.Am
open Go Go.Proofs Go.Pn


end Go.Am
/- Contracts: slices.Delete of one part; slices.DeleteFunc over pipes. -/
namespace Go.Am
open Go Go.Proofs Go.Pn


theorem idxI_neg {α : Type} {xs : List α} {q : α → Bool} (h : idxI xs q = -1) : ∀ x ∈ xs, q x = false := by
  unfold idxI at h
  cases hf : xs.findIdx? q with
  | none => exact List.findIdx?_eq_none_iff.1 hf
  | some i => rw [hf] at h; simp at h
theorem idxI_pos {α : Type} {xs : List α} {q : α → Bool} (h : ¬ idxI xs q = -1) : ∃ (k : Nat) (x : α), idxI xs q = k ∧ xs[k]? = some x ∧ q x = true ∧ ∀ (j : Nat) y, j < k → xs[j]? = some y → q y = false := by
  cases hf : xs.findIdx? q with
  | none => rw [idxI, hf] at h; exact (h rfl).elim
  | some i =>
    obtain ⟨h1, h2, h3⟩ := List.findIdx?_eq_some_iff_getElem.1 hf
    refine ⟨i, xs[i], by rw [idxI, hf], List.getElem?_eq_getElem h1, h2, fun j y hj hy => ?_⟩
    have := h3 j hj
    obtain ⟨hj1, rfl⟩ := List.getElem?_eq_some_iff.1 hy
    simpa using this

end Go.Am
/- Contracts: package circuit: Add. -/
namespace Go.Am
open Go Go.Proofs Go.Pn


end Go.Am
/- Contracts: package circuit: Remove. -/
namespace Go.Am
open Go Go.Proofs Go.Pn


end Go.Am
