/- Lemmas and contracts for the proof of a statement of this seat. -/
import Derived.Test.YtmfjjncfdpejiaaGreatDoorZCP
import Derived.Test.YtmfjjncfdpejiaaGreatDoorZC7
set_option linter.unusedVariables false
set_option linter.unusedSimpArgs false
namespace Go.Am
open Go Go.Proofs Go.Pn
theorem Jih {c : Circuit} (h : Jad c = 0) {i : Nat} {x : Part} (e : c.parts[i]? = some x) : Ja4 c x.name = i := by
 rcases Jgy c x.name with h1 | ⟨j, y, h1, h2, h3⟩
 . exfalso
   unfold Ja4 idxI at h1
   cases hf : c.parts.findIdx? fun q => decide (q.name = x.name) with
   | none => have := List.findIdx?_eq_none_iff.1 hf x (List.mem_of_getElem? e); simp at this
   | some k => rw [hf] at h1; simp at h1
 . rw [h1, Jr4 h h2 e h3]
theorem Ked {c : Circuit} {s : Txt} (h : Ja4 c s = -1) : ∀ x ∈ c.parts, x.name ≠ s := by
 intro x hx
 unfold Ja4 idxI at h
 cases hf : c.parts.findIdx? fun q => decide (q.name = s) with
 | none => have := List.findIdx?_eq_none_iff.1 hf x hx; simpa using this
 | some k => rw [hf] at h; simp at h
end Go.Am
namespace Go.Am
open Go Go.Proofs Go.Pn
end Go.Am
