/- Lemmas and contracts for the proof of a statement of this seat. -/
import Derived.Test.YtmfjjncfdpejiaaGreatDoorZC5
import Derived.Test.YtmfjjncfdpejiaaGreatDoorZA5
set_option linter.unusedVariables false
set_option linter.unusedSimpArgs false
namespace Go.Am
open Go Go.Proofs Go.Pn
end Go.Am
namespace Go.Am
open Go Go.Proofs Go.Pn
end Go.Am
namespace Go.Am
open Go Go.Proofs Go.Pn
end Go.Am
namespace Go.Am
open Go Go.Proofs Go.Pn
end Go.Am
namespace Go.Am
open Go Go.Proofs Go.Pn
end Go.Am
namespace Go.Am
open Go Go.Proofs Go.Pn
theorem Ji3 {ρ : List Nat} {b b' k : Nat} {rows : List (List AV)} (hb : ρ[b]? = some b') (h : renR ρ rows = some rows) : renS ρ [(b, accB k rows)] = some [(b', accB k rows)] := by
 unfold accB
 by_cases e : rows = []
 . simp [renS, e, hb]
 . simp [renS, e, hb, renB, h]
end Go.Am
namespace Go.Am
open Go Go.Proofs Go.Pn
theorem Jiz {l : List Part} : ∀ r ∈ l.map Part.row, r.length = 3 := fun r hr => by
 obtain ⟨q, _, rfl⟩ := List.mem_map.1 hr
 rfl
theorem J4r {l : List Part} {i : Nat} : ∀ r ∈ (l.map Part.row).drop i, ∀ c ∈ r, AV.oneCell c = true := fun r hr c hc => by
 obtain ⟨q, _, rfl⟩ := List.mem_map.1 (List.mem_of_mem_drop hr)
 simp at hc
 rcases hc with rfl | rfl | rfl <;> rfl
end Go.Am
namespace Go.Am
open Go Go.Proofs Go.Pn
theorem Ji0 {l : List Pipe} : ∀ r ∈ l.map Pipe.row, r.length = 4 := fun r hr => by
 obtain ⟨q, _, rfl⟩ := List.mem_map.1 hr
 rfl
theorem J4s {l : List Pipe} {i : Nat} : ∀ r ∈ (l.map Pipe.row).drop i, ∀ c ∈ r, AV.oneCell c = true := fun r hr c hc => by
 obtain ⟨q, _, rfl⟩ := List.mem_map.1 (List.mem_of_mem_drop hr)
 simp at hc
 rcases hc with rfl | rfl | rfl | rfl <;> rfl
end Go.Am
namespace Go.Am
open Go Go.Proofs Go.Pn
theorem J08 {α : Type} {xs : List α} {q : α -> Bool} (h : idxI xs q = -1) : ∀ x ∈ xs, q x = false := by
 unfold idxI at h
 cases hf : xs.findIdx? q with
 | none => exact List.findIdx?_eq_none_iff.1 hf
 | some i => rw [hf] at h; simp at h
end Go.Am
namespace Go.Am
open Go Go.Proofs Go.Pn
theorem Jtt {c : Circuit} (h : Jaf c = 0) {k : Nat} {x y : Part} (hx : c.parts[k]? = some x) (hy : c.parts[k + 1]? = some y) : Op.bytesLess x.name y.name = true := by
 have hp : Jav (partAt c) c.parts.length = 0 := by unfold Jaf at h; grind
 have hk : k + 1 < c.parts.length := (gsI.1 hy).1
 have h2 := Je1 hp hk
 unfold partAt at h2
 rw [hy] at h2
 simp only [Nat.add_sub_cancel, hx, Option.map_some, Option.getD_some] at h2
 split at h2
 . rename_i h3; exact (h3 h2).elim
 . split at h2
   . cases h2
   . rename_i h3
     have : ¬ ¬ Op.bytesLess x.name y.name = true := fun h4 => h3 ⟨by omega, h4⟩
     exact Decidable.not_not.1 this
theorem Jtr {c : Circuit} (h : Jaf c = 0) : ∀ {d k : Nat} {x y : Part}, c.parts[k]? = some x -> c.parts[k + d + 1]? = some y -> Op.bytesLess x.name y.name = true
 | 0, k, x, y, hx, hy => Jtt h hx hy
 | d + 1, k, x, y, hx, hy => by
   have hlt : k + d + 1 < c.parts.length := by
     have := (gsI.1 hy).1
     omega
   obtain ⟨z, hz⟩ := Jag hlt
   exact Jgy (Jtr h hx hz) (Jtt h hz hy)
theorem Jts {c : Circuit} (h : Jaf c = 0) {i j : Nat} {x y : Part} (hij : i < j) (hx : c.parts[i]? = some x) (hy : c.parts[j]? = some y) : Op.bytesLess x.name y.name = true := by
 obtain ⟨d, rfl⟩ := Nat.exists_eq_add_of_lt hij
 exact Jtr h hx hy
end Go.Am
namespace Go.Am
open Go Go.Proofs Go.Pn
end Go.Am
