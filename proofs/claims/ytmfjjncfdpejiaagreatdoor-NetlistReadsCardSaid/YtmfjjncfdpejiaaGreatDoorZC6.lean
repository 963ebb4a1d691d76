/- Lemmas and contracts for the proof of a statement of this seat. -/
import Derived.Test.YtmfjjncfdpejiaaGreatDoorZC5
import Derived.Test.YtmfjjncfdpejiaaGreatDoorZA5
set_option linter.unusedVariables false
set_option linter.unusedSimpArgs false
namespace Go.Am
open Go Go.Proofs Go.Pn
end Go.Am
namespace Go.Am
open Go Go.Proofs Go.Pn
end Go.Am
namespace Go.Am
open Go Go.Proofs Go.Pn
end Go.Am
namespace Go.Am
open Go Go.Proofs Go.Pn
end Go.Am
namespace Go.Am
open Go Go.Proofs Go.Pn
end Go.Am
namespace Go.Am
open Go Go.Proofs Go.Pn
theorem J5w {ρ : List Nat} {b b' k : Nat} {rows : List (List AV)} (hb : ρ[b]? = some b') (h : renR ρ rows = some rows) : renS ρ [(b, accB k rows)] = some [(b', accB k rows)] := by
 unfold accB
 by_cases e : rows = []
 . simp [renS, e, hb]
 . simp [renS, e, hb, renB, h]
end Go.Am
namespace Go.Am
open Go Go.Proofs Go.Pn
end Go.Am
namespace Go.Am
open Go Go.Proofs Go.Pn
end Go.Am
namespace Go.Am
open Go Go.Proofs Go.Pn
theorem J1x {α : Type} {xs : List α} {q : α -> Bool} (h : idxI xs q = -1) : ∀ x ∈ xs, q x = false := by
 unfold idxI at h
 cases hf : xs.findIdx? q with
 | none => exact List.findIdx?_eq_none_iff.1 hf
 | some i => rw [hf] at h; simp at h
end Go.Am
namespace Go.Am
open Go Go.Proofs Go.Pn
theorem Jty {c : Circuit} (h : Jad c = 0) {k : Nat} {x y : Part} (hx : c.parts[k]? = some x) (hy : c.parts[k + 1]? = some y) : Op.bytesLess x.name y.name = true := by
 have hp : Jat (partAt c) c.parts.length = 0 := by unfold Jad at h; grind
 have hk : k + 1 < c.parts.length := (gsI.1 hy).1
 have h2 := Jfa hp hk
 unfold partAt at h2
 rw [hy] at h2
 simp only [Nat.add_sub_cancel, hx, Option.map_some, Option.getD_some] at h2
 split at h2
 . rename_i h3; exact (h3 h2).elim
 . split at h2
   . cases h2
   . rename_i h3
     have : ¬ ¬ Op.bytesLess x.name y.name = true := fun h4 => h3 ⟨by omega, h4⟩
     exact Decidable.not_not.1 this
theorem Jtx {c : Circuit} (h : Jad c = 0) : ∀ {d k : Nat} {x y : Part}, c.parts[k]? = some x -> c.parts[k + d + 1]? = some y -> Op.bytesLess x.name y.name = true
 | 0, k, x, y, hx, hy => Jty h hx hy
 | d + 1, k, x, y, hx, hy => by
   have hlt : k + d + 1 < c.parts.length := by
     have := (gsI.1 hy).1
     omega
   obtain ⟨z, hz⟩ := Jah hlt
   exact Jg1 (Jtx h hx hz) (Jty h hz hy)
theorem Jlf {c : Circuit} (h : Jad c = 0) {i j : Nat} {x y : Part} (hij : i < j) (hx : c.parts[i]? = some x) (hy : c.parts[j]? = some y) : Op.bytesLess x.name y.name = true := by
 obtain ⟨d, rfl⟩ := Nat.exists_eq_add_of_lt hij
 exact Jtx h hx hy
end Go.Am
namespace Go.Am
open Go Go.Proofs Go.Pn
theorem J40 {c : Circuit} (h : Jad c = 0) {i j : Nat} {x y : Part} (hx : c.parts[i]? = some x) (hy : c.parts[j]? = some y) (hn : x.name = y.name) : i = j := by
 rcases Nat.lt_trichotomy i j with hl | hl | hl
 . have := Jlf h hl hx hy
   rw [hn, Jeg] at this; cases this
 . exact hl
 . have := Jlf h hl hy hx
   rw [hn, Jeg] at this; cases this
end Go.Am
