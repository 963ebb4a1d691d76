/- Lemmas and contracts for the proof of a statement of this seat. -/
import Derived.Test.YtmfjjncfdpejiaaGreatDoorZCG
import Derived.Sort.Grow
import Derived.Shelf.SortM.Plain
import Derived.Shelf.SortM.SortNone
import Derived.Ground.SlgmProg
set_option linter.unusedVariables false
set_option linter.unusedSimpArgs false
namespace Go.Am
open Go Go.Proofs Go.Pn
theorem SR.ahead {G F φ s w} (h : SR G F φ s w) : ∀ n, SR G F φ s (Sort.ahead w n)
 | 0 => h
 | n + 1 => by rw [<- Sort.ahead_drew]; exact (SR.ahead h n).drew
theorem J1u {own : Nat -> Prop} {w : World} : ∀ n, Step own own w (Sort.ahead w n)
 | 0 => Step.refl _ _
 | n + 1 => by rw [<- Sort.ahead_drew]; exact (J1u n).trans Jlz
theorem J1x {own : Nat -> Prop} {w : World} (os : Array Obj) : Step own own w (Sort.grow w os) where
 keep := fun β hβ ho => ⟨Sort.heap_grow_old w os hβ, ho⟩
 size := by simp [Sort.grow]
 shape := fun β arr T h => ⟨arr, by rw [Sort.heap_grow_old w os (Array.getElem?_eq_some_iff.1 h).1]; exact h, rfl⟩
 os := rfl
 tape := rfl
 output := rfl
theorem SR.grow {G F φ s w} (h : SR G F φ s w) (os : Array Obj) : SR G F φ s (Sort.grow w os) := by
 refine h.change (fun _ _ h => h) (J1x os) (fun b x hb => .inl ⟨hb, fun p hp => ?_⟩) h.inj h.disj
 obtain ⟨p', h1, h2⟩ := (h.blk b x hb).place
 rw [hp] at h1; cases h1
 exact Sort.heap_grow_old w os h2
end Go.Am
namespace Go.Am
open Go Go.Proofs Go.Shelf
end Go.Am
namespace Go.Am
open Go Go.Proofs Go.Pn
end Go.Am
