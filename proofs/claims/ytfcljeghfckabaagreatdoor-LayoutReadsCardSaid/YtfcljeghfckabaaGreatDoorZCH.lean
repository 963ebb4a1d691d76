/- slices.Sort at int: the bridge from the library's contract (the world behind it) to a call's contract. -/
import Derived.Test.YtfcljeghfckabaaGreatDoorZCG
import Derived.Sort.Grow
set_option linter.unusedVariables false
set_option linter.unusedSimpArgs false
namespace Go.Am
open Go Go.Proofs Go.Pn

theorem SR.ahead {G F φ s w} (h : SR G F φ s w) : ∀ n, SR G F φ s (Sort.ahead w n)
  | 0 => h
  | n + 1 => by rw [← Sort.ahead_drew]; exact (SR.ahead h n).drew
theorem step_ahead {own : Nat → Prop} {w : World} : ∀ n, Step own own w (Sort.ahead w n)
  | 0 => Step.refl _ _
  | n + 1 => by rw [← Sort.ahead_drew]; exact (step_ahead n).trans step_drew
theorem step_grow {own : Nat → Prop} {w : World} (os : Array Obj) : Step own own w (Sort.grow w os) where
  keep := fun β hβ ho => ⟨Sort.heap_grow_old w os hβ, ho⟩
  size := by simp [Sort.grow]
  shape := fun β arr T h => ⟨arr, by rw [Sort.heap_grow_old w os (Array.getElem?_eq_some_iff.1 h).1]; exact h, rfl⟩
  os := rfl
  tape := rfl
  output := rfl
theorem SR.grow {G F φ s w} (h : SR G F φ s w) (os : Array Obj) : SR G F φ s (Sort.grow w os) := by
  refine h.change (fun _ _ h => h) (step_grow os) (fun b x hb => .inl ⟨hb, fun p hp => ?_⟩) h.inj h.disj
  obtain ⟨p', h1, h2⟩ := (h.blk b x hb).place
  rw [hp] at h1; cases h1
  exact Sort.heap_grow_old w os h2

theorem putRow_turn {w : World} {g off : Nat} {ys : List Int} {arr : Array Value} {T : TypeId} (h0 : w.heap[g]? = some (Obj.cells arr T (0, 0))) :
    Sort.putRow (Value.int .i64) w g off ys.toArray = turnB w g (Sort.putCells (Value.int .i64) off ys.toArray arr) T := by
  unfold Sort.putRow Sort.mapBlock turnB
  congr 1
  apply Array.ext_getElem?
  intro k
  have hg := (Array.getElem?_eq_some_iff.1 h0).1
  rw [Array.getElem?_modify, Array.getElem?_setIfInBounds]
  by_cases e : g = k
  · subst e
    rw [if_pos rfl, if_pos rfl, if_pos hg, h0]
    rfl
  · rw [if_neg e, if_neg e]

theorem post_sorted {G : Globs} {F : Nat → Prop} {φ : Places} {s1 : Store} {w : World} {b nx g off n : Nat} {l ys : List Int} {arr : Array Value} {T : TypeId} {os : Array Obj} (hs : SR G F φ s1 w) (hb : get s1 b = some (.cells 1 (l.map Int.row)))
    (hφ : φ b = some (g, off)) (h0 : w.heap[g]? = some (Obj.cells arr T (0, 0))) (hlen : ys.length = l.length) (hsz : off + l.length ≤ arr.size) :
    Post G F φ s1 w (.tup []) [(b, some (.cells 1 (ys.map Int.row)))] nx nx (.tuple #[]) (Sort.grow (Sort.putRow (Value.int .i64) (Sort.ahead w n) g off ys.toArray) os) := by
  have h0' : (Sort.ahead w n).heap[g]? = some (Obj.cells arr T (0, 0)) := h0
  rw [putRow_turn h0']
  have ht := (hs.ahead n).turn (x := .cells 1 (ys.map Int.row)) (arr := Sort.putCells (Value.int .i64) off ys.toArray arr) hb hφ h0' (by simp [Sort.putCells]) (fun _ => by
    refine ⟨g, off, _, T, hφ, turnB_same (Array.getElem?_eq_some_iff.1 h0').1, fun i j row x hr hx => ?_⟩
    obtain ⟨hi, rfl⟩ : ∃ hi : i < ys.length, row = Int.row ys[i] := by
      obtain ⟨h1, h2⟩ := List.getElem?_eq_some_iff.1 hr
      rw [List.length_map] at h1
      exact ⟨h1, by rw [← h2]; simp⟩
    match j with
    | 0 =>
      simp at hx; subst hx
      refine ⟨by omega, .int .i64 ys[i], ?_, .p _ _ (.int _ _)⟩
      have hlt : off + i < arr.size := by omega
      simp [Sort.putCells, hlt, hi]
    | j + 1 => simp at hx)
  obtain ⟨h1, h2⟩ := ht
  refine ⟨φ, fun _ _ h => h, fun _ _ => rfl, h1.grow os, ?_, fun F' => (step_ahead n).trans ((h2 F').trans (step_grow os))⟩
  exact .tup [] [] rfl (by simp)

end Go.Am
