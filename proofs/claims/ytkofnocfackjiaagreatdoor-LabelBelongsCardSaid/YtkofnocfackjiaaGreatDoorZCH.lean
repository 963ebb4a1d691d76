/- Lemmas and contracts for the proof of a statement of this seat. -/
import Derived.Test.YtkofnocfackjiaaGreatDoorZCG
import Derived.Sort.Grow
import Derived.Shelf.SortM.Plain
import Derived.Shelf.SortM.SortNone
import Derived.Ground.SlgmProg
set_option linter.unusedVariables false
set_option linter.unusedSimpArgs false
/- slices.Sort at int: the bridge from the library's contract (the world behind it) to a call's contract. -/
namespace Go.Am
open Go Go.Proofs Go.Pn

theorem SR.ahead {G F φ s w} (h : SR G F φ s w) : ∀ n, SR G F φ s (Sort.ahead w n)
  | 0 => h
  | n + 1 => by rw [← Sort.ahead_drew]; exact (SR.ahead h n).drew
theorem step_ahead {own : Nat → Prop} {w : World} : ∀ n, Step own own w (Sort.ahead w n)
  | 0 => Step.refl _ _
  | n + 1 => by rw [← Sort.ahead_drew]; exact (step_ahead n).trans step_drew
theorem step_grow {own : Nat → Prop} {w : World} (os : Array Obj) : Step own own w (Sort.grow w os) where
  keep := fun β hβ ho => ⟨Sort.heap_grow_old w os hβ, ho⟩
  size := by simp [Sort.grow]
  shape := fun β arr T h => ⟨arr, by rw [Sort.heap_grow_old w os (Array.getElem?_eq_some_iff.1 h).1]; exact h, rfl⟩
  os := rfl
  tape := rfl
  output := rfl
theorem SR.grow {G F φ s w} (h : SR G F φ s w) (os : Array Obj) : SR G F φ s (Sort.grow w os) := by
  refine h.change (fun _ _ h => h) (step_grow os) (fun b x hb => .inl ⟨hb, fun p hp => ?_⟩) h.inj h.disj
  obtain ⟨p', h1, h2⟩ := (h.blk b x hb).place
  rw [hp] at h1; cases h1
  exact Sort.heap_grow_old w os h2

theorem putRow_turn {w : World} {g off : Nat} {ys : List Int} {arr : Array Value} {T : TypeId} (h0 : w.heap[g]? = some (Obj.cells arr T (0, 0))) :
    Sort.putRow (Value.int .i64) w g off ys.toArray = turnB w g (Sort.putCells (Value.int .i64) off ys.toArray arr) T := by
  unfold Sort.putRow Sort.mapBlock turnB
  congr 1
  apply Array.ext_getElem?
  intro k
  have hg := (Array.getElem?_eq_some_iff.1 h0).1
  rw [Array.getElem?_modify, Array.getElem?_setIfInBounds]
  by_cases e : g = k
  · subst e
    rw [if_pos rfl, if_pos rfl, if_pos hg, h0]
    rfl
  · rw [if_neg e, if_neg e]

theorem post_sorted {G : Globs} {F : Nat → Prop} {φ : Places} {s1 : Store} {w : World} {b nx g off n : Nat} {l ys : List Int} {arr : Array Value} {T : TypeId} {os : Array Obj} (hs : SR G F φ s1 w) (hb : get s1 b = some (.cells 1 (l.map Int.row)))
    (hφ : φ b = some (g, off)) (h0 : w.heap[g]? = some (Obj.cells arr T (0, 0))) (hlen : ys.length = l.length) (hsz : off + l.length ≤ arr.size) :
    Post G F φ s1 w (.tup []) [(b, some (.cells 1 (ys.map Int.row)))] nx nx (.tuple #[]) (Sort.grow (Sort.putRow (Value.int .i64) (Sort.ahead w n) g off ys.toArray) os) := by
  have h0' : (Sort.ahead w n).heap[g]? = some (Obj.cells arr T (0, 0)) := h0
  rw [putRow_turn h0']
  have ht := (hs.ahead n).turn (x := .cells 1 (ys.map Int.row)) (arr := Sort.putCells (Value.int .i64) off ys.toArray arr) hb hφ h0' (by simp [Sort.putCells]) (fun _ => by
    refine ⟨g, off, _, T, hφ, turnB_same (Array.getElem?_eq_some_iff.1 h0').1, fun i j row x hr hx => ?_⟩
    obtain ⟨hi, rfl⟩ : ∃ hi : i < ys.length, row = Int.row ys[i] := by
      obtain ⟨h1, h2⟩ := List.getElem?_eq_some_iff.1 hr
      rw [List.length_map] at h1
      exact ⟨h1, by rw [← h2]; simp⟩
    match j with
    | 0 =>
      simp at hx; subst hx
      refine ⟨by omega, .int .i64 ys[i], ?_, .p _ _ (.int _ _)⟩
      have hlt : off + i < arr.size := by omega
      simp [Sort.putCells, hlt, hi]
    | j + 1 => simp at hx)
  obtain ⟨h1, h2⟩ := ht
  refine ⟨φ, fun _ _ h => h, fun _ _ => rfl, h1.grow os, ?_, fun F' => (step_ahead n).trans ((h2 F').trans (step_grow os))⟩
  exact .tup [] [] rfl (by simp)

end Go.Am
/- slices.Sort at int. -/
namespace Go.Am
open Go Go.Proofs Go.Shelf

def sortRen : Ren := ⟨fun k => match k with | 5 => 69 | 8 => 99 | 7 => 109 | 19 => 155 | 20 => 156 | 10 => 173 | 11 => 174 | 12 => 175 | 13 => 176 | 14 => 177 | 15 => 178 | 16 => 179 | 17 => 180 | 18 => 181 | 30 => 217 | 31 => 206 | 32 => 207 | 33 => 218 | 34 => 219 | 35 => 157 | 40 => 246 | k => k, fun k => match k with | 23 => 37 | 25 => 3 | 3 => 3 | 32 => 168 | 22 => 37 | 0 => 0 | 44 => 224 | 46 => 226 | 4 => 4 | 36 => 217 | 35 => 216 | 41 => 221 | 5 => 5 | 9 => 9 | 53 => 265 | 57 => 269 | 63 => 296 | 64 => 54 | k => k, fun g => g⟩

set_option maxRecDepth 100000 in
theorem sortLays : SlLaysM.n5 Tryz.prog sortRen where
  mixed := by kernel_rfl
  f5 := ⟨_, by kernel_rfl, Tryz.func69⟩
  f7 := ⟨_, by kernel_rfl, Tryz.func109⟩
  f8 := (Tryz.func99).trans (by kernel_rfl)
  f10 := ⟨_, by kernel_rfl, Tryz.func173⟩
  f11 := ⟨_, by kernel_rfl, Tryz.func174⟩
  f12 := ⟨_, by kernel_rfl, Tryz.func175⟩
  f13 := ⟨_, by kernel_rfl, Tryz.func176⟩
  f14 := ⟨_, by kernel_rfl, Tryz.func177⟩
  f15 := ⟨_, by kernel_rfl, Tryz.func178⟩
  f16 := ⟨_, by kernel_rfl, Tryz.func179⟩
  f17 := ⟨_, by kernel_rfl, Tryz.func180⟩
  f18 := ⟨_, by kernel_rfl, Tryz.func181⟩
  f19 := (Tryz.func155).trans (by kernel_rfl)
  f20 := (Tryz.func156).trans (by kernel_rfl)
  f30 := ⟨_, by kernel_rfl, Tryz.func217⟩
  f31 := (Tryz.func206).trans (by kernel_rfl)
  f32 := (Tryz.func207).trans (by kernel_rfl)
  f33 := ⟨_, by kernel_rfl, Tryz.func218⟩
  f34 := ⟨_, by kernel_rfl, Tryz.func219⟩
  f35 := ⟨_, by kernel_rfl, Tryz.func157⟩
  f40 := ⟨_, by kernel_rfl, Tryz.func246⟩
  t0 := by kernel_rfl
  a0 := fun w => by kernel_rfl
  z0 := fun w => by kernel_rfl
  v0 := fun w => by kernel_rfl
  t3 := by kernel_rfl
  a3 := fun w => by kernel_rfl
  z3 := fun w => by kernel_rfl
  v3 := fun w => by kernel_rfl
  t4 := by kernel_rfl
  a4 := fun w => by kernel_rfl
  z4 := fun w => by kernel_rfl
  v4 := fun w => by kernel_rfl
  t5 := by kernel_rfl
  a5 := fun w => by kernel_rfl
  z5 := fun w => by kernel_rfl
  v5 := fun w => by kernel_rfl
  t9 := by kernel_rfl
  a9 := fun w => by kernel_rfl
  z9 := fun w => by kernel_rfl
  v9 := fun w => by kernel_rfl
  t22 := by kernel_rfl
  a22 := fun w => by kernel_rfl
  z22 := fun w => by kernel_rfl
  v22 := fun w => by kernel_rfl
  t23 := by kernel_rfl
  a23 := fun w => by kernel_rfl
  z23 := fun w => by kernel_rfl
  v23 := fun w => by kernel_rfl
  t25 := by kernel_rfl
  a25 := fun w => by kernel_rfl
  z25 := fun w => by kernel_rfl
  v25 := fun w => by kernel_rfl
  t32 := by kernel_rfl
  a32 := fun w => by kernel_rfl
  z32 := fun w => by kernel_rfl
  v32 := fun w => by kernel_rfl
  t35 := by kernel_rfl
  a35 := fun w => by kernel_rfl
  z35 := fun w => by kernel_rfl
  v35 := fun w => by kernel_rfl
  t36 := by kernel_rfl
  a36 := fun w => by kernel_rfl
  z36 := fun w => by kernel_rfl
  v36 := fun w => by kernel_rfl
  t41 := by kernel_rfl
  a41 := fun w => by kernel_rfl
  z41 := fun w => by kernel_rfl
  v41 := fun w => by kernel_rfl
  t44 := by kernel_rfl
  a44 := fun w => by kernel_rfl
  z44 := fun w => by kernel_rfl
  v44 := fun w => by kernel_rfl
  t46 := by kernel_rfl
  a46 := fun w => by kernel_rfl
  z46 := fun w => by kernel_rfl
  v46 := fun w => by kernel_rfl
  t53 := by kernel_rfl
  a53 := fun w => by kernel_rfl
  z53 := fun w => by kernel_rfl
  v53 := fun w => by kernel_rfl
  t57 := by kernel_rfl
  a57 := fun w => by kernel_rfl
  z57 := fun w => by kernel_rfl
  v57 := fun w => by kernel_rfl
  t63 := by kernel_rfl
  a63 := fun w => by kernel_rfl
  z63 := fun w => by kernel_rfl
  v63 := fun w => by kernel_rfl
  t64 := by kernel_rfl
  a64 := fun w => by kernel_rfl
  z64 := fun w => by kernel_rfl
  v64 := fun w => by kernel_rfl

end Go.Am

namespace Go.Am
open Go Go.Proofs Go.Pn

def sortI (l : List Int) : List Int := l.mergeSort fun x y => decide (x ≤ y)
theorem sortI_len {l : List Int} : (sortI l).length = l.length := by simp [sortI]

set_option maxRecDepth 100000 in
theorem g_SortI (l : List Int) (s : Store) (nx b : Nat) (c : Option Nat) (hg : get s b = some (.cells 1 (l.map Int.row))) (hl : l.length < 4611686018427387904) :
    Gives Tryz.prog GL 69 [.ref b 1 0 l.length c] s nx (.tup []) [b] [(b, some (.cells 1 ((sortI l).map Int.row)))] nx := by
  refine ⟨Nat.le_refl _, fun F φ s1 w vs hag hs hfr hlen hv => ?_⟩
  match vs, hlen with
  | [u], _ =>
    have hr := hv 0 _ u rfl rfl
    cases hr with
    | ref _ _ _ _ _ β δ cap hφ hc hn room =>
      obtain ⟨arr, T, h0, hsz⟩ := room
      have hg1 : get s1 b = some (.cells 1 (l.map Int.row)) := (hag b (by simp)).trans hg
      obtain ⟨β', δ', arr', T', k1, k2, k3⟩ := hs.blk b _ hg1
      rw [hφ] at k1
      cases k1
      rw [h0] at k2
      cases k2
      have hβ : β < w.heap.size := (Array.getElem?_eq_some_iff.1 h0).1
      have hH : Sort.Holds (Value.int .i64) w β (δ + 0 * 1) l.toArray := fun j hj => by
        have hj2 : j < l.length := by simpa using hj
        obtain ⟨_, v, h1, h2⟩ := k3 j 0 (Int.row l[j]) (.p (.int .i64 l[j])) (by simp [hj2]) rfl
        have e : v = .int .i64 l[j] := by cases h2 with | p x v h => cases h; rfl
        subst e
        simp only [Nat.mul_one, Nat.add_zero] at h1
        refine ⟨?_, ?_⟩
        · simp [World.cell?, h0, h1, hj2]
        · simp [World.frozen?, h0]
      have hcall := AnyM.slices_Sort_int sortLays β (δ + 0 * 1) cap l w hH hβ hl
      have eC : ∀ args w, (callFunc 69 args).run Tryz.prog w = .ok (.enter 69 args) w := enters_of Tryz.func69 (by kernel_rfl) rfl
      have eC2 := eC ⟨[.slice (some ⟨β, δ + 0 * 1, none⟩) l.length cap]⟩ w
      rw [eC2]
      refine Calls.mono hcall ?_
      rintro e w' ⟨rfl, n, os, rfl⟩
      refine ⟨_, rfl, ?_⟩
      simp only [Nat.zero_mul, Nat.add_zero, Nat.zero_add, Nat.mul_one] at hsz ⊢
      exact post_sorted hs hg1 hφ h0 sortI_len (by omega)

set_option maxRecDepth 100000 in
theorem g_SortI0 (s : Store) (nx : Nat) : Gives Tryz.prog GL 69 [.nils] s nx (.tup []) [] [] nx := by
  refine ⟨Nat.le_refl _, fun F φ s1 w vs hag hs hfr hlen hv => ?_⟩
  match vs, hlen with
  | [u], _ =>
    have hr := hv 0 _ u rfl rfl
    cases hr with
    | nils a =>
      have eC : ∀ args w, (callFunc 69 args).run Tryz.prog w = .ok (.enter 69 args) w := enters_of Tryz.func69 (by kernel_rfl) rfl
      have eC2 := eC ⟨[.slice a 0 0]⟩ w
      rw [eC2]
      refine Calls.mono (AnyM.slices_Sort_int_none sortLays a 0 w) ?_
      rintro e w' ⟨rfl, rfl⟩
      exact ⟨_, rfl, post_same hs (.tup [] [] rfl (by simp))⟩

end Go.Am
