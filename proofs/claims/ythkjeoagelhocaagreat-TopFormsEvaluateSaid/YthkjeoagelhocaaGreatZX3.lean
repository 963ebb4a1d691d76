/- Lemmas and contracts for the proof of a statement of this seat. -/
import Derived.Test.YthkjeoagelhocaaGreatZX2
import Derived.Test.YthkjeoagelhocaaGreatZCA
import Derived.Test.YthkjeoagelhocaaGreatZA7
import Derived.Shelf.SortM.Plain
import Derived.Shelf.SlLaysF0
import Derived.Ground.SlgmProg
import Derived.Shelf.SlSortCmp.NoneTotal
import Derived.WalkMore
import Derived.WalkSpells
import Derived.Deep.RegionHeld3
import Derived.Sort.Grow
import Derived.Test.YthkjeoagelhocaaGreatZN1
set_option linter.unusedVariables false
set_option linter.unusedSimpArgs false
/- Contracts: slices.SortFunc at cubes; chapter 6. -/
namespace Go.Am
open Go Go.Proofs Go.Shelf Go.RowKit Go.Lib Go.Sort Go.Pn

def sfcC_ren : Ren := ⟨fun k => match k with | 6 => 132 | 15 => 40 | 14 => 143 | 28 => 82 | 29 => 83 | 20 => 146 | 21 => 147 | 22 => 148 | 23 => 149 | 24 => 150 | 25 => 151 | 26 => 152 | 27 => 153 | 46 => 154 | 47 => 122 | 48 => 123 | 49 => 155 | 50 => 156 | 57 => 157 | k => k, fun k => match k with | 22 => 31 | 24 => 49 | 25 => 177 | 3 => 3 | 39 => 47 | 0 => 0 | 53 => 119 | 55 => 25 | 4 => 4 | 46 => 135 | 45 => 134 | 50 => 140 | 5 => 5 | 9 => 9 | 66 => 163 | 70 => 166 | 76 => 178 | 77 => 179 | k => k, fun k => k⟩
set_option maxRecDepth 100000 in
theorem sfcC : SlLaysF0.n6 Tryz.prog sfcC_ren where
  mixed := by kernel_rfl
  f6 := ⟨_, by kernel_rfl, Tryz.func132⟩
  f14 := ⟨_, by kernel_rfl, Tryz.func143⟩
  f15 := (Tryz.func40).trans (by kernel_rfl)
  f20 := ⟨_, by kernel_rfl, Tryz.func146⟩
  f21 := ⟨_, by kernel_rfl, Tryz.func147⟩
  f22 := ⟨_, by kernel_rfl, Tryz.func148⟩
  f23 := ⟨_, by kernel_rfl, Tryz.func149⟩
  f24 := ⟨_, by kernel_rfl, Tryz.func150⟩
  f25 := ⟨_, by kernel_rfl, Tryz.func151⟩
  f26 := ⟨_, by kernel_rfl, Tryz.func152⟩
  f27 := ⟨_, by kernel_rfl, Tryz.func153⟩
  f28 := (Tryz.func82).trans (by kernel_rfl)
  f29 := (Tryz.func83).trans (by kernel_rfl)
  f46 := ⟨_, by kernel_rfl, Tryz.func154⟩
  f47 := (Tryz.func122).trans (by kernel_rfl)
  f48 := (Tryz.func123).trans (by kernel_rfl)
  f49 := ⟨_, by kernel_rfl, Tryz.func155⟩
  f50 := ⟨_, by kernel_rfl, Tryz.func156⟩
  f57 := ⟨_, by kernel_rfl, Tryz.func157⟩
  t0 := by kernel_rfl
  a0 := fun w => by kernel_rfl
  z0 := fun w => by kernel_rfl
  v0 := fun w => by kernel_rfl
  t3 := by kernel_rfl
  a3 := fun w => by kernel_rfl
  z3 := fun w => by kernel_rfl
  v3 := fun w => by kernel_rfl
  t4 := by kernel_rfl
  a4 := fun w => by kernel_rfl
  z4 := fun w => by kernel_rfl
  v4 := fun w => by kernel_rfl
  t5 := by kernel_rfl
  a5 := fun w => by kernel_rfl
  z5 := fun w => by kernel_rfl
  v5 := fun w => by kernel_rfl
  t9 := by kernel_rfl
  a9 := fun w => by kernel_rfl
  z9 := fun w => by kernel_rfl
  v9 := fun w => by kernel_rfl
  t22 := by kernel_rfl
  a22 := fun w => by kernel_rfl
  z22 := fun w => by kernel_rfl
  v22 := fun w => by kernel_rfl
  t25 := by kernel_rfl
  a25 := fun w => by kernel_rfl
  z25 := fun w => by kernel_rfl
  v25 := fun w => by kernel_rfl
  t39 := by kernel_rfl
  a39 := fun w => by kernel_rfl
  z39 := fun w => by kernel_rfl
  v39 := fun w => by kernel_rfl
  t45 := by kernel_rfl
  a45 := fun w => by kernel_rfl
  z45 := fun w => by kernel_rfl
  v45 := fun w => by kernel_rfl
  t46 := by kernel_rfl
  a46 := fun w => by kernel_rfl
  z46 := fun w => by kernel_rfl
  v46 := fun w => by kernel_rfl
  t50 := by kernel_rfl
  a50 := fun w => by kernel_rfl
  z50 := fun w => by kernel_rfl
  v50 := fun w => by kernel_rfl
  t53 := by kernel_rfl
  a53 := fun w => by kernel_rfl
  z53 := fun w => by kernel_rfl
  v53 := fun w => by kernel_rfl
  t55 := by kernel_rfl
  a55 := fun w => by kernel_rfl
  z55 := fun w => by kernel_rfl
  v55 := fun w => by kernel_rfl
  t66 := by kernel_rfl
  a66 := fun w => by kernel_rfl
  z66 := fun w => by kernel_rfl
  v66 := fun w => by kernel_rfl
  t70 := by kernel_rfl
  a70 := fun w => by kernel_rfl
  z70 := fun w => by kernel_rfl
  v70 := fun w => by kernel_rfl
  t76 := by kernel_rfl
  a76 := fun w => by kernel_rfl
  z76 := fun w => by kernel_rfl
  v76 := fun w => by kernel_rfl
  t77 := by kernel_rfl
  a77 := fun w => by kernel_rfl
  z77 := fun w => by kernel_rfl
  v77 := fun w => by kernel_rfl

end Go.Am
/- Contracts in the kit's own words: the comparing of two cubes, whose world is known; chapter 6. -/
namespace Go.Am
open Go Go.Proofs Go.Shelf Go.RowKit Go.Lib Go.Sort Go.Pn

set_option maxHeartbeats 1000000 in
theorem kC_or (a b : Int) (blk cap : Nat) (w : World) (h0 : w.cell? ⟨blk, 0, none⟩ = some (.int .i64 a)) (h1 : w.cell? ⟨blk, 1, none⟩ = some (.int .i64 b)) :
    Calls Tryz.prog 41 #[.slice (some ⟨blk, 0, none⟩) 2 cap] w fun e w' => e = .returned (.int .i64 (orI [a, b])) ∧ w' = w := by
  go_enter Tryz.func41, Tryz.ntmps41
  go_wp2
  go_loopg [8] 2 (fun g v8 wx => wx = w ∧ ((g = 2 ∧ v8 = .int .i64 0) ∨ (g = 1 ∧ v8 = .int .i64 1 ∧ a = 0) ∨ (g = 0 ∧ v8 = .int .i64 2 ∧ a = 0 ∧ b = 0)))
  case atStart => exact ⟨rfl, .inl ⟨rfl, rfl⟩⟩
  case round =>
    obtain ⟨rfl, ⟨rfl, rfl⟩ | ⟨rfl, rfl, ha⟩ | ⟨rfl, rfl, ha, hb⟩⟩ := hrel
    · by_cases ha : a = 0
      · subst ha
        go_wp2
        go_roundg 1
        case measure => omega
        case rel => simp
      · have ha2 : (a != 0) = true := by simpa using ha
        go_wp2
        go_ret
        exact ⟨by simp [orI, ha], rfl⟩
    · subst ha
      by_cases hb : b = 0
      · subst hb
        go_wp2
        go_roundg 0
        case measure => omega
        case rel => simp
      · have hb2 : (b != 0) = true := by simpa using hb
        go_wp2
        go_ret
        exact ⟨by simp [orI, hb], rfl⟩
    · go_wp2
      go_ret
      exact ⟨by simp [orI, ha, hb], rfl⟩

theorem cellC_one (w : World) (T : Array Value) (U : TypeId) (i : Nat) (v : Value) (h : T[i]? = some v) : (w.alloc (Obj.cells T U)).cell? ⟨w.heap.size, i, none⟩ = some v := by
  have : (w.alloc (Obj.cells T U)).heap[w.heap.size]? = some (Obj.cells T U) := Array.getElem?_push_size
  unfold World.cell?
  simp only [this]
  simpa using h
theorem cellC_old (w : World) (x : Obj) (a : Addr) (v : Value) (h : w.cell? a = some v) : (w.alloc x).cell? a = some v := by
  have hb : a.block < w.heap.size := by
    apply Decidable.byContradiction
    intro hn
    unfold World.cell? at h
    rw [Array.getElem?_eq_none (by omega)] at h
    cases h
  have : (w.alloc x).heap[a.block]? = w.heap[a.block]? := Array.getElem?_push_lt hb |>.trans (Array.getElem?_eq_getElem hb).symm
  unfold World.cell? at h ⊢
  rw [this]; exact h

theorem grownC_more (w : World) (q : Nat) (os : Array Obj) (o : Obj) : ((Go.Sort.grow (w.drewN q) os).alloc o).drew = Go.Sort.grow (w.drewN (q + 1)) (os ++ #[o]) := by
  rw [alloc_eq_grow, grow_grow]; rfl

def cmpU (a b : Nat) : Int := if a < b then -1 else if b < a then 1 else 0
set_option maxHeartbeats 1000000 in
theorem kC_compare (a b : Nat) (w : World) : Calls Tryz.prog 134 #[.int .u64 a, .int .u64 b] w fun e w' => e = .returned (.int .i64 (cmpU a b)) ∧ w' = w := by
  go_enter Tryz.func134, Tryz.ntmps134
  go_wp2
  all_goals go_ret
  all_goals refine ⟨?_, rfl⟩
  all_goals (unfold cmpU; simp [*])
def cmpC (a b : Cube) : Int := orI [cmpU a.care b.care, cmpU a.value b.value]
set_option maxHeartbeats 1000000 in
theorem kC_primes1 (a b : Cube) (w : World) : Calls Tryz.prog 133 #[.agg #[.int .u64 a.care, .int .u64 a.value], .agg #[.int .u64 b.care, .int .u64 b.value]] w fun e w' => e = .returned (.int .i64 (cmpC a b)) ∧ ∃ q os', w' = Go.Sort.grow (w.drewN q) os' := by
  have hc := fun (x y : Nat) W => kC_compare x y W
  have hor : ∀ (x y : Int) (w : World) (U : TypeId), Calls Tryz.prog 41 #[.slice (some ⟨w.heap.size, 0, none⟩) 2 2] ((w.drew).alloc (Obj.cells #[.int .i64 x, .int .i64 y] U)) fun e w' => e = .returned (.int .i64 (orI [x, y])) ∧ w' = (w.drew).alloc (Obj.cells #[.int .i64 x, .int .i64 y] U) :=
    fun x y w U => kC_or x y _ 2 _ (cellC_one w.drew _ _ _ _ rfl) (cellC_one w.drew _ _ _ _ rfl)
  go_enter Tryz.func133, Tryz.ntmps133
  go_wp2
  have s1 := cellC_old _ (Obj.cells #[Value.int .u64 b.care, Value.int .u64 b.value] 49) _ _ (cellC_one w #[Value.int .u64 a.care, Value.int .u64 a.value] 49 0 _ rfl)
  have s2 := cellC_old _ (Obj.cells #[Value.int .u64 b.care, Value.int .u64 b.value] 49) _ _ (cellC_one w #[Value.int .u64 a.care, Value.int .u64 a.value] 49 1 _ rfl)
  have s3 := cellC_one (w.alloc (Obj.cells #[Value.int .u64 a.care, Value.int .u64 a.value] 49)) #[Value.int .u64 b.care, Value.int .u64 b.value] 49 0 _ rfl
  have s4 := cellC_one (w.alloc (Obj.cells #[Value.int .u64 a.care, Value.int .u64 a.value] 49)) #[Value.int .u64 b.care, Value.int .u64 b.value] 49 1 _ rfl
  have e1 : (w.alloc (Obj.cells #[Value.int .u64 a.care, Value.int .u64 a.value] 49)).heap.size = w.heap.size + 1 := Array.size_push _
  rw [e1] at s3 s4
  have hW : ∃ q os', (w.alloc (Obj.cells #[Value.int .u64 a.care, Value.int .u64 a.value] 49)).alloc (Obj.cells #[Value.int .u64 b.care, Value.int .u64 b.value] 49) = Go.Sort.grow (w.drewN q) os' := ⟨0, _, by rw [alloc_eq_grow, alloc_eq_grow, grow_grow]; rfl⟩
  generalize (w.alloc (Obj.cells #[Value.int .u64 a.care, Value.int .u64 a.value] 49)).alloc (Obj.cells #[Value.int .u64 b.care, Value.int .u64 b.value] 49) = W at s1 s2 s3 s4 hW ⊢
  generalize w.heap.size = n1 at s1 s2 s3 s4 ⊢
  go_region_held3 (fun w' => w'.cell? ⟨n1, 0, none⟩ = some (.int .u64 a.care) ∧ w'.cell? ⟨n1, 1, none⟩ = some (.int .u64 a.value) ∧ w'.cell? ⟨n1 + 1, 0, none⟩ = some (.int .u64 b.care) ∧ w'.cell? ⟨n1 + 1, 1, none⟩ = some (.int .u64 b.value))
    (first | exact ⟨s1, s2, s3, s4⟩ | go_keep)
    (first | (go_at_call 134; refine (hc _ _ _).mono ?_; rintro e w' ⟨rfl, rfl⟩) | (go_at_call 41; refine (hor _ _ _ _).mono ?_; rintro e w' ⟨rfl, rfl⟩))
  go_wp2
  go_ret
  obtain ⟨q, os', rfl⟩ := hW
  exact ⟨by simp [cmpC], _, _, grownC_more _ _ _ _⟩
end Go.Am
/- Contracts: slices.SortFunc at cubes leaves what is in order; implicant.Primes; chapter 6. -/
namespace Go.Am
open Go Go.Proofs Go.Pn

def cubeLt (a b : Cube) : Bool := decide (a.care < b.care ∨ a.care = b.care ∧ a.value < b.value)
theorem sto_cubes : STO cubeLt := by
  refine ⟨fun x => ?_, fun {x y z} h k => ?_, fun {x y} h k => ?_⟩
  · unfold cubeLt; simp
  · unfold cubeLt at *; simp only [decide_eq_true_eq] at *; omega
  · unfold cubeLt at *
    simp only [decide_eq_false_iff_not] at *
    obtain ⟨a, b⟩ := x
    obtain ⟨c, d⟩ := y
    simp only [Cube.mk.injEq] at *
    omega
theorem cmpC_lt {a b : Cube} : cmpC a b < 0 ↔ cubeLt a b = true := by
  unfold cmpC cubeLt cmpU
  simp only [orI, decide_eq_true_eq]
  split <;> split <;> (try split) <;> (try split) <;> (try split) <;> omega
theorem swo_cubes : Sort.SWO (ltOf cmpC) ∧ (∀ x y, (ltOf cmpC) x y = false → (ltOf cmpC) y x = false → x = y) ∧ ltOf cmpC = cubeLt := by
  have e : ltOf cmpC = cubeLt := by
    funext x y
    unfold ltOf
    rw [Bool.eq_iff_iff, decide_eq_true_eq]
    exact cmpC_lt
  rw [e]
  refine ⟨⟨sto_cubes.irrefl, fun x y z h k => sto_cubes.trans h k, fun x y z h k => ?_⟩, fun x y h k => sto_cubes.total h k, rfl⟩
  cases e2 : cubeLt x z with
  | false => rfl
  | true =>
    cases e3 : cubeLt y x with
    | true => rw [sto_cubes.trans e3 e2] at k; cases k
    | false =>
      have := sto_cubes.total h e3
      subst this
      rw [k] at e2; cases e2
def encC (x : Cube) : List Value := [Value.int .u64 x.care, .int .u64 x.value]
instance : Inhabited Cube := ⟨⟨0, 0⟩⟩
theorem encC_at {x : Cube} {j : Nat} {a : AV} (h : (Cube.row x)[j]? = some a) : j < 2 ∧ ∃ t : Nat, a = .p (.int .u64 t) ∧ (encC x)[j]! = .int .u64 t := by
  match j with
  | 0 => simp at h; subst h; exact ⟨by omega, _, rfl, rfl⟩
  | 1 => simp at h; subst h; exact ⟨by omega, _, rfl, rfl⟩
  | j + 2 => simp at h
theorem encC_get {x : Cube} {j : Nat} (h : j < 2) : ∃ t : Nat, (Cube.row x)[j]? = some (.p (.int .u64 t)) ∧ (encC x)[j]! = .int .u64 t := by
  match j, h with
  | 0, _ => exact ⟨_, rfl, rfl⟩
  | 1, _ => exact ⟨_, rfl, rfl⟩
theorem cmpLaysC (blk off size : Nat) (w : World) : CmpLays Tryz.prog 133 #[] encC 2 cmpC blk off size w :=
  fun _ _ _ _ x y => kC_primes1 x y _
theorem putRowC_turn {α : Type} [Inhabited α] {enc : α → Value} {w : World} {g off : Nat} {d : Array α} {arr : Array Value} {T : TypeId} (h0 : w.heap[g]? = some (Obj.cells arr T (0, 0))) :
    Sort.putRow enc w g off d = turnB w g (Sort.putCells enc off d arr) T := by
  unfold Sort.putRow Sort.mapBlock turnB
  congr 1
  apply Array.ext_getElem?
  intro k
  have hg := (Array.getElem?_eq_some_iff.1 h0).1
  rw [Array.getElem?_modify, Array.getElem?_setIfInBounds]
  by_cases e : g = k
  · subst e
    rw [if_pos rfl, if_pos rfl, if_pos hg, h0]
    rfl
  · rw [if_neg e, if_neg e]

theorem post_rowsC {α : Type} [Inhabited α] {enc : α → Value} {G : Globs} {F : Nat → Prop} {φ : Places} {s1 : Store} {w : World} {b nx g off n k : Nat} {R0 R : List (List AV)} {d : Array α} {arr : Array Value} {T : TypeId} {os : Array Obj} (hs : SR G F φ s1 w) (hb : get s1 b = some (.cells k R0))
    (hφ : φ b = some (g, off)) (h0 : w.heap[g]? = some (Obj.cells arr T (0, 0))) (hsz : off + d.size ≤ arr.size)
    (hv : ∀ (i j : Nat) row x, R[i]? = some row → row[j]? = some x → j < k ∧ i * k + j < d.size ∧ ∀ (own : Nat → Prop) (w : World), VR φ own w x (enc d[i * k + j]!)) :
    Post G F φ s1 w (.tup []) [(b, some (.cells k R))] nx nx (.tuple #[]) (Sort.grow (Sort.putRow enc (Sort.ahead w n) g off d) os) := by
  have h0' : (Sort.ahead w n).heap[g]? = some (Obj.cells arr T (0, 0)) := h0
  rw [putRowC_turn h0']
  have ht := (hs.ahead n).turn (x := .cells k R) (arr := Sort.putCells enc off d arr) hb hφ h0' (by simp [Sort.putCells]) (fun _ => by
    refine ⟨g, off, _, T, hφ, turnB_same (Array.getElem?_eq_some_iff.1 h0').1, fun i j row x hr hx => ?_⟩
    obtain ⟨h1, h2, h3⟩ := hv i j row x hr hx
    refine ⟨h1, enc d[i * k + j]!, ?_, h3 _ _⟩
    have hlt : off + (i * k + j) < arr.size := by omega
    have e : off + i * k + j = off + (i * k + j) := by omega
    rw [e]
    simp only [Sort.putCells]
    rw [Array.getElem?_mapIdx, Array.getElem?_eq_getElem hlt, Option.map_some, if_pos ⟨by omega, by omega⟩, Nat.add_sub_cancel_left])
  obtain ⟨h1, h2⟩ := ht
  refine ⟨φ, fun _ _ h => h, fun _ _ => rfl, h1.grow os, ?_, fun F' => (step_ahead n).trans ((h2 F').trans (step_grow os))⟩
  exact .tup [] [] rfl (by simp)

set_option maxRecDepth 100000 in
theorem g_SortC1 (l : List Cube) (s : Store) (nx b : Nat) (c : Option Nat) (hg : get s b = some (.cells 2 (l.map Cube.row))) (hl : l.length < 1000000) :
    Gives Tryz.prog GL 132 [.ref b 2 0 l.length c, .fn (.func 133) []] s nx (.tup []) [b] [(b, some (.cells 2 ((isortB cubeLt l).map Cube.row)))] nx := by
  refine ⟨Nat.le_refl _, fun F φ s1 w vs hag hs hfr hlen hv => ?_⟩
  match vs, hlen with
  | [u, v], _ =>
    have hr := hv 0 _ u rfl rfl
    obtain ⟨vs2, rfl, hv2⟩ := (hv 1 _ v rfl rfl).fn_inv
    have hv3 : vs2 = [] := List.length_eq_zero_iff.1 (by have := hv2.1; simpa using this)
    subst hv3
    cases hr with
    | ref _ _ _ _ _ β δ cap hφ hc hn room =>
      obtain ⟨arr, T, h0, hsz⟩ := room
      have hg1 : get s1 b = some (.cells 2 (l.map Cube.row)) := (hag b (by simp)).trans hg
      obtain ⟨β', δ', arr', T', k1, k2, k3⟩ := hs.blk b _ hg1
      rw [hφ] at k1
      cases k1
      rw [h0] at k2
      cases k2
      have hβ : β < w.heap.size := (Array.getElem?_eq_some_iff.1 h0).1
      have hH : Sort.HoldsK encC 2 w β (δ + 0 * 2) l.toArray := fun t ht => by
        have ht2 : t < l.length * 2 := by simpa using ht
        have hd : t / 2 < l.length := by omega
        obtain ⟨tx, hrow, he⟩ := encC_get (x := l[t / 2]) (j := t % 2) (by omega)
        obtain ⟨_, v, h1, h2⟩ := k3 (t / 2) (t % 2) (Cube.row l[t / 2]) _ (by simp [hd]) hrow
        have e : v = .int .u64 tx := h2.int_inv
        subst e
        have e2 : δ + t / 2 * 2 + t % 2 = δ + t := by omega
        rw [e2] at h1
        rw [Sort.get_flatK encC 2 l.toArray t (by simpa using ht)]
        have e3 : l.toArray[t / 2]! = l[t / 2] := by simp [hd]
        rw [e3, he]
        simp only [Nat.zero_mul, Nat.add_zero]
        refine ⟨?_, ?_⟩
        · simp [World.cell?, h0, h1]
        · simp [World.frozen?, h0]
      have eg : ∀ args w, (callFunc 133 args).run Tryz.prog w = .ok (.enter 133 args) w := enters_of Tryz.func133 (by kernel_rfl) rfl
      have hcall := AnyQ.slices_SortFunc_total sfcC 2 (fun w => by kernel_rfl) (fun w => by kernel_rfl) encC (fun _ => rfl) (fun x v hv => by simp [encC] at hv; rcases hv with rfl | rfl <;> rfl) cmpC swo_cubes.1 133 #[] β (δ + 0 * 2) cap l.toArray w eg (cmpLaysC β (δ + 0 * 2) l.toArray.size w) hH hβ (by simp; omega) swo_cubes.2.1
      have eC : ∀ args w, (callFunc 132 args).run Tryz.prog w = .ok (.enter 132 args) w := enters_of Tryz.func132 (by kernel_rfl) rfl
      have eC2 := eC ⟨[.slice (some ⟨β, δ + 0 * 2, none⟩) l.length cap, .func (.func 133) #[] ⟨[]⟩]⟩ w
      rw [eC2]
      refine Calls.mono hcall ?_
      rintro e w' ⟨rfl, n, os, rfl⟩
      refine ⟨_, rfl, ?_⟩
      simp only [Nat.zero_mul, Nat.add_zero, Nat.zero_add] at hsz ⊢
      rw [swo_cubes.2.2]
      have em : (l.toArray.toList.mergeSort fun x y => !cubeLt y x) = isortB cubeLt l := isortB_merge sto_cubes
      rw [em]
      unfold Go.Proofs.sortWorldK Sort.putRowK
      refine post_rowsC hs hg1 hφ h0 (by simp [isortB_len]; omega) fun i j row x hr hx => ?_
      obtain ⟨h1, h2⟩ := List.getElem?_eq_some_iff.1 hr
      rw [List.length_map] at h1
      have e : row = Cube.row (isortB cubeLt l)[i] := by rw [← h2]; simp
      subst e
      obtain ⟨hj, tx, rfl, he⟩ := encC_at hx
      have hlt : i * 2 + j < (isortB cubeLt l).toArray.size * 2 := by simp; omega
      refine ⟨hj, by simpa using hlt, fun own w => ?_⟩
      rw [Sort.get_flatK _ _ _ _ hlt, show (i * 2 + j) / 2 = i by omega, show (i * 2 + j) % 2 = j by omega]
      have e3 : (isortB cubeLt l).toArray[i]! = (isortB cubeLt l)[i] := by simp [h1]
      rw [e3]
      show VR φ own w _ ((encC _)[j]!)
      rw [he]
      exact .p _ _ (.int _ _)

set_option maxRecDepth 100000 in
theorem g_SortC0 (s : Store) (nx : Nat) : Gives Tryz.prog GL 132 [.nils, .fn (.func 133) []] s nx (.tup []) [] [] nx := by
  refine ⟨Nat.le_refl _, fun F φ s1 w vs hag hs hfr hlen hv => ?_⟩
  match vs, hlen with
  | [u, v], _ =>
    have hr := hv 0 _ u rfl rfl
    cases hr with
    | nils a =>
      have eC : ∀ args w, (callFunc 132 args).run Tryz.prog w = .ok (.enter 132 args) w := enters_of Tryz.func132 (by kernel_rfl) rfl
      have eC2 := eC ⟨[.slice a 0 0, v]⟩ w
      rw [eC2]
      refine Calls.mono (AnyF.slices_SortFunc_none sfcC a 0 v w) ?_
      rintro e w' ⟨rfl, rfl⟩
      exact ⟨_, rfl, post_same hs (.tup [] [] rfl (by simp))⟩

end Go.Am
/- Contracts: implicant.CheckTask, Primes; chapter 6. -/
namespace Go.Am
open Go Go.Proofs Go.Pn

theorem g_SortCA (l : List Cube) (s : Store) (nx b : Nat) (hg : get s b = accB 2 (l.map Cube.row)) (hl : l.length < 1000000) (hb : b < nx) :
    Gives Tryz.prog GL 132 [.acc b 2 l.length, .fn (.func 133) []] s nx (.tup []) [b] [(b, accB 2 ((isortB cubeLt l).map Cube.row))] nx := by
  by_cases h : l = []
  · subst h
    refine Gives.more (rd := []) (up := []) (Gives.of_acc (fun _ => g_SortC0 _ _) (fun h => absurd h (by simp))) (by simp) fun s1 hag b' => ?_
    by_cases e : b' = b
    · subst e
      have := hag b' (by simp)
      simp [isortB] at hg ⊢
      rw [this, hg]
    · simp [get_cons_ne (Ne.symm e)]
  · have hac : accB 2 (l.map Cube.row) = some (.cells 2 (l.map Cube.row)) := by simp [accB, h]
    have h2 : isortB cubeLt l ≠ [] := fun e => h (by have := @isortB_len _ cubeLt l; rw [e] at this; simpa using this.symm)
    have hac2 : accB 2 ((isortB cubeLt l).map Cube.row) = some (.cells 2 ((isortB cubeLt l).map Cube.row)) := by simp [accB, h2]
    rw [hac2]
    exact Gives.of_acc (fun e => absurd (List.length_eq_zero_iff.1 e) h) (fun _ => g_SortC1 l _ _ b none (by rw [hg, hac]) (by omega))
theorem sortC_all : SortC := fun l s nx b hg hl hb ho => by
  have hi : isortB cubeLt l = l := isortB_asc_id sto_cubes (ho.imp fun {a c} h => by
    unfold cubeLt
    simp only [decide_eq_false_iff_not]
    omega)
  have := g_SortCA l s nx b hg (by omega) hb
  rw [hi] at this
  exact this
theorem c_implicant_primes (x : Tsk) (hx : x.Ok) : Pure Tryz.prog GL 107 [x.av] (.p (.lst 2 ((primesL x).map Cube.enc))) := c_primesS sortC_all x hx
theorem c_implicant_CheckTask (x : Tsk) (hn : x.n ≤ 4) (h1 : x.on < p2 (p2 x.n)) (h2 : x.free < p2 (p2 x.n)) (h3 : x.on &&& x.free = 0) : Pure Tryz.prog GL 106 [x.av] (.p (.int .i64 0)) := by
  refine Pure.of_walk (N := 37) Tryz.func106 rfl rfl rfl (by simp) (by first | (simp; done) | simp [*]) ?_
  obtain ⟨h4, h5⟩ := p2p2 hn
  have hA := c_truth_Check x.n x.on hn h1
  have hB := c_truth_Check x.n x.free hn h2
  simp
  refine XLoop.go [1, 10] [0] 0 [] (fun _ => []) (fun _ (k : Nat) => [(11, .p (.int .i64 k))]) (fun _ _ => []) (fun k => k ≤ 2) (fun k => 2 - k) 0 (by omega) ?_ ?_
  · simp
    try decide
  intro k hk
  have hk3 : k = 0 ∨ k = 1 ∨ k = 2 := by omega
  rcases hk3 with rfl | rfl | rfl
  · simp
    refine xcall_pure hA ?_
    simp
    exact ⟨1, by omega, by omega, rfl⟩
  · simp
    refine xcall_pure hB ?_
    simp
    exact ⟨2, by omega, by omega, rfl⟩
  · simp
    refine ⟨bit_u64 (by omega) (by omega), ?_⟩
    simp [h3, XEndT]
theorem c_implicant_Primes (x : Tsk) (hn : x.n ≤ 4) (h1 : x.on < p2 (p2 x.n)) (h2 : x.free < p2 (p2 x.n)) (h3 : x.on &&& x.free = 0) : Pure Tryz.prog GL 69 [x.av] (.tup [.p (.lst 2 ((primesL x).map Cube.enc)), .p (.int .i64 0)]) := by
  refine Pure.of_walk (N := 12) Tryz.func69 rfl rfl rfl (by simp) (by first | (simp; done) | simp [*]) ?_
  obtain ⟨h4, h5⟩ := p2p2 hn
  have hA := c_implicant_CheckTask x hn h1 h2 h3
  have hB := c_implicant_primes x ⟨hn, by omega, by omega⟩
  simp
  refine xcall_pure hA ?_
  simp
  refine xcall_pure hB ?_
  simp [XEndT]
end Go.Am
