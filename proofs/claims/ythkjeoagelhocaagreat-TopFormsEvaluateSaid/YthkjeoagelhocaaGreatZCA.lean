/- Lemmas and contracts for the proof of a statement of this seat. -/
import Derived.Test.YthkjeoagelhocaaGreatZC7
import Derived.Test.YthkjeoagelhocaaGreatZCP
import Derived.Test.YthkjeoagelhocaaGreatZS2
import Derived.Test.YthkjeoagelhocaaGreatZA5
import Derived.Sort.Grow
import Derived.Shelf.SortM.Plain
import Derived.Shelf.SortM.SortNone
import Derived.Ground.SlgmProg
set_option linter.unusedVariables false
set_option linter.unusedSimpArgs false
/- Contracts: chapter 20, positions: the reference. -/
namespace Go.Am
open Go Go.Proofs Go.Pn

end Go.Am
namespace Go.Pn
open Go Go.Proofs Go.Am
@[simp] def Pass.enc (p : Pass) : List PV := [.str p.to, .lst 1 (p.fr.map Txt.enc), .bool p.all]
end Go.Pn
namespace Go.Am
open Go Go.Proofs Go.Pn

end Go.Am
/- Contracts: package part: positions, passes, vents, pilots, next, role. -/
namespace Go.Am
open Go Go.Proofs Go.Pn

end Go.Am
/- Contracts: package part: placed, Passes, Vents, Positions, Pilots, Next, Role. -/
namespace Go.Am
open Go Go.Proofs Go.Pn


end Go.Am
/- Contracts: package part: Passes, Vents, Next, Role. -/
namespace Go.Am
open Go Go.Proofs Go.Pn


def roleOf (k : Nat) (s : Txt) : Int := idxI (roles k) fun l => decide (s ∈ l)

end Go.Am
/- Contracts: everyday functions of package slices, at int and at ports. -/
namespace Go.Am
open Go Go.Proofs Go.Pn


end Go.Am
/- Contracts: chapter 24: Check of both, Few; in, feeds, back of the reference. -/
namespace Go.Am
open Go Go.Proofs Go.Pn

@[simp] abbrev Ints.av (l : List Int) : AV := .p (.lst 1 (l.map Int.enc))
end Go.Am
/- Contracts: chapter 24, the reference: in, feeds, back, open, Acts. -/
namespace Go.Am
open Go Go.Proofs Go.Pn

def netN (c : Circuit) (i : Int) (s : Txt) : Nat := (netP c ⟨i, s⟩).toNat
end Go.Am
/- Contracts: chapter 24, the reference: feeds, back, open, Acts. -/
namespace Go.Am
open Go Go.Proofs Go.Pn

def posOf (l : List Int) (i : Int) : Int := (l[i.toNat]?).getD 0
def passAt (c : Circuit) (l : List Int) (i : Int) : List Pass := passedOf (kindAt c i).toNat (decide (posOf l i = 1))
end Go.Am
/- Plain laws: which nets are under pressure: the least list that is closed under passages. -/
namespace Go.Am
open Go Go.Proofs Go.Pn

structure Psg where
  part : Int
  to : Nat
  fr : List Nat
  all : Bool
  deriving DecidableEq

def flowsB (S : Nat → Bool) (y : Psg) : Bool := if y.all then y.fr.all S else y.fr.any S
def grow (ps : List Psg) : Nat → List Nat → List Nat
  | 0, l => l
  | k + 1, l => match ps.find? fun y => !l.contains y.to && flowsB l.contains y with
    | some y => grow ps k (y.to :: l)
    | none => l
def lfp (ps : List Psg) (N : Nat) : List Nat := grow ps (N + 1) []

def psgsFrom (c : Circuit) (l : List Int) (i : Nat) : List Psg := (passAt c l i).map fun y => ⟨i, netN c i y.to, y.fr.map (netN c i), y.all⟩
def psgs (c : Circuit) (l : List Int) : List Psg := (List.range c.parts.length).flatMap (psgsFrom c l)
def supplies (c : Circuit) : List Psg := ((List.range c.parts.length).filter fun (i : Nat) => decide (kindAt c (i : Int) = 0)).map fun (i : Nat) => ⟨i, netN c i t1, [], true⟩
def prs (c : Circuit) (l : List Int) : List Nat := lfp (supplies c ++ psgs c l) (nets c).length
def opens (c : Circuit) (l : List Int) (i : Nat) : List Txt := ventsOf (kindAt c i).toNat (decide (posOf l i = 1)) ++ (kindPorts (kindAt c i).toNat).filter fun s => decide (roleOf (kindAt c i).toNat s = 2)
def vented0 (c : Circuit) (l : List Int) : List Psg := (List.range c.parts.length).flatMap fun i => ((opens c l i).map (netN c i)).map fun n => ⟨i, n, [], true⟩
def ventPs (c : Circuit) (l : List Int) : List Psg := (vented0 c l ++ (psgs c l).map fun y => (⟨y.part, y.to, y.fr, false⟩ : Psg)).filter fun y => !(prs c l).contains y.to
def vts (c : Circuit) (l : List Int) : List Nat := lfp (ventPs c l) (nets c).length
def stateOf (c : Circuit) (l : List Int) (n : Nat) : Int := if (prs c l).contains n then 2 else if (vts c l).contains n then 1 else 0
def states (c : Circuit) (l : List Int) : List Int := (List.range (nets c).length).map (stateOf c l)

end Go.Am
/- Plain laws: marks of nets, as the reference sets them. -/
namespace Go.Am
open Go Go.Proofs Go.Pn

end Go.Am
/- Plain laws: which nets are vented, as the reference marks them. -/
namespace Go.Am
open Go Go.Proofs Go.Pn

end Go.Am
/- Contracts: chapter 24, the reference: Under. -/
namespace Go.Am
open Go Go.Proofs Go.Pn

end Go.Am
/- Contracts: chapter 24, the reference: States. -/
namespace Go.Am
open Go Go.Proofs Go.Pn

end Go.Am
/- Contracts: chapter 24, the reference: Nets, At, Push, Once, Step. -/
namespace Go.Am
open Go Go.Proofs Go.Pn

end Go.Am
/- Contracts: chapter 24, the reference: Once, Step, Flow. -/
namespace Go.Am
open Go Go.Proofs Go.Pn

end Go.Am
/- Contracts: chapter 24, the reference: Flow. -/
namespace Go.Am
open Go Go.Proofs Go.Pn

end Go.Am
/- Contracts: chapter 24, the reference: Rest. -/
namespace Go.Am
open Go Go.Proofs Go.Pn

end Go.Am
/- Contracts: package pressure: the net of a port, as a map. -/
namespace Go.Am
open Go Go.Proofs Go.Pn

def pairsUp (c : Circuit) : Nat → List (Port × Nat)
  | 0 => []
  | k + 1 => pairsUp c k ++ match (nets c)[k]? with | some g => g.map (·, k) | none => []
def pairs (c : Circuit) : List (Port × Nat) := pairsUp c (nets c).length
end Go.Am
/- Contracts: package pressure: flows. -/
namespace Go.Am
open Go Go.Proofs Go.Pn

def nInts (l : List Nat) : List Int := l.map fun (n : Nat) => (n : Int)
@[simp] def Psg.enc (y : Psg) : List PV := [.int .i64 y.part, .int .i64 y.to, .lst 1 ((nInts y.fr).map Int.enc), .bool y.all]
@[simp] def Psg.row (y : Psg) : List AV := [.p (.int .i64 y.part), .p (.int .i64 y.to), .p (.lst 1 ((nInts y.fr).map Int.enc)), .p (.bool y.all)]
@[simp] def Psg.av (y : Psg) : AV := .agg [.p (.int .i64 y.part), .p (.int .i64 y.to), .p (.lst 1 ((nInts y.fr).map Int.enc)), .p (.bool y.all)]
end Go.Am
/- Contracts: package pressure: closures of states, closed. -/
namespace Go.Am
open Go Go.Proofs Go.Pn


@[simp] theorem range2_0 : (List.range 2)[0]? = some 0 := rfl
@[simp] theorem range2_1 : (List.range 2)[1]? = some 1 := rfl
@[simp] theorem range3_0 : (List.range 3)[0]? = some 0 := rfl
@[simp] theorem range3_1 : (List.range 3)[1]? = some 1 := rfl
@[simp] theorem range3_2 : (List.range 3)[2]? = some 2 := rfl
@[simp] theorem range2_nodup : (List.range 2).Nodup := List.nodup_range
@[simp] theorem range3_nodup : (List.range 3).Nodup := List.nodup_range

end Go.Am
/- Contracts: package pressure: the closures of states. -/
namespace Go.Am
open Go Go.Proofs Go.Pn


end Go.Am
/- Contracts: part.Vents as owned rows; pressure.open. -/
namespace Go.Am
open Go Go.Proofs Go.Pn

end Go.Am
/- Contracts: package pressure: passages. -/
namespace Go.Am
open Go Go.Proofs Go.Pn

section
variable {P : Program} {G : Globs} {N n0 : Nat}
end

@[simp] def thirdB : Option ABlk → Nat
  | some (.cells _ ([_, _, z, _] :: _)) => nameOf z
  | _ => 0

end Go.Am
/- Contracts: package pressure: states. -/
namespace Go.Am
open Go Go.Proofs Go.Pn


end Go.Am
/- The states as the program finds them are the states. -/
namespace Go.Am
open Go Go.Proofs Go.Pn

end Go.Am
/- Contracts: package pressure: Nets, At, Push. -/
namespace Go.Am
open Go Go.Proofs Go.Pn

end Go.Am
/- Contracts: package pressure: Flow. -/
namespace Go.Am
open Go Go.Proofs Go.Pn


end Go.Am
/- Contracts: package pressure: step. -/
namespace Go.Am
open Go Go.Proofs Go.Pn


@[simp] theorem range6_0 : (List.range 6)[0]? = some 0 := rfl
@[simp] theorem range6_1 : (List.range 6)[1]? = some 1 := rfl
@[simp] theorem range6_2 : (List.range 6)[2]? = some 2 := rfl
@[simp] theorem range6_3 : (List.range 6)[3]? = some 3 := rfl
@[simp] theorem range6_4 : (List.range 6)[4]? = some 4 := rfl
@[simp] theorem range6_5 : (List.range 6)[5]? = some 5 := rfl
@[simp] theorem range6_nodup : (List.range 6).Nodup := List.nodup_range

end Go.Am
/- slices.Sort at int: the bridge from the library's contract (the world behind it) to a call's contract. -/
namespace Go.Am
open Go Go.Proofs Go.Pn

theorem SR.ahead {G F φ s w} (h : SR G F φ s w) : ∀ n, SR G F φ s (Sort.ahead w n)
  | 0 => h
  | n + 1 => by rw [← Sort.ahead_drew]; exact (SR.ahead h n).drew
theorem step_ahead {own : Nat → Prop} {w : World} : ∀ n, Step own own w (Sort.ahead w n)
  | 0 => Step.refl _ _
  | n + 1 => by rw [← Sort.ahead_drew]; exact (step_ahead n).trans step_drew
theorem step_grow {own : Nat → Prop} {w : World} (os : Array Obj) : Step own own w (Sort.grow w os) where
  keep := fun β hβ ho => ⟨Sort.heap_grow_old w os hβ, ho⟩
  size := by simp [Sort.grow]
  shape := fun β arr T h => ⟨arr, by rw [Sort.heap_grow_old w os (Array.getElem?_eq_some_iff.1 h).1]; exact h, rfl⟩
  os := rfl
  tape := rfl
  output := rfl
theorem SR.grow {G F φ s w} (h : SR G F φ s w) (os : Array Obj) : SR G F φ s (Sort.grow w os) := by
  refine h.change (fun _ _ h => h) (step_grow os) (fun b x hb => .inl ⟨hb, fun p hp => ?_⟩) h.inj h.disj
  obtain ⟨p', h1, h2⟩ := (h.blk b x hb).place
  rw [hp] at h1; cases h1
  exact Sort.heap_grow_old w os h2

theorem putRow_turn {w : World} {g off : Nat} {ys : List Int} {arr : Array Value} {T : TypeId} (h0 : w.heap[g]? = some (Obj.cells arr T (0, 0))) :
    Sort.putRow (Value.int .i64) w g off ys.toArray = turnB w g (Sort.putCells (Value.int .i64) off ys.toArray arr) T := by
  unfold Sort.putRow Sort.mapBlock turnB
  congr 1
  apply Array.ext_getElem?
  intro k
  have hg := (Array.getElem?_eq_some_iff.1 h0).1
  rw [Array.getElem?_modify, Array.getElem?_setIfInBounds]
  by_cases e : g = k
  · subst e
    rw [if_pos rfl, if_pos rfl, if_pos hg, h0]
    rfl
  · rw [if_neg e, if_neg e]

theorem post_sorted {G : Globs} {F : Nat → Prop} {φ : Places} {s1 : Store} {w : World} {b nx g off n : Nat} {l ys : List Int} {arr : Array Value} {T : TypeId} {os : Array Obj} (hs : SR G F φ s1 w) (hb : get s1 b = some (.cells 1 (l.map Int.row)))
    (hφ : φ b = some (g, off)) (h0 : w.heap[g]? = some (Obj.cells arr T (0, 0))) (hlen : ys.length = l.length) (hsz : off + l.length ≤ arr.size) :
    Post G F φ s1 w (.tup []) [(b, some (.cells 1 (ys.map Int.row)))] nx nx (.tuple #[]) (Sort.grow (Sort.putRow (Value.int .i64) (Sort.ahead w n) g off ys.toArray) os) := by
  have h0' : (Sort.ahead w n).heap[g]? = some (Obj.cells arr T (0, 0)) := h0
  rw [putRow_turn h0']
  have ht := (hs.ahead n).turn (x := .cells 1 (ys.map Int.row)) (arr := Sort.putCells (Value.int .i64) off ys.toArray arr) hb hφ h0' (by simp [Sort.putCells]) (fun _ => by
    refine ⟨g, off, _, T, hφ, turnB_same (Array.getElem?_eq_some_iff.1 h0').1, fun i j row x hr hx => ?_⟩
    obtain ⟨hi, rfl⟩ : ∃ hi : i < ys.length, row = Int.row ys[i] := by
      obtain ⟨h1, h2⟩ := List.getElem?_eq_some_iff.1 hr
      rw [List.length_map] at h1
      exact ⟨h1, by rw [← h2]; simp⟩
    match j with
    | 0 =>
      simp at hx; subst hx
      refine ⟨by omega, .int .i64 ys[i], ?_, .p _ _ (.int _ _)⟩
      have hlt : off + i < arr.size := by omega
      simp [Sort.putCells, hlt, hi]
    | j + 1 => simp at hx)
  obtain ⟨h1, h2⟩ := ht
  refine ⟨φ, fun _ _ h => h, fun _ _ => rfl, h1.grow os, ?_, fun F' => (step_ahead n).trans ((h2 F').trans (step_grow os))⟩
  exact .tup [] [] rfl (by simp)

end Go.Am
/- slices.Sort at int. -/
namespace Go.Am
open Go Go.Proofs Go.Shelf

def sortRen : Ren := ⟨fun k => match k with | 5 => 25 | 8 => 40 | 7 => 57 | 19 => 82 | 20 => 83 | 10 => 90 | 11 => 91 | 12 => 92 | 13 => 93 | 14 => 94 | 15 => 95 | 16 => 96 | 17 => 97 | 18 => 98 | 30 => 121 | 31 => 122 | 32 => 123 | 33 => 124 | 34 => 125 | 35 => 84 | 40 => 139 | k => k, fun k => match k with | 23 => 35 | 25 => 3 | 3 => 3 | 32 => 47 | 22 => 35 | 0 => 0 | 44 => 119 | 46 => 25 | 4 => 4 | 36 => 135 | 35 => 134 | 41 => 140 | 5 => 5 | 9 => 9 | 53 => 163 | 57 => 166 | 63 => 178 | 64 => 179 | k => k, fun g => g⟩

set_option maxRecDepth 100000 in
theorem sortLays : SlLaysM.n5 Tryz.prog sortRen where
  mixed := by kernel_rfl
  f5 := ⟨_, by kernel_rfl, Tryz.func25⟩
  f7 := ⟨_, by kernel_rfl, Tryz.func57⟩
  f8 := (Tryz.func40).trans (by kernel_rfl)
  f10 := ⟨_, by kernel_rfl, Tryz.func90⟩
  f11 := ⟨_, by kernel_rfl, Tryz.func91⟩
  f12 := ⟨_, by kernel_rfl, Tryz.func92⟩
  f13 := ⟨_, by kernel_rfl, Tryz.func93⟩
  f14 := ⟨_, by kernel_rfl, Tryz.func94⟩
  f15 := ⟨_, by kernel_rfl, Tryz.func95⟩
  f16 := ⟨_, by kernel_rfl, Tryz.func96⟩
  f17 := ⟨_, by kernel_rfl, Tryz.func97⟩
  f18 := ⟨_, by kernel_rfl, Tryz.func98⟩
  f19 := (Tryz.func82).trans (by kernel_rfl)
  f20 := (Tryz.func83).trans (by kernel_rfl)
  f30 := ⟨_, by kernel_rfl, Tryz.func121⟩
  f31 := (Tryz.func122).trans (by kernel_rfl)
  f32 := (Tryz.func123).trans (by kernel_rfl)
  f33 := ⟨_, by kernel_rfl, Tryz.func124⟩
  f34 := ⟨_, by kernel_rfl, Tryz.func125⟩
  f35 := ⟨_, by kernel_rfl, Tryz.func84⟩
  f40 := ⟨_, by kernel_rfl, Tryz.func139⟩
  t0 := by kernel_rfl
  a0 := fun w => by kernel_rfl
  z0 := fun w => by kernel_rfl
  v0 := fun w => by kernel_rfl
  t3 := by kernel_rfl
  a3 := fun w => by kernel_rfl
  z3 := fun w => by kernel_rfl
  v3 := fun w => by kernel_rfl
  t4 := by kernel_rfl
  a4 := fun w => by kernel_rfl
  z4 := fun w => by kernel_rfl
  v4 := fun w => by kernel_rfl
  t5 := by kernel_rfl
  a5 := fun w => by kernel_rfl
  z5 := fun w => by kernel_rfl
  v5 := fun w => by kernel_rfl
  t9 := by kernel_rfl
  a9 := fun w => by kernel_rfl
  z9 := fun w => by kernel_rfl
  v9 := fun w => by kernel_rfl
  t22 := by kernel_rfl
  a22 := fun w => by kernel_rfl
  z22 := fun w => by kernel_rfl
  v22 := fun w => by kernel_rfl
  t23 := by kernel_rfl
  a23 := fun w => by kernel_rfl
  z23 := fun w => by kernel_rfl
  v23 := fun w => by kernel_rfl
  t25 := by kernel_rfl
  a25 := fun w => by kernel_rfl
  z25 := fun w => by kernel_rfl
  v25 := fun w => by kernel_rfl
  t32 := by kernel_rfl
  a32 := fun w => by kernel_rfl
  z32 := fun w => by kernel_rfl
  v32 := fun w => by kernel_rfl
  t35 := by kernel_rfl
  a35 := fun w => by kernel_rfl
  z35 := fun w => by kernel_rfl
  v35 := fun w => by kernel_rfl
  t36 := by kernel_rfl
  a36 := fun w => by kernel_rfl
  z36 := fun w => by kernel_rfl
  v36 := fun w => by kernel_rfl
  t41 := by kernel_rfl
  a41 := fun w => by kernel_rfl
  z41 := fun w => by kernel_rfl
  v41 := fun w => by kernel_rfl
  t44 := by kernel_rfl
  a44 := fun w => by kernel_rfl
  z44 := fun w => by kernel_rfl
  v44 := fun w => by kernel_rfl
  t46 := by kernel_rfl
  a46 := fun w => by kernel_rfl
  z46 := fun w => by kernel_rfl
  v46 := fun w => by kernel_rfl
  t53 := by kernel_rfl
  a53 := fun w => by kernel_rfl
  z53 := fun w => by kernel_rfl
  v53 := fun w => by kernel_rfl
  t57 := by kernel_rfl
  a57 := fun w => by kernel_rfl
  z57 := fun w => by kernel_rfl
  v57 := fun w => by kernel_rfl
  t63 := by kernel_rfl
  a63 := fun w => by kernel_rfl
  z63 := fun w => by kernel_rfl
  v63 := fun w => by kernel_rfl
  t64 := by kernel_rfl
  a64 := fun w => by kernel_rfl
  z64 := fun w => by kernel_rfl
  v64 := fun w => by kernel_rfl

end Go.Am

namespace Go.Am
open Go Go.Proofs Go.Pn

def sortI (l : List Int) : List Int := l.mergeSort fun x y => decide (x ≤ y)
theorem sortI_len {l : List Int} : (sortI l).length = l.length := by simp [sortI]

set_option maxRecDepth 100000 in
theorem g_SortI (l : List Int) (s : Store) (nx b : Nat) (c : Option Nat) (hg : get s b = some (.cells 1 (l.map Int.row))) (hl : l.length < 4611686018427387904) :
    Gives Tryz.prog GL 25 [.ref b 1 0 l.length c] s nx (.tup []) [b] [(b, some (.cells 1 ((sortI l).map Int.row)))] nx := by
  refine ⟨Nat.le_refl _, fun F φ s1 w vs hag hs hfr hlen hv => ?_⟩
  match vs, hlen with
  | [u], _ =>
    have hr := hv 0 _ u rfl rfl
    cases hr with
    | ref _ _ _ _ _ β δ cap hφ hc hn room =>
      obtain ⟨arr, T, h0, hsz⟩ := room
      have hg1 : get s1 b = some (.cells 1 (l.map Int.row)) := (hag b (by simp)).trans hg
      obtain ⟨β', δ', arr', T', k1, k2, k3⟩ := hs.blk b _ hg1
      rw [hφ] at k1
      cases k1
      rw [h0] at k2
      cases k2
      have hβ : β < w.heap.size := (Array.getElem?_eq_some_iff.1 h0).1
      have hH : Sort.Holds (Value.int .i64) w β (δ + 0 * 1) l.toArray := fun j hj => by
        have hj2 : j < l.length := by simpa using hj
        obtain ⟨_, v, h1, h2⟩ := k3 j 0 (Int.row l[j]) (.p (.int .i64 l[j])) (by simp [hj2]) rfl
        have e : v = .int .i64 l[j] := by cases h2 with | p x v h => cases h; rfl
        subst e
        simp only [Nat.mul_one, Nat.add_zero] at h1
        refine ⟨?_, ?_⟩
        · simp [World.cell?, h0, h1, hj2]
        · simp [World.frozen?, h0]
      have hcall := AnyM.slices_Sort_int sortLays β (δ + 0 * 1) cap l w hH hβ hl
      have eC : ∀ args w, (callFunc 25 args).run Tryz.prog w = .ok (.enter 25 args) w := enters_of Tryz.func25 (by kernel_rfl) rfl
      have eC2 := eC ⟨[.slice (some ⟨β, δ + 0 * 1, none⟩) l.length cap]⟩ w
      rw [eC2]
      refine Calls.mono hcall ?_
      rintro e w' ⟨rfl, n, os, rfl⟩
      refine ⟨_, rfl, ?_⟩
      simp only [Nat.zero_mul, Nat.add_zero, Nat.zero_add, Nat.mul_one] at hsz ⊢
      exact post_sorted hs hg1 hφ h0 sortI_len (by omega)

set_option maxRecDepth 100000 in
theorem g_SortI0 (s : Store) (nx : Nat) : Gives Tryz.prog GL 25 [.nils] s nx (.tup []) [] [] nx := by
  refine ⟨Nat.le_refl _, fun F φ s1 w vs hag hs hfr hlen hv => ?_⟩
  match vs, hlen with
  | [u], _ =>
    have hr := hv 0 _ u rfl rfl
    cases hr with
    | nils a =>
      have eC : ∀ args w, (callFunc 25 args).run Tryz.prog w = .ok (.enter 25 args) w := enters_of Tryz.func25 (by kernel_rfl) rfl
      have eC2 := eC ⟨[.slice a 0 0]⟩ w
      rw [eC2]
      refine Calls.mono (AnyM.slices_Sort_int_none sortLays a 0 w) ?_
      rintro e w' ⟨rfl, rfl⟩
      exact ⟨_, rfl, post_same hs (.tup [] [] rfl (by simp))⟩

end Go.Am
/- Contracts: slices.Compact, slices.Clone at int. -/
namespace Go.Am
open Go Go.Proofs Go.Pn


def newAt (l : List Int) (i : Nat) : Bool := decide (i = 0) || decide (l[i]? ≠ l[i - 1]?)
def ddT (l : List Int) (k : Nat) : List Int := ((List.range k).filter (newAt l)).map fun i => l[i]?.getD 0
theorem ddT_len {l : List Int} {k : Nat} : (ddT l k).length ≤ k := by
  unfold ddT
  rw [List.length_map]
  exact Nat.le_trans (List.length_filter_le ..) (by simp)
theorem ddT_snoc {l : List Int} {k : Nat} {x : Int} (e : l[k]? = some x) : ddT l (k + 1) = ddT l k ++ if newAt l k then [x] else [] := by
  unfold ddT
  rw [List.range_succ, List.filter_append, List.map_append]
  congr 1
  cases h : newAt l k <;> simp [h, e, -getElem?_pos]
theorem ddT_all {l : List Int} {k : Nat} (hk : k ≤ l.length) (h : ∀ i, i < k → newAt l i = true) : ddT l k = l.take k := by
  induction k with
  | zero => simp [ddT]
  | succ k ih =>
    obtain ⟨x, e⟩ := get_lt (xs := l) (k := k) (by omega)
    rw [ddT_snoc e, ih (by omega) (fun i hi => h i (by omega)), h k (by omega), take_snoc e]
    simp
structure DSt where
  T : List Int
  j : Nat
def compI (l : List Int) : List Int := ddT l l.length

theorem g_CompI (l : List Int) (s : Store) (nx b : Nat) (hb : b < nx) (hg : get s b = some (.cells 1 (l.map Int.row))) (hl : l.length < 1000000) (h0 : l ≠ []) :
    Gives Tryz.prog GL 26 [.ref b 1 0 l.length none] s nx (.ref b 1 0 (compI l).length none) [b] [(b, some (.cells 1 ((compI l ++ List.replicate (l.length - (compI l).length) 0).map Int.row)))] nx := by
  refine Gives.mk_walkK (N := 61) (args := [.ref 0 1 0 l.length none]) [b] [] [(0, some (.cells 1 (l.map Int.row)))] [(0, some (.cells 1 ((compI l ++ List.replicate (l.length - (compI l).length) 0).map Int.row)))] 1 0 (.ref 0 1 0 (compI l).length none) (fun _ => []) (up1 := [(b, some (.cells 1 ((compI l ++ List.replicate (l.length - (compI l).length) 0).map Int.row)))]) Tryz.func26 rfl rfl rfl (by simp) rfl (by simp [hg, hb]) (by simp) (by simp) (by simp) (by simp) rfl ?_
  have h1 : 1 ≤ l.length := List.length_pos_iff.2 h0
  simp
  refine xif_split (fun h => ?_) (fun h => ?_)
  · simp at h
    have hl1 : l.length = 1 := by omega
    have hfin : compI l = l := by
      rw [compI, ddT_all (Nat.le_refl _) (fun i hi => ?_), List.take_length]
      have e : i = 0 := by omega
      subst e
      rfl
    rw [hfin]
    simp
  · simp at h
    simp
    have hd1 : ∀ i, i < 1 → newAt l i = true := fun i hi => by
      have e : i = 0 := by omega
      subst e
      rfl
    refine XLoop.go [0] [0] 0 [] (fun _ => []) (fun _ (k : Nat) => [(3, .p (.int .i64 k))]) (fun _ k => []) (fun k => 1 ≤ k ∧ k ≤ l.length ∧ ∀ i, i < k → newAt l i = true) (fun k => l.length - k) 1 ⟨by omega, by omega, hd1⟩ ?_ ?_
    · simp
    · rintro k ⟨hk1, hk2, hd⟩
      simp
      refine xif_split (fun h3 => ?_) (fun h3 => ?_)
      · simp at h3
        obtain ⟨x, e⟩ := get_lt h3
        obtain ⟨y, e'⟩ := get_lt (xs := l) (k := k - 1) (by omega)
        have hw : IntKind.i64.wrap ((k : Int) - 1) = ((k - 1 : Nat) : Int) := by rw [wrap_i64 (by omega) (by omega)]; omega
        have hlt : k - 1 < l.length := by omega
        simp
        refine XDraw.intro (by kernel_rfl) ?_
        simp [h3, e, hw, e', hlt, -getElem?_pos, List.getElem?_cons_zero, List.getElem?_cons_succ]
        refine ⟨by omega, by omega, by omega, .of (by kernel_rfl), ?_⟩
        refine xif_split (fun h4 => ?_) (fun h4 => ?_)
        · simp at h4
          have hnk : newAt l k = false := by simp [newAt, e, e', h4, -getElem?_pos]; omega
          have hk0 : ddT l (k + 1) = l.take k := by rw [ddT_snoc e, hnk, ddT_all hk2 hd]; simp
          have hk0l : (ddT l (k + 1)).length = k := by rw [hk0]; simp; omega
          have hkne : ¬ k = l.length := by omega
          simp [hk2, hkne]
          refine XLoop.go [0, 4] [] 0 [] (fun _ => []) (fun _ (g : DSt) => [(3, .p (.int .i64 (ddT l (k + g.j)).length)), (5, .p (.int .i64 g.j))]) (fun _ g => [(0, some (.cells 1 (g.T.map Int.row)))]) (fun g => g.T.length = l.length ∧ 1 ≤ g.j ∧ k + g.j ≤ l.length ∧ (ddT l (k + g.j)).length + 1 ≤ k + g.j ∧ g.T.take (ddT l (k + g.j)).length = ddT l (k + g.j) ∧ ∀ (i : Nat), k + g.j ≤ i + 1 → g.T[i]? = l[i]?) (fun g => l.length - k - g.j) ⟨l, 1⟩ ⟨rfl, by simp, by dsimp only; omega, by dsimp only; omega, by dsimp only; rw [hk0l, hk0], fun _ _ => rfl⟩ ?_ ?_
          · simp [hk0l]
          · rintro ⟨T, j⟩ ⟨q1, q2, q3, q4, q5, q6⟩
            dsimp only at q1 q2 q3 q4 q5 q6
            have hds := fun {x : Int} (e : l[k + j]? = some x) => ddT_snoc e
            have hde : k + j = l.length → ddT l (k + j) = compI l := fun e => by rw [e]; rfl
            have hassoc : k + (j + 1) = k + j + 1 := by omega
            generalize ddT l (k + j) = D at q4 q5 hds hde
            simp
            refine xif_split (fun h5 => ?_) (fun h5 => ?_)
            · simp at h5
              have hj : k + j < l.length := by omega
              obtain ⟨x2, e2⟩ := get_lt (xs := l) (k := k + j) hj
              obtain ⟨y2, e3⟩ := get_lt (xs := l) (k := k + j - 1) (by omega)
              have t2 : T[k + j]? = some x2 := by rw [q6 _ (by omega)]; exact e2
              have t3 : T[k + (j - 1)]? = some y2 := by rw [q6 _ (by omega), ← e3]; congr 1; omega
              have hw2 : IntKind.i64.wrap ((j : Int) - 1) = ((j - 1 : Nat) : Int) := by rw [wrap_i64 (by omega) (by omega)]; omega
              have hds := hds e2
              rw [← hassoc] at hds
              have hjn : j < l.length - k := by omega
              have hjn2 : j - 1 < l.length - k := by omega
              simp
              refine XDraw.intro (by kernel_rfl) ?_
              simp [hjn, hjn2, t2, t3, hw2, -getElem?_pos, List.getElem?_cons_zero, List.getElem?_cons_succ]
              refine ⟨by omega, by omega, by omega, .of (by kernel_rfl), ?_⟩
              have hkj : ¬ k + j = 0 := by omega
              refine xif_split (fun h6 => ?_) (fun h6 => ?_)
              · simp at h6
                have hnw : newAt l (k + j) = true := by simp [newAt, e2, e3, h6, -getElem?_pos]
                rw [hnw, if_pos rfl] at hds
                have hDl : D.length < l.length := by omega
                obtain ⟨T', hT'⟩ : ∃ T', T' = T.set D.length x2 := ⟨_, rfl⟩
                have hms : (T.map Int.row).set D.length [.p (.int .i64 x2)] = T'.map Int.row := by rw [hT', List.map_set]
                obtain ⟨z, t4⟩ := get_lt (xs := T) (k := D.length) (by omega)
                simp [hjn, hDl, t2, t4, -getElem?_pos, List.getElem?_cons_zero, List.getElem?_cons_succ]
                refine ⟨wrap_i64 (by omega) (by omega), wrap_i64 (by omega) (by omega), ⟨T', j + 1⟩, ⟨by rw [hT']; simpa using q1, by dsimp only; omega, by dsimp only; omega, by dsimp only; rw [hds]; simp; omega, ?_, fun i hi => ?_⟩, by dsimp only; omega, ?_⟩
                · dsimp only
                  rw [hds, hT', List.length_append]
                  have : T.length > D.length := by omega
                  rw [show D.length + [x2].length = D.length + 1 from rfl, List.take_add_one, List.take_set_of_le (Nat.le_refl _), q5, List.getElem?_set_self (by omega)]
                  rfl
                · dsimp only at hi ⊢
                  rw [hT', List.getElem?_set_ne (by omega)]
                  exact q6 i (by omega)
                · simp [hds, hms]
              · simp at h6
                have hnw : newAt l (k + j) = false := by simp [newAt, e2, e3, h6, hkj, -getElem?_pos]; omega
                rw [hnw] at hds
                simp at hds
                simp
                refine ⟨wrap_i64 (by omega) (by omega), ⟨T, j + 1⟩, ⟨q1, by dsimp only; omega, by dsimp only; omega, by dsimp only; rw [hds]; omega, by dsimp only; rw [hds]; exact q5, fun i hi => q6 i (by dsimp only at hi; omega)⟩, by dsimp only; omega, ?_⟩
                simp [hds]
            · simp at h5
              have hD := hde (by omega)
              have hDl : D.length ≤ l.length := by omega
              have hDne : ¬ D.length = l.length := by omega
              simp [hDl, hDne]
              refine ⟨by omega, by omega, by rw [hD], ?_⟩
              rw [← hD, layRows, ← List.map_take, q5, List.drop_eq_nil_of_le (by simp; omega)]
              simp
        · simp at h4
          have hnk : newAt l k = true := by simp [newAt, e, e', h4, -getElem?_pos]
          simp
          refine ⟨wrap_i64 (by omega) (by omega), k + 1, ⟨by omega, by omega, fun i hi => ?_⟩, by omega, ?_⟩
          · rcases (by omega : i = k ∨ i < k) with rfl | hh
            · exact hnk
            · exact hd i hh
          · simp
      · simp at h3
        have hkl : k = l.length := by omega
        subst hkl
        have hfin : compI l = l := by rw [compI, ddT_all (Nat.le_refl _) hd, List.take_length]
        rw [hfin]
        simp

theorem g_CompI0 (s : Store) (nx : Nat) : Gives Tryz.prog GL 26 [.nils] s nx .nils [] [] nx := by
  refine Gives.mk_walkK (N := 61) (args := [.nils]) [] [] [] [] 0 0 .nils (fun _ => []) (up1 := []) Tryz.func26 rfl rfl rfl (by simp) rfl (by simp) (by simp) (by simp) (by simp) (by simp) rfl ?_
  simp

end Go.Am
