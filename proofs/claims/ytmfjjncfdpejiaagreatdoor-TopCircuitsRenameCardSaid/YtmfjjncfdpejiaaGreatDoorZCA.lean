/- Lemmas and contracts for the proof of a statement of this seat. -/
import Derived.Test.YtmfjjncfdpejiaaGreatDoorZC7
import Derived.Test.YtmfjjncfdpejiaaGreatDoorZCP
import Derived.Test.YtmfjjncfdpejiaaGreatDoorZS2
import Derived.Test.YtmfjjncfdpejiaaGreatDoorZA5
import Derived.Sort.Grow
import Derived.Shelf.SortM.Plain
import Derived.Shelf.SortM.SortNone
import Derived.Ground.SlgmProg
set_option linter.unusedVariables false
set_option linter.unusedSimpArgs false
namespace Go.Am
open Go Go.Proofs Go.Pn
end Go.Am
namespace Go.Pn
open Go Go.Proofs Go.Am
@[simp] def Pass.enc (p : Pass) : List PV := [.str p.to, .lst 1 (p.fr.map Txt.enc), .bool p.all]
end Go.Pn
namespace Go.Am
open Go Go.Proofs Go.Pn
theorem J5a {c : Circuit} (h : Jad c = 0) {p : Port} (hp : p ∈ allP c) : Jde c p = 0 /\ ∃ (i : Nat) (g : List Port), netP c p = i /\ i < (nets c).length /\ (nets c)[i]? = some g /\ p ∈ g /\ g.length < 100000 := by
 refine ⟨Jd9.1 hp, ?_⟩
 obtain ⟨i, g, h1, h2, h3⟩ := Jpl h hp
 exact ⟨i, g, h1, (gsI.1 h2).1, h2, h3, by have := (Jvj h).2 g (List.mem_of_getElem? h2); omega⟩
end Go.Am
namespace Go.Am
open Go Go.Proofs Go.Pn
end Go.Am
namespace Go.Am
open Go Go.Proofs Go.Pn
theorem J1z {k : Nat} (h : k < 14) : (catRow k)[9]? = some (.p (.int .i64 (J4x k))) /\ (catRow k)[7]? = some (.p (.str (Jwm k).1)) /\ (catRow k)[8]? = some (.p (.str (Jwm k).2)) /\
   ((catRow k).drop 2).take 5 = (Jbt k).map (fun l => .p (.lst 1 (l.map Txt.enc))) /\ (Jbt k).length = 5 := by
 rcases (by omega : k = 0 \/ k = 1 \/ k = 2 \/ k = 3 \/ k = 4 \/ k = 5 \/ k = 6 \/ k = 7 \/ k = 8 \/ k = 9 \/ k = 10 \/ k = 11 \/ k = 12 \/ k = 13) with rfl|rfl|rfl|rfl|rfl|rfl|rfl|rfl|rfl|rfl|rfl|rfl|rfl|rfl <;> exact ⟨rfl, rfl, rfl, rfl, rfl⟩
end Go.Am
namespace Go.Am
open Go Go.Proofs Go.Pn
theorem Jp5 {α : Type} {f : α -> AV} (h : ∀ x, Jap (f x) = true) : ∀ {l : List α}, Jbg (l.map f) = true
 | [] => rfl
 | x :: l => by simp [Jbg, h x, Jp5 h (l := l)]
def Jdv (k : Nat) (s : Txt) : Int := idxI (Jbt k) fun l => decide (s ∈ l)
theorem Jsy (k : Int) (s : Txt) (hk : 0 <= k /\ k < 14) : Pure Tryz.prog GL 95 [.p (.int .i64 k), .p (.str s)] (.tup [.p (.int .i64 (if Jdv k.toNat s < 0 then 0 else Jdv k.toNat s)), .p (.int .i64 (if Jdv k.toNat s < 0 then 6 else 0))]) := by
 refine Pure.of_walk (N := 29) Tryz.func95 rfl rfl rfl (by simp) (by first | (simp; done) | simp [*]) ?_
 simp
 refine Jab (Jog k) ?_
 have h3 : Jby k = 0 := Jg5.2 hk
 have hl := Jgx (k := k.toNat)
 have h6 := Jgy (k := k.toNat)
 obtain ⟨f1, f2, f3, f4, f5⟩ := J1z (k := k.toNat) (by omega)
 have hsh : ∀ l ∈ Jbt k.toNat, l.length < 100 := (by decide : ∀ k, k < 14 -> ∀ l ∈ Jbt k, l.length < 100) k.toNat (by omega)
 simp [h3, hl, Jgg]
 refine ⟨by simpa using h6, ?_⟩
 have hren := fun ρ => Jmu (ρ := ρ) (Jp5 (f := fun l : List Txt => AV.p (PV.lst 1 (l.map Txt.enc))) (fun _ => rfl) (l := Jbt k.toNat))
 simp [f4]
 refine Jaj.go [1, 19] [] 0 [] (fun _ => []) (fun _ (r : Nat) => [(20, .p (.int .i64 r))]) (fun _ _ => []) (fun r => r <= 5 /\ ∀ (j : Nat) x, j < r -> (Jbt k.toNat)[j]? = some x -> decide (s ∈ x) = false) (fun r => 5 - r) 0 ⟨by omega, fun j x h => by omega⟩ ?_ ?_
 . simp [hren]
 . rintro r ⟨hr, hp⟩
   simp
   refine Jac (fun h => ?_) (fun h => ?_)
   . simp at h
     obtain ⟨x, e⟩ := Jah (xs := Jbt k.toNat) (k := r) (by omega)
     simp [h, e, f5, -getElem?_pos, List.getElem?_cons_zero, List.getElem?_cons_succ]
     refine Jab (Jse x s (by have := hsh x (List.mem_of_getElem? e); omega)) ?_
     simp
     by_cases h2 : s ∈ x
     . have hro : Jdv k.toNat s = r := Jfp (q := fun l => decide (s ∈ l)) e (by simpa using h2) hp
       have h0 : ¬ (r : Int) < 0 := by omega
       simp [h2]
       simp [Jaa, hro, h0]
     . simp [h2]
       refine ⟨wrap_i64 (by omega) (by omega), r + 1, ⟨by omega, ?_⟩, by omega, ?_⟩
       . simpa using Jeo (P := fun l => decide (s ∈ l) = false) hp e (by simpa using h2)
       . simp [hren]
   . simp at h
     have h7 : r = (Jbt k.toNat).length := by omega
     subst h7
     have hro : Jdv k.toNat s = -1 := Jgc (q := fun l => decide (s ∈ l)) (Je2 hp)
     simp [Jaa, hro]
end Go.Am
namespace Go.Am
open Go Go.Proofs Go.Pn
end Go.Am
namespace Go.Am
open Go Go.Proofs Go.Pn
@[simp] abbrev Ints.av (l : List Int) : AV := .p (.lst 1 (l.map Int.enc))
end Go.Am
namespace Go.Am
open Go Go.Proofs Go.Pn
def netN (c : Circuit) (i : Int) (s : Txt) : Nat := (netP c ⟨i, s⟩).toNat
theorem J46 {c : Circuit} (h : Jad c = 0) {i : Int} {s : Txt} (hp : (⟨i, s⟩ : Port) ∈ allP c) : netP c ⟨i, s⟩ = netN c i s /\ netN c i s < (nets c).length := by
 obtain ⟨_, n, g, h1, h2, _⟩ := J5a h hp
 unfold netN
 rw [h1]
 exact ⟨by omega, by omega⟩
end Go.Am
namespace Go.Am
open Go Go.Proofs Go.Pn
def Jwv (l : List Int) (i : Int) : Int := (l[i.toNat]?).getD 0
def J68 (c : Circuit) (l : List Int) (i : Int) : List Pass := J69 (Jas c i).toNat (decide (Jwv l i = 1))
end Go.Am
namespace Go.Am
open Go Go.Proofs Go.Pn
structure Psg where
 part : Int
 to : Nat
 fr : List Nat
 all : Bool
 deriving DecidableEq
def J3g (S : Nat -> Bool) (y : Psg) : Bool := if y.all then y.fr.all S else y.fr.any S
def grow (ps : List Psg) : Nat -> List Nat -> List Nat
 | 0, l => l
 | k + 1, l => match ps.find? fun y => !l.contains y.to && J3g l.contains y with
   | some y => grow ps k (y.to :: l)
   | none => l
def lfp (ps : List Psg) (N : Nat) : List Nat := grow ps (N + 1) []
def J7m (c : Circuit) (l : List Int) (i : Nat) : List Psg := (J68 c l i).map fun y => ⟨i, netN c i y.to, y.fr.map (netN c i), y.all⟩
def psgs (c : Circuit) (l : List Int) : List Psg := (List.range c.parts.length).flatMap (J7m c l)
def J8u (c : Circuit) : List Psg := ((List.range c.parts.length).filter fun (i : Nat) => decide (Jas c (i : Int) = 0)).map fun (i : Nat) => ⟨i, netN c i t1, [], true⟩
def prs (c : Circuit) (l : List Int) : List Nat := lfp (J8u c ++ psgs c l) (nets c).length
def opens (c : Circuit) (l : List Int) (i : Nat) : List Txt := Jne (Jas c i).toNat (decide (Jwv l i = 1)) ++ (Jbb (Jas c i).toNat).filter fun s => decide (Jdv (Jas c i).toNat s = 2)
def J94 (c : Circuit) (l : List Int) : List Psg := (List.range c.parts.length).flatMap fun i => ((opens c l i).map (netN c i)).map fun n => ⟨i, n, [], true⟩
def J92 (c : Circuit) (l : List Int) : List Psg := (J94 c l ++ (psgs c l).map fun y => (⟨y.part, y.to, y.fr, false⟩ : Psg)).filter fun y => !(prs c l).contains y.to
def vts (c : Circuit) (l : List Int) : List Nat := lfp (J92 c l) (nets c).length
def J8o (c : Circuit) (l : List Int) (n : Nat) : Int := if (prs c l).contains n then 2 else if (vts c l).contains n then 1 else 0
def states (c : Circuit) (l : List Int) : List Int := (List.range (nets c).length).map (J8o c l)
end Go.Am
namespace Go.Am
open Go Go.Proofs Go.Pn
theorem Jvm {α : Type} {l : List α} (h : l.Nodup) {i j : Nat} {x : α} (hi : l[i]? = some x) (hj : l[j]? = some x) : i = j := by
 obtain ⟨h1, e1⟩ := gsI.1 hi
 obtain ⟨h2, e2⟩ := gsI.1 hj
 have hp := List.pairwise_iff_getElem.1 h
 rcases Nat.lt_trichotomy i j with h3 | h3 | h3
 . exact absurd (e1.trans e2.symm) (hp i j h1 h2 h3)
 . exact h3
 . exact absurd (e2.trans e1.symm) (hp j i h2 h1 h3)
theorem Jj0 {c : Circuit} (h : Jad c = 0) {i : Nat} {g : List Port} {p : Port} (e : (nets c)[i]? = some g) (hp : p ∈ g) : netP c p = i /\ p ∈ allP c := by
 have hroot : ∀ {k : Nat} {g : List Port}, (nets c)[k]? = some g -> p ∈ g -> (Jat (rt c) (allP c))[k]? = some (rt c p) /\ p ∈ allP c := by
   intro k g e hp
   rw [Jme h, List.getElem?_map, Option.map_eq_some_iff] at e
   obtain ⟨r, hr, rfl⟩ := e
   obtain ⟨h1, h2⟩ := List.mem_filter.1 hp
   have : rt c p = r := by simpa using h2
   rw [this]
   exact ⟨hr, h1⟩
 obtain ⟨r1, ha⟩ := hroot e hp
 obtain ⟨j, g2, k1, k2, k3⟩ := Jpl h ha
 obtain ⟨r2, _⟩ := hroot k2 k3
 rw [k1, Jvm Jkb r2 r1]
 exact ⟨rfl, ha⟩
theorem J47 {c : Circuit} (h : Jad c = 0) {i : Nat} {g : List Port} {j : Int} {s : Txt} (e : (nets c)[i]? = some g) (hp : (⟨j, s⟩ : Port) ∈ g) : netN c j s = i := by
 unfold netN
 rw [(Jj0 h e hp).1]
 omega
theorem Jvi {c : Circuit} (h : Jad c = 0) {j : Int} {s : Txt} (hp : (⟨j, s⟩ : Port) ∈ allP c) : ∃ g, (nets c)[netN c j s]? = some g /\ (⟨j, s⟩ : Port) ∈ g := by
 obtain ⟨i, g, h1, h2, h3⟩ := Jpl h hp
 refine ⟨g, ?_, h3⟩
 unfold netN
 rw [h1, Int.toNat_natCast]
 exact h2
end Go.Am
namespace Go.Am
open Go Go.Proofs Go.Pn
theorem J93 {k : Nat} (h : k < 14) (b : Bool) : (∀ s ∈ Jne k b, s ∈ Jbb k) /\ (∀ s ∈ Jbb k, s ≠ [] /\ Jd5 k s = Jdv k s) := by
 have t1 := (by decide +kernel : ∀ k, k < 14 -> (∀ s ∈ Jne k true, s ∈ Jbb k)) k h
 have t2 := (by decide +kernel : ∀ k, k < 14 -> (∀ s ∈ Jne k false, s ∈ Jbb k)) k h
 have t3 := (by decide +kernel : ∀ k, k < 14 -> ∀ s ∈ Jbb k, s ≠ [] /\ Jd5 k s = Jdv k s) k h
 cases b
 . exact ⟨t2, t3⟩
 . exact ⟨t1, t3⟩
end Go.Am
namespace Go.Am
open Go Go.Proofs Go.Pn
end Go.Am
namespace Go.Am
open Go Go.Proofs Go.Pn
end Go.Am
namespace Go.Am
open Go Go.Proofs Go.Pn
end Go.Am
namespace Go.Am
open Go Go.Proofs Go.Pn
end Go.Am
namespace Go.Am
open Go Go.Proofs Go.Pn
end Go.Am
namespace Go.Am
open Go Go.Proofs Go.Pn
end Go.Am
namespace Go.Am
open Go Go.Proofs Go.Pn
def Jec : List (Port × Nat) -> Port -> Option Nat
 | [], _ => none
 | (a, n) :: es, p => if a = p then some n else Jec es p
theorem Jo0 {p : Port} {n : Nat} : ∀ {es : List (Port × Nat)}, Jec es p = some n -> (p, n) ∈ es
 | [], h => by cases h
 | (a, m) :: es, h => by
   simp only [Jec] at h
   split at h
   . rename_i e; cases h; subst e; simp
   . exact List.mem_cons_of_mem _ (Jo0 h)
theorem Jo1 {p : Port} {n : Nat} : ∀ {es : List (Port × Nat)}, (p, n) ∈ es -> Jec es p ≠ none
 | [], h => by cases h
 | (a, m) :: es, h => by
   simp only [Jec]
   split
   . simp
   . rename_i e
     rcases List.mem_cons.1 h with h | h
     . cases h; exact absurd rfl e
     . exact Jo1 h
def Jds (c : Circuit) : Nat -> List (Port × Nat)
 | 0 => []
 | k + 1 => Jds c k ++ match (nets c)[k]? with | some g => g.map (·, k) | none => []
def pairs (c : Circuit) : List (Port × Nat) := Jds c (nets c).length
def Jev (c : Circuit) (k : Nat) (g : List Port) (j : Nat) : List (Port × Nat) := Jds c k ++ (g.take j).map (·, k)
theorem J62 {c : Circuit} {k : Nat} {g : List Port} : Jev c k g 0 = Jds c k := by simp [Jev]
theorem J61 {c : Circuit} {k j : Nat} {g : List Port} {p : Port} (e : g[j]? = some p) : Jev c k g (j + 1) = Jev c k g j ++ [(p, k)] := by
 unfold Jev
 rw [take_snoc e]; simp
theorem J60 {c : Circuit} {k : Nat} {g : List Port} (e : (nets c)[k]? = some g) : Jev c k g g.length = Jds c (k + 1) := by
 simp only [Jev, Jds, e, List.take_length]
theorem Jj4 {c : Circuit} {p : Port} {n : Nat} : ∀ {k : Nat}, (p, n) ∈ Jds c k ↔ n < k /\ ∃ g, (nets c)[n]? = some g /\ p ∈ g
 | 0 => by simp [Jds]
 | k + 1 => by
   simp only [Jds, List.mem_append]
   rw [Jj4 (k := k)]
   constructor
   . rintro (⟨h1, h2⟩ | h)
     . exact ⟨by omega, h2⟩
     . split at h
       . rename_i g e
         obtain ⟨q, hq, hh⟩ := List.mem_map.1 h
         cases hh
         exact ⟨by omega, g, e, hq⟩
       . cases h
   . rintro ⟨h1, g, e, hp⟩
     by_cases hn : n = k
     . subst hn
       right
       rw [e]
       exact List.mem_map.2 ⟨p, hp, rfl⟩
     . exact .inl ⟨by omega, g, e, hp⟩
theorem Jvl {c : Circuit} (h : Jad c = 0) {g : List Port} (hg : g ∈ nets c) : g.Nodup := by
 rw [Jme h] at hg
 obtain ⟨r, _, rfl⟩ := List.mem_map.1 hg
 exact (Jf4 (Jc7 h).1).filter _
theorem J63 {c : Circuit} (h : Jad c = 0) {k j : Nat} {g : List Port} {p : Port} (eg : (nets c)[k]? = some g) (e : g[j]? = some p) : Jec (Jev c k g j) p = none := by
 cases hf : Jec (Jev c k g j) p with
 | none => rfl
 | some n =>
   exfalso
   have hm := Jo0 hf
   unfold Jev at hm
   rcases List.mem_append.1 hm with hm | hm
   . obtain ⟨hn, g', e', hp⟩ := Jj4.1 hm
     have h1 := (Jj0 h e' hp).1
     have h2 := (Jj0 h eg (List.mem_of_getElem? e)).1
     omega
   . obtain ⟨q, hq, hh⟩ := List.mem_map.1 hm
     cases hh
     obtain ⟨i, hi, ei⟩ := List.getElem_of_mem hq
     have hi2 : i < j := by simp at hi; omega
     have : g[i]? = some p := by
       rw [<- List.getElem?_take_of_lt hi2, List.getElem?_eq_getElem hi, ei]
     have := Jvm (Jvl h (List.mem_of_getElem? eg)) this e
     omega
theorem J3d {c : Circuit} (h : Jad c = 0) {i : Int} {s : Txt} (hp : (⟨i, s⟩ : Port) ∈ allP c) : Jec (pairs c) ⟨i, s⟩ = some (netN c i s) := by
 obtain ⟨g, e, hg⟩ := Jvi h hp
 have hlt := (J46 h hp).2
 have hm : ((⟨i, s⟩ : Port), netN c i s) ∈ pairs c := Jj4.2 ⟨hlt, g, e, hg⟩
 cases hf : Jec (pairs c) ⟨i, s⟩ with
 | none => exact absurd hf (Jo1 hm)
 | some n =>
   obtain ⟨_, g', e', hp'⟩ := Jj4.1 (Jo0 hf)
   rw [J47 h e' hp']
end Go.Am
namespace Go.Am
open Go Go.Proofs Go.Pn
def Jph (l : List Nat) : List Int := l.map fun (n : Nat) => (n : Int)
@[simp] def Psg.enc (y : Psg) : List PV := [.int .i64 y.part, .int .i64 y.to, .lst 1 ((Jph y.fr).map Int.enc), .bool y.all]
@[simp] def Psg.row (y : Psg) : List AV := [.p (.int .i64 y.part), .p (.int .i64 y.to), .p (.lst 1 ((Jph y.fr).map Int.enc)), .p (.bool y.all)]
@[simp] def Psg.av (y : Psg) : AV := .agg [.p (.int .i64 y.part), .p (.int .i64 y.to), .p (.lst 1 ((Jph y.fr).map Int.enc)), .p (.bool y.all)]
end Go.Am
namespace Go.Am
open Go Go.Proofs Go.Pn
@[simp] theorem Kbt : (List.range 2)[0]? = some 0 := rfl
@[simp] theorem Kbu : (List.range 2)[1]? = some 1 := rfl
@[simp] theorem Kbw : (List.range 3)[0]? = some 0 := rfl
@[simp] theorem Kbx : (List.range 3)[1]? = some 1 := rfl
@[simp] theorem Kby : (List.range 3)[2]? = some 2 := rfl
@[simp] theorem Kbv : (List.range 2).Nodup := List.nodup_range
@[simp] theorem Kbz : (List.range 3).Nodup := List.nodup_range
end Go.Am
namespace Go.Am
open Go Go.Proofs Go.Pn
end Go.Am
namespace Go.Am
open Go Go.Proofs Go.Pn
end Go.Am
namespace Go.Am
open Go Go.Proofs Go.Pn
section
variable {P : Program} {G : Jae} {N n0 : Nat}
end
@[simp] def Kcw : Option ABlk -> Nat
 | some (.cells _ ([_, _, z, _] :: _)) => nameOf z
 | _ => 0
end Go.Am
namespace Go.Am
open Go Go.Proofs Go.Pn
end Go.Am
namespace Go.Am
open Go Go.Proofs Go.Pn
end Go.Am
namespace Go.Am
open Go Go.Proofs Go.Pn
end Go.Am
namespace Go.Am
open Go Go.Proofs Go.Pn
end Go.Am
namespace Go.Am
open Go Go.Proofs Go.Pn
@[simp] theorem Kb0 : (List.range 6)[0]? = some 0 := rfl
@[simp] theorem Kb1 : (List.range 6)[1]? = some 1 := rfl
@[simp] theorem Kb2 : (List.range 6)[2]? = some 2 := rfl
@[simp] theorem Kb3 : (List.range 6)[3]? = some 3 := rfl
@[simp] theorem Kb4 : (List.range 6)[4]? = some 4 := rfl
@[simp] theorem Kb5 : (List.range 6)[5]? = some 5 := rfl
@[simp] theorem Kb6 : (List.range 6).Nodup := List.nodup_range
end Go.Am
namespace Go.Am
open Go Go.Proofs Go.Pn
theorem SR.ahead {G F φ s w} (h : SR G F φ s w) : ∀ n, SR G F φ s (Sort.ahead w n)
 | 0 => h
 | n + 1 => by rw [<- Sort.ahead_drew]; exact (SR.ahead h n).drew
theorem Jx1 {own : Nat -> Prop} {w : World} : ∀ n, Step own own w (Sort.ahead w n)
 | 0 => Step.refl _ _
 | n + 1 => by rw [<- Sort.ahead_drew]; exact (Jx1 n).trans Jkh
theorem Jx4 {own : Nat -> Prop} {w : World} (os : Array Obj) : Step own own w (Sort.grow w os) where
 keep := fun β hβ ho => ⟨Sort.heap_grow_old w os hβ, ho⟩
 size := by simp [Sort.grow]
 shape := fun β arr T h => ⟨arr, by rw [Sort.heap_grow_old w os (Array.getElem?_eq_some_iff.1 h).1]; exact h, rfl⟩
 os := rfl
 tape := rfl
 output := rfl
theorem SR.grow {G F φ s w} (h : SR G F φ s w) (os : Array Obj) : SR G F φ s (Sort.grow w os) := by
 refine h.change (fun _ _ h => h) (Jx4 os) (fun b x hb => .inl ⟨hb, fun p hp => ?_⟩) h.inj h.disj
 obtain ⟨p', h1, h2⟩ := (h.blk b x hb).place
 rw [hp] at h1; cases h1
 exact Sort.heap_grow_old w os h2
end Go.Am
namespace Go.Am
open Go Go.Proofs Go.Shelf
end Go.Am
namespace Go.Am
open Go Go.Proofs Go.Pn
end Go.Am
namespace Go.Am
open Go Go.Proofs Go.Pn
end Go.Am
namespace Go.Am
open Go Go.Proofs Go.Pn
end Go.Am
namespace Go.Am
open Go Go.Proofs Go.Pn
section
variable {P : Program} {G : Jae} {N n0 : Nat}
@[simp] theorem Kcu {K : St -> Prop} {Q : Exit -> St -> Prop} {st : St} : Jfe K Q .normal st = K st := rfl
end
end Go.Am
namespace Go.Am
open Go Go.Proofs Go.Pn
end Go.Am
namespace Go.Am
open Go Go.Proofs Go.Pn
structure AskedV where
 port : Port
 nm : Txt
@[simp] def AskedV.av (x : AskedV) : AV := .agg [.p (.int .i64 x.port.part), .p (.str x.port.name), .p (.str x.nm)]
end Go.Am
namespace Go.Am
open Go Go.Proofs Go.Pn
end Go.Am
namespace Go.Am
open Go Go.Proofs Go.Pn
end Go.Am
namespace Go.Am
open Go Go.Proofs Go.Pn
end Go.Am
namespace Go.Am
open Go Go.Proofs Go.Pn
end Go.Am
