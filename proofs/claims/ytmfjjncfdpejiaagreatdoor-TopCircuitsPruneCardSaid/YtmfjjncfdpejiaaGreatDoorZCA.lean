/- Lemmas and contracts for the proof of a statement of this seat. -/
import Derived.Test.YtmfjjncfdpejiaaGreatDoorZC7
import Derived.Test.YtmfjjncfdpejiaaGreatDoorZCP
import Derived.Test.YtmfjjncfdpejiaaGreatDoorZS2
import Derived.Test.YtmfjjncfdpejiaaGreatDoorZA5
import Derived.Sort.Grow
import Derived.Shelf.SortM.Plain
import Derived.Shelf.SortM.SortNone
import Derived.Ground.SlgmProg
set_option linter.unusedVariables false
set_option linter.unusedSimpArgs false
namespace Go.Am
open Go Go.Proofs Go.Pn
end Go.Am
namespace Go.Pn
open Go Go.Proofs Go.Am
@[simp] def Pass.enc (p : Pass) : List PV := [.str p.to, .lst 1 (p.fr.map Txt.enc), .bool p.all]
end Go.Pn
namespace Go.Am
open Go Go.Proofs Go.Pn
theorem J8y {c : Circuit} (h : Jad c = 0) {p : Port} (hp : p ∈ allP c) : Jd8 c p = 0 /\ ∃ (i : Nat) (g : List Port), netP c p = i /\ i < (nets c).length /\ (nets c)[i]? = some g /\ p ∈ g /\ g.length < 100000 := by
 refine ⟨Jfy.1 hp, ?_⟩
 obtain ⟨i, g, h1, h2, h3⟩ := Jq6 h hp
 exact ⟨i, g, h1, (gsI.1 h2).1, h2, h3, by have := (Jxl h).2 g (List.mem_of_getElem? h2); omega⟩
end Go.Am
namespace Go.Am
open Go Go.Proofs Go.Pn
end Go.Am
namespace Go.Am
open Go Go.Proofs Go.Pn
theorem J4s {k : Nat} (h : k < 14) : (catRow k)[9]? = some (.p (.int .i64 (J8f k))) /\ (catRow k)[7]? = some (.p (.str (Jyo k).1)) /\ (catRow k)[8]? = some (.p (.str (Jyo k).2)) /\
   ((catRow k).drop 2).take 5 = (Jbr k).map (fun l => .p (.lst 1 (l.map Txt.enc))) /\ (Jbr k).length = 5 := by
 rcases (by omega : k = 0 \/ k = 1 \/ k = 2 \/ k = 3 \/ k = 4 \/ k = 5 \/ k = 6 \/ k = 7 \/ k = 8 \/ k = 9 \/ k = 10 \/ k = 11 \/ k = 12 \/ k = 13) with rfl|rfl|rfl|rfl|rfl|rfl|rfl|rfl|rfl|rfl|rfl|rfl|rfl|rfl <;> exact ⟨rfl, rfl, rfl, rfl, rfl⟩
end Go.Am
namespace Go.Am
open Go Go.Proofs Go.Pn
theorem Jyz {α : Type} {f : α -> AV} (h : ∀ x, Jaq (f x) = true) : ∀ {l : List α}, Ja2 (l.map f) = true
 | [] => rfl
 | x :: l => by simp [Ja2, h x, Jyz h (l := l)]
def Jdy (k : Nat) (s : Txt) : Int := idxI (Jbr k) fun l => decide (s ∈ l)
theorem Jul (k : Int) (s : Txt) (hk : 0 <= k /\ k < 14) : Pure Tryz.prog GL 95 [.p (.int .i64 k), .p (.str s)] (.tup [.p (.int .i64 (if Jdy k.toNat s < 0 then 0 else Jdy k.toNat s)), .p (.int .i64 (if Jdy k.toNat s < 0 then 6 else 0))]) := by
 refine Pure.of_walk (N := 29) Tryz.func95 rfl rfl rfl (by simp) (by first | (simp; done) | simp [*]) ?_
 simp
 refine Jab (Jpo k) ?_
 have h3 : Jbw k = 0 := Jhq.2 hk
 have hl := Jhd (k := k.toNat)
 have h6 := Jhe (k := k.toNat)
 obtain ⟨f1, f2, f3, f4, f5⟩ := J4s (k := k.toNat) (by omega)
 have hsh : ∀ l ∈ Jbr k.toNat, l.length < 100 := (by decide : ∀ k, k < 14 -> ∀ l ∈ Jbr k, l.length < 100) k.toNat (by omega)
 simp [h3, hl, Jgx]
 refine ⟨by simpa using h6, ?_⟩
 have hren := fun ρ => Jrv (ρ := ρ) (Jyz (f := fun l : List Txt => AV.p (PV.lst 1 (l.map Txt.enc))) (fun _ => rfl) (l := Jbr k.toNat))
 simp [f4]
 refine Jaj.go [1, 19] [] 0 [] (fun _ => []) (fun _ (r : Nat) => [(20, .p (.int .i64 r))]) (fun _ _ => []) (fun r => r <= 5 /\ ∀ (j : Nat) x, j < r -> (Jbr k.toNat)[j]? = some x -> decide (s ∈ x) = false) (fun r => 5 - r) 0 ⟨by omega, fun j x h => by omega⟩ ?_ ?_
 . simp [hren]
 . rintro r ⟨hr, hp⟩
   simp
   refine Jac (fun h => ?_) (fun h => ?_)
   . simp at h
     obtain ⟨x, e⟩ := Jah (xs := Jbr k.toNat) (k := r) (by omega)
     simp [h, e, f5, -getElem?_pos, List.getElem?_cons_zero, List.getElem?_cons_succ]
     refine Jab (Jtx x s (by have := hsh x (List.mem_of_getElem? e); omega)) ?_
     simp
     by_cases h2 : s ∈ x
     . have hro : Jdy k.toNat s = r := Jeu (q := fun l => decide (s ∈ l)) e (by simpa using h2) hp
       have h0 : ¬ (r : Int) < 0 := by omega
       simp [h2]
       simp [Jaa, hro, h0]
     . simp [h2]
       refine ⟨wrap_i64 (by omega) (by omega), r + 1, ⟨by omega, ?_⟩, by omega, ?_⟩
       . simpa using Jdg (P := fun l => decide (s ∈ l) = false) hp e (by simpa using h2)
       . simp [hren]
   . simp at h
     have h7 : r = (Jbr k.toNat).length := by omega
     subst h7
     have hro : Jdy k.toNat s = -1 := Je9 (q := fun l => decide (s ∈ l)) (Jeh hp)
     simp [Jaa, hro]
end Go.Am
namespace Go.Am
open Go Go.Proofs Go.Pn
theorem J2o (xs : List Int) (q : Int -> Bool) (m : Nat) (cap : List AV) (hcap : Ja2 cap = true) (hl : xs.length < 4611686018427387904) (hq : ∀ x ∈ xs, Pure Tryz.prog GL m ((Int.av x) :: cap) (.p (.bool (q x)))) : Pure Tryz.prog GL 268 [.p (.lst 1 (xs.map Int.enc)), .fn (.func m) cap] (.p (.int .i64 (idxI xs q))) := by
 refine Pure.of_walk (N := 19) Tryz.func268 rfl rfl rfl (by simp) (by first | (simp; done) | simp [*]) ?_
 have hren := fun ρ => (Jec (ρ := ρ)).2 cap hcap
 simp
 refine Jaj.go [0, 1, 7] [] 0 [] (fun _ => []) (fun _ (k : Nat) => [(8, .p (.int .i64 k))]) (fun _ _ => []) (fun k => k <= xs.length /\ ∀ (j : Nat) x, j < k -> xs[j]? = some x -> q x = false) (fun k => xs.length - k) 0 ⟨by omega, fun j b h => by omega⟩ ?_ ?_
 . simp [hren]
 . rintro k ⟨hk, hp⟩
   simp
   refine Jac (fun h => ?_) (fun h => ?_)
   . simp at h
     obtain ⟨x, e⟩ := Jah h
     simp [h, e, -getElem?_pos, List.getElem?_cons_zero, List.getElem?_cons_succ]
     refine Jab (hq x (List.mem_of_getElem? e)) ?_
     simp
     refine Jac (fun h2 => ?_) (fun h2 => ?_)
     . simp [Jaa, Jeu e h2 hp]
     . simp [hren]
       refine ⟨wrap_i64 (by omega) (by omega), k + 1, ⟨by omega, Jdg hp e h2⟩, by omega, ?_⟩
       simp [hren]
   . simp at h
     have hk2 : k = xs.length := by omega
     subst hk2
     simp [Jaa, Je9 (Jeh hp)]
theorem Kex (xs : List Int) (q : Int -> Bool) (m : Nat) (cap : List AV) (hcap : Ja2 cap = true) (hl : xs.length < 4611686018427387904) (hq : ∀ x ∈ xs, Pure Tryz.prog GL m ((Int.av x) :: cap) (.p (.bool (q x)))) : Pure Tryz.prog GL 210 [.p (.lst 1 (xs.map Int.enc)), .fn (.func m) cap] (.p (.bool (xs.any q))) := by
 refine Pure.of_walk (N := 9) Tryz.func210 rfl rfl rfl (by simp) (by first | (simp; done) | simp [*]) ?_
 simp
 refine Jab (J2o xs q m cap hcap hl hq) ?_
 simp [Jaa]
 rw [Bool.eq_iff_iff]
 simp [Jho]
theorem J2q (xs : List Int) (v : Int) (hl : xs.length < 4611686018427387904) : Pure Tryz.prog GL 141 [.p (.lst 1 (xs.map Int.enc)), Int.av v] (.p (.int .i64 (idxI xs fun x => decide (x = v)))) := by
 refine Pure.of_walk (N := 19) Tryz.func141 rfl rfl rfl (by simp) (by first | (simp; done) | simp [*]) ?_
 simp
 refine Jaj.go [0, 1, 7] [] 0 [] (fun _ => []) (fun _ (k : Nat) => [(8, .p (.int .i64 k))]) (fun _ _ => []) (fun k => k <= xs.length /\ ∀ (j : Nat) x, j < k -> xs[j]? = some x -> decide (x = v) = false) (fun k => xs.length - k) 0 ⟨by omega, fun j b h => by omega⟩ ?_ ?_
 . simp
 . rintro k ⟨hk, hp⟩
   simp
   refine Jac (fun h => ?_) (fun h => ?_)
   . simp at h
     obtain ⟨x, e⟩ := Jah h
     skip
     simp [h, e, -getElem?_pos, List.getElem?_cons_zero, List.getElem?_cons_succ]
     skip
     refine Jac (fun h2 => ?_) (fun h2 => ?_)
     . have h3 : decide (x = v) = true := by grind
       simp [Jaa, Jeu (q := fun x => decide (x = v)) e h3 hp]
     . have h3 : decide (x = v) = false := by grind
       simp
       refine ⟨wrap_i64 (by omega) (by omega), k + 1, ⟨by omega, ?_⟩, by omega, ?_⟩
       . simpa using Jdg (P := fun x => decide (x = v) = false) hp e h3
       . simp
   . simp at h
     have hk2 : k = xs.length := by omega
     subst hk2
     simp [Jaa, Je9 (q := fun x => decide (x = v)) (Jeh hp)]
theorem Jtw (xs : List Int) (v : Int) (hl : xs.length < 4611686018427387904) : Pure Tryz.prog GL 61 [.p (.lst 1 (xs.map Int.enc)), Int.av v] (.p (.bool (decide (v ∈ xs)))) := by
 refine Pure.of_walk (N := 9) Tryz.func61 rfl rfl rfl (by simp) (by first | (simp; done) | simp [*]) ?_
 simp
 refine Jab (J2q xs v hl) ?_
 simp [Jaa, Jho]
end Go.Am
namespace Go.Am
open Go Go.Proofs Go.Pn
@[simp] abbrev Ints.av (l : List Int) : AV := .p (.lst 1 (l.map Int.enc))
end Go.Am
namespace Go.Am
open Go Go.Proofs Go.Pn
def netN (c : Circuit) (i : Int) (s : Txt) : Nat := (netP c ⟨i, s⟩).toNat
theorem J8u {c : Circuit} (h : Jad c = 0) {i : Int} {s : Txt} (hp : (⟨i, s⟩ : Port) ∈ allP c) : netP c ⟨i, s⟩ = netN c i s /\ netN c i s < (nets c).length := by
 obtain ⟨_, n, g, h1, h2, _⟩ := J8y h hp
 unfold netN
 rw [h1]
 exact ⟨by omega, by omega⟩
end Go.Am
namespace Go.Am
open Go Go.Proofs Go.Pn
def Jyu (l : List Int) (i : Int) : Int := (l[i.toNat]?).getD 0
def Ka0 (c : Circuit) (l : List Int) (i : Int) : List Pass := Ka1 (Jal c i).toNat (decide (Jyu l i = 1))
end Go.Am
namespace Go.Am
open Go Go.Proofs Go.Pn
structure Psg where
 part : Int
 to : Nat
 fr : List Nat
 all : Bool
 deriving DecidableEq
def Jhk (S : Nat -> Bool) (y : Psg) : Bool := if y.all then y.fr.all S else y.fr.any S
theorem J6m {S T : Nat -> Bool} (h : ∀ n, S n = true -> T n = true) {y : Psg} (hf : Jhk S y = true) : Jhk T y = true := by
 unfold Jhk at *
 split at hf
 . rename_i ha
   rw [if_pos ha]
   rw [List.all_eq_true] at hf ⊢
   exact fun x hx => h x (hf x hx)
 . rename_i ha
   rw [if_neg ha]
   rw [List.any_eq_true] at hf ⊢
   obtain ⟨x, hx, hs⟩ := hf
   exact ⟨x, hx, h x hs⟩
def grow (ps : List Psg) : Nat -> List Nat -> List Nat
 | 0, l => l
 | k + 1, l => match ps.find? fun y => !l.contains y.to && Jhk l.contains y with
   | some y => grow ps k (y.to :: l)
   | none => l
def lfp (ps : List Psg) (N : Nat) : List Nat := grow ps (N + 1) []
def Jlx (ps : List Psg) (S : Nat -> Bool) : Prop := ∀ y ∈ ps, Jhk S y = true -> S y.to = true
theorem Jv8 {ps : List Psg} {N : Nat} (hN : ∀ y ∈ ps, y.to < N) : ∀ {k : Nat} {l : List Nat}, l.Nodup -> (∀ n ∈ l, n < N) -> N < k + l.length -> Jlx ps (grow ps k l).contains
 | 0, l, hn, hl, hk => by
   have := Jfm (m := List.range N) hn fun x hx => List.mem_range.2 (hl x hx)
   rw [List.length_range] at this
   omega
 | k + 1, l, hn, hl, hk => by
   unfold grow
   split
   . rename_i y hy
     have h1 := List.find?_some hy
     have h2 := List.mem_of_find?_eq_some hy
     simp only [Bool.and_eq_true, Bool.not_eq_true'] at h1
     have hne : y.to ∉ l := fun h => by have := List.contains_iff_mem.2 h; rw [h1.1] at this; cases this
     refine Jv8 hN (List.nodup_cons.2 ⟨hne, hn⟩) (fun n hm => ?_) (by simp; omega)
     rcases List.mem_cons.1 hm with rfl | hm
     . exact hN y h2
     . exact hl n hm
   . rename_i hy
     intro y hm hf
     have := List.find?_eq_none.1 hy y hm
     simp only [Bool.and_eq_true, Bool.not_eq_true', not_and] at this
     cases hc : l.contains y.to with
     | true => rfl
     | false => exact absurd hf (this hc)
theorem Jv9 {ps : List Psg} {S : Nat -> Bool} (hS : Jlx ps S) : ∀ {k : Nat} {l : List Nat}, (∀ n ∈ l, S n = true) -> ∀ n ∈ grow ps k l, S n = true
 | 0, l, hl => hl
 | k + 1, l, hl => by
   unfold grow
   split
   . rename_i y hy
     have h1 := List.find?_some hy
     have h2 := List.mem_of_find?_eq_some hy
     simp only [Bool.and_eq_true, Bool.not_eq_true'] at h1
     refine Jv9 hS fun n hm => ?_
     rcases List.mem_cons.1 hm with rfl | hm
     . exact hS y h2 (J6m (fun n hn => hl n (List.contains_iff_mem.1 hn)) h1.2)
     . exact hl n hm
   . exact hl
theorem Jw2 {ps : List Psg} {N : Nat} (hN : ∀ y ∈ ps, y.to < N) : Jlx ps (lfp ps N).contains := Jv8 hN List.nodup_nil (by simp) (by simp)
theorem Jw3 {ps : List Psg} {N : Nat} {S : Nat -> Bool} (hS : Jlx ps S) : ∀ n ∈ lfp ps N, S n = true := Jv9 hS (by simp)
def Kbn (c : Circuit) (l : List Int) (i : Nat) : List Psg := (Ka0 c l i).map fun y => ⟨i, netN c i y.to, y.fr.map (netN c i), y.all⟩
def psgs (c : Circuit) (l : List Int) : List Psg := (List.range c.parts.length).flatMap (Kbn c l)
def Kcz (c : Circuit) : List Psg := ((List.range c.parts.length).filter fun (i : Nat) => decide (Jal c (i : Int) = 0)).map fun (i : Nat) => ⟨i, netN c i t1, [], true⟩
def prs (c : Circuit) (l : List Int) : List Nat := lfp (Kcz c ++ psgs c l) (nets c).length
def opens (c : Circuit) (l : List Int) (i : Nat) : List Txt := Joq (Jal c i).toNat (decide (Jyu l i = 1)) ++ (Jbc (Jal c i).toNat).filter fun s => decide (Jdy (Jal c i).toNat s = 2)
def Kea (c : Circuit) (l : List Int) : List Psg := (List.range c.parts.length).flatMap fun i => ((opens c l i).map (netN c i)).map fun n => ⟨i, n, [], true⟩
def Kd7 (c : Circuit) (l : List Int) : List Psg := (Kea c l ++ (psgs c l).map fun y => (⟨y.part, y.to, y.fr, false⟩ : Psg)).filter fun y => !(prs c l).contains y.to
def vts (c : Circuit) (l : List Int) : List Nat := lfp (Kd7 c l) (nets c).length
def Kct (c : Circuit) (l : List Int) (n : Nat) : Int := if (prs c l).contains n then 2 else if (vts c l).contains n then 1 else 0
def states (c : Circuit) (l : List Int) : List Int := (List.range (nets c).length).map (Kct c l)
end Go.Am
namespace Go.Am
open Go Go.Proofs Go.Pn
theorem Jxo {α : Type} {l : List α} (h : l.Nodup) {i j : Nat} {x : α} (hi : l[i]? = some x) (hj : l[j]? = some x) : i = j := by
 obtain ⟨h1, e1⟩ := gsI.1 hi
 obtain ⟨h2, e2⟩ := gsI.1 hj
 have hp := List.pairwise_iff_getElem.1 h
 rcases Nat.lt_trichotomy i j with h3 | h3 | h3
 . exact absurd (e1.trans e2.symm) (hp i j h1 h2 h3)
 . exact h3
 . exact absurd (e2.trans e1.symm) (hp j i h2 h1 h3)
theorem Jkt {c : Circuit} (h : Jad c = 0) {i : Nat} {g : List Port} {p : Port} (e : (nets c)[i]? = some g) (hp : p ∈ g) : netP c p = i /\ p ∈ allP c := by
 have hroot : ∀ {k : Nat} {g : List Port}, (nets c)[k]? = some g -> p ∈ g -> (Jbf (rt c) (allP c))[k]? = some (rt c p) /\ p ∈ allP c := by
   intro k g e hp
   rw [Jnj h, List.getElem?_map, Option.map_eq_some_iff] at e
   obtain ⟨r, hr, rfl⟩ := e
   obtain ⟨h1, h2⟩ := List.mem_filter.1 hp
   have : rt c p = r := by simpa using h2
   rw [this]
   exact ⟨hr, h1⟩
 obtain ⟨r1, ha⟩ := hroot e hp
 obtain ⟨j, g2, k1, k2, k3⟩ := Jq6 h ha
 obtain ⟨r2, _⟩ := hroot k2 k3
 rw [k1, Jxo Jr0 r2 r1]
 exact ⟨rfl, ha⟩
theorem J8v {c : Circuit} (h : Jad c = 0) {i : Nat} {g : List Port} {j : Int} {s : Txt} (e : (nets c)[i]? = some g) (hp : (⟨j, s⟩ : Port) ∈ g) : netN c j s = i := by
 unfold netN
 rw [(Jkt h e hp).1]
 omega
theorem Jxk {c : Circuit} (h : Jad c = 0) {j : Int} {s : Txt} (hp : (⟨j, s⟩ : Port) ∈ allP c) : ∃ g, (nets c)[netN c j s]? = some g /\ (⟨j, s⟩ : Port) ∈ g := by
 obtain ⟨i, g, h1, h2, h3⟩ := Jq6 h hp
 refine ⟨g, ?_, h3⟩
 unfold netN
 rw [h1, Int.toNat_natCast]
 exact h2
end Go.Am
namespace Go.Am
open Go Go.Proofs Go.Pn
theorem Kd9 {k : Nat} (h : k < 14) (b : Bool) : (∀ s ∈ Joq k b, s ∈ Jbc k) /\ (∀ s ∈ Jbc k, s ≠ [] /\ Jdl k s = Jdy k s) := by
 have t1 := (by decide +kernel : ∀ k, k < 14 -> (∀ s ∈ Joq k true, s ∈ Jbc k)) k h
 have t2 := (by decide +kernel : ∀ k, k < 14 -> (∀ s ∈ Joq k false, s ∈ Jbc k)) k h
 have t3 := (by decide +kernel : ∀ k, k < 14 -> ∀ s ∈ Jbc k, s ≠ [] /\ Jdl k s = Jdy k s) k h
 cases b
 . exact ⟨t2, t3⟩
 . exact ⟨t1, t3⟩
end Go.Am
namespace Go.Am
open Go Go.Proofs Go.Pn
end Go.Am
namespace Go.Am
open Go Go.Proofs Go.Pn
end Go.Am
namespace Go.Am
open Go Go.Proofs Go.Pn
end Go.Am
namespace Go.Am
open Go Go.Proofs Go.Pn
end Go.Am
namespace Go.Am
open Go Go.Proofs Go.Pn
end Go.Am
namespace Go.Am
open Go Go.Proofs Go.Pn
end Go.Am
namespace Go.Am
open Go Go.Proofs Go.Pn
def Jek : List (Port × Nat) -> Port -> Option Nat
 | [], _ => none
 | (a, n) :: es, p => if a = p then some n else Jek es p
theorem Jqf {p : Port} {n : Nat} : ∀ {es : List (Port × Nat)}, Jek es p = some n -> (p, n) ∈ es
 | [], h => by cases h
 | (a, m) :: es, h => by
   simp only [Jek] at h
   split at h
   . rename_i e; cases h; subst e; simp
   . exact List.mem_cons_of_mem _ (Jqf h)
theorem Jqg {p : Port} {n : Nat} : ∀ {es : List (Port × Nat)}, (p, n) ∈ es -> Jek es p ≠ none
 | [], h => by cases h
 | (a, m) :: es, h => by
   simp only [Jek]
   split
   . simp
   . rename_i e
     rcases List.mem_cons.1 h with h | h
     . cases h; exact absurd rfl e
     . exact Jqg h
def Jdu (c : Circuit) : Nat -> List (Port × Nat)
 | 0 => []
 | k + 1 => Jdu c k ++ match (nets c)[k]? with | some g => g.map (·, k) | none => []
def pairs (c : Circuit) : List (Port × Nat) := Jdu c (nets c).length
def Jfc (c : Circuit) (k : Nat) (g : List Port) (j : Nat) : List (Port × Nat) := Jdu c k ++ (g.take j).map (·, k)
theorem Kas {c : Circuit} {k : Nat} {g : List Port} : Jfc c k g 0 = Jdu c k := by simp [Jfc]
theorem Kar {c : Circuit} {k j : Nat} {g : List Port} {p : Port} (e : g[j]? = some p) : Jfc c k g (j + 1) = Jfc c k g j ++ [(p, k)] := by
 unfold Jfc
 rw [take_snoc e]; simp
theorem Kaq {c : Circuit} {k : Nat} {g : List Port} (e : (nets c)[k]? = some g) : Jfc c k g g.length = Jdu c (k + 1) := by
 simp only [Jfc, Jdu, e, List.take_length]
theorem Jkw {c : Circuit} {p : Port} {n : Nat} : ∀ {k : Nat}, (p, n) ∈ Jdu c k ↔ n < k /\ ∃ g, (nets c)[n]? = some g /\ p ∈ g
 | 0 => by simp [Jdu]
 | k + 1 => by
   simp only [Jdu, List.mem_append]
   rw [Jkw (k := k)]
   constructor
   . rintro (⟨h1, h2⟩ | h)
     . exact ⟨by omega, h2⟩
     . split at h
       . rename_i g e
         obtain ⟨q, hq, hh⟩ := List.mem_map.1 h
         cases hh
         exact ⟨by omega, g, e, hq⟩
       . cases h
   . rintro ⟨h1, g, e, hp⟩
     by_cases hn : n = k
     . subst hn
       right
       rw [e]
       exact List.mem_map.2 ⟨p, hp, rfl⟩
     . exact .inl ⟨by omega, g, e, hp⟩
theorem Jxn {c : Circuit} (h : Jad c = 0) {g : List Port} (hg : g ∈ nets c) : g.Nodup := by
 rw [Jnj h] at hg
 obtain ⟨r, _, rfl⟩ := List.mem_map.1 hg
 exact (Jj9 (Jcx h).1).filter _
theorem Kat {c : Circuit} (h : Jad c = 0) {k j : Nat} {g : List Port} {p : Port} (eg : (nets c)[k]? = some g) (e : g[j]? = some p) : Jek (Jfc c k g j) p = none := by
 cases hf : Jek (Jfc c k g j) p with
 | none => rfl
 | some n =>
   exfalso
   have hm := Jqf hf
   unfold Jfc at hm
   rcases List.mem_append.1 hm with hm | hm
   . obtain ⟨hn, g', e', hp⟩ := Jkw.1 hm
     have h1 := (Jkt h e' hp).1
     have h2 := (Jkt h eg (List.mem_of_getElem? e)).1
     omega
   . obtain ⟨q, hq, hh⟩ := List.mem_map.1 hm
     cases hh
     obtain ⟨i, hi, ei⟩ := List.getElem_of_mem hq
     have hi2 : i < j := by simp at hi; omega
     have : g[i]? = some p := by
       rw [<- List.getElem?_take_of_lt hi2, List.getElem?_eq_getElem hi, ei]
     have := Jxo (Jxn h (List.mem_of_getElem? eg)) this e
     omega
theorem J6k {c : Circuit} (h : Jad c = 0) {i : Int} {s : Txt} (hp : (⟨i, s⟩ : Port) ∈ allP c) : Jek (pairs c) ⟨i, s⟩ = some (netN c i s) := by
 obtain ⟨g, e, hg⟩ := Jxk h hp
 have hlt := (J8u h hp).2
 have hm : ((⟨i, s⟩ : Port), netN c i s) ∈ pairs c := Jkw.2 ⟨hlt, g, e, hg⟩
 cases hf : Jek (pairs c) ⟨i, s⟩ with
 | none => exact absurd hf (Jqg hm)
 | some n =>
   obtain ⟨_, g', e', hp'⟩ := Jkw.1 (Jqf hf)
   rw [J8v h e' hp']
end Go.Am
namespace Go.Am
open Go Go.Proofs Go.Pn
def Jq2 (l : List Nat) : List Int := l.map fun (n : Nat) => (n : Int)
@[simp] def Psg.enc (y : Psg) : List PV := [.int .i64 y.part, .int .i64 y.to, .lst 1 ((Jq2 y.fr).map Int.enc), .bool y.all]
@[simp] def Psg.row (y : Psg) : List AV := [.p (.int .i64 y.part), .p (.int .i64 y.to), .p (.lst 1 ((Jq2 y.fr).map Int.enc)), .p (.bool y.all)]
@[simp] def Psg.av (y : Psg) : AV := .agg [.p (.int .i64 y.part), .p (.int .i64 y.to), .p (.lst 1 ((Jq2 y.fr).map Int.enc)), .p (.bool y.all)]
end Go.Am
namespace Go.Am
open Go Go.Proofs Go.Pn
@[simp] theorem Kfw : (List.range 2)[0]? = some 0 := rfl
@[simp] theorem Kfx : (List.range 2)[1]? = some 1 := rfl
@[simp] theorem Kfz : (List.range 3)[0]? = some 0 := rfl
@[simp] theorem Kf0 : (List.range 3)[1]? = some 1 := rfl
@[simp] theorem Kf1 : (List.range 3)[2]? = some 2 := rfl
@[simp] theorem Kfy : (List.range 2).Nodup := List.nodup_range
@[simp] theorem Kf2 : (List.range 3).Nodup := List.nodup_range
end Go.Am
namespace Go.Am
open Go Go.Proofs Go.Pn
end Go.Am
namespace Go.Am
open Go Go.Proofs Go.Pn
end Go.Am
namespace Go.Am
open Go Go.Proofs Go.Pn
section
variable {P : Program} {G : Jae} {N n0 : Nat}
end
@[simp] def Kgv : Option ABlk -> Nat
 | some (.cells _ ([_, _, z, _] :: _)) => nameOf z
 | _ => 0
end Go.Am
namespace Go.Am
open Go Go.Proofs Go.Pn
end Go.Am
namespace Go.Am
open Go Go.Proofs Go.Pn
end Go.Am
namespace Go.Am
open Go Go.Proofs Go.Pn
end Go.Am
namespace Go.Am
open Go Go.Proofs Go.Pn
end Go.Am
namespace Go.Am
open Go Go.Proofs Go.Pn
@[simp] theorem Kf3 : (List.range 6)[0]? = some 0 := rfl
@[simp] theorem Kf4 : (List.range 6)[1]? = some 1 := rfl
@[simp] theorem Kf5 : (List.range 6)[2]? = some 2 := rfl
@[simp] theorem Kf6 : (List.range 6)[3]? = some 3 := rfl
@[simp] theorem Kf7 : (List.range 6)[4]? = some 4 := rfl
@[simp] theorem Kf9 : (List.range 6)[5]? = some 5 := rfl
end Go.Am
namespace Go.Am
open Go Go.Proofs Go.Pn
theorem SR.ahead {G F φ s w} (h : SR G F φ s w) : ∀ n, SR G F φ s (Sort.ahead w n)
 | 0 => h
 | n + 1 => by rw [<- Sort.ahead_drew]; exact (SR.ahead h n).drew
theorem Jz2 {own : Nat -> Prop} {w : World} : ∀ n, Step own own w (Sort.ahead w n)
 | 0 => Step.refl _ _
 | n + 1 => by rw [<- Sort.ahead_drew]; exact (Jz2 n).trans Jlb
theorem Jz5 {own : Nat -> Prop} {w : World} (os : Array Obj) : Step own own w (Sort.grow w os) where
 keep := fun β hβ ho => ⟨Sort.heap_grow_old w os hβ, ho⟩
 size := by simp [Sort.grow]
 shape := fun β arr T h => ⟨arr, by rw [Sort.heap_grow_old w os (Array.getElem?_eq_some_iff.1 h).1]; exact h, rfl⟩
 os := rfl
 tape := rfl
 output := rfl
theorem SR.grow {G F φ s w} (h : SR G F φ s w) (os : Array Obj) : SR G F φ s (Sort.grow w os) := by
 refine h.change (fun _ _ h => h) (Jz5 os) (fun b x hb => .inl ⟨hb, fun p hp => ?_⟩) h.inj h.disj
 obtain ⟨p', h1, h2⟩ := (h.blk b x hb).place
 rw [hp] at h1; cases h1
 exact Sort.heap_grow_old w os h2
end Go.Am
namespace Go.Am
open Go Go.Proofs Go.Shelf
end Go.Am
namespace Go.Am
open Go Go.Proofs Go.Pn
end Go.Am
namespace Go.Am
open Go Go.Proofs Go.Pn
end Go.Am
namespace Go.Am
open Go Go.Proofs Go.Pn
end Go.Am
namespace Go.Am
open Go Go.Proofs Go.Pn
section
variable {P : Program} {G : Jae} {N n0 : Nat}
@[simp] theorem Kgt {K : St -> Prop} {Q : Exit -> St -> Prop} {st : St} : Jez K Q .normal st = K st := rfl
end
end Go.Am
namespace Go.Am
open Go Go.Proofs Go.Pn
end Go.Am
namespace Go.Am
open Go Go.Proofs Go.Pn
structure AskedV where
 port : Port
 nm : Txt
@[simp] def AskedV.av (x : AskedV) : AV := .agg [.p (.int .i64 x.port.part), .p (.str x.port.name), .p (.str x.nm)]
end Go.Am
namespace Go.Am
open Go Go.Proofs Go.Pn
end Go.Am
namespace Go.Am
open Go Go.Proofs Go.Pn
end Go.Am
namespace Go.Am
open Go Go.Proofs Go.Pn
end Go.Am
namespace Go.Am
open Go Go.Proofs Go.Pn
end Go.Am
