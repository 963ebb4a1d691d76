/- Lemmas and contracts for the proof of a statement of this seat. -/
import Derived.Test.YtmfjjncfdpejiaaGreatDoorZC7
import Derived.Test.YtmfjjncfdpejiaaGreatDoorZCP
import Derived.Test.YtmfjjncfdpejiaaGreatDoorZS2
import Derived.Test.YtmfjjncfdpejiaaGreatDoorZA5
import Derived.Sort.Grow
import Derived.Shelf.SortM.Plain
import Derived.Shelf.SortM.SortNone
import Derived.Ground.SlgmProg
set_option linter.unusedVariables false
set_option linter.unusedSimpArgs false
namespace Go.Am
open Go Go.Proofs Go.Pn
end Go.Am
namespace Go.Pn
open Go Go.Proofs Go.Am
@[simp] def Pass.enc (p : Pass) : List PV := [.str p.to, .lst 1 (p.fr.map Txt.enc), .bool p.all]
end Go.Pn
namespace Go.Am
open Go Go.Proofs Go.Pn
end Go.Am
namespace Go.Am
open Go Go.Proofs Go.Pn
end Go.Am
namespace Go.Am
open Go Go.Proofs Go.Pn
theorem Jyf {k : Nat} (h : k < 14) : (catRow k)[9]? = some (.p (.int .i64 (J0z k))) /\ (catRow k)[7]? = some (.p (.str (Jtb k).1)) /\ (catRow k)[8]? = some (.p (.str (Jtb k).2)) /\
   ((catRow k).drop 2).take 5 = (Jbo k).map (fun l => .p (.lst 1 (l.map Txt.enc))) /\ (Jbo k).length = 5 := by
 rcases (by omega : k = 0 \/ k = 1 \/ k = 2 \/ k = 3 \/ k = 4 \/ k = 5 \/ k = 6 \/ k = 7 \/ k = 8 \/ k = 9 \/ k = 10 \/ k = 11 \/ k = 12 \/ k = 13) with rfl|rfl|rfl|rfl|rfl|rfl|rfl|rfl|rfl|rfl|rfl|rfl|rfl|rfl <;> exact ⟨rfl, rfl, rfl, rfl, rfl⟩
end Go.Am
namespace Go.Am
open Go Go.Proofs Go.Pn
theorem Jts {α : Type} {f : α -> AV} (h : ∀ x, Jap (f x) = true) : ∀ {l : List α}, Jbe (l.map f) = true
 | [] => rfl
 | x :: l => by simp [Jbe, h x, Jts h (l := l)]
def Jd1 (k : Nat) (s : Txt) : Int := idxI (Jbo k) fun l => decide (s ∈ l)
theorem Jxl (k : Int) (s : Txt) (hk : 0 <= k /\ k < 14) : Pure Tryz.prog GL 95 [.p (.int .i64 k), .p (.str s)] (.tup [.p (.int .i64 (if Jd1 k.toNat s < 0 then 0 else Jd1 k.toNat s)), .p (.int .i64 (if Jd1 k.toNat s < 0 then 6 else 0))]) := by
 refine Pure.of_walk (N := 29) Tryz.func95 rfl rfl rfl (by simp) (by first | (simp; done) | simp [*]) ?_
 simp
 refine Jab (Jju k) ?_
 have h3 : Jbf k = 0 := Je1.2 hk
 have hl := Jfj (k := k.toNat)
 have h6 := Jfk (k := k.toNat)
 obtain ⟨f1, f2, f3, f4, f5⟩ := Jyf (k := k.toNat) (by omega)
 have hsh : ∀ l ∈ Jbo k.toNat, l.length < 100 := (by decide : ∀ k, k < 14 -> ∀ l ∈ Jbo k, l.length < 100) k.toNat (by omega)
 simp [h3, hl, Je3]
 refine ⟨by simpa using h6, ?_⟩
 have hren := fun ρ => Jn6 (ρ := ρ) (Jts (f := fun l : List Txt => AV.p (PV.lst 1 (l.map Txt.enc))) (fun _ => rfl) (l := Jbo k.toNat))
 simp [f4]
 refine Jai.go [1, 19] [] 0 [] (fun _ => []) (fun _ (r : Nat) => [(20, .p (.int .i64 r))]) (fun _ _ => []) (fun r => r <= 5 /\ ∀ (j : Nat) x, j < r -> (Jbo k.toNat)[j]? = some x -> decide (s ∈ x) = false) (fun r => 5 - r) 0 ⟨by omega, fun j x h => by omega⟩ ?_ ?_
 . simp [hren]
 . rintro r ⟨hr, hp⟩
   simp
   refine Jac (fun h => ?_) (fun h => ?_)
   . simp at h
     obtain ⟨x, e⟩ := Jag (xs := Jbo k.toNat) (k := r) (by omega)
     simp [h, e, f5, -getElem?_pos, List.getElem?_cons_zero, List.getElem?_cons_succ]
     refine Jab (Jps x s (by have := hsh x (List.mem_of_getElem? e); omega)) ?_
     simp
     by_cases h2 : s ∈ x
     . have hro : Jd1 k.toNat s = r := Jdp (q := fun l => decide (s ∈ l)) e (by simpa using h2) hp
       have h0 : ¬ (r : Int) < 0 := by omega
       simp [h2]
       simp [Jaa, hro, h0]
     . simp [h2]
       refine ⟨wrap_i64 (by omega) (by omega), r + 1, ⟨by omega, ?_⟩, by omega, ?_⟩
       . simpa using Jdn (P := fun l => decide (s ∈ l) = false) hp e (by simpa using h2)
       . simp [hren]
   . simp at h
     have h7 : r = (Jbo k.toNat).length := by omega
     subst h7
     have hro : Jd1 k.toNat s = -1 := Jei (q := fun l => decide (s ∈ l)) (Jdu hp)
     simp [Jaa, hro]
end Go.Am
namespace Go.Am
open Go Go.Proofs Go.Pn
end Go.Am
namespace Go.Am
open Go Go.Proofs Go.Pn
@[simp] abbrev Ints.av (l : List Int) : AV := .p (.lst 1 (l.map Int.enc))
end Go.Am
namespace Go.Am
open Go Go.Proofs Go.Pn
def netN (c : Circuit) (i : Int) (s : Txt) : Nat := (netP c ⟨i, s⟩).toNat
end Go.Am
namespace Go.Am
open Go Go.Proofs Go.Pn
def Jtn (l : List Int) (i : Int) : Int := (l[i.toNat]?).getD 0
def J3a (c : Circuit) (l : List Int) (i : Int) : List Pass := J3b (Jbp c i).toNat (decide (Jtn l i = 1))
end Go.Am
namespace Go.Am
open Go Go.Proofs Go.Pn
structure Psg where
 part : Int
 to : Nat
 fr : List Nat
 all : Bool
 deriving DecidableEq
def Jzk (S : Nat -> Bool) (y : Psg) : Bool := if y.all then y.fr.all S else y.fr.any S
def grow (ps : List Psg) : Nat -> List Nat -> List Nat
 | 0, l => l
 | k + 1, l => match ps.find? fun y => !l.contains y.to && Jzk l.contains y with
   | some y => grow ps k (y.to :: l)
   | none => l
def lfp (ps : List Psg) (N : Nat) : List Nat := grow ps (N + 1) []
def J3t (c : Circuit) (l : List Int) (i : Nat) : List Psg := (J3a c l i).map fun y => ⟨i, netN c i y.to, y.fr.map (netN c i), y.all⟩
def psgs (c : Circuit) (l : List Int) : List Psg := (List.range c.parts.length).flatMap (J3t c l)
def J4w (c : Circuit) : List Psg := ((List.range c.parts.length).filter fun (i : Nat) => decide (Jbp c (i : Int) = 0)).map fun (i : Nat) => ⟨i, netN c i t1, [], true⟩
def prs (c : Circuit) (l : List Int) : List Nat := lfp (J4w c ++ psgs c l) (nets c).length
def opens (c : Circuit) (l : List Int) (i : Nat) : List Txt := J53 (Jbp c i).toNat (decide (Jtn l i = 1)) ++ (Jby (Jbp c i).toNat).filter fun s => decide (Jd1 (Jbp c i).toNat s = 2)
def J52 (c : Circuit) (l : List Int) : List Psg := (List.range c.parts.length).flatMap fun i => ((opens c l i).map (netN c i)).map fun n => ⟨i, n, [], true⟩
def J51 (c : Circuit) (l : List Int) : List Psg := (J52 c l ++ (psgs c l).map fun y => (⟨y.part, y.to, y.fr, false⟩ : Psg)).filter fun y => !(prs c l).contains y.to
def vts (c : Circuit) (l : List Int) : List Nat := lfp (J51 c l) (nets c).length
def J4s (c : Circuit) (l : List Int) (n : Nat) : Int := if (prs c l).contains n then 2 else if (vts c l).contains n then 1 else 0
def states (c : Circuit) (l : List Int) : List Int := (List.range (nets c).length).map (J4s c l)
end Go.Am
namespace Go.Am
open Go Go.Proofs Go.Pn
end Go.Am
namespace Go.Am
open Go Go.Proofs Go.Pn
end Go.Am
namespace Go.Am
open Go Go.Proofs Go.Pn
end Go.Am
namespace Go.Am
open Go Go.Proofs Go.Pn
end Go.Am
namespace Go.Am
open Go Go.Proofs Go.Pn
end Go.Am
namespace Go.Am
open Go Go.Proofs Go.Pn
end Go.Am
namespace Go.Am
open Go Go.Proofs Go.Pn
end Go.Am
namespace Go.Am
open Go Go.Proofs Go.Pn
end Go.Am
namespace Go.Am
open Go Go.Proofs Go.Pn
def Jsx (c : Circuit) : Nat -> List (Port × Nat)
 | 0 => []
 | k + 1 => Jsx c k ++ match (nets c)[k]? with | some g => g.map (·, k) | none => []
def pairs (c : Circuit) : List (Port × Nat) := Jsx c (nets c).length
end Go.Am
namespace Go.Am
open Go Go.Proofs Go.Pn
def Jnq (l : List Nat) : List Int := l.map fun (n : Nat) => (n : Int)
@[simp] def Psg.enc (y : Psg) : List PV := [.int .i64 y.part, .int .i64 y.to, .lst 1 ((Jnq y.fr).map Int.enc), .bool y.all]
@[simp] def Psg.row (y : Psg) : List AV := [.p (.int .i64 y.part), .p (.int .i64 y.to), .p (.lst 1 ((Jnq y.fr).map Int.enc)), .p (.bool y.all)]
@[simp] def Psg.av (y : Psg) : AV := .agg [.p (.int .i64 y.part), .p (.int .i64 y.to), .p (.lst 1 ((Jnq y.fr).map Int.enc)), .p (.bool y.all)]
end Go.Am
namespace Go.Am
open Go Go.Proofs Go.Pn
@[simp] theorem J7i : (List.range 2)[0]? = some 0 := rfl
@[simp] theorem J7j : (List.range 2)[1]? = some 1 := rfl
@[simp] theorem J7l : (List.range 3)[0]? = some 0 := rfl
@[simp] theorem J7m : (List.range 3)[1]? = some 1 := rfl
@[simp] theorem J7n : (List.range 3)[2]? = some 2 := rfl
@[simp] theorem J7k : (List.range 2).Nodup := List.nodup_range
@[simp] theorem J7o : (List.range 3).Nodup := List.nodup_range
end Go.Am
namespace Go.Am
open Go Go.Proofs Go.Pn
end Go.Am
namespace Go.Am
open Go Go.Proofs Go.Pn
end Go.Am
namespace Go.Am
open Go Go.Proofs Go.Pn
section
variable {P : Program} {G : Jae} {N n0 : Nat}
end
@[simp] def J8f : Option ABlk -> Nat
 | some (.cells _ ([_, _, z, _] :: _)) => nameOf z
 | _ => 0
end Go.Am
namespace Go.Am
open Go Go.Proofs Go.Pn
end Go.Am
namespace Go.Am
open Go Go.Proofs Go.Pn
end Go.Am
namespace Go.Am
open Go Go.Proofs Go.Pn
end Go.Am
namespace Go.Am
open Go Go.Proofs Go.Pn
end Go.Am
namespace Go.Am
open Go Go.Proofs Go.Pn
@[simp] theorem J7p : (List.range 6)[0]? = some 0 := rfl
@[simp] theorem J7q : (List.range 6)[1]? = some 1 := rfl
@[simp] theorem J7r : (List.range 6)[2]? = some 2 := rfl
@[simp] theorem J7s : (List.range 6)[3]? = some 3 := rfl
@[simp] theorem J7t : (List.range 6)[4]? = some 4 := rfl
@[simp] theorem J7u : (List.range 6)[5]? = some 5 := rfl
@[simp] theorem J7v : (List.range 6).Nodup := List.nodup_range
end Go.Am
namespace Go.Am
open Go Go.Proofs Go.Pn
theorem SR.ahead {G F φ s w} (h : SR G F φ s w) : ∀ n, SR G F φ s (Sort.ahead w n)
 | 0 => h
 | n + 1 => by rw [<- Sort.ahead_drew]; exact (SR.ahead h n).drew
theorem Jur {own : Nat -> Prop} {w : World} : ∀ n, Step own own w (Sort.ahead w n)
 | 0 => Step.refl _ _
 | n + 1 => by rw [<- Sort.ahead_drew]; exact (Jur n).trans Ji4
theorem Juv {own : Nat -> Prop} {w : World} (os : Array Obj) : Step own own w (Sort.grow w os) where
 keep := fun β hβ ho => ⟨Sort.heap_grow_old w os hβ, ho⟩
 size := by simp [Sort.grow]
 shape := fun β arr T h => ⟨arr, by rw [Sort.heap_grow_old w os (Array.getElem?_eq_some_iff.1 h).1]; exact h, rfl⟩
 os := rfl
 tape := rfl
 output := rfl
theorem SR.grow {G F φ s w} (h : SR G F φ s w) (os : Array Obj) : SR G F φ s (Sort.grow w os) := by
 refine h.change (fun _ _ h => h) (Juv os) (fun b x hb => .inl ⟨hb, fun p hp => ?_⟩) h.inj h.disj
 obtain ⟨p', h1, h2⟩ := (h.blk b x hb).place
 rw [hp] at h1; cases h1
 exact Sort.heap_grow_old w os h2
end Go.Am
namespace Go.Am
open Go Go.Proofs Go.Shelf
end Go.Am
namespace Go.Am
open Go Go.Proofs Go.Pn
end Go.Am
namespace Go.Am
open Go Go.Proofs Go.Pn
end Go.Am
namespace Go.Am
open Go Go.Proofs Go.Pn
end Go.Am
namespace Go.Am
open Go Go.Proofs Go.Pn
section
variable {P : Program} {G : Jae} {N n0 : Nat}
@[simp] theorem J8d {K : St -> Prop} {Q : Exit -> St -> Prop} {st : St} : Jeo K Q .normal st = K st := rfl
end
end Go.Am
namespace Go.Am
open Go Go.Proofs Go.Pn
end Go.Am
namespace Go.Am
open Go Go.Proofs Go.Pn
structure AskedV where
 port : Port
 nm : Txt
@[simp] def AskedV.av (x : AskedV) : AV := .agg [.p (.int .i64 x.port.part), .p (.str x.port.name), .p (.str x.nm)]
end Go.Am
namespace Go.Am
open Go Go.Proofs Go.Pn
end Go.Am
namespace Go.Am
open Go Go.Proofs Go.Pn
end Go.Am
namespace Go.Am
open Go Go.Proofs Go.Pn
end Go.Am
namespace Go.Am
open Go Go.Proofs Go.Pn
end Go.Am
