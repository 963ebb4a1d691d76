/- Lemmas and contracts for the proof of a statement of this seat. -/
import Derived.Test.YtmfjjncfdpejiaaGreatDoorZC7
import Derived.Test.YtmfjjncfdpejiaaGreatDoorZCP
import Derived.Test.YtmfjjncfdpejiaaGreatDoorZS2
import Derived.Test.YtmfjjncfdpejiaaGreatDoorZA5
import Derived.Sort.Grow
import Derived.Shelf.SortM.Plain
import Derived.Shelf.SortM.SortNone
import Derived.Ground.SlgmProg
set_option linter.unusedVariables false
set_option linter.unusedSimpArgs false
namespace Go.Am
open Go Go.Proofs Go.Pn
end Go.Am
namespace Go.Pn
open Go Go.Proofs Go.Am
@[simp] def Pass.enc (p : Pass) : List PV := [.str p.to, .lst 1 (p.fr.map Txt.enc), .bool p.all]
end Go.Pn
namespace Go.Am
open Go Go.Proofs Go.Pn
end Go.Am
namespace Go.Am
open Go Go.Proofs Go.Pn
end Go.Am
namespace Go.Am
open Go Go.Proofs Go.Pn
theorem Jy0 {k : Nat} (h : k < 14) : (catRow k)[9]? = some (.p (.int .i64 (J17 k))) /\ (catRow k)[7]? = some (.p (.str (Jtz k).1)) /\ (catRow k)[8]? = some (.p (.str (Jtz k).2)) /\
   ((catRow k).drop 2).take 5 = (Jbv k).map (fun l => .p (.lst 1 (l.map Txt.enc))) /\ (Jbv k).length = 5 := by
 rcases (by omega : k = 0 \/ k = 1 \/ k = 2 \/ k = 3 \/ k = 4 \/ k = 5 \/ k = 6 \/ k = 7 \/ k = 8 \/ k = 9 \/ k = 10 \/ k = 11 \/ k = 12 \/ k = 13) with rfl|rfl|rfl|rfl|rfl|rfl|rfl|rfl|rfl|rfl|rfl|rfl|rfl|rfl <;> exact ⟨rfl, rfl, rfl, rfl, rfl⟩
end Go.Am
namespace Go.Am
open Go Go.Proofs Go.Pn
theorem Jue {α : Type} {f : α -> AV} (h : ∀ x, Jao (f x) = true) : ∀ {l : List α}, Jbl (l.map f) = true
 | [] => rfl
 | x :: l => by simp [Jbl, h x, Jue h (l := l)]
def Jd2 (k : Nat) (s : Txt) : Int := idxI (Jbv k) fun l => decide (s ∈ l)
theorem Jx6 (k : Int) (s : Txt) (hk : 0 <= k /\ k < 14) : Pure Tryz.prog GL 95 [.p (.int .i64 k), .p (.str s)] (.tup [.p (.int .i64 (if Jd2 k.toNat s < 0 then 0 else Jd2 k.toNat s)), .p (.int .i64 (if Jd2 k.toNat s < 0 then 6 else 0))]) := by
 refine Pure.of_walk (N := 29) Tryz.func95 rfl rfl rfl (by simp) (by first | (simp; done) | simp [*]) ?_
 simp
 refine Jab (Jjz k) ?_
 have h3 : Jbj k = 0 := Je4.2 hk
 have hl := Jfo (k := k.toNat)
 have h6 := Jfp (k := k.toNat)
 obtain ⟨f1, f2, f3, f4, f5⟩ := Jy0 (k := k.toNat) (by omega)
 have hsh : ∀ l ∈ Jbv k.toNat, l.length < 100 := (by decide : ∀ k, k < 14 -> ∀ l ∈ Jbv k, l.length < 100) k.toNat (by omega)
 simp [h3, hl, Je6]
 refine ⟨by simpa using h6, ?_⟩
 have hren := fun ρ => Jok (ρ := ρ) (Jue (f := fun l : List Txt => AV.p (PV.lst 1 (l.map Txt.enc))) (fun _ => rfl) (l := Jbv k.toNat))
 simp [f4]
 refine Jah.go [1, 19] [] 0 [] (fun _ => []) (fun _ (r : Nat) => [(20, .p (.int .i64 r))]) (fun _ _ => []) (fun r => r <= 5 /\ ∀ (j : Nat) x, j < r -> (Jbv k.toNat)[j]? = some x -> decide (s ∈ x) = false) (fun r => 5 - r) 0 ⟨by omega, fun j x h => by omega⟩ ?_ ?_
 . simp [hren]
 . rintro r ⟨hr, hp⟩
   simp
   refine Jac (fun h => ?_) (fun h => ?_)
   . simp at h
     obtain ⟨x, e⟩ := Jag (xs := Jbv k.toNat) (k := r) (by omega)
     simp [h, e, f5, -getElem?_pos, List.getElem?_cons_zero, List.getElem?_cons_succ]
     refine Jab (Jp5 x s (by have := hsh x (List.mem_of_getElem? e); omega)) ?_
     simp
     by_cases h2 : s ∈ x
     . have hro : Jd2 k.toNat s = r := Jd7 (q := fun l => decide (s ∈ l)) e (by simpa using h2) hp
       have h0 : ¬ (r : Int) < 0 := by omega
       simp [h2]
       simp [Jaa, hro, h0]
     . simp [h2]
       refine ⟨wrap_i64 (by omega) (by omega), r + 1, ⟨by omega, ?_⟩, by omega, ?_⟩
       . simpa using Jdw (P := fun l => decide (s ∈ l) = false) hp e (by simpa using h2)
       . simp [hren]
   . simp at h
     have h7 : r = (Jbv k.toNat).length := by omega
     subst h7
     have hro : Jd2 k.toNat s = -1 := Jd8 (q := fun l => decide (s ∈ l)) (Jeg hp)
     simp [Jaa, hro]
end Go.Am
namespace Go.Am
open Go Go.Proofs Go.Pn
end Go.Am
namespace Go.Am
open Go Go.Proofs Go.Pn
@[simp] abbrev Ints.av (l : List Int) : AV := .p (.lst 1 (l.map Int.enc))
end Go.Am
namespace Go.Am
open Go Go.Proofs Go.Pn
def netN (c : Circuit) (i : Int) (s : Txt) : Nat := (netP c ⟨i, s⟩).toNat
end Go.Am
namespace Go.Am
open Go Go.Proofs Go.Pn
def Jub (l : List Int) (i : Int) : Int := (l[i.toNat]?).getD 0
def J39 (c : Circuit) (l : List Int) (i : Int) : List Pass := J4a (Jdh c i).toNat (decide (Jub l i = 1))
end Go.Am
namespace Go.Am
open Go Go.Proofs Go.Pn
structure Psg where
 part : Int
 to : Nat
 fr : List Nat
 all : Bool
 deriving DecidableEq
def Jz9 (S : Nat -> Bool) (y : Psg) : Bool := if y.all then y.fr.all S else y.fr.any S
def grow (ps : List Psg) : Nat -> List Nat -> List Nat
 | 0, l => l
 | k + 1, l => match ps.find? fun y => !l.contains y.to && Jz9 l.contains y with
   | some y => grow ps k (y.to :: l)
   | none => l
def lfp (ps : List Psg) (N : Nat) : List Nat := grow ps (N + 1) []
def J4v (c : Circuit) (l : List Int) (i : Nat) : List Psg := (J39 c l i).map fun y => ⟨i, netN c i y.to, y.fr.map (netN c i), y.all⟩
def psgs (c : Circuit) (l : List Int) : List Psg := (List.range c.parts.length).flatMap (J4v c l)
def J5u (c : Circuit) : List Psg := ((List.range c.parts.length).filter fun (i : Nat) => decide (Jdh c (i : Int) = 0)).map fun (i : Nat) => ⟨i, netN c i t1, [], true⟩
def prs (c : Circuit) (l : List Int) : List Nat := lfp (J5u c ++ psgs c l) (nets c).length
def opens (c : Circuit) (l : List Int) (i : Nat) : List Txt := J64 (Jdh c i).toNat (decide (Jub l i = 1)) ++ (Jb4 (Jdh c i).toNat).filter fun s => decide (Jd2 (Jdh c i).toNat s = 2)
def J63 (c : Circuit) (l : List Int) : List Psg := (List.range c.parts.length).flatMap fun i => ((opens c l i).map (netN c i)).map fun n => ⟨i, n, [], true⟩
def J62 (c : Circuit) (l : List Int) : List Psg := (J63 c l ++ (psgs c l).map fun y => (⟨y.part, y.to, y.fr, false⟩ : Psg)).filter fun y => !(prs c l).contains y.to
def vts (c : Circuit) (l : List Int) : List Nat := lfp (J62 c l) (nets c).length
def J5q (c : Circuit) (l : List Int) (n : Nat) : Int := if (prs c l).contains n then 2 else if (vts c l).contains n then 1 else 0
def states (c : Circuit) (l : List Int) : List Int := (List.range (nets c).length).map (J5q c l)
end Go.Am
namespace Go.Am
open Go Go.Proofs Go.Pn
end Go.Am
namespace Go.Am
open Go Go.Proofs Go.Pn
end Go.Am
namespace Go.Am
open Go Go.Proofs Go.Pn
end Go.Am
namespace Go.Am
open Go Go.Proofs Go.Pn
end Go.Am
namespace Go.Am
open Go Go.Proofs Go.Pn
end Go.Am
namespace Go.Am
open Go Go.Proofs Go.Pn
end Go.Am
namespace Go.Am
open Go Go.Proofs Go.Pn
end Go.Am
namespace Go.Am
open Go Go.Proofs Go.Pn
end Go.Am
namespace Go.Am
open Go Go.Proofs Go.Pn
def Jtj (c : Circuit) : Nat -> List (Port × Nat)
 | 0 => []
 | k + 1 => Jtj c k ++ match (nets c)[k]? with | some g => g.map (·, k) | none => []
def pairs (c : Circuit) : List (Port × Nat) := Jtj c (nets c).length
end Go.Am
namespace Go.Am
open Go Go.Proofs Go.Pn
def Jn1 (l : List Nat) : List Int := l.map fun (n : Nat) => (n : Int)
@[simp] def Psg.enc (y : Psg) : List PV := [.int .i64 y.part, .int .i64 y.to, .lst 1 ((Jn1 y.fr).map Int.enc), .bool y.all]
@[simp] def Psg.row (y : Psg) : List AV := [.p (.int .i64 y.part), .p (.int .i64 y.to), .p (.lst 1 ((Jn1 y.fr).map Int.enc)), .p (.bool y.all)]
@[simp] def Psg.av (y : Psg) : AV := .agg [.p (.int .i64 y.part), .p (.int .i64 y.to), .p (.lst 1 ((Jn1 y.fr).map Int.enc)), .p (.bool y.all)]
end Go.Am
namespace Go.Am
open Go Go.Proofs Go.Pn
@[simp] theorem J8i : (List.range 2)[0]? = some 0 := rfl
@[simp] theorem J8j : (List.range 2)[1]? = some 1 := rfl
@[simp] theorem J8l : (List.range 3)[0]? = some 0 := rfl
@[simp] theorem J8m : (List.range 3)[1]? = some 1 := rfl
@[simp] theorem J8n : (List.range 3)[2]? = some 2 := rfl
@[simp] theorem J8k : (List.range 2).Nodup := List.nodup_range
@[simp] theorem J8o : (List.range 3).Nodup := List.nodup_range
end Go.Am
namespace Go.Am
open Go Go.Proofs Go.Pn
end Go.Am
namespace Go.Am
open Go Go.Proofs Go.Pn
end Go.Am
namespace Go.Am
open Go Go.Proofs Go.Pn
section
variable {P : Program} {G : Jad} {N n0 : Nat}
theorem Jah.goN {γ : Type} {c : Cont Code} {t : Jap} {s : Store} {nx : Nat} {Q : Cont KQ} (keep keepB : List Nat) (n : Nat) (M : γ -> Jap) (B : γ -> Store) (I : γ -> Prop) (μ : γ -> Nat) (g0 : γ) (hi : I g0)
   (h0 : Leads G N n0 ⟨t, s, nx⟩ ⟨M g0 ++ pick keep t, B g0 ++ Jdr keepB s, n⟩)
   (round : ∀ g, I g -> @xc P G N n0 c (M g ++ pick keep t) (B g ++ Jdr keepB s) n ⟨fun x st' => @Jf3 x st' ⟨fun st' => ∃ g', I g' /\ μ g' < μ g /\
     Leads G N n0 st' ⟨M g' ++ pick keep t, B g' ++ Jdr keepB s, n⟩⟩ Q⟩) : @Jah P G N n0 c ⟨t, s, nx⟩ Q :=
 Jah.goL (fun g => ⟨M g ++ pick keep t, B g ++ Jdr keepB s, n⟩) I μ g0 hi h0 round
end
@[simp] def J9d : Option ABlk -> Nat
 | some (.cells _ ([_, _, z, _] :: _)) => nameOf z
 | _ => 0
end Go.Am
namespace Go.Am
open Go Go.Proofs Go.Pn
end Go.Am
namespace Go.Am
open Go Go.Proofs Go.Pn
end Go.Am
namespace Go.Am
open Go Go.Proofs Go.Pn
end Go.Am
namespace Go.Am
open Go Go.Proofs Go.Pn
end Go.Am
namespace Go.Am
open Go Go.Proofs Go.Pn
@[simp] theorem J8p : (List.range 6)[0]? = some 0 := rfl
@[simp] theorem J8q : (List.range 6)[1]? = some 1 := rfl
@[simp] theorem J8r : (List.range 6)[2]? = some 2 := rfl
@[simp] theorem J8s : (List.range 6)[3]? = some 3 := rfl
@[simp] theorem J8t : (List.range 6)[4]? = some 4 := rfl
@[simp] theorem J8u : (List.range 6)[5]? = some 5 := rfl
@[simp] theorem J8v : (List.range 6).Nodup := List.nodup_range
end Go.Am
namespace Go.Am
open Go Go.Proofs Go.Pn
theorem SR.ahead {G F φ s w} (h : SR G F φ s w) : ∀ n, SR G F φ s (Sort.ahead w n)
 | 0 => h
 | n + 1 => by rw [<- Sort.ahead_drew]; exact (SR.ahead h n).drew
theorem Jve {own : Nat -> Prop} {w : World} : ∀ n, Step own own w (Sort.ahead w n)
 | 0 => Step.refl _ _
 | n + 1 => by rw [<- Sort.ahead_drew]; exact (Jve n).trans Ji9
theorem Jvi {own : Nat -> Prop} {w : World} (os : Array Obj) : Step own own w (Sort.grow w os) where
 keep := fun β hβ ho => ⟨Sort.heap_grow_old w os hβ, ho⟩
 size := by simp [Sort.grow]
 shape := fun β arr T h => ⟨arr, by rw [Sort.heap_grow_old w os (Array.getElem?_eq_some_iff.1 h).1]; exact h, rfl⟩
 os := rfl
 tape := rfl
 output := rfl
theorem SR.grow {G F φ s w} (h : SR G F φ s w) (os : Array Obj) : SR G F φ s (Sort.grow w os) := by
 refine h.change (fun _ _ h => h) (Jvi os) (fun b x hb => .inl ⟨hb, fun p hp => ?_⟩) h.inj h.disj
 obtain ⟨p', h1, h2⟩ := (h.blk b x hb).place
 rw [hp] at h1; cases h1
 exact Sort.heap_grow_old w os h2
end Go.Am
namespace Go.Am
open Go Go.Proofs Go.Shelf
end Go.Am
namespace Go.Am
open Go Go.Proofs Go.Pn
end Go.Am
namespace Go.Am
open Go Go.Proofs Go.Pn
end Go.Am
namespace Go.Am
open Go Go.Proofs Go.Pn
end Go.Am
namespace Go.Am
open Go Go.Proofs Go.Pn
section
variable {P : Program} {G : Jad} {N n0 : Nat}
@[simp] theorem J9b {K : St -> Prop} {Q : Exit -> St -> Prop} {st : St} : Jed K Q .normal st = K st := rfl
end
end Go.Am
namespace Go.Am
open Go Go.Proofs Go.Pn
end Go.Am
namespace Go.Am
open Go Go.Proofs Go.Pn
structure AskedV where
 port : Port
 nm : Txt
@[simp] def AskedV.av (x : AskedV) : AV := .agg [.p (.int .i64 x.port.part), .p (.str x.port.name), .p (.str x.nm)]
end Go.Am
namespace Go.Am
open Go Go.Proofs Go.Pn
end Go.Am
namespace Go.Am
open Go Go.Proofs Go.Pn
end Go.Am
namespace Go.Am
open Go Go.Proofs Go.Pn
end Go.Am
namespace Go.Am
open Go Go.Proofs Go.Pn
end Go.Am
