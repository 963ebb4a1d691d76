/- Lemmas and contracts for the proof of a statement of this seat. -/
import Derived.Test.YtmfjjncfdpejiaaGreatDoorZCA
set_option linter.unusedVariables false
set_option linter.unusedSimpArgs false
namespace Go.Am
open Go Go.Proofs Go.Pn
structure Psg where
 part : Int
 to : Nat
 fr : List Nat
 all : Bool
 deriving DecidableEq
def Jcr (S : Nat -> Bool) (y : Psg) : Bool := if y.all then y.fr.all S else y.fr.any S
theorem Jq4 {S T : Nat -> Bool} (h : ∀ n, S n = true -> T n = true) {y : Psg} (hf : Jcr S y = true) : Jcr T y = true := by
 unfold Jcr at *
 split at hf
 . rename_i ha
   rw [if_pos ha]
   rw [List.all_eq_true] at hf ⊢
   exact fun x hx => h x (hf x hx)
 . rename_i ha
   rw [if_neg ha]
   rw [List.any_eq_true] at hf ⊢
   obtain ⟨x, hx, hs⟩ := hf
   exact ⟨x, hx, h x hs⟩
def grow (ps : List Psg) : Nat -> List Nat -> List Nat
 | 0, l => l
 | k + 1, l => match ps.find? fun y => !l.contains y.to && Jcr l.contains y with
   | some y => grow ps k (y.to :: l)
   | none => l
def lfp (ps : List Psg) (N : Nat) : List Nat := grow ps (N + 1) []
def Jgh (ps : List Psg) (S : Nat -> Bool) : Prop := ∀ y ∈ ps, Jcr S y = true -> S y.to = true
theorem Jxj {ps : List Psg} {N : Nat} (hN : ∀ y ∈ ps, y.to < N) : ∀ {k : Nat} {l : List Nat}, l.Nodup -> (∀ n ∈ l, n < N) -> N < k + l.length -> Jgh ps (grow ps k l).contains
 | 0, l, hn, hl, hk => by
   have := Jjp (m := List.range N) hn fun x hx => List.mem_range.2 (hl x hx)
   rw [List.length_range] at this
   omega
 | k + 1, l, hn, hl, hk => by
   unfold grow
   split
   . rename_i y hy
     have h1 := List.find?_some hy
     have h2 := List.mem_of_find?_eq_some hy
     simp only [Bool.and_eq_true, Bool.not_eq_true'] at h1
     have hne : y.to ∉ l := fun h => by have := List.contains_iff_mem.2 h; rw [h1.1] at this; cases this
     refine Jxj hN (List.nodup_cons.2 ⟨hne, hn⟩) (fun n hm => ?_) (by simp; omega)
     rcases List.mem_cons.1 hm with rfl | hm
     . exact hN y h2
     . exact hl n hm
   . rename_i hy
     intro y hm hf
     have := List.find?_eq_none.1 hy y hm
     simp only [Bool.and_eq_true, Bool.not_eq_true', not_and] at this
     cases hc : l.contains y.to with
     | true => rfl
     | false => exact absurd hf (this hc)
theorem Jxk {ps : List Psg} {S : Nat -> Bool} (hS : Jgh ps S) : ∀ {k : Nat} {l : List Nat}, (∀ n ∈ l, S n = true) -> ∀ n ∈ grow ps k l, S n = true
 | 0, l, hl => hl
 | k + 1, l, hl => by
   unfold grow
   split
   . rename_i y hy
     have h1 := List.find?_some hy
     have h2 := List.mem_of_find?_eq_some hy
     simp only [Bool.and_eq_true, Bool.not_eq_true'] at h1
     refine Jxk hS fun n hm => ?_
     rcases List.mem_cons.1 hm with rfl | hm
     . exact hS y h2 (Jq4 (fun n hn => hl n (List.contains_iff_mem.1 hn)) h1.2)
     . exact hl n hm
   . exact hl
theorem Jyk {ps : List Psg} {N : Nat} (hN : ∀ y ∈ ps, y.to < N) : Jgh ps (lfp ps N).contains := Jxj hN List.nodup_nil (by simp) (by simp)
theorem Jrn {ps : List Psg} {N : Nat} {S : Nat -> Bool} (hS : Jgh ps S) : ∀ n ∈ lfp ps N, S n = true := Jxk hS (by simp)
theorem Jyl {ps : List Psg} {N : Nat} (hN : ∀ y ∈ ps, y.to < N) {S : Nat -> Bool} (hS : Jgh ps S) (hm : ∀ n, S n = true -> n ∈ lfp ps N) (n : Nat) : S n = (lfp ps N).contains n := by
 rw [Bool.eq_iff_iff, List.contains_iff_mem]
 exact ⟨hm n, Jrn hS n⟩
def Jhq (c : Circuit) (l : List Int) (i : Nat) : List Psg := (Jea c l i).map fun y => ⟨i, netN c i y.to, y.fr.map (netN c i), y.all⟩
def psgs (c : Circuit) (l : List Int) : List Psg := (List.range c.parts.length).flatMap (Jhq c l)
def Jkg (c : Circuit) : List Psg := ((List.range c.parts.length).filter fun (i : Nat) => decide (Jal c (i : Int) = 0)).map fun (i : Nat) => ⟨i, netN c i t1, [], true⟩
def prs (c : Circuit) (l : List Int) : List Nat := lfp (Jkg c ++ psgs c l) (nets c).length
def opens (c : Circuit) (l : List Int) (i : Nat) : List Txt := Je8 (Jal c i).toNat (decide (Jdk l i = 1)) ++ (Jaq (Jal c i).toNat).filter fun s => decide (Jdt (Jal c i).toNat s = 2)
def Jtx (c : Circuit) (l : List Int) : List Psg := (List.range c.parts.length).flatMap fun i => ((opens c l i).map (netN c i)).map fun n => ⟨i, n, [], true⟩
def Jko (c : Circuit) (l : List Int) : List Psg := (Jtx c l ++ (psgs c l).map fun y => (⟨y.part, y.to, y.fr, false⟩ : Psg)).filter fun y => !(prs c l).contains y.to
def vts (c : Circuit) (l : List Int) : List Nat := lfp (Jko c l) (nets c).length
def Jet (c : Circuit) (l : List Int) (n : Nat) : Int := if (prs c l).contains n then 2 else if (vts c l).contains n then 1 else 0
def states (c : Circuit) (l : List Int) : List Int := (List.range (nets c).length).map (Jet c l)
end Go.Am
namespace Go.Am
open Go Go.Proofs Go.Pn
theorem Jze {α : Type} {l : List α} (h : l.Nodup) {i j : Nat} {x : α} (hi : l[i]? = some x) (hj : l[j]? = some x) : i = j := by
 obtain ⟨h1, e1⟩ := gsI.1 hi
 obtain ⟨h2, e2⟩ := gsI.1 hj
 have hp := List.pairwise_iff_getElem.1 h
 rcases Nat.lt_trichotomy i j with h3 | h3 | h3
 . exact absurd (e1.trans e2.symm) (hp i j h1 h2 h3)
 . exact h3
 . exact absurd (e2.trans e1.symm) (hp j i h2 h1 h3)
theorem Jlg {c : Circuit} (h : Jad c = 0) {i : Nat} {g : List Port} {p : Port} (e : (nets c)[i]? = some g) (hp : p ∈ g) : netP c p = i /\ p ∈ allP c := by
 have hroot : ∀ {k : Nat} {g : List Port}, (nets c)[k]? = some g -> p ∈ g -> (Jba (rt c) (allP c))[k]? = some (rt c p) /\ p ∈ allP c := by
   intro k g e hp
   rw [Jlh h, List.getElem?_map, Option.map_eq_some_iff] at e
   obtain ⟨r, hr, rfl⟩ := e
   obtain ⟨h1, h2⟩ := List.mem_filter.1 hp
   have : rt c p = r := by simpa using h2
   rw [this]
   exact ⟨hr, h1⟩
 obtain ⟨r1, ha⟩ := hroot e hp
 obtain ⟨j, g2, k1, k2, k3⟩ := Jif h ha
 obtain ⟨r2, _⟩ := hroot k2 k3
 rw [k1, Jze Jst r2 r1]
 exact ⟨rfl, ha⟩
theorem Kbz {c : Circuit} (h : Jad c = 0) {i : Nat} {g : List Port} {j : Int} {s : Txt} (e : (nets c)[i]? = some g) (hp : (⟨j, s⟩ : Port) ∈ g) : netN c j s = i := by
 unfold netN
 rw [(Jlg h e hp).1]
 omega
theorem Jy9 {c : Circuit} (h : Jad c = 0) {j : Int} {s : Txt} (hp : (⟨j, s⟩ : Port) ∈ allP c) : ∃ g, (nets c)[netN c j s]? = some g /\ (⟨j, s⟩ : Port) ∈ g := by
 obtain ⟨i, g, h1, h2, h3⟩ := Jif h hp
 refine ⟨g, ?_, h3⟩
 unfold netN
 rw [h1, Int.toNat_natCast]
 exact h2
theorem Jhr {c : Circuit} {l : List Int} {y : Psg} : y ∈ psgs c l ↔ ∃ (i : Nat) (z : Pass), i < c.parts.length /\ z ∈ Jea c l i /\ y = ⟨i, netN c i z.to, z.fr.map (netN c i), z.all⟩ := by
 unfold psgs Jhq
 simp only [List.mem_flatMap, List.mem_range, List.mem_map]
 constructor
 . rintro ⟨i, hi, z, hz, rfl⟩
   exact ⟨i, z, hi, hz, rfl⟩
 . rintro ⟨i, z, hi, hz, rfl⟩
   exact ⟨i, hi, z, hz, rfl⟩
theorem Jl1 {c : Circuit} {y : Psg} : y ∈ Jkg c ↔ ∃ (i : Nat), i < c.parts.length /\ Jal c i = 0 /\ y = ⟨i, netN c i t1, [], true⟩ := by
 unfold Jkg
 simp only [List.mem_map, List.mem_filter, List.mem_range, decide_eq_true_eq]
 constructor
 . rintro ⟨i, ⟨hi, hk⟩, rfl⟩
   exact ⟨i, hi, hk, rfl⟩
 . rintro ⟨i, hi, hk, rfl⟩
   exact ⟨i, ⟨hi, hk⟩, rfl⟩
theorem Jjv {c : Circuit} {l : List Int} (h : Jam c l = 0) {i : Nat} (hi : i < c.parts.length) {z : Pass} (hz : z ∈ Jea c l i) : (⟨i, z.to⟩ : Port) ∈ allP c /\ (∀ s ∈ z.fr, (⟨i, s⟩ : Port) ∈ allP c) /\ 1 <= z.fr.length := by
 obtain ⟨q, e⟩ := Jae hi
 obtain ⟨a, F⟩ := Jhn h e
 rw [F.pass] at hz
 obtain ⟨y1, y2, y3, _⟩ := Keg (by have := F.kind; omega) _ z hz
 exact ⟨F.mem _ y1, fun s hs => F.mem s (y2 s hs), y3⟩
theorem Jtc {c : Circuit} {l : List Int} (h : Jam c l = 0) {i : Nat} (hi : i < c.parts.length) (hk : Jal c i = 0) : (⟨i, t1⟩ : Port) ∈ allP c := by
 obtain ⟨q, e⟩ := Jae hi
 obtain ⟨a, F⟩ := Jhn h e
 refine F.mem _ ?_
 have : q.kind = 0 := by rw [<- F.kat]; exact hk
 rw [this]
 decide
theorem J0o {c : Circuit} {l : List Int} (h : Jam c l = 0) : ∀ y ∈ Jkg c ++ psgs c l, y.to < (nets c).length := by
 have hc := (Jeg h).1
 intro y hy
 rcases List.mem_append.1 hy with hy | hy
 . obtain ⟨i, hi, hk, rfl⟩ := Jl1.1 hy
   exact (Jd7 hc (Jtc h hi hk)).2
 . obtain ⟨i, z, hi, hz, rfl⟩ := Jhr.1 hy
   exact (Jd7 hc (Jjv h hi hz).1).2
theorem Jos {c : Circuit} {l : List Int} (h : Jam c l = 0) : Jgh (Jkg c ++ psgs c l) (prs c l).contains := Jyk (J0o h)
end Go.Am
namespace Go.Am
open Go Go.Proofs Go.Pn
theorem J2g {k : Nat} (h : k < 14) (b : Bool) : (∀ s ∈ Je8 k b, s ∈ Jaq k) /\ (∀ s ∈ Jaq k, s ≠ [] /\ Jfo k s = Jdt k s) := by
 have t1 := (by decide +kernel : ∀ k, k < 14 -> (∀ s ∈ Je8 k true, s ∈ Jaq k)) k h
 have t2 := (by decide +kernel : ∀ k, k < 14 -> (∀ s ∈ Je8 k false, s ∈ Jaq k)) k h
 have t3 := (by decide +kernel : ∀ k, k < 14 -> ∀ s ∈ Jaq k, s ≠ [] /\ Jfo k s = Jdt k s) k h
 cases b
 . exact ⟨t2, t3⟩
 . exact ⟨t1, t3⟩
theorem Kd3 {c : Circuit} {l : List Int} {i : Nat} {q : Part} {a : Int} (F : PortFacts c l i q a) : opens c l i = Je8 q.kind.toNat (decide (a = 1)) ++ (Jaq q.kind.toNat).filter fun s => decide (Jdt q.kind.toNat s = 2) := by
 have hpo : Jdk l (i : Int) = a := by rw [Jdk, Int.toNat_natCast, F.pos]; rfl
 rw [opens, F.kat, hpo]
theorem Jrx {c : Circuit} {l : List Int} (h : Jam c l = 0) {i : Nat} (hi : i < c.parts.length) : ∀ s ∈ opens c l i, (⟨i, s⟩ : Port) ∈ allP c := by
 obtain ⟨q, e⟩ := Jae hi
 obtain ⟨a, F⟩ := Jhn h e
 have hk : q.kind.toNat < 14 := by have := F.kind; omega
 intro s hs
 rw [Kd3 F, List.mem_append] at hs
 refine F.mem s ?_
 rcases hs with hs | hs
 . exact (J2g hk _).1 s hs
 . exact (List.mem_filter.1 hs).1
theorem Kh4 {c : Circuit} {l : List Int} {y : Psg} : y ∈ Jtx c l ↔ ∃ (i : Nat) (s : Txt), i < c.parts.length /\ s ∈ opens c l i /\ y = ⟨i, netN c i s, [], true⟩ := by
 unfold Jtx
 simp only [List.mem_flatMap, List.mem_range, List.mem_map]
 constructor
 . rintro ⟨i, hi, n, ⟨s, hs, rfl⟩, rfl⟩
   exact ⟨i, s, hi, hs, rfl⟩
 . rintro ⟨i, s, hi, hs, rfl⟩
   exact ⟨i, hi, _, ⟨s, hs, rfl⟩, rfl⟩
theorem Jiv {c : Circuit} {l : List Int} {y : Psg} : y ∈ Jko c l ↔ ((∃ (i : Nat) (s : Txt), i < c.parts.length /\ s ∈ opens c l i /\ y = ⟨i, netN c i s, [], true⟩) \/
   ∃ (i : Nat) (z : Pass), i < c.parts.length /\ z ∈ Jea c l i /\ y = ⟨i, netN c i z.to, z.fr.map (netN c i), false⟩) /\ y.to ∉ prs c l := by
 unfold Jko
 rw [List.mem_filter, List.mem_append, Kh4, List.mem_map]
 have : (!(prs c l).contains y.to) = true ↔ y.to ∉ prs c l := by
   rw [Bool.not_eq_true', <- Bool.not_eq_true, List.contains_iff_mem]
 rw [this]
 constructor
 . rintro ⟨h | ⟨z, hz, rfl⟩, hn⟩
   . exact ⟨.inl h, hn⟩
   . obtain ⟨i, w, hi, hw, rfl⟩ := Jhr.1 hz
     exact ⟨.inr ⟨i, w, hi, hw, rfl⟩, hn⟩
 . rintro ⟨h | ⟨i, z, hi, hz, rfl⟩, hn⟩
   . exact ⟨.inl h, hn⟩
   . exact ⟨.inr ⟨_, Jhr.2 ⟨i, z, hi, hz, rfl⟩, rfl⟩, hn⟩
theorem Jtw {c : Circuit} {l : List Int} (h : Jam c l = 0) : ∀ y ∈ Jko c l, y.to < (nets c).length := by
 have hc := (Jeg h).1
 intro y hy
 rcases (Jiv.1 hy).1 with ⟨i, s, hi, hs, rfl⟩ | ⟨i, z, hi, hz, rfl⟩
 . exact (Jd7 hc (Jrx h hi s hs)).2
 . exact (Jd7 hc (Jjv h hi hz).1).2
theorem Jpo {c : Circuit} {l : List Int} (h : Jam c l = 0) : Jgh (Jko c l) (vts c l).contains := Jyk (Jtw h)
def Jis (c : Circuit) (l : List Int) : List Bool := (List.range (nets c).length).map fun n => (prs c l).contains n
theorem Khx {c : Circuit} {l : List Int} {n : Nat} (hn : n < (nets c).length) : (Jis c l)[n]? = some ((prs c l).contains n) := by simp [Jis, hn]
end Go.Am
namespace Go.Am
open Go Go.Proofs Go.Pn
@[simp] theorem Kku {l : List Int} : unpR (l.map Int.row) = some (l.map Int.enc) := Jtp (f := Int.row) (g := Int.enc) (fun _ => rfl) l
end Go.Am
namespace Go.Am
open Go Go.Proofs Go.Pn
theorem Jta {c : Circuit} {l : List Int} {n : Nat} (hn : n < (nets c).length) : (states c l)[n]? = some (Jet c l n) := by simp [states, hn]
end Go.Am
namespace Go.Am
open Go Go.Proofs Go.Pn
def Jgj (c : Circuit) (l : List Int) (p : Port) : Int := if Jam c l ≠ 0 then Jam c l else Jbh c p
def Jg9 (c : Circuit) (l : List Int) (p : Port) : Int := if Jgj c l p ≠ 0 then 0 else Jet c l (netN c p.part p.name)
theorem J82 {c : Circuit} (hc : Jad c = 0) {p : Port} (hg : Jbh c p = 0) : netP c p = netN c p.part p.name /\ netN c p.part p.name < (nets c).length := by
 obtain ⟨a, s⟩ := p
 exact Jd7 hc (Jdl.2 hg)
def Jij (c : Circuit) (l : List Int) (s : Txt) : Int := if Jam c l ≠ 0 then Jam c l else if Ja4 c s < 0 then 6 else if Jal c (Ja4 c s) ≠ 1 then 1 else 0
def Jse (o b : Bool) : Int := if o && !b then 1 else if b && !o then -1 else 0
def Jhs (c : Circuit) (l : List Int) (s : Txt) : Int := if Jij c l s ≠ 0 then 0 else Jse (Jkx c (Jis c l) (Ja4 c s) t4) (Jkx c (Jis c l) (Ja4 c s) t2)
end Go.Am
