/- Lemmas and contracts for the proof of a statement of this seat. -/
import Derived.Test.YtmfjjncfdpejiaaGreatDoorZCA
import Derived.Test.YtmfjjncfdpejiaaGreatDoorZC7
import Derived.Test.YtmfjjncfdpejiaaGreatDoorZA5
import Derived.Test.YtmfjjncfdpejiaaGreatDoorZCP
set_option linter.unusedVariables false
set_option linter.unusedSimpArgs false
namespace Go.Am
open Go Go.Proofs Go.Pn
def Ja3 (c : Circuit) (p : Port) : Int := Jdl (Jal c p.part).toNat p.name
def Jcz (c : Circuit) (p : Port) : Bool := decide (Ja3 c p = 1)
def Jjn (c : Circuit) (p : Port) : Bool := decide (Ja3 c p = 0) || (decide (Ja3 c p = 3) || decide (Ja3 c p = 4))
def Jh1 (c : Circuit) (give : Bool) (p : Port) : Bool := if give then Jcz c p else Jjn c p
def Ja1 (c : Circuit) (l : List Port) (give : Bool) : List Port := l.filter (Jh1 c give)
def Jdz (c : Circuit) (k : Nat) (l : List Port) (p : Port) : Bool := match k with
 | 1 => decide (Ja3 c p = 3) && decide (l.length = 1)
 | 2 => decide (Ja3 c p = 4) && decide (l.length = 1)
 | 3 => decide (Ja3 c p = 0) && decide ((Ja1 c l true).length = 0)
 | 4 => decide (Ja3 c p = 1) && !decide ((Ja1 c l true).head? = some p)
 | 5 => decide (Ja3 c p = 1) && decide ((Ja1 c l false).length = 0)
 | 6 => decide (Ja3 c p = 2) && decide (1 < l.length)
 | _ => decide (Jal c p.part = 2) && (decide (p.name = [49, 52]) && decide ((⟨p.part, [49, 50]⟩ : Port) ∈ l))
def Jgp (c : Circuit) (k : Nat) (p : Port) : Bool := Jdz c k (around c p) p
def Jlz (c : Circuit) (p : Port) : Prop := 0 <= p.part /\ p.part.toNat < c.parts.length
theorem Jye {c : Circuit} {p : Port} (h : Jlz c p) : ∃ (i : Nat) (q : Part), p.part = i /\ i < c.parts.length /\ c.parts[i]? = some q /\ Jal c p.part = q.kind := by
 obtain ⟨q, e⟩ := Jah h.2
 exact ⟨p.part.toNat, q, by have := h.1; omega, h.2, e, by rw [Jal, e]; rfl⟩
theorem Jre {c : Circuit} {p : Port} (h : p ∈ allP c) : Jlz c p := by
 obtain ⟨q, h1, h2, _⟩ := Jf5.1 (Jfy.1 h)
 exact ⟨h2, (gsI.1 h1).1⟩
theorem Jnt {c : Circuit} {p : Port} : ∀ q ∈ around c p, Jlz c q := fun _ hq => Jre (List.mem_filter.1 hq).1
end Go.Am
namespace Go.Am
open Go Go.Proofs Go.Pn
structure Fnd where
 kind : Int
 at_ : Port
 deriving DecidableEq
@[simp] def Fnd.enc (f : Fnd) : List PV := [.int .i64 f.kind, .int .i64 f.at_.part, .str f.at_.name]
@[simp] def Fnd.row (f : Fnd) : List AV := [.p (.int .i64 f.kind), .p (.int .i64 f.at_.part), .p (.str f.at_.name)]
@[simp] def Fnd.av (f : Fnd) : AV := .agg [.p (.int .i64 f.kind), .p (.int .i64 f.at_.part), .p (.str f.at_.name)]
def supB (c : Circuit) : Bool := (c.parts.any fun q => decide (q.kind = 0)) || decide (c.parts.length = 0)
def Jbn (c : Circuit) (k : Nat) (l : List Port) : List Fnd := (l.filter (Jgp c k)).map fun p => ⟨k, p⟩
def Jet (c : Circuit) : List Fnd := if supB c then [] else [⟨0, ⟨0, []⟩⟩]
def allF (c : Circuit) : Nat -> List Fnd
 | 0 => Jet c
 | k + 1 => allF c k ++ Jbn c (k + 1) (allP c)
def Jkj (c : Circuit) : List Fnd := allF c 7
theorem Jmv {c : Circuit} {k : Nat} {l : List Port} : (Jbn c k l).length <= l.length := by
 unfold Jbn; rw [List.length_map]; exact List.length_filter_le ..
theorem Jtc {c : Circuit} : ∀ {k : Nat}, (allF c k).length <= 1 + k * (allP c).length
 | 0 => by unfold allF Jet; split <;> simp
 | k + 1 => by
   have h1 := Jtc (c := c) (k := k)
   have h2 := @Jmv c (k + 1) (allP c)
   simp only [allF, List.length_append, Nat.succ_mul]
   omega
theorem Jqj {c : Circuit} {k : Nat} {l : List Port} {j : Nat} {p : Port} (e : l[j]? = some p) : Jbn c k (l.take (j + 1)) = Jbn c k (l.take j) ++ (if Jgp c k p then [⟨k, p⟩] else []) := by
 unfold Jbn
 rw [Jqc e, List.map_append]
 split <;> rfl
theorem Jqi {c : Circuit} {k : Nat} : Jbn c k [] = [] := rfl
end Go.Am
namespace Go.Am
open Go Go.Proofs Go.Pn
def J0x : List Txt := [[110, 111, 32, 115, 117, 112, 112, 108, 121], [111, 112, 101, 110, 32, 112, 105, 108, 111, 116], [111, 112, 101, 110, 32, 99, 104, 97, 109, 98, 101, 114], [117, 110, 102, 101, 100],
 [106, 111, 105, 110, 101, 100, 32, 111, 117, 116, 112, 117, 116, 115], [100, 101, 97, 100, 32, 101, 110, 100], [112, 108, 117, 103, 103, 101, 100, 32, 101, 120, 104, 97, 117, 115, 116], [111, 112, 112, 111, 115, 101, 100, 32, 112, 105, 108, 111, 116, 115]]
def wordAt (k : Int) : Txt := (J0x[k.toNat]?).getD []
def nameAt (c : Circuit) (i : Int) : Txt := match c.parts[i.toNat]? with | some q => q.name | none => []
end Go.Am
namespace Go.Am
open Go Go.Proofs Go.Pn
theorem Jzg {c : Circuit} (hk : Jb6 c) {p : Port} (hp : p ∈ allP c) : ∃ (i : Nat) (q : Part), p.part = i /\ i < c.parts.length /\ c.parts[i]? = some q /\ Jal c p.part = q.kind /\ (0 <= q.kind /\ q.kind < 14) /\ p.name ∈ Jbc q.kind.toNat /\ Jdy q.kind.toNat p.name = Ja3 c p /\ 0 <= Ja3 c p := by
 obtain ⟨i, q, e1, e2, e3, e4⟩ := Jye (Jre hp)
 obtain ⟨q', g1, g2, g3⟩ := Jf5.1 (Jfy.1 hp)
 have e5 : p.part.toNat = i := by omega
 rw [e5, e3] at g1; cases g1
 have hq := hk q (List.mem_of_getElem? e3)
 have hv := (Kd9 (k := q.kind.toNat) (by omega) true).2 p.name g3
 have hr : Ja3 c p = Jdl q.kind.toNat p.name := by rw [Ja3, e4]
 have hpl := Jrj (k := q.kind.toNat) (s := p.name) (by omega)
 refine ⟨i, q, e1, e2, e3, e4, hq, g3, by rw [hr, hv.2], ?_⟩
 rw [hr]
 by_cases h : Jdl q.kind.toNat p.name < 0
 . exact absurd g3 (hpl.1 h)
 . omega
theorem Jkc (c : Circuit) (p : Port) (hk : Jb6 c) (hp : p ∈ allP c) : Pure Tryz.prog GL 214 [c.av, p.av] (.p (.int .i64 (Ja3 c p))) := by
 refine Pure.of_walk (N := 21) Tryz.func214 rfl rfl rfl (by simp) (by first | (simp; done) | simp [*]) ?_
 obtain ⟨i, q, e1, e2, e3, e4, e5, e6, e7, e8⟩ := Jzg hk hp
 obtain ⟨pi, pn⟩ := p
 simp only at e1 e4 e6 e7
 subst e1
 have hro := Jul q.kind pn e5
 rw [e7, if_neg (by omega), if_neg (by omega)] at hro
 generalize Ja3 c ⟨(i : Int), pn⟩ = r at *
 simp
 refine Jak.intro (by kernel_rfl) ?_
 simp [e2, e3, Part.enc, -getElem?_pos, List.getElem?_cons_zero, List.getElem?_cons_succ]
 refine Jab hro ?_
 simp
 refine ⟨.of (by kernel_rfl), ?_⟩
 simp [Jaa]
theorem Jpk (c : Circuit) (p : Port) (hk : Jb6 c) (hp : p ∈ allP c) : Pure Tryz.prog GL 140 [c.av, p.av] (.p (.bool (Jcz c p))) := by
 refine Pure.of_walk (N := 9) Tryz.func140 rfl rfl rfl (by simp) (by first | (simp; done) | simp [*]) ?_
 simp
 refine Jab (Jkc c p hk hp) ?_
 simp [Jaa, Jcz]
theorem J3k (c : Circuit) (p : Port) (hk : Jb6 c) (hp : p ∈ allP c) : Pure Tryz.prog GL 217 [c.av, p.av] (.p (.bool (Jjn c p))) := by
 refine Pure.of_walk (N := 12) Tryz.func217 rfl rfl rfl (by simp) (by first | (simp; done) | simp [*]) ?_
 simp
 refine Jab (Jkc c p hk hp) ?_
 have ht : Jjn c p = (decide (Ja3 c p = 0) || (decide (Ja3 c p = 3) || decide (Ja3 c p = 4))) := rfl
 rw [ht]
 generalize Ja3 c p = r
 simp
 by_cases h0 : r = 0
 . simp [h0, Jaa]
 . by_cases h3 : r = 3
   . simp [h0, h3, Jaa]
   . by_cases h4 : r = 4 <;> simp [h0, h3, h4, Jaa]
theorem Jua (c : Circuit) (l : List Port) (q : Port -> Bool) (m : Nat) (hl : l.length < 100000) (hq : ∀ p ∈ l, Pure Tryz.prog GL m [c.av, p.av] (.p (.bool (q p)))) : Pure Tryz.prog GL 139 [c.av, .p (.lst 2 (l.map Port.enc)), .fn (.func m) []] (.p (.lst 2 ((l.filter q).map Port.enc))) := by
 refine Pure.of_walk (N := 26) Tryz.func139 rfl rfl rfl (by simp) (by first | (simp; done) | simp [*]) ?_
 simp
 refine Jaj.go [2, 3, 10, 11] [0] 1 [1] (nms [7]) (fun nx (k : Nat) => [(7, .acc nx 2 ((l.take k).filter q).length), (12, .p (.int .i64 k))]) (fun nx k => [(nx, accB 2 (((l.take k).filter q).map Port.row))]) (fun k => k <= l.length) (fun k => l.length - k) 0 (by omega) ?_ ?_
 . simp
 . intro k hk1
   have hb : ((l.take k).filter q).length <= k := by
     have h1 := List.length_filter_le q (l.take k)
     have h2 := List.length_take_le k l
     omega
   have hsn := @Jqc _ q l k
   have hend : k = l.length -> (l.take k).filter q = l.filter q := fun e => by rw [e, List.take_length]
   generalize (l.take k).filter q = A at hb hsn hend
   simp
   refine Jac (fun h => ?_) (fun h => ?_)
   . simp at h
     obtain ⟨x, e⟩ := Jah h
     have hx := hq x (List.mem_of_getElem? e)
     have hsn2 := hsn e
     simp [h, e, -getElem?_pos, List.getElem?_cons_zero, List.getElem?_cons_succ]
     refine Jab hx ?_
     cases hb2 : q x with
     | true =>
       simp
       refine ⟨by omega, wrap_i64 (by omega) (by omega), k + 1, by omega, by omega, ?_⟩
       simp [hsn2, hb2]
     | false =>
       simp
       refine ⟨wrap_i64 (by omega) (by omega), k + 1, by omega, by omega, ?_⟩
       simp [hsn2, hb2]
   . simp at h
     have hA := hend (by omega)
     subst hA
     simp [Jaa]
theorem Jmg (c : Circuit) (l : List Port) (hk : Jb6 c) (hl : l.length < 100000) (ha : ∀ q ∈ l, q ∈ allP c) : Pure Tryz.prog GL 139 [c.av, .p (.lst 2 (l.map Port.enc)), .fn (.func 140) []] (.p (.lst 2 ((Ja1 c l true).map Port.enc))) :=
 Jua c l (Jcz c) 140 hl fun p hp => Jpk c p hk (ha p hp)
theorem Jt8 (c : Circuit) (l : List Port) (hk : Jb6 c) (hl : l.length < 100000) (ha : ∀ q ∈ l, q ∈ allP c) : Pure Tryz.prog GL 139 [c.av, .p (.lst 2 (l.map Port.enc)), .fn (.func 217) []] (.p (.lst 2 ((Ja1 c l false).map Port.enc))) :=
 Jua c l (Jjn c) 217 hl fun p hp => J3k c p hk (ha p hp)
theorem Jub (n : Int) : Pure Tryz.prog GL 212 [.p (.int .i64 n)] (.fn (.func 269) [.iptr 1 [[.int .i64 n]] 0 0]) := by
 refine Pure.of_walk (N := 4) Tryz.func212 rfl rfl rfl (by simp) (by first | (simp; done) | simp [*]) ?_
 simp [Jaa]
theorem Juc (c : Circuit) (l : List Port) (p : Port) (n : Int) (hk : Jb6 c) (hl : l.length < 100000) (hp : p ∈ allP c) : Pure Tryz.prog GL 269 [c.av, .p (.lst 2 (l.map Port.enc)), p.av, .iptr 1 [[.int .i64 n]] 0 0] (.p (.bool (decide (Ja3 c p = n) && decide (l.length = 1)))) := by
 refine Pure.of_walk (N := 18) Tryz.func269 rfl rfl rfl (by simp) (by first | (simp; done) | simp [*]) ?_
 simp
 refine Jak.intro (by kernel_rfl) ?_
 simp
 refine Jab (Jkc c p hk hp) ?_
 generalize Ja3 c p = r
 simp
 by_cases h : r = n
 . subst h
   simp
   refine ⟨.of (by kernel_rfl), ?_⟩
   simp [Jaa]
   omega
 . simp [h]
   refine ⟨.of (by kernel_rfl), ?_⟩
   simp [Jaa]
theorem J3e (c : Circuit) (l : List Port) (p : Port) (hk : Jb6 c) (hl : l.length < 100000) (hp : p ∈ allP c) (ha : ∀ q ∈ l, q ∈ allP c) : Pure Tryz.prog GL 213 [c.av, .p (.lst 2 (l.map Port.enc)), p.av] (.p (.bool (Jdz c 3 l p))) := by
 refine Pure.of_walk (N := 18) Tryz.func213 rfl rfl rfl (by simp) (by first | (simp; done) | simp [*]) ?_
 have hg := Jmg c l hk hl ha
 simp
 refine Jab (Jkc c p hk hp) ?_
 have hr : Jdz c 3 l p = (decide (Ja3 c p = 0) && decide ((Ja1 c l true).length = 0)) := rfl
 rw [hr]
 generalize Ja3 c p = r
 generalize Ja1 c l true = G at *
 by_cases h : r = 0
 . simp [h]
   refine Jab hg ?_
   simp [Jaa, h]
 . simp [h, Jaa]
theorem J3f (c : Circuit) (l : List Port) (p : Port) (hk : Jb6 c) (hl : l.length < 100000) (hp : p ∈ allP c) (ha : ∀ q ∈ l, q ∈ allP c) (hm : p ∈ l) : Pure Tryz.prog GL 215 [c.av, .p (.lst 2 (l.map Port.enc)), p.av] (.p (.bool (Jdz c 4 l p))) := by
 refine Pure.of_walk (N := 13) Tryz.func215 rfl rfl rfl (by simp) (by first | (simp; done) | simp [*]) ?_
 have hg := Jmg c l hk hl ha
 have hlen : (Ja1 c l true).length <= l.length := List.length_filter_le ..
 have hix := Jt0 (Ja1 c l true) p (by omega)
 have hr : Jdz c 4 l p = decide (0 < idxI (Ja1 c l true) fun x => decide (x = p)) := by
   have hmem : p ∈ Ja1 c l true ↔ Ja3 c p = 1 := by
     unfold Ja1
     rw [List.mem_filter]
     simp [Jh1, Jcz, hm]
   show (decide (Ja3 c p = 1) && !decide ((Ja1 c l true).head? = some p)) = _
   rw [Bool.eq_iff_iff]
   rcases Jhn (Ja1 c l true) (fun x => decide (x = p)) with ⟨h1, h2⟩ | ⟨i, x, h1, h2, h3, h4⟩
   . have hnot : p ∉ Ja1 c l true := fun hh => by
       have := List.findIdx?_eq_none_iff.1 h1 p hh
       simp at this
     have : ¬ Ja3 c p = 1 := fun hh => hnot (hmem.2 hh)
     rw [h2]
     simp [this]
   . have hx : x = p := by simpa using h4
     subst hx
     have h5 : Ja3 c x = 1 := hmem.1 (List.mem_of_getElem? h3)
     rw [h2]
     obtain ⟨k1, k2, k3⟩ := List.findIdx?_eq_some_iff_getElem.1 h1
     cases i with
     | zero =>
       have : (Ja1 c l true).head? = some x := by rw [List.head?_eq_getElem?, h3]
       simp [this]
     | succ i =>
       have hne : (Ja1 c l true).head? ≠ some x := fun hh => by
         rw [List.head?_eq_getElem?] at hh
         obtain ⟨k4, k5⟩ := gsI.1 hh
         have := k3 0 (by omega)
         simp [k5] at this
       simp [h5, hne]
 rw [hr]
 generalize Ja1 c l true = G at *
 simp
 refine Jak.intro (by kernel_rfl) ?_
 simp
 refine Jab hg ?_
 simp
 refine Jab hix ?_
 simp
 refine ⟨.of (by kernel_rfl), ?_⟩
 simp [Jaa]
theorem J3g (c : Circuit) (l : List Port) (p : Port) (hk : Jb6 c) (hl : l.length < 100000) (hp : p ∈ allP c) (ha : ∀ q ∈ l, q ∈ allP c) : Pure Tryz.prog GL 216 [c.av, .p (.lst 2 (l.map Port.enc)), p.av] (.p (.bool (Jdz c 5 l p))) := by
 refine Pure.of_walk (N := 17) Tryz.func216 rfl rfl rfl (by simp) (by first | (simp; done) | simp [*]) ?_
 have hg := Jt8 c l hk hl ha
 have hr : Jdz c 5 l p = (Jcz c p && decide ((Ja1 c l false).length = 0)) := rfl
 rw [hr]
 generalize Ja1 c l false = G at *
 simp
 refine Jab (Jpk c p hk hp) ?_
 cases h : Jcz c p with
 | true =>
   simp
   refine Jab hg ?_
   simp [Jaa]
 | false => simp [Jaa]
theorem J3h (c : Circuit) (l : List Port) (p : Port) (hk : Jb6 c) (hl : l.length < 100000) (hp : p ∈ allP c) : Pure Tryz.prog GL 218 [c.av, .p (.lst 2 (l.map Port.enc)), p.av] (.p (.bool (Jdz c 6 l p))) := by
 refine Pure.of_walk (N := 16) Tryz.func218 rfl rfl rfl (by simp) (by first | (simp; done) | simp [*]) ?_
 simp
 refine Jab (Jkc c p hk hp) ?_
 have hr : Jdz c 6 l p = (decide (Ja3 c p = 2) && decide (1 < l.length)) := rfl
 rw [hr]
 generalize Ja3 c p = r
 by_cases h : r = 2
 . simp [h, Jaa]
   omega
 . simp [h, Jaa]
theorem J3i (c : Circuit) (l : List Port) (p : Port) (hk : Jb6 c) (hl : l.length < 100000) (hp : p ∈ allP c) : Pure Tryz.prog GL 219 [c.av, .p (.lst 2 (l.map Port.enc)), p.av] (.p (.bool (Jdz c 7 l p))) := by
 refine Pure.of_walk (N := 27) Tryz.func219 rfl rfl rfl (by simp) (by first | (simp; done) | simp [*]) ?_
 obtain ⟨i, q, e1, e2, e3, e4, _⟩ := Jzg hk hp
 have hco := J2m l ⟨p.part, [49, 50]⟩ (by omega)
 have hr : Jdz c 7 l p = (decide (Jal c p.part = 2) && (decide (p.name = [49, 52]) && decide ((⟨p.part, [49, 50]⟩ : Port) ∈ l))) := rfl
 rw [hr, e4]
 obtain ⟨pi, pn⟩ := p
 simp only at e1
 subst e1
 by_cases hq : q.kind = 2
 . by_cases hn : pn = [49, 52]
   . subst hn
     simp [e2, e3, Part.enc, hq, -getElem?_pos, List.getElem?_cons_zero, List.getElem?_cons_succ]
     refine Jab hco ?_
     simp [Jaa, hq]
   . simp [e2, e3, Part.enc, hq, hn, -getElem?_pos, List.getElem?_cons_zero, List.getElem?_cons_succ]
     simp [Jaa]
 . simp [e2, e3, Part.enc, hq, -getElem?_pos, List.getElem?_cons_zero, List.getElem?_cons_succ]
   simp [Jaa]
end Go.Am
namespace Go.Am
open Go Go.Proofs Go.Pn
@[simp] theorem Ke9 : Jhp Tryz.prog 196 = true := by kernel_rfl
def Jji (k : Nat) : Nat := if k <= 2 then 269 else if k = 3 then 213 else if k = 4 then 215 else if k = 5 then 216 else if k = 6 then 218 else 219
def Jfs (k : Nat) : List AV := if k = 1 then [.iptr 1 [[.int .i64 3]] 0 0] else if k = 2 then [.iptr 1 [[.int .i64 4]] 0 0] else []
def Jds (k : Nat) : List AV := [.p (.str (wordAt k)), if k = 0 then .p .nilf else .fn (.func (Jji k)) (Jfs k)]
def Jiy : List AV := (List.range 8).flatMap Jds
theorem Jqx {k : Nat} (h : k < 8) : (Jiy.drop (k * 2)).take 2 = Jds k /\ k * 2 + 2 <= Jiy.length := by
 obtain rfl | rfl | rfl | rfl | rfl | rfl | rfl | rfl : k = 0 \/ k = 1 \/ k = 2 \/ k = 3 \/ k = 4 \/ k = 5 \/ k = 6 \/ k = 7 := by omega
 all_goals exact ⟨rfl, by decide⟩
theorem Kcc {k : Nat} : Ja2 (Jfs k) = true := by
 unfold Jfs
 split
 . rfl
 . split <;> rfl
theorem Jr3 {c : Circuit} {k : Nat} {l : List Port} {p : Port} (h : 1 <= k /\ k <= 7) (hk : Jb6 c) (hl : l.length < 100000) (hp : p ∈ allP c) (ha : ∀ q ∈ l, q ∈ allP c) (hm : p ∈ l) :
   Pure Tryz.prog GL (Jji k) ([c.av, .p (.lst 2 (l.map Port.enc)), p.av] ++ Jfs k) (.p (.bool (Jdz c k l p))) := by
 obtain ⟨h1, h7⟩ := h
 obtain rfl | rfl | rfl | rfl | rfl | rfl | rfl : k = 1 \/ k = 2 \/ k = 3 \/ k = 4 \/ k = 5 \/ k = 6 \/ k = 7 := by omega
 . exact Juc c l p 3 hk hl hp
 . exact Juc c l p 4 hk hl hp
 . exact J3e c l p hk hl hp ha
 . exact J3f c l p hk hl hp ha hm
 . exact J3g c l p hk hl hp ha
 . exact J3h c l p hk hl hp
 . exact J3i c l p hk hl hp
@[simp] theorem Kgz {s : Store} {k i j : Nat} {rows : List (List PV)} : toV s (.iptr k rows i j) (.iptr k rows i j) = True := eq_true (J0h _ rfl)
set_option maxRecDepth 20000 in
theorem Jpl (_ : Unit) : Pure Tryz.prog GL 129 [] (.agg Jiy) := by
 refine Pure.of_walk (N := 12) Tryz.func129 rfl rfl rfl (by simp) (by first | (simp; done) | simp [*]) ?_
 have h1 := Jub 3
 have h2 := Jub 4
 simp
 refine Jab h1 ?_
 simp
 refine Jab h2 ?_
 simp [Jaa, Jiy, Jds, Jji, Jfs, wordAt, J0x, List.range, List.range.loop]
theorem Jl9 {c : Circuit} {p : Port} : around c p = (allP c).filter fun q => decide (rt c q = rt c p) := by
 unfold around
 apply List.filter_congr
 intro q _
 rw [decide_eq_decide, Jpu, <- Kcb]
 exact eq_comm
theorem J8z {c : Circuit} (h : Jad c = 0) {g : List Port} (hg : g ∈ nets c) {p : Port} (hp : p ∈ g) : g = around c p := by
 rw [Jnj h] at hg
 obtain ⟨r, _, rfl⟩ := List.mem_map.1 hg
 have : rt c p = r := by simpa using (List.mem_filter.1 hp).2
 rw [Jl9, this]
def Jgz (c : Circuit) (n : Nat) : List Port := (nets c)[n]?.getD []
def Jdj (c : Circuit) (es : List (Port × Nat)) : List (AV × AV) := es.map fun e => (e.1.av, .p (.lst 2 ((Jgz c e.2).map Port.enc)))
def Jfq (c : Circuit) : List AV := (pairs c).map fun e => e.1.av
def Jg1 (c : Circuit) : List AV := (pairs c).map fun e => .p (.lst 2 ((Jgz c e.2).map Port.enc))
def Jfp (c : Circuit) : AV := .agg [.p (.lst 3 (c.parts.map Part.enc)), .p (.lst 4 (c.pipes.map Pipe.enc)), .p (.lst 2 ((allP c).map Port.enc)), .pmap (Jfq c) (Jg1 c)]
theorem Jrh {c : Circuit} : (Jfq c).zip (Jg1 c) = Jdj c (pairs c) := by
 unfold Jfq Jg1 Jdj
 rw [List.zip_map']
theorem Jq7 {c : Circuit} {ρ : List Nat} {es : List (Port × Nat)} : renE ρ (Jdj c es) = some (Jdj c es) := by
 unfold Jdj
 induction es with
 | nil => rfl
 | cons e es ih => simp only [List.map_cons, renE, ih]; rfl
theorem J19 {c : Circuit} {es : List (Port × Nat)} {p : Port} : Jam (Jdj c es) p.av = (Jek es p).map fun (n : Nat) => AV.p (.lst 2 ((Jgz c n).map Port.enc)) := by
 induction es with
 | nil => simp [Jdj, Jam, Jek]
 | cons e es ih =>
   obtain ⟨a, b⟩ := e
   simp only [Jdj, List.map_cons, Jek] at ih ⊢
   by_cases h : a = p
   . subst h
     simp [Jam]
   . have hne : a.av ≠ p.av := fun h2 => h (Jhu h2)
     rw [if_neg h, <- ih]
     unfold Jam
     rw [List.find?_cons_of_neg (by simpa using hne)]
theorem Kcm {c : Circuit} {es : List (Port × Nat)} {p : Port} {n : Nat} (h : Jek es p = none) : setA (Jdj c es) (.agg [.p (.int .i64 p.part), .p (.str p.name)]) (.p (.lst 2 ((Jgz c n).map Port.enc))) = Jdj c (es ++ [(p, n)]) := by
 rw [Jk8]
 . simp [Jdj]
 . intro e he
   obtain ⟨q, hq, rfl⟩ := List.mem_map.1 he
   intro h2
   have : q.1 = p := Jhu h2
   exact Jqg (n := q.2) (by rw [<- this]; exact hq) h
@[simp] theorem J72 {c : Circuit} {es : List (Port × Nat)} {i : Int} {s : Txt} : Jb0 Tryz.prog 55 (Jdj c es) (.agg [.p (.int .i64 i), .p (.str s)]) = True := eq_true (Jwm (f := Prod.fst) (p := ⟨i, s⟩))
@[simp] theorem Kfg {c : Circuit} {i : Int} {s : Txt} : Jb0 Tryz.prog 55 ((Jfq c).zip (Jg1 c)) (.agg [.p (.int .i64 i), .p (.str s)]) = True := by rw [Jrh, J72]
@[simp] theorem Knt : Jd3 Tryz.prog 68 = some false := by kernel_rfl
theorem Ji2 {c : Circuit} (h : Jad c = 0) {i : Int} {s : Txt} (hp : (⟨i, s⟩ : Port) ∈ allP c) : Jam ((Jfq c).zip (Jg1 c)) (.agg [.p (.int .i64 i), .p (.str s)]) = some (.p (.lst 2 ((around c ⟨i, s⟩).map Port.enc))) := by
 rw [Jrh]
 have := J19 (c := c) (es := pairs c) (p := ⟨i, s⟩)
 rw [J6k h hp] at this
 have hn : Jgz c (netN c i s) = around c ⟨i, s⟩ := by
   obtain ⟨g, e, hg⟩ := Jxk h hp
   unfold Jgz
   rw [e]
   exact J8z h (List.mem_of_getElem? e) hg
 simp only [Option.map_some] at this
 rw [hn] at this
 exact this
theorem Jx9 {c : Circuit} (h : Jad c = 0) : ∀ k, ((Jdu c k).map Prod.fst).Nodup
 | 0 => by simp [Jdu]
 | k + 1 => by
   simp only [Jdu, List.map_append, List.nodup_append]
   refine ⟨Jx9 h k, ?_, ?_⟩
   . split
     . rename_i g e
       rw [List.map_map]
       have : (g.map (Prod.fst ∘ fun x => (x, k))) = g := by
         have e2 : (Prod.fst ∘ fun x : Port => (x, k)) = id := rfl
         rw [e2, List.map_id]
       rw [this]
       exact Jxn h (List.mem_of_getElem? e)
     . simp
   . intro a ha b hb hab
     subst hab
     obtain ⟨⟨a', n⟩, hm, rfl⟩ := List.mem_map.1 ha
     obtain ⟨hn, g, eg, hg⟩ := Jkw.1 hm
     split at hb
     . rename_i g' e'
       rw [List.map_map] at hb
       obtain ⟨b', hb', e2⟩ := List.mem_map.1 hb
       simp only [Function.comp] at e2
       subst e2
       have h1 := (Jkt h eg hg).1
       have h2 := (Jkt h e' hb').1
       omega
     . cases hb
theorem Kbd {c : Circuit} (h : Jad c = 0) : (Jfq c).Nodup := by
 have := Jx9 h (nets c).length
 unfold Jfq
 have e : (pairs c).map (fun e => e.1.av) = ((pairs c).map Prod.fst).map Port.av := by rw [List.map_map]; rfl
 rw [e]
 exact List.Pairwise.map _ (fun a b hab hh => hab (Jhu hh)) this
theorem Kbe {c : Circuit} : Jg2 (Jdj c (pairs c)) = true := by
 rw [Jny]
 intro e he
 obtain ⟨q, _, rfl⟩ := List.mem_map.1 he
 exact ⟨rfl, rfl⟩
def Jgc (c : Circuit) : AV := if Jad c = 0 then Jfp c else .agg [.p (.lst 3 []), .p (.lst 4 []), .p (.lst 2 []), .nilm]
set_option maxRecDepth 20000 in
theorem Jpm (c : Circuit) (hs : Sized c) : Pure Tryz.prog GL 126 [c.av] (.tup [Jgc c, .p (.int .i64 (Jad c))]) := by
 refine Pure.of_walk (N := 52) Tryz.func126 rfl rfl rfl (by simp) (by first | (simp; done) | simp [*]) ?_
 have hPo := J2z c hs
 have hNe := J2y c hs
 simp
 by_cases h : Jad c = 0
 . have h2 := Jcx h
   have hal := Jj8 h2.1 (by omega)
   have hnl := Jxl h
   rw [if_neg (by simpa using h), h] at hPo hNe
   have hR : Jgc c = Jfp c := if_pos h
   rw [hR, h]
   refine Jab hPo ?_
   simp
   refine Jab hNe ?_
   simp
   refine Jaj.go [1, 2, 4, 7, 31, 32] [0, 1] 0 [] (fun _ => []) (fun _ (k : Nat) => [(33, .p (.int .i64 k))]) (fun _ k => [(2, some (.map (Jdj c (Jdu c k))))]) (fun k => k <= (nets c).length) (fun k => (nets c).length - k) 0 (by omega) ?_ ?_
   . simp [Jdu, Jdj]
     try decide
   . intro k hk
     simp
     refine Jac (fun h3 => ?_) (fun h3 => ?_)
     . simp at h3
       obtain ⟨g, eg⟩ := Jah h3
       have hgl := hnl.2 g (List.mem_of_getElem? eg)
       have hall := Kaq eg
       have hgn : Jgz c k = g := by unfold Jgz; rw [eg]; rfl
       simp [h3, eg, Ports.enc, -getElem?_pos, List.getElem?_cons_zero, List.getElem?_cons_succ]
       refine Jaj.go [1, 2, 4, 7, 9, 31, 32, 33, 37, 38] [0, 1] 0 [] (fun _ => []) (fun _ (j : Nat) => [(39, .p (.int .i64 j))]) (fun _ j => [(2, some (.map (Jdj c (Jfc c k g j))))]) (fun j => j <= g.length) (fun j => g.length - j) 0 (by omega) ?_ ?_
       . simp [Kas, Jq7]
         try decide
       . intro j hj
         simp
         refine Jac (fun h4 => ?_) (fun h4 => ?_)
         . simp at h4
           obtain ⟨p, ep⟩ := Jah h4
           have hfr := Kat h eg ep
           have hsn := Kar (c := c) (k := k) ep
           have hset := Kcm (c := c) (n := k) hfr
           rw [hgn] at hset
           simp [h4, ep, -getElem?_pos, List.getElem?_cons_zero, List.getElem?_cons_succ]
           refine ⟨wrap_i64 (by omega) (by omega), j + 1, by omega, by omega, ?_⟩
           simp [hset, hsn, Jq7]
           try decide
         . simp at h4
           have hjl : j = g.length := by omega
           subst hjl
           simp
           refine ⟨wrap_i64 (by omega) (by omega), k + 1, by omega, by omega, ?_⟩
           simp [hall, Jq7]
           try decide
     . simp at h3
       have hkl : k = (nets c).length := by omega
       subst hkl
       have hpe : Jdu c (nets c).length = pairs c := rfl
       rw [hpe]
       simp [Jaa, Jfp]
       exact ⟨Kbe, by simp [Jfq, Jg1], Kbd h, by rw [Jrh]⟩
 . rw [if_pos h] at hPo
   have hR : Jgc c = .agg [.p (.lst 3 []), .p (.lst 4 []), .p (.lst 2 []), .nilm] := if_neg h
   rw [hR]
   refine Jab hPo ?_
   simp [h]
   simp [Jaa]
end Go.Am
namespace Go.Am
open Go Go.Proofs Go.Pn
def allG (c : Circuit) : Nat -> List Fnd
 | 0 => Jet c
 | k + 1 => if k = 0 then Jet c else allG c k ++ Jbn c k (allP c)
theorem Jj7 {c : Circuit} : ∀ k, allG c (k + 1) = allF c k
 | 0 => rfl
 | k + 1 => by
   rw [allG, if_neg (by omega), Jj7 k, allF]
theorem Jo8 {c : Circuit} {k : Nat} : (allG c k).length <= 1 + k * (allP c).length := by
 cases k with
 | zero => unfold allG Jet; split <;> simp
 | succ k =>
   rw [Jj7]
   have := @Jtc c k
   have : k * (allP c).length <= (k + 1) * (allP c).length := Nat.mul_le_mul_right _ (by omega)
   omega
theorem J2l (xs : List Part) (q : Part -> Bool) (m : Nat) (cap : List AV) (hcap : Ja2 cap = true) (hl : xs.length < 4611686018427387904) (hq : ∀ x ∈ xs, Pure Tryz.prog GL m ((Part.av x) :: cap) (.p (.bool (q x)))) : Pure Tryz.prog GL 127 [.p (.lst 3 (xs.map Part.enc)), .fn (.func m) cap] (.p (.bool (xs.any q))) := by
 refine Pure.of_walk (N := 9) Tryz.func127 rfl rfl rfl (by simp) (by first | (simp; done) | simp [*]) ?_
 simp
 refine Jab (Jty xs q m cap hcap hl hq) ?_
 simp [Jaa]
 rw [Bool.eq_iff_iff]
 simp [Jho]
theorem J3c (q : Part) : Pure Tryz.prog GL 128 [q.av] (.p (.bool (decide (q.kind = 0)))) := by
 refine Pure.of_walk (N := 6) Tryz.func128 rfl rfl rfl (by simp) (by first | (simp; done) | simp [*]) ?_
 simp [Jaa]
@[simp] theorem Kfi {ρ : List Nat} : renL ρ Jiy = some Jiy := Jec.2 _ (by decide)
@[simp] theorem Kgk {ρ : List Nat} {k : Nat} : renL ρ (Jfs k) = some (Jfs k) := Jec.2 _ Kcc
set_option maxRecDepth 20000 in
theorem J3b (c : Circuit) (hs : Sized c) : Pure Tryz.prog GL 55 [c.av] (.tup [.p (.lst 3 ((if Jad c = 0 then Jkj c else []).map Fnd.enc)), .p (.int .i64 (Jad c))]) := by
 refine Pure.of_walk (N := 68) Tryz.func55 rfl rfl rfl (by simp) (by first | (simp; done) | simp [*]) ?_
 have hPl := Jpm c hs
 simp
 refine Jab hPl ?_
 by_cases h : Jad c = 0
 . have h2 := Jcx h
   have hR : Jgc c = Jfp c := if_pos h
   have hal := Jj8 h2.1 (by omega)
   have hch := h
   have hkk := h2.1
   have hhead : Jet c = if supB c then [] else [⟨0, ⟨0, []⟩⟩] := rfl
   have hcf := J2l c.parts (fun q => decide (q.kind = 0)) 128 [] rfl (by omega) (fun q _ => J3c q)
   rw [hR, h, if_pos rfl]
   by_cases hn0 : c.parts.length = 0
   . have hsup : supB c = true := by unfold supB; simp [hn0]
     rw [hsup, if_pos rfl] at hhead
     simp [Jfp, hn0]
     refine Jab (Jpl ()) ?_
     simp
     refine Jaj.go [1, 4, 33] [0, 1] 1 [2] (nms [6]) (fun nx (k : Nat) => [(6, .acc nx 3 (allG c k).length), (34, .p (.int .i64 k))]) (fun nx k => [(nx, accB 3 ((allG c k).map Fnd.row))]) (fun k => k <= 8) (fun k => 8 - k) 0 (by omega) ?_ ?_
     . simp [allG, hhead]
       try decide
     . intro k hk8
       have hlen := @Jo8 c k
       have hb8 : k * (allP c).length <= 8 * 1200 := Nat.mul_le_mul hk8 hal
       have hend : k = 8 -> allG c k = Jkj c := fun e => by rw [e, Jj7]; rfl
       have hsucc : allG c (k + 1) = if k = 0 then Jet c else allG c k ++ Jbn c k (allP c) := rfl
       have hz : k = 0 -> allG c k = Jet c := fun e => by rw [e]; rfl
       generalize allG c k = A at hlen hsucc hend hz
       simp
       refine Jac (fun h => ?_) (fun h => ?_)
       . simp at h
         obtain ⟨hki, hkl⟩ := Jqx (k := k) (by omega)
         by_cases hk0 : k = 0
         . have hkc : Jds k = [.p (.str (wordAt k)), .p .nilf] := by unfold Jds; rw [if_pos hk0]
           have hs2 : allG c (k + 1) = A := by rw [hsucc, if_pos hk0, hz hk0]
           rw [hkc] at hki
           simp [hki]
           refine ⟨by omega, by omega, ?_⟩
           refine Jaj.gor [1, 4, 7, 8, 33, 34, 39, 40] [0, 1, 3] [0, 1, 2, 3] (fun st => [0, 1, nameOf (slot st.t 6), 3]) (fun (i : Nat) => [(6, .acc 2 3 A.length), (41, .p (.int .i64 i))]) (fun i => [(2, accB 3 (A.map Fnd.row))]) (fun i => i <= (allP c).length) (fun i => (allP c).length - i) 0 (by omega) ?_ ?_
           . simp
             try decide
           . intro i hi
             simp
             refine Jac (fun h2 => ?_) (fun h2 => ?_)
             . simp at h2
               obtain ⟨p, ep⟩ := Jah h2
               simp [h2, ep, -getElem?_pos, List.getElem?_cons_zero, List.getElem?_cons_succ]
               refine Jak.intro (by kernel_rfl) ?_
               simp
               refine ⟨.of (by kernel_rfl), ?_⟩
               refine ⟨wrap_i64 (by omega) (by omega), i + 1, by omega, by omega, ?_⟩
               simp
               try decide
             . simp
               refine ⟨wrap_i64 (by omega) (by omega), k + 1, by omega, by omega, ?_⟩
               simp [hs2]
               try decide
         . have hkc : Jds k = [.p (.str (wordAt k)), .fn (.func (Jji k)) (Jfs k)] := by unfold Jds; rw [if_neg hk0]
           have hs2 : allG c (k + 1) = A ++ Jbn c k (allP c) := by rw [hsucc, if_neg hk0]
           have hlen2 : A.length <= 9601 := by omega
           rw [hkc] at hki
           simp [hki]
           refine ⟨by omega, by omega, ?_⟩
           refine Jaj.gor [1, 4, 7, 8, 33, 34, 39, 40] [0, 1, 3] [0, 1, 2, 3] (fun st => [0, 1, nameOf (slot st.t 6), 3]) (fun (i : Nat) => [(6, .acc 2 3 (A ++ Jbn c k ((allP c).take i)).length), (41, .p (.int .i64 i))]) (fun i => [(2, accB 3 ((A ++ Jbn c k ((allP c).take i)).map Fnd.row))]) (fun i => i <= (allP c).length) (fun i => (allP c).length - i) 0 (by omega) ?_ ?_
           . simp [Jqi]
             try decide
           . intro i hi
             have hl2 := @Jmv c k ((allP c).take i)
             have hl3 := List.length_take_le i (allP c)
             have hsn := @Jqj c k (allP c) i
             have hfin : i = (allP c).length -> Jbn c k ((allP c).take i) = Jbn c k (allP c) := fun e => by rw [e, List.take_length]
             generalize Jbn c k ((allP c).take i) = T at hl2 hsn hfin
             simp
             refine Jac (fun h2 => ?_) (fun h2 => ?_)
             . simp at h2
               obtain ⟨p, ep⟩ := Jah h2
               have hp := List.mem_of_getElem? ep
               have hsn2 := hsn ep
               have har := @Jha c p
               have hrule := Jr3 (c := c) (k := k) (l := around c p) (p := p) (by omega) hkk (by omega) hp (fun q hq => (List.mem_filter.1 hq).1) (Jpa hp)
               have hlk := Ji2 hch (i := p.part) (s := p.name) hp
               have hfb : Jgp c k p = Jdz c k (around c p) p := rfl
               rw [<- hfb] at hrule
               simp [h2, ep, -getElem?_pos, List.getElem?_cons_zero, List.getElem?_cons_succ]
               refine Jak.intro (by kernel_rfl) ?_
               simp [hlk, hit]
               refine Jab hrule ?_
               simp
               refine ⟨.of (by kernel_rfl), ?_⟩
               cases hb : Jgp c k p with
               | true =>
                 rw [hb, if_pos rfl] at hsn2
                 simp [h2, ep, -getElem?_pos, List.getElem?_cons_zero, List.getElem?_cons_succ]
                 refine ⟨by omega, wrap_i64 (by omega) (by omega), i + 1, by omega, by omega, ?_⟩
                 simp [hsn2]
                 try (first | omega | decide | (refine ⟨by omega, ?_⟩; decide))
               | false =>
                 rw [hb, if_neg (by simp)] at hsn2
                 simp
                 refine ⟨wrap_i64 (by omega) (by omega), i + 1, by omega, by omega, ?_⟩
                 simp [hsn2]
                 try decide
             . simp at h2
               have hT := hfin (by omega)
               subst hT
               simp
               refine ⟨wrap_i64 (by omega) (by omega), k + 1, by omega, by omega, ?_⟩
               simp [hs2]
               try decide
       . simp at h
         have hA := hend (by omega)
         subst hA
         simp [Jaa]
   . have hpos : 0 < c.parts.length := by omega
     simp [Jfp, hpos]
     refine Jab hcf ?_
     have hsup : supB c = c.parts.any fun q => decide (q.kind = 0) := by unfold supB; simp [hn0]
     rw [<- hsup]
     cases hsu : supB c with
     | true =>
       rw [hsu, if_pos rfl] at hhead
       simp
       refine Jab (Jpl ()) ?_
       simp
       refine Jaj.go [1, 4, 33] [0, 1] 1 [2] (nms [6]) (fun nx (k : Nat) => [(6, .acc nx 3 (allG c k).length), (34, .p (.int .i64 k))]) (fun nx k => [(nx, accB 3 ((allG c k).map Fnd.row))]) (fun k => k <= 8) (fun k => 8 - k) 0 (by omega) ?_ ?_
       . simp [allG, hhead]
         try decide
       . intro k hk8
         have hlen := @Jo8 c k
         have hb8 : k * (allP c).length <= 8 * 1200 := Nat.mul_le_mul hk8 hal
         have hend : k = 8 -> allG c k = Jkj c := fun e => by rw [e, Jj7]; rfl
         have hsucc : allG c (k + 1) = if k = 0 then Jet c else allG c k ++ Jbn c k (allP c) := rfl
         have hz : k = 0 -> allG c k = Jet c := fun e => by rw [e]; rfl
         generalize allG c k = A at hlen hsucc hend hz
         simp
         refine Jac (fun h => ?_) (fun h => ?_)
         . simp at h
           obtain ⟨hki, hkl⟩ := Jqx (k := k) (by omega)
           by_cases hk0 : k = 0
           . have hkc : Jds k = [.p (.str (wordAt k)), .p .nilf] := by unfold Jds; rw [if_pos hk0]
             have hs2 : allG c (k + 1) = A := by rw [hsucc, if_pos hk0, hz hk0]
             rw [hkc] at hki
             simp [hki]
             refine ⟨by omega, by omega, ?_⟩
             refine Jaj.gor [1, 4, 7, 8, 33, 34, 39, 40] [0, 1, 3] [0, 1, 2, 3] (fun st => [0, 1, nameOf (slot st.t 6), 3]) (fun (i : Nat) => [(6, .acc 2 3 A.length), (41, .p (.int .i64 i))]) (fun i => [(2, accB 3 (A.map Fnd.row))]) (fun i => i <= (allP c).length) (fun i => (allP c).length - i) 0 (by omega) ?_ ?_
             . simp
               try decide
             . intro i hi
               simp
               refine Jac (fun h2 => ?_) (fun h2 => ?_)
               . simp at h2
                 obtain ⟨p, ep⟩ := Jah h2
                 simp [h2, ep, -getElem?_pos, List.getElem?_cons_zero, List.getElem?_cons_succ]
                 refine Jak.intro (by kernel_rfl) ?_
                 simp
                 refine ⟨.of (by kernel_rfl), ?_⟩
                 refine ⟨wrap_i64 (by omega) (by omega), i + 1, by omega, by omega, ?_⟩
                 simp
                 try decide
               . simp
                 refine ⟨wrap_i64 (by omega) (by omega), k + 1, by omega, by omega, ?_⟩
                 simp [hs2]
                 try decide
           . have hkc : Jds k = [.p (.str (wordAt k)), .fn (.func (Jji k)) (Jfs k)] := by unfold Jds; rw [if_neg hk0]
             have hs2 : allG c (k + 1) = A ++ Jbn c k (allP c) := by rw [hsucc, if_neg hk0]
             have hlen2 : A.length <= 9601 := by omega
             rw [hkc] at hki
             simp [hki]
             refine ⟨by omega, by omega, ?_⟩
             refine Jaj.gor [1, 4, 7, 8, 33, 34, 39, 40] [0, 1, 3] [0, 1, 2, 3] (fun st => [0, 1, nameOf (slot st.t 6), 3]) (fun (i : Nat) => [(6, .acc 2 3 (A ++ Jbn c k ((allP c).take i)).length), (41, .p (.int .i64 i))]) (fun i => [(2, accB 3 ((A ++ Jbn c k ((allP c).take i)).map Fnd.row))]) (fun i => i <= (allP c).length) (fun i => (allP c).length - i) 0 (by omega) ?_ ?_
             . simp [Jqi]
               try decide
             . intro i hi
               have hl2 := @Jmv c k ((allP c).take i)
               have hl3 := List.length_take_le i (allP c)
               have hsn := @Jqj c k (allP c) i
               have hfin : i = (allP c).length -> Jbn c k ((allP c).take i) = Jbn c k (allP c) := fun e => by rw [e, List.take_length]
               generalize Jbn c k ((allP c).take i) = T at hl2 hsn hfin
               simp
               refine Jac (fun h2 => ?_) (fun h2 => ?_)
               . simp at h2
                 obtain ⟨p, ep⟩ := Jah h2
                 have hp := List.mem_of_getElem? ep
                 have hsn2 := hsn ep
                 have har := @Jha c p
                 have hrule := Jr3 (c := c) (k := k) (l := around c p) (p := p) (by omega) hkk (by omega) hp (fun q hq => (List.mem_filter.1 hq).1) (Jpa hp)
                 have hlk := Ji2 hch (i := p.part) (s := p.name) hp
                 have hfb : Jgp c k p = Jdz c k (around c p) p := rfl
                 rw [<- hfb] at hrule
                 simp [h2, ep, -getElem?_pos, List.getElem?_cons_zero, List.getElem?_cons_succ]
                 refine Jak.intro (by kernel_rfl) ?_
                 simp [hlk, hit]
                 refine Jab hrule ?_
                 simp
                 refine ⟨.of (by kernel_rfl), ?_⟩
                 cases hb : Jgp c k p with
                 | true =>
                   rw [hb, if_pos rfl] at hsn2
                   simp [h2, ep, -getElem?_pos, List.getElem?_cons_zero, List.getElem?_cons_succ]
                   refine ⟨by omega, wrap_i64 (by omega) (by omega), i + 1, by omega, by omega, ?_⟩
                   simp [hsn2]
                   try (first | omega | decide | (refine ⟨by omega, ?_⟩; decide))
                 | false =>
                   rw [hb, if_neg (by simp)] at hsn2
                   simp
                   refine ⟨wrap_i64 (by omega) (by omega), i + 1, by omega, by omega, ?_⟩
                   simp [hsn2]
                   try decide
               . simp at h2
                 have hT := hfin (by omega)
                 subst hT
                 simp
                 refine ⟨wrap_i64 (by omega) (by omega), k + 1, by omega, by omega, ?_⟩
                 simp [hs2]
                 try decide
         . simp at h
           have hA := hend (by omega)
           subst hA
           simp [Jaa]
     | false =>
       rw [hsu, if_neg (by simp)] at hhead
       simp
       refine Jab (Jpl ()) ?_
       simp
       refine Jaj.gor [1, 4, 33] [0, 1] [0, 1, 3] (fun st => [0, 1, nameOf (slot st.t 6)]) (fun (k : Nat) => [(6, .acc 2 3 (allG c k).length), (34, .p (.int .i64 k))]) (fun k => [(2, accB 3 ((allG c k).map Fnd.row))]) (fun k => k <= 8) (fun k => 8 - k) 0 (by omega) ?_ ?_
       . simp [allG, hhead]
         try decide
       . intro k hk8
         have hlen := @Jo8 c k
         have hb8 : k * (allP c).length <= 8 * 1200 := Nat.mul_le_mul hk8 hal
         have hend : k = 8 -> allG c k = Jkj c := fun e => by rw [e, Jj7]; rfl
         have hsucc : allG c (k + 1) = if k = 0 then Jet c else allG c k ++ Jbn c k (allP c) := rfl
         have hz : k = 0 -> allG c k = Jet c := fun e => by rw [e]; rfl
         generalize allG c k = A at hlen hsucc hend hz
         simp
         refine Jac (fun h => ?_) (fun h => ?_)
         . simp at h
           obtain ⟨hki, hkl⟩ := Jqx (k := k) (by omega)
           by_cases hk0 : k = 0
           . have hkc : Jds k = [.p (.str (wordAt k)), .p .nilf] := by unfold Jds; rw [if_pos hk0]
             have hs2 : allG c (k + 1) = A := by rw [hsucc, if_pos hk0, hz hk0]
             rw [hkc] at hki
             simp [hki]
             refine ⟨by omega, by omega, ?_⟩
             refine Jaj.gor [1, 4, 7, 8, 33, 34, 39, 40] [0, 1, 4] [0, 1, 2, 3, 4] (fun st => [0, 1, nameOf (slot st.t 6), 3, 4]) (fun (i : Nat) => [(6, .acc 2 3 A.length), (41, .p (.int .i64 i))]) (fun i => [(2, accB 3 (A.map Fnd.row))]) (fun i => i <= (allP c).length) (fun i => (allP c).length - i) 0 (by omega) ?_ ?_
             . simp
               try decide
             . intro i hi
               simp
               refine Jac (fun h2 => ?_) (fun h2 => ?_)
               . simp at h2
                 obtain ⟨p, ep⟩ := Jah h2
                 simp [h2, ep, -getElem?_pos, List.getElem?_cons_zero, List.getElem?_cons_succ]
                 refine Jak.intro (by kernel_rfl) ?_
                 simp
                 refine ⟨.of (by kernel_rfl), ?_⟩
                 refine ⟨wrap_i64 (by omega) (by omega), i + 1, by omega, by omega, ?_⟩
                 simp
                 try decide
               . simp
                 refine ⟨wrap_i64 (by omega) (by omega), k + 1, by omega, by omega, ?_⟩
                 simp [hs2]
                 try decide
           . have hkc : Jds k = [.p (.str (wordAt k)), .fn (.func (Jji k)) (Jfs k)] := by unfold Jds; rw [if_neg hk0]
             have hs2 : allG c (k + 1) = A ++ Jbn c k (allP c) := by rw [hsucc, if_neg hk0]
             have hlen2 : A.length <= 9601 := by omega
             rw [hkc] at hki
             simp [hki]
             refine ⟨by omega, by omega, ?_⟩
             refine Jaj.gor [1, 4, 7, 8, 33, 34, 39, 40] [0, 1, 4] [0, 1, 2, 3, 4] (fun st => [0, 1, nameOf (slot st.t 6), 3, 4]) (fun (i : Nat) => [(6, .acc 2 3 (A ++ Jbn c k ((allP c).take i)).length), (41, .p (.int .i64 i))]) (fun i => [(2, accB 3 ((A ++ Jbn c k ((allP c).take i)).map Fnd.row))]) (fun i => i <= (allP c).length) (fun i => (allP c).length - i) 0 (by omega) ?_ ?_
             . simp [Jqi]
               try decide
             . intro i hi
               have hl2 := @Jmv c k ((allP c).take i)
               have hl3 := List.length_take_le i (allP c)
               have hsn := @Jqj c k (allP c) i
               have hfin : i = (allP c).length -> Jbn c k ((allP c).take i) = Jbn c k (allP c) := fun e => by rw [e, List.take_length]
               generalize Jbn c k ((allP c).take i) = T at hl2 hsn hfin
               simp
               refine Jac (fun h2 => ?_) (fun h2 => ?_)
               . simp at h2
                 obtain ⟨p, ep⟩ := Jah h2
                 have hp := List.mem_of_getElem? ep
                 have hsn2 := hsn ep
                 have har := @Jha c p
                 have hrule := Jr3 (c := c) (k := k) (l := around c p) (p := p) (by omega) hkk (by omega) hp (fun q hq => (List.mem_filter.1 hq).1) (Jpa hp)
                 have hlk := Ji2 hch (i := p.part) (s := p.name) hp
                 have hfb : Jgp c k p = Jdz c k (around c p) p := rfl
                 rw [<- hfb] at hrule
                 simp [h2, ep, -getElem?_pos, List.getElem?_cons_zero, List.getElem?_cons_succ]
                 refine Jak.intro (by kernel_rfl) ?_
                 simp [hlk, hit]
                 refine Jab hrule ?_
                 simp
                 refine ⟨.of (by kernel_rfl), ?_⟩
                 cases hb : Jgp c k p with
                 | true =>
                   rw [hb, if_pos rfl] at hsn2
                   simp [h2, ep, -getElem?_pos, List.getElem?_cons_zero, List.getElem?_cons_succ]
                   refine ⟨by omega, wrap_i64 (by omega) (by omega), i + 1, by omega, by omega, ?_⟩
                   simp [hsn2]
                   try (first | omega | decide | (refine ⟨by omega, ?_⟩; decide))
                 | false =>
                   rw [hb, if_neg (by simp)] at hsn2
                   simp
                   refine ⟨wrap_i64 (by omega) (by omega), i + 1, by omega, by omega, ?_⟩
                   simp [hsn2]
                   try decide
               . simp at h2
                 have hT := hfin (by omega)
                 subst hT
                 simp
                 refine ⟨wrap_i64 (by omega) (by omega), k + 1, by omega, by omega, ?_⟩
                 simp [hs2]
                 try decide
         . simp at h
           have hA := hend (by omega)
           subst hA
           simp [Jaa]
 . have hR : Jgc c = .agg [.p (.lst 3 []), .p (.lst 4 []), .p (.lst 2 []), .nilm] := if_neg h
   rw [hR]
   simp [h]
   simp [Jaa]
end Go.Am
namespace Go.Am
open Go Go.Proofs Go.Pn
end Go.Am
namespace Go.Am
open Go Go.Proofs Go.Pn
def Jej (c : Circuit) (i : Int) (s : Txt) : List Port := Ja1 c (around c ⟨i, s⟩) true
def Jdh (c : Circuit) (i : Int) : Option (Int × Bool) := match Jej c i [50], Jej c i [52] with
 | [a], [b] => if a.part ≠ b.part \/ a.name = b.name then none else if Jal c a.part = 2 \/ Jal c a.part = 3 then some (a.part, decide (b.name = [52])) else none
 | _, _ => none
def Jdv (c : Circuit) (s : Txt) : Int := idxI c.parts fun p => decide (p.name = s)
def Jbk (c : Circuit) (s : Txt) : Int := if Jad c ≠ 0 then Jad c else if Jdv c s < 0 then 6 else if Jal c (Jdv c s) ≠ 1 then 1 else if (Jdh c (Jdv c s)).isNone then 14 else 0
def Jbv (c : Circuit) (s : Txt) : Int × Bool := if Jbk c s ≠ 0 then (0, false) else (Jdh c (Jdv c s)).getD (0, false)
theorem Jvk {c : Circuit} {s : Txt} (h : Jad c = 0) (hs : Sized c) : Pure Tryz.prog GL 36 [c.av, .p (.str s)] (.tup [.p (.int .i64 (if Jdv c s < 0 then 0 else Jdv c s)), .p (.int .i64 (if Jdv c s < 0 then 6 else 0))]) := by
 have := J2w c s hs
 have hno : ¬ Jad c ≠ 0 := by simpa using h
 rw [if_neg hno, if_neg hno] at this
 exact this
theorem Kaw {c : Circuit} {s : Txt} (h : ¬ Jdv c s < 0) : ∃ (i : Nat) (q : Part), Jdv c s = i /\ c.parts[i]? = some q /\ i < c.parts.length /\ q.name = s /\ Jal c i = q.kind := by
 rcases Jhn c.parts (fun p => decide (p.name = s)) with ⟨_, h2⟩ | ⟨i, q, _, h2, h3, h4⟩
 . exact absurd (show Jdv c s < 0 by unfold Jdv; omega) h
 . exact ⟨i, q, h2, h3, (gsI.1 h3).1, by simpa using h4, by simp [Jal, h3, -getElem?_pos]⟩
theorem J5m {c : Circuit} {i : Nat} {q : Part} (e : c.parts[i]? = some q) (hk : q.kind = 1) : (⟨i, [50]⟩ : Port) ∈ allP c /\ (⟨i, [52]⟩ : Port) ∈ allP c := by
 have h2 : ([50] : Txt) ∈ Jbc 1 := by decide +kernel
 have h4 : ([52] : Txt) ∈ Jbc 1 := by decide +kernel
 have hp : Jbm q = Jbc 1 := by unfold Jbm; rw [hk]; rfl
 refine ⟨Jfy.2 (Jf5.2 ⟨q, by simpa using e, by simp, ?_⟩), Jfy.2 (Jf5.2 ⟨q, by simpa using e, by simp, ?_⟩)⟩
 . rw [hp]; exact h2
 . rw [hp]; exact h4
set_option maxRecDepth 20000 in
theorem Jpj (c : Circuit) (s : Txt) (hs : Sized c) : Pure Tryz.prog GL 60 [c.av, .p (.str s)] (.tup [.p (.int .i64 (Jbv c s).1), .p (.bool (Jbv c s).2), .p (.int .i64 (Jbk c s))]) := by
 refine Pure.of_walk (N := 107) Tryz.func60 rfl rfl rfl (by simp) (by first | (simp; done) | simp [*]) ?_
 have hPl := Jpm c hs
 simp
 refine Jab hPl ?_
 by_cases h : Jad c = 0
 . have h2 := Jcx h
   have hal := Jj8 h2.1 (by omega)
   have hR : Jgc c = Jfp c := if_pos h
   have hFi := Jvk (s := s) h hs
   have hno : ¬ Jad c ≠ 0 := by simpa using h
   rw [hR, h]
   simp [Jfp]
   refine Jab hFi ?_
   by_cases hi : Jdv c s < 0
   . have he : Jbk c s = 6 := by unfold Jbk; rw [if_neg hno, if_pos hi]
     have hr : Jbv c s = (0, false) := by unfold Jbv; rw [he, if_pos (by simp)]
     rw [he, hr]
     simp [hi, Jaa]
   . obtain ⟨i, q, e1, e2, e3, e4, e5⟩ := Kaw hi
     rw [e1] at hi
     by_cases hk : q.kind = 1
     . obtain ⟨hp2, hp4⟩ := J5m e2 hk
       have hl2 := Ji2 h hp2
       have hl4 := Ji2 h hp4
       have ha2 := @Jha c ⟨i, [50]⟩
       have ha4 := @Jha c ⟨i, [52]⟩
       have hf2 := Jmg c (around c ⟨i, [50]⟩) h2.1 (by omega) (fun q hq => (List.mem_filter.1 hq).1)
       have hf4 := Jmg c (around c ⟨i, [52]⟩) h2.1 (by omega) (fun q hq => (List.mem_filter.1 hq).1)
       have hd : Jbk c s = if (Jdh c i).isNone then 14 else 0 := by unfold Jbk; rw [if_neg hno, e1, if_neg hi, e5, if_neg (by simpa using hk)]
       have hdr : Jbv c s = if Jbk c s ≠ 0 then (0, false) else (Jdh c i).getD (0, false) := by unfold Jbv; rw [e1]
       have hdo : Jdh c i = match Ja1 c (around c ⟨i, [50]⟩) true, Ja1 c (around c ⟨i, [52]⟩) true with
         | [a], [b] => if a.part ≠ b.part \/ a.name = b.name then none else if Jal c a.part = 2 \/ Jal c a.part = 3 then some (a.part, decide (b.name = [52])) else none
         | _, _ => none := rfl
       have hpa : ∀ a ∈ Ja1 c (around c ⟨i, [50]⟩) true, Jlz c a := fun a ha => Jnt a (List.mem_filter.1 ha).1
       generalize Ja1 c (around c ⟨i, [50]⟩) true = L at hf2 hdo hpa
       generalize Ja1 c (around c ⟨i, [52]⟩) true = M at hf4 hdo
       have hnone : Jdh c i = none -> Jbk c s = 14 /\ Jbv c s = (0, false) := fun hn => by
         have : Jbk c s = 14 := by rw [hd, hn]; rfl
         exact ⟨this, by rw [hdr, this, if_pos (by simp)]⟩
       simp [e1, hi, e2, e3, Part.enc, hk, -getElem?_pos, List.getElem?_cons_zero, List.getElem?_cons_succ]
       refine Jak.intro (by kernel_rfl) ?_
       simp [hl2, hit]
       refine Jab hf2 ?_
       simp
       refine ⟨.of (by kernel_rfl), ?_⟩
       refine Jak.intro (by kernel_rfl) ?_
       simp [hl4, hit]
       refine Jab hf4 ?_
       simp
       refine ⟨.of (by kernel_rfl), ?_⟩
       refine Jak.intro (by kernel_rfl) ?_
       by_cases hL : ∃ a, L = [a]
       . obtain ⟨a, rfl⟩ := hL
         by_cases hM : ∃ b, M = [b]
         . obtain ⟨b, rfl⟩ := hM
           obtain ⟨j, qa, k1, k2, k3, k4⟩ := Jye (hpa a (by simp))
           simp only at hdo
           by_cases hab : a.part = b.part
           . by_cases hnm : a.name = b.name
             . obtain ⟨r1, r2⟩ := hnone (by rw [hdo, if_pos (.inr hnm)])
               rw [r1, r2]
               simp [hab, hnm]
               refine ⟨.of (by kernel_rfl), ?_⟩
               simp [Jaa]
             . simp only [hab, ne_eq, not_true_eq_false, hnm, or_self, if_false] at hdo
               rw [<- hab, k4] at hdo
               have hbk : b.part = j := by omega
               have hjb : (j : Int) = b.part := by omega
               simp [hab, hnm]
               refine ⟨.of (by kernel_rfl), ?_⟩
               refine Jak.intro (by kernel_rfl) ?_
               simp [hbk, k1, k2, k3, Part.enc, -getElem?_pos, List.getElem?_cons_zero, List.getElem?_cons_succ]
               refine ⟨.of (by kernel_rfl), ?_⟩
               by_cases h22 : qa.kind = 2
               . rw [if_pos (.inl h22)] at hdo
                 have r1 : Jbk c s = 0 := by rw [hd, hdo]; rfl
                 have r2 : Jbv c s = (a.part, decide (b.name = [52])) := by rw [hdr, r1, if_neg (by simp), hdo]; rfl
                 rw [r1, r2]
                 simp [h22]
                 refine Jak.intro (by kernel_rfl) ?_
                 simp
                 refine ⟨.of (by kernel_rfl), ?_⟩
                 simp [Jaa, k1]
               . by_cases h33 : qa.kind = 3
                 . rw [if_pos (.inr h33)] at hdo
                   have r1 : Jbk c s = 0 := by rw [hd, hdo]; rfl
                   have r2 : Jbv c s = (a.part, decide (b.name = [52])) := by rw [hdr, r1, if_neg (by simp), hdo]; rfl
                   rw [r1, r2]
                   simp [h33]
                   refine Jak.intro (by kernel_rfl) ?_
                   simp
                   refine ⟨.of (by kernel_rfl), ?_⟩
                   simp [Jaa, k1]
                 . rw [if_neg (by omega)] at hdo
                   obtain ⟨r1, r2⟩ := hnone hdo
                   rw [r1, r2]
                   simp [h22, h33, Jaa]
           . obtain ⟨r1, r2⟩ := hnone (by rw [hdo, if_pos (.inl hab)])
             rw [r1, r2]
             simp [hab]
             refine ⟨.of (by kernel_rfl), ?_⟩
             simp [Jaa]
         . have hMl : ¬ ((M.length : Int) = 1) := fun hh => by
             match M, hh, hM with
             | [b], _, hM => exact hM ⟨b, rfl⟩
             | [], hh, _ => simp at hh
             | _ :: _ :: _, hh, _ => simp at hh; omega
           obtain ⟨r1, r2⟩ := hnone (by
             rw [hdo]
             match M, hM with
             | [b], hM => exact (hM ⟨b, rfl⟩).elim
             | [], _ => rfl
             | _ :: _ :: _, _ => rfl)
           rw [r1, r2]
           simp [hMl]
           refine ⟨.of (by kernel_rfl), ?_⟩
           simp [Jaa]
       . have hLl : ¬ ((L.length : Int) = 1) := fun hh => by
           match L, hh, hL with
           | [b], _, hL => exact hL ⟨b, rfl⟩
           | [], hh, _ => simp at hh
           | _ :: _ :: _, hh, _ => simp at hh; omega
         obtain ⟨r1, r2⟩ := hnone (by
           rw [hdo]
           match L, hL with
           | [b], hL => exact (hL ⟨b, rfl⟩).elim
           | [], _ => rfl
           | _ :: _ :: _, _ => rfl)
         rw [r1, r2]
         simp [hLl]
         refine ⟨.of (by kernel_rfl), ?_⟩
         simp [Jaa]
     . have he : Jbk c s = 1 := by unfold Jbk; rw [if_neg hno, e1, if_neg hi, e5, if_pos hk]
       have hr : Jbv c s = (0, false) := by unfold Jbv; rw [he, if_pos (by simp)]
       rw [he, hr]
       simp [e1, hi, e2, e3, Part.enc, hk, -getElem?_pos, List.getElem?_cons_zero, List.getElem?_cons_succ]
       simp [Jaa]
 . have hR : Jgc c = .agg [.p (.lst 3 []), .p (.lst 4 []), .p (.lst 2 []), .nilm] := if_neg h
   have he : Jbk c s = Jad c := by unfold Jbk; rw [if_pos h]
   have hr : Jbv c s = (0, false) := by unfold Jbv; rw [he, if_pos h]
   rw [hR, he, hr]
   simp [h]
   simp [Jaa]
end Go.Am
namespace Go.Am
open Go Go.Proofs Go.Pn
def intM (ks : List Int) : List (AV × AV) := ks.map fun k => (.p (.int .i64 k), .p (.bool true))
def insI (ks : List Int) (k : Int) : List Int := if k ∈ ks then ks else ks ++ [k]
theorem Jxd {ks : List Int} {k x : Int} : x ∈ insI ks k ↔ x ∈ ks \/ x = k := by
 unfold insI
 split
 . rename_i h
   constructor
   . exact .inl
   . rintro (h1 | rfl)
     . exact h1
     . exact h
 . simp
theorem Jxp {ks : List Int} {k : Int} (h : ks.Nodup) : (insI ks k).Nodup := by
 unfold insI
 split
 . exact h
 . rename_i hn
   rw [List.nodup_append]
   refine ⟨h, by simp, fun a ha b hb => ?_⟩
   simp at hb
   intro e
   exact hn (by rw [<- hb, <- e]; exact ha)
theorem J8k {l : List Int} : ∀ {ks : List Int} {x : Int}, x ∈ l.foldl insI ks ↔ x ∈ ks \/ x ∈ l := by
 induction l with
 | nil => simp
 | cons a l ih =>
   intro ks x
   rw [List.foldl_cons, ih, Jxd, List.mem_cons]
   constructor
   . rintro ((h | h) | h)
     . exact .inl h
     . exact .inr (.inl h)
     . exact .inr (.inr h)
   . rintro (h | h | h)
     . exact .inl (.inl h)
     . exact .inl (.inr h)
     . exact .inr h
theorem J9a {l : List Int} : ∀ {ks : List Int}, ks.Nodup -> (l.foldl insI ks).Nodup := by
 induction l with
 | nil => exact fun h => h
 | cons a l ih => exact fun h => ih (Jxp h)
theorem Jrb {a b : Int} (h : (AV.p (.int .i64 a)) = .p (.int .i64 b)) : a = b := by simpa using h
theorem key3 : KeyOk Tryz.prog 3 IsI := keyI (by kernel_rfl) (fun w em n => by kernel_rfl)
@[simp] theorem Kfd {ks : List Int} {k : Int} : Jb0 Tryz.prog 3 (intM ks) (.p (.int .i64 k)) = True :=
 eq_true ⟨_, key3, ⟨k, rfl⟩, fun e he => by
   obtain ⟨a, _, rfl⟩ := List.mem_map.1 he
   exact ⟨a, rfl⟩⟩
@[simp] theorem Knr : Jd3 Tryz.prog 4 = some false := by kernel_rfl
theorem Jtp {ks : List Int} {k : Int} : Jam (intM ks) (.p (.int .i64 k)) = if k ∈ ks then some (.p (.bool true)) else none := by
 induction ks with
 | nil => simp [intM, Jam]
 | cons a ks ih =>
   have e : intM (a :: ks) = (.p (.int .i64 a), .p (.bool true)) :: intM ks := rfl
   rw [e, Jd5]
   by_cases h : a = k
   . subst h
     rw [if_pos rfl, if_pos (by simp)]
   . rw [if_neg (fun hh => h (Jrb hh)), ih]
     simp [Ne.symm h]
theorem Joa {ks : List Int} {k : Int} : setA (intM ks) (.p (.int .i64 k)) (.p (.bool true)) = intM (insI ks k) := by
 induction ks with
 | nil => simp [intM, setA, insI]
 | cons a ks ih =>
   have e : ∀ l, intM (a :: l) = (.p (.int .i64 a), .p (.bool true)) :: intM l := fun _ => rfl
   rw [e]
   by_cases h : a = k
   . subst h
     have : insI (a :: ks) a = a :: ks := if_pos (by simp)
     rw [this, setA, if_pos rfl, e]
   . rw [setA, if_neg (fun hh => h (Jrb hh)), ih]
     have : insI (a :: ks) k = a :: insI ks k := by
       unfold insI
       by_cases hk : k ∈ ks
       . simp [hk]
       . simp [hk, Ne.symm h]
     rw [this, e]
theorem Jdq {ρ : List Nat} {ks : List Int} : renE ρ (intM ks) = some (intM ks) := by
 unfold intM
 induction ks with
 | nil => rfl
 | cons e es ih => simp only [List.map_cons, renE, ih]; rfl
theorem J7p {ks : List Int} : Jg2 (intM ks) = true := by
 rw [Jny]
 intro e he
 obtain ⟨q, _, rfl⟩ := List.mem_map.1 he
 exact ⟨rfl, rfl⟩
def setV (ks : List Int) : AV := .pmap (ks.map fun k => .p (.int .i64 k)) (ks.map fun _ => .p (.bool true))
theorem Jzq {ks ms : List Int} (hk : ks.Nodup) (hm : ms.Nodup) (h : ∀ x, x ∈ ks ↔ x ∈ ms) :
   Jg2 (intM ms) = true /\ (ks.map fun k => AV.p (.int .i64 k)).length = (ks.map fun _ => AV.p (.bool true)).length /\ (ks.map fun k => AV.p (.int .i64 k)).Nodup /\ ((ks.map fun k => AV.p (.int .i64 k)).zip (ks.map fun _ => AV.p (.bool true))).Perm (intM ms) := by
 refine ⟨J7p, by simp, List.Pairwise.map _ (fun a b hab hh => hab (Jrb hh)) hk, ?_⟩
 have e : (ks.map fun k => AV.p (.int .i64 k)).zip (ks.map fun _ => AV.p (.bool true)) = intM ks := by rw [List.zip_map']; rfl
 rw [e]
 exact ((List.perm_ext_iff_of_nodup hk hm).2 h).map _
def Jf3 (c : Circuit) (i : Int) (ks : List Int) (p : Port) : List Int := if decide (p.part = i) && Jcz c p then ((Ja1 c (around c p) false).map (·.part)).foldl insI ks else ks
def Jcv (ks : List Int) (x : Int) : List Int := if 0 <= x then insI ks x else ks
def limL (c : Circuit) (i : Int) : List Int := if Jfb c (nameAt c i) = 0 then [Jcu c (nameAt c i) 48, Jcu c (nameAt c i) 49] else []
def dirL (c : Circuit) (i : Int) : List Int := (limL c i).foldl Jcv ((allP c).foldl (Jf3 c i) [])
theorem Jxc {c : Circuit} {i : Int} {l : List Port} : ∀ {ks : List Int} {x : Int}, x ∈ l.foldl (Jf3 c i) ks ↔ x ∈ ks \/ ∃ p ∈ l, p.part = i /\ Jcz c p = true /\ ∃ q ∈ Ja1 c (around c p) false, q.part = x := by
 induction l with
 | nil => simp
 | cons a l ih =>
   intro ks x
   rw [List.foldl_cons, ih]
   have hst : x ∈ Jf3 c i ks a ↔ x ∈ ks \/ (a.part = i /\ Jcz c a = true /\ ∃ q ∈ Ja1 c (around c a) false, q.part = x) := by
     unfold Jf3
     by_cases h : (decide (a.part = i) && Jcz c a) = true
     . rw [if_pos h, J8k, List.mem_map]
       simp only [Bool.and_eq_true, decide_eq_true_eq] at h
       simp [h.1, h.2]
     . rw [if_neg h]
       simp only [Bool.and_eq_true, decide_eq_true_eq, not_and] at h
       constructor
       . exact .inl
       . rintro (h1 | ⟨h1, h2, _⟩)
         . exact h1
         . exact absurd h2 (h h1)
   rw [hst]
   constructor
   . rintro ((h | h) | ⟨p, hp, h⟩)
     . exact .inl h
     . exact .inr ⟨a, by simp, h⟩
     . exact .inr ⟨p, by simp [hp], h⟩
   . rintro (h | ⟨p, hp, h⟩)
     . exact .inl (.inl h)
     . rcases List.mem_cons.1 hp with rfl | hp
       . exact .inl (.inr h)
       . exact .inr ⟨p, hp, h⟩
theorem Jxe {l : List Int} : ∀ {ks : List Int} {x : Int}, x ∈ l.foldl Jcv ks ↔ x ∈ ks \/ (x ∈ l /\ 0 <= x) := by
 induction l with
 | nil => simp
 | cons a l ih =>
   intro ks x
   rw [List.foldl_cons, ih]
   have : x ∈ Jcv ks a ↔ x ∈ ks \/ (x = a /\ 0 <= x) := by
     unfold Jcv
     split
     . rename_i h
       rw [Jxd]
       constructor
       . rintro (h1 | rfl)
         . exact .inl h1
         . exact .inr ⟨rfl, h⟩
       . rintro (h1 | ⟨h1, _⟩)
         . exact .inl h1
         . exact .inr h1
     . rename_i h
       constructor
       . exact .inl
       . rintro (h1 | ⟨rfl, h2⟩)
         . exact h1
         . exact absurd h2 h
   rw [this, List.mem_cons]
   constructor
   . rintro ((h | ⟨h1, h2⟩) | ⟨h1, h2⟩)
     . exact .inl h
     . exact .inr ⟨.inl h1, h2⟩
     . exact .inr ⟨.inr h1, h2⟩
   . rintro (h | ⟨h1 | h1, h2⟩)
     . exact .inl (.inl h)
     . exact .inl (.inr ⟨h1, h2⟩)
     . exact .inr ⟨h1, h2⟩
theorem Jra {c : Circuit} {i : Int} : (dirL c i).Nodup := by
 have h1 : ∀ {l : List Port} {ks : List Int}, ks.Nodup -> (l.foldl (Jf3 c i) ks).Nodup := fun {l} => by
   induction l with
   | nil => exact fun h => h
   | cons a l ih =>
     intro ks h
     refine ih ?_
     unfold Jf3
     split
     . exact J9a h
     . exact h
 have h2 : ∀ {l : List Int} {ks : List Int}, ks.Nodup -> (l.foldl Jcv ks).Nodup := fun {l} => by
   induction l with
   | nil => exact fun h => h
   | cons a l ih =>
     intro ks h
     refine ih ?_
     unfold Jcv
     split
     . exact Jxp h
     . exact h
 exact h2 (h1 List.nodup_nil)
theorem Jw5 {c : Circuit} {s : Txt} {d : UInt8} : Jcu c s d = -1 \/ Jcu c s d = 0 \/ (0 <= Jcu c s d /\ Jcu c s d < c.parts.length) := by
 unfold Jcu
 split
 . exact .inr (.inl rfl)
 . unfold swAt swK
   split
   . exact .inl rfl
   . rcases Jgb c (s ++ [d]) with h | ⟨i, x, h, e, _⟩
     . exact .inl h
     . rw [h]
       have := (gsI.1 e).1
       exact .inr (.inr ⟨by omega, by omega⟩)
theorem Jf2 {c : Circuit} {i x : Int} (hi : 0 <= i /\ i < c.parts.length) (h : x ∈ dirL c i) : 0 <= x /\ x < c.parts.length := by
 unfold dirL at h
 rw [Jxe, Jxc] at h
 rcases h with (h | ⟨p, _, _, _, q, hq, rfl⟩) | ⟨h1, h2⟩
 . cases h
 . have := Jnt q (List.mem_filter.1 hq).1
   have h3 := this.1
   have h4 := this.2
   omega
 . refine ⟨h2, ?_⟩
   unfold limL at h1
   split at h1
   . rcases List.mem_cons.1 h1 with rfl | h1
     . rcases @Jw5 c (nameAt c i) 48 with h | h | h <;> omega
     . simp at h1
       subst h1
       rcases @Jw5 c (nameAt c i) 49 with h | h | h <;> omega
   . cases h1
def insP (ks : List Int) (T : List Port) : List Int := (T.map (·.part)).foldl insI ks
theorem J7o {ks : List Int} {T : List Port} {m : Nat} {q : Port} (e : T[m]? = some q) : insP ks (T.take (m + 1)) = insI (insP ks (T.take m)) q.part := by
 unfold insP
 rw [take_snoc e, List.map_append, List.foldl_append]; rfl
def dirT (c : Circuit) (i : Int) (k : Nat) : List Int := ((allP c).take k).foldl (Jf3 c i) []
def Jke (c : Circuit) (i : Int) : List Int := (allP c).foldl (Jf3 c i) []
theorem J5v {c : Circuit} {i : Int} : dirT c i 0 = [] := rfl
theorem J5t {c : Circuit} {i : Int} : dirT c i (allP c).length = Jke c i := by unfold dirT Jke; rw [List.take_length]
theorem J5u {c : Circuit} {i : Int} {k : Nat} {p : Port} (e : (allP c)[k]? = some p) : dirT c i (k + 1) = if p.part = i /\ Jcz c p = true then insP (dirT c i k) (Ja1 c (around c p) false) else dirT c i k := by
 unfold dirT
 rw [foldl_snoc e]
 unfold Jf3 insP
 by_cases h1 : p.part = i <;> by_cases h2 : Jcz c p = true <;> simp [h1, h2]
def limT (D : List Int) (u v : Int) (k : Nat) : List Int := match k with
 | 0 => D
 | 1 => Jcv D u
 | _ => Jcv (Jcv D u) v
set_option maxRecDepth 20000 in
theorem J3d (c : Circuit) (i : Nat) (hs : Sized c) (h : Jad c = 0) (hi : i < c.parts.length) : Pure Tryz.prog GL 220 [.agg [.p (.lst 3 (c.parts.map Part.enc)), .p (.lst 4 (c.pipes.map Pipe.enc)), .p (.lst 2 ((allP c).map Port.enc)), .pmap (Jfq c) (Jg1 c)], .p (.int .i64 i)] (setV (dirL c i)) := by
 refine Pure.of_walk (N := 80) Tryz.func220 rfl rfl rfl (by simp) (by first | (simp; done) | simp [*]) ?_
 have h2 := Jcx h
 have hal := Jj8 h2.1 (by omega)
 obtain ⟨qi, ei⟩ := Jah hi
 have hnm : nameAt c i = qi.name := by unfold nameAt; rw [Int.toNat_natCast, ei]
 have hLi := J2x c qi.name hs (hs.names qi (List.mem_of_getElem? ei))
 simp
 refine Jaj.go [1, 2, 5, 17, 18] [0] 0 [] (fun _ => []) (fun _ (k : Nat) => [(19, .p (.int .i64 k))]) (fun _ k => [(1, some (.map (intM (dirT c i k))))]) (fun k => k <= (allP c).length) (fun k => (allP c).length - k) 0 (by omega) ?_ ?_
 . simp [intM, J5v]
   try decide
 . intro k hk
   have hsn := @J5u c i k
   have hend : k = (allP c).length -> dirT c i k = Jke c i := fun e => by rw [e]; exact J5t
   generalize dirT c i k = A at hsn hend
   simp
   refine Jac (fun h3 => ?_) (fun h3 => ?_)
   . simp at h3
     obtain ⟨p, ep⟩ := Jah h3
     have hp := List.mem_of_getElem? ep
     have hsn2 := hsn ep
     have hgv := Jpk c p h2.1 hp
     have hlk := Ji2 h (i := p.part) (s := p.name) hp
     have har := @Jha c p
     have hta := Jt8 c (around c p) h2.1 (by omega) (fun q hq => (List.mem_filter.1 hq).1)
     have hol : (Ja1 c (around c p) false).length <= (around c p).length := List.length_filter_le ..
     obtain ⟨pi, pn⟩ := p
     simp only at hlk hsn2
     simp [h3, ep, -getElem?_pos, List.getElem?_cons_zero, List.getElem?_cons_succ]
     by_cases hpi : pi = i
     . subst hpi
       simp
       refine Jab hgv ?_
       cases hb : Jcz c ⟨(i : Int), pn⟩ with
       | true =>
         rw [if_pos ⟨rfl, hb⟩] at hsn2
         simp
         refine Jak.intro (by kernel_rfl) ?_
         simp [hlk, hit]
         refine Jab hta ?_
         simp
         refine ⟨.of (by kernel_rfl), ?_⟩
         generalize Ja1 c (around c ⟨(i : Int), pn⟩) false = T at *
         refine Jaj.go [1, 2, 5, 17, 18, 19, 39, 40] [0] 0 [] (fun _ => []) (fun _ (m : Nat) => [(41, .p (.int .i64 m))]) (fun _ m => [(1, some (.map (intM (insP A (T.take m)))))]) (fun m => m <= T.length) (fun m => T.length - m) 0 (by omega) ?_ ?_
         . simp [Jdq, insP]
           try decide
         . intro m hm
           have hs1 := @J7o A T m
           have hs2 : m = T.length -> insP A (T.take m) = insP A T := fun e => by rw [e, List.take_length]
           generalize insP A (T.take m) = D at hs1 hs2
           simp
           refine Jac (fun h4 => ?_) (fun h4 => ?_)
           . simp at h4
             obtain ⟨q, eq⟩ := Jah h4
             have hs3 := hs1 eq
             simp [h4, eq, -getElem?_pos, List.getElem?_cons_zero, List.getElem?_cons_succ]
             refine ⟨wrap_i64 (by omega) (by omega), m + 1, by omega, by omega, ?_⟩
             simp [Joa, hs3, Jdq]
             try decide
           . simp at h4
             have hD := hs2 (by omega)
             subst hD
             simp
             refine ⟨wrap_i64 (by omega) (by omega), k + 1, by omega, by omega, ?_⟩
             simp [hsn2, Jdq]
             try decide
       | false =>
         rw [if_neg (by simp [hb])] at hsn2
         simp
         refine ⟨wrap_i64 (by omega) (by omega), k + 1, by omega, by omega, ?_⟩
         simp [hsn2, Jdq]
         try decide
     . rw [if_neg (by simp [hpi])] at hsn2
       simp [hpi]
       refine ⟨wrap_i64 (by omega) (by omega), k + 1, by omega, by omega, ?_⟩
       simp [hsn2, Jdq]
       try decide
   . simp at h3
     have hA := hend (by omega)
     subst hA
     simp
     refine Jak.intro (by kernel_rfl) ?_
     simp [ei, hi, Part.enc, -getElem?_pos, List.getElem?_cons_zero, List.getElem?_cons_succ]
     refine Jab hLi ?_
     simp
     refine ⟨.of (by kernel_rfl), ?_⟩
     have hdl : dirL c i = (limL c i).foldl Jcv (Jke c i) := rfl
     have hll : limL c i = if Jfb c qi.name = 0 then [Jcu c qi.name 48, Jcu c qi.name 49] else [] := by rw [limL, hnm]
     have hfin := Jzq (Jra (c := c) (i := i)) Jra (fun _ => Iff.rfl)
     rw [hll] at hdl
     generalize dirL c i = R at *
     generalize Jke c i = D at *
     by_cases hle : Jfb c qi.name = 0
     . rw [if_pos hle] at hdl
       generalize Jcu c qi.name 48 = u at *
       generalize Jcu c qi.name 49 = v at *
       have hRl : limT D u v 2 = R := hdl.symm
       simp [hle]
       refine Jaj.go [5, 68, 69] [2] 0 [] (fun _ => []) (fun _ (k : Nat) => [(70, .p (.int .i64 k))]) (fun _ k => [(1, some (.map (intM (limT D u v k))))]) (fun k => k <= 2) (fun k => 2 - k) 0 (by omega) ?_ ?_
       . simp [limT, Jdq]
         try decide
       . intro k hk
         obtain rfl | rfl | rfl : k = 0 \/ k = 1 \/ k = 2 := by omega
         . have h01 : limT D u v 0 = D := rfl
           have h11 : limT D u v 1 = Jcv D u := rfl
           rw [h01]
           simp
           refine Jac (fun hu => ?_) (fun hu => ?_)
           . simp at hu
             have hst : Jcv D u = insI D u := if_pos hu
             simp
             refine ⟨1, by omega, by omega, ?_⟩
             simp [Joa, h11, hst, Jdq]
             try decide
           . simp at hu
             have hst : Jcv D u = D := if_neg (by omega)
             simp
             refine ⟨1, by omega, by omega, ?_⟩
             simp [h11, hst, Jdq]
             try decide
         . have h11 : limT D u v 1 = Jcv D u := rfl
           have h21 : limT D u v 2 = Jcv (Jcv D u) v := rfl
           rw [h11]
           generalize Jcv D u = E at *
           simp
           refine Jac (fun hu => ?_) (fun hu => ?_)
           . simp at hu
             have hst : Jcv E v = insI E v := if_pos hu
             simp
             refine ⟨2, by omega, by omega, ?_⟩
             simp [Joa, h21, hst, Jdq]
             try decide
           . simp at hu
             have hst : Jcv E v = E := if_neg (by omega)
             simp
             refine ⟨2, by omega, by omega, ?_⟩
             simp [h21, hst, Jdq]
             try decide
         . rw [hRl]
           simp
           simp [Jaa, setV]
           exact ⟨hfin.1, hfin.2.2⟩
     . rw [if_neg hle] at hdl
       have hRD : R = D := hdl
       subst hRD
       simp [hle]
       simp [Jaa, setV]
       exact ⟨hfin.1, hfin.2.2⟩
end Go.Am
namespace Go.Am
open Go Go.Proofs Go.Pn
def Jkg (c : Circuit) (i : Int) : List Psg := ((dirL c i).map fun x => ⟨0, x.toNat, [], true⟩) ++ (List.range c.parts.length).flatMap fun (a : Nat) => (dirL c a).map fun x => ⟨0, x.toNat, [a], false⟩
def Jrp (c : Circuit) (i : Int) : List Nat := lfp (Jkg c i) c.parts.length
def Jba (c : Circuit) (i : Int) : List Int := ((List.range c.parts.length).filter fun n => (Jrp c i).contains n).map fun (n : Nat) => (n : Int)
theorem Jp2 {c : Circuit} {i : Int} (hi : 0 <= i /\ i < c.parts.length) : ∀ y ∈ Jkg c i, y.to < c.parts.length := by
 intro y hy
 rcases List.mem_append.1 hy with hy | hy
 . obtain ⟨x, hx, rfl⟩ := List.mem_map.1 hy
   have := Jf2 hi hx
   simp only; omega
 . obtain ⟨a, ha, hy⟩ := List.mem_flatMap.1 hy
   obtain ⟨x, hx, rfl⟩ := List.mem_map.1 hy
   have := Jf2 (i := (a : Int)) ⟨by omega, by have := List.mem_range.1 ha; omega⟩ hx
   simp only; omega
theorem Kbu {c : Circuit} {i : Int} (hi : 0 <= i /\ i < c.parts.length) : ∀ n ∈ Jrp c i, n < c.parts.length := by
 have := Jw3 (ps := Jkg c i) (N := c.parts.length) (S := fun n => decide (n < c.parts.length)) (fun y hy _ => by simpa using Jp2 hi y hy)
 intro n hn
 simpa using this n hn
theorem Jq0 {c : Circuit} {i x : Int} (hi : 0 <= i /\ i < c.parts.length) : x ∈ Jba c i ↔ 0 <= x /\ x.toNat ∈ Jrp c i := by
 unfold Jba
 rw [List.mem_map]
 constructor
 . rintro ⟨n, hn, rfl⟩
   exact ⟨by omega, by simpa using (List.mem_filter.1 hn).2⟩
 . rintro ⟨h0, h1⟩
   exact ⟨x.toNat, List.mem_filter.2 ⟨List.mem_range.2 (Kbu hi _ h1), by simpa using h1⟩, by omega⟩
theorem Jgd {c : Circuit} {i x : Int} (h : x ∈ Jba c i) : 0 <= x /\ x < c.parts.length := by
 obtain ⟨n, hn, rfl⟩ := List.mem_map.1 h
 have := List.mem_range.1 (List.mem_filter.1 hn).1
 omega
theorem Kbt {c : Circuit} {i : Int} : (Jba c i).Nodup :=
 List.Pairwise.map _ (fun a b hab hh => hab (by omega)) (List.nodup_range.filter _)
theorem Jhw {c : Circuit} {i x : Int} (hi : 0 <= i /\ i < c.parts.length) (h : x ∈ dirL c i) : x ∈ Jba c i := by
 have hr := Jf2 hi h
 rw [Jq0 hi]
 refine ⟨hr.1, ?_⟩
 have := Jw2 (Jp2 hi) ⟨0, x.toNat, [], true⟩ (List.mem_append_left _ (List.mem_map.2 ⟨x, h, rfl⟩)) rfl
 exact List.contains_iff_mem.1 this
theorem Jhx {c : Circuit} {i a x : Int} (hi : 0 <= i /\ i < c.parts.length) (ha : a ∈ Jba c i) (h : x ∈ dirL c a) : x ∈ Jba c i := by
 have hra := Jgd ha
 have hr := Jf2 hra h
 rw [Jq0 hi] at ha ⊢
 refine ⟨hr.1, ?_⟩
 have haa : ((a.toNat : Nat) : Int) = a := by omega
 have := Jw2 (Jp2 hi) ⟨0, x.toNat, [a.toNat], false⟩ (List.mem_append_right _ (List.mem_flatMap.2 ⟨a.toNat, List.mem_range.2 (by omega), List.mem_map.2 ⟨x, by rw [haa]; exact h, rfl⟩⟩)) (by
   have : (lfp (Jkg c i) c.parts.length).contains a.toNat = true := List.contains_iff_mem.2 ha.2
   simp only [Jhk, Bool.false_eq_true, if_false, List.any_cons, List.any_nil, Bool.or_false]
   exact this)
 exact List.contains_iff_mem.1 this
theorem Jnz {c : Circuit} {i : Int} {ks : List Int} (hi : 0 <= i /\ i < c.parts.length) (h0 : ∀ x ∈ dirL c i, x ∈ ks) (h1 : ∀ a ∈ ks, ∀ x ∈ dirL c a, x ∈ ks) : ∀ x ∈ Jba c i, x ∈ ks := by
 have := Jw3 (ps := Jkg c i) (N := c.parts.length) (S := fun n => decide ((n : Int) ∈ ks)) (fun y hy hf => by
   rcases List.mem_append.1 hy with hy | hy
   . obtain ⟨x, hx, rfl⟩ := List.mem_map.1 hy
     have hr := Jf2 hi hx
     have e : ((x.toNat : Nat) : Int) = x := by omega
     simp only [e, decide_eq_true_eq]
     exact h0 x hx
   . obtain ⟨a, ha, hy⟩ := List.mem_flatMap.1 hy
     obtain ⟨x, hx, rfl⟩ := List.mem_map.1 hy
     have hr := Jf2 (i := (a : Int)) ⟨by omega, by have := List.mem_range.1 ha; omega⟩ hx
     have e : ((x.toNat : Nat) : Int) = x := by omega
     simp only [Jhk, Bool.false_eq_true, if_false, List.any_cons, List.any_nil, Bool.or_false, decide_eq_true_eq] at hf
     simp only [e, decide_eq_true_eq]
     exact h1 a hf x hx)
 intro x hx
 rw [Jq0 hi] at hx
 have h2 := this _ hx.2
 have e : ((x.toNat : Nat) : Int) = x := by omega
 simpa [e] using h2
structure RInv (c : Circuit) (i : Int) (ks q : List Int) : Prop where
 nd : ks.Nodup
 rng : ∀ x ∈ ks, 0 <= x /\ x < c.parts.length
 qk : ∀ x ∈ q, x = i \/ x ∈ ks
 sound : ∀ x ∈ ks, x ∈ Jba c i
 clos : ∀ a, (a = i \/ a ∈ ks) -> a ∉ q -> ∀ x ∈ dirL c a, x ∈ ks
theorem RInv.init {c : Circuit} {i : Int} : RInv c i [] [i] :=
 ⟨List.nodup_nil, by simp, by simp, by simp, fun a ha hq => by simp at ha hq; exact absurd ha hq⟩
theorem RInv.push {c : Circuit} {i : Int} (hi : 0 <= i /\ i < c.parts.length) {ks q : List Int} {q0 k : Int} (h : RInv c i ks q) (h0 : q0 ∈ q) (hk : k ∈ dirL c q0) (hn : k ∉ ks) : RInv c i (ks ++ [k]) (q ++ [k]) := by
 have hk2 : k ∈ Jba c i := by
   rcases h.qk q0 h0 with rfl | h1
   . exact Jhw hi hk
   . exact Jhx hi (h.sound _ h1) hk
 refine ⟨?_, ?_, ?_, ?_, ?_⟩
 . rw [List.nodup_append]
   refine ⟨h.nd, by simp, fun a ha b hb e => ?_⟩
   simp at hb
   exact hn (by rw [<- hb, <- e]; exact ha)
 . intro x hx
   rcases List.mem_append.1 hx with hx | hx
   . exact h.rng x hx
   . simp at hx; subst hx; exact Jgd hk2
 . intro x hx
   rcases List.mem_append.1 hx with hx | hx
   . rcases h.qk x hx with h1 | h1
     . exact .inl h1
     . exact .inr (List.mem_append_left _ h1)
   . exact .inr (List.mem_append_right _ hx)
 . intro x hx
   rcases List.mem_append.1 hx with hx | hx
   . exact h.sound x hx
   . simp at hx; subst hx; exact hk2
 . intro a ha hq x hx
   rw [List.mem_append, not_or] at hq
   have ha2 : a = i \/ a ∈ ks := by
     rcases ha with ha | ha
     . exact .inl ha
     . rcases List.mem_append.1 ha with ha | ha
       . exact .inr ha
       . exact absurd ha hq.2
   exact List.mem_append_left _ (h.clos a ha2 hq.1 x hx)
theorem RInv.pop {c : Circuit} {i : Int} {ks t : List Int} {q0 : Int} (h : RInv c i ks (q0 :: t)) (hd : ∀ x ∈ dirL c q0, x ∈ ks) : RInv c i ks t := by
 refine ⟨h.nd, h.rng, fun x hx => h.qk x (List.mem_cons_of_mem _ hx), h.sound, fun a ha hq x hx => ?_⟩
 by_cases e : a = q0
 . subst e; exact hd x hx
 . exact h.clos a ha (by simp [e, hq]) x hx
theorem RInv.fin {c : Circuit} {i : Int} (hi : 0 <= i /\ i < c.parts.length) {ks : List Int} (h : RInv c i ks []) (x : Int) : x ∈ Jba c i ↔ x ∈ ks :=
 ⟨Jnz hi (fun x hx => h.clos i (.inl rfl) (by simp) x hx) (fun a ha x hx => h.clos a (.inr ha) (by simp) x hx) x, h.sound x⟩
theorem RInv.small {c : Circuit} {i : Int} {ks q : List Int} (h : RInv c i ks q) : ks.length <= c.parts.length := by
 have h1 : (ks.map Int.toNat).Nodup := by
   refine List.pairwise_map.2 ?_
   refine List.Pairwise.imp_of_mem ?_ h.nd
   intro a b ha hb hab e
   have := h.rng a ha
   have := h.rng b hb
   exact hab (by omega)
 have := Jfm (m := List.range c.parts.length) h1 (fun x hx => by
   obtain ⟨a, ha, rfl⟩ := List.mem_map.1 hx
   have := h.rng a ha
   exact List.mem_range.2 (by omega))
 simpa using this
theorem RInv.part {c : Circuit} {i : Int} (hi : 0 <= i /\ i < c.parts.length) {ks t : List Int} {q0 : Int} (h : RInv c i ks (q0 :: t)) : ∃ j : Nat, q0 = j /\ j < c.parts.length := by
 have : 0 <= q0 /\ q0 < c.parts.length := by
   rcases h.qk q0 (by simp) with rfl | h1
   . exact hi
   . exact h.rng _ h1
 exact ⟨q0.toNat, by omega, by omega⟩
structure QSt where
 ks : List Int
 done : List Int
 q : List Int
def qV (g : QSt) : AV := match g.q with
 | [] => .p (.lst 1 [])
 | _ :: _ => .ref 2 1 g.done.length g.q.length none
def qB (g : QSt) : Store := match g.q with
 | [] => []
 | _ :: _ => [(2, some (.cells 1 ((g.done ++ g.q).map Int.row)))]
def nmQ (x : AV) : Nat := match x with
 | .ref b .. => b
 | _ => 2
@[simp] theorem Kfq {b k i n : Nat} {c : Option Nat} : nmQ (.ref b k i n c) = b := rfl
@[simp] theorem Kfp {x : PV} : nmQ (.p x) = 2 := rfl
structure ISt where
 ks : List Int
 done : List Int
 t : List Int
 seen : List Nat
set_option maxRecDepth 20000 in
theorem J3j (c : Circuit) (i : Nat) (hs : Sized c) (h : Jad c = 0) (hi : i < c.parts.length) : Pure Tryz.prog GL 130 [.agg [.p (.lst 3 (c.parts.map Part.enc)), .p (.lst 4 (c.pipes.map Pipe.enc)), .p (.lst 2 ((allP c).map Port.enc)), .pmap (Jfq c) (Jg1 c)], .p (.int .i64 i)] (setV (Jba c i)) := by
 refine Pure.of_walk (N := 37) Tryz.func130 rfl rfl rfl (by simp) (by first | (simp; done) | simp [*]) ?_
 have h2 := Jcx h
 have hi2 : 0 <= (i : Int) /\ (i : Int) < c.parts.length := by omega
 simp
 refine Jaj.gor [2, 5] [0] [0, 1, 2] (fun st => [0, 1, nmQ (slot st.t 6)]) (fun (g : QSt) => [(6, qV g)]) (fun g => (1, some (.map (intM g.ks))) :: qB g) (fun g => RInv c i g.ks g.q /\ 2 * (c.parts.length - g.ks.length) + g.q.length <= 2 * c.parts.length + 1) (fun g => 2 * (c.parts.length - g.ks.length) + g.q.length) ⟨[], [], [(i : Int)]⟩ ⟨RInv.init, by simp⟩ ?_ ?_
 . simp [qV, qB, intM]
   try decide
 . rintro ⟨ks, done, q⟩ ⟨hI, hbq⟩
   simp only at hI hbq
   have hsm := hI.small
   cases q with
   | nil =>
     have hfin := Jzq (Kbt (c := c) (i := (i : Int))) hI.nd (hI.fin hi2)
     simp [qV, qB]
     simp [Jaa, setV]
     exact ⟨hfin.1, hfin.2.2⟩
   | cons q0 t =>
     obtain ⟨j, rfl, hj⟩ := hI.part hi2
     simp at hbq
     have hdir := J3d c j hs h hj
     simp [qV, qB]
     refine Jak.intro (by kernel_rfl) ?_
     simp
     refine Jab hdir ?_
     simp [setV]
     refine ⟨.of (by kernel_rfl), ?_⟩
     have hdn := Jra (c := c) (i := (j : Int))
     generalize hD : dirL c (j : Int) = D at hdn
     refine Jaj.gor [2, 5, 21] [0] [0, 1, 2, 3] (fun st => [0, 1, nmQ (slot st.t 6), 3]) (fun (g : ISt) => [(6, .ref 2 1 g.done.length (g.t.length + 1) none)]) (fun g => [(1, some (.map (intM g.ks))), (2, some (.cells 1 ((g.done ++ (j : Int) :: g.t).map Int.row))), (3, some (.iter (D.map fun k => .p (.int .i64 k)) (D.map fun _ => .p (.bool true)) g.seen))]) (fun g => RInv c i g.ks ((j : Int) :: g.t) /\ (∀ n ∈ g.seen, ∀ x, D[n]? = some x -> x ∈ g.ks) /\ g.seen.Nodup /\ (∀ n ∈ g.seen, n < D.length) /\ 2 * (c.parts.length - g.ks.length) + g.t.length <= 2 * (c.parts.length - ks.length) + t.length) (fun g => D.length - g.seen.length) ⟨ks, done, t, []⟩ ⟨hI, by simp, List.nodup_nil, by simp, Nat.le_refl _⟩ ?_ ?_
     . simp [Jdq]
       try decide
     . rintro ⟨ks2, done2, t2, seen⟩ ⟨hI2, hse, hsn, hsl, hme⟩
       simp only at hI2 hse hsn hsl hme
       have hsm2 := hI2.small
       simp
       refine Jlt (fun n kk vv hn hk hv => ?_) (fun hall => ?_)
       . rw [List.getElem?_map, Option.map_eq_some_iff] at hk
         obtain ⟨x, ex, rfl⟩ := hk
         have hxl := (gsI.1 ex).1
         have hvv : vv = .p (.bool true) := by
           rw [List.getElem?_map, ex] at hv
           simpa using hv.symm
         subst hvv
         have hxm := List.mem_of_getElem? ex
         have hsn3 : (seen ++ [n]).Nodup := by
           rw [List.nodup_append]
           exact ⟨hsn, by simp, fun a ha b hb e => hn (by simp at hb; rw [<- hb, <- e]; exact ha)⟩
         have hsl3 : ∀ m ∈ seen ++ [n], m < D.length := fun m hm => by
           rcases List.mem_append.1 hm with hm | hm
           . exact hsl m hm
           . simp at hm; subst hm; exact hxl
         have hse3 : ∀ (l : List Int), (∀ y ∈ ks2, y ∈ l) -> x ∈ l -> ∀ m ∈ seen ++ [n], ∀ y, D[m]? = some y -> y ∈ l := fun l hl hx m hm y hy => by
           rcases List.mem_append.1 hm with hm | hm
           . exact hl y (hse m hm y hy)
           . simp at hm; subst hm; rw [ex] at hy; cases hy; exact hx
         have hcnt : seen.length + 1 <= D.length := by
           have := Jfm (m := List.range D.length) hsn3 (fun m hm => List.mem_range.2 (hsl3 m hm))
           simpa using this
         by_cases hx : x ∈ ks2
         . simp [ex, Jtp, hit, zeroV, hx]
           refine ⟨⟨ks2, done2, t2, seen ++ [n]⟩, ⟨hI2, hse3 ks2 (fun _ h => h) hx, hsn3, hsl3, hme⟩, by simp; omega, ?_⟩
           simp [Jdq]
           try decide
         . have hins : insI ks2 x = ks2 ++ [x] := if_neg hx
           have hI3 := hI2.push hi2 (q0 := (j : Int)) (by simp) (by rw [hD]; exact hxm) hx
           have hsm3 := hI3.small
           simp at hsm3
           simp [ex, Jtp, hit, zeroV, hx, Joa, hins]
           refine ⟨by omega, ?_⟩
           refine ⟨⟨ks2 ++ [x], [], t2 ++ [x], seen ++ [n]⟩, ⟨hI3, hse3 _ (fun y hy => by simp [hy]) (by simp), hsn3, hsl3, by simp; omega⟩, by simp; omega, ?_⟩
           simp [Jdq]
           try decide
       . have hall2 : ∀ y ∈ dirL c (j : Int), y ∈ ks2 := fun y hy => by
           rw [hD] at hy
           obtain ⟨m, hm⟩ := List.mem_iff_getElem?.1 hy
           exact hse m (hall m (by simpa using (gsI.1 hm).1)) y hm
         have hI4 := hI2.pop hall2
         cases t2 with
         | nil =>
           simp
           refine ⟨⟨ks2, done2 ++ [(j : Int)], []⟩, ⟨hI4, by simp at hme ⊢; omega⟩, by simp at hme ⊢; omega, ?_⟩
           simp [Jdq, qV, qB]
           try decide
         | cons u t3 =>
           have h1 : (1 : Int) <= (t3.length : Int) + 1 + 1 := by omega
           simp [h1]
           refine ⟨⟨ks2, done2 ++ [(j : Int)], u :: t3⟩, ⟨hI4, by simp at hme ⊢; omega⟩, by simp at hme ⊢; omega, ?_⟩
           simp [Jdq, qV, qB]
           try decide
end Go.Am
namespace Go.Am
open Go Go.Proofs Go.Pn
def idleB (c : Circuit) (i : Nat) : Bool := !decide (Jal c i = 1) && (Jba c i).all fun k => !decide (Jal c k = 1)
def Jdp (c : Circuit) (k : Nat) : List Int := ((List.range k).filter (idleB c)).map fun (i : Nat) => (i : Int)
def Jb4 (c : Circuit) : List Int := if Jad c = 0 then Jdp c c.parts.length else []
theorem Jqp {c : Circuit} {k : Nat} : (Jdp c k).length <= k := by
 unfold Jdp
 rw [List.length_map]
 have := List.length_filter_le (idleB c) (List.range k)
 simpa using this
theorem J7h {c : Circuit} {k : Nat} : Jdp c (k + 1) = Jdp c k ++ (if idleB c k then [(k : Int)] else []) := by
 unfold Jdp
 rw [List.range_succ, List.filter_append, List.map_append]
 congr 1
 by_cases h : idleB c k = true
 . rw [if_pos h, List.filter_cons_of_pos h]; rfl
 . rw [if_neg h, List.filter_cons_of_neg h]; rfl
theorem J7i {c : Circuit} : Jdp c 0 = [] := rfl
theorem J1v {K : List Int} {f : Int -> Bool} {seen : List Nat} (hl : ∀ n ∈ seen, n < K.length) (ha : ∀ n, n < K.length -> n ∈ seen) : (seen.all fun n => f ((K[n]?).getD 0)) = K.all f := by
 rw [Bool.eq_iff_iff, List.all_eq_true, List.all_eq_true]
 constructor
 . intro h x hx
   obtain ⟨n, hn⟩ := List.mem_iff_getElem?.1 hx
   have := h n (ha n (gsI.1 hn).1)
   simpa [hn, -getElem?_pos] using this
 . intro h n hn
   have hlt := hl n hn
   rw [List.getElem?_eq_getElem hlt]
   exact h _ (List.getElem_mem hlt)
def Ji5 (c : Circuit) (k : Int) : Bool := !decide (Jal c k = 1)
structure DSt2 where
 seen : List Nat
 b : Bool
set_option maxRecDepth 20000 in
theorem Jt9 (c : Circuit) (hs : Sized c) : Pure Tryz.prog GL 58 [c.av] (.tup [.p (.lst 1 ((Jb4 c).map Int.enc)), .p (.int .i64 (Jad c))]) := by
 refine Pure.of_walk (N := 56) Tryz.func58 rfl rfl rfl (by simp) (by first | (simp; done) | simp [*]) ?_
 have hPl := Jpm c hs
 simp
 refine Jab hPl ?_
 by_cases h : Jad c = 0
 . have h2 := Jcx h
   have hR : Jgc c = Jfp c := if_pos h
   have hno : ¬ Jad c ≠ 0 := by simpa using h
   have hil : Jb4 c = Jdp c c.parts.length := if_pos h
   rw [hR, h, hil]
   simp [Jfp]
   refine Jaj.go [1, 4, 20] [0, 1] 1 [2] (nms [6]) (fun nx (k : Nat) => [(6, .acc nx 1 (Jdp c k).length), (21, .p (.int .i64 k))]) (fun nx k => [(nx, accB 1 ((Jdp c k).map Int.row))]) (fun k => k <= c.parts.length) (fun k => c.parts.length - k) 0 (by omega) ?_ ?_
   . simp [J7i]
     try decide
   . intro k hk
     have hbl := @Jqp c k
     have hsn := @J7h c k
     have hend : k = c.parts.length -> Jdp c k = Jdp c c.parts.length := fun e => by rw [e]
     generalize Jdp c k = A at hbl hsn hend
     simp
     refine Jac (fun h3 => ?_) (fun h3 => ?_)
     . simp at h3
       obtain ⟨q, e⟩ := Jah h3
       have hkq : Jal c (k : Int) = q.kind := by simp [Jal, e, -getElem?_pos]
       have hrc := J3j c k hs h h3
       have hid : idleB c k = (!decide (q.kind = 1) && (Jba c k).all (Ji5 c)) := by unfold idleB; rw [hkq]; rfl
       have hrg := fun x => @Jgd c (k : Int) x
       generalize Jba c (k : Int) = K at *
       simp [h3, e, Part.enc, -getElem?_pos, List.getElem?_cons_zero, List.getElem?_cons_succ]
       refine Jab hrc ?_
       simp [setV]
       refine Jaj.go [1, 4, 6, 7, 20, 21, 34] [0, 1, 2] 0 [] (fun _ => []) (fun _ (g : DSt2) => [(8, .p (.bool g.b))]) (fun _ g => [(3, some (.iter (K.map fun k => .p (.int .i64 k)) (K.map fun _ => .p (.bool true)) g.seen))]) (fun g => g.seen.Nodup /\ (∀ n ∈ g.seen, n < K.length) /\ g.b = (!decide (q.kind = 1) && g.seen.all fun n => Ji5 c ((K[n]?).getD 0))) (fun g => K.length - g.seen.length) ⟨[], !decide (q.kind = 1)⟩ ⟨List.nodup_nil, by simp, by simp⟩ ?_ ?_
       . simp
         try decide
       . rintro ⟨seen, b⟩ ⟨hn, hl, hb⟩
         simp only at hn hl hb
         simp
         refine Jlt (fun n kk vv hns hk2 hv => ?_) (fun hall => ?_)
         . rw [List.getElem?_map, Option.map_eq_some_iff] at hk2
           obtain ⟨x, ex, rfl⟩ := hk2
           have hxl := (gsI.1 ex).1
           have hvv : vv = .p (.bool true) := by
             rw [List.getElem?_map, ex] at hv
             simpa using hv.symm
           subst hvv
           have hxr := hrg x (List.mem_of_getElem? ex)
           obtain ⟨m, rfl⟩ : ∃ m : Nat, x = m := ⟨x.toNat, by omega⟩
           have hm2 : m < c.parts.length := by omega
           obtain ⟨y, ey⟩ := Jah hm2
           have hky : Ji5 c (m : Int) = !decide (y.kind = 1) := by simp [Ji5, Jal, ey, -getElem?_pos]
           have hn3 : (seen ++ [n]).Nodup := by
             rw [List.nodup_append]
             exact ⟨hn, by simp, fun a ha b hb e => hns (by simp at hb; rw [<- hb, <- e]; exact ha)⟩
           have hl3 : ∀ m ∈ seen ++ [n], m < K.length := fun m hm => by
             rcases List.mem_append.1 hm with hm | hm
             . exact hl m hm
             . simp at hm; subst hm; exact hxl
           have hcnt3 := Jfm (m := List.range K.length) hn3 (fun m hm => List.mem_range.2 (hl3 m hm))
           simp at hcnt3
           have hb3 : (b && !decide (y.kind = 1)) = (!decide (q.kind = 1) && (seen ++ [n]).all fun n => Ji5 c ((K[n]?).getD 0)) := by
             rw [hb, List.all_append, Bool.and_assoc]
             simp [ex, hky, -getElem?_pos]
           simp [ex]
           cases hbb : b with
           | true =>
             subst hbb
             simp [ex, ey, hm2, Part.enc, -getElem?_pos, List.getElem?_cons_zero, List.getElem?_cons_succ]
             refine ⟨⟨seen ++ [n], true && !decide (y.kind = 1)⟩, ⟨hn3, hl3, hb3⟩, by simp; omega, ?_⟩
             simp
             try decide
           | false =>
             subst hbb
             simp
             refine ⟨⟨seen ++ [n], false && !decide (y.kind = 1)⟩, ⟨hn3, hl3, hb3⟩, by simp; omega, ?_⟩
             simp
             try decide
         . have hb4 : b = idleB c k := by rw [hb, hid, J1v (f := Ji5 c) hl (fun n hn => hall n (by simpa using hn))]
           rw [<- hb4] at hsn
           simp
           cases hbb : b with
           | true =>
             rw [hbb, if_pos rfl] at hsn
             simp
             refine ⟨by omega, wrap_i64 (by omega) (by omega), k + 1, by omega, by omega, ?_⟩
             simp [hsn]
             try decide
           | false =>
             rw [hbb, if_neg (by simp)] at hsn
             simp
             refine ⟨wrap_i64 (by omega) (by omega), k + 1, by omega, by omega, ?_⟩
             simp [hsn]
             try decide
     . simp at h3
       have hA := hend (by omega)
       subst hA
       simp [Jaa]
 . have hR : Jgc c = .agg [.p (.lst 3 []), .p (.lst 4 []), .p (.lst 2 []), .nilm] := if_neg h
   have hil : Jb4 c = [] := if_neg h
   rw [hR, hil]
   simp [h]
   simp [Jaa]
end Go.Am
namespace Go.Am
open Go Go.Proofs Go.Pn
end Go.Am
namespace Go.Am
open Go Go.Proofs Go.Pn
end Go.Am
namespace Go.Am
open Go Go.Proofs Go.Pn
theorem J15 {c : Circuit} {p q : Port} (hp : p ∈ allP c) (h : q ∈ around c p) : p ∈ around c q := by
 rw [Jl9, List.mem_filter] at h ⊢
 exact ⟨hp, by have := h.2; simp at this ⊢; exact this.symm⟩
theorem Jp8 {c : Circuit} {i : Int} {s : Txt} {a : Port} (h : a ∈ Jej c i s) : a ∈ around c ⟨i, s⟩ /\ a ∈ allP c /\ Ja3 c a = 1 := by
 unfold Jej Ja1 at h
 obtain ⟨h1, h2⟩ := List.mem_filter.1 h
 exact ⟨h1, (List.mem_filter.1 h1).1, by simpa [Jh1, Jcz] using h2⟩
end Go.Am
