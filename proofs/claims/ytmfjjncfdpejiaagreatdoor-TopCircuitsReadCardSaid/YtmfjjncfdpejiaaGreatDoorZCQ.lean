/- Lemmas and contracts for the proof of a statement of this seat. -/
import Derived.Test.YtmfjjncfdpejiaaGreatDoorZCA
import Derived.Test.YtmfjjncfdpejiaaGreatDoorZC7
import Derived.Test.YtmfjjncfdpejiaaGreatDoorZA5
import Derived.Test.YtmfjjncfdpejiaaGreatDoorZCP
set_option linter.unusedVariables false
set_option linter.unusedSimpArgs false
namespace Go.Am
open Go Go.Proofs Go.Pn
def Jbh (c : Circuit) (p : Port) : Int := Jdp (Jc0 c p.part).toNat p.name
def Jg7 (c : Circuit) (p : Port) : Bool := decide (Jbh c p = 1)
def Jm1 (c : Circuit) (p : Port) : Bool := decide (Jbh c p = 0) || (decide (Jbh c p = 3) || decide (Jbh c p = 4))
def Jxd (c : Circuit) (give : Bool) (p : Port) : Bool := if give then Jg7 c p else Jm1 c p
def Jbt (c : Circuit) (l : List Port) (give : Bool) : List Port := l.filter (Jxd c give)
def Jds (c : Circuit) (k : Nat) (l : List Port) (p : Port) : Bool := match k with
 | 1 => decide (Jbh c p = 3) && decide (l.length = 1)
 | 2 => decide (Jbh c p = 4) && decide (l.length = 1)
 | 3 => decide (Jbh c p = 0) && decide ((Jbt c l true).length = 0)
 | 4 => decide (Jbh c p = 1) && !decide ((Jbt c l true).head? = some p)
 | 5 => decide (Jbh c p = 1) && decide ((Jbt c l false).length = 0)
 | 6 => decide (Jbh c p = 2) && decide (1 < l.length)
 | _ => decide (Jc0 c p.part = 2) && (decide (p.name = [49, 52]) && decide ((⟨p.part, [49, 50]⟩ : Port) ∈ l))
def Jgc (c : Circuit) (k : Nat) (p : Port) : Bool := Jds c k (around c p) p
def Jk0 (c : Circuit) (p : Port) : Prop := 0 <= p.part /\ p.part.toNat < c.parts.length
theorem Jv3 {c : Circuit} {p : Port} (h : Jk0 c p) : ∃ (i : Nat) (q : Part), p.part = i /\ i < c.parts.length /\ c.parts[i]? = some q /\ Jc0 c p.part = q.kind := by
 obtain ⟨q, e⟩ := Jag h.2
 exact ⟨p.part.toNat, q, by have := h.1; omega, h.2, e, by rw [Jc0, e]; rfl⟩
theorem Jv2 {c : Circuit} {p : Port} (h : p ∈ allP c) : Jk0 c p := by
 obtain ⟨q, h1, h2, _⟩ := Jes.1 (Jf3.1 h)
 exact ⟨h2, (gsI.1 h1).1⟩
theorem J65 {c : Circuit} {p : Port} : ∀ q ∈ around c p, Jk0 c q := fun _ hq => Jv2 (List.mem_filter.1 hq).1
end Go.Am
namespace Go.Am
open Go Go.Proofs Go.Pn
structure Fnd where
 kind : Int
 at_ : Port
 deriving DecidableEq
@[simp] def Fnd.enc (f : Fnd) : List PV := [.int .i64 f.kind, .int .i64 f.at_.part, .str f.at_.name]
@[simp] def Fnd.row (f : Fnd) : List AV := [.p (.int .i64 f.kind), .p (.int .i64 f.at_.part), .p (.str f.at_.name)]
@[simp] def Fnd.av (f : Fnd) : AV := .agg [.p (.int .i64 f.kind), .p (.int .i64 f.at_.part), .p (.str f.at_.name)]
def supB (c : Circuit) : Bool := (c.parts.any fun q => decide (q.kind = 0)) || decide (c.parts.length = 0)
def Jbi (c : Circuit) (k : Nat) (l : List Port) : List Fnd := (l.filter (Jgc c k)).map fun p => ⟨k, p⟩
def Jeh (c : Circuit) : List Fnd := if supB c then [] else [⟨0, ⟨0, []⟩⟩]
def allF (c : Circuit) : Nat -> List Fnd
 | 0 => Jeh c
 | k + 1 => allF c k ++ Jbi c (k + 1) (allP c)
def Jg6 (c : Circuit) : List Fnd := allF c 7
theorem Jlp {c : Circuit} {k : Nat} {l : List Port} : (Jbi c k l).length <= l.length := by
 unfold Jbi; rw [List.length_map]; exact List.length_filter_le ..
theorem Jnq {c : Circuit} : ∀ {k : Nat}, (allF c k).length <= 1 + k * (allP c).length
 | 0 => by unfold allF Jeh; split <;> simp
 | k + 1 => by
   have h1 := Jnq (c := c) (k := k)
   have h2 := @Jlp c (k + 1) (allP c)
   simp only [allF, List.length_append, Nat.succ_mul]
   omega
theorem Joq {c : Circuit} {k : Nat} {l : List Port} {j : Nat} {p : Port} (e : l[j]? = some p) : Jbi c k (l.take (j + 1)) = Jbi c k (l.take j) ++ (if Jgc c k p then [⟨k, p⟩] else []) := by
 unfold Jbi
 rw [Jtg e, List.map_append]
 split <;> rfl
theorem Jop {c : Circuit} {k : Nat} : Jbi c k [] = [] := rfl
end Go.Am
namespace Go.Am
open Go Go.Proofs Go.Pn
def Jyh : List Txt := [[110, 111, 32, 115, 117, 112, 112, 108, 121], [111, 112, 101, 110, 32, 112, 105, 108, 111, 116], [111, 112, 101, 110, 32, 99, 104, 97, 109, 98, 101, 114], [117, 110, 102, 101, 100],
 [106, 111, 105, 110, 101, 100, 32, 111, 117, 116, 112, 117, 116, 115], [100, 101, 97, 100, 32, 101, 110, 100], [112, 108, 117, 103, 103, 101, 100, 32, 101, 120, 104, 97, 117, 115, 116], [111, 112, 112, 111, 115, 101, 100, 32, 112, 105, 108, 111, 116, 115]]
def wordAt (k : Int) : Txt := (Jyh[k.toNat]?).getD []
def nameAt (c : Circuit) (i : Int) : Txt := match c.parts[i.toNat]? with | some q => q.name | none => []
end Go.Am
namespace Go.Am
open Go Go.Proofs Go.Pn
theorem Jw0 {c : Circuit} (hk : Jb5 c) {p : Port} (hp : p ∈ allP c) : ∃ (i : Nat) (q : Part), p.part = i /\ i < c.parts.length /\ c.parts[i]? = some q /\ Jc0 c p.part = q.kind /\ (0 <= q.kind /\ q.kind < 14) /\ p.name ∈ Ja7 q.kind.toNat /\ Jdr q.kind.toNat p.name = Jbh c p /\ 0 <= Jbh c p := by
 obtain ⟨i, q, e1, e2, e3, e4⟩ := Jv3 (Jv2 hp)
 obtain ⟨q', g1, g2, g3⟩ := Jes.1 (Jf3.1 hp)
 have e5 : p.part.toNat = i := by omega
 rw [e5, e3] at g1; cases g1
 have hq := hk q (List.mem_of_getElem? e3)
 have hv := (J98 (k := q.kind.toNat) (by omega) true).2 p.name g3
 have hr : Jbh c p = Jdp q.kind.toNat p.name := by rw [Jbh, e4]
 have hpl := Jpm (k := q.kind.toNat) (s := p.name) (by omega)
 refine ⟨i, q, e1, e2, e3, e4, hq, g3, by rw [hr, hv.2], ?_⟩
 rw [hr]
 by_cases h : Jdp q.kind.toNat p.name < 0
 . exact absurd g3 (hpl.1 h)
 . omega
theorem Jjn (c : Circuit) (p : Port) (hk : Jb5 c) (hp : p ∈ allP c) : Pure Tryz.prog GL 214 [c.av, p.av] (.p (.int .i64 (Jbh c p))) := by
 refine Pure.of_walk (N := 21) Tryz.func214 rfl rfl rfl (by simp) (by first | (simp; done) | simp [*]) ?_
 obtain ⟨i, q, e1, e2, e3, e4, e5, e6, e7, e8⟩ := Jw0 hk hp
 obtain ⟨pi, pn⟩ := p
 simp only at e1 e4 e6 e7
 subst e1
 have hro := Jsm q.kind pn e5
 rw [e7, if_neg (by omega), if_neg (by omega)] at hro
 generalize Jbh c ⟨(i : Int), pn⟩ = r at *
 simp
 refine Jak.intro (by kernel_rfl) ?_
 simp [e2, e3, Part.enc, -getElem?_pos, List.getElem?_cons_zero, List.getElem?_cons_succ]
 refine Jab hro ?_
 simp
 refine ⟨.of (by kernel_rfl), ?_⟩
 simp [Jaa]
theorem Jsa (c : Circuit) (p : Port) (hk : Jb5 c) (hp : p ∈ allP c) : Pure Tryz.prog GL 140 [c.av, p.av] (.p (.bool (Jg7 c p))) := by
 refine Pure.of_walk (N := 9) Tryz.func140 rfl rfl rfl (by simp) (by first | (simp; done) | simp [*]) ?_
 simp
 refine Jab (Jjn c p hk hp) ?_
 simp [Jaa, Jg7]
theorem J0m (c : Circuit) (p : Port) (hk : Jb5 c) (hp : p ∈ allP c) : Pure Tryz.prog GL 217 [c.av, p.av] (.p (.bool (Jm1 c p))) := by
 refine Pure.of_walk (N := 12) Tryz.func217 rfl rfl rfl (by simp) (by first | (simp; done) | simp [*]) ?_
 simp
 refine Jab (Jjn c p hk hp) ?_
 have ht : Jm1 c p = (decide (Jbh c p = 0) || (decide (Jbh c p = 3) || decide (Jbh c p = 4))) := rfl
 rw [ht]
 generalize Jbh c p = r
 simp
 by_cases h0 : r = 0
 . simp [h0, Jaa]
 . by_cases h3 : r = 3
   . simp [h0, h3, Jaa]
   . by_cases h4 : r = 4 <;> simp [h0, h3, h4, Jaa]
theorem Jr9 (c : Circuit) (l : List Port) (q : Port -> Bool) (m : Nat) (hl : l.length < 100000) (hq : ∀ p ∈ l, Pure Tryz.prog GL m [c.av, p.av] (.p (.bool (q p)))) : Pure Tryz.prog GL 139 [c.av, .p (.lst 2 (l.map Port.enc)), .fn (.func m) []] (.p (.lst 2 ((l.filter q).map Port.enc))) := by
 refine Pure.of_walk (N := 26) Tryz.func139 rfl rfl rfl (by simp) (by first | (simp; done) | simp [*]) ?_
 simp
 refine Jai.go [2, 3, 10, 11] [0] 1 [1] (nms [7]) (fun nx (k : Nat) => [(7, .acc nx 2 ((l.take k).filter q).length), (12, .p (.int .i64 k))]) (fun nx k => [(nx, accB 2 (((l.take k).filter q).map Port.row))]) (fun k => k <= l.length) (fun k => l.length - k) 0 (by omega) ?_ ?_
 . simp
 . intro k hk1
   have hb : ((l.take k).filter q).length <= k := by
     have h1 := List.length_filter_le q (l.take k)
     have h2 := List.length_take_le k l
     omega
   have hsn := @Jtg _ q l k
   have hend : k = l.length -> (l.take k).filter q = l.filter q := fun e => by rw [e, List.take_length]
   generalize (l.take k).filter q = A at hb hsn hend
   simp
   refine Jac (fun h => ?_) (fun h => ?_)
   . simp at h
     obtain ⟨x, e⟩ := Jag h
     have hx := hq x (List.mem_of_getElem? e)
     have hsn2 := hsn e
     simp [h, e, -getElem?_pos, List.getElem?_cons_zero, List.getElem?_cons_succ]
     refine Jab hx ?_
     cases hb2 : q x with
     | true =>
       simp
       refine ⟨by omega, wrap_i64 (by omega) (by omega), k + 1, by omega, by omega, ?_⟩
       simp [hsn2, hb2]
     | false =>
       simp
       refine ⟨wrap_i64 (by omega) (by omega), k + 1, by omega, by omega, ?_⟩
       simp [hsn2, hb2]
   . simp at h
     have hA := hend (by omega)
     subst hA
     simp [Jaa]
theorem Jlb (c : Circuit) (l : List Port) (hk : Jb5 c) (hl : l.length < 100000) (ha : ∀ q ∈ l, q ∈ allP c) : Pure Tryz.prog GL 139 [c.av, .p (.lst 2 (l.map Port.enc)), .fn (.func 140) []] (.p (.lst 2 ((Jbt c l true).map Port.enc))) :=
 Jr9 c l (Jg7 c) 140 hl fun p hp => Jsa c p hk (ha p hp)
theorem J0d (c : Circuit) (l : List Port) (hk : Jb5 c) (hl : l.length < 100000) (ha : ∀ q ∈ l, q ∈ allP c) : Pure Tryz.prog GL 139 [c.av, .p (.lst 2 (l.map Port.enc)), .fn (.func 217) []] (.p (.lst 2 ((Jbt c l false).map Port.enc))) :=
 Jr9 c l (Jm1 c) 217 hl fun p hp => J0m c p hk (ha p hp)
theorem Jsb (n : Int) : Pure Tryz.prog GL 212 [.p (.int .i64 n)] (.fn (.func 269) [.iptr 1 [[.int .i64 n]] 0 0]) := by
 refine Pure.of_walk (N := 4) Tryz.func212 rfl rfl rfl (by simp) (by first | (simp; done) | simp [*]) ?_
 simp [Jaa]
theorem Jsc (c : Circuit) (l : List Port) (p : Port) (n : Int) (hk : Jb5 c) (hl : l.length < 100000) (hp : p ∈ allP c) : Pure Tryz.prog GL 269 [c.av, .p (.lst 2 (l.map Port.enc)), p.av, .iptr 1 [[.int .i64 n]] 0 0] (.p (.bool (decide (Jbh c p = n) && decide (l.length = 1)))) := by
 refine Pure.of_walk (N := 18) Tryz.func269 rfl rfl rfl (by simp) (by first | (simp; done) | simp [*]) ?_
 simp
 refine Jak.intro (by kernel_rfl) ?_
 simp
 refine Jab (Jjn c p hk hp) ?_
 generalize Jbh c p = r
 simp
 by_cases h : r = n
 . subst h
   simp
   refine ⟨.of (by kernel_rfl), ?_⟩
   simp [Jaa]
   omega
 . simp [h]
   refine ⟨.of (by kernel_rfl), ?_⟩
   simp [Jaa]
theorem J0h (c : Circuit) (l : List Port) (p : Port) (hk : Jb5 c) (hl : l.length < 100000) (hp : p ∈ allP c) (ha : ∀ q ∈ l, q ∈ allP c) : Pure Tryz.prog GL 213 [c.av, .p (.lst 2 (l.map Port.enc)), p.av] (.p (.bool (Jds c 3 l p))) := by
 refine Pure.of_walk (N := 18) Tryz.func213 rfl rfl rfl (by simp) (by first | (simp; done) | simp [*]) ?_
 have hg := Jlb c l hk hl ha
 simp
 refine Jab (Jjn c p hk hp) ?_
 have hr : Jds c 3 l p = (decide (Jbh c p = 0) && decide ((Jbt c l true).length = 0)) := rfl
 rw [hr]
 generalize Jbh c p = r
 generalize Jbt c l true = G at *
 by_cases h : r = 0
 . simp [h]
   refine Jab hg ?_
   simp [Jaa, h]
 . simp [h, Jaa]
theorem J0i (c : Circuit) (l : List Port) (p : Port) (hk : Jb5 c) (hl : l.length < 100000) (hp : p ∈ allP c) (ha : ∀ q ∈ l, q ∈ allP c) (hm : p ∈ l) : Pure Tryz.prog GL 215 [c.av, .p (.lst 2 (l.map Port.enc)), p.av] (.p (.bool (Jds c 4 l p))) := by
 refine Pure.of_walk (N := 13) Tryz.func215 rfl rfl rfl (by simp) (by first | (simp; done) | simp [*]) ?_
 have hg := Jlb c l hk hl ha
 have hlen : (Jbt c l true).length <= l.length := List.length_filter_le ..
 have hix := Jr5 (Jbt c l true) p (by omega)
 have hr : Jds c 4 l p = decide (0 < idxI (Jbt c l true) fun x => decide (x = p)) := by
   have hmem : p ∈ Jbt c l true ↔ Jbh c p = 1 := by
     unfold Jbt
     rw [List.mem_filter]
     simp [Jxd, Jg7, hm]
   show (decide (Jbh c p = 1) && !decide ((Jbt c l true).head? = some p)) = _
   rw [Bool.eq_iff_iff]
   rcases Jh8 (Jbt c l true) (fun x => decide (x = p)) with ⟨h1, h2⟩ | ⟨i, x, h1, h2, h3, h4⟩
   . have hnot : p ∉ Jbt c l true := fun hh => by
       have := List.findIdx?_eq_none_iff.1 h1 p hh
       simp at this
     have : ¬ Jbh c p = 1 := fun hh => hnot (hmem.2 hh)
     rw [h2]
     simp [this]
   . have hx : x = p := by simpa using h4
     subst hx
     have h5 : Jbh c x = 1 := hmem.1 (List.mem_of_getElem? h3)
     rw [h2]
     obtain ⟨k1, k2, k3⟩ := List.findIdx?_eq_some_iff_getElem.1 h1
     cases i with
     | zero =>
       have : (Jbt c l true).head? = some x := by rw [List.head?_eq_getElem?, h3]
       simp [this]
     | succ i =>
       have hne : (Jbt c l true).head? ≠ some x := fun hh => by
         rw [List.head?_eq_getElem?] at hh
         obtain ⟨k4, k5⟩ := gsI.1 hh
         have := k3 0 (by omega)
         simp [k5] at this
       simp [h5, hne]
 rw [hr]
 generalize Jbt c l true = G at *
 simp
 refine Jak.intro (by kernel_rfl) ?_
 simp
 refine Jab hg ?_
 simp
 refine Jab hix ?_
 simp
 refine ⟨.of (by kernel_rfl), ?_⟩
 simp [Jaa]
theorem J0j (c : Circuit) (l : List Port) (p : Port) (hk : Jb5 c) (hl : l.length < 100000) (hp : p ∈ allP c) (ha : ∀ q ∈ l, q ∈ allP c) : Pure Tryz.prog GL 216 [c.av, .p (.lst 2 (l.map Port.enc)), p.av] (.p (.bool (Jds c 5 l p))) := by
 refine Pure.of_walk (N := 17) Tryz.func216 rfl rfl rfl (by simp) (by first | (simp; done) | simp [*]) ?_
 have hg := J0d c l hk hl ha
 have hr : Jds c 5 l p = (Jg7 c p && decide ((Jbt c l false).length = 0)) := rfl
 rw [hr]
 generalize Jbt c l false = G at *
 simp
 refine Jab (Jsa c p hk hp) ?_
 cases h : Jg7 c p with
 | true =>
   simp
   refine Jab hg ?_
   simp [Jaa]
 | false => simp [Jaa]
theorem J0k (c : Circuit) (l : List Port) (p : Port) (hk : Jb5 c) (hl : l.length < 100000) (hp : p ∈ allP c) : Pure Tryz.prog GL 218 [c.av, .p (.lst 2 (l.map Port.enc)), p.av] (.p (.bool (Jds c 6 l p))) := by
 refine Pure.of_walk (N := 16) Tryz.func218 rfl rfl rfl (by simp) (by first | (simp; done) | simp [*]) ?_
 simp
 refine Jab (Jjn c p hk hp) ?_
 have hr : Jds c 6 l p = (decide (Jbh c p = 2) && decide (1 < l.length)) := rfl
 rw [hr]
 generalize Jbh c p = r
 by_cases h : r = 2
 . simp [h, Jaa]
   omega
 . simp [h, Jaa]
theorem J0l (c : Circuit) (l : List Port) (p : Port) (hk : Jb5 c) (hl : l.length < 100000) (hp : p ∈ allP c) : Pure Tryz.prog GL 219 [c.av, .p (.lst 2 (l.map Port.enc)), p.av] (.p (.bool (Jds c 7 l p))) := by
 refine Pure.of_walk (N := 27) Tryz.func219 rfl rfl rfl (by simp) (by first | (simp; done) | simp [*]) ?_
 obtain ⟨i, q, e1, e2, e3, e4, _⟩ := Jw0 hk hp
 have hco := Jzt l ⟨p.part, [49, 50]⟩ (by omega)
 have hr : Jds c 7 l p = (decide (Jc0 c p.part = 2) && (decide (p.name = [49, 52]) && decide ((⟨p.part, [49, 50]⟩ : Port) ∈ l))) := rfl
 rw [hr, e4]
 obtain ⟨pi, pn⟩ := p
 simp only at e1
 subst e1
 by_cases hq : q.kind = 2
 . by_cases hn : pn = [49, 52]
   . subst hn
     simp [e2, e3, Part.enc, hq, -getElem?_pos, List.getElem?_cons_zero, List.getElem?_cons_succ]
     refine Jab hco ?_
     simp [Jaa, hq]
   . simp [e2, e3, Part.enc, hq, hn, -getElem?_pos, List.getElem?_cons_zero, List.getElem?_cons_succ]
     simp [Jaa]
 . simp [e2, e3, Part.enc, hq, -getElem?_pos, List.getElem?_cons_zero, List.getElem?_cons_succ]
   simp [Jaa]
end Go.Am
namespace Go.Am
open Go Go.Proofs Go.Pn
@[simp] theorem Kbe : Jg9 Tryz.prog 196 = true := by kernel_rfl
def Jit (k : Nat) : Nat := if k <= 2 then 269 else if k = 3 then 213 else if k = 4 then 215 else if k = 5 then 216 else if k = 6 then 218 else 219
def Jfa (k : Nat) : List AV := if k = 1 then [.iptr 1 [[.int .i64 3]] 0 0] else if k = 2 then [.iptr 1 [[.int .i64 4]] 0 0] else []
def Jdl (k : Nat) : List AV := [.p (.str (wordAt k)), if k = 0 then .p .nilf else .fn (.func (Jit k)) (Jfa k)]
def Jia : List AV := (List.range 8).flatMap Jdl
theorem Jo2 {k : Nat} (h : k < 8) : (Jia.drop (k * 2)).take 2 = Jdl k /\ k * 2 + 2 <= Jia.length := by
 obtain rfl | rfl | rfl | rfl | rfl | rfl | rfl | rfl : k = 0 \/ k = 1 \/ k = 2 \/ k = 3 \/ k = 4 \/ k = 5 \/ k = 6 \/ k = 7 := by omega
 all_goals exact ⟨rfl, by decide⟩
theorem J8e {k : Nat} : Jba (Jfa k) = true := by
 unfold Jfa
 split
 . rfl
 . split <;> rfl
theorem Jp4 {c : Circuit} {k : Nat} {l : List Port} {p : Port} (h : 1 <= k /\ k <= 7) (hk : Jb5 c) (hl : l.length < 100000) (hp : p ∈ allP c) (ha : ∀ q ∈ l, q ∈ allP c) (hm : p ∈ l) :
   Pure Tryz.prog GL (Jit k) ([c.av, .p (.lst 2 (l.map Port.enc)), p.av] ++ Jfa k) (.p (.bool (Jds c k l p))) := by
 obtain ⟨h1, h7⟩ := h
 obtain rfl | rfl | rfl | rfl | rfl | rfl | rfl : k = 1 \/ k = 2 \/ k = 3 \/ k = 4 \/ k = 5 \/ k = 6 \/ k = 7 := by omega
 . exact Jsc c l p 3 hk hl hp
 . exact Jsc c l p 4 hk hl hp
 . exact J0h c l p hk hl hp ha
 . exact J0i c l p hk hl hp ha hm
 . exact J0j c l p hk hl hp ha
 . exact J0k c l p hk hl hp
 . exact J0l c l p hk hl hp
@[simp] theorem Kc1 {s : Store} {k i j : Nat} {rows : List (List PV)} : toV s (.iptr k rows i j) (.iptr k rows i j) = True := eq_true (Jx1 _ rfl)
set_option maxRecDepth 20000 in
theorem Jn4 (_ : Unit) : Pure Tryz.prog GL 129 [] (.agg Jia) := by
 refine Pure.of_walk (N := 12) Tryz.func129 rfl rfl rfl (by simp) (by first | (simp; done) | simp [*]) ?_
 have h1 := Jsb 3
 have h2 := Jsb 4
 simp
 refine Jab h1 ?_
 simp
 refine Jab h2 ?_
 simp [Jaa, Jia, Jdl, Jit, Jfa, wordAt, Jyh, List.range, List.range.loop]
theorem Jzd {c : Circuit} {p : Port} : around c p = (allP c).filter fun q => decide (rt c q = rt c p) := by
 unfold around
 apply List.filter_congr
 intro q _
 rw [decide_eq_decide, Js0, <- J8d]
 exact eq_comm
theorem J47 {c : Circuit} (h : Jad c = 0) {g : List Port} (hg : g ∈ nets c) {p : Port} (hp : p ∈ g) : g = around c p := by
 rw [Jmc h] at hg
 obtain ⟨r, _, rfl⟩ := List.mem_map.1 hg
 have : rt c p = r := by simpa using (List.mem_filter.1 hp).2
 rw [Jzd, this]
def Jgn (c : Circuit) (n : Nat) : List Port := (nets c)[n]?.getD []
def Jc9 (c : Circuit) (es : List (Port × Nat)) : List (AV × AV) := es.map fun e => (e.1.av, .p (.lst 2 ((Jgn c e.2).map Port.enc)))
def Jgq (c : Circuit) : List AV := (pairs c).map fun e => e.1.av
def Jim (c : Circuit) : List AV := (pairs c).map fun e => .p (.lst 2 ((Jgn c e.2).map Port.enc))
def Jgp (c : Circuit) : AV := .agg [.p (.lst 3 (c.parts.map Part.enc)), .p (.lst 4 (c.pipes.map Pipe.enc)), .p (.lst 2 ((allP c).map Port.enc)), .pmap (Jgq c) (Jim c)]
theorem Jpl {c : Circuit} : (Jgq c).zip (Jim c) = Jc9 c (pairs c) := by
 unfold Jgq Jim Jc9
 rw [List.zip_map']
theorem Jo9 {c : Circuit} {ρ : List Nat} {es : List (Port × Nat)} : renE ρ (Jc9 c es) = some (Jc9 c es) := by
 unfold Jc9
 induction es with
 | nil => rfl
 | cons e es ih => simp only [List.map_cons, renE, ih]; rfl
theorem Jzg {c : Circuit} {es : List (Port × Nat)} {p : Port} : Jal (Jc9 c es) p.av = (Jd7 es p).map fun (n : Nat) => AV.p (.lst 2 ((Jgn c n).map Port.enc)) := by
 induction es with
 | nil => simp [Jc9, Jal, Jd7]
 | cons e es ih =>
   obtain ⟨a, b⟩ := e
   simp only [Jc9, List.map_cons, Jd7] at ih ⊢
   by_cases h : a = p
   . subst h
     simp [Jal]
   . have hne : a.av ≠ p.av := fun h2 => h (Jhd h2)
     rw [if_neg h, <- ih]
     unfold Jal
     rw [List.find?_cons_of_neg (by simpa using hne)]
theorem J8o {c : Circuit} {es : List (Port × Nat)} {p : Port} {n : Nat} (h : Jd7 es p = none) : setA (Jc9 c es) (.agg [.p (.int .i64 p.part), .p (.str p.name)]) (.p (.lst 2 ((Jgn c n).map Port.enc))) = Jc9 c (es ++ [(p, n)]) := by
 rw [Jmy]
 . simp [Jc9]
 . intro e he
   obtain ⟨q, hq, rfl⟩ := List.mem_map.1 he
   intro h2
   have : q.1 = p := Jhd h2
   exact Joo (n := q.2) (by rw [<- this]; exact hq) h
@[simp] theorem J4j {c : Circuit} {es : List (Port × Nat)} {i : Int} {s : Txt} : Jck Tryz.prog 55 (Jc9 c es) (.agg [.p (.int .i64 i), .p (.str s)]) = True := eq_true (Juh (f := Prod.fst) (p := ⟨i, s⟩))
@[simp] theorem Kbj {c : Circuit} {i : Int} {s : Txt} : Jck Tryz.prog 55 ((Jgq c).zip (Jim c)) (.agg [.p (.int .i64 i), .p (.str s)]) = True := by rw [Jpl, J4j]
@[simp] theorem Ki9 : Jd4 Tryz.prog 68 = some false := by kernel_rfl
theorem Jj2 {c : Circuit} (h : Jad c = 0) {i : Int} {s : Txt} (hp : (⟨i, s⟩ : Port) ∈ allP c) : Jal ((Jgq c).zip (Jim c)) (.agg [.p (.int .i64 i), .p (.str s)]) = some (.p (.lst 2 ((around c ⟨i, s⟩).map Port.enc))) := by
 rw [Jpl]
 have := Jzg (c := c) (es := pairs c) (p := ⟨i, s⟩)
 rw [J27 h hp] at this
 have hn : Jgn c (netN c i s) = around c ⟨i, s⟩ := by
   obtain ⟨g, e, hg⟩ := Ju9 h hp
   unfold Jgn
   rw [e]
   exact J47 h (List.mem_of_getElem? e) hg
 simp only [Option.map_some] at this
 rw [hn] at this
 exact this
theorem Jvx {c : Circuit} (h : Jad c = 0) : ∀ k, ((Jdn c k).map Prod.fst).Nodup
 | 0 => by simp [Jdn]
 | k + 1 => by
   simp only [Jdn, List.map_append, List.nodup_append]
   refine ⟨Jvx h k, ?_, ?_⟩
   . split
     . rename_i g e
       rw [List.map_map]
       have : (g.map (Prod.fst ∘ fun x => (x, k))) = g := by
         have e2 : (Prod.fst ∘ fun x : Port => (x, k)) = id := rfl
         rw [e2, List.map_id]
       rw [this]
       exact Jvc h (List.mem_of_getElem? e)
     . simp
   . intro a ha b hb hab
     subst hab
     obtain ⟨⟨a', n⟩, hm, rfl⟩ := List.mem_map.1 ha
     obtain ⟨hn, g, eg, hg⟩ := Jj9.1 hm
     split at hb
     . rename_i g' e'
       rw [List.map_map] at hb
       obtain ⟨b', hb', e2⟩ := List.mem_map.1 hb
       simp only [Function.comp] at e2
       subst e2
       have h1 := (Jj6 h eg hg).1
       have h2 := (Jj6 h e' hb').1
       omega
     . cases hb
theorem J7v {c : Circuit} (h : Jad c = 0) : (Jgq c).Nodup := by
 have := Jvx h (nets c).length
 unfold Jgq
 have e : (pairs c).map (fun e => e.1.av) = ((pairs c).map Prod.fst).map Port.av := by rw [List.map_map]; rfl
 rw [e]
 exact List.Pairwise.map _ (fun a b hab hh => hab (Jhd hh)) this
theorem J7w {c : Circuit} : Jio (Jc9 c (pairs c)) = true := by
 rw [Jpq]
 intro e he
 obtain ⟨q, _, rfl⟩ := List.mem_map.1 he
 exact ⟨rfl, rfl⟩
def Jhc (c : Circuit) : AV := if Jad c = 0 then Jgp c else .agg [.p (.lst 3 []), .p (.lst 4 []), .p (.lst 2 []), .nilm]
set_option maxRecDepth 20000 in
theorem Jsd (c : Circuit) (hs : Sized c) : Pure Tryz.prog GL 126 [c.av] (.tup [Jhc c, .p (.int .i64 (Jad c))]) := by
 refine Pure.of_walk (N := 52) Tryz.func126 rfl rfl rfl (by simp) (by first | (simp; done) | simp [*]) ?_
 have hPo := Jz2 c hs
 have hNe := Jz1 c hs
 simp
 by_cases h : Jad c = 0
 . have h2 := Jdv h
   have hal := Jji h2.1 (by omega)
   have hnl := Jva h
   rw [if_neg (by simpa using h), h] at hPo hNe
   have hR : Jhc c = Jgp c := if_pos h
   rw [hR, h]
   refine Jab hPo ?_
   simp
   refine Jab hNe ?_
   simp
   refine Jai.go [1, 2, 4, 7, 31, 32] [0, 1] 0 [] (fun _ => []) (fun _ (k : Nat) => [(33, .p (.int .i64 k))]) (fun _ k => [(2, some (.map (Jc9 c (Jdn c k))))]) (fun k => k <= (nets c).length) (fun k => (nets c).length - k) 0 (by omega) ?_ ?_
   . simp [Jdn, Jc9]
     try decide
   . intro k hk
     simp
     refine Jac (fun h3 => ?_) (fun h3 => ?_)
     . simp at h3
       obtain ⟨g, eg⟩ := Jag h3
       have hgl := hnl.2 g (List.mem_of_getElem? eg)
       have hall := J6z eg
       have hgn : Jgn c k = g := by unfold Jgn; rw [eg]; rfl
       simp [h3, eg, Ports.enc, -getElem?_pos, List.getElem?_cons_zero, List.getElem?_cons_succ]
       refine Jai.go [1, 2, 4, 7, 9, 31, 32, 33, 37, 38] [0, 1] 0 [] (fun _ => []) (fun _ (j : Nat) => [(39, .p (.int .i64 j))]) (fun _ j => [(2, some (.map (Jc9 c (Jeu c k g j))))]) (fun j => j <= g.length) (fun j => g.length - j) 0 (by omega) ?_ ?_
       . simp [J61, Jo9]
         try decide
       . intro j hj
         simp
         refine Jac (fun h4 => ?_) (fun h4 => ?_)
         . simp at h4
           obtain ⟨p, ep⟩ := Jag h4
           have hfr := J62 h eg ep
           have hsn := J60 (c := c) (k := k) ep
           have hset := J8o (c := c) (n := k) hfr
           rw [hgn] at hset
           simp [h4, ep, -getElem?_pos, List.getElem?_cons_zero, List.getElem?_cons_succ]
           refine ⟨wrap_i64 (by omega) (by omega), j + 1, by omega, by omega, ?_⟩
           simp [hset, hsn, Jo9]
           try decide
         . simp at h4
           have hjl : j = g.length := by omega
           subst hjl
           simp
           refine ⟨wrap_i64 (by omega) (by omega), k + 1, by omega, by omega, ?_⟩
           simp [hall, Jo9]
           try decide
     . simp at h3
       have hkl : k = (nets c).length := by omega
       subst hkl
       have hpe : Jdn c (nets c).length = pairs c := rfl
       rw [hpe]
       simp [Jaa, Jgp]
       exact ⟨J7w, by simp [Jgq, Jim], J7v h, by rw [Jpl]⟩
 . rw [if_pos h] at hPo
   have hR : Jhc c = .agg [.p (.lst 3 []), .p (.lst 4 []), .p (.lst 2 []), .nilm] := if_neg h
   rw [hR]
   refine Jab hPo ?_
   simp [h]
   simp [Jaa]
end Go.Am
namespace Go.Am
open Go Go.Proofs Go.Pn
def allG (c : Circuit) : Nat -> List Fnd
 | 0 => Jeh c
 | k + 1 => if k = 0 then Jeh c else allG c k ++ Jbi c k (allP c)
theorem Jjh {c : Circuit} : ∀ k, allG c (k + 1) = allF c k
 | 0 => rfl
 | k + 1 => by
   rw [allG, if_neg (by omega), Jjh k, allF]
theorem Jnr {c : Circuit} {k : Nat} : (allG c k).length <= 1 + k * (allP c).length := by
 cases k with
 | zero => unfold allG Jeh; split <;> simp
 | succ k =>
   rw [Jjh]
   have := @Jnq c k
   have : k * (allP c).length <= (k + 1) * (allP c).length := Nat.mul_le_mul_right _ (by omega)
   omega
theorem Jzs (xs : List Part) (q : Part -> Bool) (m : Nat) (cap : List AV) (hcap : Jba cap = true) (hl : xs.length < 4611686018427387904) (hq : ∀ x ∈ xs, Pure Tryz.prog GL m ((Part.av x) :: cap) (.p (.bool (q x)))) : Pure Tryz.prog GL 127 [.p (.lst 3 (xs.map Part.enc)), .fn (.func m) cap] (.p (.bool (xs.any q))) := by
 refine Pure.of_walk (N := 9) Tryz.func127 rfl rfl rfl (by simp) (by first | (simp; done) | simp [*]) ?_
 simp
 refine Jab (Jr4 xs q m cap hcap hl hq) ?_
 simp [Jaa]
 rw [Bool.eq_iff_iff]
 simp [Jjw]
theorem J0g (q : Part) : Pure Tryz.prog GL 128 [q.av] (.p (.bool (decide (q.kind = 0)))) := by
 refine Pure.of_walk (N := 6) Tryz.func128 rfl rfl rfl (by simp) (by first | (simp; done) | simp [*]) ?_
 simp [Jaa]
@[simp] theorem Kbl {ρ : List Nat} : renL ρ Jia = some Jia := Jfu.2 _ (by decide)
@[simp] theorem Kcn {ρ : List Nat} {k : Nat} : renL ρ (Jfa k) = some (Jfa k) := Jfu.2 _ J8e
set_option maxRecDepth 20000 in
theorem J0f (c : Circuit) (hs : Sized c) : Pure Tryz.prog GL 55 [c.av] (.tup [.p (.lst 3 ((if Jad c = 0 then Jg6 c else []).map Fnd.enc)), .p (.int .i64 (Jad c))]) := by
 refine Pure.of_walk (N := 68) Tryz.func55 rfl rfl rfl (by simp) (by first | (simp; done) | simp [*]) ?_
 have hPl := Jsd c hs
 simp
 refine Jab hPl ?_
 by_cases h : Jad c = 0
 . have h2 := Jdv h
   have hR : Jhc c = Jgp c := if_pos h
   have hal := Jji h2.1 (by omega)
   have hch := h
   have hkk := h2.1
   have hhead : Jeh c = if supB c then [] else [⟨0, ⟨0, []⟩⟩] := rfl
   have hcf := Jzs c.parts (fun q => decide (q.kind = 0)) 128 [] rfl (by omega) (fun q _ => J0g q)
   rw [hR, h, if_pos rfl]
   by_cases hn0 : c.parts.length = 0
   . have hsup : supB c = true := by unfold supB; simp [hn0]
     rw [hsup, if_pos rfl] at hhead
     simp [Jgp, hn0]
     refine Jab (Jn4 ()) ?_
     simp
     refine Jai.go [1, 4, 33] [0, 1] 1 [2] (nms [6]) (fun nx (k : Nat) => [(6, .acc nx 3 (allG c k).length), (34, .p (.int .i64 k))]) (fun nx k => [(nx, accB 3 ((allG c k).map Fnd.row))]) (fun k => k <= 8) (fun k => 8 - k) 0 (by omega) ?_ ?_
     . simp [allG, hhead]
       try decide
     . intro k hk8
       have hlen := @Jnr c k
       have hb8 : k * (allP c).length <= 8 * 1200 := Nat.mul_le_mul hk8 hal
       have hend : k = 8 -> allG c k = Jg6 c := fun e => by rw [e, Jjh]; rfl
       have hsucc : allG c (k + 1) = if k = 0 then Jeh c else allG c k ++ Jbi c k (allP c) := rfl
       have hz : k = 0 -> allG c k = Jeh c := fun e => by rw [e]; rfl
       generalize allG c k = A at hlen hsucc hend hz
       simp
       refine Jac (fun h => ?_) (fun h => ?_)
       . simp at h
         obtain ⟨hki, hkl⟩ := Jo2 (k := k) (by omega)
         by_cases hk0 : k = 0
         . have hkc : Jdl k = [.p (.str (wordAt k)), .p .nilf] := by unfold Jdl; rw [if_pos hk0]
           have hs2 : allG c (k + 1) = A := by rw [hsucc, if_pos hk0, hz hk0]
           rw [hkc] at hki
           simp [hki]
           refine ⟨by omega, by omega, ?_⟩
           refine Jai.gor [1, 4, 7, 8, 33, 34, 39, 40] [0, 1, 3] [0, 1, 2, 3] (fun st => [0, 1, nameOf (slot st.t 6), 3]) (fun (i : Nat) => [(6, .acc 2 3 A.length), (41, .p (.int .i64 i))]) (fun i => [(2, accB 3 (A.map Fnd.row))]) (fun i => i <= (allP c).length) (fun i => (allP c).length - i) 0 (by omega) ?_ ?_
           . simp
             try decide
           . intro i hi
             simp
             refine Jac (fun h2 => ?_) (fun h2 => ?_)
             . simp at h2
               obtain ⟨p, ep⟩ := Jag h2
               simp [h2, ep, -getElem?_pos, List.getElem?_cons_zero, List.getElem?_cons_succ]
               refine Jak.intro (by kernel_rfl) ?_
               simp
               refine ⟨.of (by kernel_rfl), ?_⟩
               refine ⟨wrap_i64 (by omega) (by omega), i + 1, by omega, by omega, ?_⟩
               simp
               try decide
             . simp
               refine ⟨wrap_i64 (by omega) (by omega), k + 1, by omega, by omega, ?_⟩
               simp [hs2]
               try decide
         . have hkc : Jdl k = [.p (.str (wordAt k)), .fn (.func (Jit k)) (Jfa k)] := by unfold Jdl; rw [if_neg hk0]
           have hs2 : allG c (k + 1) = A ++ Jbi c k (allP c) := by rw [hsucc, if_neg hk0]
           have hlen2 : A.length <= 9601 := by omega
           rw [hkc] at hki
           simp [hki]
           refine ⟨by omega, by omega, ?_⟩
           refine Jai.gor [1, 4, 7, 8, 33, 34, 39, 40] [0, 1, 3] [0, 1, 2, 3] (fun st => [0, 1, nameOf (slot st.t 6), 3]) (fun (i : Nat) => [(6, .acc 2 3 (A ++ Jbi c k ((allP c).take i)).length), (41, .p (.int .i64 i))]) (fun i => [(2, accB 3 ((A ++ Jbi c k ((allP c).take i)).map Fnd.row))]) (fun i => i <= (allP c).length) (fun i => (allP c).length - i) 0 (by omega) ?_ ?_
           . simp [Jop]
             try decide
           . intro i hi
             have hl2 := @Jlp c k ((allP c).take i)
             have hl3 := List.length_take_le i (allP c)
             have hsn := @Joq c k (allP c) i
             have hfin : i = (allP c).length -> Jbi c k ((allP c).take i) = Jbi c k (allP c) := fun e => by rw [e, List.take_length]
             generalize Jbi c k ((allP c).take i) = T at hl2 hsn hfin
             simp
             refine Jac (fun h2 => ?_) (fun h2 => ?_)
             . simp at h2
               obtain ⟨p, ep⟩ := Jag h2
               have hp := List.mem_of_getElem? ep
               have hsn2 := hsn ep
               have har := @Jhu c p
               have hrule := Jp4 (c := c) (k := k) (l := around c p) (p := p) (by omega) hkk (by omega) hp (fun q hq => (List.mem_filter.1 hq).1) (Jnu hp)
               have hlk := Jj2 hch (i := p.part) (s := p.name) hp
               have hfb : Jgc c k p = Jds c k (around c p) p := rfl
               rw [<- hfb] at hrule
               simp [h2, ep, -getElem?_pos, List.getElem?_cons_zero, List.getElem?_cons_succ]
               refine Jak.intro (by kernel_rfl) ?_
               simp [hlk, hit]
               refine Jab hrule ?_
               simp
               refine ⟨.of (by kernel_rfl), ?_⟩
               cases hb : Jgc c k p with
               | true =>
                 rw [hb, if_pos rfl] at hsn2
                 simp [h2, ep, -getElem?_pos, List.getElem?_cons_zero, List.getElem?_cons_succ]
                 refine ⟨by omega, wrap_i64 (by omega) (by omega), i + 1, by omega, by omega, ?_⟩
                 simp [hsn2]
                 try (first | omega | decide | (refine ⟨by omega, ?_⟩; decide))
               | false =>
                 rw [hb, if_neg (by simp)] at hsn2
                 simp
                 refine ⟨wrap_i64 (by omega) (by omega), i + 1, by omega, by omega, ?_⟩
                 simp [hsn2]
                 try decide
             . simp at h2
               have hT := hfin (by omega)
               subst hT
               simp
               refine ⟨wrap_i64 (by omega) (by omega), k + 1, by omega, by omega, ?_⟩
               simp [hs2]
               try decide
       . simp at h
         have hA := hend (by omega)
         subst hA
         simp [Jaa]
   . have hpos : 0 < c.parts.length := by omega
     simp [Jgp, hpos]
     refine Jab hcf ?_
     have hsup : supB c = c.parts.any fun q => decide (q.kind = 0) := by unfold supB; simp [hn0]
     rw [<- hsup]
     cases hsu : supB c with
     | true =>
       rw [hsu, if_pos rfl] at hhead
       simp
       refine Jab (Jn4 ()) ?_
       simp
       refine Jai.go [1, 4, 33] [0, 1] 1 [2] (nms [6]) (fun nx (k : Nat) => [(6, .acc nx 3 (allG c k).length), (34, .p (.int .i64 k))]) (fun nx k => [(nx, accB 3 ((allG c k).map Fnd.row))]) (fun k => k <= 8) (fun k => 8 - k) 0 (by omega) ?_ ?_
       . simp [allG, hhead]
         try decide
       . intro k hk8
         have hlen := @Jnr c k
         have hb8 : k * (allP c).length <= 8 * 1200 := Nat.mul_le_mul hk8 hal
         have hend : k = 8 -> allG c k = Jg6 c := fun e => by rw [e, Jjh]; rfl
         have hsucc : allG c (k + 1) = if k = 0 then Jeh c else allG c k ++ Jbi c k (allP c) := rfl
         have hz : k = 0 -> allG c k = Jeh c := fun e => by rw [e]; rfl
         generalize allG c k = A at hlen hsucc hend hz
         simp
         refine Jac (fun h => ?_) (fun h => ?_)
         . simp at h
           obtain ⟨hki, hkl⟩ := Jo2 (k := k) (by omega)
           by_cases hk0 : k = 0
           . have hkc : Jdl k = [.p (.str (wordAt k)), .p .nilf] := by unfold Jdl; rw [if_pos hk0]
             have hs2 : allG c (k + 1) = A := by rw [hsucc, if_pos hk0, hz hk0]
             rw [hkc] at hki
             simp [hki]
             refine ⟨by omega, by omega, ?_⟩
             refine Jai.gor [1, 4, 7, 8, 33, 34, 39, 40] [0, 1, 3] [0, 1, 2, 3] (fun st => [0, 1, nameOf (slot st.t 6), 3]) (fun (i : Nat) => [(6, .acc 2 3 A.length), (41, .p (.int .i64 i))]) (fun i => [(2, accB 3 (A.map Fnd.row))]) (fun i => i <= (allP c).length) (fun i => (allP c).length - i) 0 (by omega) ?_ ?_
             . simp
               try decide
             . intro i hi
               simp
               refine Jac (fun h2 => ?_) (fun h2 => ?_)
               . simp at h2
                 obtain ⟨p, ep⟩ := Jag h2
                 simp [h2, ep, -getElem?_pos, List.getElem?_cons_zero, List.getElem?_cons_succ]
                 refine Jak.intro (by kernel_rfl) ?_
                 simp
                 refine ⟨.of (by kernel_rfl), ?_⟩
                 refine ⟨wrap_i64 (by omega) (by omega), i + 1, by omega, by omega, ?_⟩
                 simp
                 try decide
               . simp
                 refine ⟨wrap_i64 (by omega) (by omega), k + 1, by omega, by omega, ?_⟩
                 simp [hs2]
                 try decide
           . have hkc : Jdl k = [.p (.str (wordAt k)), .fn (.func (Jit k)) (Jfa k)] := by unfold Jdl; rw [if_neg hk0]
             have hs2 : allG c (k + 1) = A ++ Jbi c k (allP c) := by rw [hsucc, if_neg hk0]
             have hlen2 : A.length <= 9601 := by omega
             rw [hkc] at hki
             simp [hki]
             refine ⟨by omega, by omega, ?_⟩
             refine Jai.gor [1, 4, 7, 8, 33, 34, 39, 40] [0, 1, 3] [0, 1, 2, 3] (fun st => [0, 1, nameOf (slot st.t 6), 3]) (fun (i : Nat) => [(6, .acc 2 3 (A ++ Jbi c k ((allP c).take i)).length), (41, .p (.int .i64 i))]) (fun i => [(2, accB 3 ((A ++ Jbi c k ((allP c).take i)).map Fnd.row))]) (fun i => i <= (allP c).length) (fun i => (allP c).length - i) 0 (by omega) ?_ ?_
             . simp [Jop]
               try decide
             . intro i hi
               have hl2 := @Jlp c k ((allP c).take i)
               have hl3 := List.length_take_le i (allP c)
               have hsn := @Joq c k (allP c) i
               have hfin : i = (allP c).length -> Jbi c k ((allP c).take i) = Jbi c k (allP c) := fun e => by rw [e, List.take_length]
               generalize Jbi c k ((allP c).take i) = T at hl2 hsn hfin
               simp
               refine Jac (fun h2 => ?_) (fun h2 => ?_)
               . simp at h2
                 obtain ⟨p, ep⟩ := Jag h2
                 have hp := List.mem_of_getElem? ep
                 have hsn2 := hsn ep
                 have har := @Jhu c p
                 have hrule := Jp4 (c := c) (k := k) (l := around c p) (p := p) (by omega) hkk (by omega) hp (fun q hq => (List.mem_filter.1 hq).1) (Jnu hp)
                 have hlk := Jj2 hch (i := p.part) (s := p.name) hp
                 have hfb : Jgc c k p = Jds c k (around c p) p := rfl
                 rw [<- hfb] at hrule
                 simp [h2, ep, -getElem?_pos, List.getElem?_cons_zero, List.getElem?_cons_succ]
                 refine Jak.intro (by kernel_rfl) ?_
                 simp [hlk, hit]
                 refine Jab hrule ?_
                 simp
                 refine ⟨.of (by kernel_rfl), ?_⟩
                 cases hb : Jgc c k p with
                 | true =>
                   rw [hb, if_pos rfl] at hsn2
                   simp [h2, ep, -getElem?_pos, List.getElem?_cons_zero, List.getElem?_cons_succ]
                   refine ⟨by omega, wrap_i64 (by omega) (by omega), i + 1, by omega, by omega, ?_⟩
                   simp [hsn2]
                   try (first | omega | decide | (refine ⟨by omega, ?_⟩; decide))
                 | false =>
                   rw [hb, if_neg (by simp)] at hsn2
                   simp
                   refine ⟨wrap_i64 (by omega) (by omega), i + 1, by omega, by omega, ?_⟩
                   simp [hsn2]
                   try decide
               . simp at h2
                 have hT := hfin (by omega)
                 subst hT
                 simp
                 refine ⟨wrap_i64 (by omega) (by omega), k + 1, by omega, by omega, ?_⟩
                 simp [hs2]
                 try decide
         . simp at h
           have hA := hend (by omega)
           subst hA
           simp [Jaa]
     | false =>
       rw [hsu, if_neg (by simp)] at hhead
       simp
       refine Jab (Jn4 ()) ?_
       simp
       refine Jai.gor [1, 4, 33] [0, 1] [0, 1, 3] (fun st => [0, 1, nameOf (slot st.t 6)]) (fun (k : Nat) => [(6, .acc 2 3 (allG c k).length), (34, .p (.int .i64 k))]) (fun k => [(2, accB 3 ((allG c k).map Fnd.row))]) (fun k => k <= 8) (fun k => 8 - k) 0 (by omega) ?_ ?_
       . simp [allG, hhead]
         try decide
       . intro k hk8
         have hlen := @Jnr c k
         have hb8 : k * (allP c).length <= 8 * 1200 := Nat.mul_le_mul hk8 hal
         have hend : k = 8 -> allG c k = Jg6 c := fun e => by rw [e, Jjh]; rfl
         have hsucc : allG c (k + 1) = if k = 0 then Jeh c else allG c k ++ Jbi c k (allP c) := rfl
         have hz : k = 0 -> allG c k = Jeh c := fun e => by rw [e]; rfl
         generalize allG c k = A at hlen hsucc hend hz
         simp
         refine Jac (fun h => ?_) (fun h => ?_)
         . simp at h
           obtain ⟨hki, hkl⟩ := Jo2 (k := k) (by omega)
           by_cases hk0 : k = 0
           . have hkc : Jdl k = [.p (.str (wordAt k)), .p .nilf] := by unfold Jdl; rw [if_pos hk0]
             have hs2 : allG c (k + 1) = A := by rw [hsucc, if_pos hk0, hz hk0]
             rw [hkc] at hki
             simp [hki]
             refine ⟨by omega, by omega, ?_⟩
             refine Jai.gor [1, 4, 7, 8, 33, 34, 39, 40] [0, 1, 4] [0, 1, 2, 3, 4] (fun st => [0, 1, nameOf (slot st.t 6), 3, 4]) (fun (i : Nat) => [(6, .acc 2 3 A.length), (41, .p (.int .i64 i))]) (fun i => [(2, accB 3 (A.map Fnd.row))]) (fun i => i <= (allP c).length) (fun i => (allP c).length - i) 0 (by omega) ?_ ?_
             . simp
               try decide
             . intro i hi
               simp
               refine Jac (fun h2 => ?_) (fun h2 => ?_)
               . simp at h2
                 obtain ⟨p, ep⟩ := Jag h2
                 simp [h2, ep, -getElem?_pos, List.getElem?_cons_zero, List.getElem?_cons_succ]
                 refine Jak.intro (by kernel_rfl) ?_
                 simp
                 refine ⟨.of (by kernel_rfl), ?_⟩
                 refine ⟨wrap_i64 (by omega) (by omega), i + 1, by omega, by omega, ?_⟩
                 simp
                 try decide
               . simp
                 refine ⟨wrap_i64 (by omega) (by omega), k + 1, by omega, by omega, ?_⟩
                 simp [hs2]
                 try decide
           . have hkc : Jdl k = [.p (.str (wordAt k)), .fn (.func (Jit k)) (Jfa k)] := by unfold Jdl; rw [if_neg hk0]
             have hs2 : allG c (k + 1) = A ++ Jbi c k (allP c) := by rw [hsucc, if_neg hk0]
             have hlen2 : A.length <= 9601 := by omega
             rw [hkc] at hki
             simp [hki]
             refine ⟨by omega, by omega, ?_⟩
             refine Jai.gor [1, 4, 7, 8, 33, 34, 39, 40] [0, 1, 4] [0, 1, 2, 3, 4] (fun st => [0, 1, nameOf (slot st.t 6), 3, 4]) (fun (i : Nat) => [(6, .acc 2 3 (A ++ Jbi c k ((allP c).take i)).length), (41, .p (.int .i64 i))]) (fun i => [(2, accB 3 ((A ++ Jbi c k ((allP c).take i)).map Fnd.row))]) (fun i => i <= (allP c).length) (fun i => (allP c).length - i) 0 (by omega) ?_ ?_
             . simp [Jop]
               try decide
             . intro i hi
               have hl2 := @Jlp c k ((allP c).take i)
               have hl3 := List.length_take_le i (allP c)
               have hsn := @Joq c k (allP c) i
               have hfin : i = (allP c).length -> Jbi c k ((allP c).take i) = Jbi c k (allP c) := fun e => by rw [e, List.take_length]
               generalize Jbi c k ((allP c).take i) = T at hl2 hsn hfin
               simp
               refine Jac (fun h2 => ?_) (fun h2 => ?_)
               . simp at h2
                 obtain ⟨p, ep⟩ := Jag h2
                 have hp := List.mem_of_getElem? ep
                 have hsn2 := hsn ep
                 have har := @Jhu c p
                 have hrule := Jp4 (c := c) (k := k) (l := around c p) (p := p) (by omega) hkk (by omega) hp (fun q hq => (List.mem_filter.1 hq).1) (Jnu hp)
                 have hlk := Jj2 hch (i := p.part) (s := p.name) hp
                 have hfb : Jgc c k p = Jds c k (around c p) p := rfl
                 rw [<- hfb] at hrule
                 simp [h2, ep, -getElem?_pos, List.getElem?_cons_zero, List.getElem?_cons_succ]
                 refine Jak.intro (by kernel_rfl) ?_
                 simp [hlk, hit]
                 refine Jab hrule ?_
                 simp
                 refine ⟨.of (by kernel_rfl), ?_⟩
                 cases hb : Jgc c k p with
                 | true =>
                   rw [hb, if_pos rfl] at hsn2
                   simp [h2, ep, -getElem?_pos, List.getElem?_cons_zero, List.getElem?_cons_succ]
                   refine ⟨by omega, wrap_i64 (by omega) (by omega), i + 1, by omega, by omega, ?_⟩
                   simp [hsn2]
                   try (first | omega | decide | (refine ⟨by omega, ?_⟩; decide))
                 | false =>
                   rw [hb, if_neg (by simp)] at hsn2
                   simp
                   refine ⟨wrap_i64 (by omega) (by omega), i + 1, by omega, by omega, ?_⟩
                   simp [hsn2]
                   try decide
               . simp at h2
                 have hT := hfin (by omega)
                 subst hT
                 simp
                 refine ⟨wrap_i64 (by omega) (by omega), k + 1, by omega, by omega, ?_⟩
                 simp [hs2]
                 try decide
         . simp at h
           have hA := hend (by omega)
           subst hA
           simp [Jaa]
 . have hR : Jhc c = .agg [.p (.lst 3 []), .p (.lst 4 []), .p (.lst 2 []), .nilm] := if_neg h
   rw [hR]
   simp [h]
   simp [Jaa]
end Go.Am
namespace Go.Am
open Go Go.Proofs Go.Pn
end Go.Am
namespace Go.Am
open Go Go.Proofs Go.Pn
def Jtd (c : Circuit) (i : Int) (s : Txt) : List Port := Jbt c (around c ⟨i, s⟩) true
def Jh1 (c : Circuit) (i : Int) : Option (Int × Bool) := match Jtd c i [50], Jtd c i [52] with
 | [a], [b] => if a.part ≠ b.part \/ a.name = b.name then none else if Jc0 c a.part = 2 \/ Jc0 c a.part = 3 then some (a.part, decide (b.name = [52])) else none
 | _, _ => none
def Jej (c : Circuit) (s : Txt) : Int := idxI c.parts fun p => decide (p.name = s)
def Jc8 (c : Circuit) (s : Txt) : Int := if Jad c ≠ 0 then Jad c else if Jej c s < 0 then 6 else if Jc0 c (Jej c s) ≠ 1 then 1 else if (Jh1 c (Jej c s)).isNone then 14 else 0
def Jdw (c : Circuit) (s : Txt) : Int × Bool := if Jc8 c s ≠ 0 then (0, false) else (Jh1 c (Jej c s)).getD (0, false)
theorem J26 {c : Circuit} {s : Txt} (h : Jad c = 0) (hs : Sized c) : Pure Tryz.prog GL 36 [c.av, .p (.str s)] (.tup [.p (.int .i64 (if Jej c s < 0 then 0 else Jej c s)), .p (.int .i64 (if Jej c s < 0 then 6 else 0))]) := by
 have := Jz0 c s hs
 have hno : ¬ Jad c ≠ 0 := by simpa using h
 rw [if_neg hno, if_neg hno] at this
 exact this
theorem J64 {c : Circuit} {s : Txt} (h : ¬ Jej c s < 0) : ∃ (i : Nat) (q : Part), Jej c s = i /\ c.parts[i]? = some q /\ i < c.parts.length /\ q.name = s /\ Jc0 c i = q.kind := by
 rcases Jh8 c.parts (fun p => decide (p.name = s)) with ⟨_, h2⟩ | ⟨i, q, _, h2, h3, h4⟩
 . exact absurd (show Jej c s < 0 by unfold Jej; omega) h
 . exact ⟨i, q, h2, h3, (gsI.1 h3).1, by simpa using h4, by simp [Jc0, h3, -getElem?_pos]⟩
theorem J2f {c : Circuit} {i : Nat} {q : Part} (e : c.parts[i]? = some q) (hk : q.kind = 1) : (⟨i, [50]⟩ : Port) ∈ allP c /\ (⟨i, [52]⟩ : Port) ∈ allP c := by
 have h2 : ([50] : Txt) ∈ Ja7 1 := by decide +kernel
 have h4 : ([52] : Txt) ∈ Ja7 1 := by decide +kernel
 have hp : Jbg q = Ja7 1 := by unfold Jbg; rw [hk]; rfl
 refine ⟨Jf3.2 (Jes.2 ⟨q, by simpa using e, by simp, ?_⟩), Jf3.2 (Jes.2 ⟨q, by simpa using e, by simp, ?_⟩)⟩
 . rw [hp]; exact h2
 . rw [hp]; exact h4
set_option maxRecDepth 20000 in
theorem J0e (c : Circuit) (s : Txt) (hs : Sized c) : Pure Tryz.prog GL 60 [c.av, .p (.str s)] (.tup [.p (.int .i64 (Jdw c s).1), .p (.bool (Jdw c s).2), .p (.int .i64 (Jc8 c s))]) := by
 refine Pure.of_walk (N := 107) Tryz.func60 rfl rfl rfl (by simp) (by first | (simp; done) | simp [*]) ?_
 have hPl := Jsd c hs
 simp
 refine Jab hPl ?_
 by_cases h : Jad c = 0
 . have h2 := Jdv h
   have hal := Jji h2.1 (by omega)
   have hR : Jhc c = Jgp c := if_pos h
   have hFi := J26 (s := s) h hs
   have hno : ¬ Jad c ≠ 0 := by simpa using h
   rw [hR, h]
   simp [Jgp]
   refine Jab hFi ?_
   by_cases hi : Jej c s < 0
   . have he : Jc8 c s = 6 := by unfold Jc8; rw [if_neg hno, if_pos hi]
     have hr : Jdw c s = (0, false) := by unfold Jdw; rw [he, if_pos (by simp)]
     rw [he, hr]
     simp [hi, Jaa]
   . obtain ⟨i, q, e1, e2, e3, e4, e5⟩ := J64 hi
     rw [e1] at hi
     by_cases hk : q.kind = 1
     . obtain ⟨hp2, hp4⟩ := J2f e2 hk
       have hl2 := Jj2 h hp2
       have hl4 := Jj2 h hp4
       have ha2 := @Jhu c ⟨i, [50]⟩
       have ha4 := @Jhu c ⟨i, [52]⟩
       have hf2 := Jlb c (around c ⟨i, [50]⟩) h2.1 (by omega) (fun q hq => (List.mem_filter.1 hq).1)
       have hf4 := Jlb c (around c ⟨i, [52]⟩) h2.1 (by omega) (fun q hq => (List.mem_filter.1 hq).1)
       have hd : Jc8 c s = if (Jh1 c i).isNone then 14 else 0 := by unfold Jc8; rw [if_neg hno, e1, if_neg hi, e5, if_neg (by simpa using hk)]
       have hdr : Jdw c s = if Jc8 c s ≠ 0 then (0, false) else (Jh1 c i).getD (0, false) := by unfold Jdw; rw [e1]
       have hdo : Jh1 c i = match Jbt c (around c ⟨i, [50]⟩) true, Jbt c (around c ⟨i, [52]⟩) true with
         | [a], [b] => if a.part ≠ b.part \/ a.name = b.name then none else if Jc0 c a.part = 2 \/ Jc0 c a.part = 3 then some (a.part, decide (b.name = [52])) else none
         | _, _ => none := rfl
       have hpa : ∀ a ∈ Jbt c (around c ⟨i, [50]⟩) true, Jk0 c a := fun a ha => J65 a (List.mem_filter.1 ha).1
       generalize Jbt c (around c ⟨i, [50]⟩) true = L at hf2 hdo hpa
       generalize Jbt c (around c ⟨i, [52]⟩) true = M at hf4 hdo
       have hnone : Jh1 c i = none -> Jc8 c s = 14 /\ Jdw c s = (0, false) := fun hn => by
         have : Jc8 c s = 14 := by rw [hd, hn]; rfl
         exact ⟨this, by rw [hdr, this, if_pos (by simp)]⟩
       simp [e1, hi, e2, e3, Part.enc, hk, -getElem?_pos, List.getElem?_cons_zero, List.getElem?_cons_succ]
       refine Jak.intro (by kernel_rfl) ?_
       simp [hl2, hit]
       refine Jab hf2 ?_
       simp
       refine ⟨.of (by kernel_rfl), ?_⟩
       refine Jak.intro (by kernel_rfl) ?_
       simp [hl4, hit]
       refine Jab hf4 ?_
       simp
       refine ⟨.of (by kernel_rfl), ?_⟩
       refine Jak.intro (by kernel_rfl) ?_
       by_cases hL : ∃ a, L = [a]
       . obtain ⟨a, rfl⟩ := hL
         by_cases hM : ∃ b, M = [b]
         . obtain ⟨b, rfl⟩ := hM
           obtain ⟨j, qa, k1, k2, k3, k4⟩ := Jv3 (hpa a (by simp))
           simp only at hdo
           by_cases hab : a.part = b.part
           . by_cases hnm : a.name = b.name
             . obtain ⟨r1, r2⟩ := hnone (by rw [hdo, if_pos (.inr hnm)])
               rw [r1, r2]
               simp [hab, hnm]
               refine ⟨.of (by kernel_rfl), ?_⟩
               simp [Jaa]
             . simp only [hab, ne_eq, not_true_eq_false, hnm, or_self, if_false] at hdo
               rw [<- hab, k4] at hdo
               have hbk : b.part = j := by omega
               have hjb : (j : Int) = b.part := by omega
               simp [hab, hnm]
               refine ⟨.of (by kernel_rfl), ?_⟩
               refine Jak.intro (by kernel_rfl) ?_
               simp [hbk, k1, k2, k3, Part.enc, -getElem?_pos, List.getElem?_cons_zero, List.getElem?_cons_succ]
               refine ⟨.of (by kernel_rfl), ?_⟩
               by_cases h22 : qa.kind = 2
               . rw [if_pos (.inl h22)] at hdo
                 have r1 : Jc8 c s = 0 := by rw [hd, hdo]; rfl
                 have r2 : Jdw c s = (a.part, decide (b.name = [52])) := by rw [hdr, r1, if_neg (by simp), hdo]; rfl
                 rw [r1, r2]
                 simp [h22]
                 refine Jak.intro (by kernel_rfl) ?_
                 simp
                 refine ⟨.of (by kernel_rfl), ?_⟩
                 simp [Jaa, k1]
               . by_cases h33 : qa.kind = 3
                 . rw [if_pos (.inr h33)] at hdo
                   have r1 : Jc8 c s = 0 := by rw [hd, hdo]; rfl
                   have r2 : Jdw c s = (a.part, decide (b.name = [52])) := by rw [hdr, r1, if_neg (by simp), hdo]; rfl
                   rw [r1, r2]
                   simp [h33]
                   refine Jak.intro (by kernel_rfl) ?_
                   simp
                   refine ⟨.of (by kernel_rfl), ?_⟩
                   simp [Jaa, k1]
                 . rw [if_neg (by omega)] at hdo
                   obtain ⟨r1, r2⟩ := hnone hdo
                   rw [r1, r2]
                   simp [h22, h33, Jaa]
           . obtain ⟨r1, r2⟩ := hnone (by rw [hdo, if_pos (.inl hab)])
             rw [r1, r2]
             simp [hab]
             refine ⟨.of (by kernel_rfl), ?_⟩
             simp [Jaa]
         . have hMl : ¬ ((M.length : Int) = 1) := fun hh => by
             match M, hh, hM with
             | [b], _, hM => exact hM ⟨b, rfl⟩
             | [], hh, _ => simp at hh
             | _ :: _ :: _, hh, _ => simp at hh; omega
           obtain ⟨r1, r2⟩ := hnone (by
             rw [hdo]
             match M, hM with
             | [b], hM => exact (hM ⟨b, rfl⟩).elim
             | [], _ => rfl
             | _ :: _ :: _, _ => rfl)
           rw [r1, r2]
           simp [hMl]
           refine ⟨.of (by kernel_rfl), ?_⟩
           simp [Jaa]
       . have hLl : ¬ ((L.length : Int) = 1) := fun hh => by
           match L, hh, hL with
           | [b], _, hL => exact hL ⟨b, rfl⟩
           | [], hh, _ => simp at hh
           | _ :: _ :: _, hh, _ => simp at hh; omega
         obtain ⟨r1, r2⟩ := hnone (by
           rw [hdo]
           match L, hL with
           | [b], hL => exact (hL ⟨b, rfl⟩).elim
           | [], _ => rfl
           | _ :: _ :: _, _ => rfl)
         rw [r1, r2]
         simp [hLl]
         refine ⟨.of (by kernel_rfl), ?_⟩
         simp [Jaa]
     . have he : Jc8 c s = 1 := by unfold Jc8; rw [if_neg hno, e1, if_neg hi, e5, if_pos hk]
       have hr : Jdw c s = (0, false) := by unfold Jdw; rw [he, if_pos (by simp)]
       rw [he, hr]
       simp [e1, hi, e2, e3, Part.enc, hk, -getElem?_pos, List.getElem?_cons_zero, List.getElem?_cons_succ]
       simp [Jaa]
 . have hR : Jhc c = .agg [.p (.lst 3 []), .p (.lst 4 []), .p (.lst 2 []), .nilm] := if_neg h
   have he : Jc8 c s = Jad c := by unfold Jc8; rw [if_pos h]
   have hr : Jdw c s = (0, false) := by unfold Jdw; rw [he, if_pos h]
   rw [hR, he, hr]
   simp [h]
   simp [Jaa]
end Go.Am
namespace Go.Am
open Go Go.Proofs Go.Pn
@[simp] theorem Ki6 : Jd4 Tryz.prog 4 = some false := by kernel_rfl
end Go.Am
namespace Go.Am
open Go Go.Proofs Go.Pn
def nmQ (x : AV) : Nat := match x with
 | .ref b .. => b
 | _ => 2
@[simp] theorem Kbu {b k i n : Nat} {c : Option Nat} : nmQ (.ref b k i n c) = b := rfl
@[simp] theorem Kbt {x : PV} : nmQ (.p x) = 2 := rfl
end Go.Am
namespace Go.Am
open Go Go.Proofs Go.Pn
end Go.Am
namespace Go.Am
open Go Go.Proofs Go.Pn
theorem Ka5 {c : Circuit} (h : Jad c = 0) : (Jg6 c).length <= 9000 := by
 have h2 := Jdv h
 have hal := Jji h2.1 (by omega)
 have := @Jnq c 7
 have h7 : 7 * (allP c).length <= 7 * 1200 := Nat.mul_le_mul (by omega) hal
 have e : allF c 7 = Jg6 c := rfl
 rw [e] at this
 omega
end Go.Am
namespace Go.Am
open Go Go.Proofs Go.Pn
end Go.Am
namespace Go.Am
open Go Go.Proofs Go.Pn
end Go.Am
