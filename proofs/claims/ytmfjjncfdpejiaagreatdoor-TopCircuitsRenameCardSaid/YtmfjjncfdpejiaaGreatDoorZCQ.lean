/- Lemmas and contracts for the proof of a statement of this seat. -/
import Derived.Test.YtmfjjncfdpejiaaGreatDoorZCA
import Derived.Test.YtmfjjncfdpejiaaGreatDoorZC7
import Derived.Test.YtmfjjncfdpejiaaGreatDoorZA5
import Derived.Test.YtmfjjncfdpejiaaGreatDoorZCP
set_option linter.unusedVariables false
set_option linter.unusedSimpArgs false
namespace Go.Am
open Go Go.Proofs Go.Pn
def Ja4 (c : Circuit) (p : Port) : Int := Jd5 (Jas c p.part).toNat p.name
def Jci (c : Circuit) (p : Port) : Bool := decide (Ja4 c p = 1)
def Jkj (c : Circuit) (p : Port) : Bool := decide (Ja4 c p = 0) || (decide (Ja4 c p = 3) || decide (Ja4 c p = 4))
def Jiw (c : Circuit) (give : Bool) (p : Port) : Bool := if give then Jci c p else Jkj c p
def Jbc (c : Circuit) (l : List Port) (give : Bool) : List Port := l.filter (Jiw c give)
def Jdw (c : Circuit) (k : Nat) (l : List Port) (p : Port) : Bool := match k with
 | 1 => decide (Ja4 c p = 3) && decide (l.length = 1)
 | 2 => decide (Ja4 c p = 4) && decide (l.length = 1)
 | 3 => decide (Ja4 c p = 0) && decide ((Jbc c l true).length = 0)
 | 4 => decide (Ja4 c p = 1) && !decide ((Jbc c l true).head? = some p)
 | 5 => decide (Ja4 c p = 1) && decide ((Jbc c l false).length = 0)
 | 6 => decide (Ja4 c p = 2) && decide (1 < l.length)
 | _ => decide (Jas c p.part = 2) && (decide (p.name = [49, 52]) && decide ((⟨p.part, [49, 50]⟩ : Port) ∈ l))
def Jcw (c : Circuit) (k : Nat) (p : Port) : Bool := Jdw c k (around c p) p
def Jkz (c : Circuit) (p : Port) : Prop := 0 <= p.part /\ p.part.toNat < c.parts.length
theorem Jwd {c : Circuit} {p : Port} (h : Jkz c p) : ∃ (i : Nat) (q : Part), p.part = i /\ i < c.parts.length /\ c.parts[i]? = some q /\ Jas c p.part = q.kind := by
 obtain ⟨q, e⟩ := Jah h.2
 exact ⟨p.part.toNat, q, by have := h.1; omega, h.2, e, by rw [Jas, e]; rfl⟩
theorem Jwc {c : Circuit} {p : Port} (h : p ∈ allP c) : Jkz c p := by
 obtain ⟨q, h1, h2, _⟩ := Jdn.1 (Jd9.1 h)
 exact ⟨h2, (gsI.1 h1).1⟩
theorem J65 {c : Circuit} {p : Port} : ∀ q ∈ around c p, Jkz c q := fun _ hq => Jwc (List.mem_filter.1 hq).1
end Go.Am
namespace Go.Am
open Go Go.Proofs Go.Pn
structure Fnd where
 kind : Int
 at_ : Port
 deriving DecidableEq
@[simp] def Fnd.enc (f : Fnd) : List PV := [.int .i64 f.kind, .int .i64 f.at_.part, .str f.at_.name]
@[simp] def Fnd.row (f : Fnd) : List AV := [.p (.int .i64 f.kind), .p (.int .i64 f.at_.part), .p (.str f.at_.name)]
@[simp] def Fnd.av (f : Fnd) : AV := .agg [.p (.int .i64 f.kind), .p (.int .i64 f.at_.part), .p (.str f.at_.name)]
def supB (c : Circuit) : Bool := (c.parts.any fun q => decide (q.kind = 0)) || decide (c.parts.length = 0)
def Jbi (c : Circuit) (k : Nat) (l : List Port) : List Fnd := (l.filter (Jcw c k)).map fun p => ⟨k, p⟩
def Jdo (c : Circuit) : List Fnd := if supB c then [] else [⟨0, ⟨0, []⟩⟩]
def allF (c : Circuit) : Nat -> List Fnd
 | 0 => Jdo c
 | k + 1 => allF c k ++ Jbi c (k + 1) (allP c)
def Jf8 (c : Circuit) : List Fnd := allF c 7
theorem Jlp {c : Circuit} {k : Nat} {l : List Port} : (Jbi c k l).length <= l.length := by
 unfold Jbi; rw [List.length_map]; exact List.length_filter_le ..
theorem Jru {c : Circuit} : ∀ {k : Nat}, (allF c k).length <= 1 + k * (allP c).length
 | 0 => by unfold allF Jdo; split <;> simp
 | k + 1 => by
   have h1 := Jru (c := c) (k := k)
   have h2 := @Jlp c (k + 1) (allP c)
   simp only [allF, List.length_append, Nat.succ_mul]
   omega
theorem Jo3 {c : Circuit} {k : Nat} {l : List Port} {j : Nat} {p : Port} (e : l[j]? = some p) : Jbi c k (l.take (j + 1)) = Jbi c k (l.take j) ++ (if Jcw c k p then [⟨k, p⟩] else []) := by
 unfold Jbi
 rw [Joy e, List.map_append]
 split <;> rfl
theorem Jo2 {c : Circuit} {k : Nat} : Jbi c k [] = [] := rfl
end Go.Am
namespace Go.Am
open Go Go.Proofs Go.Pn
def Jyt : List Txt := [[110, 111, 32, 115, 117, 112, 112, 108, 121], [111, 112, 101, 110, 32, 112, 105, 108, 111, 116], [111, 112, 101, 110, 32, 99, 104, 97, 109, 98, 101, 114], [117, 110, 102, 101, 100],
 [106, 111, 105, 110, 101, 100, 32, 111, 117, 116, 112, 117, 116, 115], [100, 101, 97, 100, 32, 101, 110, 100], [112, 108, 117, 103, 103, 101, 100, 32, 101, 120, 104, 97, 117, 115, 116], [111, 112, 112, 111, 115, 101, 100, 32, 112, 105, 108, 111, 116, 115]]
def wordAt (k : Int) : Txt := (Jyt[k.toNat]?).getD []
def nameAt (c : Circuit) (i : Int) : Txt := match c.parts[i.toNat]? with | some q => q.name | none => []
end Go.Am
namespace Go.Am
open Go Go.Proofs Go.Pn
theorem Jxg {c : Circuit} (hk : Jb5 c) {p : Port} (hp : p ∈ allP c) : ∃ (i : Nat) (q : Part), p.part = i /\ i < c.parts.length /\ c.parts[i]? = some q /\ Jas c p.part = q.kind /\ (0 <= q.kind /\ q.kind < 14) /\ p.name ∈ Jbb q.kind.toNat /\ Jdv q.kind.toNat p.name = Ja4 c p /\ 0 <= Ja4 c p := by
 obtain ⟨i, q, e1, e2, e3, e4⟩ := Jwd (Jwc hp)
 obtain ⟨q', g1, g2, g3⟩ := Jdn.1 (Jd9.1 hp)
 have e5 : p.part.toNat = i := by omega
 rw [e5, e3] at g1; cases g1
 have hq := hk q (List.mem_of_getElem? e3)
 have hv := (J93 (k := q.kind.toNat) (by omega) true).2 p.name g3
 have hr : Ja4 c p = Jd5 q.kind.toNat p.name := by rw [Ja4, e4]
 have hpl := Jp0 (k := q.kind.toNat) (s := p.name) (by omega)
 refine ⟨i, q, e1, e2, e3, e4, hq, g3, by rw [hr, hv.2], ?_⟩
 rw [hr]
 by_cases h : Jd5 q.kind.toNat p.name < 0
 . exact absurd g3 (hpl.1 h)
 . omega
theorem Jjk (c : Circuit) (p : Port) (hk : Jb5 c) (hp : p ∈ allP c) : Pure Tryz.prog GL 214 [c.av, p.av] (.p (.int .i64 (Ja4 c p))) := by
 refine Pure.of_walk (N := 21) Tryz.func214 rfl rfl rfl (by simp) (by first | (simp; done) | simp [*]) ?_
 obtain ⟨i, q, e1, e2, e3, e4, e5, e6, e7, e8⟩ := Jxg hk hp
 obtain ⟨pi, pn⟩ := p
 simp only at e1 e4 e6 e7
 subst e1
 have hro := Jsy q.kind pn e5
 rw [e7, if_neg (by omega), if_neg (by omega)] at hro
 generalize Ja4 c ⟨(i : Int), pn⟩ = r at *
 simp
 refine Jag.intro (by kernel_rfl) ?_
 simp [e2, e3, Part.enc, -getElem?_pos, List.getElem?_cons_zero, List.getElem?_cons_succ]
 refine Jab hro ?_
 simp
 refine ⟨.of (by kernel_rfl), ?_⟩
 simp [Jaa]
theorem Jsm (c : Circuit) (p : Port) (hk : Jb5 c) (hp : p ∈ allP c) : Pure Tryz.prog GL 140 [c.av, p.av] (.p (.bool (Jci c p))) := by
 refine Pure.of_walk (N := 9) Tryz.func140 rfl rfl rfl (by simp) (by first | (simp; done) | simp [*]) ?_
 simp
 refine Jab (Jjk c p hk hp) ?_
 simp [Jaa, Jci]
theorem J0w (c : Circuit) (p : Port) (hk : Jb5 c) (hp : p ∈ allP c) : Pure Tryz.prog GL 217 [c.av, p.av] (.p (.bool (Jkj c p))) := by
 refine Pure.of_walk (N := 12) Tryz.func217 rfl rfl rfl (by simp) (by first | (simp; done) | simp [*]) ?_
 simp
 refine Jab (Jjk c p hk hp) ?_
 have ht : Jkj c p = (decide (Ja4 c p = 0) || (decide (Ja4 c p = 3) || decide (Ja4 c p = 4))) := rfl
 rw [ht]
 generalize Ja4 c p = r
 simp
 by_cases h0 : r = 0
 . simp [h0, Jaa]
 . by_cases h3 : r = 3
   . simp [h0, h3, Jaa]
   . by_cases h4 : r = 4 <;> simp [h0, h3, h4, Jaa]
theorem Jsl (c : Circuit) (l : List Port) (q : Port -> Bool) (m : Nat) (hl : l.length < 100000) (hq : ∀ p ∈ l, Pure Tryz.prog GL m [c.av, p.av] (.p (.bool (q p)))) : Pure Tryz.prog GL 139 [c.av, .p (.lst 2 (l.map Port.enc)), .fn (.func m) []] (.p (.lst 2 ((l.filter q).map Port.enc))) := by
 refine Pure.of_walk (N := 26) Tryz.func139 rfl rfl rfl (by simp) (by first | (simp; done) | simp [*]) ?_
 simp
 refine Jaj.go [2, 3, 10, 11] [0] 1 [1] (nms [7]) (fun nx (k : Nat) => [(7, .acc nx 2 ((l.take k).filter q).length), (12, .p (.int .i64 k))]) (fun nx k => [(nx, accB 2 (((l.take k).filter q).map Port.row))]) (fun k => k <= l.length) (fun k => l.length - k) 0 (by omega) ?_ ?_
 . simp
 . intro k hk1
   have hb : ((l.take k).filter q).length <= k := by
     have h1 := List.length_filter_le q (l.take k)
     have h2 := List.length_take_le k l
     omega
   have hsn := @Joy _ q l k
   have hend : k = l.length -> (l.take k).filter q = l.filter q := fun e => by rw [e, List.take_length]
   generalize (l.take k).filter q = A at hb hsn hend
   simp
   refine Jac (fun h => ?_) (fun h => ?_)
   . simp at h
     obtain ⟨x, e⟩ := Jah h
     have hx := hq x (List.mem_of_getElem? e)
     have hsn2 := hsn e
     simp [h, e, -getElem?_pos, List.getElem?_cons_zero, List.getElem?_cons_succ]
     refine Jab hx ?_
     cases hb2 : q x with
     | true =>
       simp
       refine ⟨by omega, wrap_i64 (by omega) (by omega), k + 1, by omega, by omega, ?_⟩
       simp [hsn2, hb2]
     | false =>
       simp
       refine ⟨wrap_i64 (by omega) (by omega), k + 1, by omega, by omega, ?_⟩
       simp [hsn2, hb2]
   . simp at h
     have hA := hend (by omega)
     subst hA
     simp [Jaa]
theorem Jlb (c : Circuit) (l : List Port) (hk : Jb5 c) (hl : l.length < 100000) (ha : ∀ q ∈ l, q ∈ allP c) : Pure Tryz.prog GL 139 [c.av, .p (.lst 2 (l.map Port.enc)), .fn (.func 140) []] (.p (.lst 2 ((Jbc c l true).map Port.enc))) :=
 Jsl c l (Jci c) 140 hl fun p hp => Jsm c p hk (ha p hp)
theorem J0n (c : Circuit) (l : List Port) (hk : Jb5 c) (hl : l.length < 100000) (ha : ∀ q ∈ l, q ∈ allP c) : Pure Tryz.prog GL 139 [c.av, .p (.lst 2 (l.map Port.enc)), .fn (.func 217) []] (.p (.lst 2 ((Jbc c l false).map Port.enc))) :=
 Jsl c l (Jkj c) 217 hl fun p hp => J0w c p hk (ha p hp)
theorem Jsn (n : Int) : Pure Tryz.prog GL 212 [.p (.int .i64 n)] (.fn (.func 269) [.iptr 1 [[.int .i64 n]] 0 0]) := by
 refine Pure.of_walk (N := 4) Tryz.func212 rfl rfl rfl (by simp) (by first | (simp; done) | simp [*]) ?_
 simp [Jaa]
theorem Jso (c : Circuit) (l : List Port) (p : Port) (n : Int) (hk : Jb5 c) (hl : l.length < 100000) (hp : p ∈ allP c) : Pure Tryz.prog GL 269 [c.av, .p (.lst 2 (l.map Port.enc)), p.av, .iptr 1 [[.int .i64 n]] 0 0] (.p (.bool (decide (Ja4 c p = n) && decide (l.length = 1)))) := by
 refine Pure.of_walk (N := 18) Tryz.func269 rfl rfl rfl (by simp) (by first | (simp; done) | simp [*]) ?_
 simp
 refine Jag.intro (by kernel_rfl) ?_
 simp
 refine Jab (Jjk c p hk hp) ?_
 generalize Ja4 c p = r
 simp
 by_cases h : r = n
 . subst h
   simp
   refine ⟨.of (by kernel_rfl), ?_⟩
   simp [Jaa]
   omega
 . simp [h]
   refine ⟨.of (by kernel_rfl), ?_⟩
   simp [Jaa]
theorem J0r (c : Circuit) (l : List Port) (p : Port) (hk : Jb5 c) (hl : l.length < 100000) (hp : p ∈ allP c) (ha : ∀ q ∈ l, q ∈ allP c) : Pure Tryz.prog GL 213 [c.av, .p (.lst 2 (l.map Port.enc)), p.av] (.p (.bool (Jdw c 3 l p))) := by
 refine Pure.of_walk (N := 18) Tryz.func213 rfl rfl rfl (by simp) (by first | (simp; done) | simp [*]) ?_
 have hg := Jlb c l hk hl ha
 simp
 refine Jab (Jjk c p hk hp) ?_
 have hr : Jdw c 3 l p = (decide (Ja4 c p = 0) && decide ((Jbc c l true).length = 0)) := rfl
 rw [hr]
 generalize Ja4 c p = r
 generalize Jbc c l true = G at *
 by_cases h : r = 0
 . simp [h]
   refine Jab hg ?_
   simp [Jaa, h]
 . simp [h, Jaa]
theorem J0s (c : Circuit) (l : List Port) (p : Port) (hk : Jb5 c) (hl : l.length < 100000) (hp : p ∈ allP c) (ha : ∀ q ∈ l, q ∈ allP c) (hm : p ∈ l) : Pure Tryz.prog GL 215 [c.av, .p (.lst 2 (l.map Port.enc)), p.av] (.p (.bool (Jdw c 4 l p))) := by
 refine Pure.of_walk (N := 13) Tryz.func215 rfl rfl rfl (by simp) (by first | (simp; done) | simp [*]) ?_
 have hg := Jlb c l hk hl ha
 have hlen : (Jbc c l true).length <= l.length := List.length_filter_le ..
 have hix := Jsg (Jbc c l true) p (by omega)
 have hr : Jdw c 4 l p = decide (0 < idxI (Jbc c l true) fun x => decide (x = p)) := by
   have hmem : p ∈ Jbc c l true ↔ Ja4 c p = 1 := by
     unfold Jbc
     rw [List.mem_filter]
     simp [Jiw, Jci, hm]
   show (decide (Ja4 c p = 1) && !decide ((Jbc c l true).head? = some p)) = _
   rw [Bool.eq_iff_iff]
   rcases Jg3 (Jbc c l true) (fun x => decide (x = p)) with ⟨h1, h2⟩ | ⟨i, x, h1, h2, h3, h4⟩
   . have hnot : p ∉ Jbc c l true := fun hh => by
       have := List.findIdx?_eq_none_iff.1 h1 p hh
       simp at this
     have : ¬ Ja4 c p = 1 := fun hh => hnot (hmem.2 hh)
     rw [h2]
     simp [this]
   . have hx : x = p := by simpa using h4
     subst hx
     have h5 : Ja4 c x = 1 := hmem.1 (List.mem_of_getElem? h3)
     rw [h2]
     obtain ⟨k1, k2, k3⟩ := List.findIdx?_eq_some_iff_getElem.1 h1
     cases i with
     | zero =>
       have : (Jbc c l true).head? = some x := by rw [List.head?_eq_getElem?, h3]
       simp [this]
     | succ i =>
       have hne : (Jbc c l true).head? ≠ some x := fun hh => by
         rw [List.head?_eq_getElem?] at hh
         obtain ⟨k4, k5⟩ := gsI.1 hh
         have := k3 0 (by omega)
         simp [k5] at this
       simp [h5, hne]
 rw [hr]
 generalize Jbc c l true = G at *
 simp
 refine Jag.intro (by kernel_rfl) ?_
 simp
 refine Jab hg ?_
 simp
 refine Jab hix ?_
 simp
 refine ⟨.of (by kernel_rfl), ?_⟩
 simp [Jaa]
theorem J0t (c : Circuit) (l : List Port) (p : Port) (hk : Jb5 c) (hl : l.length < 100000) (hp : p ∈ allP c) (ha : ∀ q ∈ l, q ∈ allP c) : Pure Tryz.prog GL 216 [c.av, .p (.lst 2 (l.map Port.enc)), p.av] (.p (.bool (Jdw c 5 l p))) := by
 refine Pure.of_walk (N := 17) Tryz.func216 rfl rfl rfl (by simp) (by first | (simp; done) | simp [*]) ?_
 have hg := J0n c l hk hl ha
 have hr : Jdw c 5 l p = (Jci c p && decide ((Jbc c l false).length = 0)) := rfl
 rw [hr]
 generalize Jbc c l false = G at *
 simp
 refine Jab (Jsm c p hk hp) ?_
 cases h : Jci c p with
 | true =>
   simp
   refine Jab hg ?_
   simp [Jaa]
 | false => simp [Jaa]
theorem J0u (c : Circuit) (l : List Port) (p : Port) (hk : Jb5 c) (hl : l.length < 100000) (hp : p ∈ allP c) : Pure Tryz.prog GL 218 [c.av, .p (.lst 2 (l.map Port.enc)), p.av] (.p (.bool (Jdw c 6 l p))) := by
 refine Pure.of_walk (N := 16) Tryz.func218 rfl rfl rfl (by simp) (by first | (simp; done) | simp [*]) ?_
 simp
 refine Jab (Jjk c p hk hp) ?_
 have hr : Jdw c 6 l p = (decide (Ja4 c p = 2) && decide (1 < l.length)) := rfl
 rw [hr]
 generalize Ja4 c p = r
 by_cases h : r = 2
 . simp [h, Jaa]
   omega
 . simp [h, Jaa]
theorem J0v (c : Circuit) (l : List Port) (p : Port) (hk : Jb5 c) (hl : l.length < 100000) (hp : p ∈ allP c) : Pure Tryz.prog GL 219 [c.av, .p (.lst 2 (l.map Port.enc)), p.av] (.p (.bool (Jdw c 7 l p))) := by
 refine Pure.of_walk (N := 27) Tryz.func219 rfl rfl rfl (by simp) (by first | (simp; done) | simp [*]) ?_
 obtain ⟨i, q, e1, e2, e3, e4, _⟩ := Jxg hk hp
 have hco := Jz3 l ⟨p.part, [49, 50]⟩ (by omega)
 have hr : Jdw c 7 l p = (decide (Jas c p.part = 2) && (decide (p.name = [49, 52]) && decide ((⟨p.part, [49, 50]⟩ : Port) ∈ l))) := rfl
 rw [hr, e4]
 obtain ⟨pi, pn⟩ := p
 simp only at e1
 subst e1
 by_cases hq : q.kind = 2
 . by_cases hn : pn = [49, 52]
   . subst hn
     simp [e2, e3, Part.enc, hq, -getElem?_pos, List.getElem?_cons_zero, List.getElem?_cons_succ]
     refine Jab hco ?_
     simp [Jaa, hq]
   . simp [e2, e3, Part.enc, hq, hn, -getElem?_pos, List.getElem?_cons_zero, List.getElem?_cons_succ]
     simp [Jaa]
 . simp [e2, e3, Part.enc, hq, -getElem?_pos, List.getElem?_cons_zero, List.getElem?_cons_succ]
   simp [Jaa]
end Go.Am
namespace Go.Am
open Go Go.Proofs Go.Pn
@[simp] theorem Ka6 : Jg4 Tryz.prog 196 = true := by kernel_rfl
def Jiu (k : Nat) : Nat := if k <= 2 then 269 else if k = 3 then 213 else if k = 4 then 215 else if k = 5 then 216 else if k = 6 then 218 else 219
def Jfc (k : Nat) : List AV := if k = 1 then [.iptr 1 [[.int .i64 3]] 0 0] else if k = 2 then [.iptr 1 [[.int .i64 4]] 0 0] else []
def Jdq (k : Nat) : List AV := [.p (.str (wordAt k)), if k = 0 then .p .nilf else .fn (.func (Jiu k)) (Jfc k)]
def Jh9 : List AV := (List.range 8).flatMap Jdq
theorem Jpe {k : Nat} (h : k < 8) : (Jh9.drop (k * 2)).take 2 = Jdq k /\ k * 2 + 2 <= Jh9.length := by
 obtain rfl | rfl | rfl | rfl | rfl | rfl | rfl | rfl : k = 0 \/ k = 1 \/ k = 2 \/ k = 3 \/ k = 4 \/ k = 5 \/ k = 6 \/ k = 7 := by omega
 all_goals exact ⟨rfl, by decide⟩
theorem J76 {k : Nat} : Jbg (Jfc k) = true := by
 unfold Jfc
 split
 . rfl
 . split <;> rfl
theorem Jqh {c : Circuit} {k : Nat} {l : List Port} {p : Port} (h : 1 <= k /\ k <= 7) (hk : Jb5 c) (hl : l.length < 100000) (hp : p ∈ allP c) (ha : ∀ q ∈ l, q ∈ allP c) (hm : p ∈ l) :
   Pure Tryz.prog GL (Jiu k) ([c.av, .p (.lst 2 (l.map Port.enc)), p.av] ++ Jfc k) (.p (.bool (Jdw c k l p))) := by
 obtain ⟨h1, h7⟩ := h
 obtain rfl | rfl | rfl | rfl | rfl | rfl | rfl : k = 1 \/ k = 2 \/ k = 3 \/ k = 4 \/ k = 5 \/ k = 6 \/ k = 7 := by omega
 . exact Jso c l p 3 hk hl hp
 . exact Jso c l p 4 hk hl hp
 . exact J0r c l p hk hl hp ha
 . exact J0s c l p hk hl hp ha hm
 . exact J0t c l p hk hl hp ha
 . exact J0u c l p hk hl hp
 . exact J0v c l p hk hl hp
@[simp] theorem Kc0 {s : Store} {k i j : Nat} {rows : List (List PV)} : toV s (.iptr k rows i j) (.iptr k rows i j) = True := eq_true (Jyg _ rfl)
set_option maxRecDepth 20000 in
theorem Jod (_ : Unit) : Pure Tryz.prog GL 129 [] (.agg Jh9) := by
 refine Pure.of_walk (N := 12) Tryz.func129 rfl rfl rfl (by simp) (by first | (simp; done) | simp [*]) ?_
 have h1 := Jsn 3
 have h2 := Jsn 4
 simp
 refine Jab h1 ?_
 simp
 refine Jab h2 ?_
 simp [Jaa, Jh9, Jdq, Jiu, Jfc, wordAt, Jyt, List.range, List.range.loop]
theorem Jgu {c : Circuit} {p : Port} : around c p = (allP c).filter fun q => decide (rt c q = rt c p) := by
 unfold around
 apply List.filter_congr
 intro q _
 rw [decide_eq_decide, Jtd, <- rt_iff]
 exact eq_comm
theorem J5b {c : Circuit} (h : Jad c = 0) {g : List Port} (hg : g ∈ nets c) {p : Port} (hp : p ∈ g) : g = around c p := by
 rw [Jme h] at hg
 obtain ⟨r, _, rfl⟩ := List.mem_map.1 hg
 have : rt c p = r := by simpa using (List.mem_filter.1 hp).2
 rw [Jgu, this]
def Jgh (c : Circuit) (n : Nat) : List Port := (nets c)[n]?.getD []
def Jdf (c : Circuit) (es : List (Port × Nat)) : List (AV × AV) := es.map fun e => (e.1.av, .p (.lst 2 ((Jgh c e.2).map Port.enc)))
def Jgk (c : Circuit) : List AV := (pairs c).map fun e => e.1.av
def Jio (c : Circuit) : List AV := (pairs c).map fun e => .p (.lst 2 ((Jgh c e.2).map Port.enc))
def Jgj (c : Circuit) : AV := .agg [.p (.lst 3 (c.parts.map Part.enc)), .p (.lst 4 (c.pipes.map Pipe.enc)), .p (.lst 2 ((allP c).map Port.enc)), .pmap (Jgk c) (Jio c)]
theorem Jpy {c : Circuit} : (Jgk c).zip (Jio c) = Jdf c (pairs c) := by
 unfold Jgk Jio Jdf
 rw [List.zip_map']
theorem Jpm {c : Circuit} {ρ : List Nat} {es : List (Port × Nat)} : renE ρ (Jdf c es) = some (Jdf c es) := by
 unfold Jdf
 induction es with
 | nil => rfl
 | cons e es ih => simp only [List.map_cons, renE, ih]; rfl
theorem Jzq {c : Circuit} {es : List (Port × Nat)} {p : Port} : Jal (Jdf c es) p.av = (Jec es p).map fun (n : Nat) => AV.p (.lst 2 ((Jgh c n).map Port.enc)) := by
 induction es with
 | nil => simp [Jdf, Jal, Jec]
 | cons e es ih =>
   obtain ⟨a, b⟩ := e
   simp only [Jdf, List.map_cons, Jec] at ih ⊢
   by_cases h : a = p
   . subst h
     simp [Jal]
   . have hne : a.av ≠ p.av := fun h2 => h (Jhb h2)
     rw [if_neg h, <- ih]
     unfold Jal
     rw [List.find?_cons_of_neg (by simpa using hne)]
theorem J8g {c : Circuit} {es : List (Port × Nat)} {p : Port} {n : Nat} (h : Jec es p = none) : setA (Jdf c es) (.agg [.p (.int .i64 p.part), .p (.str p.name)]) (.p (.lst 2 ((Jgh c n).map Port.enc))) = Jdf c (es ++ [(p, n)]) := by
 rw [Jm5]
 . simp [Jdf]
 . intro e he
   obtain ⟨q, hq, rfl⟩ := List.mem_map.1 he
   intro h2
   have : q.1 = p := Jhb h2
   exact Jo1 (n := q.2) (by rw [<- this]; exact hq) h
@[simp] theorem J4n {c : Circuit} {es : List (Port × Nat)} {i : Int} {s : Txt} : Jb9 Tryz.prog 55 (Jdf c es) (.agg [.p (.int .i64 i), .p (.str s)]) = True := eq_true (Jur (f := Prod.fst) (p := ⟨i, s⟩))
@[simp] theorem Kbc {c : Circuit} {i : Int} {s : Txt} : Jb9 Tryz.prog 55 ((Jgk c).zip (Jio c)) (.agg [.p (.int .i64 i), .p (.str s)]) = True := by rw [Jpy, J4n]
@[simp] theorem Ki7 : Jdz Tryz.prog 68 = some false := by kernel_rfl
theorem Jjv {c : Circuit} (h : Jad c = 0) {i : Int} {s : Txt} (hp : (⟨i, s⟩ : Port) ∈ allP c) : Jal ((Jgk c).zip (Jio c)) (.agg [.p (.int .i64 i), .p (.str s)]) = some (.p (.lst 2 ((around c ⟨i, s⟩).map Port.enc))) := by
 rw [Jpy]
 have := Jzq (c := c) (es := pairs c) (p := ⟨i, s⟩)
 rw [J3d h hp] at this
 have hn : Jgh c (netN c i s) = around c ⟨i, s⟩ := by
   obtain ⟨g, e, hg⟩ := Jvi h hp
   unfold Jgh
   rw [e]
   exact J5b h (List.mem_of_getElem? e) hg
 simp only [Option.map_some] at this
 rw [hn] at this
 exact this
theorem Jv7 {c : Circuit} (h : Jad c = 0) : ∀ k, ((Jds c k).map Prod.fst).Nodup
 | 0 => by simp [Jds]
 | k + 1 => by
   simp only [Jds, List.map_append, List.nodup_append]
   refine ⟨Jv7 h k, ?_, ?_⟩
   . split
     . rename_i g e
       rw [List.map_map]
       have : (g.map (Prod.fst ∘ fun x => (x, k))) = g := by
         have e2 : (Prod.fst ∘ fun x : Port => (x, k)) = id := rfl
         rw [e2, List.map_id]
       rw [this]
       exact Jvl h (List.mem_of_getElem? e)
     . simp
   . intro a ha b hb hab
     subst hab
     obtain ⟨⟨a', n⟩, hm, rfl⟩ := List.mem_map.1 ha
     obtain ⟨hn, g, eg, hg⟩ := Jj4.1 hm
     split at hb
     . rename_i g' e'
       rw [List.map_map] at hb
       obtain ⟨b', hb', e2⟩ := List.mem_map.1 hb
       simp only [Function.comp] at e2
       subst e2
       have h1 := (Jj0 h eg hg).1
       have h2 := (Jj0 h e' hb').1
       omega
     . cases hb
theorem J7i {c : Circuit} (h : Jad c = 0) : (Jgk c).Nodup := by
 have := Jv7 h (nets c).length
 unfold Jgk
 have e : (pairs c).map (fun e => e.1.av) = ((pairs c).map Prod.fst).map Port.av := by rw [List.map_map]; rfl
 rw [e]
 exact List.Pairwise.map _ (fun a b hab hh => hab (Jhb hh)) this
theorem J7j {c : Circuit} : Jiq (Jdf c (pairs c)) = true := by
 rw [Jp4]
 intro e he
 obtain ⟨q, _, rfl⟩ := List.mem_map.1 he
 exact ⟨rfl, rfl⟩
def Jha (c : Circuit) : AV := if Jad c = 0 then Jgj c else .agg [.p (.lst 3 []), .p (.lst 4 []), .p (.lst 2 []), .nilm]
set_option maxRecDepth 20000 in
theorem Jsp (c : Circuit) (hs : Sized c) : Pure Tryz.prog GL 126 [c.av] (.tup [Jha c, .p (.int .i64 (Jad c))]) := by
 refine Pure.of_walk (N := 52) Tryz.func126 rfl rfl rfl (by simp) (by first | (simp; done) | simp [*]) ?_
 have hPo := J0c c hs
 have hNe := J0b c hs
 simp
 by_cases h : Jad c = 0
 . have h2 := Jc7 h
   have hal := Jk4 h2.1 (by omega)
   have hnl := Jvj h
   rw [if_neg (by simpa using h), h] at hPo hNe
   have hR : Jha c = Jgj c := if_pos h
   rw [hR, h]
   refine Jab hPo ?_
   simp
   refine Jab hNe ?_
   simp
   refine Jaj.go [1, 2, 4, 7, 31, 32] [0, 1] 0 [] (fun _ => []) (fun _ (k : Nat) => [(33, .p (.int .i64 k))]) (fun _ k => [(2, some (.map (Jdf c (Jds c k))))]) (fun k => k <= (nets c).length) (fun k => (nets c).length - k) 0 (by omega) ?_ ?_
   . simp [Jds, Jdf]
     try decide
   . intro k hk
     simp
     refine Jac (fun h3 => ?_) (fun h3 => ?_)
     . simp at h3
       obtain ⟨g, eg⟩ := Jah h3
       have hgl := hnl.2 g (List.mem_of_getElem? eg)
       have hall := J60 eg
       have hgn : Jgh c k = g := by unfold Jgh; rw [eg]; rfl
       simp [h3, eg, Ports.enc, -getElem?_pos, List.getElem?_cons_zero, List.getElem?_cons_succ]
       refine Jaj.go [1, 2, 4, 7, 9, 31, 32, 33, 37, 38] [0, 1] 0 [] (fun _ => []) (fun _ (j : Nat) => [(39, .p (.int .i64 j))]) (fun _ j => [(2, some (.map (Jdf c (Jev c k g j))))]) (fun j => j <= g.length) (fun j => g.length - j) 0 (by omega) ?_ ?_
       . simp [J62, Jpm]
         try decide
       . intro j hj
         simp
         refine Jac (fun h4 => ?_) (fun h4 => ?_)
         . simp at h4
           obtain ⟨p, ep⟩ := Jah h4
           have hfr := J63 h eg ep
           have hsn := J61 (c := c) (k := k) ep
           have hset := J8g (c := c) (n := k) hfr
           rw [hgn] at hset
           simp [h4, ep, -getElem?_pos, List.getElem?_cons_zero, List.getElem?_cons_succ]
           refine ⟨wrap_i64 (by omega) (by omega), j + 1, by omega, by omega, ?_⟩
           simp [hset, hsn, Jpm]
           try decide
         . simp at h4
           have hjl : j = g.length := by omega
           subst hjl
           simp
           refine ⟨wrap_i64 (by omega) (by omega), k + 1, by omega, by omega, ?_⟩
           simp [hall, Jpm]
           try decide
     . simp at h3
       have hkl : k = (nets c).length := by omega
       subst hkl
       have hpe : Jds c (nets c).length = pairs c := rfl
       rw [hpe]
       simp [Jaa, Jgj]
       exact ⟨J7j, by simp [Jgk, Jio], J7i h, by rw [Jpy]⟩
 . rw [if_pos h] at hPo
   have hR : Jha c = .agg [.p (.lst 3 []), .p (.lst 4 []), .p (.lst 2 []), .nilm] := if_neg h
   rw [hR]
   refine Jab hPo ?_
   simp [h]
   simp [Jaa]
end Go.Am
namespace Go.Am
open Go Go.Proofs Go.Pn
def allG (c : Circuit) : Nat -> List Fnd
 | 0 => Jdo c
 | k + 1 => if k = 0 then Jdo c else allG c k ++ Jbi c k (allP c)
theorem Jjh {c : Circuit} : ∀ k, allG c (k + 1) = allF c k
 | 0 => rfl
 | k + 1 => by
   rw [allG, if_neg (by omega), Jjh k, allF]
theorem Jn0 {c : Circuit} {k : Nat} : (allG c k).length <= 1 + k * (allP c).length := by
 cases k with
 | zero => unfold allG Jdo; split <;> simp
 | succ k =>
   rw [Jjh]
   have := @Jru c k
   have : k * (allP c).length <= (k + 1) * (allP c).length := Nat.mul_le_mul_right _ (by omega)
   omega
theorem Jz2 (xs : List Part) (q : Part -> Bool) (m : Nat) (cap : List AV) (hcap : Jbg cap = true) (hl : xs.length < 4611686018427387904) (hq : ∀ x ∈ xs, Pure Tryz.prog GL m ((Part.av x) :: cap) (.p (.bool (q x)))) : Pure Tryz.prog GL 127 [.p (.lst 3 (xs.map Part.enc)), .fn (.func m) cap] (.p (.bool (xs.any q))) := by
 refine Pure.of_walk (N := 9) Tryz.func127 rfl rfl rfl (by simp) (by first | (simp; done) | simp [*]) ?_
 simp
 refine Jab (Jsf xs q m cap hcap hl hq) ?_
 simp [Jaa]
 rw [Bool.eq_iff_iff]
 simp [Jjr]
theorem J0q (q : Part) : Pure Tryz.prog GL 128 [q.av] (.p (.bool (decide (q.kind = 0)))) := by
 refine Pure.of_walk (N := 6) Tryz.func128 rfl rfl rfl (by simp) (by first | (simp; done) | simp [*]) ?_
 simp [Jaa]
@[simp] theorem Kbe {ρ : List Nat} : renL ρ Jh9 = some Jh9 := Jfv.2 _ (by decide)
@[simp] theorem Kcl {ρ : List Nat} {k : Nat} : renL ρ (Jfc k) = some (Jfc k) := Jfv.2 _ J76
set_option maxRecDepth 20000 in
theorem J0p (c : Circuit) (hs : Sized c) : Pure Tryz.prog GL 55 [c.av] (.tup [.p (.lst 3 ((if Jad c = 0 then Jf8 c else []).map Fnd.enc)), .p (.int .i64 (Jad c))]) := by
 refine Pure.of_walk (N := 68) Tryz.func55 rfl rfl rfl (by simp) (by first | (simp; done) | simp [*]) ?_
 have hPl := Jsp c hs
 simp
 refine Jab hPl ?_
 by_cases h : Jad c = 0
 . have h2 := Jc7 h
   have hR : Jha c = Jgj c := if_pos h
   have hal := Jk4 h2.1 (by omega)
   have hch := h
   have hkk := h2.1
   have hhead : Jdo c = if supB c then [] else [⟨0, ⟨0, []⟩⟩] := rfl
   have hcf := Jz2 c.parts (fun q => decide (q.kind = 0)) 128 [] rfl (by omega) (fun q _ => J0q q)
   rw [hR, h, if_pos rfl]
   by_cases hn0 : c.parts.length = 0
   . have hsup : supB c = true := by unfold supB; simp [hn0]
     rw [hsup, if_pos rfl] at hhead
     simp [Jgj, hn0]
     refine Jab (Jod ()) ?_
     simp
     refine Jaj.go [1, 4, 33] [0, 1] 1 [2] (nms [6]) (fun nx (k : Nat) => [(6, .acc nx 3 (allG c k).length), (34, .p (.int .i64 k))]) (fun nx k => [(nx, accB 3 ((allG c k).map Fnd.row))]) (fun k => k <= 8) (fun k => 8 - k) 0 (by omega) ?_ ?_
     . simp [allG, hhead]
       try decide
     . intro k hk8
       have hlen := @Jn0 c k
       have hb8 : k * (allP c).length <= 8 * 1200 := Nat.mul_le_mul hk8 hal
       have hend : k = 8 -> allG c k = Jf8 c := fun e => by rw [e, Jjh]; rfl
       have hsucc : allG c (k + 1) = if k = 0 then Jdo c else allG c k ++ Jbi c k (allP c) := rfl
       have hz : k = 0 -> allG c k = Jdo c := fun e => by rw [e]; rfl
       generalize allG c k = A at hlen hsucc hend hz
       simp
       refine Jac (fun h => ?_) (fun h => ?_)
       . simp at h
         obtain ⟨hki, hkl⟩ := Jpe (k := k) (by omega)
         by_cases hk0 : k = 0
         . have hkc : Jdq k = [.p (.str (wordAt k)), .p .nilf] := by unfold Jdq; rw [if_pos hk0]
           have hs2 : allG c (k + 1) = A := by rw [hsucc, if_pos hk0, hz hk0]
           rw [hkc] at hki
           simp [hki]
           refine ⟨by omega, by omega, ?_⟩
           refine Jaj.gor [1, 4, 7, 8, 33, 34, 39, 40] [0, 1, 3] [0, 1, 2, 3] (fun st => [0, 1, nameOf (slot st.t 6), 3]) (fun (i : Nat) => [(6, .acc 2 3 A.length), (41, .p (.int .i64 i))]) (fun i => [(2, accB 3 (A.map Fnd.row))]) (fun i => i <= (allP c).length) (fun i => (allP c).length - i) 0 (by omega) ?_ ?_
           . simp
             try decide
           . intro i hi
             simp
             refine Jac (fun h2 => ?_) (fun h2 => ?_)
             . simp at h2
               obtain ⟨p, ep⟩ := Jah h2
               simp [h2, ep, -getElem?_pos, List.getElem?_cons_zero, List.getElem?_cons_succ]
               refine Jag.intro (by kernel_rfl) ?_
               simp
               refine ⟨.of (by kernel_rfl), ?_⟩
               refine ⟨wrap_i64 (by omega) (by omega), i + 1, by omega, by omega, ?_⟩
               simp
               try decide
             . simp
               refine ⟨wrap_i64 (by omega) (by omega), k + 1, by omega, by omega, ?_⟩
               simp [hs2]
               try decide
         . have hkc : Jdq k = [.p (.str (wordAt k)), .fn (.func (Jiu k)) (Jfc k)] := by unfold Jdq; rw [if_neg hk0]
           have hs2 : allG c (k + 1) = A ++ Jbi c k (allP c) := by rw [hsucc, if_neg hk0]
           have hlen2 : A.length <= 9601 := by omega
           rw [hkc] at hki
           simp [hki]
           refine ⟨by omega, by omega, ?_⟩
           refine Jaj.gor [1, 4, 7, 8, 33, 34, 39, 40] [0, 1, 3] [0, 1, 2, 3] (fun st => [0, 1, nameOf (slot st.t 6), 3]) (fun (i : Nat) => [(6, .acc 2 3 (A ++ Jbi c k ((allP c).take i)).length), (41, .p (.int .i64 i))]) (fun i => [(2, accB 3 ((A ++ Jbi c k ((allP c).take i)).map Fnd.row))]) (fun i => i <= (allP c).length) (fun i => (allP c).length - i) 0 (by omega) ?_ ?_
           . simp [Jo2]
             try decide
           . intro i hi
             have hl2 := @Jlp c k ((allP c).take i)
             have hl3 := List.length_take_le i (allP c)
             have hsn := @Jo3 c k (allP c) i
             have hfin : i = (allP c).length -> Jbi c k ((allP c).take i) = Jbi c k (allP c) := fun e => by rw [e, List.take_length]
             generalize Jbi c k ((allP c).take i) = T at hl2 hsn hfin
             simp
             refine Jac (fun h2 => ?_) (fun h2 => ?_)
             . simp at h2
               obtain ⟨p, ep⟩ := Jah h2
               have hp := List.mem_of_getElem? ep
               have hsn2 := hsn ep
               have har := @Jhv c p
               have hrule := Jqh (c := c) (k := k) (l := around c p) (p := p) (by omega) hkk (by omega) hp (fun q hq => (List.mem_filter.1 hq).1) (Jn2 hp)
               have hlk := Jjv hch (i := p.part) (s := p.name) hp
               have hfb : Jcw c k p = Jdw c k (around c p) p := rfl
               rw [<- hfb] at hrule
               simp [h2, ep, -getElem?_pos, List.getElem?_cons_zero, List.getElem?_cons_succ]
               refine Jag.intro (by kernel_rfl) ?_
               simp [hlk, hit]
               refine Jab hrule ?_
               simp
               refine ⟨.of (by kernel_rfl), ?_⟩
               cases hb : Jcw c k p with
               | true =>
                 rw [hb, if_pos rfl] at hsn2
                 simp [h2, ep, -getElem?_pos, List.getElem?_cons_zero, List.getElem?_cons_succ]
                 refine ⟨by omega, wrap_i64 (by omega) (by omega), i + 1, by omega, by omega, ?_⟩
                 simp [hsn2]
                 try (first | omega | decide | (refine ⟨by omega, ?_⟩; decide))
               | false =>
                 rw [hb, if_neg (by simp)] at hsn2
                 simp
                 refine ⟨wrap_i64 (by omega) (by omega), i + 1, by omega, by omega, ?_⟩
                 simp [hsn2]
                 try decide
             . simp at h2
               have hT := hfin (by omega)
               subst hT
               simp
               refine ⟨wrap_i64 (by omega) (by omega), k + 1, by omega, by omega, ?_⟩
               simp [hs2]
               try decide
       . simp at h
         have hA := hend (by omega)
         subst hA
         simp [Jaa]
   . have hpos : 0 < c.parts.length := by omega
     simp [Jgj, hpos]
     refine Jab hcf ?_
     have hsup : supB c = c.parts.any fun q => decide (q.kind = 0) := by unfold supB; simp [hn0]
     rw [<- hsup]
     cases hsu : supB c with
     | true =>
       rw [hsu, if_pos rfl] at hhead
       simp
       refine Jab (Jod ()) ?_
       simp
       refine Jaj.go [1, 4, 33] [0, 1] 1 [2] (nms [6]) (fun nx (k : Nat) => [(6, .acc nx 3 (allG c k).length), (34, .p (.int .i64 k))]) (fun nx k => [(nx, accB 3 ((allG c k).map Fnd.row))]) (fun k => k <= 8) (fun k => 8 - k) 0 (by omega) ?_ ?_
       . simp [allG, hhead]
         try decide
       . intro k hk8
         have hlen := @Jn0 c k
         have hb8 : k * (allP c).length <= 8 * 1200 := Nat.mul_le_mul hk8 hal
         have hend : k = 8 -> allG c k = Jf8 c := fun e => by rw [e, Jjh]; rfl
         have hsucc : allG c (k + 1) = if k = 0 then Jdo c else allG c k ++ Jbi c k (allP c) := rfl
         have hz : k = 0 -> allG c k = Jdo c := fun e => by rw [e]; rfl
         generalize allG c k = A at hlen hsucc hend hz
         simp
         refine Jac (fun h => ?_) (fun h => ?_)
         . simp at h
           obtain ⟨hki, hkl⟩ := Jpe (k := k) (by omega)
           by_cases hk0 : k = 0
           . have hkc : Jdq k = [.p (.str (wordAt k)), .p .nilf] := by unfold Jdq; rw [if_pos hk0]
             have hs2 : allG c (k + 1) = A := by rw [hsucc, if_pos hk0, hz hk0]
             rw [hkc] at hki
             simp [hki]
             refine ⟨by omega, by omega, ?_⟩
             refine Jaj.gor [1, 4, 7, 8, 33, 34, 39, 40] [0, 1, 3] [0, 1, 2, 3] (fun st => [0, 1, nameOf (slot st.t 6), 3]) (fun (i : Nat) => [(6, .acc 2 3 A.length), (41, .p (.int .i64 i))]) (fun i => [(2, accB 3 (A.map Fnd.row))]) (fun i => i <= (allP c).length) (fun i => (allP c).length - i) 0 (by omega) ?_ ?_
             . simp
               try decide
             . intro i hi
               simp
               refine Jac (fun h2 => ?_) (fun h2 => ?_)
               . simp at h2
                 obtain ⟨p, ep⟩ := Jah h2
                 simp [h2, ep, -getElem?_pos, List.getElem?_cons_zero, List.getElem?_cons_succ]
                 refine Jag.intro (by kernel_rfl) ?_
                 simp
                 refine ⟨.of (by kernel_rfl), ?_⟩
                 refine ⟨wrap_i64 (by omega) (by omega), i + 1, by omega, by omega, ?_⟩
                 simp
                 try decide
               . simp
                 refine ⟨wrap_i64 (by omega) (by omega), k + 1, by omega, by omega, ?_⟩
                 simp [hs2]
                 try decide
           . have hkc : Jdq k = [.p (.str (wordAt k)), .fn (.func (Jiu k)) (Jfc k)] := by unfold Jdq; rw [if_neg hk0]
             have hs2 : allG c (k + 1) = A ++ Jbi c k (allP c) := by rw [hsucc, if_neg hk0]
             have hlen2 : A.length <= 9601 := by omega
             rw [hkc] at hki
             simp [hki]
             refine ⟨by omega, by omega, ?_⟩
             refine Jaj.gor [1, 4, 7, 8, 33, 34, 39, 40] [0, 1, 3] [0, 1, 2, 3] (fun st => [0, 1, nameOf (slot st.t 6), 3]) (fun (i : Nat) => [(6, .acc 2 3 (A ++ Jbi c k ((allP c).take i)).length), (41, .p (.int .i64 i))]) (fun i => [(2, accB 3 ((A ++ Jbi c k ((allP c).take i)).map Fnd.row))]) (fun i => i <= (allP c).length) (fun i => (allP c).length - i) 0 (by omega) ?_ ?_
             . simp [Jo2]
               try decide
             . intro i hi
               have hl2 := @Jlp c k ((allP c).take i)
               have hl3 := List.length_take_le i (allP c)
               have hsn := @Jo3 c k (allP c) i
               have hfin : i = (allP c).length -> Jbi c k ((allP c).take i) = Jbi c k (allP c) := fun e => by rw [e, List.take_length]
               generalize Jbi c k ((allP c).take i) = T at hl2 hsn hfin
               simp
               refine Jac (fun h2 => ?_) (fun h2 => ?_)
               . simp at h2
                 obtain ⟨p, ep⟩ := Jah h2
                 have hp := List.mem_of_getElem? ep
                 have hsn2 := hsn ep
                 have har := @Jhv c p
                 have hrule := Jqh (c := c) (k := k) (l := around c p) (p := p) (by omega) hkk (by omega) hp (fun q hq => (List.mem_filter.1 hq).1) (Jn2 hp)
                 have hlk := Jjv hch (i := p.part) (s := p.name) hp
                 have hfb : Jcw c k p = Jdw c k (around c p) p := rfl
                 rw [<- hfb] at hrule
                 simp [h2, ep, -getElem?_pos, List.getElem?_cons_zero, List.getElem?_cons_succ]
                 refine Jag.intro (by kernel_rfl) ?_
                 simp [hlk, hit]
                 refine Jab hrule ?_
                 simp
                 refine ⟨.of (by kernel_rfl), ?_⟩
                 cases hb : Jcw c k p with
                 | true =>
                   rw [hb, if_pos rfl] at hsn2
                   simp [h2, ep, -getElem?_pos, List.getElem?_cons_zero, List.getElem?_cons_succ]
                   refine ⟨by omega, wrap_i64 (by omega) (by omega), i + 1, by omega, by omega, ?_⟩
                   simp [hsn2]
                   try (first | omega | decide | (refine ⟨by omega, ?_⟩; decide))
                 | false =>
                   rw [hb, if_neg (by simp)] at hsn2
                   simp
                   refine ⟨wrap_i64 (by omega) (by omega), i + 1, by omega, by omega, ?_⟩
                   simp [hsn2]
                   try decide
               . simp at h2
                 have hT := hfin (by omega)
                 subst hT
                 simp
                 refine ⟨wrap_i64 (by omega) (by omega), k + 1, by omega, by omega, ?_⟩
                 simp [hs2]
                 try decide
         . simp at h
           have hA := hend (by omega)
           subst hA
           simp [Jaa]
     | false =>
       rw [hsu, if_neg (by simp)] at hhead
       simp
       refine Jab (Jod ()) ?_
       simp
       refine Jaj.gor [1, 4, 33] [0, 1] [0, 1, 3] (fun st => [0, 1, nameOf (slot st.t 6)]) (fun (k : Nat) => [(6, .acc 2 3 (allG c k).length), (34, .p (.int .i64 k))]) (fun k => [(2, accB 3 ((allG c k).map Fnd.row))]) (fun k => k <= 8) (fun k => 8 - k) 0 (by omega) ?_ ?_
       . simp [allG, hhead]
         try decide
       . intro k hk8
         have hlen := @Jn0 c k
         have hb8 : k * (allP c).length <= 8 * 1200 := Nat.mul_le_mul hk8 hal
         have hend : k = 8 -> allG c k = Jf8 c := fun e => by rw [e, Jjh]; rfl
         have hsucc : allG c (k + 1) = if k = 0 then Jdo c else allG c k ++ Jbi c k (allP c) := rfl
         have hz : k = 0 -> allG c k = Jdo c := fun e => by rw [e]; rfl
         generalize allG c k = A at hlen hsucc hend hz
         simp
         refine Jac (fun h => ?_) (fun h => ?_)
         . simp at h
           obtain ⟨hki, hkl⟩ := Jpe (k := k) (by omega)
           by_cases hk0 : k = 0
           . have hkc : Jdq k = [.p (.str (wordAt k)), .p .nilf] := by unfold Jdq; rw [if_pos hk0]
             have hs2 : allG c (k + 1) = A := by rw [hsucc, if_pos hk0, hz hk0]
             rw [hkc] at hki
             simp [hki]
             refine ⟨by omega, by omega, ?_⟩
             refine Jaj.gor [1, 4, 7, 8, 33, 34, 39, 40] [0, 1, 4] [0, 1, 2, 3, 4] (fun st => [0, 1, nameOf (slot st.t 6), 3, 4]) (fun (i : Nat) => [(6, .acc 2 3 A.length), (41, .p (.int .i64 i))]) (fun i => [(2, accB 3 (A.map Fnd.row))]) (fun i => i <= (allP c).length) (fun i => (allP c).length - i) 0 (by omega) ?_ ?_
             . simp
               try decide
             . intro i hi
               simp
               refine Jac (fun h2 => ?_) (fun h2 => ?_)
               . simp at h2
                 obtain ⟨p, ep⟩ := Jah h2
                 simp [h2, ep, -getElem?_pos, List.getElem?_cons_zero, List.getElem?_cons_succ]
                 refine Jag.intro (by kernel_rfl) ?_
                 simp
                 refine ⟨.of (by kernel_rfl), ?_⟩
                 refine ⟨wrap_i64 (by omega) (by omega), i + 1, by omega, by omega, ?_⟩
                 simp
                 try decide
               . simp
                 refine ⟨wrap_i64 (by omega) (by omega), k + 1, by omega, by omega, ?_⟩
                 simp [hs2]
                 try decide
           . have hkc : Jdq k = [.p (.str (wordAt k)), .fn (.func (Jiu k)) (Jfc k)] := by unfold Jdq; rw [if_neg hk0]
             have hs2 : allG c (k + 1) = A ++ Jbi c k (allP c) := by rw [hsucc, if_neg hk0]
             have hlen2 : A.length <= 9601 := by omega
             rw [hkc] at hki
             simp [hki]
             refine ⟨by omega, by omega, ?_⟩
             refine Jaj.gor [1, 4, 7, 8, 33, 34, 39, 40] [0, 1, 4] [0, 1, 2, 3, 4] (fun st => [0, 1, nameOf (slot st.t 6), 3, 4]) (fun (i : Nat) => [(6, .acc 2 3 (A ++ Jbi c k ((allP c).take i)).length), (41, .p (.int .i64 i))]) (fun i => [(2, accB 3 ((A ++ Jbi c k ((allP c).take i)).map Fnd.row))]) (fun i => i <= (allP c).length) (fun i => (allP c).length - i) 0 (by omega) ?_ ?_
             . simp [Jo2]
               try decide
             . intro i hi
               have hl2 := @Jlp c k ((allP c).take i)
               have hl3 := List.length_take_le i (allP c)
               have hsn := @Jo3 c k (allP c) i
               have hfin : i = (allP c).length -> Jbi c k ((allP c).take i) = Jbi c k (allP c) := fun e => by rw [e, List.take_length]
               generalize Jbi c k ((allP c).take i) = T at hl2 hsn hfin
               simp
               refine Jac (fun h2 => ?_) (fun h2 => ?_)
               . simp at h2
                 obtain ⟨p, ep⟩ := Jah h2
                 have hp := List.mem_of_getElem? ep
                 have hsn2 := hsn ep
                 have har := @Jhv c p
                 have hrule := Jqh (c := c) (k := k) (l := around c p) (p := p) (by omega) hkk (by omega) hp (fun q hq => (List.mem_filter.1 hq).1) (Jn2 hp)
                 have hlk := Jjv hch (i := p.part) (s := p.name) hp
                 have hfb : Jcw c k p = Jdw c k (around c p) p := rfl
                 rw [<- hfb] at hrule
                 simp [h2, ep, -getElem?_pos, List.getElem?_cons_zero, List.getElem?_cons_succ]
                 refine Jag.intro (by kernel_rfl) ?_
                 simp [hlk, hit]
                 refine Jab hrule ?_
                 simp
                 refine ⟨.of (by kernel_rfl), ?_⟩
                 cases hb : Jcw c k p with
                 | true =>
                   rw [hb, if_pos rfl] at hsn2
                   simp [h2, ep, -getElem?_pos, List.getElem?_cons_zero, List.getElem?_cons_succ]
                   refine ⟨by omega, wrap_i64 (by omega) (by omega), i + 1, by omega, by omega, ?_⟩
                   simp [hsn2]
                   try (first | omega | decide | (refine ⟨by omega, ?_⟩; decide))
                 | false =>
                   rw [hb, if_neg (by simp)] at hsn2
                   simp
                   refine ⟨wrap_i64 (by omega) (by omega), i + 1, by omega, by omega, ?_⟩
                   simp [hsn2]
                   try decide
               . simp at h2
                 have hT := hfin (by omega)
                 subst hT
                 simp
                 refine ⟨wrap_i64 (by omega) (by omega), k + 1, by omega, by omega, ?_⟩
                 simp [hs2]
                 try decide
         . simp at h
           have hA := hend (by omega)
           subst hA
           simp [Jaa]
 . have hR : Jha c = .agg [.p (.lst 3 []), .p (.lst 4 []), .p (.lst 2 []), .nilm] := if_neg h
   rw [hR]
   simp [h]
   simp [Jaa]
end Go.Am
namespace Go.Am
open Go Go.Proofs Go.Pn
end Go.Am
namespace Go.Am
open Go Go.Proofs Go.Pn
def Je6 (c : Circuit) (i : Int) (s : Txt) : List Port := Jbc c (around c ⟨i, s⟩) true
def Jdd (c : Circuit) (i : Int) : Option (Int × Bool) := match Je6 c i [50], Je6 c i [52] with
 | [a], [b] => if a.part ≠ b.part \/ a.name = b.name then none else if Jas c a.part = 2 \/ Jas c a.part = 3 then some (a.part, decide (b.name = [52])) else none
 | _, _ => none
def Jd4 (c : Circuit) (s : Txt) : Int := idxI c.parts fun p => decide (p.name = s)
def Jbm (c : Circuit) (s : Txt) : Int := if Jad c ≠ 0 then Jad c else if Jd4 c s < 0 then 6 else if Jas c (Jd4 c s) ≠ 1 then 1 else if (Jdd c (Jd4 c s)).isNone then 14 else 0
def Jbx (c : Circuit) (s : Txt) : Int × Bool := if Jbm c s ≠ 0 then (0, false) else (Jdd c (Jd4 c s)).getD (0, false)
theorem J3c {c : Circuit} {s : Txt} (h : Jad c = 0) (hs : Sized c) : Pure Tryz.prog GL 36 [c.av, .p (.str s)] (.tup [.p (.int .i64 (if Jd4 c s < 0 then 0 else Jd4 c s)), .p (.int .i64 (if Jd4 c s < 0 then 6 else 0))]) := by
 have := Jsh c s hs
 have hno : ¬ Jad c ≠ 0 := by simpa using h
 rw [if_neg hno, if_neg hno] at this
 exact this
theorem J64 {c : Circuit} {s : Txt} (h : ¬ Jd4 c s < 0) : ∃ (i : Nat) (q : Part), Jd4 c s = i /\ c.parts[i]? = some q /\ i < c.parts.length /\ q.name = s /\ Jas c i = q.kind := by
 rcases Jg3 c.parts (fun p => decide (p.name = s)) with ⟨_, h2⟩ | ⟨i, q, _, h2, h3, h4⟩
 . exact absurd (show Jd4 c s < 0 by unfold Jd4; omega) h
 . exact ⟨i, q, h2, h3, (gsI.1 h3).1, by simpa using h4, by simp [Jas, h3, -getElem?_pos]⟩
theorem J2n {c : Circuit} {i : Nat} {q : Part} (e : c.parts[i]? = some q) (hk : q.kind = 1) : (⟨i, [50]⟩ : Port) ∈ allP c /\ (⟨i, [52]⟩ : Port) ∈ allP c := by
 have h2 : ([50] : Txt) ∈ Jbb 1 := by decide +kernel
 have h4 : ([52] : Txt) ∈ Jbb 1 := by decide +kernel
 have hp : Jbj q = Jbb 1 := by unfold Jbj; rw [hk]; rfl
 refine ⟨Jd9.2 (Jdn.2 ⟨q, by simpa using e, by simp, ?_⟩), Jd9.2 (Jdn.2 ⟨q, by simpa using e, by simp, ?_⟩)⟩
 . rw [hp]; exact h2
 . rw [hp]; exact h4
set_option maxRecDepth 20000 in
theorem J0o (c : Circuit) (s : Txt) (hs : Sized c) : Pure Tryz.prog GL 60 [c.av, .p (.str s)] (.tup [.p (.int .i64 (Jbx c s).1), .p (.bool (Jbx c s).2), .p (.int .i64 (Jbm c s))]) := by
 refine Pure.of_walk (N := 107) Tryz.func60 rfl rfl rfl (by simp) (by first | (simp; done) | simp [*]) ?_
 have hPl := Jsp c hs
 simp
 refine Jab hPl ?_
 by_cases h : Jad c = 0
 . have h2 := Jc7 h
   have hal := Jk4 h2.1 (by omega)
   have hR : Jha c = Jgj c := if_pos h
   have hFi := J3c (s := s) h hs
   have hno : ¬ Jad c ≠ 0 := by simpa using h
   rw [hR, h]
   simp [Jgj]
   refine Jab hFi ?_
   by_cases hi : Jd4 c s < 0
   . have he : Jbm c s = 6 := by unfold Jbm; rw [if_neg hno, if_pos hi]
     have hr : Jbx c s = (0, false) := by unfold Jbx; rw [he, if_pos (by simp)]
     rw [he, hr]
     simp [hi, Jaa]
   . obtain ⟨i, q, e1, e2, e3, e4, e5⟩ := J64 hi
     rw [e1] at hi
     by_cases hk : q.kind = 1
     . obtain ⟨hp2, hp4⟩ := J2n e2 hk
       have hl2 := Jjv h hp2
       have hl4 := Jjv h hp4
       have ha2 := @Jhv c ⟨i, [50]⟩
       have ha4 := @Jhv c ⟨i, [52]⟩
       have hf2 := Jlb c (around c ⟨i, [50]⟩) h2.1 (by omega) (fun q hq => (List.mem_filter.1 hq).1)
       have hf4 := Jlb c (around c ⟨i, [52]⟩) h2.1 (by omega) (fun q hq => (List.mem_filter.1 hq).1)
       have hd : Jbm c s = if (Jdd c i).isNone then 14 else 0 := by unfold Jbm; rw [if_neg hno, e1, if_neg hi, e5, if_neg (by simpa using hk)]
       have hdr : Jbx c s = if Jbm c s ≠ 0 then (0, false) else (Jdd c i).getD (0, false) := by unfold Jbx; rw [e1]
       have hdo : Jdd c i = match Jbc c (around c ⟨i, [50]⟩) true, Jbc c (around c ⟨i, [52]⟩) true with
         | [a], [b] => if a.part ≠ b.part \/ a.name = b.name then none else if Jas c a.part = 2 \/ Jas c a.part = 3 then some (a.part, decide (b.name = [52])) else none
         | _, _ => none := rfl
       have hpa : ∀ a ∈ Jbc c (around c ⟨i, [50]⟩) true, Jkz c a := fun a ha => J65 a (List.mem_filter.1 ha).1
       generalize Jbc c (around c ⟨i, [50]⟩) true = L at hf2 hdo hpa
       generalize Jbc c (around c ⟨i, [52]⟩) true = M at hf4 hdo
       have hnone : Jdd c i = none -> Jbm c s = 14 /\ Jbx c s = (0, false) := fun hn => by
         have : Jbm c s = 14 := by rw [hd, hn]; rfl
         exact ⟨this, by rw [hdr, this, if_pos (by simp)]⟩
       simp [e1, hi, e2, e3, Part.enc, hk, -getElem?_pos, List.getElem?_cons_zero, List.getElem?_cons_succ]
       refine Jag.intro (by kernel_rfl) ?_
       simp [hl2, hit]
       refine Jab hf2 ?_
       simp
       refine ⟨.of (by kernel_rfl), ?_⟩
       refine Jag.intro (by kernel_rfl) ?_
       simp [hl4, hit]
       refine Jab hf4 ?_
       simp
       refine ⟨.of (by kernel_rfl), ?_⟩
       refine Jag.intro (by kernel_rfl) ?_
       by_cases hL : ∃ a, L = [a]
       . obtain ⟨a, rfl⟩ := hL
         by_cases hM : ∃ b, M = [b]
         . obtain ⟨b, rfl⟩ := hM
           obtain ⟨j, qa, k1, k2, k3, k4⟩ := Jwd (hpa a (by simp))
           simp only at hdo
           by_cases hab : a.part = b.part
           . by_cases hnm : a.name = b.name
             . obtain ⟨r1, r2⟩ := hnone (by rw [hdo, if_pos (.inr hnm)])
               rw [r1, r2]
               simp [hab, hnm]
               refine ⟨.of (by kernel_rfl), ?_⟩
               simp [Jaa]
             . simp only [hab, ne_eq, not_true_eq_false, hnm, or_self, if_false] at hdo
               rw [<- hab, k4] at hdo
               have hbk : b.part = j := by omega
               have hjb : (j : Int) = b.part := by omega
               simp [hab, hnm]
               refine ⟨.of (by kernel_rfl), ?_⟩
               refine Jag.intro (by kernel_rfl) ?_
               simp [hbk, k1, k2, k3, Part.enc, -getElem?_pos, List.getElem?_cons_zero, List.getElem?_cons_succ]
               refine ⟨.of (by kernel_rfl), ?_⟩
               by_cases h22 : qa.kind = 2
               . rw [if_pos (.inl h22)] at hdo
                 have r1 : Jbm c s = 0 := by rw [hd, hdo]; rfl
                 have r2 : Jbx c s = (a.part, decide (b.name = [52])) := by rw [hdr, r1, if_neg (by simp), hdo]; rfl
                 rw [r1, r2]
                 simp [h22]
                 refine Jag.intro (by kernel_rfl) ?_
                 simp
                 refine ⟨.of (by kernel_rfl), ?_⟩
                 simp [Jaa, k1]
               . by_cases h33 : qa.kind = 3
                 . rw [if_pos (.inr h33)] at hdo
                   have r1 : Jbm c s = 0 := by rw [hd, hdo]; rfl
                   have r2 : Jbx c s = (a.part, decide (b.name = [52])) := by rw [hdr, r1, if_neg (by simp), hdo]; rfl
                   rw [r1, r2]
                   simp [h33]
                   refine Jag.intro (by kernel_rfl) ?_
                   simp
                   refine ⟨.of (by kernel_rfl), ?_⟩
                   simp [Jaa, k1]
                 . rw [if_neg (by omega)] at hdo
                   obtain ⟨r1, r2⟩ := hnone hdo
                   rw [r1, r2]
                   simp [h22, h33, Jaa]
           . obtain ⟨r1, r2⟩ := hnone (by rw [hdo, if_pos (.inl hab)])
             rw [r1, r2]
             simp [hab]
             refine ⟨.of (by kernel_rfl), ?_⟩
             simp [Jaa]
         . have hMl : ¬ ((M.length : Int) = 1) := fun hh => by
             match M, hh, hM with
             | [b], _, hM => exact hM ⟨b, rfl⟩
             | [], hh, _ => simp at hh
             | _ :: _ :: _, hh, _ => simp at hh; omega
           obtain ⟨r1, r2⟩ := hnone (by
             rw [hdo]
             match M, hM with
             | [b], hM => exact (hM ⟨b, rfl⟩).elim
             | [], _ => rfl
             | _ :: _ :: _, _ => rfl)
           rw [r1, r2]
           simp [hMl]
           refine ⟨.of (by kernel_rfl), ?_⟩
           simp [Jaa]
       . have hLl : ¬ ((L.length : Int) = 1) := fun hh => by
           match L, hh, hL with
           | [b], _, hL => exact hL ⟨b, rfl⟩
           | [], hh, _ => simp at hh
           | _ :: _ :: _, hh, _ => simp at hh; omega
         obtain ⟨r1, r2⟩ := hnone (by
           rw [hdo]
           match L, hL with
           | [b], hL => exact (hL ⟨b, rfl⟩).elim
           | [], _ => rfl
           | _ :: _ :: _, _ => rfl)
         rw [r1, r2]
         simp [hLl]
         refine ⟨.of (by kernel_rfl), ?_⟩
         simp [Jaa]
     . have he : Jbm c s = 1 := by unfold Jbm; rw [if_neg hno, e1, if_neg hi, e5, if_pos hk]
       have hr : Jbx c s = (0, false) := by unfold Jbx; rw [he, if_pos (by simp)]
       rw [he, hr]
       simp [e1, hi, e2, e3, Part.enc, hk, -getElem?_pos, List.getElem?_cons_zero, List.getElem?_cons_succ]
       simp [Jaa]
 . have hR : Jha c = .agg [.p (.lst 3 []), .p (.lst 4 []), .p (.lst 2 []), .nilm] := if_neg h
   have he : Jbm c s = Jad c := by unfold Jbm; rw [if_pos h]
   have hr : Jbx c s = (0, false) := by unfold Jbx; rw [he, if_pos h]
   rw [hR, he, hr]
   simp [h]
   simp [Jaa]
end Go.Am
namespace Go.Am
open Go Go.Proofs Go.Pn
@[simp] theorem Ki5 : Jdz Tryz.prog 4 = some false := by kernel_rfl
end Go.Am
namespace Go.Am
open Go Go.Proofs Go.Pn
def nmQ (x : AV) : Nat := match x with
 | .ref b .. => b
 | _ => 2
@[simp] theorem Kbn {b k i n : Nat} {c : Option Nat} : nmQ (.ref b k i n c) = b := rfl
@[simp] theorem Kbm {x : PV} : nmQ (.p x) = 2 := rfl
end Go.Am
namespace Go.Am
open Go Go.Proofs Go.Pn
end Go.Am
namespace Go.Am
open Go Go.Proofs Go.Pn
end Go.Am
namespace Go.Am
open Go Go.Proofs Go.Pn
end Go.Am
namespace Go.Am
open Go Go.Proofs Go.Pn
theorem Jot {c : Circuit} {i : Int} {s : Txt} {a : Port} (h : a ∈ Je6 c i s) : a ∈ around c ⟨i, s⟩ /\ a ∈ allP c /\ Ja4 c a = 1 := by
 unfold Je6 Jbc at h
 obtain ⟨h1, h2⟩ := List.mem_filter.1 h
 exact ⟨h1, (List.mem_filter.1 h1).1, by simpa [Jiw, Jci] using h2⟩
end Go.Am
