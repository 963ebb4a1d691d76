/- Lemmas and contracts for the proof of a statement of this seat. -/
import Derived.Test.YthkjeoagelhocaaGreatDoorZCA
import Derived.Test.YthkjeoagelhocaaGreatDoorZC7
import Derived.Test.YthkjeoagelhocaaGreatDoorZA5
import Derived.Test.YthkjeoagelhocaaGreatDoorZCP
set_option linter.unusedVariables false
set_option linter.unusedSimpArgs false
namespace Go.Am
open Go Go.Proofs Go.Pn
def Jbk (c : Circuit) (p : Port) : Int := Jc0 (Jaj c p.part).toNat p.name
def Jcv (c : Circuit) (p : Port) : Bool := decide (Jbk c p = 1)
def Jh8 (c : Circuit) (p : Port) : Bool := decide (Jbk c p = 0) || (decide (Jbk c p = 3) || decide (Jbk c p = 4))
def Joo (c : Circuit) (give : Bool) (p : Port) : Bool := if give then Jcv c p else Jh8 c p
def Jbx (c : Circuit) (l : List Port) (give : Bool) : List Port := l.filter (Joo c give)
def Kgi (c : Circuit) (k : Nat) (l : List Port) (p : Port) : Bool := match k with
 | 1 => decide (Jbk c p = 3) && decide (l.length = 1)
 | 2 => decide (Jbk c p = 4) && decide (l.length = 1)
 | 3 => decide (Jbk c p = 0) && decide ((Jbx c l true).length = 0)
 | 4 => decide (Jbk c p = 1) && !decide ((Jbx c l true).head? = some p)
 | 5 => decide (Jbk c p = 1) && decide ((Jbx c l false).length = 0)
 | 6 => decide (Jbk c p = 2) && decide (1 < l.length)
 | _ => decide (Jaj c p.part = 2) && (decide (p.name = [49, 52]) && decide ((⟨p.part, [49, 50]⟩ : Port) ∈ l))
def Jm2 (c : Circuit) (k : Nat) (p : Port) : Bool := Kgi c k (around c p) p
def Jkc (c : Circuit) (p : Port) : Prop := 0 <= p.part /\ p.part.toNat < c.parts.length
theorem Jrq {c : Circuit} {p : Port} (h : Jkc c p) : ∃ (i : Nat) (q : Part), p.part = i /\ i < c.parts.length /\ c.parts[i]? = some q /\ Jaj c p.part = q.kind := by
 obtain ⟨q, e⟩ := Jae h.2
 exact ⟨p.part.toNat, q, by have := h.1; omega, h.2, e, by rw [Jaj, e]; rfl⟩
theorem J0c {c : Circuit} {p : Port} (h : p ∈ allP c) : Jkc c p := by
 obtain ⟨q, h1, h2, _⟩ := Jiy.1 (Jgb.1 h)
 exact ⟨h2, (gsI.1 h1).1⟩
theorem Jrp {c : Circuit} {p : Port} : ∀ q ∈ around c p, Jkc c q := fun _ hq => J0c (List.mem_filter.1 hq).1
end Go.Am
namespace Go.Am
open Go Go.Proofs Go.Pn
structure Fnd where
 kind : Int
 at_ : Port
 deriving DecidableEq
@[simp] def Fnd.enc (f : Fnd) : List PV := [.int .i64 f.kind, .int .i64 f.at_.part, .str f.at_.name]
@[simp] def Fnd.row (f : Fnd) : List AV := [.p (.int .i64 f.kind), .p (.int .i64 f.at_.part), .p (.str f.at_.name)]
@[simp] def Fnd.av (f : Fnd) : AV := .agg [.p (.int .i64 f.kind), .p (.int .i64 f.at_.part), .p (.str f.at_.name)]
def supB (c : Circuit) : Bool := (c.parts.any fun q => decide (q.kind = 0)) || decide (c.parts.length = 0)
def Jqo (c : Circuit) (k : Nat) (l : List Port) : List Fnd := (l.filter (Jm2 c k)).map fun p => ⟨k, p⟩
def Jks (c : Circuit) : List Fnd := if supB c then [] else [⟨0, ⟨0, []⟩⟩]
def allF (c : Circuit) : Nat -> List Fnd
 | 0 => Jks c
 | k + 1 => allF c k ++ Jqo c (k + 1) (allP c)
def Jmy (c : Circuit) : List Fnd := allF c 7
end Go.Am
namespace Go.Am
open Go Go.Proofs Go.Pn
def nameAt (c : Circuit) (i : Int) : Txt := match c.parts[i.toNat]? with | some q => q.name | none => []
def Jdi (c : Circuit) (p : Port) : Int := if Jac c ≠ 0 then Jac c else Jdl c p
def Jhb (c : Circuit) (p : Port) (give : Bool) : List Port := if Jdi c p ≠ 0 then [] else Jbx c (around c p) give
end Go.Am
namespace Go.Am
open Go Go.Proofs Go.Pn
theorem Jlc {c : Circuit} (hk : Jdf c) {p : Port} (hp : p ∈ allP c) : ∃ (i : Nat) (q : Part), p.part = i /\ i < c.parts.length /\ c.parts[i]? = some q /\ Jaj c p.part = q.kind /\ (0 <= q.kind /\ q.kind < 14) /\ p.name ∈ Jao q.kind.toNat /\ Jdp q.kind.toNat p.name = Jbk c p /\ 0 <= Jbk c p := by
 obtain ⟨i, q, e1, e2, e3, e4⟩ := Jrq (J0c hp)
 obtain ⟨q', g1, g2, g3⟩ := Jiy.1 (Jgb.1 hp)
 have e5 : p.part.toNat = i := by omega
 rw [e5, e3] at g1; cases g1
 have hq := hk q (List.mem_of_getElem? e3)
 have hv := (J2e (k := q.kind.toNat) (by omega) true).2 p.name g3
 have hr : Jbk c p = Jc0 q.kind.toNat p.name := by rw [Jbk, e4]
 have hpl := J0n (k := q.kind.toNat) (s := p.name) (by omega)
 refine ⟨i, q, e1, e2, e3, e4, hq, g3, by rw [hr, hv.2], ?_⟩
 rw [hr]
 by_cases h : Jc0 q.kind.toNat p.name < 0
 . exact absurd g3 (hpl.1 h)
 . omega
theorem Juy (c : Circuit) (p : Port) (hk : Jdf c) (hp : p ∈ allP c) : Pure Tryz.prog GL 101 [c.av, p.av] (.p (.int .i64 (Jbk c p))) := by
 refine Pure.of_walk (N := 21) Tryz.func101 rfl rfl rfl (by simp) (by first | (simp; done) | simp [*]) ?_
 obtain ⟨i, q, e1, e2, e3, e4, e5, e6, e7, e8⟩ := Jlc hk hp
 obtain ⟨pi, pn⟩ := p
 simp only at e1 e4 e6 e7
 subst e1
 have hro := Jpw q.kind pn e5
 rw [e7, if_neg (by omega), if_neg (by omega)] at hro
 generalize Jbk c ⟨(i : Int), pn⟩ = r at *
 simp
 refine Jak.intro (by kernel_rfl) ?_
 simp [e2, e3, Part.enc, -getElem?_pos, List.getElem?_cons_zero, List.getElem?_cons_succ]
 refine Jab hro ?_
 simp
 refine ⟨.of (by kernel_rfl), ?_⟩
 simp [Jaa]
theorem J4w (c : Circuit) (p : Port) (hk : Jdf c) (hp : p ∈ allP c) : Pure Tryz.prog GL 51 [c.av, p.av] (.p (.bool (Jcv c p))) := by
 refine Pure.of_walk (N := 9) Tryz.func51 rfl rfl rfl (by simp) (by first | (simp; done) | simp [*]) ?_
 simp
 refine Jab (Juy c p hk hp) ?_
 simp [Jaa, Jcv]
theorem J4y (c : Circuit) (p : Port) (hk : Jdf c) (hp : p ∈ allP c) : Pure Tryz.prog GL 140 [c.av, p.av] (.p (.bool (Jh8 c p))) := by
 refine Pure.of_walk (N := 12) Tryz.func140 rfl rfl rfl (by simp) (by first | (simp; done) | simp [*]) ?_
 simp
 refine Jab (Juy c p hk hp) ?_
 have ht : Jh8 c p = (decide (Jbk c p = 0) || (decide (Jbk c p = 3) || decide (Jbk c p = 4))) := rfl
 rw [ht]
 generalize Jbk c p = r
 simp
 by_cases h0 : r = 0
 . simp [h0, Jaa]
 . by_cases h3 : r = 3
   . simp [h0, h3, Jaa]
   . by_cases h4 : r = 4 <;> simp [h0, h3, h4, Jaa]
theorem Juw (c : Circuit) (l : List Port) (q : Port -> Bool) (m : Nat) (hl : l.length < 100000) (hq : ∀ p ∈ l, Pure Tryz.prog GL m [c.av, p.av] (.p (.bool (q p)))) : Pure Tryz.prog GL 50 [c.av, .p (.lst 2 (l.map Port.enc)), .fn (.func m) []] (.p (.lst 2 ((l.filter q).map Port.enc))) := by
 refine Pure.of_walk (N := 26) Tryz.func50 rfl rfl rfl (by simp) (by first | (simp; done) | simp [*]) ?_
 simp
 refine Jag.go [2, 3, 10, 11] [0] 1 [1] (nms [7]) (fun nx (k : Nat) => [(7, .acc nx 2 ((l.take k).filter q).length), (12, .p (.int .i64 k))]) (fun nx k => [(nx, accB 2 (((l.take k).filter q).map Port.row))]) (fun k => k <= l.length) (fun k => l.length - k) 0 (by omega) ?_ ?_
 . simp
 . intro k hk1
   have hb : ((l.take k).filter q).length <= k := by
     have h1 := List.length_filter_le q (l.take k)
     have h2 := List.length_take_le k l
     omega
   have hsn := @J8a _ q l k
   have hend : k = l.length -> (l.take k).filter q = l.filter q := fun e => by rw [e, List.take_length]
   generalize (l.take k).filter q = A at hb hsn hend
   simp
   refine Jad (fun h => ?_) (fun h => ?_)
   . simp at h
     obtain ⟨x, e⟩ := Jae h
     have hx := hq x (List.mem_of_getElem? e)
     have hsn2 := hsn e
     simp [h, e, -getElem?_pos, List.getElem?_cons_zero, List.getElem?_cons_succ]
     refine Jab hx ?_
     cases hb2 : q x with
     | true =>
       simp
       refine ⟨by omega, wrap_i64 (by omega) (by omega), k + 1, by omega, by omega, ?_⟩
       simp [hsn2, hb2]
     | false =>
       simp
       refine ⟨wrap_i64 (by omega) (by omega), k + 1, by omega, by omega, ?_⟩
       simp [hsn2, hb2]
   . simp at h
     have hA := hend (by omega)
     subst hA
     simp [Jaa]
theorem Juu (c : Circuit) (l : List Port) (hk : Jdf c) (hl : l.length < 100000) (ha : ∀ q ∈ l, q ∈ allP c) : Pure Tryz.prog GL 50 [c.av, .p (.lst 2 (l.map Port.enc)), .fn (.func 51) []] (.p (.lst 2 ((Jbx c l true).map Port.enc))) :=
 Juw c l (Jcv c) 51 hl fun p hp => J4w c p hk (ha p hp)
end Go.Am
namespace Go.Am
open Go Go.Proofs Go.Pn
theorem Jtw {c : Circuit} {p : Port} : around c p = (allP c).filter fun q => decide (rt c q = rt c p) := by
 unfold around
 apply List.filter_congr
 intro q _
 rw [decide_eq_decide, Jvv, <- Kgh]
 exact eq_comm
theorem Kcr {c : Circuit} (h : Jac c = 0) {g : List Port} (hg : g ∈ nets c) {p : Port} (hp : p ∈ g) : g = around c p := by
 rw [Jnw h] at hg
 obtain ⟨r, _, rfl⟩ := List.mem_map.1 hg
 have : rt c p = r := by simpa using (List.mem_filter.1 hp).2
 rw [Jtw, this]
def Jg1 (c : Circuit) (n : Nat) : List Port := (nets c)[n]?.getD []
def Jdg (c : Circuit) (es : List (Port × Nat)) : List (AV × AV) := es.map fun e => (e.1.av, .p (.lst 2 ((Jg1 c e.2).map Port.enc)))
def Jg4 (c : Circuit) : List AV := (pairs c).map fun e => e.1.av
def Jjf (c : Circuit) : List AV := (pairs c).map fun e => .p (.lst 2 ((Jg1 c e.2).map Port.enc))
def Jh0 (c : Circuit) : AV := .agg [.p (.lst 3 (c.parts.map Part.enc)), .p (.lst 4 (c.pipes.map Pipe.enc)), .p (.lst 2 ((allP c).map Port.enc)), .pmap (Jg4 c) (Jjf c)]
theorem Jrt {c : Circuit} : (Jg4 c).zip (Jjf c) = Jdg c (pairs c) := by
 unfold Jg4 Jjf Jdg
 rw [List.zip_map']
theorem Jrh {c : Circuit} {ρ : List Nat} {es : List (Port × Nat)} : renE ρ (Jdg c es) = some (Jdg c es) := by
 unfold Jdg
 induction es with
 | nil => rfl
 | cons e es ih => simp only [List.map_cons, renE, ih]; rfl
theorem J3x {c : Circuit} {es : List (Port × Nat)} {p : Port} : Jal (Jdg c es) p.av = (Jcu es p).map fun (n : Nat) => AV.p (.lst 2 ((Jg1 c n).map Port.enc)) := by
 induction es with
 | nil => simp [Jdg, Jal, Jcu]
 | cons e es ih =>
   obtain ⟨a, b⟩ := e
   simp only [Jdg, List.map_cons, Jcu] at ih ⊢
   by_cases h : a = p
   . subst h
     simp [Jal]
   . have hne : a.av ≠ p.av := fun h2 => h (Jgm h2)
     rw [if_neg h, <- ih]
     unfold Jal
     rw [List.find?_cons_of_neg (by simpa using hne)]
theorem Kgt {c : Circuit} {es : List (Port × Nat)} {p : Port} {n : Nat} (h : Jcu es p = none) : setA (Jdg c es) (.agg [.p (.int .i64 p.part), .p (.str p.name)]) (.p (.lst 2 ((Jg1 c n).map Port.enc))) = Jdg c (es ++ [(p, n)]) := by
 rw [Jh6]
 . simp [Jdg]
 . intro e he
   obtain ⟨q, hq, rfl⟩ := List.mem_map.1 he
   intro h2
   have : q.1 = p := Jgm h2
   exact Jmx (n := q.2) (by rw [<- this]; exact hq) h
@[simp] theorem Kau {c : Circuit} {es : List (Port × Nat)} {i : Int} {s : Txt} : Jca Tryz.prog 105 (Jdg c es) (.agg [.p (.int .i64 i), .p (.str s)]) = True := eq_true (Jq4 (f := Prod.fst) (p := ⟨i, s⟩))
@[simp] theorem Kjs {c : Circuit} {i : Int} {s : Txt} : Jca Tryz.prog 105 ((Jg4 c).zip (Jjf c)) (.agg [.p (.int .i64 i), .p (.str s)]) = True := by rw [Jrt, Kau]
@[simp] theorem Kq7 : Jeb Tryz.prog 96 = some false := by kernel_rfl
theorem Jq9 {c : Circuit} (h : Jac c = 0) {i : Int} {s : Txt} (hp : (⟨i, s⟩ : Port) ∈ allP c) : Jal ((Jg4 c).zip (Jjf c)) (.agg [.p (.int .i64 i), .p (.str s)]) = some (.p (.lst 2 ((around c ⟨i, s⟩).map Port.enc))) := by
 rw [Jrt]
 have := J3x (c := c) (es := pairs c) (p := ⟨i, s⟩)
 rw [Jwo h hp] at this
 have hn : Jg1 c (netN c i s) = around c ⟨i, s⟩ := by
   obtain ⟨g, e, hg⟩ := Jy9 h hp
   unfold Jg1
   rw [e]
   exact Kcr h (List.mem_of_getElem? e) hg
 simp only [Option.map_some] at this
 rw [hn] at this
 exact this
theorem Jz9 {c : Circuit} (h : Jac c = 0) : ∀ k, ((Jcz c k).map Prod.fst).Nodup
 | 0 => by simp [Jcz]
 | k + 1 => by
   simp only [Jcz, List.map_append, List.nodup_append]
   refine ⟨Jz9 h k, ?_, ?_⟩
   . split
     . rename_i g e
       rw [List.map_map]
       have : (g.map (Prod.fst ∘ fun x => (x, k))) = g := by
         have e2 : (Prod.fst ∘ fun x : Port => (x, k)) = id := rfl
         rw [e2, List.map_id]
       rw [this]
       exact Jzb h (List.mem_of_getElem? e)
     . simp
   . intro a ha b hb hab
     subst hab
     obtain ⟨⟨a', n⟩, hm, rfl⟩ := List.mem_map.1 ha
     obtain ⟨hn, g, eg, hg⟩ := Jk3.1 hm
     split at hb
     . rename_i g' e'
       rw [List.map_map] at hb
       obtain ⟨b', hb', e2⟩ := List.mem_map.1 hb
       simp only [Function.comp] at e2
       subst e2
       have h1 := (Jk0 h eg hg).1
       have h2 := (Jk0 h e' hb').1
       omega
     . cases hb
theorem Kfa {c : Circuit} (h : Jac c = 0) : (Jg4 c).Nodup := by
 have := Jz9 h (nets c).length
 unfold Jg4
 have e : (pairs c).map (fun e => e.1.av) = ((pairs c).map Prod.fst).map Port.av := by rw [List.map_map]; rfl
 rw [e]
 exact List.Pairwise.map _ (fun a b hab hh => hab (Jgm hh)) this
theorem Kfb {c : Circuit} : Jjh (Jdg c (pairs c)) = true := by
 rw [Jrz]
 intro e he
 obtain ⟨q, _, rfl⟩ := List.mem_map.1 he
 exact ⟨rfl, rfl⟩
def Jh1 (c : Circuit) : AV := if Jac c = 0 then Jh0 c else .agg [.p (.lst 3 []), .p (.lst 4 []), .p (.lst 2 []), .nilm]
set_option maxRecDepth 20000 in
theorem Jux (c : Circuit) (hs : Sized c) : Pure Tryz.prog GL 48 [c.av] (.tup [Jh1 c, .p (.int .i64 (Jac c))]) := by
 refine Pure.of_walk (N := 52) Tryz.func48 rfl rfl rfl (by simp) (by first | (simp; done) | simp [*]) ?_
 have hPo := Jun c hs
 have hNe := Jum c hs
 simp
 by_cases h : Jac c = 0
 . have h2 := Ja8 h
   have hal := Jik h2.1 (by omega)
   have hnl := Ji8 h
   rw [if_neg (by simpa using h), h] at hPo hNe
   have hR : Jh1 c = Jh0 c := if_pos h
   rw [hR, h]
   refine Jab hPo ?_
   simp
   refine Jab hNe ?_
   simp
   refine Jag.go [1, 2, 4, 7, 31, 32] [0, 1] 0 [] (fun _ => []) (fun _ (k : Nat) => [(33, .p (.int .i64 k))]) (fun _ k => [(2, some (.map (Jdg c (Jcz c k))))]) (fun k => k <= (nets c).length) (fun k => (nets c).length - k) 0 (by omega) ?_ ?_
   . simp [Jcz, Jdg]
     try decide
   . intro k hk
     simp
     refine Jad (fun h3 => ?_) (fun h3 => ?_)
     . simp at h3
       obtain ⟨g, eg⟩ := Jae h3
       have hgl := hnl.2 g (List.mem_of_getElem? eg)
       have hall := Jz5 eg
       have hgn : Jg1 c k = g := by unfold Jg1; rw [eg]; rfl
       simp [h3, eg, Ports.enc, -getElem?_pos, List.getElem?_cons_zero, List.getElem?_cons_succ]
       refine Jag.go [1, 2, 4, 7, 9, 31, 32, 33, 37, 38] [0, 1] 0 [] (fun _ => []) (fun _ (j : Nat) => [(39, .p (.int .i64 j))]) (fun _ j => [(2, some (.map (Jdg c (Je3 c k g j))))]) (fun j => j <= g.length) (fun j => g.length - j) 0 (by omega) ?_ ?_
       . simp [Jz7, Jrh]
         try decide
       . intro j hj
         simp
         refine Jad (fun h4 => ?_) (fun h4 => ?_)
         . simp at h4
           obtain ⟨p, ep⟩ := Jae h4
           have hfr := Jz8 h eg ep
           have hsn := Jz6 (c := c) (k := k) ep
           have hset := Kgt (c := c) (n := k) hfr
           rw [hgn] at hset
           simp [h4, ep, -getElem?_pos, List.getElem?_cons_zero, List.getElem?_cons_succ]
           refine ⟨wrap_i64 (by omega) (by omega), j + 1, by omega, by omega, ?_⟩
           simp [hset, hsn, Jrh]
           try decide
         . simp at h4
           have hjl : j = g.length := by omega
           subst hjl
           simp
           refine ⟨wrap_i64 (by omega) (by omega), k + 1, by omega, by omega, ?_⟩
           simp [hall, Jrh]
           try decide
     . simp at h3
       have hkl : k = (nets c).length := by omega
       subst hkl
       have hpe : Jcz c (nets c).length = pairs c := rfl
       rw [hpe]
       simp [Jaa, Jh0]
       exact ⟨Kfb, by simp [Jg4, Jjf], Kfa h, by rw [Jrt]⟩
 . rw [if_pos h] at hPo
   have hR : Jh1 c = .agg [.p (.lst 3 []), .p (.lst 4 []), .p (.lst 2 []), .nilm] := if_neg h
   rw [hR]
   refine Jab hPo ?_
   simp [h]
   simp [Jaa]
end Go.Am
namespace Go.Am
open Go Go.Proofs Go.Pn
end Go.Am
namespace Go.Am
open Go Go.Proofs Go.Pn
theorem J4x (c : Circuit) (p : Port) (q : Port -> Bool) (m : Nat) (hs : Sized c) (hq : Jac c = 0 -> ∀ x ∈ allP c, Pure Tryz.prog GL m [c.av, x.av] (.p (.bool (q x)))) : Pure Tryz.prog GL 139 [c.av, p.av, .fn (.func m) []] (.tup [.p (.lst 2 ((if Jdi c p ≠ 0 then [] else (around c p).filter q).map Port.enc)), .p (.int .i64 (Jdi c p))]) := by
 refine Pure.of_walk (N := 36) Tryz.func139 rfl rfl rfl (by simp) (by first | (simp; done) | simp [*]) ?_
 have hPl := Jux c hs
 have hNet := J4n c p hs
 simp
 refine Jab hPl ?_
 by_cases h : Jac c = 0
 . have h2 := Ja8 h
   have hal := Jik h2.1 (by omega)
   have har := @Jma c p
   have hR : Jh1 c = Jh0 c := if_pos h
   have hse : Jdi c p = Jdl c p := by unfold Jdi; rw [if_neg (by simpa using h)]
   have hno : ¬ Jac c ≠ 0 := by simpa using h
   rw [if_neg hno, if_neg hno] at hNet
   rw [hR, hse, h]
   simp [Jh0]
   refine Jab hNet ?_
   by_cases hg : Jdl c p = 0
   . have hp : p ∈ allP c := Jgb.2 hg
     have hlk := Jq9 h (i := p.part) (s := p.name) hp
     have hfi := Juw c (around c p) q m (by omega) (fun x hx => hq h x (List.mem_filter.1 hx).1)
     simp [hg]
     refine Jak.intro (by kernel_rfl) ?_
     simp [hlk, hit]
     refine Jab hfi ?_
     simp
     refine ⟨.of (by kernel_rfl), ?_⟩
     simp [Jaa, hg]
   . simp [hg, Jaa]
 . have hR : Jh1 c = .agg [.p (.lst 3 []), .p (.lst 4 []), .p (.lst 2 []), .nilm] := if_neg h
   have hse : Jdi c p = Jac c := by unfold Jdi; rw [if_pos h]
   rw [hR, hse]
   simp [h]
   simp [Jaa]
theorem J4v (c : Circuit) (p : Port) (hs : Sized c) : Pure Tryz.prog GL 77 [c.av, p.av] (.tup [.p (.lst 2 ((Jhb c p false).map Port.enc)), .p (.int .i64 (Jdi c p))]) := by
 refine Pure.of_walk (N := 11) Tryz.func77 rfl rfl rfl (by simp) (by first | (simp; done) | simp [*]) ?_
 have hsd := J4x c p (Jh8 c) 140 hs (fun h x hx => J4y c x (Ja8 h).1 hx)
 have he : (if Jdi c p ≠ 0 then [] else (around c p).filter (Jh8 c)) = Jhb c p false := rfl
 rw [he] at hsd
 simp
 refine Jab hsd ?_
 simp [Jaa]
end Go.Am
namespace Go.Am
open Go Go.Proofs Go.Pn
def Jgu (c : Circuit) (i : Int) (s : Txt) : List Port := Jbx c (around c ⟨i, s⟩) true
def Jcp (c : Circuit) (i : Int) : Option (Int × Bool) := match Jgu c i [50], Jgu c i [52] with
 | [a], [b] => if a.part ≠ b.part \/ a.name = b.name then none else if Jaj c a.part = 2 \/ Jaj c a.part = 3 then some (a.part, decide (b.name = [52])) else none
 | _, _ => none
def Jcq (c : Circuit) (s : Txt) : Int := idxI c.parts fun p => decide (p.name = s)
def Ja1 (c : Circuit) (s : Txt) : Int := if Jac c ≠ 0 then Jac c else if Jcq c s < 0 then 6 else if Jaj c (Jcq c s) ≠ 1 then 1 else if (Jcp c (Jcq c s)).isNone then 14 else 0
def Ja2 (c : Circuit) (s : Txt) : Int × Bool := if Ja1 c s ≠ 0 then (0, false) else (Jcp c (Jcq c s)).getD (0, false)
theorem J8b {c : Circuit} {s : Txt} (h : Jac c = 0) (hs : Sized c) : Pure Tryz.prog GL 49 [c.av, .p (.str s)] (.tup [.p (.int .i64 (if Jcq c s < 0 then 0 else Jcq c s)), .p (.int .i64 (if Jcq c s < 0 then 6 else 0))]) := by
 have := Juj c s hs
 have hno : ¬ Jac c ≠ 0 := by simpa using h
 rw [if_neg hno, if_neg hno] at this
 exact this
theorem Ke1 {c : Circuit} {s : Txt} (h : ¬ Jcq c s < 0) : ∃ (i : Nat) (q : Part), Jcq c s = i /\ c.parts[i]? = some q /\ i < c.parts.length /\ q.name = s /\ Jaj c i = q.kind := by
 rcases Ji0 c.parts (fun p => decide (p.name = s)) with ⟨_, h2⟩ | ⟨i, q, _, h2, h3, h4⟩
 . exact absurd (show Jcq c s < 0 by unfold Jcq; omega) h
 . exact ⟨i, q, h2, h3, (gsI.1 h3).1, by simpa using h4, by simp [Jaj, h3, -getElem?_pos]⟩
theorem Jp8 {c : Circuit} {i : Nat} {q : Part} (e : c.parts[i]? = some q) (hk : q.kind = 1) : (⟨i, [50]⟩ : Port) ∈ allP c /\ (⟨i, [52]⟩ : Port) ∈ allP c := by
 have h2 : ([50] : Txt) ∈ Jao 1 := by decide +kernel
 have h4 : ([52] : Txt) ∈ Jao 1 := by decide +kernel
 have hp : Jbq q = Jao 1 := by unfold Jbq; rw [hk]; rfl
 refine ⟨Jgb.2 (Jiy.2 ⟨q, by simpa using e, by simp, ?_⟩), Jgb.2 (Jiy.2 ⟨q, by simpa using e, by simp, ?_⟩)⟩
 . rw [hp]; exact h2
 . rw [hp]; exact h4
set_option maxRecDepth 20000 in
theorem Juv (c : Circuit) (s : Txt) (hs : Sized c) : Pure Tryz.prog GL 17 [c.av, .p (.str s)] (.tup [.p (.int .i64 (Ja2 c s).1), .p (.bool (Ja2 c s).2), .p (.int .i64 (Ja1 c s))]) := by
 refine Pure.of_walk (N := 107) Tryz.func17 rfl rfl rfl (by simp) (by first | (simp; done) | simp [*]) ?_
 have hPl := Jux c hs
 simp
 refine Jab hPl ?_
 by_cases h : Jac c = 0
 . have h2 := Ja8 h
   have hal := Jik h2.1 (by omega)
   have hR : Jh1 c = Jh0 c := if_pos h
   have hFi := J8b (s := s) h hs
   have hno : ¬ Jac c ≠ 0 := by simpa using h
   rw [hR, h]
   simp [Jh0]
   refine Jab hFi ?_
   by_cases hi : Jcq c s < 0
   . have he : Ja1 c s = 6 := by unfold Ja1; rw [if_neg hno, if_pos hi]
     have hr : Ja2 c s = (0, false) := by unfold Ja2; rw [he, if_pos (by simp)]
     rw [he, hr]
     simp [hi, Jaa]
   . obtain ⟨i, q, e1, e2, e3, e4, e5⟩ := Ke1 hi
     rw [e1] at hi
     by_cases hk : q.kind = 1
     . obtain ⟨hp2, hp4⟩ := Jp8 e2 hk
       have hl2 := Jq9 h hp2
       have hl4 := Jq9 h hp4
       have ha2 := @Jma c ⟨i, [50]⟩
       have ha4 := @Jma c ⟨i, [52]⟩
       have hf2 := Juu c (around c ⟨i, [50]⟩) h2.1 (by omega) (fun q hq => (List.mem_filter.1 hq).1)
       have hf4 := Juu c (around c ⟨i, [52]⟩) h2.1 (by omega) (fun q hq => (List.mem_filter.1 hq).1)
       have hd : Ja1 c s = if (Jcp c i).isNone then 14 else 0 := by unfold Ja1; rw [if_neg hno, e1, if_neg hi, e5, if_neg (by simpa using hk)]
       have hdr : Ja2 c s = if Ja1 c s ≠ 0 then (0, false) else (Jcp c i).getD (0, false) := by unfold Ja2; rw [e1]
       have hdo : Jcp c i = match Jbx c (around c ⟨i, [50]⟩) true, Jbx c (around c ⟨i, [52]⟩) true with
         | [a], [b] => if a.part ≠ b.part \/ a.name = b.name then none else if Jaj c a.part = 2 \/ Jaj c a.part = 3 then some (a.part, decide (b.name = [52])) else none
         | _, _ => none := rfl
       have hpa : ∀ a ∈ Jbx c (around c ⟨i, [50]⟩) true, Jkc c a := fun a ha => Jrp a (List.mem_filter.1 ha).1
       generalize Jbx c (around c ⟨i, [50]⟩) true = L at hf2 hdo hpa
       generalize Jbx c (around c ⟨i, [52]⟩) true = M at hf4 hdo
       have hnone : Jcp c i = none -> Ja1 c s = 14 /\ Ja2 c s = (0, false) := fun hn => by
         have : Ja1 c s = 14 := by rw [hd, hn]; rfl
         exact ⟨this, by rw [hdr, this, if_pos (by simp)]⟩
       simp [e1, hi, e2, e3, Part.enc, hk, -getElem?_pos, List.getElem?_cons_zero, List.getElem?_cons_succ]
       refine Jak.intro (by kernel_rfl) ?_
       simp [hl2, hit]
       refine Jab hf2 ?_
       simp
       refine ⟨.of (by kernel_rfl), ?_⟩
       refine Jak.intro (by kernel_rfl) ?_
       simp [hl4, hit]
       refine Jab hf4 ?_
       simp
       refine ⟨.of (by kernel_rfl), ?_⟩
       refine Jak.intro (by kernel_rfl) ?_
       by_cases hL : ∃ a, L = [a]
       . obtain ⟨a, rfl⟩ := hL
         by_cases hM : ∃ b, M = [b]
         . obtain ⟨b, rfl⟩ := hM
           obtain ⟨j, qa, k1, k2, k3, k4⟩ := Jrq (hpa a (by simp))
           simp only at hdo
           by_cases hab : a.part = b.part
           . by_cases hnm : a.name = b.name
             . obtain ⟨r1, r2⟩ := hnone (by rw [hdo, if_pos (.inr hnm)])
               rw [r1, r2]
               simp [hab, hnm]
               refine ⟨.of (by kernel_rfl), ?_⟩
               simp [Jaa]
             . simp only [hab, ne_eq, not_true_eq_false, hnm, or_self, if_false] at hdo
               rw [<- hab, k4] at hdo
               have hbk : b.part = j := by omega
               have hjb : (j : Int) = b.part := by omega
               simp [hab, hnm]
               refine ⟨.of (by kernel_rfl), ?_⟩
               refine Jak.intro (by kernel_rfl) ?_
               simp [hbk, k1, k2, k3, Part.enc, -getElem?_pos, List.getElem?_cons_zero, List.getElem?_cons_succ]
               refine ⟨.of (by kernel_rfl), ?_⟩
               by_cases h22 : qa.kind = 2
               . rw [if_pos (.inl h22)] at hdo
                 have r1 : Ja1 c s = 0 := by rw [hd, hdo]; rfl
                 have r2 : Ja2 c s = (a.part, decide (b.name = [52])) := by rw [hdr, r1, if_neg (by simp), hdo]; rfl
                 rw [r1, r2]
                 simp [h22]
                 refine Jak.intro (by kernel_rfl) ?_
                 simp
                 refine ⟨.of (by kernel_rfl), ?_⟩
                 simp [Jaa, k1]
               . by_cases h33 : qa.kind = 3
                 . rw [if_pos (.inr h33)] at hdo
                   have r1 : Ja1 c s = 0 := by rw [hd, hdo]; rfl
                   have r2 : Ja2 c s = (a.part, decide (b.name = [52])) := by rw [hdr, r1, if_neg (by simp), hdo]; rfl
                   rw [r1, r2]
                   simp [h33]
                   refine Jak.intro (by kernel_rfl) ?_
                   simp
                   refine ⟨.of (by kernel_rfl), ?_⟩
                   simp [Jaa, k1]
                 . rw [if_neg (by omega)] at hdo
                   obtain ⟨r1, r2⟩ := hnone hdo
                   rw [r1, r2]
                   simp [h22, h33, Jaa]
           . obtain ⟨r1, r2⟩ := hnone (by rw [hdo, if_pos (.inl hab)])
             rw [r1, r2]
             simp [hab]
             refine ⟨.of (by kernel_rfl), ?_⟩
             simp [Jaa]
         . have hMl : ¬ ((M.length : Int) = 1) := fun hh => by
             match M, hh, hM with
             | [b], _, hM => exact hM ⟨b, rfl⟩
             | [], hh, _ => simp at hh
             | _ :: _ :: _, hh, _ => simp at hh; omega
           obtain ⟨r1, r2⟩ := hnone (by
             rw [hdo]
             match M, hM with
             | [b], hM => exact (hM ⟨b, rfl⟩).elim
             | [], _ => rfl
             | _ :: _ :: _, _ => rfl)
           rw [r1, r2]
           simp [hMl]
           refine ⟨.of (by kernel_rfl), ?_⟩
           simp [Jaa]
       . have hLl : ¬ ((L.length : Int) = 1) := fun hh => by
           match L, hh, hL with
           | [b], _, hL => exact hL ⟨b, rfl⟩
           | [], hh, _ => simp at hh
           | _ :: _ :: _, hh, _ => simp at hh; omega
         obtain ⟨r1, r2⟩ := hnone (by
           rw [hdo]
           match L, hL with
           | [b], hL => exact (hL ⟨b, rfl⟩).elim
           | [], _ => rfl
           | _ :: _ :: _, _ => rfl)
         rw [r1, r2]
         simp [hLl]
         refine ⟨.of (by kernel_rfl), ?_⟩
         simp [Jaa]
     . have he : Ja1 c s = 1 := by unfold Ja1; rw [if_neg hno, e1, if_neg hi, e5, if_pos hk]
       have hr : Ja2 c s = (0, false) := by unfold Ja2; rw [he, if_pos (by simp)]
       rw [he, hr]
       simp [e1, hi, e2, e3, Part.enc, hk, -getElem?_pos, List.getElem?_cons_zero, List.getElem?_cons_succ]
       simp [Jaa]
 . have hR : Jh1 c = .agg [.p (.lst 3 []), .p (.lst 4 []), .p (.lst 2 []), .nilm] := if_neg h
   have he : Ja1 c s = Jac c := by unfold Ja1; rw [if_pos h]
   have hr : Ja2 c s = (0, false) := by unfold Ja2; rw [he, if_pos h]
   rw [hR, he, hr]
   simp [h]
   simp [Jaa]
end Go.Am
namespace Go.Am
open Go Go.Proofs Go.Pn
def insI (ks : List Int) (k : Int) : List Int := if k ∈ ks then ks else ks ++ [k]
theorem Jyw {ks : List Int} {k x : Int} : x ∈ insI ks k ↔ x ∈ ks \/ x = k := by
 unfold insI
 split
 . rename_i h
   constructor
   . exact .inl
   . rintro (h1 | rfl)
     . exact h1
     . exact h
 . simp
theorem Kbz {l : List Int} : ∀ {ks : List Int} {x : Int}, x ∈ l.foldl insI ks ↔ x ∈ ks \/ x ∈ l := by
 induction l with
 | nil => simp
 | cons a l ih =>
   intro ks x
   rw [List.foldl_cons, ih, Jyw, List.mem_cons]
   constructor
   . rintro ((h | h) | h)
     . exact .inl h
     . exact .inr (.inl h)
     . exact .inr (.inr h)
   . rintro (h | h | h)
     . exact .inl (.inl h)
     . exact .inl (.inr h)
     . exact .inr h
def Jmq (c : Circuit) (i : Int) (ks : List Int) (p : Port) : List Int := if decide (p.part = i) && Jcv c p then ((Jbx c (around c p) false).map (·.part)).foldl insI ks else ks
def Jnn (ks : List Int) (x : Int) : List Int := if 0 <= x then insI ks x else ks
def limL (c : Circuit) (i : Int) : List Int := if Jfy c (nameAt c i) = 0 then [Jc3 c (nameAt c i) 48, Jc3 c (nameAt c i) 49] else []
def dirL (c : Circuit) (i : Int) : List Int := (limL c i).foldl Jnn ((allP c).foldl (Jmq c i) [])
theorem Jnr {c : Circuit} {i : Int} {l : List Port} : ∀ {ks : List Int} {x : Int}, x ∈ l.foldl (Jmq c i) ks ↔ x ∈ ks \/ ∃ p ∈ l, p.part = i /\ Jcv c p = true /\ ∃ q ∈ Jbx c (around c p) false, q.part = x := by
 induction l with
 | nil => simp
 | cons a l ih =>
   intro ks x
   rw [List.foldl_cons, ih]
   have hst : x ∈ Jmq c i ks a ↔ x ∈ ks \/ (a.part = i /\ Jcv c a = true /\ ∃ q ∈ Jbx c (around c a) false, q.part = x) := by
     unfold Jmq
     by_cases h : (decide (a.part = i) && Jcv c a) = true
     . rw [if_pos h, Kbz, List.mem_map]
       simp only [Bool.and_eq_true, decide_eq_true_eq] at h
       simp [h.1, h.2]
     . rw [if_neg h]
       simp only [Bool.and_eq_true, decide_eq_true_eq, not_and] at h
       constructor
       . exact .inl
       . rintro (h1 | ⟨h1, h2, _⟩)
         . exact h1
         . exact absurd h2 (h h1)
   rw [hst]
   constructor
   . rintro ((h | h) | ⟨p, hp, h⟩)
     . exact .inl h
     . exact .inr ⟨a, by simp, h⟩
     . exact .inr ⟨p, by simp [hp], h⟩
   . rintro (h | ⟨p, hp, h⟩)
     . exact .inl (.inl h)
     . rcases List.mem_cons.1 hp with rfl | hp
       . exact .inl (.inr h)
       . exact .inr ⟨p, hp, h⟩
theorem Jnt {l : List Int} : ∀ {ks : List Int} {x : Int}, x ∈ l.foldl Jnn ks ↔ x ∈ ks \/ (x ∈ l /\ 0 <= x) := by
 induction l with
 | nil => simp
 | cons a l ih =>
   intro ks x
   rw [List.foldl_cons, ih]
   have : x ∈ Jnn ks a ↔ x ∈ ks \/ (x = a /\ 0 <= x) := by
     unfold Jnn
     split
     . rename_i h
       rw [Jyw]
       constructor
       . rintro (h1 | rfl)
         . exact .inl h1
         . exact .inr ⟨rfl, h⟩
       . rintro (h1 | ⟨h1, _⟩)
         . exact .inl h1
         . exact .inr h1
     . rename_i h
       constructor
       . exact .inl
       . rintro (h1 | ⟨rfl, h2⟩)
         . exact h1
         . exact absurd h2 h
   rw [this, List.mem_cons]
   constructor
   . rintro ((h | ⟨h1, h2⟩) | ⟨h1, h2⟩)
     . exact .inl h
     . exact .inr ⟨.inl h1, h2⟩
     . exact .inr ⟨.inr h1, h2⟩
   . rintro (h | ⟨h1 | h1, h2⟩)
     . exact .inl (.inl h)
     . exact .inl (.inr ⟨h1, h2⟩)
     . exact .inr ⟨h1, h2⟩
theorem Jyo {c : Circuit} {s : Txt} {d : UInt8} : Jc3 c s d = -1 \/ Jc3 c s d = 0 \/ (0 <= Jc3 c s d /\ Jc3 c s d < c.parts.length) := by
 unfold Jc3
 split
 . exact .inr (.inl rfl)
 . unfold swAt swK
   split
   . exact .inl rfl
   . rcases Jjd c (s ++ [d]) with h | ⟨i, x, h, e, _⟩
     . exact .inl h
     . rw [h]
       have := (gsI.1 e).1
       exact .inr (.inr ⟨by omega, by omega⟩)
theorem Jmp {c : Circuit} {i x : Int} (hi : 0 <= i /\ i < c.parts.length) (h : x ∈ dirL c i) : 0 <= x /\ x < c.parts.length := by
 unfold dirL at h
 rw [Jnt, Jnr] at h
 rcases h with (h | ⟨p, _, _, _, q, hq, rfl⟩) | ⟨h1, h2⟩
 . cases h
 . have := Jrp q (List.mem_filter.1 hq).1
   have h3 := this.1
   have h4 := this.2
   omega
 . refine ⟨h2, ?_⟩
   unfold limL at h1
   split at h1
   . rcases List.mem_cons.1 h1 with rfl | h1
     . rcases @Jyo c (nameAt c i) 48 with h | h | h <;> omega
     . simp at h1
       subst h1
       rcases @Jyo c (nameAt c i) 49 with h | h | h <;> omega
   . cases h1
end Go.Am
namespace Go.Am
open Go Go.Proofs Go.Pn
def Jqe (c : Circuit) (i : Int) : List Psg := ((dirL c i).map fun x => ⟨0, x.toNat, [], true⟩) ++ (List.range c.parts.length).flatMap fun (a : Nat) => (dirL c a).map fun x => ⟨0, x.toNat, [a], false⟩
def Jr2 (c : Circuit) (i : Int) : List Nat := lfp (Jqe c i) c.parts.length
def Joe (c : Circuit) (i : Int) : List Int := ((List.range c.parts.length).filter fun n => (Jr2 c i).contains n).map fun (n : Nat) => (n : Int)
theorem Jwd {c : Circuit} {i : Int} (hi : 0 <= i /\ i < c.parts.length) : ∀ y ∈ Jqe c i, y.to < c.parts.length := by
 intro y hy
 rcases List.mem_append.1 hy with hy | hy
 . obtain ⟨x, hx, rfl⟩ := List.mem_map.1 hy
   have := Jmp hi hx
   simp only; omega
 . obtain ⟨a, ha, hy⟩ := List.mem_flatMap.1 hy
   obtain ⟨x, hx, rfl⟩ := List.mem_map.1 hy
   have := Jmp (i := (a : Int)) ⟨by omega, by have := List.mem_range.1 ha; omega⟩ hx
   simp only; omega
theorem Kfx {c : Circuit} {i : Int} (hi : 0 <= i /\ i < c.parts.length) : ∀ n ∈ Jr2 c i, n < c.parts.length := by
 have := Jym (ps := Jqe c i) (N := c.parts.length) (S := fun n => decide (n < c.parts.length)) (fun y hy _ => by simpa using Jwd hi y hy)
 intro n hn
 simpa using this n hn
theorem Kb0 {c : Circuit} {i x : Int} (hi : 0 <= i /\ i < c.parts.length) : x ∈ Joe c i ↔ 0 <= x /\ x.toNat ∈ Jr2 c i := by
 unfold Joe
 rw [List.mem_map]
 constructor
 . rintro ⟨n, hn, rfl⟩
   exact ⟨by omega, by simpa using (List.mem_filter.1 hn).2⟩
 . rintro ⟨h0, h1⟩
   exact ⟨x.toNat, List.mem_filter.2 ⟨List.mem_range.2 (Kfx hi _ h1), by simpa using h1⟩, by omega⟩
theorem Kfy {c : Circuit} {i x : Int} (hi : 0 <= i /\ i < c.parts.length) (h : x ∈ dirL c i) : x ∈ Joe c i := by
 have hr := Jmp hi h
 rw [Kb0 hi]
 refine ⟨hr.1, ?_⟩
 have := Jq8 (Jwd hi) ⟨0, x.toNat, [], true⟩ (List.mem_append_left _ (List.mem_map.2 ⟨x, h, rfl⟩)) rfl
 exact List.contains_iff_mem.1 this
def nmQ (x : AV) : Nat := match x with
 | .ref b .. => b
 | _ => 2
@[simp] theorem Kj3 {b k i n : Nat} {c : Option Nat} : nmQ (.ref b k i n c) = b := rfl
@[simp] theorem Kj2 {x : PV} : nmQ (.p x) = 2 := rfl
end Go.Am
namespace Go.Am
open Go Go.Proofs Go.Pn
end Go.Am
namespace Go.Am
open Go Go.Proofs Go.Pn
end Go.Am
namespace Go.Am
open Go Go.Proofs Go.Pn
end Go.Am
namespace Go.Am
open Go Go.Proofs Go.Pn
theorem Kbx {c : Circuit} {k : Nat} {l : List Port} {f : Fnd} : f ∈ Jqo c k l ↔ f.kind = k /\ f.at_ ∈ l /\ Jm2 c k f.at_ = true := by
 unfold Jqo
 rw [List.mem_map]
 constructor
 . rintro ⟨p, hp, rfl⟩
   exact ⟨rfl, List.mem_filter.1 hp⟩
 . rintro ⟨h1, h2⟩
   refine ⟨f.at_, List.mem_filter.2 h2, ?_⟩
   cases f
   simp only at h1
   rw [h1]
theorem Jyv {c : Circuit} {f : Fnd} : ∀ {k : Nat}, f ∈ allF c k ↔ f ∈ Jks c \/ ∃ j : Nat, 1 <= j /\ j <= k /\ f.kind = j /\ f.at_ ∈ allP c /\ Jm2 c j f.at_ = true
 | 0 => by
   unfold allF
   constructor
   . exact .inl
   . rintro (h | ⟨j, h1, h2, _⟩)
     . exact h
     . omega
 | k + 1 => by
   rw [allF, List.mem_append, Jyv, Kbx]
   constructor
   . rintro ((h | ⟨j, h1, h2, h3⟩) | ⟨h1, h2⟩)
     . exact .inl h
     . exact .inr ⟨j, h1, by omega, h3⟩
     . exact .inr ⟨k + 1, by omega, by omega, h1, h2⟩
   . rintro (h | ⟨j, h1, h2, h3⟩)
     . exact .inl (.inl h)
     . by_cases e : j = k + 1
       . subst e; exact .inr h3
       . exact .inl (.inr ⟨j, h1, by omega, h3⟩)
theorem Kbw {c : Circuit} {f : Fnd} : f ∈ Jmy c ↔ f ∈ Jks c \/ ∃ j : Nat, 1 <= j /\ j <= 7 /\ f.kind = j /\ f.at_ ∈ allP c /\ Jm2 c j f.at_ = true := Jyv
theorem Kby {c : Circuit} {f : Fnd} : f ∈ Jks c ↔ supB c = false /\ f = ⟨0, ⟨0, []⟩⟩ := by
 unfold Jks
 cases supB c <;> simp
theorem Jtx {c : Circuit} {p q : Port} (hp : p ∈ allP c) (h : q ∈ around c p) : p ∈ around c q := by
 rw [Jtw, List.mem_filter] at h ⊢
 exact ⟨hp, by have := h.2; simp at this ⊢; exact this.symm⟩
theorem Kbb {α : Type} {l : List α} {a b : α} (ha : a ∈ l) (hb : b ∈ l) (hab : a ≠ b) : 2 <= l.length := by
 match l, ha, hb with
 | [], ha, _ => cases ha
 | [x], ha, hb => simp at ha hb; exact absurd (ha.trans hb.symm) hab
 | _ :: _ :: _, _, _ => simp
theorem Joi {c : Circuit} {p : Port} {k : Nat} (h : Jaj c p.part = k) : Jbk c p = Jc0 k p.name := by
 unfold Jbk; rw [h, Int.toNat_natCast]
structure DrvFacts (c : Circuit) (i v : Nat) (b : Bool) : Prop where
 lt : v < c.parts.length
 two : Jdi c ⟨i, [50]⟩ = 0 /\ Jhb c ⟨i, [50]⟩ true = [⟨v, if b then [50] else [52]⟩] /\ (⟨2, ⟨i, [50]⟩⟩ : Fnd) ∉ Jmy c
 four : Jdi c ⟨i, [52]⟩ = 0 /\ Jhb c ⟨i, [52]⟩ true = [⟨v, if b then [52] else [50]⟩] /\ (⟨2, ⟨i, [52]⟩⟩ : Fnd) ∉ Jmy c
 acts : (i : Int) ∈ Joe c v
theorem Jvr {c : Circuit} {i : Nat} {s : Txt} {a : Port} (hp : (⟨i, s⟩ : Port) ∈ allP c) (ha : a ∈ around c ⟨i, s⟩) (hne : a ≠ ⟨i, s⟩) : (⟨2, ⟨i, s⟩⟩ : Fnd) ∉ Jmy c := by
 intro h
 rcases Kbw.1 h with h | ⟨j, _, _, h3, _, h5⟩
 . obtain ⟨_, h⟩ := Kby.1 h
   simp at h
 . simp only at h3
   have : j = 2 := by omega
   subst this
   have h6 : (decide (Jbk c ⟨i, s⟩ = 4) && decide ((around c ⟨i, s⟩).length = 1)) = true := h5
   have h7 : (around c ⟨i, s⟩).length = 1 := by
     simp only [Bool.and_eq_true, decide_eq_true_eq] at h6
     exact h6.2
   have := Kbb ha (J3s hp) hne
   omega
theorem Jsk {c : Circuit} (h : Jac c = 0) {i : Int} {s : Txt} (hp : (⟨i, s⟩ : Port) ∈ allP c) : Jdi c ⟨i, s⟩ = 0 /\ Jhb c ⟨i, s⟩ true = Jgu c i s := by
 have h1 : Jdi c ⟨i, s⟩ = 0 := by unfold Jdi; rw [if_neg (by simpa using h), Jgb.1 hp]
 exact ⟨h1, by unfold Jhb; rw [h1, if_neg (by simp)]; rfl⟩
theorem Jz2 {k : Nat} (hk : k = 2 \/ k = 3) {s : Txt} (hs : s ∈ Jao k) (h1 : Jc0 k s = 1) : s = [50] \/ s = [52] := by
 rcases hk with rfl | rfl
 . exact (by decide +kernel : ∀ s ∈ Jao 2, Jc0 2 s = 1 -> s = [50] \/ s = [52]) s hs h1
 . exact (by decide +kernel : ∀ s ∈ Jao 3, Jc0 3 s = 1 -> s = [50] \/ s = [52]) s hs h1
theorem Jqj {c : Circuit} {i : Int} {s : Txt} {a : Port} (h : a ∈ Jgu c i s) : a ∈ around c ⟨i, s⟩ /\ a ∈ allP c /\ Jbk c a = 1 := by
 unfold Jgu Jbx at h
 obtain ⟨h1, h2⟩ := List.mem_filter.1 h
 exact ⟨h1, (List.mem_filter.1 h1).1, by simpa [Joo, Jcv] using h2⟩
theorem Jqd {c : Circuit} (h : Jac c = 0) {i : Nat} {q : Part} (e : c.parts[i]? = some q) (hd : Ja1 c q.name = 0) : q.kind = 1 /\ ∃ v : Nat, (Ja2 c q.name).1 = v /\ DrvFacts c i v (Ja2 c q.name).2 := by
 have h2 := Ja8 h
 have hix : Jcq c q.name = i := Jgk h e
 have hki : Jaj c (i : Int) = q.kind := by simp [Jaj, e, -getElem?_pos]
 unfold Ja1 at hd
 rw [if_neg (by simpa using h), hix, if_neg (by omega), hki] at hd
 by_cases hk : q.kind = 1
 . refine ⟨hk, ?_⟩
   rw [if_neg (by simpa using hk)] at hd
   have hdr : Ja2 c q.name = (Jcp c i).getD (0, false) := by
     unfold Ja2
     have : Ja1 c q.name = 0 := by
       unfold Ja1
       rw [if_neg (by simpa using h), hix, if_neg (by omega), hki, if_neg (by simpa using hk), hd]
     rw [this, if_neg (by simp), hix]
   obtain ⟨hp2, hp4⟩ := Jp8 e hk
   cases ho : Jcp c i with
   | none => rw [ho] at hd; simp at hd
   | some r =>
     obtain ⟨v, b⟩ := r
     rw [hdr, ho]
     simp only [Option.getD_some]
     unfold Jcp at ho
     split at ho
     . rename_i x y hx hy
       split at ho
       . cases ho
       . rename_i hne
         split at ho
         . rename_i hkv
           simp only [Option.some.injEq, Prod.mk.injEq] at ho
           obtain ⟨rfl, rfl⟩ := ho
           simp only [not_or, Decidable.not_not] at hne
           obtain ⟨hpart, hname⟩ := hne
           obtain ⟨fx1, fx2, fx3⟩ := Jqj (show x ∈ Jgu c i [50] by rw [hx]; simp)
           obtain ⟨fy1, fy2, fy3⟩ := Jqj (show y ∈ Jgu c i [52] by rw [hy]; simp)
           obtain ⟨j, qv, j1, j2, j3, j4, j5, j6, _⟩ := Jlc h2.1 fx2
           obtain ⟨j', qv', k1, k2, k3, k4, k5, k6, _⟩ := Jlc h2.1 fy2
           have hjj : j' = j := by omega
           subst hjj
           rw [j3] at k3; cases k3
           refine ⟨j', j1, ?_⟩
           have hkk : ∃ k : Nat, qv.kind = k /\ (k = 2 \/ k = 3) := by
             rw [j4] at hkv
             rcases hkv with hh | hh
             . exact ⟨2, hh, .inl rfl⟩
             . exact ⟨3, hh, .inr rfl⟩
           obtain ⟨k, hk1, hk2⟩ := hkk
           rw [hk1] at j6 k6 j4 k4
           rw [Int.toNat_natCast] at j6 k6
           have nx := Jz2 hk2 j6 (by rw [<- Joi j4]; exact fx3)
           have ny := Jz2 hk2 k6 (by rw [<- Joi k4]; exact fy3)
           obtain ⟨xp, xn⟩ := x
           obtain ⟨yp, yn⟩ := y
           simp only at hpart hname nx ny j1 k1
           subst hpart
           subst j1
           have hch : ∀ s : Txt, s = [50] \/ s = [52] -> Jbk c ⟨(i : Int), s⟩ = 4 := fun s hs => by
             have hk' : Jaj c (⟨(i : Int), s⟩ : Port).part = ((1 : Nat) : Int) := by simp only; rw [hki, hk]; rfl
             rw [Joi hk']
             rcases hs with rfl | rfl
             . show Jc0 1 [50] = 4; decide +kernel
             . show Jc0 1 [52] = 4; decide +kernel
           have hdiff : ∀ (n s : Txt), s = [50] \/ s = [52] -> Jbk c ⟨(j' : Int), n⟩ = 1 -> (⟨(j' : Int), n⟩ : Port) ≠ ⟨(i : Int), s⟩ := fun n s hs h1 he => by
             rw [he, hch s hs] at h1
             simp at h1
           obtain ⟨s2a, s2b⟩ := Jsk h hp2
           obtain ⟨s4a, s4b⟩ := Jsk h hp4
           have hb : decide (yn = [52]) = decide (xn = [50]) := by
             rcases nx with rfl | rfl <;> rcases ny with rfl | rfl <;> simp at hname ⊢
           refine ⟨j2, ⟨s2a, ?_, Jvr hp2 fx1 (hdiff _ _ (.inl rfl) fx3)⟩, ⟨s4a, ?_, Jvr hp4 fy1 (hdiff _ _ (.inr rfl) fy3)⟩, ?_⟩
           . rw [s2b, hx]
             rcases nx with rfl | rfl <;> rcases ny with rfl | rfl <;> simp at hname ⊢
           . rw [s4b, hy]
             rcases nx with rfl | rfl <;> rcases ny with rfl | rfl <;> simp at hname ⊢
           . have hjr : 0 <= (j' : Int) /\ (j' : Int) < c.parts.length := by omega
             refine Kfy hjr ?_
             unfold dirL
             rw [Jnt, Jnr]
             refine .inl (.inr ⟨⟨(j' : Int), xn⟩, fx2, rfl, by simp [Jcv, fx3], ⟨(i : Int), [50]⟩, ?_, rfl⟩)
             unfold Jbx
             refine List.mem_filter.2 ⟨Jtx hp2 fx1, ?_⟩
             simp [Joo, Jh8, hch [50] (.inl rfl)]
         . cases ho
     . cases ho
 . rw [if_pos hk] at hd
   cases hd
end Go.Am
