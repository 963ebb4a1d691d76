/- Lemmas and contracts for the proof of a statement of this seat. -/
import Derived.Test.YtmfjjncfdpejiaaGreatDoorZW2
import Derived.Test.YtmfjjncfdpejiaaGreatDoorZN1
import Derived.Test.YtmfjjncfdpejiaaGreatDoorZF1
import Derived.Test.YtmfjjncfdpejiaaGreatDoorZA7
import Derived.Test.YtmfjjncfdpejiaaGreatDoorZP2
import Derived.Test.YtmfjjncfdpejiaaGreatDoorZW1
set_option linter.unusedVariables false
set_option linter.unusedSimpArgs false
namespace Go.Am
open Go Go.Proofs Go.Pn
set_option maxRecDepth 20000 in
theorem Jm4 (D : Drf) (s : Txt) (hk : ∀ p ∈ D.parts, 0 <= p.kind /\ p.kind < 14) (hn : (D.parts.map (·.name)).Nodup) (hp : D.parts.length < 100000) (hl : s.length <= 100000) : Pure Tryz.prog GL 238 [.iptr 2 [D.row] 0 0, .p (.str s)] (.tup [(Jas D.parts s).av, .p (.int .i64 (Jbc D.parts s))]) := by
 refine Pure.of_walk (N := 45) Tryz.func238 rfl rfl rfl (by simp) (by first | (simp; done) | simp [*]) ?_
 simp
 refine Jab (Jyv s (by omega)) ?_
 by_cases hd : dotI s < 0
 . have e1 : Jbc D.parts s = 4 := by unfold Jbc; rw [if_pos hd]
   have e2 : Jas D.parts s = ⟨[], []⟩ := by unfold Jas; rw [e1, if_neg (by decide)]
   simp [hd, Jaa, e1, e2]
 obtain ⟨d, hdn⟩ : ∃ d : Nat, dotI s = d := ⟨(dotI s).toNat, by omega⟩
 have hdl : d < s.length := by have := @J07 _ s (fun b => decide (b = 46)); unfold dotI at hdn; omega
 have hb : befD s = s.take d := by unfold befD; rw [hdn]; rfl
 have ha : aftD s = s.drop (d + 1) := by unfold aftD; rw [hdn]; rfl
 have hI := Jj2 D (befD s) (by omega)
 have hdl2 : d <= s.length := by omega
 rw [hdn]
 have hd0 : ¬ (d : Int) < 0 := by omega
 simp [hd0]
 rw [if_pos hdl2]
 simp
 rw [<- hb]
 refine Jab hI ?_
 have hta : (aftD s).take (s.length - (d + 1)) = aftD s := by rw [ha]; exact List.take_of_length_le (by simp)
 have hw : IntKind.i64.wrap ((d : Int) + 1) = d + 1 := wrap_i64 (by omega) (by omega)
 simp
 rcases Jim D.parts (fun p => decide (p.name = befD s)) with ⟨f1, f2⟩ | ⟨i, q, f1, f2, f3, f4⟩
 . have hkn : Jdy D.parts (befD s) = none := by
     unfold Jdy
     rw [List.find?_eq_none.2]
     . rfl
     . intro p hp
       exact fun h9 => by have := (List.findIdx?_eq_none_iff.1 f1) p hp; simp_all
   have e3 : Jbc D.parts s = 6 := by unfold Jbc; rw [if_neg hd, hkn]
   have e4 : Jas D.parts s = ⟨[], []⟩ := by unfold Jas; rw [e3, if_neg (by decide)]
   rw [f2]
   refine Jaj.intro (by kernel_rfl) ?_
   simp
   refine ⟨.of (by kernel_rfl), ?_⟩
   simp [Jaa, e3, e4]
 . have hqn : q.name = befD s := by simpa using f4
   have hkn : Jdy D.parts (befD s) = some q.kind := by rw [<- hqn]; exact J1s hn (List.mem_of_getElem? f3)
   have hq := hk q (List.mem_of_getElem? f3)
   have hil := (gsI.1 f3).1
   have hi0 : ¬ (i : Int) < 0 := by omega
   have hPl := Jqk q.kind.toNat (aftD s) (by omega)
   rw [show ((q.kind.toNat : Nat) : Int) = q.kind by omega] at hPl
   rw [f2]
   refine Jaj.intro (by kernel_rfl) ?_
   simp [hil, f3, hi0, hw, Drf.row, Part.enc, -getElem?_pos, List.getElem?_cons_zero, List.getElem?_cons_succ]
   rw [if_pos (by omega)]
   simp
   rw [<- ha, hta]
   refine Jab hPl ?_
   by_cases hp : Jeb q.kind.toNat (aftD s) < 0
   . have e3 : Jbc D.parts s = 6 := by
       unfold Jbc
       rw [if_neg hd, hkn]
       exact if_neg (by unfold Jge; simpa using hp)
     have e4 : Jas D.parts s = ⟨[], []⟩ := by unfold Jas; rw [e3, if_neg (by decide)]
     simp [hp]
     refine ⟨.of (by kernel_rfl), ?_⟩
     simp [Jaa, e3, e4]
   . have e3 : Jbc D.parts s = 0 := by
       unfold Jbc
       rw [if_neg hd, hkn]
       exact if_pos (by unfold Jge; simpa using hp)
     have e4 : Jas D.parts s = ⟨befD s, aftD s⟩ := by unfold Jas; rw [e3, if_pos rfl]
     simp [hp]
     refine ⟨.of (by kernel_rfl), ?_⟩
     refine Jaj.intro (by kernel_rfl) ?_
     simp [hw, -getElem?_pos, List.getElem?_cons_zero, List.getElem?_cons_succ]
     rw [if_pos (by omega)]
     simp
     rw [<- hb]
     refine ⟨hw, ?_⟩
     rw [if_pos (by omega)]
     simp
     rw [<- ha, hta]
     refine ⟨.of (by kernel_rfl), ?_⟩
     simp [Jaa, e3, e4]
end Go.Am
namespace Go.Am
open Go Go.Proofs Go.Pn
set_option maxRecDepth 20000 in
theorem Jmt (s : Txt) (hs : s.length <= 100000) : Pure Tryz.prog GL 306 [.p (.str s)] (.p (.int .i64 (Jaz s))) := by
 refine Pure.of_walk (N := 31) Tryz.func306 rfl rfl rfl (by simp) rfl ?_
 by_cases h0 : s = []
 . subst h0
   simp
   simp [Jaa, Jaz]
 obtain ⟨b, e⟩ := Jag (xs := s) (k := 0) (List.length_pos_iff.2 h0)
 have hne : ¬ s.length = 0 := fun h => h0 (List.length_eq_zero_iff.1 h)
 by_cases h1 : (1 : Int) < s.length
 . have h1' : 0 < s.length := by omega
   by_cases h2 : (b.toNat : Int) = 48
   . have hb : b = 48 := (Jvu (n := 48) (by omega)).1 h2
     have en : Jaz s = 3 := by unfold Jaz; rw [if_pos (.inr ⟨by omega, Jrw.2 (by rw [e, hb])⟩)]
     simp [h0, hne, h1', e, h2, h1, -getElem?_pos, List.getElem?_cons_zero, List.getElem?_cons_succ]
     simp [Jaa, en]
   . have hz : ¬ (s = [] \/ (1 < s.length /\ s.head? = some 48)) := by
       rintro (h | ⟨_, h⟩)
       . exact h0 h
       . rw [Jrw, e] at h
         cases h
         exact h2 (by decide)
     simp [h0, hne, h1', e, h2, h1, -getElem?_pos, List.getElem?_cons_zero, List.getElem?_cons_succ]
     refine Jah.go [0] [] 0 [] (fun _ => []) (fun _ (k : Nat) => [(3, .p (.int .i64 k))]) (fun _ _ => []) (fun k => k <= s.length /\ ∀ (j : Nat) x, j < k -> s[j]? = some x -> isDigit x = true) (fun k => s.length - k) 0 ⟨by omega, fun j x h => by omega⟩ ?_ ?_
     . simp
     rintro k ⟨hk, hp⟩
     simp
     refine Jac (fun h3 => ?_) (fun h3 => ?_)
     . simp at h3
       obtain ⟨x, ex⟩ := Jag h3
       simp [h3, ex, -getElem?_pos, List.getElem?_cons_zero, List.getElem?_cons_succ]
       refine Jab (Jm1 x) ?_
       cases hx : isDigit x with
       | true =>
         simp
         refine ⟨wrap_i64 (by omega) (by omega), k + 1, ⟨by omega, fun j y hj ey => ?_⟩, by omega, ?_⟩
         . by_cases hjk : j = k
           . subst hjk; rw [ex] at ey; cases ey; exact hx
           . exact hp j y (by omega) ey
         . simp
       | false =>
         have ha : s.all isDigit = false := by
           rw [List.all_eq_false]
           exact ⟨x, List.mem_of_getElem? ex, by simp [hx]⟩
         have en : Jaz s = 3 := by unfold Jaz; rw [if_neg hz, if_pos ha]
         simp [Jaa, en]
     . simp at h3
       have ha : s.all isDigit = true := List.all_eq_true.2 fun x hx => by
         obtain ⟨j, hj⟩ := List.mem_iff_getElem?.1 hx
         exact hp j x (by have := (gsI.1 hj).1; omega) hj
       by_cases h7 : (7 : Int) < s.length
       . have en : Jaz s = 17 := by unfold Jaz; rw [if_neg hz, if_neg (by rw [ha]; simp), if_pos (by omega)]
         simp [h7]
         simp [Jaa, en]
       . have en : Jaz s = 0 := by unfold Jaz; rw [if_neg hz, if_neg (by rw [ha]; simp), if_neg (by omega)]
         simp [h7]
         simp [Jaa, en]
 . have hz : ¬ (s = [] \/ (1 < s.length /\ s.head? = some 48)) := by
     rintro (h | ⟨h, _⟩)
     . exact h0 h
     . omega
   simp [h0, hne, e, h1, -getElem?_pos, List.getElem?_cons_zero, List.getElem?_cons_succ]
   refine Jah.go [0] [] 0 [] (fun _ => []) (fun _ (k : Nat) => [(3, .p (.int .i64 k))]) (fun _ _ => []) (fun k => k <= s.length /\ ∀ (j : Nat) x, j < k -> s[j]? = some x -> isDigit x = true) (fun k => s.length - k) 0 ⟨by omega, fun j x h => by omega⟩ ?_ ?_
   . simp
   rintro k ⟨hk, hp⟩
   simp
   refine Jac (fun h3 => ?_) (fun h3 => ?_)
   . simp at h3
     obtain ⟨x, ex⟩ := Jag h3
     simp [h3, ex, -getElem?_pos, List.getElem?_cons_zero, List.getElem?_cons_succ]
     refine Jab (Jm1 x) ?_
     cases hx : isDigit x with
     | true =>
       simp
       refine ⟨wrap_i64 (by omega) (by omega), k + 1, ⟨by omega, fun j y hj ey => ?_⟩, by omega, ?_⟩
       . by_cases hjk : j = k
         . subst hjk; rw [ex] at ey; cases ey; exact hx
         . exact hp j y (by omega) ey
       . simp
     | false =>
       have ha : s.all isDigit = false := by
         rw [List.all_eq_false]
         exact ⟨x, List.mem_of_getElem? ex, by simp [hx]⟩
       have en : Jaz s = 3 := by unfold Jaz; rw [if_neg hz, if_pos ha]
       simp [Jaa, en]
   . simp at h3
     have ha : s.all isDigit = true := List.all_eq_true.2 fun x hx => by
       obtain ⟨j, hj⟩ := List.mem_iff_getElem?.1 hx
       exact hp j x (by have := (gsI.1 hj).1; omega) hj
     by_cases h7 : (7 : Int) < s.length
     . have en : Jaz s = 17 := by unfold Jaz; rw [if_neg hz, if_neg (by rw [ha]; simp), if_pos (by omega)]
       simp [h7]
       simp [Jaa, en]
     . have en : Jaz s = 0 := by unfold Jaz; rw [if_neg hz, if_neg (by rw [ha]; simp), if_neg (by omega)]
       simp [h7]
       simp [Jaa, en]
set_option maxRecDepth 20000 in
theorem Jp6 (s : Txt) (hs : s.length <= 100000) : Pure Tryz.prog GL 237 [.p (.str s)] (.tup [.p (.int .i64 (valOf s)), .p (.int .i64 (Jbr s))]) := by
 refine Pure.of_walk (N := 31) Tryz.func237 rfl rfl rfl (by simp) rfl ?_
 have hdig : ∀ {t : Txt}, Jaz t = 0 -> t.length <= 7 /\ ∀ b ∈ t, isDigit b = true := fun {t} h => by
   unfold Jaz at h
   by_cases h1 : t = [] \/ (1 < t.length /\ t.head? = some 48)
   . rw [if_pos h1] at h; cases h
   . rw [if_neg h1] at h
     by_cases h2 : t.all isDigit = false
     . rw [if_pos h2] at h; cases h
     . rw [if_neg h2] at h
       by_cases h3 : 7 < t.length
       . rw [if_pos h3] at h; cases h
       . exact ⟨by omega, fun b hb => List.all_eq_true.1 (by simpa using h2) b hb⟩
 cases s with
 | nil =>
   have hN := Jmt [] (by simp)
   have e1 : Jaz [] = 3 := by decide
   have e2 : Jbr [] = 3 /\ valOf [] = 0 := by decide
   rw [e1] at hN
   simp
   refine Jab hN ?_
   simp [Jaa, e2]
 | cons b r =>
   simp only [List.length_cons] at hs
   by_cases h1 : (b.toNat : Int) = 45
   . have hb : b = 45 := (Jvu (n := 45) (by omega)).1 h1
     subst hb
     have hsg : signed (45 :: r) = true := by simp [signed]
     by_cases h2 : r = [48]
     . have e2 : Jbr (45 :: r) = 3 := by unfold Jbr; rw [if_pos ⟨hsg, h2⟩]
       have e3 : valOf (45 :: r) = 0 := by unfold valOf; rw [if_pos (by rw [e2]; decide)]
       rw [e2, e3]
       subst h2
       simp
       simp [Jaa]
     . have e2 : Jbr (45 :: r) = Jaz r := by unfold Jbr; rw [if_neg (fun h => h2 h.2), hsg]; rfl
       have hN := Jmt r (by omega)
       have hsub : ((45 :: r : Txt).drop 1).take ((45 :: r : Txt).length - 1) = r := by simp
       simp [h2]
       rw [if_pos (by omega)]
       simp [h2]
       refine Jab hN ?_
       by_cases h3 : Jaz r = 0
       . obtain ⟨d1, d2⟩ := hdig h3
         have hW := Jqj r d1 d2
         have hb := Jpi d2
         have hp := @Joc r.length d1
         have e3 : valOf (45 :: r) = -Jcp r := by unfold valOf; rw [if_neg (by rw [e2, h3]; simp), hsg]; rfl
         rw [e2, e3, h3]
         simp [h3]
         refine Jab hW ?_
         simp
         refine ⟨wrap_i64 (by omega) (by omega), ?_⟩
         simp [Jaa]
       . have e3 : valOf (45 :: r) = 0 := by unfold valOf; rw [if_pos (by rw [e2]; exact h3)]
         rw [e2, e3]
         simp [h3]
         simp [Jaa]
   . have hne : ¬ b = 45 := fun h => h1 (by rw [h]; rfl)
     have hsg : signed (b :: r) = false := by simp [signed, hne]
     have e2 : Jbr (b :: r) = Jaz (b :: r) := by unfold Jbr; rw [hsg]; simp
     have hN := Jmt (b :: r) (by simp; omega)
     simp [h1]
     refine Jab hN ?_
     by_cases h3 : Jaz (b :: r) = 0
     . obtain ⟨d1, d2⟩ := hdig h3
       have hW := Jqj (b :: r) d1 d2
       have hb := Jpi d2
       have hp := @Joc (b :: r).length d1
       have e3 : valOf (b :: r) = Jcp (b :: r) := by unfold valOf; rw [if_neg (by rw [e2, h3]; simp), hsg]; rfl
       rw [e2, e3, h3]
       simp [h3]
       refine Jab hW ?_
       simp
       refine ⟨wrap_i64 (by omega) (by omega), ?_⟩
       simp [Jaa]
     . have e3 : valOf (b :: r) = 0 := by unfold valOf; rw [if_pos (by rw [e2]; exact h3)]
       rw [e2, e3]
       simp [h3]
       simp [Jaa]
set_option maxRecDepth 20000 in
theorem Jj0 (w : Txt) : Pure Tryz.prog GL 236 [.p (.str w)] (.tup [.p (.int .i64 (if Ja5 w < 0 then 0 else Ja5 w)), .p (.int .i64 (if Ja5 w < 0 then 6 else 0))]) := by
 refine Pure.of_walk (N := 21) Tryz.func236 rfl rfl rfl (by simp) (by first | (simp; done) | simp [*]) ?_
 have hrl : Jfd.length = 14 := by simp [Jfd]
 simp
 refine Jab Jql ?_
 simp
 refine Jah.go [0, 4] [] 0 [] (fun _ => []) (fun _ (k : Nat) => [(5, .p (.int .i64 k))]) (fun _ _ => []) (fun k => k <= 14 /\ ∀ (j : Nat) x, j < k -> (List.range 14)[j]? = some x -> decide (Jcu x = w) = false) (fun k => 14 - k) 0 ⟨by omega, fun j b h => by omega⟩ ?_ ?_
 . simp
 . rintro k ⟨hk, hp⟩
   simp [hrl]
   refine Jac (fun h => ?_) (fun h => ?_)
   . simp at h
     have h14 : k < 14 := by omega
     have hk2 : k < Jfd.length := by omega
     have hk3 : (k : Int) < (Jfd.length : Int) := by omega
     have f0 := J49 (k := k)
     have e : (List.range 14)[k]? = some k := by simp [h14]
     simp [Jun h14, hk2, f0, hk3, -getElem?_pos, List.getElem?_cons_zero, List.getElem?_cons_succ]
     refine Jac (fun h2 => ?_) (fun h2 => ?_)
     . have hi : Ja5 w = k := by unfold Ja5; exact Jd7 e h2 hp
       simp [Jaa, hi]
       omega
     . have hnx := Jdw hp e h2
       simp
       refine ⟨wrap_i64 (by omega) (by omega), k + 1, ⟨by omega, fun j y hj hy => by have := hnx j y hj (by simpa using hy); simpa using this⟩, by omega, ?_⟩
       simp
   . simp at h
     have hk2 : k = 14 := by omega
     subst hk2
     have hno : Ja5 w = -1 := by unfold Ja5; exact Jd8 fun x hx => by obtain ⟨j, ej⟩ := List.mem_iff_getElem?.1 hx; exact hp j x (by have := (gsI.1 ej).1; simpa using this) ej
     simp [Jaa, hno]
end Go.Am
namespace Go.Am
open Go Go.Proofs Go.Pn
theorem Jsk {σ : List Nat} {s : Store} {b b' k : Nat} {rows : List (List AV)} (hσ : σ[b]? = some b') (hr : renR σ rows = some rows) (hg : get s b' = accB k rows) :
   (match accB k rows with
   | some y => Jal σ[b]? fun b' => Jal (renB σ y) fun y' => get s b' = some y'
   | none => True) := by
 rw [hσ]
 unfold accB at hg ⊢
 by_cases hz : rows = []
 . rw [if_pos hz]; trivial
 . rw [if_neg hz] at hg ⊢
   simp [renB, hr, hg]
theorem Jip {ps : List Part} {xs : List EndP} {s : Store} {nx d m q : Nat} {x : PV} (hnd : [d, m, q].Nodup) (hlt : ∀ b ∈ [d, m, q], b < nx)
   (g0 : get s d = some (.cells 2 [[.acc m 3 ps.length, .acc q 4 xs.length]])) (g1 : get s m = accB 3 (ps.map Part.row)) (g2 : get s q = accB 4 (xs.map EndP.row)) :
   Jjn [d, m, q] nx [(0, some (.cells 2 [[.acc 1 3 ps.length, .acc 2 4 xs.length]])), (1, accB 3 (ps.map Part.row)), (2, accB 4 (xs.map EndP.row))] s [.ptr 0 2 0 0, .p x] [.ptr d 2 0 0, .p x] := by
 refine ⟨⟨?_, Jsk rfl (Jcs fun _ => rfl) g1, Jsk rfl (Jcs fun _ => rfl) g2, trivial⟩, fun b b' hb h9 => ?_, hnd, hlt, ?_⟩
 . simp [g0]
 . match b, hb with
   | 0, hb => exact ⟨_, rfl⟩
   | 1, hb =>
     cases hb
     rw [g1] at h9
     show ∃ y, accB 3 (ps.map Part.row) = some y
     cases h : accB 3 (ps.map Part.row) with
     | none => exact absurd h h9
     | some y => exact ⟨y, rfl⟩
   | 2, hb =>
     cases hb
     rw [g2] at h9
     show ∃ y, accB 4 (xs.map EndP.row) = some y
     cases h : accB 4 (xs.map EndP.row) with
     | none => exact absurd h h9
     | some y => exact ⟨y, rfl⟩
 . simp
theorem Jtm {ps : List Part} {a b : Txt} {o : Option Txt} (h : Jam ps a b o = 0) : ¬ Ja5 b < 0 /\ Jfc o = 0 /\ Ja2 (partOf a b o) = 0 /\ a ∉ ps.map (·.name) /\ ps.length ≠ 64 /\ Jar ps a b o = ps ++ [partOf a b o] := by
 have h0 := h
 unfold Jam at h
 by_cases h1 : Ja5 b < 0
 . rw [if_pos h1] at h; cases h
 rw [if_neg h1] at h
 by_cases h2 : Jfc o = 0
 . rw [if_neg (by simpa using h2)] at h
   by_cases h3 : Ja2 (partOf a b o) = 0
   . rw [if_neg (by simpa using h3)] at h
     by_cases h4 : a ∈ ps.map (·.name)
     . rw [if_pos h4] at h; cases h
     . rw [if_neg h4] at h
       by_cases h5 : ps.length = 64
       . rw [if_pos h5] at h; cases h
       . exact ⟨h1, h2, h3, h4, h5, by unfold Jar; rw [if_pos h0]⟩
   . rw [if_pos h3] at h; exact absurd h h3
 . rw [if_pos h2] at h; exact absurd h h2
theorem Jlh {ps : List Part} {a : Txt} (h : a ∉ ps.map (·.name)) : idxI ps (fun p => decide (p.name = a)) = -1 :=
 Jd8 fun p hp => by
   rw [decide_eq_false_iff_not]
   exact fun e => h (List.mem_map.2 ⟨p, hp, e⟩)
theorem Jt4 {ps : List Part} {a : Txt} (h : a ∈ ps.map (·.name)) : 0 <= idxI ps (fun p => decide (p.name = a)) := by
 obtain ⟨p, hp, e⟩ := List.mem_map.1 h
 exact Jkp.2 (List.any_eq_true.2 ⟨p, hp, by simpa using e⟩)
set_option maxRecDepth 20000 in
theorem Jx8 (D : Drf) (h a b : Txt) (hD : D.parts.length <= 64) (ha : a.length <= 100000) (he : Jam D.parts a b none ≠ 0) : Pure Tryz.prog GL 159 [.iptr 2 [D.row] 0 0, .p (.lst 1 [[.str h], [.str a], [.str b]])] (.p (.int .i64 (Jam D.parts a b none))) := by
 refine Pure.of_walk (N := 75) Tryz.func159 rfl rfl rfl (by simp) rfl ?_
 have hK := Jj0 b
 have hC := Jie (partOf a b none) (by show a.length < _; omega)
 have hPl := Jj2 D a (by omega)
 have hv : Jfc none = 0 := rfl
 simp
 refine Jab hK ?_
 by_cases h1 : Ja5 b < 0
 . have e1 : Jam D.parts a b none = 6 := by unfold Jam; rw [if_pos h1]
   rw [e1]
   simp [h1, Jaa]
 . have hpa : AV.agg [.p (.int .i64 (Ja5 b)), .p (.str a), .p (.int .i64 0)] = (partOf a b none).av := rfl
   simp [h1]
   generalize hP : partOf a b none = p at hC hpa
   rw [hpa]
   refine Jab hC ?_
   by_cases h2 : Ja2 p = 0
   . simp [h2]
     refine Jab hPl ?_
     by_cases h3 : a ∈ D.parts.map (·.name)
     . have e1 : Jam D.parts a b none = 7 := by unfold Jam; rw [if_neg h1, if_neg (by simpa using hv), hP, if_neg (by simpa using h2), if_pos h3]
       have h4 := Jt4 h3
       simp [h4, Jaa, e1]
     . by_cases h5 : D.parts.length = 64
       . have e1 : Jam D.parts a b none = 5 := by unfold Jam; rw [if_neg h1, if_neg (by simpa using hv), hP, if_neg (by simpa using h2), if_neg h3, if_pos h5]
         have h4 := Jlh h3
         have h5' : (D.parts.length : Int) = 64 := by omega
         rw [h4]
         simp [h5, h5', Jaa, e1, Drf.row]
       . exact absurd (by unfold Jam; rw [if_neg h1, if_neg (by simpa using hv), hP, if_neg (by simpa using h2), if_neg h3, if_neg h5]) he
   . have e1 : Jam D.parts a b none = Ja2 p := by unfold Jam; rw [if_neg h1, if_neg (by simpa using hv), hP, if_pos h2]
     simp [h2, e1, Jaa]
set_option maxRecDepth 20000 in
theorem Jx9 (D : Drf) (h a b c : Txt) (hD : D.parts.length <= 64) (ha : a.length <= 100000) (hc : c.length <= 100000) (he : Jam D.parts a b (some c) ≠ 0) : Pure Tryz.prog GL 159 [.iptr 2 [D.row] 0 0, .p (.lst 1 [[.str h], [.str a], [.str b], [.str c]])] (.p (.int .i64 (Jam D.parts a b (some c)))) := by
 refine Pure.of_walk (N := 75) Tryz.func159 rfl rfl rfl (by simp) rfl ?_
 have hK := Jj0 b
 have hV := Jp6 c hc
 have hC := Jie (partOf a b (some c)) (by show a.length < _; omega)
 have hPl := Jj2 D a (by omega)
 simp
 refine Jab hK ?_
 by_cases h1 : Ja5 b < 0
 . have e1 : Jam D.parts a b (some c) = 6 := by unfold Jam; rw [if_pos h1]
   rw [e1]
   simp [h1, Jaa]
 . have hpa : AV.agg [.p (.int .i64 (Ja5 b)), .p (.str a), .p (.int .i64 (valOf c))] = (partOf a b (some c)).av := rfl
   simp [h1]
   refine Jab hV ?_
   by_cases hv : Jfc (some c) = 0
   . have hv' : Jbr c = 0 := hv
     simp [hv']
     generalize hP : partOf a b (some c) = p at hC hpa
     rw [hpa]
     refine Jab hC ?_
     by_cases h2 : Ja2 p = 0
     . simp [h2]
       refine Jab hPl ?_
       by_cases h3 : a ∈ D.parts.map (·.name)
       . have e1 : Jam D.parts a b (some c) = 7 := by unfold Jam; rw [if_neg h1, if_neg (by simpa using hv), hP, if_neg (by simpa using h2), if_pos h3]
         have h4 := Jt4 h3
         simp [h4, Jaa, e1]
       . by_cases h5 : D.parts.length = 64
         . have e1 : Jam D.parts a b (some c) = 5 := by unfold Jam; rw [if_neg h1, if_neg (by simpa using hv), hP, if_neg (by simpa using h2), if_neg h3, if_pos h5]
           have h4 := Jlh h3
           have h5' : (D.parts.length : Int) = 64 := by omega
           rw [h4]
           simp [h5, h5', Jaa, e1, Drf.row]
         . exact absurd (by unfold Jam; rw [if_neg h1, if_neg (by simpa using hv), hP, if_neg (by simpa using h2), if_neg h3, if_neg h5]) he
     . have e1 : Jam D.parts a b (some c) = Ja2 p := by unfold Jam; rw [if_neg h1, if_neg (by simpa using hv), hP, if_pos h2]
       simp [h2, e1, Jaa]
   . have e1 : Jam D.parts a b (some c) = Jbr c := by unfold Jam; rw [if_neg h1, if_pos hv]; rfl
     have hv' : ¬ Jbr c = 0 := hv
     rw [e1]
     simp [hv', Jaa]
set_option maxRecDepth 20000 in
theorem Jmz (D : Drf) (h : Txt) (t : List Txt) (h2 : t.length ≠ 2) (h3 : t.length ≠ 3) : Pure Tryz.prog GL 159 [.iptr 2 [D.row] 0 0, .p (.lst 1 ((h :: t).map Txt.enc))] (.p (.int .i64 4)) := by
 refine Pure.of_walk (N := 75) Tryz.func159 rfl rfl rfl (by simp) rfl ?_
 have a1 : ¬ ((t.length : Int) + 1 = 3) := by omega
 have a2 : ¬ ((t.length : Int) + 1 = 4) := by omega
 simp [a1, a2]
 try simp [a1, a2, Jaa]
set_option maxRecDepth 20000 in
theorem J0w (ps : List Part) (xs : List EndP) (h a b : Txt) (hps : ps.length <= 64) (ha : a.length <= 100000) (he : Jam ps a b none = 0) (s : Store) (nx d m q : Nat) (hnd : [d, m, q].Nodup) (hlt : ∀ b ∈ [d, m, q], b < nx)
   (g0 : get s d = some (.cells 2 [[.acc m 3 ps.length, .acc q 4 xs.length]])) (g1 : get s m = accB 3 (ps.map Part.row)) (g2 : get s q = accB 4 (xs.map EndP.row)) :
   Gives Tryz.prog GL 159 [.ptr d 2 0 0, .p (.lst 1 [[.str h], [.str a], [.str b]])] s nx (.p (.int .i64 0)) [d, m, q]
     [(d, some (.cells 2 [[.acc nx 3 (Jar ps a b none).length, .acc q 4 xs.length]])), (nx, accB 3 ((Jar ps a b none).map Part.row)), (m, none)] (nx + 1) := by
 refine Gives.mk_walkA (N := 75) (args := [.ptr 0 2 0 0, .p (.lst 1 [[.str h], [.str a], [.str b]])]) [d, m, q] [1] [(0, some (.cells 2 [[.acc 1 3 ps.length, .acc 2 4 xs.length]])), (1, accB 3 (ps.map Part.row)), (2, accB 4 (xs.map EndP.row))]
   [(0, some (.cells 2 [[.acc 3 3 (Jar ps a b none).length, .acc 2 4 xs.length]])), (3, accB 3 ((Jar ps a b none).map Part.row))] 3 1 (.p (.int .i64 0)) (fun st => [Jg0 0 st]) (up1 := [(d, some (.cells 2 [[.acc nx 3 (Jar ps a b none).length, .acc q 4 xs.length]])), (nx, accB 3 ((Jar ps a b none).map Part.row))]) Tryz.func159 rfl rfl rfl (by simp) rfl (Jip hnd hlt g0 g1 g2) (by simp) rfl (Ji4 (by simp [renS, Jbb]) (Ji3 (by simp [Jbb]) (Jcs fun _ => rfl))) (by simp) rfl ?_
 obtain ⟨h1, hv, h2, h3, h5, hR⟩ := Jtm he
 have hK := Jj0 b
 have hC := Jie (partOf a b none) (by show a.length < _; omega)
 rw [hR]
 simp
 refine Jab hK ?_
 have hpa : AV.agg [.p (.int .i64 (Ja5 b)), .p (.str a), .p (.int .i64 0)] = (partOf a b none).av := rfl
 simp [h1]
 generalize partOf a b none = p at *
 rw [hpa]
 refine Jab hC ?_
 simp [h2]
 refine Ja4 (Jrr ps xs a (by omega) _ _ 0 1 2 rfl rfl rfl) ?_
 rw [Jlh h3]
 have h5' : ¬ ((ps.length : Int) = 64) := by omega
 simp [h5']
 refine Jaj.intro (by kernel_rfl) ?_
 simp
 obtain ⟨k1, k2, k3⟩ : Ja5 b = p.kind /\ a = p.name /\ 0 = p.delay := by simpa using hpa
 refine ⟨by omega, .of (by kernel_rfl), ⟨?_, ?_⟩, by decide⟩
 . rw [k1, k2, k3]
   have e : List.map Part.row ps ++ [[.p (.int .i64 p.kind), .p (.str p.name), .p (.int .i64 p.delay)]] = List.map Part.row (ps ++ [p]) := by simp
   rw [e]
   have hP1 : renR (List.range 3 ++ [5]) (List.map Part.row (ps ++ [p])) = some (List.map Part.row (ps ++ [p])) := Jcs fun _ => rfl
   unfold accB
   by_cases hz : List.map Part.row (ps ++ [p]) = []
   . rw [if_pos hz]; trivial
   . rw [if_neg hz]; simp only [hP1, Option.map_some, Jc6]
 . have hX1 : renR (List.range 3 ++ [5]) (List.map EndP.row xs) = some (List.map EndP.row xs) := Jcs fun _ => rfl
   unfold accB
   by_cases hz : List.map EndP.row xs = []
   . rw [if_pos hz]; trivial
   . rw [if_neg hz]; simp only [hX1, Option.map_some, Jc6]
set_option maxRecDepth 20000 in
theorem J0x (ps : List Part) (xs : List EndP) (h a b c : Txt) (hps : ps.length <= 64) (ha : a.length <= 100000) (hc : c.length <= 100000) (he : Jam ps a b (some c) = 0) (s : Store) (nx d m q : Nat) (hnd : [d, m, q].Nodup) (hlt : ∀ b ∈ [d, m, q], b < nx)
   (g0 : get s d = some (.cells 2 [[.acc m 3 ps.length, .acc q 4 xs.length]])) (g1 : get s m = accB 3 (ps.map Part.row)) (g2 : get s q = accB 4 (xs.map EndP.row)) :
   Gives Tryz.prog GL 159 [.ptr d 2 0 0, .p (.lst 1 [[.str h], [.str a], [.str b], [.str c]])] s nx (.p (.int .i64 0)) [d, m, q]
     [(d, some (.cells 2 [[.acc nx 3 (Jar ps a b (some c)).length, .acc q 4 xs.length]])), (nx, accB 3 ((Jar ps a b (some c)).map Part.row)), (m, none)] (nx + 1) := by
 refine Gives.mk_walkA (N := 75) (args := [.ptr 0 2 0 0, .p (.lst 1 [[.str h], [.str a], [.str b], [.str c]])]) [d, m, q] [1] [(0, some (.cells 2 [[.acc 1 3 ps.length, .acc 2 4 xs.length]])), (1, accB 3 (ps.map Part.row)), (2, accB 4 (xs.map EndP.row))]
   [(0, some (.cells 2 [[.acc 3 3 (Jar ps a b (some c)).length, .acc 2 4 xs.length]])), (3, accB 3 ((Jar ps a b (some c)).map Part.row))] 3 1 (.p (.int .i64 0)) (fun st => [Jg0 0 st]) (up1 := [(d, some (.cells 2 [[.acc nx 3 (Jar ps a b (some c)).length, .acc q 4 xs.length]])), (nx, accB 3 ((Jar ps a b (some c)).map Part.row))]) Tryz.func159 rfl rfl rfl (by simp) rfl (Jip hnd hlt g0 g1 g2) (by simp) rfl (Ji4 (by simp [renS, Jbb]) (Ji3 (by simp [Jbb]) (Jcs fun _ => rfl))) (by simp) rfl ?_
 obtain ⟨h1, hv, h2, h3, h5, hR⟩ := Jtm he
 have hK := Jj0 b
 have hV := Jp6 c hc
 have hC := Jie (partOf a b (some c)) (by show a.length < _; omega)
 have hv' : Jbr c = 0 := hv
 rw [hR]
 simp
 refine Jab hK ?_
 have hpa : AV.agg [.p (.int .i64 (Ja5 b)), .p (.str a), .p (.int .i64 (valOf c))] = (partOf a b (some c)).av := rfl
 simp [h1]
 refine Jab hV ?_
 simp [hv']
 generalize partOf a b (some c) = p at *
 rw [hpa]
 refine Jab hC ?_
 simp [h2]
 refine Ja4 (Jrr ps xs a (by omega) _ _ 0 1 2 rfl rfl rfl) ?_
 rw [Jlh h3]
 have h5' : ¬ ((ps.length : Int) = 64) := by omega
 simp [h5']
 refine Jaj.intro (by kernel_rfl) ?_
 simp
 obtain ⟨k1, k2, k3⟩ : Ja5 b = p.kind /\ a = p.name /\ valOf c = p.delay := by simpa using hpa
 refine ⟨by omega, .of (by kernel_rfl), ⟨?_, ?_⟩, by decide⟩
 . rw [k1, k2, k3]
   have e : List.map Part.row ps ++ [[.p (.int .i64 p.kind), .p (.str p.name), .p (.int .i64 p.delay)]] = List.map Part.row (ps ++ [p]) := by simp
   rw [e]
   have hP1 : renR (List.range 3 ++ [5]) (List.map Part.row (ps ++ [p])) = some (List.map Part.row (ps ++ [p])) := Jcs fun _ => rfl
   unfold accB
   by_cases hz : List.map Part.row (ps ++ [p]) = []
   . rw [if_pos hz]; trivial
   . rw [if_neg hz]; simp only [hP1, Option.map_some, Jc6]
 . have hX1 : renR (List.range 3 ++ [5]) (List.map EndP.row xs) = some (List.map EndP.row xs) := Jcs fun _ => rfl
   unfold accB
   by_cases hz : List.map EndP.row xs = []
   . rw [if_pos hz]; trivial
   . rw [if_neg hz]; simp only [hX1, Option.map_some, Jc6]
end Go.Am
namespace Go.Am
open Go Go.Proofs Go.Pn
theorem gEq {y z : EndP} (h : z = y) : (decide (z.1.part = y.1.part) && (decide (z.1.port = y.1.port) && (decide (z.2.part = y.2.part) && decide (z.2.port = y.2.port)))) = true /\ (!decide (z.1.part = y.1.part) || (!decide (z.1.port = y.1.port) || (!decide (z.2.part = y.2.part) || !decide (z.2.port = y.2.port)))) = false := by
 subst h; simp
theorem gNe {y z : EndP} (h : ¬ z = y) : (decide (z.1.part = y.1.part) && (decide (z.1.port = y.1.port) && (decide (z.2.part = y.2.part) && decide (z.2.port = y.2.port)))) = false /\ (!decide (z.1.part = y.1.part) || (!decide (z.1.port = y.1.port) || (!decide (z.2.part = y.2.part) || !decide (z.2.port = y.2.port)))) = true := by
 have h1 : (decide (z.1.part = y.1.part) && (decide (z.1.port = y.1.port) && (decide (z.2.part = y.2.part) && decide (z.2.port = y.2.port)))) = false := by rw [<- Bool.decide_and, <- Bool.decide_and, <- Bool.decide_and, Jzk]; exact decide_eq_false h
 exact ⟨h1, by rw [<- Bool.not_and, <- Bool.not_and, <- Bool.not_and, h1]; rfl⟩
theorem J4c {d : Drf} {a b : Txt} (h : Jbp d a b = 0) : Jbc d.parts a = 0 /\ Jbc d.parts b = 0 /\ Jas d.parts a ≠ Jas d.parts b /\ ordX (Jas d.parts a, Jas d.parts b) ∉ d.pipes.map ordX /\ d.pipes.length ≠ 256 /\ Jbk d a b = d.pipes ++ [(Jas d.parts a, Jas d.parts b)] := by
 have h0 := h
 unfold Jbp at h
 by_cases h1 : Jbc d.parts a = 0
 . rw [if_neg (by simpa using h1)] at h
   by_cases h2 : Jbc d.parts b = 0
   . rw [if_neg (by simpa using h2)] at h
     by_cases h3 : Jas d.parts a = Jas d.parts b \/ ordE (Jas d.parts a) (Jas d.parts b) ∈ d.pipes.map ordX
     . rw [if_pos h3] at h; cases h
     . rw [if_neg h3] at h
       by_cases h5 : d.pipes.length = 256
       . rw [if_pos h5] at h; cases h
       . exact ⟨h1, h2, fun e => h3 (.inl e), fun e => h3 (.inr e), h5, by unfold Jbk; rw [if_pos h0]⟩
   . rw [if_pos h2] at h; exact absurd h h2
 . rw [if_pos h1] at h; exact absurd h h1
theorem J51 {X : List EndP} {y : EndP} : Jgo X y X.length = false ↔ ordX y ∉ X.map ordX := by rw [J50]; simp
set_option maxRecDepth 20000 in
theorem Jm0 (D : Drf) (h : Txt) (t : List Txt) (h2 : t.length ≠ 2) : Pure Tryz.prog GL 160 [.iptr 2 [D.row] 0 0, .p (.lst 1 ((h :: t).map Txt.enc))] (.p (.int .i64 4)) := by
 refine Pure.of_walk (N := 84) Tryz.func160 rfl rfl rfl (by simp) rfl ?_
 have a1 : ¬ ((t.length : Int) + 1 = 3) := by omega
 simp [a1]
 try simp [a1, Jaa]
set_option maxRecDepth 20000 in
theorem Jye (D : Drf) (h a b : Txt) (hk : ∀ p ∈ D.parts, 0 <= p.kind /\ p.kind < 14) (hn : (D.parts.map (·.name)).Nodup) (hp : D.parts.length <= 64) (hx : D.pipes.length <= 256) (ha : a.length <= 100000) (hb : b.length <= 100000) (he : Jbp D a b ≠ 0) : Pure Tryz.prog GL 160 [.iptr 2 [D.row] 0 0, .p (.lst 1 [[.str h], [.str a], [.str b]])] (.p (.int .i64 (Jbp D a b))) := by
 refine Pure.of_walk (N := 84) Tryz.func160 rfl rfl rfl (by simp) rfl ?_
 have hA := Jm4 D a hk hn (by omega) ha
 have hB := Jm4 D b hk hn (by omega) hb
 simp
 refine Jab hA ?_
 by_cases e1 : Jbc D.parts a = 0
 . simp [e1]
   refine Jab hB ?_
   by_cases e2 : Jbc D.parts b = 0
   . simp [e2]
     have hE : Jbp D a b = if Jas D.parts a = Jas D.parts b \/ ordX (Jas D.parts a, Jas D.parts b) ∈ D.pipes.map ordX then 7 else if D.pipes.length = 256 then 5 else 0 := by
       unfold Jbp; rw [if_neg (by simpa using e1), if_neg (by simpa using e2)]; rfl
     rw [hE] at he ⊢
     generalize Jas D.parts a = A at *
     generalize Jas D.parts b = B at *
     refine Jah.go [0, 5, 7] [0, 1] 0 [] (fun _ => []) (fun _ (k : Nat) => [(8, .p (.int .i64 k))]) (fun _ _ => []) (fun k => k <= D.pipes.length /\ Jgo D.pipes (A, B) k = false) (fun k => D.pipes.length - k) 0 ⟨by omega, rfl⟩ ?_ ?_
     . simp
       try decide
     rintro k ⟨hk2, ht⟩
     simp [Drf.row]
     refine Jac (fun h3 => ?_) (fun h3 => ?_)
     . simp at h3
       obtain ⟨z, e⟩ := Jag h3
       have htk := J52 (y := (A, B)) e
       rw [ht, Bool.false_or] at htk
       have hmem : (z = (A, B) \/ z = (B, A)) -> ordX (A, B) ∈ D.pipes.map ordX := fun h9 => by
         refine List.mem_map.2 ⟨z, List.mem_of_getElem? e, ?_⟩
         rcases h9 with rfl | rfl
         . rfl
         . exact Jlc
       by_cases hzy : z = (A, B)
       . rw [if_pos (.inr (hmem (.inl hzy)))]
         obtain ⟨gF, gT⟩ := gEq hzy
         simp only at gF gT
         simp [h3, e, EndP.enc, Drf.row, Jmf, gF, gT, -getElem?_pos, List.getElem?_cons_zero, List.getElem?_cons_succ]
         simp [Jaa]
       . obtain ⟨gF, gT⟩ := gNe hzy
         simp only at gF gT
         by_cases hzs : z = (B, A)
         . rw [if_pos (.inr (hmem (.inr hzs)))]
           obtain ⟨sF, sT⟩ := gEq hzs
           simp only at sF sT
           simp [h3, e, EndP.enc, Drf.row, Jmf, gF, gT, sF, sT, -getElem?_pos, List.getElem?_cons_zero, List.getElem?_cons_succ]
           simp [Jaa]
         . obtain ⟨sF, sT⟩ := gNe hzs
           simp only at sF sT
           rw [decide_eq_false hzy, decide_eq_false hzs] at htk
           simp [h3, e, EndP.enc, Drf.row, Jmf, gF, gT, sF, sT, -getElem?_pos, List.getElem?_cons_zero, List.getElem?_cons_succ]
           refine ⟨wrap_i64 (by omega) (by omega), k + 1, ⟨by omega, htk⟩, by omega, ?_⟩
           simp [Drf.row]
           try decide
     . simp at h3
       have hkn : k = D.pipes.length := by omega
       subst hkn
       have hno := J51.1 ht
       by_cases hAB : A = B
       . subst hAB
         rw [if_pos (.inl rfl)]
         simp [Jaa]
       . rw [if_neg (fun h9 => h9.elim hAB hno)] at he ⊢
         have hAB' : ¬ (A.part = B.part /\ A.port = B.port) := fun h9 => hAB (by cases A; cases B; simp at h9; simp [h9])
         by_cases h5 : D.pipes.length = 256
         . have h5' : (D.pipes.length : Int) = 256 := by omega
           rw [if_pos h5]
           simp [hAB', h5, h5', Jaa, Drf.row]
         . rw [if_neg h5] at he
           exact absurd rfl he
   . have hE : Jbp D a b = Jbc D.parts b := by unfold Jbp; rw [if_neg (by simpa using e1), if_pos e2]
     rw [hE]
     simp [e2, Jaa]
 . have hE : Jbp D a b = Jbc D.parts a := by unfold Jbp; rw [if_pos e1]
   rw [hE]
   simp [e1, Jaa]
theorem Jrs (ps : List Part) (xs : List EndP) (t : Txt) (hk : ∀ p ∈ ps, 0 <= p.kind /\ p.kind < 14) (hn : (ps.map (·.name)).Nodup) (hp : ps.length < 100000) (hl : t.length <= 100000) (s : Store) (nx d m q : Nat)
   (g0 : get s d = some (.cells 2 [[.acc m 3 ps.length, .acc q 4 xs.length]])) (g1 : get s m = accB 3 (ps.map Part.row)) (g2 : get s q = accB 4 (xs.map EndP.row)) :
   Gives Tryz.prog GL 238 [.ptr d 2 0 0, .p (.str t)] s nx (.tup [(Jas ps t).av, .p (.int .i64 (Jbc ps t))]) [d, m, q] [] nx :=
 (Jm4 ⟨ps, xs⟩ t hk hn hp hl).lend rfl (fun i a x ha hx => by
   match i with
   | 0 => cases ha; cases hx; exact Jkb g0 g1 g2
   | 1 => cases ha; cases hx; exact .same _ rfl
   | i + 2 => cases hx) rfl
set_option maxRecDepth 20000 in
theorem J0y (ps : List Part) (xs : List EndP) (h a b : Txt) (hk : ∀ p ∈ ps, 0 <= p.kind /\ p.kind < 14) (hn : (ps.map (·.name)).Nodup) (hp : ps.length <= 64) (hx : xs.length <= 256) (ha : a.length <= 100000) (hb : b.length <= 100000) (he : Jbp ⟨ps, xs⟩ a b = 0) (s : Store) (nx d m q : Nat) (hnd : [d, m, q].Nodup) (hlt : ∀ b ∈ [d, m, q], b < nx)
   (g0 : get s d = some (.cells 2 [[.acc m 3 ps.length, .acc q 4 xs.length]])) (g1 : get s m = accB 3 (ps.map Part.row)) (g2 : get s q = accB 4 (xs.map EndP.row)) :
   Gives Tryz.prog GL 160 [.ptr d 2 0 0, .p (.lst 1 [[.str h], [.str a], [.str b]])] s nx (.p (.int .i64 0)) [d, m, q]
     [(d, some (.cells 2 [[.acc m 3 ps.length, .acc nx 4 (Jbk ⟨ps, xs⟩ a b).length]])), (nx, accB 4 ((Jbk ⟨ps, xs⟩ a b).map EndP.row)), (q, none)] (nx + 1) := by
 refine Gives.mk_walkA (N := 84) (args := [.ptr 0 2 0 0, .p (.lst 1 [[.str h], [.str a], [.str b]])]) [d, m, q] [2] [(0, some (.cells 2 [[.acc 1 3 ps.length, .acc 2 4 xs.length]])), (1, accB 3 (ps.map Part.row)), (2, accB 4 (xs.map EndP.row))]
   [(0, some (.cells 2 [[.acc 1 3 ps.length, .acc 3 4 (Jbk ⟨ps, xs⟩ a b).length]])), (3, accB 4 ((Jbk ⟨ps, xs⟩ a b).map EndP.row))] 3 1 (.p (.int .i64 0)) (fun st => [Jif 0 st]) (up1 := [(d, some (.cells 2 [[.acc m 3 ps.length, .acc nx 4 (Jbk ⟨ps, xs⟩ a b).length]])), (nx, accB 4 ((Jbk ⟨ps, xs⟩ a b).map EndP.row))]) Tryz.func160 rfl rfl rfl (by simp) rfl (Jip hnd hlt g0 g1 g2) (by simp) rfl (Ji4 (by simp [renS, Jbb]) (Ji3 (by simp [Jbb]) (Jcs fun _ => rfl))) (by simp) rfl ?_
 obtain ⟨e1, e2, hAB, hno, h5, hR⟩ := J4c he
 simp only at e1 e2 hAB hno h5 hR
 rw [hR]
 simp
 refine Ja4 (Jrs ps xs a hk hn (by omega) ha _ _ 0 1 2 rfl rfl rfl) ?_
 simp [e1]
 refine Ja4 (Jrs ps xs b hk hn (by omega) hb _ _ 0 1 2 rfl rfl rfl) ?_
 simp [e2]
 generalize Jas ps a = A at *
 generalize Jas ps b = B at *
 refine Jah.go [0, 5, 7] [0, 1, 2, 3, 4] 0 [] (fun _ => []) (fun _ (k : Nat) => [(8, .p (.int .i64 k))]) (fun _ _ => []) (fun k => k <= xs.length) (fun k => xs.length - k) 0 (by omega) ?_ ?_
 . simp
   try decide
 intro k hk2
 simp
 refine Jac (fun h3 => ?_) (fun h3 => ?_)
 . simp at h3
   obtain ⟨z, e⟩ := Jag h3
   have hXne : ¬ xs = [] := fun h9 => by rw [h9] at h3; simp at h3
   have hzy : ¬ z = (A, B) := fun h9 => hno (List.mem_map.2 ⟨z, List.mem_of_getElem? e, by rw [h9]⟩)
   have hzs : ¬ z = (B, A) := fun h9 => hno (List.mem_map.2 ⟨z, List.mem_of_getElem? e, by rw [h9]; exact Jlc⟩)
   obtain ⟨gF, gT⟩ := gNe hzy
   obtain ⟨sF, sT⟩ := gNe hzs
   simp only at gF gT sF sT
   simp [h3, e, hXne, Jmf, gF, gT, sF, sT, -getElem?_pos, List.getElem?_cons_zero, List.getElem?_cons_succ]
   refine ⟨wrap_i64 (by omega) (by omega), k + 1, by omega, by omega, ?_⟩
   simp
   try decide
 . simp at h3
   have hkn : k = xs.length := by omega
   subst hkn
   have hAB' : ¬ (A.part = B.part /\ A.port = B.port) := fun h9 => hAB (by cases A; cases B; simp at h9; simp [h9])
   have h5' : ¬ ((xs.length : Int) = 256) := by omega
   simp [hAB', h5']
   refine Jaj.intro (by kernel_rfl) ?_
   simp
   refine ⟨by omega, fun r a b _ e => by subst e; rfl, .of (by kernel_rfl), ⟨?_, ?_⟩, by decide⟩
   . have e : List.map EndP.row xs ++ [[.p (.str A.part), .p (.str A.port), .p (.str B.part), .p (.str B.port)]] = List.map EndP.row (xs ++ [(A, B)]) := by simp [EndP.row]
     rw [e]
     have hP1 : renR (List.range 3 ++ [6]) (List.map EndP.row (xs ++ [(A, B)])) = some (List.map EndP.row (xs ++ [(A, B)])) := Jcs fun _ => rfl
     unfold accB
     by_cases hz : List.map EndP.row (xs ++ [(A, B)]) = []
     . rw [if_pos hz]; trivial
     . rw [if_neg hz]; simp only [hP1, Option.map_some, Jc6]
   . have hX1 : renR (List.range 3 ++ [6]) (List.map Part.row ps) = some (List.map Part.row ps) := Jcs fun _ => rfl
     unfold accB
     by_cases hz : List.map Part.row ps = []
     . rw [if_pos hz]; trivial
     . rw [if_neg hz]; simp only [hX1, Option.map_some, Jc6]
end Go.Am
namespace Go.Am
open Go Go.Proofs Go.Pn
theorem Jki : ∀ {t cur w : Txt}, w ∈ fldG cur t -> w ≠ []
 | [], cur, w, h => by
   unfold fldG at h
   split at h
   . cases h
   . rename_i hc
     simp only [List.mem_cons, List.not_mem_nil, or_false] at h
     subst h; exact hc
 | b :: t, cur, w, h => by
   unfold fldG at h
   split at h
   . split at h
     . exact Jki h
     . rename_i hc
       rcases List.mem_cons.1 h with rfl | h
       . exact hc
       . exact Jki h
   . exact Jki h
theorem Jz8 {l w : Txt} (h : w ∈ fldR l) : w ≠ [] := by
 rw [Jkk] at h
 exact Jki h
def Jk3 (D : Drf) (w : List Txt) : Prop := w = [] \/ (∃ h t, w = h :: t /\ h.head? = some 35) \/ Jgs D w ≠ 0
theorem J34 {ps : List Part} {t : List Txt} (h : Jbw ps t ≠ 0) : Jau ps t = ps := by
 unfold Jbw at h
 unfold Jau
 split
 . unfold Jar; rw [if_neg h]
 . unfold Jar; rw [if_neg h]
 . rfl
theorem J4i {d : Drf} {t : List Txt} (h : Jbz d t ≠ 0) : Ja0 d t = d.pipes := by
 unfold Jbz at h
 unfold Ja0
 split
 . unfold Jbk; rw [if_neg h]
 . rfl
theorem J12 {D : Drf} {w : List Txt} (h : Jk3 D w) : Jfg D w = D := by
 rcases h with rfl | ⟨a, t, rfl, e⟩ | h
 . rfl
 . rw [Jev, if_pos e]
 . match w, h with
   | [], h => rfl
   | a :: t, h =>
     rw [Jdn] at h
     rw [Jev]
     by_cases h1 : a.head? = some 35
     . rw [if_pos h1]
     . rw [if_neg h1] at h ⊢
       by_cases h2 : a = Jby
       . rw [if_pos h2] at h ⊢
         rw [J34 h]
       . rw [if_neg h2] at h ⊢
         by_cases h3 : a = Jb3
         . rw [if_pos h3] at h ⊢
           rw [J4i h]
         . rw [if_neg h3]
theorem Jyd (D : Drf) (h : Txt) (t : List Txt) (hD : D.parts.length <= 64) (ht : ∀ x ∈ t, x.length <= 100000) (he : Jbw D.parts t ≠ 0) : Pure Tryz.prog GL 159 [.iptr 2 [D.row] 0 0, .p (.lst 1 ((h :: t).map Txt.enc))] (.p (.int .i64 (Jbw D.parts t))) := by
 match t, ht, he with
 | [], ht, he => exact Jmz D h [] (by simp) (by simp)
 | [a], ht, he => exact Jmz D h [a] (by simp) (by simp)
 | [a, b], ht, he => exact Jx8 D h a b hD (ht a (by simp)) he
 | [a, b, c], ht, he => exact Jx9 D h a b c hD (ht a (by simp)) (ht c (by simp)) he
 | a :: b :: c :: d :: u, ht, he => exact Jmz D h (a :: b :: c :: d :: u) (by simp) (by simp)
theorem Jyf (D : Drf) (h : Txt) (t : List Txt) (hk : ∀ p ∈ D.parts, 0 <= p.kind /\ p.kind < 14) (hn : (D.parts.map (·.name)).Nodup) (hp : D.parts.length <= 64) (hx : D.pipes.length <= 256) (ht : ∀ x ∈ t, x.length <= 100000) (he : Jbz D t ≠ 0) : Pure Tryz.prog GL 160 [.iptr 2 [D.row] 0 0, .p (.lst 1 ((h :: t).map Txt.enc))] (.p (.int .i64 (Jbz D t))) := by
 match t, ht, he with
 | [], ht, he => exact Jm0 D h [] (by simp)
 | [a], ht, he => exact Jm0 D h [a] (by simp)
 | [a, b], ht, he => exact Jye D h a b hk hn hp hx (ht a (by simp)) (ht b (by simp)) he
 | a :: b :: c :: u, ht, he => exact Jm0 D h (a :: b :: c :: u) (by simp)
theorem J0v (ps : List Part) (xs : List EndP) (h : Txt) (t : List Txt) (hps : ps.length <= 64) (ht : ∀ x ∈ t, x.length <= 100000) (he : Jbw ps t = 0) (s : Store) (nx d m q : Nat) (hnd : [d, m, q].Nodup) (hlt : ∀ b ∈ [d, m, q], b < nx)
   (g0 : get s d = some (.cells 2 [[.acc m 3 ps.length, .acc q 4 xs.length]])) (g1 : get s m = accB 3 (ps.map Part.row)) (g2 : get s q = accB 4 (xs.map EndP.row)) :
   Gives Tryz.prog GL 159 [.ptr d 2 0 0, .p (.lst 1 ((h :: t).map Txt.enc))] s nx (.p (.int .i64 0)) [d, m, q]
     [(d, some (.cells 2 [[.acc nx 3 (Jau ps t).length, .acc q 4 xs.length]])), (nx, accB 3 ((Jau ps t).map Part.row)), (m, none)] (nx + 1) := by
 match t, ht, he with
 | [], ht, he => cases he
 | [a], ht, he => cases he
 | [a, b], ht, he => exact J0w ps xs h a b hps (ht a (by simp)) he s nx d m q hnd hlt g0 g1 g2
 | [a, b, c], ht, he => exact J0x ps xs h a b c hps (ht a (by simp)) (ht c (by simp)) he s nx d m q hnd hlt g0 g1 g2
 | a :: b :: c :: d :: u, ht, he => cases he
theorem J0z (ps : List Part) (xs : List EndP) (h : Txt) (t : List Txt) (hk : ∀ p ∈ ps, 0 <= p.kind /\ p.kind < 14) (hn : (ps.map (·.name)).Nodup) (hp : ps.length <= 64) (hx : xs.length <= 256) (ht : ∀ x ∈ t, x.length <= 100000) (he : Jbz ⟨ps, xs⟩ t = 0) (s : Store) (nx d m q : Nat) (hnd : [d, m, q].Nodup) (hlt : ∀ b ∈ [d, m, q], b < nx)
   (g0 : get s d = some (.cells 2 [[.acc m 3 ps.length, .acc q 4 xs.length]])) (g1 : get s m = accB 3 (ps.map Part.row)) (g2 : get s q = accB 4 (xs.map EndP.row)) :
   Gives Tryz.prog GL 160 [.ptr d 2 0 0, .p (.lst 1 ((h :: t).map Txt.enc))] s nx (.p (.int .i64 0)) [d, m, q]
     [(d, some (.cells 2 [[.acc m 3 ps.length, .acc nx 4 (Ja0 ⟨ps, xs⟩ t).length]])), (nx, accB 4 ((Ja0 ⟨ps, xs⟩ t).map EndP.row)), (q, none)] (nx + 1) := by
 match t, ht, he with
 | [], ht, he => cases he
 | [a], ht, he => cases he
 | [a, b], ht, he => exact J0y ps xs h a b hk hn hp hx (ht a (by simp)) (ht b (by simp)) he s nx d m q hnd hlt g0 g1 g2
 | a :: b :: c :: u, ht, he => cases he
set_option maxRecDepth 20000 in
theorem Jyu (D : Drf) (s : Txt) (hk : ∀ p ∈ D.parts, 0 <= p.kind /\ p.kind < 14) (hn : (D.parts.map (·.name)).Nodup) (hp : D.parts.length <= 64) (hx : D.pipes.length <= 256) (hl : s.length <= 20000) (hq : Jk3 D (fldR s)) : Pure Tryz.prog GL 73 [.iptr 2 [D.row] 0 0, .p (.str s)] (.p (.int .i64 (linE D s))) := by
 refine Pure.of_walk (N := 31) Tryz.func73 rfl rfl rfl (by simp) (by first | (simp; done) | simp [*]) ?_
 have eL : linE D s = Jgs D (fldR s) := rfl
 rw [eL]
 have hsh : ∀ w ∈ fldR s, w.length <= 100000 := fun w hw => by have := Jij hw; omega
 have hne : ∀ w ∈ fldR s, w ≠ [] := fun w hw => Jz8 hw
 simp
 refine Jab (Jm2 s hl) ?_
 generalize fldR s = W at *
 match W, hq with
 | [], hq => simp [Jaa, Jgs]
 | w0 :: t, hq =>
   have h0 := hne w0 (by simp)
   obtain ⟨b, v, hw0⟩ : ∃ b v, w0 = b :: v := by
     cases w0 with
     | nil => exact absurd rfl h0
     | cons b v => exact ⟨b, v, rfl⟩
   have hw1 : ¬ ((t.length : Int) + 1 = 0) := by omega
   have hz : ¬ (t.length + 1 = 0) := by omega
   by_cases h1 : b = 35
   . have e1 : Jgs D (w0 :: t) = 0 := by rw [Jdn, if_pos (by rw [hw0, h1]; rfl)]
     rw [e1, hw0]
     simp [hw1, h1, Jaa]
   . have hnc : ¬ w0.head? = some 35 := by rw [hw0]; simpa using h1
     have e1 := @Jdn D w0 t
     rw [if_neg hnc] at e1
     have hq' : Jgs D (w0 :: t) ≠ 0 := by
       rcases hq with h9 | ⟨a, u, h9, h8⟩ | h9
       . cases h9
       . cases h9; exact absurd h8 hnc
       . exact h9
     rw [e1] at hq' ⊢
     by_cases h2 : w0 = Jby
     . rw [if_pos h2] at hq' ⊢
       have hP := Jyd D w0 t hp (fun x hx => hsh x (by simp [hx])) hq'
       subst h2
       simp [hw1, Jby]
       refine Jab hP ?_
       simp [Jaa]
     . rw [if_neg h2] at hq' ⊢
       have h2' : ¬ (b :: v = [112, 97, 114, 116]) := by rw [<- hw0]; exact h2
       by_cases h3 : w0 = Jb3
       . rw [if_pos h3] at hq' ⊢
         have hP := Jyf D w0 t hk hn hp hx (fun x hx => hsh x (by simp [hx])) hq'
         subst h3
         simp [hw1, Jb3]
         refine Jab hP ?_
         simp [Jaa]
       . rw [if_neg h3]
         have h3' : ¬ (b :: v = [112, 105, 112, 101]) := by rw [<- hw0]; exact h3
         have h1' : ¬ ((b.toNat : Int) = 35) := fun h => h1 (UInt8.toNat_inj.1 (by have : (35 : UInt8).toNat = 35 := rfl; omega))
         rw [hw0]
         simp [hw1, h1', h2', h3', Jaa]
set_option maxRecDepth 20000 in
theorem J0s (ps : List Part) (xs : List EndP) (l : Txt) (t : List Txt) (hf : fldR l = Jby :: t) (hps : ps.length <= 64) (hl : l.length <= 20000) (he : Jbw ps t = 0) (s : Store) (nx d m q : Nat) (hnd : [d, m, q].Nodup) (hlt : ∀ b ∈ [d, m, q], b < nx)
   (g0 : get s d = some (.cells 2 [[.acc m 3 ps.length, .acc q 4 xs.length]])) (g1 : get s m = accB 3 (ps.map Part.row)) (g2 : get s q = accB 4 (xs.map EndP.row)) :
   Gives Tryz.prog GL 73 [.ptr d 2 0 0, .p (.str l)] s nx (.p (.int .i64 0)) [d, m, q]
     [(d, some (.cells 2 [[.acc nx 3 (Jau ps t).length, .acc q 4 xs.length]])), (nx, accB 3 ((Jau ps t).map Part.row)), (m, none)] (nx + 1) := by
 refine Gives.mk_walkA (N := 31) (args := [.ptr 0 2 0 0, .p (.str l)]) [d, m, q] [1] [(0, some (.cells 2 [[.acc 1 3 ps.length, .acc 2 4 xs.length]])), (1, accB 3 (ps.map Part.row)), (2, accB 4 (xs.map EndP.row))]
   [(0, some (.cells 2 [[.acc 3 3 (Jau ps t).length, .acc 2 4 xs.length]])), (3, accB 3 ((Jau ps t).map Part.row))] 3 1 (.p (.int .i64 0)) (fun st => [Jg0 0 st]) (up1 := [(d, some (.cells 2 [[.acc nx 3 (Jau ps t).length, .acc q 4 xs.length]])), (nx, accB 3 ((Jau ps t).map Part.row))]) Tryz.func73 rfl rfl rfl (by simp) rfl (Jip hnd hlt g0 g1 g2) (by simp) rfl (Ji4 (by simp [renS, Jbb]) (Ji3 (by simp [Jbb]) (Jcs fun _ => rfl))) (by simp) rfl ?_
 have hsh : ∀ w ∈ t, w.length <= 100000 := fun w hw => by have := Jij (l := l) (w := w) (by rw [hf]; simp [hw]); omega
 have hw1 : ¬ ((t.length : Int) + 1 = 0) := by omega
 simp
 refine Jab (Jm2 l hl) ?_
 rw [hf]
 simp [hw1, Jby]
 refine Ja4 (J0v ps xs Jby t hps hsh he _ _ 0 1 2 (by simp) (by simp) rfl rfl rfl) ?_
 simp
 refine ⟨⟨?_, ?_⟩, by decide⟩
 . have hP1 : renR (List.range 3 ++ [3]) (List.map Part.row (Jau ps t)) = some (List.map Part.row (Jau ps t)) := Jcs fun _ => rfl
   unfold accB
   by_cases hz : List.map Part.row (Jau ps t) = []
   . rw [if_pos hz]; trivial
   . rw [if_neg hz]; simp only [hP1, Option.map_some, Jc6]
 . have hX1 : renR (List.range 3 ++ [3]) (List.map EndP.row xs) = some (List.map EndP.row xs) := Jcs fun _ => rfl
   unfold accB
   by_cases hz : List.map EndP.row xs = []
   . rw [if_pos hz]; trivial
   . rw [if_neg hz]; simp only [hX1, Option.map_some, Jc6]
set_option maxRecDepth 20000 in
theorem J0t (ps : List Part) (xs : List EndP) (l : Txt) (t : List Txt) (hf : fldR l = Jb3 :: t) (hk : ∀ p ∈ ps, 0 <= p.kind /\ p.kind < 14) (hn : (ps.map (·.name)).Nodup) (hps : ps.length <= 64) (hx : xs.length <= 256) (hl : l.length <= 20000) (he : Jbz ⟨ps, xs⟩ t = 0) (s : Store) (nx d m q : Nat) (hnd : [d, m, q].Nodup) (hlt : ∀ b ∈ [d, m, q], b < nx)
   (g0 : get s d = some (.cells 2 [[.acc m 3 ps.length, .acc q 4 xs.length]])) (g1 : get s m = accB 3 (ps.map Part.row)) (g2 : get s q = accB 4 (xs.map EndP.row)) :
   Gives Tryz.prog GL 73 [.ptr d 2 0 0, .p (.str l)] s nx (.p (.int .i64 0)) [d, m, q]
     [(d, some (.cells 2 [[.acc m 3 ps.length, .acc nx 4 (Ja0 ⟨ps, xs⟩ t).length]])), (nx, accB 4 ((Ja0 ⟨ps, xs⟩ t).map EndP.row)), (q, none)] (nx + 1) := by
 refine Gives.mk_walkA (N := 31) (args := [.ptr 0 2 0 0, .p (.str l)]) [d, m, q] [2] [(0, some (.cells 2 [[.acc 1 3 ps.length, .acc 2 4 xs.length]])), (1, accB 3 (ps.map Part.row)), (2, accB 4 (xs.map EndP.row))]
   [(0, some (.cells 2 [[.acc 1 3 ps.length, .acc 3 4 (Ja0 ⟨ps, xs⟩ t).length]])), (3, accB 4 ((Ja0 ⟨ps, xs⟩ t).map EndP.row))] 3 1 (.p (.int .i64 0)) (fun st => [Jif 0 st]) (up1 := [(d, some (.cells 2 [[.acc m 3 ps.length, .acc nx 4 (Ja0 ⟨ps, xs⟩ t).length]])), (nx, accB 4 ((Ja0 ⟨ps, xs⟩ t).map EndP.row))]) Tryz.func73 rfl rfl rfl (by simp) rfl (Jip hnd hlt g0 g1 g2) (by simp) rfl (Ji4 (by simp [renS, Jbb]) (Ji3 (by simp [Jbb]) (Jcs fun _ => rfl))) (by simp) rfl ?_
 have hsh : ∀ w ∈ t, w.length <= 100000 := fun w hw => by have := Jij (l := l) (w := w) (by rw [hf]; simp [hw]); omega
 have hw1 : ¬ ((t.length : Int) + 1 = 0) := by omega
 simp
 refine Jab (Jm2 l hl) ?_
 rw [hf]
 simp [hw1, Jb3]
 refine Ja4 (J0z ps xs Jb3 t hk hn hps hx hsh he _ _ 0 1 2 (by simp) (by simp) rfl rfl rfl) ?_
 simp
 refine ⟨⟨?_, ?_⟩, by decide⟩
 . have hX1 : renR (List.range 3 ++ [3]) (List.map EndP.row (Ja0 ⟨ps, xs⟩ t)) = some (List.map EndP.row (Ja0 ⟨ps, xs⟩ t)) := Jcs fun _ => rfl
   unfold accB
   by_cases hz : List.map EndP.row (Ja0 ⟨ps, xs⟩ t) = []
   . rw [if_pos hz]; trivial
   . rw [if_neg hz]; simp only [hX1, Option.map_some, Jc6]
 . have hP1 : renR (List.range 3 ++ [3]) (List.map Part.row ps) = some (List.map Part.row ps) := Jcs fun _ => rfl
   unfold accB
   by_cases hz : List.map Part.row ps = []
   . rw [if_pos hz]; trivial
   . rw [if_neg hz]; simp only [hP1, Option.map_some, Jc6]
end Go.Am
namespace Go.Am
open Go Go.Proofs Go.Pn
theorem J0r (D : Drf) (l : Txt) (h1 : DrfOk D) (h2 : DrfSz D) (h3 : DrfIn D) (hl : l.length <= 20000) (hq : Jk3 D (fldR l)) (s : Store) (nx d m q : Nat)
   (g0 : get s d = some (.cells 2 [[.acc m 3 D.parts.length, .acc q 4 D.pipes.length]])) (g1 : get s m = accB 3 (D.parts.map Part.row)) (g2 : get s q = accB 4 (D.pipes.map EndP.row)) :
   Gives Tryz.prog GL 73 [.ptr d 2 0 0, .p (.str l)] s nx (.p (.int .i64 (linE D l))) [d, m, q] [] nx :=
 (Jyu D l (fun p hp => (Jdk (h3.pe p hp)).1) h1.nd h2.parts h2.pipes hl hq).lend rfl (fun i a x ha hx => by
   match i with
   | 0 => cases ha; cases hx; exact Jkb g0 g1 g2
   | 1 => cases ha; cases hx; exact .same _ rfl
   | i + 2 => cases hx) rfl
theorem J13 (D : Drf) (l : Txt) : Jk3 D (fldR l) \/ (∃ t, fldR l = Jby :: t /\ Jbw D.parts t = 0) \/ (∃ t, fldR l = Jb3 :: t /\ Jbz D t = 0) := by
 cases hf : fldR l with
 | nil => exact .inl (.inl rfl)
 | cons a t =>
   by_cases h1 : a.head? = some 35
   . exact .inl (.inr (.inl ⟨a, t, rfl, h1⟩))
   . by_cases h2 : a = Jby
     . by_cases h3 : Jbw D.parts t = 0
       . subst h2; exact .inr (.inl ⟨t, rfl, h3⟩)
       . exact .inl (.inr (.inr (by rw [Jdn, if_neg h1, if_pos h2]; exact h3)))
     . by_cases h4 : a = Jb3
       . by_cases h3 : Jbz D t = 0
         . subst h4; exact .inr (.inr ⟨t, rfl, h3⟩)
         . exact .inl (.inr (.inr (by rw [Jdn, if_neg h1, if_neg h2, if_pos h4]; exact h3)))
       . exact .inl (.inr (.inr (by rw [Jdn, if_neg h1, if_neg h2, if_neg h4]; decide)))
theorem J14 {D : Drf} {l : Txt} {t : List Txt} (hf : fldR l = Jby :: t) : linE D l = Jbw D.parts t /\ Jbo D l = ⟨Jau D.parts t, D.pipes⟩ := by
 unfold linE Jbo
 rw [hf, Jdn, Jev]
 exact ⟨by rw [if_neg (by decide), if_pos rfl], by rw [if_neg (by decide), if_pos rfl]⟩
theorem J15 {D : Drf} {l : Txt} {t : List Txt} (hf : fldR l = Jb3 :: t) : linE D l = Jbz D t /\ Jbo D l = ⟨D.parts, Ja0 D t⟩ := by
 unfold linE Jbo
 rw [hf, Jdn, Jev]
 exact ⟨by rw [if_neg (by decide), if_neg (by decide), if_pos rfl], by rw [if_neg (by decide), if_neg (by decide), if_pos rfl]⟩
structure AtL (ls : List Txt) (D : Drf) (k : Nat) : Prop where
 le : k <= ls.length
 ok : DrfOk D
 sz : DrfSz D
 inn : DrfIn D
 e : runE D (ls.drop k) = runE noD ls
 d : runD D (ls.drop k) = runD noD ls
 n : k + Jd3 D (ls.drop k) = Jd3 noD ls
theorem AtL.zero {ls : List Txt} : AtL ls noD 0 := ⟨Nat.zero_le _, Jiu, Jiv, Jit, rfl, rfl, by simp⟩
theorem AtL.step {ls : List Txt} {D : Drf} {k : Nat} {l : Txt} (h : AtL ls D k) (e : ls[k]? = some l) (he : linE D l = 0) : AtL ls (Jbo D l) (k + 1) := by
 obtain ⟨hk, e2⟩ := gsI.1 e
 have hd : ls.drop k = l :: ls.drop (k + 1) := by rw [List.drop_eq_getElem_cons hk, e2]
 have h5 := h.e
 have h6 := h.d
 have h7 := h.n
 rw [hd] at h5 h6 h7
 simp only [runE, runD, Jd3, if_pos he] at h5 h6 h7
 exact ⟨hk, Jl9 h.ok, Jma h.sz, Jl8 h.inn, h5, h6, by omega⟩
theorem AtL.stop {ls : List Txt} {D : Drf} {k : Nat} {l : Txt} (h : AtL ls D k) (e : ls[k]? = some l) (he : linE D l ≠ 0) : runE noD ls = linE D l /\ Jd3 noD ls = k := by
 obtain ⟨hk, e2⟩ := gsI.1 e
 have hd : ls.drop k = l :: ls.drop (k + 1) := by rw [List.drop_eq_getElem_cons hk, e2]
 have h5 := h.e
 have h7 := h.n
 rw [hd] at h5 h7
 simp only [runE, Jd3, if_neg he] at h5 h7
 exact ⟨h5.symm, by omega⟩
theorem AtL.done {ls : List Txt} {D : Drf} (h : AtL ls D ls.length) : runE noD ls = 0 /\ runD noD ls = D := by
 have h5 := h.e
 have h6 := h.d
 rw [List.drop_length] at h5 h6
 exact ⟨h5.symm, h6.symm⟩
set_option maxRecDepth 20000 in
theorem J7v (t : Txt) (hl : t.length < 4611686018427387904) : Pure Tryz.prog GL 18 [.p (.str t)] (.tup [(prsC t).av, .p (.int .i64 (prsI t)), .p (.int .i64 (prsE t))]) := by
 refine Pure.of_walk (N := 55) Tryz.func18 rfl rfl rfl (by simp) (by first | (simp; done) | simp [*]) ?_
 simp
 by_cases h1 : 16384 < t.length
 . have eE : prsE t = 17 := if_pos h1
   have eI : prsI t = 0 := if_pos h1
   have eC : prsC t = noC := by unfold prsC; rw [if_neg (by rw [eE]; decide)]
   have h1' : (16384 : Int) < t.length := by omega
   simp [h1', Jaa, eE, eI, eC, noC]
 . have h1' : ¬ ((16384 : Int) < t.length) := by omega
   simp [h1']
   refine Jab (Jyh t (by omega)) ?_
   by_cases hT : (linS t []).2 = []
   . have eE := Jod h1 (by simpa using hT)
     have eI := Joe h1 (by simpa using hT)
     have eC : prsC t = if prsE t = 0 then Jbe (runD noD (Jaq t)) else noC := rfl
     have hlen : ∀ l ∈ Jaq t, l.length <= 16384 := fun l hl => by have := Jiq (s := t) (cur := []) hl; simp at this; omega
     have hcnt : (Jaq t).length <= 16384 := by have := Jhe (s := t) (cur := []); unfold Jaq; omega
     rw [if_pos hT, if_pos hT]
     generalize Jaq t = L at *
     generalize prsE t = E at *
     generalize prsI t = I at *
     generalize prsC t = C at *
     simp
     refine Jah.go [2, 5, 7] [0] 2 [2, 3] (fun st => [Jg0 1 st, Jif 1 st]) (fun nx (g : Drf × Nat) => [(8, .p (.int .i64 g.2))]) (fun nx g => [(1, some (.cells 2 [[.acc nx 3 g.1.parts.length, .acc (nx + 1) 4 g.1.pipes.length]])), (nx, accB 3 (g.1.parts.map Part.row)), (nx + 1, accB 4 (g.1.pipes.map EndP.row))]) (fun g => AtL L g.1 g.2) (fun g => L.length - g.2) (noD, 0) AtL.zero ?_ ?_
     . simp [noD]
       try decide
     rintro ⟨D, k⟩ hA
     have hA : AtL L D k := hA
     have hk := hA.le
     simp
     refine Jac (fun h3 => ?_) (fun h3 => ?_)
     . simp at h3
       obtain ⟨l, e⟩ := Jag h3
       have hLne : ¬ L = [] := fun h9 => by rw [h9] at h3; simp at h3
       have hll := hlen l (List.mem_of_getElem? e)
       simp [h3, e, hLne, -getElem?_pos, List.getElem?_cons_zero, List.getElem?_cons_succ]
       rcases J13 D l with hq | ⟨u, hf, hw⟩ | ⟨u, hf, hw⟩
       . refine Ja4 (J0r D l hA.ok hA.sz hA.inn (by omega) hq _ _ 1 2 3 rfl rfl rfl) ?_
         by_cases he : linE D l = 0
         . have hN := hA.step e he
           have hid : Jbo D l = D := J12 hq
           rw [hid] at hN
           simp [he]
           refine ⟨wrap_i64 (by omega) (by omega), D, k + 1, hN, by omega, by omega, ?_⟩
           simp
           try decide
         . obtain ⟨s1, s2⟩ := hA.stop e he
           have hR : runE noD L ≠ 0 := by rw [s1]; exact he
           rw [if_pos hR, s1] at eE
           rw [if_pos hR, s2] at eI
           rw [eE, if_neg he] at eC
           simp [he, Jaa, eE, eI, eC, noC]
       . obtain ⟨z1, z2⟩ := J14 (D := D) hf
         refine Ja4 (J0s D.parts D.pipes l u hf hA.sz.parts (by omega) hw _ _ 1 2 3 (by simp) (by simp) rfl rfl rfl) ?_
         have hN := hA.step e (z1.trans hw)
         rw [z2] at hN
         simp
         refine ⟨wrap_i64 (by omega) (by omega), ⟨Jau D.parts u, D.pipes⟩, k + 1, hN, by omega, by omega, ?_⟩
         simp
         try decide
       . obtain ⟨z1, z2⟩ := J15 (D := D) hf
         refine Ja4 (J0t D.parts D.pipes l u hf (fun p hp => (Jdk (hA.inn.pe p hp)).1) hA.ok.nd hA.sz.parts hA.sz.pipes (by omega) hw _ _ 1 2 3 (by simp) (by simp) rfl rfl rfl) ?_
         have hN := hA.step e (z1.trans hw)
         rw [z2] at hN
         simp
         refine ⟨wrap_i64 (by omega) (by omega), ⟨D.parts, Ja0 D u⟩, k + 1, hN, by omega, by omega, ?_⟩
         simp
         try decide
     . simp at h3
       have hkn : k = L.length := by omega
       subst hkn
       obtain ⟨eR, eD⟩ := hA.done
       rw [eR, eD] at eE eI
       rw [eD] at eC
       have hsz := Joz hA.ok hA.sz hA.inn
       rw [if_neg (by decide)] at eE eI
       have hSo := Jxd D (by have := hA.sz.parts; omega) (by have := hA.sz.pipes; omega) ⟨hsz.parts, by show (0 : Nat) < _; decide, hsz.names⟩ (fun h9 => by
         cases hXc : D.pipes with
         | nil => rfl
         | cons x0 X0 =>
           have := (hA.ok.ends x0 (by rw [hXc]; simp)).1
           rw [h9] at this
           simp at this)
       simp
       refine Ja4 (hSo.give (B := [1, 2, 3]) rfl (fun i a x ha hx => by
         match i with
         | 0 => cases ha; cases hx; exact Jkb rfl rfl rfl
         | i + 1 => cases hx)) ?_
       generalize Jbe D = S at *
       simp
       refine Jab (Jyo S hsz) ?_
       by_cases hc : Jaf S = 0
       . rw [hc] at eE
         rw [eE, if_pos rfl] at eC
         rw [if_neg (by simpa using hc)] at eI
         simp [hc, Jaa, eE, eI, eC]
       . rw [eE, if_neg hc] at eC
         rw [if_pos hc] at eI
         simp [hc]
         simp [Jaa, eE, eI, eC, noC]
   . have eE : prsE t = 18 := by unfold prsE; rw [if_neg h1, if_pos hT]
     have eI : prsI t = 0 := by unfold prsI; rw [if_neg h1, if_pos hT]
     have eC : prsC t = noC := by unfold prsC; rw [if_neg (by rw [eE]; decide)]
     rw [if_neg hT, if_neg hT]
     simp [Jaa, eE, eI, eC, noC]
end Go.Am
