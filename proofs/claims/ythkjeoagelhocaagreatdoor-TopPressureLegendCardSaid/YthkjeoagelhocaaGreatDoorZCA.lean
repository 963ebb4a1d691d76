/- Lemmas and contracts for the proof of a statement of this seat. -/
import Derived.Test.YthkjeoagelhocaaGreatDoorZC7
import Derived.Test.YthkjeoagelhocaaGreatDoorZCP
import Derived.Test.YthkjeoagelhocaaGreatDoorZS2
import Derived.Test.YthkjeoagelhocaaGreatDoorZA5
import Derived.Sort.Grow
import Derived.Shelf.SortM.Plain
import Derived.Shelf.SortM.SortNone
import Derived.Ground.SlgmProg
set_option linter.unusedVariables false
set_option linter.unusedSimpArgs false
namespace Go.Am
open Go Go.Proofs Go.Pn
@[simp] def _root_.Go.Pn.Pass.enc (p : Pass) : List PV := [.str p.to, .lst 1 (p.fr.map Txt.enc), .bool p.all]
theorem Kcq {c : Circuit} (h : Jac c = 0) {p : Port} (hp : p ∈ allP c) : Jdl c p = 0 /\ ∃ (i : Nat) (g : List Port), netP c p = i /\ i < (nets c).length /\ (nets c)[i]? = some g /\ p ∈ g /\ g.length < 100000 := by
 refine ⟨Jgb.1 hp, ?_⟩
 obtain ⟨i, g, h1, h2, h3⟩ := Jrg h hp
 exact ⟨i, g, h1, (gsI.1 h2).1, h2, h3, by have := (Ji8 h).2 g (List.mem_of_getElem? h2); omega⟩
end Go.Am
namespace Go.Am
open Go Go.Proofs Go.Pn
def Passes.av (l : List Pass) : AV := .p (.lst 3 (l.map Pass.enc))
theorem Jw1 {s : Store} {b b2 n : Nat} {c c2 : Option Nat} {to : Txt} {frs : List Txt} {all : Bool} (hg : get s b = some (.cells 3 [[.p (.str to), .ref b2 1 0 n c2, .p (.bool all)]]))
   (hg2 : get s b2 = some (.cells 1 (frs.map Txt.row))) (hn : frs.length = n) : FrzA s (fun _ => True) (.ref b 3 0 1 c) (Passes.av [⟨to, frs, all⟩]) := by
 have h2 : Frz s (fun _ => True) (.ref b2 1 0 n c2) (.lst 1 (frs.map Txt.enc)) := .rows trivial hg2 (by simp [List.take_of_length_le, <- hn]) (by simpa using hn)
 refine .one _ _ (.ref b 3 0 1 c _ _ (fun _ j => ([.p (.str to), .ref b2 1 0 n c2, .p (.bool all)] : List AV)[j]?.getD .any) trivial hg rfl (fun p j row x h1 h3 => ?_) (fun p j row x h1 h3 => ?_))
 . match p with
   | 0 =>
     simp at h1; subst h1
     match j with
     | 0 => exact ⟨_, rfl, rfl⟩
     | 1 => exact ⟨_, rfl, rfl⟩
     | 2 => exact ⟨_, rfl, rfl⟩
     | j + 3 => simp at h3
   | p + 1 => simp at h1
 . match p with
   | 0 =>
     simp at h1; subst h1
     match j with
     | 0 => simp at h3; subst h3; exact .p _
     | 1 => simp at h3; subst h3; exact h2
     | 2 => simp at h3; subst h3; exact .p _
     | j + 3 => simp at h3
   | p + 1 => simp at h1
theorem Jmg (to fr : Txt) : Pure Tryz.prog GL 213 [.p (.str to), .p (.str fr)] (Passes.av [⟨to, [fr], false⟩]) := by
 refine Pure.of_walkZ (N := 10) Tryz.func213 rfl rfl rfl (by simp) (by simp) ?_
 simp
 refine ⟨.inl rfl, [.ref 1 3 0 1 (some 1)], by simp, ?_⟩
 exact Jw1 (b := 1) (b2 := 0) (n := 1) (c2 := some 1) (by simp [get]) (by simp [get]) rfl
theorem Jvb (x : Bool) (pos : Int) : Pure Tryz.prog GL 216 [.p (.int .i64 pos), .iptr 1 [[.bool x]] 0 0] (Passes.av [⟨t2, [t1, t11], x⟩]) := by
 refine Pure.of_walkZ (N := 8) Tryz.func216 rfl rfl rfl (by simp) (by simp) ?_
 simp
 refine ⟨.inl rfl, [.ref 1 3 0 1 (some 1)], by simp, ?_⟩
 exact Jw1 (b := 1) (b2 := 0) (n := 2) (c2 := some 2) (by simp [get, t2]) (by simp [get, t1, t11]) rfl
theorem J5q (pos : Int) : Pure Tryz.prog GL 176 [.p (.int .i64 pos)] (Passes.av []) := by
 refine Pure.of_walk (N := 3) Tryz.func176 rfl rfl rfl (by simp) (by first | (simp; done) | simp [*]) ?_
 simp
 simp [Jaa, Passes.av]
theorem J5r (pos : Int) : Pure Tryz.prog GL 183 [.p (.int .i64 pos)] (Passes.av [⟨t2, [t1], false⟩]) := by
 refine Pure.of_walk (N := 4) Tryz.func183 rfl rfl rfl (by simp) (by first | (simp; done) | simp [*]) ?_
 simp
 refine Jab (Jmg [50] [49]) ?_
 simp [Passes.av]
 simp [Jaa, t2, t1]
def posI (b : Bool) : Int := if b then 1 else 0
theorem J5m (b : Bool) : Pure Tryz.prog GL 178 [.p (.int .i64 (posI b))] (Passes.av [⟨if b then t4 else t2, [t1], false⟩]) := by
 refine Pure.of_walk (N := 8) Tryz.func178 rfl rfl rfl (by simp) (by first | (simp; done) | simp [*]) ?_
 cases b
 . simp [posI]
   refine Jab (Jmg [50] [49]) ?_
   simp [Passes.av]
   simp [Jaa, t2, t1]
 . simp [posI]
   refine Jab (Jmg [52] [49]) ?_
   simp [Passes.av]
   simp [Jaa, t4, t1]
theorem Jva (n pos : Int) : Pure Tryz.prog GL 214 [.p (.int .i64 pos), .iptr 1 [[.int .i64 n]] 0 0] (Passes.av (if pos = n then [⟨t2, [t1], false⟩] else [])) := by
 refine Pure.of_walk (N := 8) Tryz.func214 rfl rfl rfl (by simp) (by first | (simp; done) | simp [*]) ?_
 simp
 by_cases h : pos = n
 . simp [h]
   refine Jab (Jmg [50] [49]) ?_
   simp [Passes.av]
   simp [Jaa, t2, t1, h]
 . simp [h]
   simp [Jaa, Passes.av, h]
theorem J8k (k : Nat) (hk : k < 14) (b : Bool) : ∃ m cap, (catRow k)[10]? = some (.fn (.func m) cap) /\ Jay cap = true /\ Pure Tryz.prog GL m (.p (.int .i64 (posI b)) :: cap) (Passes.av (Jd5 k b)) := by
 have g1 := Jva 1 (posI b)
 have g0 := Jva 0 (posI b)
 have ch := J5m b
 have no := J5q (posI b)
 have th := J5r (posI b)
 have m0 := Jvb false (posI b)
 have m1 := Jvb true (posI b)
 cases b
 all_goals
   simp only [posI, Bool.false_eq_true, if_true, if_false] at g1 g0 ch no th m0 m1 ⊢
   rcases (by omega : k = 0 \/ k = 1 \/ k = 2 \/ k = 3 \/ k = 4 \/ k = 5 \/ k = 6 \/ k = 7 \/ k = 8 \/ k = 9 \/ k = 10 \/ k = 11 \/ k = 12 \/ k = 13) with rfl|rfl|rfl|rfl|rfl|rfl|rfl|rfl|rfl|rfl|rfl|rfl|rfl|rfl
   all_goals first
     | exact ⟨_, _, rfl, rfl, no⟩
     | exact ⟨_, _, rfl, rfl, ch⟩
     | exact ⟨_, _, rfl, rfl, g1⟩
     | exact ⟨_, _, rfl, rfl, g0⟩
     | exact ⟨_, _, rfl, rfl, th⟩
     | exact ⟨_, _, rfl, rfl, m0⟩
     | exact ⟨_, _, rfl, rfl, m1⟩
end Go.Am
namespace Go.Am
open Go Go.Proofs Go.Pn
theorem Jp1 {k : Nat} (h : k < 14) : (catRow k)[9]? = some (.p (.int .i64 (Jen k))) /\ (catRow k)[7]? = some (.p (.str (J0l k).1)) /\ (catRow k)[8]? = some (.p (.str (J0l k).2)) /\
   ((catRow k).drop 2).take 5 = (Jbs k).map (fun l => .p (.lst 1 (l.map Txt.enc))) /\ (Jbs k).length = 5 := by
 rcases (by omega : k = 0 \/ k = 1 \/ k = 2 \/ k = 3 \/ k = 4 \/ k = 5 \/ k = 6 \/ k = 7 \/ k = 8 \/ k = 9 \/ k = 10 \/ k = 11 \/ k = 12 \/ k = 13) with rfl|rfl|rfl|rfl|rfl|rfl|rfl|rfl|rfl|rfl|rfl|rfl|rfl|rfl <;> exact ⟨rfl, rfl, rfl, rfl, rfl⟩
theorem Kbs {k : Nat} : 1 <= Jen k /\ Jen k <= 2 := by unfold Jen; split <;> omega
theorem J5j (k : Int) : Pure Tryz.prog GL 166 [.p (.int .i64 k)] (.tup [.p (.int .i64 (if Jas k = 0 then Jen k.toNat else 0)), .p (.int .i64 (Jas k))]) := by
 refine Pure.of_walk (N := 14) Tryz.func166 rfl rfl rfl (by simp) (by first | (simp; done) | simp [*]) ?_
 simp
 refine Jab (Jhk k) ?_
 by_cases hk : 0 <= k /\ k < 14
 . have h3 : Jas k = 0 := Jcw.2 hk
   have hl := Jfb (k := k.toNat)
   have h6 := Jfc (k := k.toNat)
   obtain ⟨f1, f2, f3, f4, f5⟩ := Jp1 (k := k.toNat) (by omega)
   obtain ⟨_, f1'⟩ := gsI.1 f1
   simp [h3, hl, Jcx]
   refine ⟨by simpa using h6, ?_⟩
   simp [Jaa, h3, f1']
 . have h3 : Jas k = 1 := Jht hk
   simp [h3, catRow, lay]
   simp [Jaa, h3]
theorem Jvc (k pos : Int) : Pure Tryz.prog GL 210 [.p (.int .i64 k), .p (.int .i64 pos)] (.tup [.agg (catRow (if Jb1 k pos = 0 then k.toNat else 14)), .p (.int .i64 (Jb1 k pos))]) := by
 refine Pure.of_walk (N := 29) Tryz.func210 rfl rfl rfl (by simp) (by first | (simp; done) | simp [*]) ?_
 simp
 refine Jab (Jhk k) ?_
 by_cases hk : 0 <= k /\ k < 14
 . have h3 : Jas k = 0 := Jcw.2 hk
   have hl := Jfb (k := k.toNat)
   have h6 := Jfc (k := k.toNat)
   have h7 := Jvm (k := k.toNat)
   have h8 : (catRow k.toNat).take 12 = catRow k.toNat := List.take_of_length_le (by omega)
   obtain ⟨f1, f2, f3, f4, f5⟩ := Jp1 (k := k.toNat) (by omega)
   simp [h3, hl, Jcx]
   refine ⟨by simpa using h6, ?_⟩
   by_cases h1 : pos < 0
   . have hp : Jb1 k pos = 2 := by simp [Jb1, h3, h1]
     simp [h1]
     simp [Jaa, hp, catRow]
   . by_cases h2 : (Jen k.toNat : Int) <= pos
     . have hp : Jb1 k pos = 2 := by simp [Jb1, h3, h2]
       simp [h1, f1, h2, -getElem?_pos, List.getElem?_cons_zero, List.getElem?_cons_succ]
       simp [Jaa, hp, catRow]
     . have hp : Jb1 k pos = 0 := by simp [Jb1, h3, h1, h2]
       simp [h1, f1, h2, hl, Jcx, h8, -getElem?_pos, List.getElem?_cons_zero, List.getElem?_cons_succ]
       refine ⟨by simpa using h6, ?_⟩
       simp [Jaa, hp, hl, h8, Jjx _ h7]
 . have h3 : Jas k = 1 := Jht hk
   have hp : Jb1 k pos = 1 := by simp [Jb1, h3]
   simp [h3, catRow, lay]
   simp [Jaa, hp, catRow]
end Go.Am
namespace Go.Am
open Go Go.Proofs Go.Pn
theorem Jn6 {k pos : Int} (h : Jb1 k pos = 0) : (0 <= k /\ k < 14) /\ ∃ b : Bool, pos = posI b := by
 unfold Jb1 at h
 by_cases hk : 0 <= k /\ k < 14
 . refine ⟨hk, ?_⟩
   rw [Jcw.2 hk] at h
   simp only [ne_eq, not_true_eq_false, if_false] at h
   have h2 : ¬ (pos < 0 \/ (Jen k.toNat : Int) <= pos) := by
     intro h2; rw [if_pos h2] at h; cases h
   have h3 := (@Kbs k.toNat).2
   by_cases h4 : pos = 0
   . exact ⟨false, h4⟩
   . exact ⟨true, by simp only [posI, if_true]; omega⟩
 . rw [Jht hk] at h; simp at h
def Jje (k pos : Int) : List Pass := if Jb1 k pos = 0 then Jd5 k.toNat (decide (pos = 1)) else []
def Jew (k pos : Int) : List Txt := if Jb1 k pos = 0 then Je9 k.toNat (decide (pos = 1)) else []
theorem J0t {b : Bool} : decide (posI b = 1) = b := by cases b <;> rfl
theorem J5i (k pos : Int) : Pure Tryz.prog GL 167 [.p (.int .i64 k), .p (.int .i64 pos)] (.tup [Passes.av (Jje k pos), .p (.int .i64 (Jb1 k pos))]) := by
 refine Pure.of_walk (N := 21) Tryz.func167 rfl rfl rfl (by simp) (by first | (simp; done) | simp [*]) ?_
 simp
 refine Jab (Jvc k pos) ?_
 by_cases hp : Jb1 k pos = 0
 . obtain ⟨hk, b, hb⟩ := Jn6 hp
   have hl := Jfb (k := k.toNat)
   have h6 := Jfc (k := k.toNat)
   obtain ⟨m, cap, g1, g2, g3⟩ := J8k k.toNat (by omega) b
   have hpa : Jje k pos = Jd5 k.toNat b := by rw [Jje, if_pos hp, hb, J0t]
   have hren := fun ρ => (Jg9 (ρ := ρ)).2 cap g2
   simp [hp, hl, Jcx]
   refine ⟨by simpa using h6, ?_⟩
   obtain ⟨_, g1'⟩ := gsI.1 g1
   simp [g1']
   rw [hb]
   refine Jab g3 ?_
   simp
   rw [<- hb]
   simp [Jaa, hpa, hp, Passes.av]
 . simp [hp, catRow, lay]
   simp [Jaa, Jje, hp, Passes.av]
theorem Jr0 {α : Type} {f : α -> AV} (h : ∀ x, Jap (f x) = true) : ∀ {l : List α}, Jay (l.map f) = true
 | [] => rfl
 | x :: l => by simp [Jay, h x, Jr0 h (l := l)]
def Jdp (k : Nat) (s : Txt) : Int := idxI (Jbs k) fun l => decide (s ∈ l)
theorem Jpw (k : Int) (s : Txt) (hk : 0 <= k /\ k < 14) : Pure Tryz.prog GL 76 [.p (.int .i64 k), .p (.str s)] (.tup [.p (.int .i64 (if Jdp k.toNat s < 0 then 0 else Jdp k.toNat s)), .p (.int .i64 (if Jdp k.toNat s < 0 then 6 else 0))]) := by
 refine Pure.of_walk (N := 29) Tryz.func76 rfl rfl rfl (by simp) (by first | (simp; done) | simp [*]) ?_
 simp
 refine Jab (Jhk k) ?_
 have h3 : Jas k = 0 := Jcw.2 hk
 have hl := Jfb (k := k.toNat)
 have h6 := Jfc (k := k.toNat)
 obtain ⟨f1, f2, f3, f4, f5⟩ := Jp1 (k := k.toNat) (by omega)
 have hsh : ∀ l ∈ Jbs k.toNat, l.length < 100 := (by decide : ∀ k, k < 14 -> ∀ l ∈ Jbs k, l.length < 100) k.toNat (by omega)
 simp [h3, hl, Jcx]
 refine ⟨by simpa using h6, ?_⟩
 have hren := fun ρ => Jjn (ρ := ρ) (Jr0 (f := fun l : List Txt => AV.p (PV.lst 1 (l.map Txt.enc))) (fun _ => rfl) (l := Jbs k.toNat))
 simp [f4]
 refine Jag.go [1, 19] [] 0 [] (fun _ => []) (fun _ (r : Nat) => [(20, .p (.int .i64 r))]) (fun _ _ => []) (fun r => r <= 5 /\ ∀ (j : Nat) x, j < r -> (Jbs k.toNat)[j]? = some x -> decide (s ∈ x) = false) (fun r => 5 - r) 0 ⟨by omega, fun j x h => by omega⟩ ?_ ?_
 . simp [hren]
 . rintro r ⟨hr, hp⟩
   simp
   refine Jad (fun h => ?_) (fun h => ?_)
   . simp at h
     obtain ⟨x, e⟩ := Jae (xs := Jbs k.toNat) (k := r) (by omega)
     simp [h, e, f5, -getElem?_pos, List.getElem?_cons_zero, List.getElem?_cons_succ]
     refine Jab (Jps x s (by have := hsh x (List.mem_of_getElem? e); omega)) ?_
     simp
     by_cases h2 : s ∈ x
     . have hro : Jdp k.toNat s = r := Jej (q := fun l => decide (s ∈ l)) e (by simpa using h2) hp
       have h0 : ¬ (r : Int) < 0 := by omega
       simp [h2]
       simp [Jaa, hro, h0]
     . simp [h2]
       refine ⟨wrap_i64 (by omega) (by omega), r + 1, ⟨by omega, ?_⟩, by omega, ?_⟩
       . simpa using Jdt (P := fun l => decide (s ∈ l) = false) hp e (by simpa using h2)
       . simp [hren]
   . simp at h
     have h7 : r = (Jbs k.toNat).length := by omega
     subst h7
     have hro : Jdp k.toNat s = -1 := Jfd (q := fun l => decide (s ∈ l)) (Jed hp)
     simp [Jaa, hro]
end Go.Am
namespace Go.Am
open Go Go.Proofs Go.Pn
theorem J4a (xs : List Int) (q : Int -> Bool) (m : Nat) (cap : List AV) (hcap : Jay cap = true) (hl : xs.length < 4611686018427387904) (hq : ∀ x ∈ xs, Pure Tryz.prog GL m ((Int.av x) :: cap) (.p (.bool (q x)))) : Pure Tryz.prog GL 172 [.p (.lst 1 (xs.map Int.enc)), .fn (.func m) cap] (.p (.int .i64 (idxI xs q))) := by
 refine Pure.of_walk (N := 19) Tryz.func172 rfl rfl rfl (by simp) (by first | (simp; done) | simp [*]) ?_
 have hren := fun ρ => (Jg9 (ρ := ρ)).2 cap hcap
 simp
 refine Jag.go [0, 1, 7] [] 0 [] (fun _ => []) (fun _ (k : Nat) => [(8, .p (.int .i64 k))]) (fun _ _ => []) (fun k => k <= xs.length /\ ∀ (j : Nat) x, j < k -> xs[j]? = some x -> q x = false) (fun k => xs.length - k) 0 ⟨by omega, fun j b h => by omega⟩ ?_ ?_
 . simp [hren]
 . rintro k ⟨hk, hp⟩
   simp
   refine Jad (fun h => ?_) (fun h => ?_)
   . simp at h
     obtain ⟨x, e⟩ := Jae h
     simp [h, e, -getElem?_pos, List.getElem?_cons_zero, List.getElem?_cons_succ]
     refine Jab (hq x (List.mem_of_getElem? e)) ?_
     simp
     refine Jad (fun h2 => ?_) (fun h2 => ?_)
     . simp [Jaa, Jej e h2 hp]
     . simp [hren]
       refine ⟨wrap_i64 (by omega) (by omega), k + 1, ⟨by omega, Jdt hp e h2⟩, by omega, ?_⟩
       simp [hren]
   . simp at h
     have hk2 : k = xs.length := by omega
     subst hk2
     simp [Jaa, Jfd (Jed hp)]
theorem J36 (xs : List Int) (q : Int -> Bool) (m : Nat) (cap : List AV) (hcap : Jay cap = true) (hl : xs.length < 4611686018427387904) (hq : ∀ x ∈ xs, Pure Tryz.prog GL m ((Int.av x) :: cap) (.p (.bool (q x)))) : Pure Tryz.prog GL 113 [.p (.lst 1 (xs.map Int.enc)), .fn (.func m) cap] (.p (.bool (xs.any q))) := by
 refine Pure.of_walk (N := 9) Tryz.func113 rfl rfl rfl (by simp) (by first | (simp; done) | simp [*]) ?_
 simp
 refine Jab (J4a xs q m cap hcap hl hq) ?_
 simp [Jaa]
 rw [Bool.eq_iff_iff]
 simp [Jhr]
end Go.Am
namespace Go.Am
open Go Go.Proofs Go.Pn
@[simp] abbrev Ints.av (l : List Int) : AV := .p (.lst 1 (l.map Int.enc))
def Jk6 (c : Circuit) (l : List Int) (i : Nat) : Int := match c.parts[i]?, l[i]? with
 | some p, some a => if a < 0 \/ (Jen p.kind.toNat : Int) <= a then 2 else 0
 | _, _ => 0
def Ja7 (c : Circuit) (l : List Int) : Int := if Jac c ≠ 0 then Jac c else if l.length ≠ c.parts.length then 8 else Jaq (Jk6 c l) l.length
theorem Jfq {c : Circuit} {l : List Int} (h : Ja7 c l = 0) : Jac c = 0 /\ l.length = c.parts.length /\ ∀ (i : Nat) p, c.parts[i]? = some p -> ∃ a, l[i]? = some a /\ Jb1 p.kind a = 0 /\ (0 <= p.kind /\ p.kind < 14) := by
 unfold Ja7 at h
 have h1 : Jac c = 0 := by
   apply Decidable.byContradiction
   intro hn
   rw [if_pos hn] at h; exact hn h
 rw [if_neg (by simpa using h1)] at h
 have h2 : l.length = c.parts.length := by
   apply Decidable.byContradiction
   intro hn
   rw [if_pos hn] at h; cases h
 rw [if_neg (by simpa using h2)] at h
 refine ⟨h1, h2, fun i p hp => ?_⟩
 have hi : i < l.length := by rw [h2]; exact (gsI.1 hp).1
 obtain ⟨a, ha⟩ := Jae hi
 have h3 := Jmz.1 h i hi
 have hk := (Ja8 h1).1 p (List.mem_of_getElem? hp)
 simp only [Jk6, hp, ha] at h3
 refine ⟨a, ha, ?_, hk⟩
 unfold Jb1
 rw [Jcw.2 hk]
 simpa using h3
set_option maxRecDepth 20000 in
theorem Jvg (c : Circuit) (l : List Int) (hs : Sized c) (hl : l.length < 4611686018427387904) : Pure Tryz.prog GL 106 [c.av, Ints.av l] (.p (.int .i64 (Ja7 c l))) := by
 refine Pure.of_walk (N := 49) Tryz.func106 rfl rfl rfl (by simp) (by first | (simp; done) | simp [*]) ?_
 simp [Ints.av]
 refine Jab (Jgr c hs) ?_
 by_cases hc : Jac c = 0
 . have h2 := Ja8 hc
   simp [hc]
   by_cases hn : l.length = c.parts.length
   . simp [hn]
     refine Jag.go [2, 21, 22] [0] 0 [] (fun _ => []) (fun _ (k : Nat) => [(23, .p (.int .i64 k))]) (fun _ _ => []) (fun k => k <= l.length /\ Jaq (Jk6 c l) k = 0) (fun k => l.length - k) 0 ⟨by omega, rfl⟩ ?_ ?_
     . simp
       try decide
     . rintro k ⟨hk, hp⟩
       simp
       refine Jad (fun h => ?_) (fun h => ?_)
       . simp at h
         obtain ⟨x, e⟩ := Jae h
         obtain ⟨a, e2⟩ := Jae (xs := l) (k := k) (by omega)
         have hkx := h2.1 x (List.mem_of_getElem? e)
         have h3 : Jas x.kind = 0 := Jcw.2 hkx
         have hpa : Jk6 c l k = if a < 0 \/ (Jen x.kind.toNat : Int) <= a then 2 else 0 := by simp only [Jk6, e, e2]
         have hkl : k < l.length := by omega
         simp [h, e, e2, hkl, -getElem?_pos, List.getElem?_cons_zero, List.getElem?_cons_succ]
         refine Jab (J5j x.kind) ?_
         simp [h3]
         by_cases b1 : a < 0 \/ (Jen x.kind.toNat : Int) <= a
         . have hq : Ja7 c l = 2 := by
             rw [if_pos b1] at hpa
             rw [Ja7, if_neg (by simpa using hc), if_neg (by simpa using hn), Jgf hp hkl (by rw [hpa]; decide), hpa]
           by_cases b2 : a < 0
           . simp [b2]
             simp [Jaa, hq]
           . have b3 : (Jen x.kind.toNat : Int) <= a := by omega
             simp [b2, b3]
             simp [Jaa, hq]
         . have b2 : ¬ a < 0 := by omega
           have b3 : ¬ (Jen x.kind.toNat : Int) <= a := by omega
           rw [if_neg b1] at hpa
           simp [b2, b3]
           refine ⟨wrap_i64 (by omega) (by omega), k + 1, ⟨by omega, Jdd hp hpa⟩, by omega, ?_⟩
           simp
           try decide
       . simp at h
         have hk2 : k = l.length := by omega
         have hq : Ja7 c l = 0 := by rw [Ja7, if_neg (by simpa using hc), if_neg (by simpa using hn), <- hk2, hp]
         simp [Jaa, hq]
   . have hn2 : ¬ (l.length : Int) = c.parts.length := by omega
     simp [hn2]
     simp [Jaa, Ja7, hc, hn]
 . simp [hc, Jaa, Ja7]
end Go.Am
namespace Go.Am
open Go Go.Proofs Go.Pn
def netN (c : Circuit) (i : Int) (s : Txt) : Nat := (netP c ⟨i, s⟩).toNat
theorem Jep {c : Circuit} (h : Jac c = 0) {i : Int} {s : Txt} (hp : (⟨i, s⟩ : Port) ∈ allP c) : netP c ⟨i, s⟩ = netN c i s /\ netN c i s < (nets c).length := by
 obtain ⟨_, n, g, h1, h2, _⟩ := Kcq h hp
 unfold netN
 rw [h1]
 exact ⟨by omega, by omega⟩
def mkd (m : List Bool) (n : Nat) : Bool := (m[n]?).getD false
end Go.Am
namespace Go.Am
open Go Go.Proofs Go.Pn
def Jfi (l : List Int) (i : Int) : Int := (l[i.toNat]?).getD 0
def Jfh (c : Circuit) (l : List Int) (i : Int) : List Pass := Jd5 (Jaj c i).toNat (decide (Jfi l i = 1))
def J2d (c : Circuit) (l : List Int) (i : Int) : Txt := (Jja (Jaj c i).toNat (decide (Jfi l i = 1))).2
theorem Ke3 {k : Nat} (h : k < 14) (b : Bool) : ∀ y ∈ Jd5 k b, y.to ∈ Jao k /\ (∀ s ∈ y.fr, s ∈ Jao k) /\ 1 <= y.fr.length /\ y.fr.length <= 2 := by
 have t1 := (by decide : ∀ k, k < 14 -> ∀ y ∈ Jd5 k true, y.to ∈ Jao k /\ (∀ s ∈ y.fr, s ∈ Jao k) /\ 1 <= y.fr.length /\ y.fr.length <= 2) k h
 have t2 := (by decide : ∀ k, k < 14 -> ∀ y ∈ Jd5 k false, y.to ∈ Jao k /\ (∀ s ∈ y.fr, s ∈ Jao k) /\ 1 <= y.fr.length /\ y.fr.length <= 2) k h
 cases b
 . exact t2
 . exact t1
theorem Ke4 {k : Nat} {b : Bool} : (Jd5 k b).length <= 1 := by unfold Jd5; split <;> simp
structure PortFacts (c : Circuit) (l : List Int) (i : Nat) (q : Part) (a : Int) : Prop where
 here : c.parts[i]? = some q
 pos : l[i]? = some a
 lt : i < c.parts.length
 ltl : i < l.length
 kind : 0 <= q.kind /\ q.kind < 14
 placed : Jb1 q.kind a = 0
 pass : Jfh c l i = Jd5 q.kind.toNat (decide (a = 1))
 vent : J2d c l i = (Jja q.kind.toNat (decide (a = 1))).2
 kat : Jaj c i = q.kind
 mem : ∀ s, s ∈ Jao q.kind.toNat -> (⟨i, s⟩ : Port) ∈ allP c
 passes : Jje q.kind a = Jfh c l i
 vents : Jew q.kind a = Je9 q.kind.toNat (decide (a = 1))
theorem Jg3 {c : Circuit} {l : List Int} (h : Ja7 c l = 0) {i : Nat} {q : Part} (e : c.parts[i]? = some q) : ∃ a, PortFacts c l i q a := by
 obtain ⟨h1, h2, h3⟩ := Jfq h
 obtain ⟨a, ha, hpl, hk⟩ := h3 i q e
 have hi := (gsI.1 e).1
 have hka : Jaj c (i : Int) = q.kind := by rw [Jaj, Int.toNat_natCast, e]; rfl
 have hpo : Jfi l (i : Int) = a := by rw [Jfi, Int.toNat_natCast, ha]; rfl
 have hpass : Jfh c l i = Jd5 q.kind.toNat (decide (a = 1)) := by rw [Jfh, hka, hpo]
 refine ⟨a, ⟨e, ha, hi, by omega, hk, hpl, hpass, by rw [J2d, hka, hpo], hka, fun s hs => ?_, by rw [hpass, Jje, if_pos hpl], by rw [Jew, if_pos hpl]⟩⟩
 exact Jgb.2 (Jiy.2 ⟨q, by rw [Int.toNat_natCast]; exact e, by simp, hs⟩)
def Jkf (c : Circuit) (m : List Bool) (i : Int) (s : Txt) : Bool := if s = [] then false else mkd m (netN c i s)
end Go.Am
namespace Go.Am
open Go Go.Proofs Go.Pn
structure Psg where
 part : Int
 to : Nat
 fr : List Nat
 all : Bool
 deriving DecidableEq
def Jc2 (S : Nat -> Bool) (y : Psg) : Bool := if y.all then y.fr.all S else y.fr.any S
theorem Jqq {S T : Nat -> Bool} (h : ∀ n, S n = true -> T n = true) {y : Psg} (hf : Jc2 S y = true) : Jc2 T y = true := by
 unfold Jc2 at *
 split at hf
 . rename_i ha
   rw [if_pos ha]
   rw [List.all_eq_true] at hf ⊢
   exact fun x hx => h x (hf x hx)
 . rename_i ha
   rw [if_neg ha]
   rw [List.any_eq_true] at hf ⊢
   obtain ⟨x, hx, hs⟩ := hf
   exact ⟨x, hx, h x hs⟩
def grow (ps : List Psg) : Nat -> List Nat -> List Nat
 | 0, l => l
 | k + 1, l => match ps.find? fun y => !l.contains y.to && Jc2 l.contains y with
   | some y => grow ps k (y.to :: l)
   | none => l
def lfp (ps : List Psg) (N : Nat) : List Nat := grow ps (N + 1) []
def Jhg (ps : List Psg) (S : Nat -> Bool) : Prop := ∀ y ∈ ps, Jc2 S y = true -> S y.to = true
theorem Jxe {ps : List Psg} {N : Nat} (hN : ∀ y ∈ ps, y.to < N) : ∀ {k : Nat} {l : List Nat}, l.Nodup -> (∀ n ∈ l, n < N) -> N < k + l.length -> Jhg ps (grow ps k l).contains
 | 0, l, hn, hl, hk => by
   have := Jnx (m := List.range N) hn fun x hx => List.mem_range.2 (hl x hx)
   rw [List.length_range] at this
   omega
 | k + 1, l, hn, hl, hk => by
   unfold grow
   split
   . rename_i y hy
     have h1 := List.find?_some hy
     have h2 := List.mem_of_find?_eq_some hy
     simp only [Bool.and_eq_true, Bool.not_eq_true'] at h1
     have hne : y.to ∉ l := fun h => by have := List.contains_iff_mem.2 h; rw [h1.1] at this; cases this
     refine Jxe hN (List.nodup_cons.2 ⟨hne, hn⟩) (fun n hm => ?_) (by simp; omega)
     rcases List.mem_cons.1 hm with rfl | hm
     . exact hN y h2
     . exact hl n hm
   . rename_i hy
     intro y hm hf
     have := List.find?_eq_none.1 hy y hm
     simp only [Bool.and_eq_true, Bool.not_eq_true', not_and] at this
     cases hc : l.contains y.to with
     | true => rfl
     | false => exact absurd hf (this hc)
theorem Jxf {ps : List Psg} {S : Nat -> Bool} (hS : Jhg ps S) : ∀ {k : Nat} {l : List Nat}, (∀ n ∈ l, S n = true) -> ∀ n ∈ grow ps k l, S n = true
 | 0, l, hl => hl
 | k + 1, l, hl => by
   unfold grow
   split
   . rename_i y hy
     have h1 := List.find?_some hy
     have h2 := List.mem_of_find?_eq_some hy
     simp only [Bool.and_eq_true, Bool.not_eq_true'] at h1
     refine Jxf hS fun n hm => ?_
     rcases List.mem_cons.1 hm with rfl | hm
     . exact hS y h2 (Jqq (fun n hn => hl n (List.contains_iff_mem.1 hn)) h1.2)
     . exact hl n hm
   . exact hl
theorem Jq8 {ps : List Psg} {N : Nat} (hN : ∀ y ∈ ps, y.to < N) : Jhg ps (lfp ps N).contains := Jxe hN List.nodup_nil (by simp) (by simp)
theorem Jym {ps : List Psg} {N : Nat} {S : Nat -> Bool} (hS : Jhg ps S) : ∀ n ∈ lfp ps N, S n = true := Jxf hS (by simp)
theorem Jyl {ps : List Psg} {N : Nat} (hN : ∀ y ∈ ps, y.to < N) {S : Nat -> Bool} (hS : Jhg ps S) (hm : ∀ n, S n = true -> n ∈ lfp ps N) (n : Nat) : S n = (lfp ps N).contains n := by
 rw [Bool.eq_iff_iff, List.contains_iff_mem]
 exact ⟨hm n, Jym hS n⟩
def Jg5 (c : Circuit) (l : List Int) (i : Nat) : List Psg := (Jfh c l i).map fun y => ⟨i, netN c i y.to, y.fr.map (netN c i), y.all⟩
def psgs (c : Circuit) (l : List Int) : List Psg := (List.range c.parts.length).flatMap (Jg5 c l)
def Jll (c : Circuit) : List Psg := ((List.range c.parts.length).filter fun (i : Nat) => decide (Jaj c (i : Int) = 0)).map fun (i : Nat) => ⟨i, netN c i t1, [], true⟩
def prs (c : Circuit) (l : List Int) : List Nat := lfp (Jll c ++ psgs c l) (nets c).length
def opens (c : Circuit) (l : List Int) (i : Nat) : List Txt := Je9 (Jaj c i).toNat (decide (Jfi l i = 1)) ++ (Jao (Jaj c i).toNat).filter fun s => decide (Jdp (Jaj c i).toNat s = 2)
def Js5 (c : Circuit) (l : List Int) : List Psg := (List.range c.parts.length).flatMap fun i => ((opens c l i).map (netN c i)).map fun n => ⟨i, n, [], true⟩
def Jls (c : Circuit) (l : List Int) : List Psg := (Js5 c l ++ (psgs c l).map fun y => (⟨y.part, y.to, y.fr, false⟩ : Psg)).filter fun y => !(prs c l).contains y.to
def vts (c : Circuit) (l : List Int) : List Nat := lfp (Jls c l) (nets c).length
def Jhc (c : Circuit) (l : List Int) (n : Nat) : Int := if (prs c l).contains n then 2 else if (vts c l).contains n then 1 else 0
def states (c : Circuit) (l : List Int) : List Int := (List.range (nets c).length).map (Jhc c l)
end Go.Am
namespace Go.Am
open Go Go.Proofs Go.Pn
theorem Jzd {α : Type} {l : List α} (h : l.Nodup) {i j : Nat} {x : α} (hi : l[i]? = some x) (hj : l[j]? = some x) : i = j := by
 obtain ⟨h1, e1⟩ := gsI.1 hi
 obtain ⟨h2, e2⟩ := gsI.1 hj
 have hp := List.pairwise_iff_getElem.1 h
 rcases Nat.lt_trichotomy i j with h3 | h3 | h3
 . exact absurd (e1.trans e2.symm) (hp i j h1 h2 h3)
 . exact h3
 . exact absurd (e2.trans e1.symm) (hp j i h2 h1 h3)
theorem Jk0 {c : Circuit} (h : Jac c = 0) {i : Nat} {g : List Port} {p : Port} (e : (nets c)[i]? = some g) (hp : p ∈ g) : netP c p = i /\ p ∈ allP c := by
 have hroot : ∀ {k : Nat} {g : List Port}, (nets c)[k]? = some g -> p ∈ g -> (Jbe (rt c) (allP c))[k]? = some (rt c p) /\ p ∈ allP c := by
   intro k g e hp
   rw [Jnw h, List.getElem?_map, Option.map_eq_some_iff] at e
   obtain ⟨r, hr, rfl⟩ := e
   obtain ⟨h1, h2⟩ := List.mem_filter.1 hp
   have : rt c p = r := by simpa using h2
   rw [this]
   exact ⟨hr, h1⟩
 obtain ⟨r1, ha⟩ := hroot e hp
 obtain ⟨j, g2, k1, k2, k3⟩ := Jrg h ha
 obtain ⟨r2, _⟩ := hroot k2 k3
 rw [k1, Jzd Jsb r2 r1]
 exact ⟨rfl, ha⟩
theorem Kcn {c : Circuit} (h : Jac c = 0) {i : Nat} {g : List Port} {j : Int} {s : Txt} (e : (nets c)[i]? = some g) (hp : (⟨j, s⟩ : Port) ∈ g) : netN c j s = i := by
 unfold netN
 rw [(Jk0 h e hp).1]
 omega
theorem Jy9 {c : Circuit} (h : Jac c = 0) {j : Int} {s : Txt} (hp : (⟨j, s⟩ : Port) ∈ allP c) : ∃ g, (nets c)[netN c j s]? = some g /\ (⟨j, s⟩ : Port) ∈ g := by
 obtain ⟨i, g, h1, h2, h3⟩ := Jrg h hp
 refine ⟨g, ?_, h3⟩
 unfold netN
 rw [h1, Int.toNat_natCast]
 exact h2
theorem Jjg {c : Circuit} {l : List Int} {y : Psg} : y ∈ psgs c l ↔ ∃ (i : Nat) (z : Pass), i < c.parts.length /\ z ∈ Jfh c l i /\ y = ⟨i, netN c i z.to, z.fr.map (netN c i), z.all⟩ := by
 unfold psgs Jg5
 simp only [List.mem_flatMap, List.mem_range, List.mem_map]
 constructor
 . rintro ⟨i, hi, z, hz, rfl⟩
   exact ⟨i, z, hi, hz, rfl⟩
 . rintro ⟨i, z, hi, hz, rfl⟩
   exact ⟨i, hi, z, hz, rfl⟩
theorem Jsr {c : Circuit} {y : Psg} : y ∈ Jll c ↔ ∃ (i : Nat), i < c.parts.length /\ Jaj c i = 0 /\ y = ⟨i, netN c i t1, [], true⟩ := by
 unfold Jll
 simp only [List.mem_map, List.mem_filter, List.mem_range, decide_eq_true_eq]
 constructor
 . rintro ⟨i, ⟨hi, hk⟩, rfl⟩
   exact ⟨i, hi, hk, rfl⟩
 . rintro ⟨i, hi, hk, rfl⟩
   exact ⟨i, ⟨hi, hk⟩, rfl⟩
theorem Jn5 {c : Circuit} {l : List Int} (h : Ja7 c l = 0) {i : Nat} (hi : i < c.parts.length) {z : Pass} (hz : z ∈ Jfh c l i) : (⟨i, z.to⟩ : Port) ∈ allP c /\ (∀ s ∈ z.fr, (⟨i, s⟩ : Port) ∈ allP c) /\ 1 <= z.fr.length := by
 obtain ⟨q, e⟩ := Jae hi
 obtain ⟨a, F⟩ := Jg3 h e
 rw [F.pass] at hz
 obtain ⟨y1, y2, y3, _⟩ := Ke3 (by have := F.kind; omega) _ z hz
 exact ⟨F.mem _ y1, fun s hs => F.mem s (y2 s hs), y3⟩
theorem J1v {c : Circuit} {l : List Int} (h : Ja7 c l = 0) {i : Nat} (hi : i < c.parts.length) (hk : Jaj c i = 0) : (⟨i, t1⟩ : Port) ∈ allP c := by
 obtain ⟨q, e⟩ := Jae hi
 obtain ⟨a, F⟩ := Jg3 h e
 refine F.mem _ ?_
 have : q.kind = 0 := by rw [<- F.kat]; exact hk
 rw [this]
 decide
theorem J0v {c : Circuit} {l : List Int} (h : Ja7 c l = 0) : ∀ y ∈ Jll c ++ psgs c l, y.to < (nets c).length := by
 have hc := (Jfq h).1
 intro y hy
 rcases List.mem_append.1 hy with hy | hy
 . obtain ⟨i, hi, hk, rfl⟩ := Jsr.1 hy
   exact (Jep hc (J1v h hi hk)).2
 . obtain ⟨i, z, hi, hz, rfl⟩ := Jjg.1 hy
   exact (Jep hc (Jn5 h hi hz).1).2
theorem J0u {c : Circuit} {l : List Int} (h : Ja7 c l = 0) : Jhg (Jll c ++ psgs c l) (prs c l).contains := Jq8 (J0v h)
end Go.Am
namespace Go.Am
open Go Go.Proofs Go.Pn
theorem J2e {k : Nat} (h : k < 14) (b : Bool) : (∀ s ∈ Je9 k b, s ∈ Jao k) /\ (∀ s ∈ Jao k, s ≠ [] /\ Jc0 k s = Jdp k s) := by
 have t1 := (by decide +kernel : ∀ k, k < 14 -> (∀ s ∈ Je9 k true, s ∈ Jao k)) k h
 have t2 := (by decide +kernel : ∀ k, k < 14 -> (∀ s ∈ Je9 k false, s ∈ Jao k)) k h
 have t3 := (by decide +kernel : ∀ k, k < 14 -> ∀ s ∈ Jao k, s ≠ [] /\ Jc0 k s = Jdp k s) k h
 cases b
 . exact ⟨t2, t3⟩
 . exact ⟨t1, t3⟩
theorem Ken {c : Circuit} {l : List Int} {i : Nat} {q : Part} {a : Int} (F : PortFacts c l i q a) : opens c l i = Je9 q.kind.toNat (decide (a = 1)) ++ (Jao q.kind.toNat).filter fun s => decide (Jdp q.kind.toNat s = 2) := by
 have hpo : Jfi l (i : Int) = a := by rw [Jfi, Int.toNat_natCast, F.pos]; rfl
 rw [opens, F.kat, hpo]
theorem Jzt {c : Circuit} {l : List Int} (h : Ja7 c l = 0) {i : Nat} (hi : i < c.parts.length) : ∀ s ∈ opens c l i, (⟨i, s⟩ : Port) ∈ allP c := by
 obtain ⟨q, e⟩ := Jae hi
 obtain ⟨a, F⟩ := Jg3 h e
 have hk : q.kind.toNat < 14 := by have := F.kind; omega
 intro s hs
 rw [Ken F, List.mem_append] at hs
 refine F.mem s ?_
 rcases hs with hs | hs
 . exact (J2e hk _).1 s hs
 . exact (List.mem_filter.1 hs).1
theorem Kio {c : Circuit} {l : List Int} {y : Psg} : y ∈ Js5 c l ↔ ∃ (i : Nat) (s : Txt), i < c.parts.length /\ s ∈ opens c l i /\ y = ⟨i, netN c i s, [], true⟩ := by
 unfold Js5
 simp only [List.mem_flatMap, List.mem_range, List.mem_map]
 constructor
 . rintro ⟨i, hi, n, ⟨s, hs, rfl⟩, rfl⟩
   exact ⟨i, s, hi, hs, rfl⟩
 . rintro ⟨i, s, hi, hs, rfl⟩
   exact ⟨i, hi, _, ⟨s, hs, rfl⟩, rfl⟩
theorem Joy {c : Circuit} {l : List Int} {y : Psg} : y ∈ Jls c l ↔ ((∃ (i : Nat) (s : Txt), i < c.parts.length /\ s ∈ opens c l i /\ y = ⟨i, netN c i s, [], true⟩) \/
   ∃ (i : Nat) (z : Pass), i < c.parts.length /\ z ∈ Jfh c l i /\ y = ⟨i, netN c i z.to, z.fr.map (netN c i), false⟩) /\ y.to ∉ prs c l := by
 unfold Jls
 rw [List.mem_filter, List.mem_append, Kio, List.mem_map]
 have : (!(prs c l).contains y.to) = true ↔ y.to ∉ prs c l := by
   rw [Bool.not_eq_true', <- Bool.not_eq_true, List.contains_iff_mem]
 rw [this]
 constructor
 . rintro ⟨h | ⟨z, hz, rfl⟩, hn⟩
   . exact ⟨.inl h, hn⟩
   . obtain ⟨i, w, hi, hw, rfl⟩ := Jjg.1 hz
     exact ⟨.inr ⟨i, w, hi, hw, rfl⟩, hn⟩
 . rintro ⟨h | ⟨i, z, hi, hz, rfl⟩, hn⟩
   . exact ⟨.inl h, hn⟩
   . exact ⟨.inr ⟨_, Jjg.2 ⟨i, z, hi, hz, rfl⟩, rfl⟩, hn⟩
theorem Js4 {c : Circuit} {l : List Int} (h : Ja7 c l = 0) : ∀ y ∈ Jls c l, y.to < (nets c).length := by
 have hc := (Jfq h).1
 intro y hy
 rcases (Joy.1 hy).1 with ⟨i, s, hi, hs, rfl⟩ | ⟨i, z, hi, hz, rfl⟩
 . exact (Jep hc (Jzt h hi s hs)).2
 . exact (Jep hc (Jn5 h hi hz).1).2
theorem J2g {c : Circuit} {l : List Int} (h : Ja7 c l = 0) : Jhg (Jls c l) (vts c l).contains := Jq8 (Js4 h)
def Jib (c : Circuit) (l : List Int) : List Bool := (List.range (nets c).length).map fun n => (prs c l).contains n
theorem Kih {c : Circuit} {l : List Int} {n : Nat} (hn : n < (nets c).length) : (Jib c l)[n]? = some ((prs c l).contains n) := by simp [Jib, hn]
end Go.Am
namespace Go.Am
open Go Go.Proofs Go.Pn
@[simp] theorem Kld {l : List Int} : unpR (l.map Int.row) = some (l.map Int.enc) := Jow (f := Int.row) (g := Int.enc) (fun _ => rfl) l
end Go.Am
namespace Go.Am
open Go Go.Proofs Go.Pn
theorem J1n {c : Circuit} {l : List Int} {n : Nat} (hn : n < (nets c).length) : (states c l)[n]? = some (Jhc c l n) := by simp [states, hn]
end Go.Am
namespace Go.Am
open Go Go.Proofs Go.Pn
def Jh2 (c : Circuit) (l : List Int) (s : Txt) : Int := if Ja7 c l ≠ 0 then Ja7 c l else if Jck c s < 0 then 6 else if Jaj c (Jck c s) ≠ 1 then 1 else 0
def Jr1 (o b : Bool) : Int := if o && !b then 1 else if b && !o then -1 else 0
def Jg6 (c : Circuit) (l : List Int) (s : Txt) : Int := if Jh2 c l s ≠ 0 then 0 else Jr1 (Jkf c (Jib c l) (Jck c s) t4) (Jkf c (Jib c l) (Jck c s) t2)
end Go.Am
namespace Go.Am
open Go Go.Proofs Go.Pn
end Go.Am
namespace Go.Am
open Go Go.Proofs Go.Pn
theorem J0j (c : Circuit) (l : List Int) (i : Int) : Jfh c l i = [] \/ ∃ y, Jfh c l i = [y] := by
 have := @Ke4 (Jaj c i).toNat (decide (Jfi l i = 1))
 unfold Jfh
 generalize Jd5 (Jaj c i).toNat (decide (Jfi l i = 1)) = L at this
 match L, this with
 | [], _ => exact .inl rfl
 | [y], _ => exact .inr ⟨y, rfl⟩
 | _ :: _ :: _, h => simp at h
end Go.Am
namespace Go.Am
open Go Go.Proofs Go.Pn
end Go.Am
namespace Go.Am
open Go Go.Proofs Go.Pn
def prA (es : List (Port × Nat)) : List (AV × AV) := es.map fun e => (e.1.av, .p (.int .i64 (e.2 : Nat)))
def Jcu : List (Port × Nat) -> Port -> Option Nat
 | [], _ => none
 | (a, n) :: es, p => if a = p then some n else Jcu es p
theorem Jqn {p : Port} {n : Nat} : ∀ {es : List (Port × Nat)}, Jcu es p = some n -> (p, n) ∈ es
 | [], h => by cases h
 | (a, m) :: es, h => by
   simp only [Jcu] at h
   split at h
   . rename_i e; cases h; subst e; simp
   . exact List.mem_cons_of_mem _ (Jqn h)
theorem Jmx {p : Port} {n : Nat} : ∀ {es : List (Port × Nat)}, (p, n) ∈ es -> Jcu es p ≠ none
 | [], h => by cases h
 | (a, m) :: es, h => by
   simp only [Jcu]
   split
   . simp
   . rename_i e
     rcases List.mem_cons.1 h with h | h
     . cases h; exact absurd rfl e
     . exact Jmx h
theorem J3y {es : List (Port × Nat)} {p : Port} : Jal (prA es) p.av = (Jcu es p).map fun (n : Nat) => AV.p (.int .i64 n) := by
 induction es with
 | nil => simp [prA, Jal, Jcu]
 | cons e es ih =>
   obtain ⟨a, b⟩ := e
   simp only [prA, List.map_cons, Jcu] at ih ⊢
   by_cases h : a = p
   . subst h
     simp [Jal]
   . have hne : a.av ≠ p.av := fun h2 => h (Jgm h2)
     rw [if_neg h, <- ih]
     unfold Jal
     rw [List.find?_cons_of_neg (by simpa using hne)]
theorem Kbp {es : List (Port × Nat)} {i : Int} {s : Txt} : (Jal (prA es) (.agg [.p (.int .i64 i), .p (.str s)])) = (Jcu es ⟨i, s⟩).map fun (n : Nat) => AV.p (.int .i64 n) := J3y (p := ⟨i, s⟩)
@[simp] theorem Kjt {es : List (Port × Nat)} {i : Int} {s : Txt} : Jca Tryz.prog 105 (prA es) (.agg [.p (.int .i64 i), .p (.str s)]) = True := eq_true (Jq4 (f := Prod.fst) (p := ⟨i, s⟩))
theorem Kgu {es : List (Port × Nat)} {p : Port} {n : Nat} (h : Jcu es p = none) : setA (prA es) (.agg [.p (.int .i64 p.part), .p (.str p.name)]) (.p (.int .i64 n)) = prA (es ++ [(p, n)]) := by
 rw [Jh6]
 . simp [prA]
 . intro e he
   obtain ⟨q, hq, rfl⟩ := List.mem_map.1 he
   intro h2
   have : q.1 = p := Jgm h2
   exact Jmx (n := q.2) (by rw [<- this]; exact hq) h
theorem Jbn {ρ : List Nat} {es : List (Port × Nat)} : renE ρ (prA es) = some (prA es) := by
 unfold prA
 induction es with
 | nil => rfl
 | cons e es ih => simp only [List.map_cons, renE, ih]; rfl
def Jcz (c : Circuit) : Nat -> List (Port × Nat)
 | 0 => []
 | k + 1 => Jcz c k ++ match (nets c)[k]? with | some g => g.map (·, k) | none => []
def pairs (c : Circuit) : List (Port × Nat) := Jcz c (nets c).length
def Je3 (c : Circuit) (k : Nat) (g : List Port) (j : Nat) : List (Port × Nat) := Jcz c k ++ (g.take j).map (·, k)
theorem Jz7 {c : Circuit} {k : Nat} {g : List Port} : Je3 c k g 0 = Jcz c k := by simp [Je3]
theorem Jz6 {c : Circuit} {k j : Nat} {g : List Port} {p : Port} (e : g[j]? = some p) : Je3 c k g (j + 1) = Je3 c k g j ++ [(p, k)] := by
 unfold Je3
 rw [take_snoc e]; simp
theorem Jz5 {c : Circuit} {k : Nat} {g : List Port} (e : (nets c)[k]? = some g) : Je3 c k g g.length = Jcz c (k + 1) := by
 simp only [Je3, Jcz, e, List.take_length]
theorem Jk3 {c : Circuit} {p : Port} {n : Nat} : ∀ {k : Nat}, (p, n) ∈ Jcz c k ↔ n < k /\ ∃ g, (nets c)[n]? = some g /\ p ∈ g
 | 0 => by simp [Jcz]
 | k + 1 => by
   simp only [Jcz, List.mem_append]
   rw [Jk3 (k := k)]
   constructor
   . rintro (⟨h1, h2⟩ | h)
     . exact ⟨by omega, h2⟩
     . split at h
       . rename_i g e
         obtain ⟨q, hq, hh⟩ := List.mem_map.1 h
         cases hh
         exact ⟨by omega, g, e, hq⟩
       . cases h
   . rintro ⟨h1, g, e, hp⟩
     by_cases hn : n = k
     . subst hn
       right
       rw [e]
       exact List.mem_map.2 ⟨p, hp, rfl⟩
     . exact .inl ⟨by omega, g, e, hp⟩
theorem Jzb {c : Circuit} (h : Jac c = 0) {g : List Port} (hg : g ∈ nets c) : g.Nodup := by
 rw [Jnw h] at hg
 obtain ⟨r, _, rfl⟩ := List.mem_map.1 hg
 exact (Jph (Ja8 h).1).filter _
theorem Jz8 {c : Circuit} (h : Jac c = 0) {k j : Nat} {g : List Port} {p : Port} (eg : (nets c)[k]? = some g) (e : g[j]? = some p) : Jcu (Je3 c k g j) p = none := by
 cases hf : Jcu (Je3 c k g j) p with
 | none => rfl
 | some n =>
   exfalso
   have hm := Jqn hf
   unfold Je3 at hm
   rcases List.mem_append.1 hm with hm | hm
   . obtain ⟨hn, g', e', hp⟩ := Jk3.1 hm
     have h1 := (Jk0 h e' hp).1
     have h2 := (Jk0 h eg (List.mem_of_getElem? e)).1
     omega
   . obtain ⟨q, hq, hh⟩ := List.mem_map.1 hm
     cases hh
     obtain ⟨i, hi, ei⟩ := List.getElem_of_mem hq
     have hi2 : i < j := by simp at hi; omega
     have : g[i]? = some p := by
       rw [<- List.getElem?_take_of_lt hi2, List.getElem?_eq_getElem hi, ei]
     have := Jzd (Jzb h (List.mem_of_getElem? eg)) this e
     omega
theorem Jwo {c : Circuit} (h : Jac c = 0) {i : Int} {s : Txt} (hp : (⟨i, s⟩ : Port) ∈ allP c) : Jcu (pairs c) ⟨i, s⟩ = some (netN c i s) := by
 obtain ⟨g, e, hg⟩ := Jy9 h hp
 have hlt := (Jep h hp).2
 have hm : ((⟨i, s⟩ : Port), netN c i s) ∈ pairs c := Jk3.2 ⟨hlt, g, e, hg⟩
 cases hf : Jcu (pairs c) ⟨i, s⟩ with
 | none => exact absurd hf (Jmx hm)
 | some n =>
   obtain ⟨_, g', e', hp'⟩ := Jk3.1 (Jqn hf)
   rw [Kcn h e' hp']
def Jbp (c : Circuit) (mb : Nat) : List AV := [.p (.lst 3 (c.parts.map Part.enc)), .p (.lst 4 (c.pipes.map Pipe.enc)), .p (.int .i64 (nets c).length), .map mb]
theorem Jix (c : Circuit) (hc : Jac c = 0) (i : Int) (t : Txt) (hp : (⟨i, t⟩ : Port) ∈ allP c) (b mb : Nat) (s : Store) (nx : Nat) (hb : b < nx) (hm : mb < nx) (hne : b ≠ mb) (hg : get s b = some (.cells 4 [Jbp c mb])) (hgm : get s mb = some (.map (prA (pairs c)))) :
   Gives Tryz.prog GL 58 [.ptr b 4 0 0, .p (.int .i64 i), .p (.str t)] s nx (.p (.int .i64 (netN c i t))) [b, mb] [] nx := by
 have hf := Jwo hc hp
 refine Gives.mk_walkK (N := 15) (args := [.ptr 0 4 0 0, .p (.int .i64 i), .p (.str t)]) [b, mb] [] [(0, some (.cells 4 [Jbp c 1])), (1, some (.map (prA (pairs c))))] [] 2 0 (.p (.int .i64 (netN c i t))) (fun _ => []) (up1 := []) Tryz.func58 rfl rfl rfl (by simp) rfl (by simp [hg, hb, hm, hne, hgm, Jbn, Jbp]; intro q hq; match q, hq with | 0, _ => simp | 1, _ => simp) (by simp) (by simp) (by simp) (by simp) rfl ?_
 simp [Jbp]
 rw [Kbp, hf]
 simp [hit, Jbn]
 decide
theorem g_of (c : Circuit) (l : List Int) (hs : Sized c) (hl : l.length < 4611686018427387904) (h : Ja7 c l = 0) (s : Store) (nx : Nat) :
   Gives Tryz.prog GL 56 [c.av, Ints.av l] s nx (.tup [.ptr nx 4 0 0, .p (.int .i64 0)]) [] [(nx, some (.cells 4 [Jbp c (nx + 1)])), (nx + 1, some (.map (prA (pairs c))))] (nx + 2) := by
 have hc := (Jfq h).1
 have hnl := Ji8 hc
 refine Gives.mk_walkK (N := 56) (args := [c.av, Ints.av l]) [] [] [] [(0, some (.cells 4 [Jbp c 1])), (1, some (.map (prA (pairs c))))] 0 2 (.tup [.ptr 0 4 0 0, .p (.int .i64 0)]) (fun _ => [2, 1]) (up1 := [(nx, some (.cells 4 [Jbp c (nx + 1)])), (nx + 1, some (.map (prA (pairs c))))]) Tryz.func56 rfl rfl rfl (by simp) rfl (by simp) (by simp) (by simp) (by simp [Jbp, Jbn]) (by simp) rfl ?_
 simp
 refine Jab (Jvg c l hs hl) ?_
 simp [h]
 refine Jab (Jum c hs) ?_
 simp [hc]
 refine Jag.go [9, 34, 35] [0, 2] 0 [] (fun _ => []) (fun _ (k : Nat) => [(36, .p (.int .i64 k))]) (fun _ k => [(1, some (.map (prA (Jcz c k))))]) (fun k => k <= (nets c).length) (fun k => (nets c).length - k) 0 (by omega) ?_ ?_
 . simp [Jcz, prA]
   try decide
 . intro k hk
   simp
   refine Jad (fun h3 => ?_) (fun h3 => ?_)
   . simp at h3
     obtain ⟨g, eg⟩ := Jae h3
     have hgl := hnl.2 g (List.mem_of_getElem? eg)
     have hall := Jz5 eg
     simp [h3, eg, Ports.enc, -getElem?_pos, List.getElem?_cons_zero, List.getElem?_cons_succ]
     refine Jag.go [9, 10, 34, 35, 36, 41, 42] [0, 2] 0 [] (fun _ => []) (fun _ (j : Nat) => [(43, .p (.int .i64 j))]) (fun _ j => [(1, some (.map (prA (Je3 c k g j))))]) (fun j => j <= g.length) (fun j => g.length - j) 0 (by omega) ?_ ?_
     . simp [Jz7, Jbn]
       try decide
     . intro j hj
       simp
       refine Jad (fun h4 => ?_) (fun h4 => ?_)
       . simp at h4
         obtain ⟨p, ep⟩ := Jae h4
         have hfr := Jz8 hc eg ep
         have hsn := Jz6 (c := c) (k := k) ep
         have hset := Kgu (n := k) hfr
         simp [h4, ep, -getElem?_pos, List.getElem?_cons_zero, List.getElem?_cons_succ]
         refine Jak.intro (by kernel_rfl) ?_
         simp
         refine ⟨.of (by kernel_rfl), ?_⟩
         refine ⟨wrap_i64 (by omega) (by omega), j + 1, by omega, by omega, ?_⟩
         simp [hset, hsn, Jbn]
         try decide
       . simp at h4
         have hjl : j = g.length := by omega
         subst hjl
         simp
         refine ⟨wrap_i64 (by omega) (by omega), k + 1, by omega, by omega, ?_⟩
         simp [hall, Jbn]
         try decide
   . simp at h3
     have hkl : k = (nets c).length := by omega
     subst hkl
     have hpe : Jcz c (nets c).length = pairs c := rfl
     rw [hpe]
     simp [Jbp, Jbn]
     try decide
theorem J6d (c : Circuit) (l : List Int) (hs : Sized c) (hl : l.length < 4611686018427387904) (h : Ja7 c l ≠ 0) : Pure Tryz.prog GL 56 [c.av, Ints.av l] (.tup [.nilp, .p (.int .i64 (Ja7 c l))]) := by
 refine Pure.of_walk (N := 56) Tryz.func56 rfl rfl rfl (by simp) (by first | (simp; done) | simp [*]) ?_
 simp
 refine Jab (Jvg c l hs hl) ?_
 simp [h]
 simp [Jaa]
end Go.Am
namespace Go.Am
open Go Go.Proofs Go.Pn
def Jbl (l : List Nat) : List Int := l.map fun (n : Nat) => (n : Int)
@[simp] def Psg.enc (y : Psg) : List PV := [.int .i64 y.part, .int .i64 y.to, .lst 1 ((Jbl y.fr).map Int.enc), .bool y.all]
@[simp] def Psg.row (y : Psg) : List AV := [.p (.int .i64 y.part), .p (.int .i64 y.to), .p (.lst 1 ((Jbl y.fr).map Int.enc)), .p (.bool y.all)]
@[simp] def Psg.av (y : Psg) : AV := .agg [.p (.int .i64 y.part), .p (.int .i64 y.to), .p (.lst 1 ((Jbl y.fr).map Int.enc)), .p (.bool y.all)]
@[simp] theorem Kle {l : List Psg} : unpR (l.map Psg.row) = some (l.map Psg.enc) := Jow (f := Psg.row) (g := Psg.enc) (fun _ => rfl) l
def isSt (S : List Int) (v : Int) (n : Nat) : Bool := decide (S[n]? = some v)
theorem Jqy {S : List Int} {v x : Int} {n : Nat} (e : S[n]? = some x) : isSt S v n = decide (x = v) := by simp [isSt, e, -getElem?_pos]
theorem Jvi (S : List Int) (n : Nat) (hn : n < S.length) : Pure Tryz.prog GL 168 [.p (.int .i64 n), .iptr 1 [[.lst 1 (S.map Int.enc)]] 0 0] (.p (.bool (isSt S 2 n))) := by
 refine Pure.of_walk (N := 9) Tryz.func168 rfl rfl rfl (by simp) (by first | (simp; done) | simp [*]) ?_
 obtain ⟨x, e⟩ := Jae hn
 rw [Jqy e]
 simp
 simp [hn, e, -getElem?_pos, List.getElem?_cons_zero, List.getElem?_cons_succ]
 simp [Jaa]
theorem J9a (S : List Int) (n : Nat) (hn : n < S.length) (b d : Nat) (s : Store) (nx : Nat) (hb : b < nx) (hd : d < nx) (hne : d ≠ b) (hg : get s b = some (.cells 1 [[.fn (.func 168) [.ptr d 1 0 0]]])) (hgd : get s d = some (.cells 1 [[.p (.lst 1 (S.map Int.enc))]])) :
   Gives Tryz.prog GL 169 [.p (.int .i64 n), .ptr b 1 0 0] s nx (.p (.bool (!isSt S 2 n))) [d, b] [] nx := by
 refine Gives.mk_walkK (N := 8) (args := [.p (.int .i64 n), .ptr 1 1 0 0]) [d, b] [] [(0, some (.cells 1 [[.p (.lst 1 (S.map Int.enc))]])), (1, some (.cells 1 [[.fn (.func 168) [.ptr 0 1 0 0]]]))] [] 2 0 (.p (.bool (!isSt S 2 n))) (fun _ => []) (up1 := []) Tryz.func169 rfl rfl rfl (by simp) rfl (by simp [hg, hb, hd, hne, hgd]; intro q hq; match q, hq with | 0, _ => simp | 1, _ => simp) (by simp) (by simp) (by simp) (by simp) rfl ?_
 simp
 refine Jcs ?_
 simp
 refine ⟨_, Jvi S n hn, rfl, ?_⟩
 simp
 try decide
theorem J81 (S : List Int) (xs : List Nat) (hx : ∀ n ∈ xs, n < S.length) (hl : xs.length < 4611686018427387904) (b d : Nat) (s : Store) (nx : Nat) (hb : b < nx) (hd : d < nx) (hne : d ≠ b) (hg : get s b = some (.cells 1 [[.fn (.func 168) [.ptr d 1 0 0]]])) (hgd : get s d = some (.cells 1 [[.p (.lst 1 (S.map Int.enc))]])) :
   Gives Tryz.prog GL 172 [.p (.lst 1 ((Jbl xs).map Int.enc)), .fn (.func 169) [.ptr b 1 0 0]] s nx (.p (.int .i64 (idxI xs fun n => !isSt S 2 n))) [d, b] [] nx := by
 have hnl : (Jbl xs).length = xs.length := by simp [Jbl]
 refine Gives.mk_walkK (N := 19) (args := [.p (.lst 1 ((Jbl xs).map Int.enc)), .fn (.func 169) [.ptr 1 1 0 0]]) [d, b] [] [(0, some (.cells 1 [[.p (.lst 1 (S.map Int.enc))]])), (1, some (.cells 1 [[.fn (.func 168) [.ptr 0 1 0 0]]]))] [] 2 0 (.p (.int .i64 (idxI xs fun n => !isSt S 2 n))) (fun _ => []) (up1 := []) Tryz.func172 rfl rfl rfl (by simp) rfl (by simp [hg, hb, hd, hne, hgd]; intro q hq; match q, hq with | 0, _ => simp | 1, _ => simp) (by simp) (by simp) (by simp) (by simp) rfl ?_
 simp [hnl]
 refine Jag.go [0, 1, 7] [0, 1] 0 [] (fun _ => []) (fun _ (k : Nat) => [(8, .p (.int .i64 k))]) (fun _ _ => []) (fun k => k <= xs.length /\ ∀ (j : Nat) x, j < k -> xs[j]? = some x -> (!isSt S 2 x) = false) (fun k => xs.length - k) 0 ⟨by omega, fun j b h => by omega⟩ ?_ ?_
 . simp
   try decide
 . rintro k ⟨hk, hp⟩
   simp
   refine Jad (fun h => ?_) (fun h => ?_)
   . simp at h
     obtain ⟨x, e⟩ := Jae h
     have e2 : (Jbl xs)[k]? = some (x : Int) := by simp [Jbl, e, -getElem?_pos]
     have hk2 : k < (Jbl xs).length := by omega
     simp [hk2, e2, -getElem?_pos, List.getElem?_cons_zero, List.getElem?_cons_succ]
     refine Ja6 (J9a S x (hx x (List.mem_of_getElem? e)) 1 0 _ _ (by simp) (by simp) (by simp) (by simp) (by simp)) ?_
     simp
     refine Jad (fun h2 => ?_) (fun h2 => ?_)
     . simp [Jaa, Jej (q := fun n => !isSt S 2 n) e (by simpa using h2) hp]
       try decide
     . simp
       refine ⟨wrap_i64 (by omega) (by omega), k + 1, ⟨by omega, by simpa using Jdt (P := fun n => (!isSt S 2 n) = false) hp e (by simpa using h2)⟩, by omega, ?_⟩
       simp
       try decide
   . simp at h
     have hk2 : k = xs.length := by omega
     subst hk2
     simp [Jaa, Jfd (q := fun n => !isSt S 2 n) (Jed hp)]
     try decide
theorem J8v (S : List Int) (xs : List Nat) (hx : ∀ n ∈ xs, n < S.length) (hl : xs.length < 4611686018427387904) (b d : Nat) (s : Store) (nx : Nat) (hb : b < nx) (hd : d < nx) (hne : d ≠ b) (hg : get s b = some (.cells 1 [[.fn (.func 168) [.ptr d 1 0 0]]])) (hgd : get s d = some (.cells 1 [[.p (.lst 1 (S.map Int.enc))]])) :
   Gives Tryz.prog GL 113 [.p (.lst 1 ((Jbl xs).map Int.enc)), .fn (.func 169) [.ptr b 1 0 0]] s nx (.p (.bool (xs.any fun n => !isSt S 2 n))) [d, b] [] nx := by
 refine Gives.mk_walkK (N := 9) (args := [.p (.lst 1 ((Jbl xs).map Int.enc)), .fn (.func 169) [.ptr 1 1 0 0]]) [d, b] [] [(0, some (.cells 1 [[.p (.lst 1 (S.map Int.enc))]])), (1, some (.cells 1 [[.fn (.func 168) [.ptr 0 1 0 0]]]))] [] 2 0 (.p (.bool (xs.any fun n => !isSt S 2 n))) (fun _ => []) (up1 := []) Tryz.func113 rfl rfl rfl (by simp) rfl (by simp [hg, hb, hd, hne, hgd]; intro q hq; match q, hq with | 0, _ => simp | 1, _ => simp) (by simp) (by simp) (by simp) (by simp) rfl ?_
 simp
 refine Ja6 (J81 S xs hx hl 1 0 _ _ (by simp) (by simp) (by simp) (by simp) (by simp)) ?_
 have hq : decide ((0 : Int) <= idxI xs fun n => !isSt S 2 n) = xs.any (fun n => !isSt S 2 n) := by rw [Bool.eq_iff_iff]; simp [Jhr]
 simp [hq]
 try decide
theorem J6c (S : List Int) (y : Psg) (hx : ∀ n ∈ y.fr, n < S.length) (hl : y.fr.length < 4611686018427387904) : Pure Tryz.prog GL 110 [.p (.lst 1 (S.map Int.enc)), y.av] (.p (.bool (Jc2 (isSt S 2) y))) := by
 refine Pure.of_walk (N := 18) Tryz.func110 rfl rfl rfl (by simp) (by first | (simp; done) | simp [*]) ?_
 simp
 refine Jad (fun h => ?_) (fun h => ?_)
 . simp
   refine Ja6 (J8v S y.fr hx hl 2 0 _ _ (by simp) (by simp) (by simp) (by simp) (by simp)) ?_
   simp [Jaa, Jc2, h]
   rw [List.any_eq_not_all_not]
   simp
 . simp
   refine Jcs ?_
   simp
   have hcl : ∀ n ∈ Jbl y.fr, Pure Tryz.prog GL 168 (Int.av n :: [.iptr 1 [[.lst 1 (S.map Int.enc)]] 0 0]) (.p (.bool (decide (S[n.toNat]? = some 2)))) := fun n hn => by
     obtain ⟨m, hm, rfl⟩ := List.mem_map.1 hn
     simpa [isSt] using Jvi S m (hx m hm)
   refine ⟨_, J36 (Jbl y.fr) (fun n => decide (S[n.toNat]? = some 2)) 168 [.iptr 1 [[.lst 1 (S.map Int.enc)]] 0 0] (by simp) (by simpa [Jbl] using hl) hcl, rfl, ?_⟩
   simp [Jaa, Jc2, h, isSt, Jbl, List.any_map, Function.comp_def]
   rfl
end Go.Am
namespace Go.Am
open Go Go.Proofs Go.Pn
@[simp] theorem Kj6 : (List.range 2)[0]? = some 0 := rfl
@[simp] theorem Kj7 : (List.range 2)[1]? = some 1 := rfl
@[simp] theorem Kka : (List.range 3)[0]? = some 0 := rfl
@[simp] theorem Kkb : (List.range 3)[1]? = some 1 := rfl
@[simp] theorem Kkc : (List.range 3)[2]? = some 2 := rfl
@[simp] theorem Kj9 : (List.range 2).Nodup := List.nodup_range
@[simp] theorem Kkd : (List.range 3).Nodup := List.nodup_range
def Jb3 (q : List Int -> Psg -> Bool) (v : Int) (S : List Int) (y : Psg) : List Int := if S[y.to]? = some 0 /\ q S y = true then S.set y.to v else S
def Jkh (q : List Int -> Psg -> Bool) (v : Int) (l : List Psg) (S : List Int) : List Int := l.foldl (Jb3 q v) S
def Jey (S : List Int) : Nat := S.countP fun x => decide (x = 0)
def cFin (q : List Int -> Psg -> Bool) (v : Int) (l : List Psg) : Nat -> List Int -> List Int
 | 0, S => S
 | k + 1, S => if Jkh q v l S = S then S else cFin q v l k (Jkh q v l S)
def Jee (q : List Int -> Psg -> Bool) (v : Int) (l : List Psg) (S : List Int) : List Int := cFin q v l (Jey S + 1) S
theorem Jud {q v S y} (h : ¬(S[y.to]? = some 0 /\ q S y = true)) : Jb3 q v S y = S := if_neg h
theorem Jue {q v S} {y : Psg} (h : S[y.to]? = some 0) (h2 : q S y = true) : Jb3 q v S y = S.set y.to v := if_pos ⟨h, h2⟩
theorem J26 {S : List Int} {n : Nat} {v : Int} (hv : v ≠ 0) (h : S[n]? = some 0) : Jey (S.set n v) < Jey S := by
 unfold Jey
 obtain ⟨hn, e⟩ := gsI.1 h
 rw [List.countP_set hn]
 have h1 : 0 < S.countP fun x => decide (x = 0) := List.countP_pos_iff.2 ⟨0, List.mem_of_getElem? h, by simp⟩
 simp [e, hv]
 omega
theorem Jpr {q} {v : Int} {S y} (hv : v ≠ 0) : Jey (Jb3 q v S y) < Jey S \/ Jb3 q v S y = S := by
 unfold Jb3
 split
 . rename_i h
   exact .inl (J26 hv h.1)
 . exact .inr rfl
inductive CReach (q : List Int -> Psg -> Bool) (v : Int) (l : List Psg) (S : List Int) : List Int -> Prop
 | refl : CReach q v l S S
 | step {R : List Int} {y : Psg} (h : CReach q v l S R) (hm : y ∈ l) (h0 : R[y.to]? = some 0) (hq : q R y = true) : CReach q v l S (R.set y.to v)
theorem CReach.trans {q v l S R T} (h : CReach q v l S R) (k : CReach q v l R T) : CReach q v l S T := by
 induction k with
 | refl => exact h
 | step _ hm h0 hq ih => exact .step ih hm h0 hq
theorem CReach.one {q v l S} {y : Psg} (hm : y ∈ l) : CReach q v l S (Jb3 q v S y) := by
 unfold Jb3
 split
 . rename_i h
   exact .step .refl hm h.1 h.2
 . exact .refl
theorem CReach.fold {q v l} : ∀ {l' : List Psg} {S : List Int}, (∀ y ∈ l', y ∈ l) -> CReach q v l S (l'.foldl (Jb3 q v) S)
 | [], S, _ => .refl
 | y :: l', S, h => (CReach.one (h y (by simp))).trans (CReach.fold fun z hz => h z (by simp [hz]))
theorem Jub {q v l} : ∀ {k : Nat} {S : List Int}, CReach q v l S (cFin q v l k S)
 | 0, S => .refl
 | k + 1, S => by
   unfold cFin
   split
   . exact .refl
   . exact (CReach.fold fun _ h => h).trans Jub
theorem Jqr {q} {v : Int} (hv : v ≠ 0) : ∀ {l : List Psg} {S : List Int}, Jey (l.foldl (Jb3 q v) S) < Jey S \/ l.foldl (Jb3 q v) S = S
 | [], S => .inr rfl
 | y :: l, S => by
   rw [List.foldl_cons]
   rcases Jqr (q := q) hv (l := l) (S := Jb3 q v S y) with h | h
   . rcases Jpr (q := q) (S := S) (y := y) hv with k | k
     . exact .inl (by omega)
     . rw [k] at h ⊢; exact .inl h
   . rw [h]; exact Jpr hv
theorem Jww {q} {v : Int} (hv : v ≠ 0) : ∀ {l : List Psg} {S : List Int}, l.foldl (Jb3 q v) S = S -> ∀ y ∈ l, Jb3 q v S y = S
 | [], S, _, y, hy => by cases hy
 | z :: l, S, h, y, hy => by
   rw [List.foldl_cons] at h
   have hz : Jb3 q v S z = S := by
     rcases Jpr (q := q) (S := S) (y := z) hv with k | k
     . rcases Jqr (q := q) hv (l := l) (S := Jb3 q v S z) with j | j
       . rw [h] at j; omega
       . rw [h] at j; rw [<- j] at k; omega
     . exact k
   rw [hz] at h
   rcases List.mem_cons.1 hy with rfl | hy
   . exact hz
   . exact Jww hv h y hy
theorem Juc {q} {v : Int} {l : List Psg} (hv : v ≠ 0) : ∀ {k : Nat} {S : List Int}, Jey S < k -> Jkh q v l (cFin q v l k S) = cFin q v l k S
 | 0, S, h => by omega
 | k + 1, S, h => by
   unfold cFin
   split
   . assumption
   . rename_i hne
     refine Juc hv ?_
     rcases Jqr (q := q) hv (l := l) (S := S) with j | j
     . unfold Jkh; omega
     . exact absurd j hne
theorem Jin {q v l S} : CReach q v l S (Jee q v l S) := Jub
theorem Jvu {q} {v : Int} {l S} (hv : v ≠ 0) : ∀ y ∈ l, Jb3 q v (Jee q v l S) y = Jee q v l S :=
 Jww hv (Juc hv (by omega))
theorem CReach.len {q v l S R} (h : CReach q v l S R) : R.length = S.length := by
 induction h with
 | refl => rfl
 | step _ _ _ _ ih => simp [ih]
theorem Jvt {q v l S} : (Jee q v l S).length = S.length := Jin.len
structure CSt where
 S : List Int
 b : Bool
 n : Nat
def Jpf (N : Nat) (cp : Option Nat) (m : Nat) (q : List Int -> Psg -> Bool) (l : List Psg) : Prop := ∀ (S : List Int) (y : Psg), S.length = N -> y ∈ l -> ∀ (s : Store) (nx bs bo : Nat), bs < nx -> bo < nx -> bs ≠ bo ->
 get s bs = some (.cells 1 (S.map Int.row)) -> get s bo = some (.cells 1 [[.ref bs 1 0 N cp]]) -> Gives Tryz.prog GL m [y.av, .ptr bo 1 0 0] s nx (.p (.bool (q S y))) [bs, bo] [] nx
theorem Jw8 (S : List Int) (l : List Psg) (v : Int) (hv : v ≠ 0) (m : Nat) (q : List Int -> Psg -> Bool) (cp : Option Nat) (ht : Jpf S.length cp m q l) (hto : ∀ y ∈ l, y.to < S.length) (hl : l.length < 4611686018427387904)
   (s : Store) (nx bs bo : Nat) (hb : bs < nx) (hd : bo < nx) (hne : bs ≠ bo) (hg : get s bs = some (.cells 1 (S.map Int.row))) (hgd : get s bo = some (.cells 1 [[.ref bs 1 0 S.length cp]])) :
   Gives Tryz.prog GL 108 [.ref bs 1 0 S.length cp, .p (.lst 4 (l.map Psg.enc)), .p (.int .i64 v), .fn (.func m) [.ptr bo 1 0 0]] s nx (.tup []) [bs, bo] [(bs, some (.cells 1 ((Jee q v l S).map Int.row)))] nx := by
 refine Gives.mk_walkK (N := 35) (args := [.ref 0 1 0 S.length cp, .p (.lst 4 (l.map Psg.enc)), .p (.int .i64 v), .fn (.func m) [.ptr 1 1 0 0]]) [bs, bo] [] [(0, some (.cells 1 (S.map Int.row))), (1, some (.cells 1 [[.ref 0 1 0 S.length cp]]))] [(0, some (.cells 1 ((Jee q v l S).map Int.row)))] 2 0 (.tup []) (fun _ => []) (up1 := [(bs, some (.cells 1 ((Jee q v l S).map Int.row)))]) Tryz.func108 rfl rfl rfl (by simp) rfl (by simp [hg, hb, hd, hne, hgd]; intro q hq; match q, hq with | 0, _ => simp | 1, _ => simp) (by simp) (by simp) (by simp) (by simp) rfl ?_
 simp
 refine Jag.go [0, 1, 2, 3] [1] 0 [] (fun _ => []) (fun _ (g : CSt) => [(8, .p (.bool g.b))]) (fun _ g => [(0, some (.cells 1 (g.S.map Int.row)))]) (fun g => g.S.length = S.length /\ (g.b = true -> Jey g.S < g.n) /\ (g.b = true -> cFin q v l g.n g.S = Jee q v l S) /\ (g.b = false -> g.S = Jee q v l S)) (fun g => g.n + if g.b = true then 1 else 0) ⟨S, true, Jey S + 1⟩ ⟨rfl, fun _ => by simp, fun _ => rfl, by simp⟩ ?_ ?_
 . simp
   try decide
 . rintro ⟨T, more, k⟩ ⟨hlen, h0, h1, h2⟩
   dsimp only at hlen h0 h1 h2
   simp
   refine Jad (fun h3 => ?_) (fun h3 => ?_)
   . subst h3
     have hz := h0 rfl
     have hfin := h1 rfl
     simp
     refine Jag.go [0, 1, 2, 3, 12, 13] [1] 0 [] (fun _ => []) (fun _ (g : CSt) => [(8, .p (.bool g.b)), (14, .p (.int .i64 g.n))]) (fun _ g => [(0, some (.cells 1 (g.S.map Int.row)))]) (fun g => g.n <= l.length /\ g.S.length = S.length /\ g.S = (l.take g.n).foldl (Jb3 q v) T /\ (g.b = true -> Jey g.S < Jey T) /\ (g.b = false -> g.S = T)) (fun g => l.length - g.n) ⟨T, false, 0⟩ ⟨by simp, hlen, by simp, by simp, by simp⟩ ?_ ?_
     . simp
       try decide
     . rintro ⟨U, ch, j⟩ ⟨hj, hUl, hU, hc1, hc2⟩
       dsimp only at hj hUl hU hc1 hc2
       simp
       refine Jad (fun h4 => ?_) (fun h4 => ?_)
       . simp at h4
         obtain ⟨y, ey⟩ := Jae h4
         have hm := List.mem_of_getElem? ey
         have hyt := hto y hm
         obtain ⟨x, ex⟩ := Jae (xs := U) (k := y.to) (by omega)
         simp [h4, ey, Psg.enc, hyt, ex, -getElem?_pos, List.getElem?_cons_zero, List.getElem?_cons_succ]
         have hsn : (l.take (j + 1)).foldl (Jb3 q v) T = Jb3 q v U y := by rw [foldl_snoc ey, <- hU]
         refine Jad (fun h5 => ?_) (fun h5 => ?_)
         . simp at h5
           subst h5
           simp
           refine Ja6 (ht U y hUl hm _ _ 0 1 (by simp) (by simp) (by simp) (by simp) (by simp)) ?_
           simp
           refine Jad (fun h6 => ?_) (fun h6 => ?_)
           . have hon := Jue (v := v) ex h6
             have hz2 := J26 hv ex
             simp [h4, ey, Psg.enc, hyt, ex, -getElem?_pos, List.getElem?_cons_zero, List.getElem?_cons_succ]
             refine ⟨wrap_i64 (by omega) (by omega), ⟨U.set y.to v, true, j + 1⟩, ⟨by dsimp only; omega, by simpa using hUl, by rw [hsn, hon], fun _ => ?_, by simp⟩, by dsimp only; omega, ?_⟩
             . by_cases e : ch = true
               . have := hc1 e
                 dsimp only; omega
               . have := hc2 (by simpa using e)
                 subst this; exact hz2
             . simp
               try decide
           . have hoff := Jud (q := q) (v := v) (S := U) (y := y) (by simp [h6])
             simp
             refine ⟨wrap_i64 (by omega) (by omega), ⟨U, ch, j + 1⟩, ⟨by dsimp only; omega, hUl, by rw [hsn, hoff], hc1, hc2⟩, by dsimp only; omega, ?_⟩
             simp
             try decide
         . simp at h5
           have hoff := Jud (q := q) (v := v) (S := U) (y := y) (by rw [ex]; simp [h5])
           have hf5 : decide (x = 0) = false := by simp [h5]
           simp [hf5]
           refine ⟨wrap_i64 (by omega) (by omega), ⟨U, ch, j + 1⟩, ⟨by dsimp only; omega, hUl, by rw [hsn, hoff], hc1, hc2⟩, by dsimp only; omega, ?_⟩
           simp
           try decide
       . simp at h4
         have hjl : j = l.length := by omega
         subst hjl
         rw [List.take_length] at hU
         have hR : Jkh q v l T = U := hU.symm
         simp
         cases ch with
         | true =>
           have hlt := hc1 rfl
           match k, hfin, hz with
           | k + 1, hfin, hz =>
             refine ⟨⟨U, true, k⟩, ⟨hUl, fun _ => by dsimp only; omega, fun _ => ?_, by simp⟩, by simp, ?_⟩
             . unfold cFin at hfin
               rw [hR, if_neg (by intro e; subst e; omega)] at hfin
               exact hfin
             . simp
               try decide
         | false =>
           have he := hc2 rfl
           subst he
           refine ⟨⟨U, false, 0⟩, ⟨hUl, by simp, by simp, fun _ => ?_⟩, by simp, ?_⟩
           . rw [<- hfin]
             match k, hz with
             | k + 1, hz => unfold cFin; rw [if_pos hR]
           . simp
             try decide
   . have he := h2 h3
     subst he
     simp
     try decide
end Go.Am
namespace Go.Am
open Go Go.Proofs Go.Pn
def venF (S : List Int) (y : Psg) : Bool := y.fr.any (isSt S 1)
theorem J9d (S : List Int) (n : Nat) (hn : n < S.length) (cp : Option Nat) (s : Store) (nx bs bo : Nat) (hb : bs < nx) (hd : bo < nx) (hne : bs ≠ bo) (hg : get s bs = some (.cells 1 (S.map Int.row))) (hgd : get s bo = some (.cells 1 [[.ref bs 1 0 S.length cp]])) :
   Gives Tryz.prog GL 114 [.p (.int .i64 n), .ptr bo 1 0 0] s nx (.p (.bool (isSt S 1 n))) [bs, bo] [] nx := by
 obtain ⟨x, e⟩ := Jae hn
 rw [Jqy e]
 refine Gives.mk_walkK (N := 9) (args := [.p (.int .i64 n), .ptr 1 1 0 0]) [bs, bo] [] [(0, some (.cells 1 (S.map Int.row))), (1, some (.cells 1 [[.ref 0 1 0 S.length cp]]))] [] 2 0 (.p (.bool (decide (x = 1)))) (fun _ => []) (up1 := []) Tryz.func114 rfl rfl rfl (by simp) rfl (by simp [hg, hb, hd, hne, hgd]; intro q hq; match q, hq with | 0, _ => simp | 1, _ => simp) (by simp) (by simp) (by simp) (by simp) rfl ?_
 simp
 simp [hn, e, -getElem?_pos, List.getElem?_cons_zero, List.getElem?_cons_succ]
 try decide
theorem J82 (S : List Int) (xs : List Nat) (hx : ∀ n ∈ xs, n < S.length) (hl : xs.length < 4611686018427387904) (cp : Option Nat) (s : Store) (nx bs bo : Nat) (hb : bs < nx) (hd : bo < nx) (hne : bs ≠ bo) (hg : get s bs = some (.cells 1 (S.map Int.row))) (hgd : get s bo = some (.cells 1 [[.ref bs 1 0 S.length cp]])) :
   Gives Tryz.prog GL 172 [.p (.lst 1 ((Jbl xs).map Int.enc)), .fn (.func 114) [.ptr bo 1 0 0]] s nx (.p (.int .i64 (idxI xs fun n => isSt S 1 n))) [bs, bo] [] nx := by
 have hnl : (Jbl xs).length = xs.length := by simp [Jbl]
 refine Gives.mk_walkK (N := 19) (args := [.p (.lst 1 ((Jbl xs).map Int.enc)), .fn (.func 114) [.ptr 1 1 0 0]]) [bs, bo] [] [(0, some (.cells 1 (S.map Int.row))), (1, some (.cells 1 [[.ref 0 1 0 S.length cp]]))] [] 2 0 (.p (.int .i64 (idxI xs fun n => isSt S 1 n))) (fun _ => []) (up1 := []) Tryz.func172 rfl rfl rfl (by simp) rfl (by simp [hg, hb, hd, hne, hgd]; intro q hq; match q, hq with | 0, _ => simp | 1, _ => simp) (by simp) (by simp) (by simp) (by simp) rfl ?_
 simp [hnl]
 refine Jag.go [0, 1, 7] [0, 1] 0 [] (fun _ => []) (fun _ (k : Nat) => [(8, .p (.int .i64 k))]) (fun _ _ => []) (fun k => k <= xs.length /\ ∀ (j : Nat) x, j < k -> xs[j]? = some x -> (isSt S 1 x) = false) (fun k => xs.length - k) 0 ⟨by omega, fun j b h => by omega⟩ ?_ ?_
 . simp
   try decide
 . rintro k ⟨hk, hp⟩
   simp
   refine Jad (fun h => ?_) (fun h => ?_)
   . simp at h
     obtain ⟨x, e⟩ := Jae h
     have e2 : (Jbl xs)[k]? = some (x : Int) := by simp [Jbl, e, -getElem?_pos]
     have hk2 : k < (Jbl xs).length := by omega
     simp [hk2, e2, -getElem?_pos, List.getElem?_cons_zero, List.getElem?_cons_succ]
     refine Ja6 (J9d S x (hx x (List.mem_of_getElem? e)) cp _ _ 0 1 (by simp) (by simp) (by simp) (by simp) (by simp)) ?_
     simp
     refine Jad (fun h2 => ?_) (fun h2 => ?_)
     . simp [Jaa, Jej (q := fun n => isSt S 1 n) e (by simpa using h2) hp]
       try decide
     . simp
       refine ⟨wrap_i64 (by omega) (by omega), k + 1, ⟨by omega, by simpa using Jdt (P := fun n => isSt S 1 n = false) hp e (by simpa using h2)⟩, by omega, ?_⟩
       simp
       try decide
   . simp at h
     have hk2 : k = xs.length := by omega
     subst hk2
     simp [Jaa, Jfd (q := fun n => isSt S 1 n) (Jed hp)]
     try decide
theorem J8w (S : List Int) (xs : List Nat) (hx : ∀ n ∈ xs, n < S.length) (hl : xs.length < 4611686018427387904) (cp : Option Nat) (s : Store) (nx bs bo : Nat) (hb : bs < nx) (hd : bo < nx) (hne : bs ≠ bo) (hg : get s bs = some (.cells 1 (S.map Int.row))) (hgd : get s bo = some (.cells 1 [[.ref bs 1 0 S.length cp]])) :
   Gives Tryz.prog GL 113 [.p (.lst 1 ((Jbl xs).map Int.enc)), .fn (.func 114) [.ptr bo 1 0 0]] s nx (.p (.bool (xs.any (isSt S 1)))) [bs, bo] [] nx := by
 refine Gives.mk_walkK (N := 9) (args := [.p (.lst 1 ((Jbl xs).map Int.enc)), .fn (.func 114) [.ptr 1 1 0 0]]) [bs, bo] [] [(0, some (.cells 1 (S.map Int.row))), (1, some (.cells 1 [[.ref 0 1 0 S.length cp]]))] [] 2 0 (.p (.bool (xs.any (isSt S 1)))) (fun _ => []) (up1 := []) Tryz.func113 rfl rfl rfl (by simp) rfl (by simp [hg, hb, hd, hne, hgd]; intro q hq; match q, hq with | 0, _ => simp | 1, _ => simp) (by simp) (by simp) (by simp) (by simp) rfl ?_
 simp
 refine Ja6 (J82 S xs hx hl cp _ _ 0 1 (by simp) (by simp) (by simp) (by simp) (by simp)) ?_
 have hq : decide ((0 : Int) <= idxI xs fun n => isSt S 1 n) = xs.any (isSt S 1) := by rw [Bool.eq_iff_iff]; simp [Jhr]
 simp [hq]
 try decide
theorem Kg9 {N : Nat} {cp : Option Nat} {l : List Psg} (hx : ∀ y ∈ l, ∀ n ∈ y.fr, n < N) (hl : ∀ y ∈ l, y.fr.length < 4611686018427387904) : Jpf N cp 109 (fun S => Jc2 (isSt S 2)) l := by
 intro S y hS hm s nx bs bo hb hd hne hg hgd
 subst hS
 refine Gives.mk_walkK (N := 7) (args := [y.av, .ptr 1 1 0 0]) [bs, bo] [] [(0, some (.cells 1 (S.map Int.row))), (1, some (.cells 1 [[.ref 0 1 0 S.length cp]]))] [] 2 0 (.p (.bool (Jc2 (isSt S 2) y))) (fun _ => []) (up1 := []) Tryz.func109 rfl rfl rfl (by simp) rfl (by simp [hg, hb, hd, hne, hgd]; intro q hq; match q, hq with | 0, _ => simp | 1, _ => simp) (by simp) (by simp) (by simp) (by simp) rfl ?_
 simp
 refine Jcs ?_
 simp
 refine ⟨_, J6c S y (hx y hm) (hl y hm), rfl, ?_⟩
 simp
 try decide
theorem Kha {N : Nat} {cp : Option Nat} {l : List Psg} (hx : ∀ y ∈ l, ∀ n ∈ y.fr, n < N) (hl : ∀ y ∈ l, y.fr.length < 4611686018427387904) : Jpf N cp 112 venF l := by
 intro S y hS hm s nx bs bo hb hd hne hg hgd
 subst hS
 refine Gives.mk_walkK (N := 8) (args := [y.av, .ptr 1 1 0 0]) [bs, bo] [] [(0, some (.cells 1 (S.map Int.row))), (1, some (.cells 1 [[.ref 0 1 0 S.length cp]]))] [] 2 0 (.p (.bool (venF S y))) (fun _ => []) (up1 := []) Tryz.func112 rfl rfl rfl (by simp) rfl (by simp [hg, hb, hd, hne, hgd]; intro q hq; match q, hq with | 0, _ => simp | 1, _ => simp) (by simp) (by simp) (by simp) (by simp) rfl ?_
 simp
 refine Ja6 (J8w S y.fr (hx y hm) (hl y hm) cp _ _ 0 1 (by simp) (by simp) (by simp) (by simp) (by simp)) ?_
 simp [venF]
 try decide
end Go.Am
namespace Go.Am
open Go Go.Proofs Go.Pn
theorem J89 (b : Bool) (s : Store) (nx : Nat) : Gives Tryz.prog GL 179 [.p (.int .i64 (posI b))] s nx (.acc nx 1 1) [] [(nx, accB 1 ([if b then t2 else t4].map Txt.row))] (nx + 1) := by
 refine Gives.mk_walkK (N := 8) (args := [.p (.int .i64 (posI b))]) [] [] [] [(0, accB 1 ([if b then t2 else t4].map Txt.row))] 0 1 (.acc 0 1 1) (nms [2]) (up1 := [(nx, accB 1 ([if b then t2 else t4].map Txt.row))]) Tryz.func179 rfl rfl rfl (by simp) rfl (by simp) (by simp) (by simp) (by cases b <;> simp [accB]) (by simp) rfl ?_
 cases b
 . simp [posI]
   rfl
 . simp [posI]
   rfl
theorem J9c (pos : Int) (s : Store) (nx : Nat) : Gives Tryz.prog GL 177 [.p (.int .i64 pos)] s nx (.acc nx 1 0) [] [(nx, accB 1 [])] (nx + 1) := by
 refine Gives.mk_walkK (N := 3) (args := [.p (.int .i64 pos)]) [] [] [] [(0, accB 1 [])] 0 1 (.acc 0 1 0) (nms [2]) (up1 := [(nx, accB 1 [])]) Tryz.func177 rfl rfl rfl (by simp) rfl (by simp) (by simp) (by simp) (by simp [accB]) (by simp) rfl ?_
 simp
theorem Jw9 (n pos : Int) (s : Store) (nx : Nat) : Gives Tryz.prog GL 215 [.p (.int .i64 pos), .iptr 1 [[.int .i64 n]] 0 0] s nx (.acc nx 1 (if pos = n then [] else [t2]).length) [] [(nx, accB 1 ((if pos = n then [] else [t2]).map Txt.row))] (nx + 1) := by
 refine Gives.mk_walkK (N := 8) (args := [.p (.int .i64 pos), .iptr 1 [[.int .i64 n]] 0 0]) [] [] [] [(0, accB 1 ((if pos = n then [] else [t2]).map Txt.row))] 0 1 (.acc 0 1 (if pos = n then [] else [t2]).length) (nms [4]) (up1 := [(nx, accB 1 ((if pos = n then [] else [t2]).map Txt.row))]) Tryz.func215 rfl rfl rfl (by simp) rfl (by simp) (by simp) (by simp) (by split <;> simp [accB]) (by simp) rfl ?_
 simp
 by_cases h : pos = n
 . simp [h]
 . simp [h]
   rfl
theorem J9h (k : Nat) (hk : k < 14) (b : Bool) : ∃ m cap, (catRow k)[11]? = some (.fn (.func m) cap) /\ Jay cap = true /\ ∀ (s : Store) (nx : Nat), Gives Tryz.prog GL m (.p (.int .i64 (posI b)) :: cap) s nx (.acc nx 1 (Je9 k b).length) [] [(nx, accB 1 ((Je9 k b).map Txt.row))] (nx + 1) := by
 have g1 := Jw9 1 (posI b)
 have g0 := Jw9 0 (posI b)
 have ch := J89 b
 have no := J9c (posI b)
 cases b
 all_goals
   simp only [posI, Bool.false_eq_true, if_true, if_false] at g1 g0 ch no ⊢
   rcases (by omega : k = 0 \/ k = 1 \/ k = 2 \/ k = 3 \/ k = 4 \/ k = 5 \/ k = 6 \/ k = 7 \/ k = 8 \/ k = 9 \/ k = 10 \/ k = 11 \/ k = 12 \/ k = 13) with rfl|rfl|rfl|rfl|rfl|rfl|rfl|rfl|rfl|rfl|rfl|rfl|rfl|rfl
   all_goals first
     | exact ⟨_, _, rfl, rfl, no⟩
     | exact ⟨_, _, rfl, rfl, ch⟩
     | exact ⟨_, _, rfl, rfl, g1⟩
     | exact ⟨_, _, rfl, rfl, g0⟩
theorem J88 (k pos : Int) (hp : Jb1 k pos = 0) (s : Store) (nx : Nat) : Gives Tryz.prog GL 170 [.p (.int .i64 k), .p (.int .i64 pos)] s nx (.tup [.acc nx 1 (Jew k pos).length, .p (.int .i64 0)]) [] [(nx, accB 1 ((Jew k pos).map Txt.row))] (nx + 1) := by
 refine Gives.mk_walkK (N := 21) (args := [.p (.int .i64 k), .p (.int .i64 pos)]) [] [] [] [(0, accB 1 ((Jew k pos).map Txt.row))] 0 1 (.tup [.acc 0 1 (Jew k pos).length, .p (.int .i64 0)]) (nms [4]) (up1 := [(nx, accB 1 ((Jew k pos).map Txt.row))]) Tryz.func170 rfl rfl rfl (by simp) rfl (by simp) (by simp) (by simp) (by unfold accB; split <;> simp) (by simp) rfl ?_
 simp
 refine Jab (Jvc k pos) ?_
 obtain ⟨hk, b, hb⟩ := Jn6 hp
 have hl := Jfb (k := k.toNat)
 have h6 := Jfc (k := k.toNat)
 obtain ⟨m, cap, g1, g2, g3⟩ := J9h k.toNat (by omega) b
 have hpa : Jew k pos = Je9 k.toNat b := by rw [Jew, if_pos hp, hb, J0t]
 simp [hp, hl, Jcx]
 refine ⟨by simpa using h6, ?_⟩
 obtain ⟨_, g1'⟩ := gsI.1 g1
 simp [g1']
 rw [hb]
 refine Ja6 (g3 _ _) ?_
 simp
 rw [<- hb]
 simp [hpa, hp]
 cases Je9 k.toNat b <;> simp [accB]
@[simp] theorem Kkr {P : Program} {e b k n : Nat} {K : Cont Prop} : @Jjq P (.slice e) (.acc b k n) K = (@xTy P e ⟨fun _ => True⟩ /\ K.k) := (rfl)
def Jd3 (k pos : Int) (n : Nat) : List Txt := Jew k pos ++ ((Jao k.toNat).take n).filter fun s => decide (Jdp k.toNat s = 2)
theorem Kem {k pos : Int} {n : Nat} {t : Txt} (e : (Jao k.toNat)[n]? = some t) : Jd3 k pos (n + 1) = Jd3 k pos n ++ if Jdp k.toNat t = 2 then [t] else [] := by
 unfold Jd3
 rw [take_snoc e, List.filter_append, List.append_assoc]
 congr 2
 by_cases h : Jdp k.toNat t = 2 <;> simp [h]
theorem Jzr {k pos : Int} (hp : Jb1 k pos = 0) {n : Nat} : (Jd3 k pos n).length <= 1000 := by
 obtain ⟨hk, b, hb⟩ := Jn6 hp
 have h1 : (Jew k pos).length <= 100 := by
   rw [Jew, if_pos hp]
   exact (by decide +kernel : ∀ k, k < 14 -> ∀ b, (Je9 k b).length <= 100) k.toNat (by omega) _
 have h2 : (Jao k.toNat).length <= 100 := (by decide +kernel : ∀ k, k < 14 -> (Jao k).length <= 100) k.toNat (by omega)
 have h3 := List.length_filter_le (fun s => decide (Jdp k.toNat s = 2)) ((Jao k.toNat).take n)
 have h4 : ((Jao k.toNat).take n).length <= (Jao k.toNat).length := by simp; omega
 unfold Jd3
 rw [List.length_append]
 omega
set_option maxRecDepth 20000 in
theorem J6e (q : Part) (pos : Int) (hp : Jb1 q.kind pos = 0) : Pure Tryz.prog GL 111 [q.av, .p (.int .i64 pos)] (.p (.lst 1 ((Jd3 q.kind pos (Jao q.kind.toNat).length).map Txt.enc))) := by
 refine Pure.of_walk (N := 52) Tryz.func111 rfl rfl rfl (by simp) (by first | (simp; done) | simp [*]) ?_
 obtain ⟨hk, _⟩ := Jn6 hp
 have hke : Jas q.kind = 0 := Jcw.2 hk
 have h2 : (Jao q.kind.toNat).length <= 100 := (by decide +kernel : ∀ k, k < 14 -> (Jao k).length <= 100) q.kind.toNat (by omega)
 have h0 : Jd3 q.kind pos 0 = Jew q.kind pos := by simp [Jd3]
 simp
 refine Ja6 (J88 q.kind pos hp _ _) ?_
 simp
 refine Jab (Ju9 q.kind) ?_
 simp [hke]
 rw [<- h0]
 refine Jag.gor [2, 26, 27] [0] [0, 1] (fun st => 0 :: nms [5] st) (fun (j : Nat) => [(5, .acc 1 1 (Jd3 q.kind pos j).length), (28, .p (.int .i64 j))]) (fun j => [(1, accB 1 ((Jd3 q.kind pos j).map Txt.row))]) (fun j => j <= (Jao q.kind.toNat).length) (fun j => (Jao q.kind.toNat).length - j) 0 (by omega) ?_ ?_
 . simp
   try decide
 . intro j hj
   have hol := Jzr hp (n := j)
   simp
   refine Jad (fun h3 => ?_) (fun h3 => ?_)
   . simp at h3
     obtain ⟨t, e⟩ := Jae h3
     have hsn := Kem (pos := pos) e
     simp [h3, e, Txt.enc, -getElem?_pos, List.getElem?_cons_zero, List.getElem?_cons_succ]
     refine Jab (Jpw q.kind t hk) ?_
     generalize Jd3 q.kind pos j = O at *
     generalize Jdp q.kind.toNat t = ro at *
     simp
     have hro : decide ((if ro < 0 then 0 else ro) = 2) = decide (ro = 2) := by
       by_cases hn : ro < 0
       . simp [hn]; omega
       . simp [hn]
     rw [hro]
     refine Jad (fun h4 => ?_) (fun h4 => ?_)
     . simp at h4
       rw [if_pos h4] at hsn
       simp
       refine Jfl (fun h5 => ?_) (fun h5 => ?_)
       . subst h5
         simp
         refine ⟨wrap_i64 (by omega) (by omega), j + 1, by omega, by omega, ?_⟩
         simp [hsn]
         try decide
       . simp
         refine ⟨by omega, h5, wrap_i64 (by omega) (by omega), j + 1, by omega, by omega, ?_⟩
         have hac : accB 1 (O.map Txt.row ++ [[.p (.str t)]]) = some (.cells 1 (O.map Txt.row ++ [[.p (.str t)]])) := by simp [accB]
         simp [hsn, hac]
         try decide
     . simp at h4
       rw [if_neg h4] at hsn
       simp at hsn
       simp
       refine ⟨wrap_i64 (by omega) (by omega), j + 1, by omega, by omega, ?_⟩
       simp [hsn]
       try decide
   . simp at h3
     have hjl : j = (Jao q.kind.toNat).length := by omega
     subst hjl
     generalize Jd3 q.kind pos (Jao q.kind.toNat).length = O at *
     simp [Jaa]
end Go.Am
namespace Go.Am
open Go Go.Proofs Go.Pn
section
variable {P : Program} {G : Jaf} {N n0 : Nat}
theorem Jag.goN {γ : Type} {c : Cont Code} {t : Jam} {s : Store} {nx : Nat} {Q : Cont KQ} (keep keepB : List Nat) (n : Nat) (M : γ -> Jam) (B : γ -> Store) (I : γ -> Prop) (μ : γ -> Nat) (g0 : γ) (hi : I g0)
   (h0 : Leads G N n0 ⟨t, s, nx⟩ ⟨M g0 ++ pick keep t, B g0 ++ Jb6 keepB s, n⟩)
   (round : ∀ g, I g -> @xc P G N n0 c (M g ++ pick keep t) (B g ++ Jb6 keepB s) n ⟨fun x st' => @Jf9 x st' ⟨fun st' => ∃ g', I g' /\ μ g' < μ g /\
     Leads G N n0 st' ⟨M g' ++ pick keep t, B g' ++ Jb6 keepB s, n⟩⟩ Q⟩) : @Jag P G N n0 c ⟨t, s, nx⟩ Q :=
 Jag.goL (fun g => ⟨M g ++ pick keep t, B g ++ Jb6 keepB s, n⟩) I μ g0 hi h0 round
end
theorem FrzK.accRows {s : Store} {B : List Nat} {b k n : Nat} {rows : List (List AV)} {r : List (List PV)} (hB : b ∈ B) (hg : get s b = accB k rows) (hr : unpR rows = some r) (hn : rows.length = n) : FrzK s (· ∈ B) (.acc b k n) (.p (.lst k r)) := by
 have e := Jj0 hr
 refine .frz _ _ (.one _ _ (.accRows hB hg e ?_))
 rw [<- hn, e]; simp
theorem FrzB.last {s : Store} {B : List Nat} {k : Nat} {A : List (List AV)} {a b z x d : AV} (h : FrzK s (· ∈ B) z x) : FrzB s B (.cells k (A ++ [[a, b, z, d]])) (.cells k (A ++ [[a, b, x, d]])) := by
 refine .inr ⟨k, _, _, rfl, rfl, fun i j row x' h1 h2 => ?_⟩
 by_cases hi : i < A.length
 . rw [List.getElem?_append_left hi] at h1
   exact ⟨row, x', by rw [List.getElem?_append_left hi]; exact h1, h2, .keep _⟩
 . rw [List.getElem?_append_right (by omega)] at h1
   have hz : i - A.length = 0 := by
     cases e : i - A.length with
     | zero => rfl
     | succ m => rw [e] at h1; simp at h1
   rw [hz] at h1
   simp at h1
   subst h1
   refine ⟨[a, b, z, d], ?_⟩
   match j with
   | 0 => simp at h2; subst h2; exact ⟨a, by rw [List.getElem?_append_right (by omega), hz]; rfl, rfl, .keep _⟩
   | 1 => simp at h2; subst h2; exact ⟨b, by rw [List.getElem?_append_right (by omega), hz]; rfl, rfl, .keep _⟩
   | 2 => simp at h2; subst h2; exact ⟨z, by rw [List.getElem?_append_right (by omega), hz]; rfl, rfl, h⟩
   | 3 => simp at h2; subst h2; exact ⟨d, by rw [List.getElem?_append_right (by omega), hz]; rfl, rfl, .keep _⟩
   | j + 4 => simp at h2
@[simp] def Khg : Option ABlk -> Nat
 | some (.cells _ ([_, _, z, _] :: _)) => nameOf z
 | _ => 0
def pTs (c : Circuit) (l : List Int) (k : Nat) : List Psg := (List.range k).flatMap (Jg5 c l)
theorem Jz4 {c : Circuit} {l : List Int} {k : Nat} : pTs c l (k + 1) = pTs c l k ++ Jg5 c l k := by simp [pTs, List.range_succ]
theorem Jz3 {c : Circuit} {l : List Int} {k : Nat} : (pTs c l k).length <= k := by
 induction k with
 | zero => simp [pTs]
 | succ k ih =>
   rw [Jz4, List.length_append]
   have : (Jg5 c l k).length <= 1 := by
     unfold Jg5
     rcases J0j c l k with h | ⟨y, h⟩ <;> simp [h]
   omega
def frT (c : Circuit) (k : Nat) (y : Pass) (j : Nat) : List Int := (y.fr.take j).map fun t => (netN c k t : Int)
theorem J8o {c : Circuit} {k : Nat} {y : Pass} {j : Nat} (h : j <= y.fr.length) : (frT c k y j).length = j := by simp [frT]; omega
theorem J8p {c : Circuit} {k : Nat} {y : Pass} {j : Nat} {t : Txt} (e : y.fr[j]? = some t) : frT c k y (j + 1) = frT c k y j ++ [(netN c k t : Int)] := by simp [frT, take_snoc e]
set_option maxRecDepth 20000 in
theorem J9b (c : Circuit) (l : List Int) (h : Ja7 c l = 0) (b mb : Nat) (s : Store) (nx : Nat) (hb : b < nx) (hm : mb < nx) (hne : b ≠ mb) (hg : get s b = some (.cells 4 [Jbp c mb])) (hgm : get s mb = some (.map (prA (pairs c)))) :
   Gives Tryz.prog GL 107 [.ptr b 4 0 0, Ints.av l] s nx (.acc nx 4 (psgs c l).length) [b, mb] [(nx, accB 4 ((psgs c l).map Psg.row))] (nx + 1) := by
 have hc := (Jfq h).1
 have h2 := Ja8 hc
 have hend : pTs c l c.parts.length = psgs c l := rfl
 refine Gives.mk_walkK (N := 75) (args := [.ptr 0 4 0 0, Ints.av l]) [b, mb] [] [(0, some (.cells 4 [Jbp c 1])), (1, some (.map (prA (pairs c))))] [(2, accB 4 ((psgs c l).map Psg.row))] 2 1 (.acc 2 4 (psgs c l).length) (nms [4]) (up1 := [(nx, accB 4 ((psgs c l).map Psg.row))]) Tryz.func107 rfl rfl rfl (by simp) rfl (by simp [hg, hb, hm, hne, hgm, Jbn, Jbp]; intro q hq; match q, hq with | 0, _ => simp | 1, _ => simp) (by simp) (by simp) (by unfold accB; split <;> simp) (by simp) rfl ?_
 simp [Jbp]
 refine Jag.go [0, 1, 19, 20] [0, 1] 1 [2] (nms [5]) (fun nx (k : Nat) => [(5, .acc nx 4 (pTs c l k).length), (21, .p (.int .i64 k))]) (fun nx k => [(nx, accB 4 ((pTs c l k).map Psg.row))]) (fun k => k <= c.parts.length) (fun k => c.parts.length - k) 0 (by omega) ?_ ?_
 . simp [pTs, Jbn]
   try decide
 . intro k hk
   have hpl := @Jz3 c l k
   have hps := @Jz4 c l k
   have hend1 : k = c.parts.length -> pTs c l k = psgs c l := fun e => by rw [e]; rfl
   generalize pTs c l k = A at hpl hps hend1
   simp
   refine Jad (fun h3 => ?_) (fun h3 => ?_)
   . simp at h3
     obtain ⟨q, e⟩ := Jae h3
     obtain ⟨a, F⟩ := Jg3 h e
     have f2 := F.pos
     have f4 := F.ltl
     simp [h3, e, Part.enc, -getElem?_pos, List.getElem?_cons_zero, List.getElem?_cons_succ]
     refine Jak.intro (by kernel_rfl) ?_
     simp [f2, f4, Int.enc, -getElem?_pos, List.getElem?_cons_zero, List.getElem?_cons_succ]
     refine Jab (J5i q.kind a) ?_
     rw [F.passes, F.placed]
     simp [Passes.av]
     refine ⟨.of (by kernel_rfl), ?_⟩
     rcases J0j c l k with hp | ⟨y, hp⟩
     . have hnone : pTs c l (k + 1) = A := by rw [hps]; simp [Jg5, hp]
       simp [hp]
       refine Jag.goN [0, 1, 6, 19, 20, 21, 36, 37] [0, 1] 3 (fun (j : Nat) => [(5, .acc 2 4 A.length), (38, .p (.int .i64 0))]) (fun j => [(2, accB 4 (A.map Psg.row))]) (fun j => j = 0) (fun j => 1 - j) 0 rfl ?_ ?_
       . refine Leads.subx (ρ := [0, 1, 2]) ?_
         simp [Jbn]
         try decide
       . intro j hj
         simp
         refine ⟨wrap_i64 (by omega) (by omega), k + 1, by omega, by omega, ?_⟩
         simp [hnone, Jbn]
         try decide
     . obtain ⟨z, hz⟩ : ∃ z : Psg, z = ⟨k, netN c k y.to, y.fr.map (netN c k), y.all⟩ := ⟨_, rfl⟩
       have hone : pTs c l (k + 1) = A ++ [z] := by rw [hps, hz]; simp [Jg5, hp]
       obtain ⟨hto, hfr, _⟩ := Jn5 h h3 (z := y) (by rw [hp]; simp)
       have hq14 : q.kind.toNat < 14 := by have := F.kind; omega
       have hyl : y.fr.length <= 2 := (by decide +kernel : ∀ k, k < 14 -> ∀ b, ∀ z ∈ Jd5 k b, z.fr.length <= 2) q.kind.toNat hq14 (decide (a = 1)) y (by rw [<- F.pass, hp]; simp)
       simp [hp]
       refine Jag.goN [0, 1, 6, 19, 20, 21, 36, 37] [0, 1] 3 (fun (j : Nat) => [(5, .acc 2 4 (if j = 0 then A else A ++ [z]).length), (38, .p (.int .i64 j))]) (fun j => [(2, accB 4 ((if j = 0 then A else A ++ [z]).map Psg.row))]) (fun j => j <= 1) (fun j => 1 - j) 0 (by omega) ?_ ?_
       . refine Leads.subx (ρ := [0, 1, 2]) ?_
         simp [Jbn]
         try decide
       . intro j hj
         obtain rfl | rfl : j = 0 \/ j = 1 := by omega
         . simp
           refine Jak.intro (by kernel_rfl) ?_
           simp
           refine Ja6 (Jix c hc k y.to hto 0 1 _ _ (by simp) (by simp) (by simp) (by simp [Jbp]) (by simp)) ?_
           simp
           refine ⟨.of (by kernel_rfl), ?_⟩
           refine Jag.go [0, 1, 5, 6, 12, 19, 20, 21, 36, 37, 38, 52, 53] [0, 1, 2] 1 [5] (fun st => [Khg (get st.s 4)]) (fun nx (j : Nat) => [(54, .p (.int .i64 j))]) (fun nx j => [(nx, accB 1 ((frT c k y j).map Int.row)), (4, some (.cells 4 [[.p (.int .i64 k), .p (.int .i64 (netN c k y.to)), .acc nx 1 j, .p (.bool y.all)]]))]) (fun j => j <= y.fr.length) (fun j => y.fr.length - j) 0 (by omega) ?_ ?_
           . simp [frT, Jbn]
             try decide
           . intro j hj
             have hfl := J8o hj (c := c) (k := k)
             have hfs := @J8p c k y j
             have hfe : j = y.fr.length -> frT c k y j = Jbl z.fr := fun e => by rw [e, hz]; simp [frT, Jbl]
             generalize frT c k y j = T at hfl hfs hfe
             subst hfl
             simp
             refine Jad (fun h4 => ?_) (fun h4 => ?_)
             . simp at h4
               obtain ⟨t, et⟩ := Jae h4
               have hts := hfs et
               have htp := hfr t (List.mem_of_getElem? et)
               simp [h4, et, Txt.enc, -getElem?_pos, List.getElem?_cons_zero, List.getElem?_cons_succ]
               refine Jak.intro (by kernel_rfl) ?_
               simp
               refine Ja6 (Jix c hc k t htp 0 1 _ _ (by simp) (by simp) (by simp) (by simp [Jbp]) (by simp)) ?_
               simp
               refine ⟨by omega, .of (by kernel_rfl), wrap_i64 (by omega) (by omega), T.length + 1, by omega, by omega, ?_⟩
               simp [hts, Jbn]
               try decide
             . simp at h4
               have hT := hfe (by omega)
               simp
               have hac : ∀ r : List AV, accB 4 (A.map Psg.row ++ [r]) = some (.cells 4 (A.map Psg.row ++ [r])) := fun r => by simp [accB]
               refine ⟨by omega, 1, by omega, by omega, ?_⟩
               refine Leads.frz_sub (B := [5]) (ρ := [0, 1, 7]) [] [(5, none), (7, some (.cells 4 (A.map Psg.row ++ [z.row])))] (Freeze.of [] _ (by simp) ?_ (by simp [keys])) ?_
               . intro p hp' x hx
                 simp only [List.mem_cons, List.not_mem_nil, or_false] at hp'
                 rcases hp' with rfl | rfl
                 . cases hx
                 . simp only [Option.some.injEq] at hx
                   subst hx
                   refine ⟨by simp, _, by simp only [get, if_pos]; exact hac _, ?_⟩
                   subst hz
                   refine FrzB.last ?_
                   exact FrzK.accRows (rows := T.map Int.row) (by simp) (by simp [get]) (by rw [hT]; simp) (by simp)
               . simp [hac, Jbn]
                 try decide
         . simp
           refine ⟨wrap_i64 (by omega) (by omega), k + 1, by omega, by omega, ?_⟩
           simp [hone, Jbn]
           try decide
   . simp at h3
     have hA := hend1 (by omega)
     clear hend1 hps
     subst hA
     simp
     generalize psgs c l = X
     cases X <;> simp [accB, Jbp, Jbn] <;> decide
end Go.Am
namespace Go.Am
open Go Go.Proofs Go.Pn
def Jhd (c : Circuit) (S : List Int) (i : Nat) : List Int := if Jaj c i = 0 then S.set (netN c i t1) 2 else S
def supT (c : Circuit) (k : Nat) : List Int := (List.range k).foldl (Jhd c) (List.replicate (nets c).length 0)
theorem Jor {c : Circuit} {k : Nat} : supT c (k + 1) = Jhd c (supT c k) k := by simp [supT, List.range_succ]
theorem Kg3 {c : Circuit} {S : List Int} {i : Nat} : (Jhd c S i).length = S.length := by unfold Jhd; split <;> simp
theorem Jsq {c : Circuit} {k : Nat} : (supT c k).length = (nets c).length := by
 induction k with
 | zero => simp [supT]
 | succ k ih => rw [Jor, Kg3, ih]
def Jg0 (S : List Int) (n : Nat) : List Int := if S[n]? = some 0 then S.set n 1 else S
theorem Kbu {S : List Int} {n : Nat} : (Jg0 S n).length = S.length := by unfold Jg0; split <;> simp
def Jbv (S : List Int) (ns : List Nat) : List Int := ns.foldl Jg0 S
theorem Jra {ns : List Nat} : ∀ {S : List Int}, (Jbv S ns).length = S.length := by
 induction ns with
 | nil => intro S; rfl
 | cons n ns ih => intro S; rw [Jbv, List.foldl_cons, <- Jbv, ih, Kbu]
def Jk2 (c : Circuit) (l : List Int) (i : Nat) : List Nat := (opens c l i).map (netN c i)
def Jc4 (c : Circuit) (l : List Int) (k : Nat) : List Nat := (List.range k).flatMap (Jk2 c l)
theorem Kel {c : Circuit} {l : List Int} {k : Nat} : Jc4 c l (k + 1) = Jc4 c l k ++ Jk2 c l k := by simp [Jc4, List.range_succ]
theorem Jyr {S : List Int} {a b : List Nat} : Jbv S (a ++ b) = Jbv (Jbv S a) b := by simp [Jbv]
def markT (c : Circuit) (k : Nat) (S : List Int) (O : List Txt) (j : Nat) : List Int := Jbv S ((O.take j).map (netN c k))
def prsX (c : Circuit) (l : List Int) : List Int := Jee (fun S => Jc2 (isSt S 2)) 2 (psgs c l) (supT c c.parts.length)
def Jgp (c : Circuit) (l : List Int) : List Int := Jbv (prsX c l) (Jc4 c l c.parts.length)
def Jev (c : Circuit) (l : List Int) : List Int := Jee venF 1 (psgs c l) (Jgp c l)
theorem Jn7 {c : Circuit} {l : List Int} : (prsX c l).length = (nets c).length := by rw [prsX, Jvt, Jsq]
theorem J2f {c : Circuit} {l : List Int} : (Jgp c l).length = (nets c).length := by rw [Jgp, Jra, Jn7]
theorem Jso {c : Circuit} {l : List Int} : (Jev c l).length = (nets c).length := by rw [Jev, Jvt, J2f]
theorem Jn9 {c : Circuit} {l : List Int} (h : Ja7 c l = 0) {y : Psg} (hy : y ∈ psgs c l) : y.to < (nets c).length /\ (∀ n ∈ y.fr, n < (nets c).length) /\ y.fr.length <= 1000 := by
 have hc := (Jfq h).1
 obtain ⟨i, z, hi, hz, rfl⟩ := Jjg.1 hy
 obtain ⟨h1, h2, _⟩ := Jn5 h hi hz
 obtain ⟨q, e⟩ := Jae hi
 obtain ⟨a, F⟩ := Jg3 h e
 refine ⟨(Jep hc h1).2, fun n hn => ?_, ?_⟩
 . obtain ⟨s, hs, rfl⟩ := List.mem_map.1 hn
   exact (Jep hc (h2 s hs)).2
 . have hyl : z.fr.length <= 2 := (by decide +kernel : ∀ k, k < 14 -> ∀ b, ∀ z ∈ Jd5 k b, z.fr.length <= 2) q.kind.toNat (by have := F.kind; omega) (decide (a = 1)) z (by rw [<- F.pass]; exact hz)
   simp
   omega
theorem Jzs {c : Circuit} {l : List Int} {i : Nat} {q : Part} {a : Int} (F : PortFacts c l i q a) : Jd3 q.kind a (Jao q.kind.toNat).length = opens c l i := by
 have hp := F.pos
 have hpo : Jfi l (i : Int) = a := by rw [Jfi, Int.toNat_natCast, hp]; rfl
 rw [Jd3, List.take_length, opens, F.kat, hpo, F.vents]
set_option maxRecDepth 20000 in
theorem J9e (c : Circuit) (l : List Int) (h : Ja7 c l = 0) (b mb : Nat) (s : Store) (nx : Nat) (hb : b < nx) (hm : mb < nx) (hne : b ≠ mb) (hg : get s b = some (.cells 4 [Jbp c mb])) (hgm : get s mb = some (.map (prA (pairs c)))) :
   Gives Tryz.prog GL 57 [.ptr b 4 0 0, Ints.av l] s nx (.ref nx 1 0 (nets c).length none) [b, mb] [(nx, some (.cells 1 ((Jev c l).map Int.row)))] (nx + 1) := by
 have hc := (Jfq h).1
 have h2 := Ja8 hc
 have hnl := Ji8 hc
 refine Gives.mk_walkK (N := 87) (args := [.ptr 0 4 0 0, Ints.av l]) [b, mb] [] [(0, some (.cells 4 [Jbp c 1])), (1, some (.map (prA (pairs c))))] [(2, some (.cells 1 ((Jev c l).map Int.row)))] 2 1 (.ref 2 1 0 (nets c).length none) (fun _ => [2]) (up1 := [(nx, some (.cells 1 ((Jev c l).map Int.row)))]) Tryz.func57 rfl rfl rfl (by simp) rfl (by simp [hg, hb, hm, hne, hgm, Jbn, Jbp]; intro q hq; match q, hq with | 0, _ => simp | 1, _ => simp) (by simp) (by simp) (by simp) (by simp) rfl ?_
 have hprs : supT c 0 = List.replicate (nets c).length 0 := by simp [supT]
 have hto : ∀ y ∈ psgs c l, y.to < (nets c).length := fun y hy => (Jn9 h hy).1
 have hfr : ∀ y ∈ psgs c l, ∀ n ∈ y.fr, n < (nets c).length := fun y hy => (Jn9 h hy).2.1
 have hfl : ∀ y ∈ psgs c l, y.fr.length < 4611686018427387904 := fun y hy => by have := (Jn9 h hy).2.2; omega
 have hpl : (psgs c l).length <= 64 := by
   have := @Jz3 c l c.parts.length
   have e : pTs c l c.parts.length = psgs c l := rfl
   rw [e] at this; omega
 simp [Jbp]
 refine ⟨by omega, by omega, ?_⟩
 refine Ja6 (J9b c l h 0 1 _ _ (by simp) (by simp) (by simp) (by simp [Jbp]) (by simp)) ?_
 simp
 refine Jag.goN [0, 1, 5, 26, 27] [0, 1, 3] 4 (fun (k : Nat) => [(6, .p (.lst 4 ((psgs c l).map Psg.enc))), (28, .p (.int .i64 k))]) (fun k => [(2, some (.cells 1 ((supT c k).map Int.row)))]) (fun k => k <= c.parts.length) (fun k => c.parts.length - k) 0 (by omega) ?_ ?_
 . refine Leads.frz_sub (B := [4]) (ρ := [0, 1, 2, 3]) [(6, .p (.lst 4 ((psgs c l).map Psg.enc)))] [(4, none)] (Freeze.of _ _ ?_ (by simp) (by simp [keys])) ?_
   . intro p hp
     simp only [List.mem_cons, List.not_mem_nil, or_false] at hp
     subst hp
     simp only [slot, if_pos]
     exact FrzK.accRows (rows := (psgs c l).map Psg.row) (by simp) (by simp [get]) (by simp) (by simp)
   . simp [hprs, Jbn]
     try decide
 . intro k hk
   have hsl := @Jsq c k
   have hss := @Jor c k
   have hend1 : k = c.parts.length -> supT c k = supT c c.parts.length := fun e => by rw [e]
   generalize supT c k = S at hsl hss hend1
   simp
   refine Jad (fun h3 => ?_) (fun h3 => ?_)
   . simp at h3
     obtain ⟨q, e⟩ := Jae h3
     obtain ⟨a, F⟩ := Jg3 h e
     simp [h3, e, Part.enc, -getElem?_pos, List.getElem?_cons_zero, List.getElem?_cons_succ]
     have hkq := F.kat
     refine Jad (fun h4 => ?_) (fun h4 => ?_)
     . simp at h4
       have htp := F.mem t1 (by rw [h4]; decide +kernel)
       have hnt := (Jep hc htp).2
       obtain ⟨x, ex⟩ := Jae (xs := S) (k := netN c k t1) (by omega)
       have hst : Jhd c S k = S.set (netN c k t1) 2 := if_pos (by rw [hkq, h4])
       obtain ⟨S', hS'⟩ : ∃ S', S' = S.set (netN c k t1) 2 := ⟨_, rfl⟩
       have hms : (S.map Int.row).set (netN c k t1) [.p (.int .i64 2)] = S'.map Int.row := by rw [hS', List.map_set]
       rw [<- hS'] at hst
       simp
       refine Jak.intro (by kernel_rfl) ?_
       simp
       refine Ja6 (Jix c hc k t1 htp 0 1 _ _ (by simp) (by simp) (by simp) (by simp [Jbp]) (by simp)) ?_
       simp [hnt, ex, -getElem?_pos, List.getElem?_cons_zero, List.getElem?_cons_succ]
       refine ⟨.of (by kernel_rfl), ?_⟩
       refine ⟨wrap_i64 (by omega) (by omega), k + 1, by omega, by omega, ?_⟩
       refine Leads.subx (ρ := [0, 1, 2, 3]) ?_
       simp [hss, hst, hms, Jbn]
       try decide
     . simp at h4
       have hst : Jhd c S k = S := if_neg (by rw [hkq]; exact h4)
       simp
       refine ⟨wrap_i64 (by omega) (by omega), k + 1, by omega, by omega, ?_⟩
       refine Leads.subx (ρ := [0, 1, 2, 3]) ?_
       simp [hss, hst, Jbn]
       try decide
   . simp at h3
     have hS := hend1 (by omega)
     have htk := Kg9 (N := (nets c).length) (cp := some (nets c).length) (l := psgs c l) hfr hfl
     have hto2 := hto
     rw [<- hsl] at htk hto2
     simp
     have hgc := fun s nx => Jw8 S (psgs c l) 2 (by omega) _ _ _ htk hto2 (by omega) s nx 2 3
     rw [hsl] at hgc
     refine Ja6 (hgc _ _ (by simp) (by simp) (by simp) (by simp) (by simp)) ?_
     simp
     have hpr : Jee (fun S => Jc2 (isSt S 2)) 2 (psgs c l) S = prsX c l := by rw [hS]; rfl
     rw [hpr]
     have hR := @Jn7 c l
     have hm0 : Jbv (prsX c l) (Jc4 c l 0) = prsX c l := by simp [Jbv, Jc4]
     refine Jag.go [0, 1, 5, 6, 50, 51] [0, 1, 3] 0 [] (fun _ => []) (fun _ (k : Nat) => [(52, .p (.int .i64 k))]) (fun _ k => [(2, some (.cells 1 ((Jbv (prsX c l) (Jc4 c l k)).map Int.row)))]) (fun k => k <= c.parts.length) (fun k => c.parts.length - k) 0 (by omega) ?_ ?_
     . simp [hm0, Jbn]
       try decide
     . clear hgc hS hss hend1 htk hpr hto2 hsl
       intro k hk
       have hsl : (Jbv (prsX c l) (Jc4 c l k)).length = (nets c).length := by rw [Jra, hR]
       have hss : Jbv (prsX c l) (Jc4 c l (k + 1)) = Jbv (Jbv (prsX c l) (Jc4 c l k)) (Jk2 c l k) := by rw [Kel, Jyr]
       have hend1 : k = c.parts.length -> Jbv (prsX c l) (Jc4 c l k) = Jgp c l := fun e => by rw [e]; rfl
       generalize Jbv (prsX c l) (Jc4 c l k) = S at hsl hss hend1
       simp
       refine Jad (fun h3 => ?_) (fun h3 => ?_)
       . simp at h3
         obtain ⟨q, e⟩ := Jae h3
         obtain ⟨a, F⟩ := Jg3 h e
         have f2 := F.pos
         have f4 := F.ltl
         simp [h3, e, Part.enc, -getElem?_pos, List.getElem?_cons_zero, List.getElem?_cons_succ]
         refine Jak.intro (by kernel_rfl) ?_
         simp [f2, f4, Int.enc, -getElem?_pos, List.getElem?_cons_zero, List.getElem?_cons_succ]
         refine Jab (J6e q a F.placed) ?_
         rw [Jzs F]
         simp
         refine ⟨.of (by kernel_rfl), ?_⟩
         have hol : (opens c l k).length <= 1000 := by rw [<- Jzs F]; exact Jzr F.placed
         have hops := Jzt h h3
         have hns : Jk2 c l k = (opens c l k).map (netN c k) := rfl
         rw [hns] at hss
         generalize opens c l k = O at hol hops hss
         have hm1 : markT c k S O 0 = S := by simp [markT, Jbv]
         refine Jag.go [0, 1, 5, 6, 9, 50, 51, 52, 62, 63] [0, 1, 3] 0 [] (fun _ => []) (fun _ (j : Nat) => [(64, .p (.int .i64 j))]) (fun _ j => [(2, some (.cells 1 ((markT c k S O j).map Int.row)))]) (fun j => j <= O.length) (fun j => O.length - j) 0 (by omega) ?_ ?_
         . simp [hm1, Jbn]
           try decide
         . intro j hj
           have htl : (markT c k S O j).length = (nets c).length := by rw [markT, Jra, hsl]
           have hts : ∀ {t : Txt}, O[j]? = some t -> markT c k S O (j + 1) = Jg0 (markT c k S O j) (netN c k t) := fun e => by rw [markT, take_snoc e, List.map_append, Jyr]; rfl
           have hte : j = O.length -> markT c k S O j = Jbv (prsX c l) (Jc4 c l (k + 1)) := fun e => by rw [markT, e, List.take_length, hss]
           generalize markT c k S O j = T at htl hts hte
           simp
           refine Jad (fun h5 => ?_) (fun h5 => ?_)
           . simp at h5
             obtain ⟨t, et⟩ := Jae h5
             have hsn := hts et
             have htp := hops t (List.mem_of_getElem? et)
             have hnt := (Jep hc htp).2
             obtain ⟨x, ex⟩ := Jae (xs := T) (k := netN c k t) (by omega)
             simp [h5, et, Txt.enc, -getElem?_pos, List.getElem?_cons_zero, List.getElem?_cons_succ]
             refine Ja6 (Jix c hc k t htp 0 1 _ _ (by simp) (by simp) (by simp) (by simp [Jbp]) (by simp)) ?_
             simp [hnt, ex, -getElem?_pos, List.getElem?_cons_zero, List.getElem?_cons_succ]
             refine Jad (fun h6 => ?_) (fun h6 => ?_)
             . simp at h6
               subst h6
               have hst : Jg0 T (netN c k t) = T.set (netN c k t) 1 := if_pos ex
               rw [hst] at hsn
               obtain ⟨T', hT'⟩ : ∃ T', T' = T.set (netN c k t) 1 := ⟨_, rfl⟩
               have hms : (T.map Int.row).set (netN c k t) [.p (.int .i64 1)] = T'.map Int.row := by rw [hT', List.map_set]
               rw [<- hT'] at hsn
               simp [hnt, ex, -getElem?_pos, List.getElem?_cons_zero, List.getElem?_cons_succ]
               refine ⟨wrap_i64 (by omega) (by omega), j + 1, by omega, by omega, ?_⟩
               simp [hsn, hms, Jbn]
               try decide
             . simp at h6
               have hst : Jg0 T (netN c k t) = T := if_neg (by rw [ex]; simp [h6])
               rw [hst] at hsn
               simp
               refine ⟨wrap_i64 (by omega) (by omega), j + 1, by omega, by omega, ?_⟩
               simp [hsn, Jbn]
               try decide
           . simp at h5
             have hT := hte (by omega)
             simp
             refine ⟨wrap_i64 (by omega) (by omega), k + 1, by omega, by omega, ?_⟩
             simp [hT, Jbn]
             try decide
       . simp at h3
         have hS := hend1 (by omega)
         have htk := Kha (N := (nets c).length) (cp := some (nets c).length) (l := psgs c l) hfr hfl
         have hto2 := hto
         rw [<- hsl] at htk hto2
         simp
         have hgc := fun s nx => Jw8 S (psgs c l) 1 (by omega) _ _ _ htk hto2 (by omega) s nx 2 3
         rw [hsl] at hgc
         refine Ja6 (hgc _ _ (by simp) (by simp) (by simp) (by simp) (by simp)) ?_
         have hpr : Jee venF 1 (psgs c l) S = Jev c l := by rw [hS]; rfl
         rw [hpr]
         simp [Jbp, Jbn]
         try decide
end Go.Am
namespace Go.Am
open Go Go.Proofs Go.Pn
theorem CReach.ind {q : List Int -> Psg -> Bool} {v : Int} {l : List Psg} {S : List Int} (P : List Int -> Prop) (h0 : P S) (hs : ∀ (R : List Int) (y : Psg), P R -> y ∈ l -> R[y.to]? = some 0 -> q R y = true -> P (R.set y.to v)) {R : List Int} (h : CReach q v l S R) : P R := by
 induction h with
 | refl => exact h0
 | step _ hm h0 hq ih => exact hs _ _ ih hm h0 hq
def Vals (ok : Int -> Prop) (S : List Int) : Prop := ∀ (n : Nat) (x : Int), S[n]? = some x -> ok x
theorem Vals.set {ok : Int -> Prop} {S : List Int} {n : Nat} {v : Int} (h : Vals ok S) (hv : ok v) : Vals ok (S.set n v) := fun m x hx => by
 rw [List.getElem?_set] at hx
 split at hx
 . split at hx
   . cases hx; exact hv
   . cases hx
 . exact h m x hx
theorem Jdy {S : List Int} {v : Int} {n : Nat} : isSt S v n = true ↔ S[n]? = some v := by simp [isSt, -getElem?_pos]
theorem Ji2 {S : List Int} {n m : Nat} {v w : Int} (hn : n < S.length) : isSt (S.set n v) w m = true ↔ (n = m /\ v = w) \/ (n ≠ m /\ isSt S w m = true) := by
 rw [Jdy, Jdy, List.getElem?_set]
 by_cases e : n = m
 . subst e
   rw [if_pos rfl, if_pos hn]; simp
 . rw [if_neg e]; simp [e]
theorem Jhv {S : List Int} {n : Nat} {x : Int} (h : S[n]? = some x) : n < S.length := (gsI.1 h).1
theorem Kg4 {c : Circuit} {k : Nat} : Vals (fun x => x = 0 \/ x = 2) (supT c k) := by
 induction k with
 | zero =>
   intro n x hx
   have : supT c 0 = List.replicate (nets c).length 0 := by simp [supT]
   rw [this, List.getElem?_replicate] at hx
   split at hx
   . cases hx; exact .inl rfl
   . cases hx
 | succ k ih =>
   rw [Jor]
   unfold Jhd
   split
   . exact ih.set (.inr rfl)
   . exact ih
theorem J1u {c : Circuit} {l : List Int} (h : Ja7 c l = 0) {k : Nat} (hk : k <= c.parts.length) {n : Nat} : isSt (supT c k) 2 n = true ↔ ∃ i, i < k /\ Jaj c (i : Nat) = 0 /\ n = netN c (i : Nat) t1 := by
 have hc := (Jfq h).1
 induction k with
 | zero =>
   have : supT c 0 = List.replicate (nets c).length 0 := by simp [supT]
   rw [this, Jdy, List.getElem?_replicate]
   constructor
   . intro h; split at h <;> simp at h
   . rintro ⟨i, hi, _⟩; omega
 | succ k ih =>
   have ih := ih (by omega)
   rw [Jor]
   unfold Jhd
   split
   . rename_i hk0
     have hlt := (Jep hc (J1v h (i := k) (by omega) hk0)).2
     refine (Ji2 (by rw [Jsq]; exact hlt)).trans ?_
     rw [show _ = _ from propext ih]
     constructor
     . rintro (⟨rfl, _⟩ | ⟨_, i, hi, h1, h2⟩)
       . exact ⟨k, by omega, hk0, rfl⟩
       . exact ⟨i, by omega, h1, h2⟩
     . rintro ⟨i, hi, h1, h2⟩
       by_cases e : netN c k t1 = n
       . exact .inl ⟨e, rfl⟩
       . refine .inr ⟨e, i, ?_, h1, h2⟩
         rcases (by omega : i = k \/ i < k) with rfl | hh
         . exact absurd h2.symm e
         . exact hh
   . rename_i hk0
     refine Iff.trans ih ?_
     constructor
     . rintro ⟨i, hi, h1, h2⟩; exact ⟨i, by omega, h1, h2⟩
     . rintro ⟨i, hi, h1, h2⟩
       refine ⟨i, ?_, h1, h2⟩
       rcases (by omega : i = k \/ i < k) with rfl | hh
       . exact absurd h1 hk0
       . exact hh
theorem J1t {q : List Int -> Psg -> Bool} {v : Int} (hv : v ≠ 0) {R : List Int} {y : Psg} (h : Jb3 q v R y = R) (hq : q R y = true) : R[y.to]? ≠ some 0 := by
 intro h0
 rw [Jue h0 hq] at h
 have hl := Jhv h0
 have : (R.set y.to v)[y.to]? = some v := by rw [List.getElem?_set, if_pos rfl, if_pos hl]
 rw [h, h0] at this
 simp at this
 exact hv this.symm
theorem Jn8 {c : Circuit} {l : List Int} : Vals (fun x => x = 0 \/ x = 2) (prsX c l) :=
 CReach.ind _ Kg4 (fun R y hR _ _ _ => hR.set (.inr rfl)) Jin
theorem Jry {c : Circuit} {l : List Int} (h : Ja7 c l = 0) (n : Nat) : isSt (prsX c l) 2 n = (prs c l).contains n := by
 have hc := (Jfq h).1
 refine Jyl (J0v h) (S := isSt (prsX c l) 2) ?_ (fun n hn => ?_) n
 . intro y hy hf
   rcases List.mem_append.1 hy with hy | hy
   . obtain ⟨i, hi, hk, rfl⟩ := Jsr.1 hy
     have hb : isSt (supT c c.parts.length) 2 (netN c i t1) = true := (J1u h (Nat.le_refl _)).2 ⟨i, hi, hk, rfl⟩
     refine CReach.ind (fun R => isSt R 2 (netN c i t1) = true) hb (fun R y hR _ h0 _ => ?_) (Jin (q := fun S => Jc2 (isSt S 2)) (v := 2) (l := psgs c l))
     rw [Ji2 (Jhv h0)]
     by_cases e : y.to = netN c i t1
     . exact .inl ⟨e, rfl⟩
     . exact .inr ⟨e, hR⟩
   . have hst := Jvu (q := fun S => Jc2 (isSt S 2)) (v := 2) (l := psgs c l) (S := supT c c.parts.length) (by omega) y hy
     have hne := J1t (by omega) hst hf
     obtain ⟨x, hx⟩ := Jae (xs := prsX c l) (k := y.to) (by rw [Jn7]; exact (Jn9 h hy).1)
     rcases Jn8 y.to x hx with rfl | rfl
     . exact absurd hx hne
     . exact Jdy.2 hx
 . refine CReach.ind (fun R => ∀ n, isSt R 2 n = true -> n ∈ prs c l) (fun n hn => ?_) (fun R y hR hy h0 hq n hn => ?_) (Jin (q := fun S => Jc2 (isSt S 2)) (v := 2) (l := psgs c l)) n hn
   . obtain ⟨i, hi, hk, rfl⟩ := (J1u h (Nat.le_refl _)).1 hn
     exact List.contains_iff_mem.1 (J0u h _ (List.mem_append.2 (.inl (Jsr.2 ⟨i, hi, hk, rfl⟩))) rfl)
   . rcases (Ji2 (Jhv h0)).1 hn with ⟨rfl, _⟩ | ⟨_, hn⟩
     . exact List.contains_iff_mem.1 (J0u h y (List.mem_append.2 (.inr hy)) (Jqq (fun n hn => List.contains_iff_mem.2 (hR n hn)) hq))
     . exact hR n hn
theorem Kbt {S : List Int} {n m : Nat} : (Jg0 S n)[m]? = if S[m]? = some 0 /\ m = n then some 1 else S[m]? := by
 unfold Jg0
 split
 . rename_i h
   rw [List.getElem?_set]
   by_cases e : n = m
   . subst e
     rw [if_pos rfl, if_pos (Jhv h), if_pos ⟨h, rfl⟩]
   . rw [if_neg e, if_neg (fun hh => e hh.2.symm)]
 . rename_i h
   rw [if_neg]
   rintro ⟨h1, rfl⟩
   exact h h1
theorem Jys {ns : List Nat} : ∀ {S : List Int} {m : Nat}, (Jbv S ns)[m]? = if S[m]? = some 0 /\ m ∈ ns then some 1 else S[m]? := by
 induction ns with
 | nil => intro S m; simp [Jbv, -getElem?_pos]
 | cons n ns ih =>
   intro S m
   rw [Jbv, List.foldl_cons, <- Jbv, ih, Kbt]
   by_cases h0 : S[m]? = some 0
   . by_cases e : m = n
     . subst e; simp [h0, -getElem?_pos]
     . simp [h0, e, -getElem?_pos]
   . simp [h0, -getElem?_pos]
theorem Jzq {c : Circuit} {l : List Int} {n : Nat} : n ∈ Jc4 c l c.parts.length ↔ ∃ (i : Nat) (s : Txt), i < c.parts.length /\ s ∈ opens c l i /\ n = netN c i s := by
 simp only [Jc4, Jk2, List.mem_flatMap, List.mem_range, List.mem_map]
 constructor
 . rintro ⟨i, hi, s, hs, rfl⟩; exact ⟨i, s, hi, hs, rfl⟩
 . rintro ⟨i, s, hi, hs, rfl⟩; exact ⟨i, hi, s, hs, rfl⟩
structure VInv (c : Circuit) (l : List Int) (S : List Int) : Prop where
 len : S.length = (nets c).length
 vals : Vals (fun x => x = 0 \/ x = 1 \/ x = 2) S
 two : ∀ n, isSt S 2 n = (prs c l).contains n
 one : ∀ n, isSt S 1 n = true -> n ∈ vts c l
theorem Kiv {c : Circuit} {l : List Int} (h : Ja7 c l = 0) : VInv c l (Jgp c l) := by
 have hget : ∀ m, (Jgp c l)[m]? = if (prsX c l)[m]? = some 0 /\ m ∈ Jc4 c l c.parts.length then some 1 else (prsX c l)[m]? := fun m => Jys
 refine ⟨J2f, fun n x hx => ?_, fun n => ?_, fun n hn => ?_⟩
 . rw [hget] at hx
   split at hx
   . cases hx; exact .inr (.inl rfl)
   . rcases Jn8 n x hx with h | h
     . exact .inl h
     . exact .inr (.inr h)
 . rw [<- Jry h, Bool.eq_iff_iff, Jdy, Jdy, hget]
   split
   . rename_i hh; rw [hh.1]; simp
   . exact Iff.rfl
 . rw [Jdy, hget] at hn
   split at hn
   . rename_i hh
     obtain ⟨i, s, hi, hs, rfl⟩ := Jzq.1 hh.2
     have hnp : netN c i s ∉ prs c l := fun hp => by
       have := List.contains_iff_mem.2 hp
       rw [<- Jry h, Jdy, hh.1] at this
       simp at this
     exact List.contains_iff_mem.1 (J2g h ⟨i, netN c i s, [], true⟩ (Joy.2 ⟨.inl ⟨i, s, hi, hs, rfl⟩, hnp⟩) rfl)
   . rcases Jn8 n 1 hn with h | h <;> simp at h
theorem VInv.step {c : Circuit} {l : List Int} (h : Ja7 c l = 0) {S : List Int} {y : Psg} (hS : VInv c l S) (hy : y ∈ psgs c l) (h0 : S[y.to]? = some 0) (hq : venF S y = true) : VInv c l (S.set y.to 1) := by
 refine ⟨by simp [hS.len], hS.vals.set (.inr (.inl rfl)), fun n => ?_, fun n hn => ?_⟩
 . rw [<- hS.two n, Bool.eq_iff_iff, Ji2 (Jhv h0)]
   constructor
   . rintro (⟨_, h⟩ | ⟨_, h⟩)
     . simp at h
     . exact h
   . intro hn
     refine .inr ⟨fun e => ?_, hn⟩
     subst e
     rw [Jdy, h0] at hn
     simp at hn
 . rcases (Ji2 (Jhv h0)).1 hn with ⟨rfl, _⟩ | ⟨_, hn⟩
   . have hnp : y.to ∉ prs c l := fun hp => by
       have := List.contains_iff_mem.2 hp
       rw [<- hS.two, Jdy, h0] at this
       simp at this
     obtain ⟨i, z, hi, hz, rfl⟩ := Jjg.1 hy
     refine List.contains_iff_mem.1 (J2g h ⟨i, netN c i z.to, z.fr.map (netN c i), false⟩ (Joy.2 ⟨.inr ⟨i, z, hi, hz, rfl⟩, hnp⟩) ?_)
     refine Jqq (S := isSt S 1) (fun n hn => List.contains_iff_mem.2 (hS.one n hn)) ?_
     simpa [Jc2, venF] using hq
   . exact hS.one n hn
theorem J1m {c : Circuit} {l : List Int} (h : Ja7 c l = 0) : VInv c l (Jev c l) :=
 CReach.ind (VInv c l) (Kiv h) (fun R y hR hy h0 hq => hR.step h hy h0 hq) Jin
theorem Kg0 {c : Circuit} {l : List Int} (h : Ja7 c l = 0) (n : Nat) : isSt (Jev c l) 1 n = (vts c l).contains n := by
 have hi := J1m h
 refine Jyl (Js4 h) (S := isSt (Jev c l) 1) ?_ hi.one n
 intro y hy hf
 have hlt := Js4 h y hy
 obtain ⟨hy, hnp⟩ := Joy.1 hy
 obtain ⟨x, hx⟩ := Jae (xs := Jev c l) (k := y.to) (by rw [Jso]; exact hlt)
 have hx2 : x ≠ 2 := fun e => by
   subst e
   have := Jdy.2 hx
   rw [hi.two, List.contains_iff_mem] at this
   exact hnp this
 rcases hy with ⟨i, s, hi', hs, rfl⟩ | ⟨i, z, hi', hz, rfl⟩
 . have hv0 : isSt (Jgp c l) 1 (netN c i s) = true := by
     rw [Jdy]
     have : (Jgp c l)[netN c i s]? = if (prsX c l)[netN c i s]? = some 0 /\ netN c i s ∈ Jc4 c l c.parts.length then some 1 else (prsX c l)[netN c i s]? := Jys
     rw [this, if_pos]
     refine ⟨?_, Jzq.2 ⟨i, s, hi', hs, rfl⟩⟩
     obtain ⟨w, hw⟩ := Jae (xs := prsX c l) (k := netN c i s) (by rw [Jn7]; exact hlt)
     rcases Jn8 _ w hw with rfl | rfl
     . exact hw
     . have := Jdy.2 hw
       rw [Jry h, List.contains_iff_mem] at this
       exact absurd this hnp
   refine CReach.ind (fun R => isSt R 1 (netN c i s) = true) hv0 (fun R y hR _ h0 _ => ?_) (Jin (q := venF) (v := 1) (l := psgs c l))
   rw [Ji2 (Jhv h0)]
   by_cases e : y.to = netN c i s
   . exact .inl ⟨e, rfl⟩
   . exact .inr ⟨e, hR⟩
 . have hm : (⟨i, netN c i z.to, z.fr.map (netN c i), z.all⟩ : Psg) ∈ psgs c l := Jjg.2 ⟨i, z, hi', hz, rfl⟩
   have hst := Jvu (q := venF) (v := 1) (l := psgs c l) (S := Jgp c l) (by omega) _ hm
   have hne := J1t (by omega) hst (by simpa [Jc2, venF, Jev] using hf)
   rcases hi.vals _ x hx with rfl | rfl | rfl
   . exact absurd hx hne
   . exact Jdy.2 hx
   . exact absurd rfl hx2
theorem Kgz {c : Circuit} {l : List Int} (h : Ja7 c l = 0) : Jev c l = states c l := by
 have hi := J1m h
 refine List.ext_getElem? fun n => ?_
 by_cases hn : n < (nets c).length
 . obtain ⟨x, hx⟩ := Jae (xs := Jev c l) (k := n) (by rw [Jso]; exact hn)
   have hs : (states c l)[n]? = some (Jhc c l n) := by simp [states, hn]
   rw [hx, hs]
   congr 1
   have h2 := hi.two n
   have h1 := Kg0 h n
   rw [Jqy hx] at h1 h2
   unfold Jhc
   rw [<- h1, <- h2]
   rcases hi.vals n x hx with rfl | rfl | rfl <;> simp
 . rw [List.getElem?_eq_none (by rw [Jso]; omega), List.getElem?_eq_none (by simp [states]; omega)]
end Go.Am
namespace Go.Am
open Go Go.Proofs Go.Pn
theorem J17 {c : Circuit} {l : List Int} (hc : Jac c = 0) {i : Int} {s : Txt} (hp : (⟨i, s⟩ : Port) ∈ allP c) : decide (Jhc c l (netN c i s) = 2) = mkd (Jib c l) (netN c i s) := by
 have hn := (Jep hc hp).2
 unfold mkd Jhc
 rw [Kih hn]
 cases h : (prs c l).contains (netN c i s)
 . cases h2 : (vts c l).contains (netN c i s) <;> simp
 . simp
set_option maxRecDepth 20000 in
theorem Jvh (c : Circuit) (l : List Int) (s : Txt) (hs : Sized c) (hl : l.length < 4611686018427387904) : Pure Tryz.prog GL 21 [c.av, Ints.av l, .p (.str s)] (.tup [.p (.int .i64 (Jg6 c l s)), .p (.int .i64 (Jh2 c l s))]) := by
 refine Pure.of_walk (N := 70) Tryz.func21 rfl rfl rfl (by simp) (by first | (simp; done) | simp [*]) ?_
 simp
 by_cases h : Ja7 c l = 0
 . have hc := (Jfq h).1
   have he : Jh2 c l s = if Jck c s < 0 then 6 else if Jaj c (Jck c s) ≠ 1 then 1 else 0 := by simp [Jh2, h]
   refine Ja6 (g_of c l hs hl h _ _) ?_
   simp
   refine Jab (Juj c s hs) ?_
   rw [<- Jck]
   rcases Jjd c s with hk | ⟨i, x, hk, e, _⟩
   . rw [hk] at he
     simp [hk, hc]
     simp [Jaa, Jg6, he]
   . obtain ⟨a, F⟩ := Jg3 h e
     have f3 := F.lt
     have hi0 : ¬ (i : Int) < 0 := by omega
     rw [hk, F.kat, if_neg hi0] at he
     simp [hk, hi0, hc]
     simp [f3, e, -getElem?_pos, List.getElem?_cons_zero, List.getElem?_cons_succ]
     by_cases hx : x.kind = 1
     . have hm4 : (⟨i, [52]⟩ : Port) ∈ allP c := F.mem _ (by rw [hx]; decide)
       have hm2 : (⟨i, [50]⟩ : Port) ∈ allP c := F.mem _ (by rw [hx]; decide)
       have n4 := (Jep hc hm4).2
       have n2 := (Jep hc hm2).2
       have s4 := J1n (l := l) n4
       have s2 := J1n (l := l) n2
       have u4 := J17 (l := l) hc hm4
       have u2 := J17 (l := l) hc hm2
       rw [hx] at he
       simp at he
       simp [hx]
       refine Ja6 (J9e c l h 1 2 _ _ (by simp) (by simp) (by simp) (by simp) (by simp)) ?_
       rw [Kgz h]
       simp
       refine Jak.intro (by kernel_rfl) ?_
       simp
       refine Ja6 (Jix c hc i [52] hm4 1 2 _ _ (by simp) (by simp) (by simp) (by simp [Jbp]) (by simp)) ?_
       simp [n4, s4, -getElem?_pos, List.getElem?_cons_zero, List.getElem?_cons_succ]
       refine Ja6 (Jix c hc i [50] hm2 1 2 _ _ (by simp) (by simp) (by simp) (by simp [Jbp]) (by simp)) ?_
       simp [n2, s2, -getElem?_pos, List.getElem?_cons_zero, List.getElem?_cons_succ]
       refine ⟨.of (by kernel_rfl), ?_⟩
       have hv : Jg6 c l s = Jr1 (Jkf c (Jib c l) i [52]) (Jkf c (Jib c l) i [50]) := by simp [Jg6, he, hk, t4, t2]
       unfold Jkf at hv
       rw [<- u4, <- u2] at hv
       generalize decide (Jhc c l (netN c i [52]) = 2) = o at hv
       generalize decide (Jhc c l (netN c i [50]) = 2) = b at hv
       simp only [List.cons_ne_nil, if_false] at hv
       cases o <;> cases b <;> simp <;> simp [Jaa, hv, Jr1, he]
     . simp [hx] at he
       simp [hx]
       simp [Jaa, Jg6, he]
 . refine Jab (J6d c l hs hl h) ?_
   simp [h]
   simp [Jaa, Jg6, Jh2, h]
end Go.Am
namespace Go.Am
open Go Go.Proofs Go.Pn
end Go.Am
namespace Go.Am
open Go Go.Proofs Go.Pn
@[simp] theorem Kke : (List.range 6)[0]? = some 0 := rfl
@[simp] theorem Kkf : (List.range 6)[1]? = some 1 := rfl
@[simp] theorem Kkg : (List.range 6)[2]? = some 2 := rfl
@[simp] theorem Kkh : (List.range 6)[3]? = some 3 := rfl
@[simp] theorem Kki : (List.range 6)[4]? = some 4 := rfl
@[simp] theorem Kkj : (List.range 6)[5]? = some 5 := rfl
end Go.Am
namespace Go.Am
open Go Go.Proofs Go.Pn
theorem SR.ahead {G F φ s w} (h : SR G F φ s w) : ∀ n, SR G F φ s (Sort.ahead w n)
 | 0 => h
 | n + 1 => by rw [<- Sort.ahead_drew]; exact (SR.ahead h n).drew
theorem J1o {own : Nat -> Prop} {w : World} : ∀ n, Step own own w (Sort.ahead w n)
 | 0 => Step.refl _ _
 | n + 1 => by rw [<- Sort.ahead_drew]; exact (J1o n).trans Jlk
theorem J1r {own : Nat -> Prop} {w : World} (os : Array Obj) : Step own own w (Sort.grow w os) where
 keep := fun β hβ ho => ⟨Sort.heap_grow_old w os hβ, ho⟩
 size := by simp [Sort.grow]
 shape := fun β arr T h => ⟨arr, by rw [Sort.heap_grow_old w os (Array.getElem?_eq_some_iff.1 h).1]; exact h, rfl⟩
 os := rfl
 tape := rfl
 output := rfl
theorem SR.grow {G F φ s w} (h : SR G F φ s w) (os : Array Obj) : SR G F φ s (Sort.grow w os) := by
 refine h.change (fun _ _ h => h) (J1r os) (fun b x hb => .inl ⟨hb, fun p hp => ?_⟩) h.inj h.disj
 obtain ⟨p', h1, h2⟩ := (h.blk b x hb).place
 rw [hp] at h1; cases h1
 exact Sort.heap_grow_old w os h2
end Go.Am
namespace Go.Am
open Go Go.Proofs Go.Shelf
end Go.Am
namespace Go.Am
open Go Go.Proofs Go.Pn
end Go.Am
namespace Go.Am
open Go Go.Proofs Go.Pn
end Go.Am
namespace Go.Am
open Go Go.Proofs Go.Pn
end Go.Am
namespace Go.Am
open Go Go.Proofs Go.Pn
section
variable {P : Program} {G : Jaf} {N n0 : Nat}
@[simp] theorem Kky {K : St -> Prop} {Q : Exit -> St -> Prop} {st : St} : Jf3 K Q .normal st = K st := rfl
end
end Go.Am
namespace Go.Am
open Go Go.Proofs Go.Pn
end Go.Am
namespace Go.Am
open Go Go.Proofs Go.Pn
structure AskedV where
 port : Port
 nm : Txt
@[simp] def AskedV.av (x : AskedV) : AV := .agg [.p (.int .i64 x.port.part), .p (.str x.port.name), .p (.str x.nm)]
end Go.Am
namespace Go.Am
open Go Go.Proofs Go.Pn
end Go.Am
namespace Go.Am
open Go Go.Proofs Go.Pn
end Go.Am
namespace Go.Am
open Go Go.Proofs Go.Pn
end Go.Am
namespace Go.Am
open Go Go.Proofs Go.Pn
end Go.Am
