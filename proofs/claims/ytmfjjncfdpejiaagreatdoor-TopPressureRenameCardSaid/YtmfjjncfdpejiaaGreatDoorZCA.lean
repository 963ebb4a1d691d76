/- Lemmas and contracts for the proof of a statement of this seat. -/
import Derived.Test.YtmfjjncfdpejiaaGreatDoorZC7
import Derived.Test.YtmfjjncfdpejiaaGreatDoorZCP
import Derived.Test.YtmfjjncfdpejiaaGreatDoorZS2
set_option linter.unusedVariables false
set_option linter.unusedSimpArgs false
namespace Go.Am
open Go Go.Proofs Go.Pn
end Go.Am
namespace Go.Pn
open Go Go.Proofs Go.Am
@[simp] def Pass.enc (p : Pass) : List PV := [.str p.to, .lst 1 (p.fr.map Txt.enc), .bool p.all]
end Go.Pn
namespace Go.Am
open Go Go.Proofs Go.Pn
theorem J5v (k : Nat) (hk : k < 14) : Pure Tryz.prog GL 119 [.p (.int .i64 k)] (.p (.int .i64 (Jc8 k))) := by
 refine Pure.of_walk (N := 14) Tryz.func119 rfl rfl rfl (by simp) (by first | (simp; done) | simp [*]) ?_
 simp
 refine Jab Jqf ?_
 have hk2 : k < Jf9.length := by simpa [Jf9] using hk
 rcases (by omega : k = 0 \/ k = 1 \/ k = 2 \/ k = 3 \/ k = 4 \/ k = 5 \/ k = 6 \/ k = 7 \/ k = 8 \/ k = 9 \/ k = 10 \/ k = 11 \/ k = 12 \/ k = 13) with rfl|rfl|rfl|rfl|rfl|rfl|rfl|rfl|rfl|rfl|rfl|rfl|rfl|rfl <;> (simp [Jf9, Jg1, Jcm]; simp [Jaa, Jc8, Jbt])
theorem Kb2 {c : Circuit} (h : Jad c = 0) {p : Port} (hp : p ∈ allP c) : Jbh c p = 0 /\ ∃ (i : Nat) (g : List Port), netP c p = i /\ i < (nets c).length /\ (nets c)[i]? = some g /\ p ∈ g /\ g.length < 100000 := by
 refine ⟨Jdl.1 hp, ?_⟩
 obtain ⟨i, g, h1, h2, h3⟩ := Jif h hp
 exact ⟨i, g, h1, (gsI.1 h2).1, h2, h3, by have := (Jjn h).2 g (List.mem_of_getElem? h2); omega⟩
end Go.Am
namespace Go.Am
open Go Go.Proofs Go.Pn
def Passes.av (l : List Pass) : AV := .p (.lst 3 (l.map Pass.enc))
theorem Jw8 {s : Store} {b b2 n : Nat} {c c2 : Option Nat} {to : Txt} {frs : List Txt} {all : Bool} (hg : get s b = some (.cells 3 [[.p (.str to), .ref b2 1 0 n c2, .p (.bool all)]]))
   (hg2 : get s b2 = some (.cells 1 (frs.map Txt.row))) (hn : frs.length = n) : FrzA s (fun _ => True) (.ref b 3 0 1 c) (Passes.av [⟨to, frs, all⟩]) := by
 have h2 : Frz s (fun _ => True) (.ref b2 1 0 n c2) (.lst 1 (frs.map Txt.enc)) := .rows trivial hg2 (by simp [List.take_of_length_le, <- hn]) (by simpa using hn)
 refine .one _ _ (.ref b 3 0 1 c _ _ (fun _ j => ([.p (.str to), .ref b2 1 0 n c2, .p (.bool all)] : List AV)[j]?.getD .any) trivial hg rfl (fun p j row x h1 h3 => ?_) (fun p j row x h1 h3 => ?_))
 . match p with
   | 0 =>
     simp at h1; subst h1
     match j with
     | 0 => exact ⟨_, rfl, rfl⟩
     | 1 => exact ⟨_, rfl, rfl⟩
     | 2 => exact ⟨_, rfl, rfl⟩
     | j + 3 => simp at h3
   | p + 1 => simp at h1
 . match p with
   | 0 =>
     simp at h1; subst h1
     match j with
     | 0 => simp at h3; subst h3; exact .p _
     | 1 => simp at h3; subst h3; exact h2
     | 2 => simp at h3; subst h3; exact .p _
     | j + 3 => simp at h3
   | p + 1 => simp at h1
theorem Jmz (to fr : Txt) : Pure Tryz.prog GL 335 [.p (.str to), .p (.str fr)] (Passes.av [⟨to, [fr], false⟩]) := by
 refine Pure.of_walkZ (N := 10) Tryz.func335 rfl rfl rfl (by simp) (by simp) ?_
 simp
 refine ⟨.inl rfl, [.ref 1 3 0 1 (some 1)], by simp, ?_⟩
 exact Jw8 (b := 1) (b2 := 0) (n := 1) (c2 := some 1) (by simp [get]) (by simp [get]) rfl
theorem Jvr (x : Bool) (pos : Int) : Pure Tryz.prog GL 338 [.p (.int .i64 pos), .iptr 1 [[.bool x]] 0 0] (Passes.av [⟨t2, [t1, t11], x⟩]) := by
 refine Pure.of_walkZ (N := 8) Tryz.func338 rfl rfl rfl (by simp) (by simp) ?_
 simp
 refine ⟨.inl rfl, [.ref 1 3 0 1 (some 1)], by simp, ?_⟩
 exact Jw8 (b := 1) (b2 := 0) (n := 2) (c2 := some 2) (by simp [get, t2]) (by simp [get, t1, t11]) rfl
theorem J5m (pos : Int) : Pure Tryz.prog GL 272 [.p (.int .i64 pos)] (Passes.av []) := by
 refine Pure.of_walk (N := 3) Tryz.func272 rfl rfl rfl (by simp) (by first | (simp; done) | simp [*]) ?_
 simp
 simp [Jaa, Passes.av]
theorem J5n (pos : Int) : Pure Tryz.prog GL 279 [.p (.int .i64 pos)] (Passes.av [⟨t2, [t1], false⟩]) := by
 refine Pure.of_walk (N := 4) Tryz.func279 rfl rfl rfl (by simp) (by first | (simp; done) | simp [*]) ?_
 simp
 refine Jab (Jmz [50] [49]) ?_
 simp [Passes.av]
 simp [Jaa, t2, t1]
def posI (b : Bool) : Int := if b then 1 else 0
theorem J5i (b : Bool) : Pure Tryz.prog GL 274 [.p (.int .i64 (posI b))] (Passes.av [⟨if b then t4 else t2, [t1], false⟩]) := by
 refine Pure.of_walk (N := 8) Tryz.func274 rfl rfl rfl (by simp) (by first | (simp; done) | simp [*]) ?_
 cases b
 . simp [posI]
   refine Jab (Jmz [50] [49]) ?_
   simp [Passes.av]
   simp [Jaa, t2, t1]
 . simp [posI]
   refine Jab (Jmz [52] [49]) ?_
   simp [Passes.av]
   simp [Jaa, t4, t1]
theorem Jvq (n pos : Int) : Pure Tryz.prog GL 336 [.p (.int .i64 pos), .iptr 1 [[.int .i64 n]] 0 0] (Passes.av (if pos = n then [⟨t2, [t1], false⟩] else [])) := by
 refine Pure.of_walk (N := 8) Tryz.func336 rfl rfl rfl (by simp) (by first | (simp; done) | simp [*]) ?_
 simp
 by_cases h : pos = n
 . simp [h]
   refine Jab (Jmz [50] [49]) ?_
   simp [Passes.av]
   simp [Jaa, t2, t1, h]
 . simp [h]
   simp [Jaa, Passes.av, h]
theorem J73 (k : Nat) (hk : k < 14) (b : Bool) : ∃ m cap, (catRow k)[10]? = some (.fn (.func m) cap) /\ Ja3 cap = true /\ Pure Tryz.prog GL m (.p (.int .i64 (posI b)) :: cap) (Passes.av (Jeb k b)) := by
 have g1 := Jvq 1 (posI b)
 have g0 := Jvq 0 (posI b)
 have ch := J5i b
 have no := J5m (posI b)
 have th := J5n (posI b)
 have m0 := Jvr false (posI b)
 have m1 := Jvr true (posI b)
 cases b
 all_goals
   simp only [posI, Bool.false_eq_true, if_true, if_false] at g1 g0 ch no th m0 m1 ⊢
   rcases (by omega : k = 0 \/ k = 1 \/ k = 2 \/ k = 3 \/ k = 4 \/ k = 5 \/ k = 6 \/ k = 7 \/ k = 8 \/ k = 9 \/ k = 10 \/ k = 11 \/ k = 12 \/ k = 13) with rfl|rfl|rfl|rfl|rfl|rfl|rfl|rfl|rfl|rfl|rfl|rfl|rfl|rfl
   all_goals first
     | exact ⟨_, _, rfl, rfl, no⟩
     | exact ⟨_, _, rfl, rfl, ch⟩
     | exact ⟨_, _, rfl, rfl, g1⟩
     | exact ⟨_, _, rfl, rfl, g0⟩
     | exact ⟨_, _, rfl, rfl, th⟩
     | exact ⟨_, _, rfl, rfl, m0⟩
     | exact ⟨_, _, rfl, rfl, m1⟩
end Go.Am
namespace Go.Am
open Go Go.Proofs Go.Pn
theorem Jqm {k : Nat} (h : k < 14) : (catRow k)[9]? = some (.p (.int .i64 (Jc8 k))) /\ (catRow k)[7]? = some (.p (.str (J0e k).1)) /\ (catRow k)[8]? = some (.p (.str (J0e k).2)) /\
   ((catRow k).drop 2).take 5 = (Jbt k).map (fun l => .p (.lst 1 (l.map Txt.enc))) /\ (Jbt k).length = 5 := by
 rcases (by omega : k = 0 \/ k = 1 \/ k = 2 \/ k = 3 \/ k = 4 \/ k = 5 \/ k = 6 \/ k = 7 \/ k = 8 \/ k = 9 \/ k = 10 \/ k = 11 \/ k = 12 \/ k = 13) with rfl|rfl|rfl|rfl|rfl|rfl|rfl|rfl|rfl|rfl|rfl|rfl|rfl|rfl <;> exact ⟨rfl, rfl, rfl, rfl, rfl⟩
theorem Kbd {k : Nat} : 1 <= Jc8 k /\ Jc8 k <= 2 := by unfold Jc8; split <;> omega
theorem J5f (k : Int) : Pure Tryz.prog GL 263 [.p (.int .i64 k)] (.tup [.p (.int .i64 (if Jax k = 0 then Jc8 k.toNat else 0)), .p (.int .i64 (Jax k))]) := by
 refine Pure.of_walk (N := 14) Tryz.func263 rfl rfl rfl (by simp) (by first | (simp; done) | simp [*]) ?_
 simp
 refine Jab (Jh2 k) ?_
 by_cases hk : 0 <= k /\ k < 14
 . have h3 : Jax k = 0 := Jcs.2 hk
   have hl := Jfa (k := k.toNat)
   have h6 := Jfb (k := k.toNat)
   obtain ⟨f1, f2, f3, f4, f5⟩ := Jqm (k := k.toNat) (by omega)
   obtain ⟨_, f1'⟩ := gsI.1 f1
   simp [h3, hl, Jc0]
   refine ⟨by simpa using h6, ?_⟩
   simp [Jaa, h3, f1']
 . have h3 : Jax k = 1 := Jib hk
   simp [h3, catRow, lay]
   simp [Jaa, h3]
theorem Jvs (k pos : Int) : Pure Tryz.prog GL 333 [.p (.int .i64 k), .p (.int .i64 pos)] (.tup [.agg (catRow (if Jb3 k pos = 0 then k.toNat else 14)), .p (.int .i64 (Jb3 k pos))]) := by
 refine Pure.of_walk (N := 29) Tryz.func333 rfl rfl rfl (by simp) (by first | (simp; done) | simp [*]) ?_
 simp
 refine Jab (Jh2 k) ?_
 by_cases hk : 0 <= k /\ k < 14
 . have h3 : Jax k = 0 := Jcs.2 hk
   have hl := Jfa (k := k.toNat)
   have h6 := Jfb (k := k.toNat)
   have h7 := Jv8 (k := k.toNat)
   have h8 : (catRow k.toNat).take 12 = catRow k.toNat := List.take_of_length_le (by omega)
   obtain ⟨f1, f2, f3, f4, f5⟩ := Jqm (k := k.toNat) (by omega)
   simp [h3, hl, Jc0]
   refine ⟨by simpa using h6, ?_⟩
   by_cases h1 : pos < 0
   . have hp : Jb3 k pos = 2 := by simp [Jb3, h3, h1]
     simp [h1]
     simp [Jaa, hp, catRow]
   . by_cases h2 : (Jc8 k.toNat : Int) <= pos
     . have hp : Jb3 k pos = 2 := by simp [Jb3, h3, h2]
       simp [h1, f1, h2, -getElem?_pos, List.getElem?_cons_zero, List.getElem?_cons_succ]
       simp [Jaa, hp, catRow]
     . have hp : Jb3 k pos = 0 := by simp [Jb3, h3, h1, h2]
       simp [h1, f1, h2, hl, Jc0, h8, -getElem?_pos, List.getElem?_cons_zero, List.getElem?_cons_succ]
       refine ⟨by simpa using h6, ?_⟩
       simp [Jaa, hp, hl, h8, Jkj _ h7]
 . have h3 : Jax k = 1 := Jib hk
   have hp : Jb3 k pos = 1 := by simp [Jb3, h3]
   simp [h3, catRow, lay]
   simp [Jaa, hp, catRow]
end Go.Am
namespace Go.Am
open Go Go.Proofs Go.Pn
theorem Jom {k pos : Int} (h : Jb3 k pos = 0) : (0 <= k /\ k < 14) /\ ∃ b : Bool, pos = posI b := by
 unfold Jb3 at h
 by_cases hk : 0 <= k /\ k < 14
 . refine ⟨hk, ?_⟩
   rw [Jcs.2 hk] at h
   simp only [ne_eq, not_true_eq_false, if_false] at h
   have h2 : ¬ (pos < 0 \/ (Jc8 k.toNat : Int) <= pos) := by
     intro h2; rw [if_pos h2] at h; cases h
   have h3 := (@Kbd k.toNat).2
   by_cases h4 : pos = 0
   . exact ⟨false, h4⟩
   . exact ⟨true, by simp only [posI, if_true]; omega⟩
 . rw [Jib hk] at h; simp at h
def Jjw (k pos : Int) : List Pass := if Jb3 k pos = 0 then Jeb k.toNat (decide (pos = 1)) else []
def Jev (k pos : Int) : List Txt := if Jb3 k pos = 0 then Je8 k.toNat (decide (pos = 1)) else []
theorem J0m {b : Bool} : decide (posI b = 1) = b := by cases b <;> rfl
theorem J5e (k pos : Int) : Pure Tryz.prog GL 264 [.p (.int .i64 k), .p (.int .i64 pos)] (.tup [Passes.av (Jjw k pos), .p (.int .i64 (Jb3 k pos))]) := by
 refine Pure.of_walk (N := 21) Tryz.func264 rfl rfl rfl (by simp) (by first | (simp; done) | simp [*]) ?_
 simp
 refine Jab (Jvs k pos) ?_
 by_cases hp : Jb3 k pos = 0
 . obtain ⟨hk, b, hb⟩ := Jom hp
   have hl := Jfa (k := k.toNat)
   have h6 := Jfb (k := k.toNat)
   obtain ⟨m, cap, g1, g2, g3⟩ := J73 k.toNat (by omega) b
   have hpa : Jjw k pos = Jeb k.toNat b := by rw [Jjw, if_pos hp, hb, J0m]
   have hren := fun ρ => (Jfp (ρ := ρ)).2 cap g2
   simp [hp, hl, Jc0]
   refine ⟨by simpa using h6, ?_⟩
   obtain ⟨_, g1'⟩ := gsI.1 g1
   simp [g1']
   rw [hb]
   refine Jab g3 ?_
   simp
   rw [<- hb]
   simp [Jaa, hpa, hp, Passes.av]
 . simp [hp, catRow, lay]
   simp [Jaa, Jjw, hp, Passes.av]
theorem J0p {α : Type} {f : α -> AV} (h : ∀ x, Jap (f x) = true) : ∀ {l : List α}, Ja3 (l.map f) = true
 | [] => rfl
 | x :: l => by simp [Ja3, h x, J0p h (l := l)]
def Jdt (k : Nat) (s : Txt) : Int := idxI (Jbt k) fun l => decide (s ∈ l)
theorem Jqe (k : Int) (s : Txt) (hk : 0 <= k /\ k < 14) : Pure Tryz.prog GL 95 [.p (.int .i64 k), .p (.str s)] (.tup [.p (.int .i64 (if Jdt k.toNat s < 0 then 0 else Jdt k.toNat s)), .p (.int .i64 (if Jdt k.toNat s < 0 then 6 else 0))]) := by
 refine Pure.of_walk (N := 29) Tryz.func95 rfl rfl rfl (by simp) (by first | (simp; done) | simp [*]) ?_
 simp
 refine Jab (Jh2 k) ?_
 have h3 : Jax k = 0 := Jcs.2 hk
 have hl := Jfa (k := k.toNat)
 have h6 := Jfb (k := k.toNat)
 obtain ⟨f1, f2, f3, f4, f5⟩ := Jqm (k := k.toNat) (by omega)
 have hsh : ∀ l ∈ Jbt k.toNat, l.length < 100 := (by decide : ∀ k, k < 14 -> ∀ l ∈ Jbt k, l.length < 100) k.toNat (by omega)
 simp [h3, hl, Jc0]
 refine ⟨by simpa using h6, ?_⟩
 have hren := fun ρ => Jlr (ρ := ρ) (J0p (f := fun l : List Txt => AV.p (PV.lst 1 (l.map Txt.enc))) (fun _ => rfl) (l := Jbt k.toNat))
 simp [f4]
 refine Jag.go [1, 19] [] 0 [] (fun _ => []) (fun _ (r : Nat) => [(20, .p (.int .i64 r))]) (fun _ _ => []) (fun r => r <= 5 /\ ∀ (j : Nat) x, j < r -> (Jbt k.toNat)[j]? = some x -> decide (s ∈ x) = false) (fun r => 5 - r) 0 ⟨by omega, fun j x h => by omega⟩ ?_ ?_
 . simp [hren]
 . rintro r ⟨hr, hp⟩
   simp
   refine Jac (fun h => ?_) (fun h => ?_)
   . simp at h
     obtain ⟨x, e⟩ := Jae (xs := Jbt k.toNat) (k := r) (by omega)
     simp [h, e, f5, -getElem?_pos, List.getElem?_cons_zero, List.getElem?_cons_succ]
     refine Jab (Ju8 x s (by have := hsh x (List.mem_of_getElem? e); omega)) ?_
     simp
     by_cases h2 : s ∈ x
     . have hro : Jdt k.toNat s = r := Jez (q := fun l => decide (s ∈ l)) e (by simpa using h2) hp
       have h0 : ¬ (r : Int) < 0 := by omega
       simp [h2]
       simp [Jaa, hro, h0]
     . simp [h2]
       refine ⟨wrap_i64 (by omega) (by omega), r + 1, ⟨by omega, ?_⟩, by omega, ?_⟩
       . simpa using Jd1 (P := fun l => decide (s ∈ l) = false) hp e (by simpa using h2)
       . simp [hren]
   . simp at h
     have h7 : r = (Jbt k.toNat).length := by omega
     subst h7
     have hro : Jdt k.toNat s = -1 := Je0 (q := fun l => decide (s ∈ l)) (Jef hp)
     simp [Jaa, hro]
end Go.Am
namespace Go.Am
open Go Go.Proofs Go.Pn
theorem J38 (xs : List Int) (q : Int -> Bool) (m : Nat) (cap : List AV) (hcap : Ja3 cap = true) (hl : xs.length < 4611686018427387904) (hq : ∀ x ∈ xs, Pure Tryz.prog GL m ((Int.av x) :: cap) (.p (.bool (q x)))) : Pure Tryz.prog GL 268 [.p (.lst 1 (xs.map Int.enc)), .fn (.func m) cap] (.p (.int .i64 (idxI xs q))) := by
 refine Pure.of_walk (N := 19) Tryz.func268 rfl rfl rfl (by simp) (by first | (simp; done) | simp [*]) ?_
 have hren := fun ρ => (Jfp (ρ := ρ)).2 cap hcap
 simp
 refine Jag.go [0, 1, 7] [] 0 [] (fun _ => []) (fun _ (k : Nat) => [(8, .p (.int .i64 k))]) (fun _ _ => []) (fun k => k <= xs.length /\ ∀ (j : Nat) x, j < k -> xs[j]? = some x -> q x = false) (fun k => xs.length - k) 0 ⟨by omega, fun j b h => by omega⟩ ?_ ?_
 . simp [hren]
 . rintro k ⟨hk, hp⟩
   simp
   refine Jac (fun h => ?_) (fun h => ?_)
   . simp at h
     obtain ⟨x, e⟩ := Jae h
     simp [h, e, -getElem?_pos, List.getElem?_cons_zero, List.getElem?_cons_succ]
     refine Jab (hq x (List.mem_of_getElem? e)) ?_
     simp
     refine Jac (fun h2 => ?_) (fun h2 => ?_)
     . simp [Jaa, Jez e h2 hp]
     . simp [hren]
       refine ⟨wrap_i64 (by omega) (by omega), k + 1, ⟨by omega, Jd1 hp e h2⟩, by omega, ?_⟩
       simp [hren]
   . simp at h
     have hk2 : k = xs.length := by omega
     subst hk2
     simp [Jaa, Je0 (Jef hp)]
theorem J36 (xs : List Int) (q : Int -> Bool) (m : Nat) (cap : List AV) (hcap : Ja3 cap = true) (hl : xs.length < 4611686018427387904) (hq : ∀ x ∈ xs, Pure Tryz.prog GL m ((Int.av x) :: cap) (.p (.bool (q x)))) : Pure Tryz.prog GL 210 [.p (.lst 1 (xs.map Int.enc)), .fn (.func m) cap] (.p (.bool (xs.any q))) := by
 refine Pure.of_walk (N := 9) Tryz.func210 rfl rfl rfl (by simp) (by first | (simp; done) | simp [*]) ?_
 simp
 refine Jab (J38 xs q m cap hcap hl hq) ?_
 simp [Jaa]
 rw [Bool.eq_iff_iff]
 simp [Jh9]
end Go.Am
namespace Go.Am
open Go Go.Proofs Go.Pn
@[simp] abbrev Ints.av (l : List Int) : AV := .p (.lst 1 (l.map Int.enc))
def Jg0 (c : Circuit) (l : List Int) (i : Nat) : Int := match c.parts[i]?, l[i]? with
 | some p, some a => if a < 0 \/ (Jc8 p.kind.toNat : Int) <= a then 2 else 0
 | _, _ => 0
def Jam (c : Circuit) (l : List Int) : Int := if Jad c ≠ 0 then Jad c else if l.length ≠ c.parts.length then 8 else Jas (Jg0 c l) l.length
theorem Jeg {c : Circuit} {l : List Int} (h : Jam c l = 0) : Jad c = 0 /\ l.length = c.parts.length /\ ∀ (i : Nat) p, c.parts[i]? = some p -> ∃ a, l[i]? = some a /\ Jb3 p.kind a = 0 /\ (0 <= p.kind /\ p.kind < 14) := by
 unfold Jam at h
 have h1 : Jad c = 0 := by
   apply Decidable.byContradiction
   intro hn
   rw [if_pos hn] at h; exact hn h
 rw [if_neg (by simpa using h1)] at h
 have h2 : l.length = c.parts.length := by
   apply Decidable.byContradiction
   intro hn
   rw [if_pos hn] at h; cases h
 rw [if_neg (by simpa using h2)] at h
 refine ⟨h1, h2, fun i p hp => ?_⟩
 have hi : i < l.length := by rw [h2]; exact (gsI.1 hp).1
 obtain ⟨a, ha⟩ := Jae hi
 have h3 := Jk4.1 h i hi
 have hk := (Jbg h1).1 p (List.mem_of_getElem? hp)
 simp only [Jg0, hp, ha] at h3
 refine ⟨a, ha, ?_, hk⟩
 unfold Jb3
 rw [Jcs.2 hk]
 simpa using h3
set_option maxRecDepth 20000 in
theorem Jv1 (c : Circuit) (l : List Int) (hs : Sized c) (hl : l.length < 4611686018427387904) : Pure Tryz.prog GL 203 [c.av, Ints.av l] (.p (.int .i64 (Jam c l))) := by
 refine Pure.of_walk (N := 49) Tryz.func203 rfl rfl rfl (by simp) (by first | (simp; done) | simp [*]) ?_
 simp [Ints.av]
 refine Jab (Jha c hs) ?_
 by_cases hc : Jad c = 0
 . have h2 := Jbg hc
   simp [hc]
   by_cases hn : l.length = c.parts.length
   . simp [hn]
     refine Jag.go [2, 21, 22] [0] 0 [] (fun _ => []) (fun _ (k : Nat) => [(23, .p (.int .i64 k))]) (fun _ _ => []) (fun k => k <= l.length /\ Jas (Jg0 c l) k = 0) (fun k => l.length - k) 0 ⟨by omega, rfl⟩ ?_ ?_
     . simp
       try decide
     . rintro k ⟨hk, hp⟩
       simp
       refine Jac (fun h => ?_) (fun h => ?_)
       . simp at h
         obtain ⟨x, e⟩ := Jae h
         obtain ⟨a, e2⟩ := Jae (xs := l) (k := k) (by omega)
         have hkx := h2.1 x (List.mem_of_getElem? e)
         have h3 : Jax x.kind = 0 := Jcs.2 hkx
         have hpa : Jg0 c l k = if a < 0 \/ (Jc8 x.kind.toNat : Int) <= a then 2 else 0 := by simp only [Jg0, e, e2]
         have hkl : k < l.length := by omega
         simp [h, e, e2, hkl, -getElem?_pos, List.getElem?_cons_zero, List.getElem?_cons_succ]
         refine Jab (J5f x.kind) ?_
         simp [h3]
         by_cases b1 : a < 0 \/ (Jc8 x.kind.toNat : Int) <= a
         . have hq : Jam c l = 2 := by
             rw [if_pos b1] at hpa
             rw [Jam, if_neg (by simpa using hc), if_neg (by simpa using hn), Jff hp hkl (by rw [hpa]; decide), hpa]
           by_cases b2 : a < 0
           . simp [b2]
             simp [Jaa, hq]
           . have b3 : (Jc8 x.kind.toNat : Int) <= a := by omega
             simp [b2, b3]
             simp [Jaa, hq]
         . have b2 : ¬ a < 0 := by omega
           have b3 : ¬ (Jc8 x.kind.toNat : Int) <= a := by omega
           rw [if_neg b1] at hpa
           simp [b2, b3]
           refine ⟨wrap_i64 (by omega) (by omega), k + 1, ⟨by omega, Jc6 hp hpa⟩, by omega, ?_⟩
           simp
           try decide
       . simp at h
         have hk2 : k = l.length := by omega
         have hq : Jam c l = 0 := by rw [Jam, if_neg (by simpa using hc), if_neg (by simpa using hn), <- hk2, hp]
         simp [Jaa, hq]
   . have hn2 : ¬ (l.length : Int) = c.parts.length := by omega
     simp [hn2]
     simp [Jaa, Jam, hc, hn]
 . simp [hc, Jaa, Jam]
set_option maxRecDepth 20000 in
theorem J53 (c : Circuit) (l : List Int) (hs : Sized c) (hl : l.length < 4611686018427387904) : Pure Tryz.prog GL 48 [c.av, Ints.av l] (.p (.int .i64 (Jam c l))) := by
 refine Pure.of_walk (N := 43) Tryz.func48 rfl rfl rfl (by simp) (by first | (simp; done) | simp [*]) ?_
 simp [Ints.av]
 refine Jab (Jvx c hs) ?_
 by_cases hc : Jad c = 0
 . have h2 := Jbg hc
   simp [hc]
   by_cases hn : l.length = c.parts.length
   . simp [hn]
     refine Jag.go [1, 2] [0] 0 [] (fun _ => []) (fun _ (k : Nat) => [(6, .p (.int .i64 k))]) (fun _ _ => []) (fun k => k <= l.length /\ Jas (Jg0 c l) k = 0) (fun k => l.length - k) 0 ⟨by omega, rfl⟩ ?_ ?_
     . simp
       try decide
     . rintro k ⟨hk, hp⟩
       simp
       refine Jac (fun h => ?_) (fun h => ?_)
       . simp at h
         obtain ⟨a, e2⟩ := Jae h
         obtain ⟨x, e⟩ := Jae (xs := c.parts) (k := k) (by omega)
         have hkx := h2.1 x (List.mem_of_getElem? e)
         have hpa : Jg0 c l k = if a < 0 \/ (Jc8 x.kind.toNat : Int) <= a then 2 else 0 := by simp only [Jg0, e, e2]
         have hkc : k < c.parts.length := by omega
         have hkk : ((x.kind.toNat : Nat) : Int) = x.kind := by omega
         have hmany := J5v x.kind.toNat (by omega)
         rw [hkk] at hmany
         simp
         refine Jaj.intro (by kernel_rfl) ?_
         simp [h, e2, -getElem?_pos, List.getElem?_cons_zero, List.getElem?_cons_succ]
         by_cases b2 : a < 0
         . simp [b2]
           refine ⟨.of (by kernel_rfl), ?_⟩
           have hq : Jam c l = 2 := by
             rw [if_pos (.inl b2)] at hpa
             rw [Jam, if_neg (by simpa using hc), if_neg (by simpa using hn), Jff hp h (by rw [hpa]; decide), hpa]
           simp [Jaa, hq]
         . simp [b2, h, e2, hkc, e, -getElem?_pos, List.getElem?_cons_zero, List.getElem?_cons_succ]
           refine Jab hmany ?_
           simp
           refine ⟨.of (by kernel_rfl), ?_⟩
           by_cases b3 : (Jc8 x.kind.toNat : Int) <= a
           . have hq : Jam c l = 2 := by
               rw [if_pos (.inr b3)] at hpa
               rw [Jam, if_neg (by simpa using hc), if_neg (by simpa using hn), Jff hp h (by rw [hpa]; decide), hpa]
             simp [b3]
             simp [Jaa, hq]
           . rw [if_neg (by omega)] at hpa
             simp [b3]
             refine ⟨wrap_i64 (by omega) (by omega), k + 1, ⟨by omega, Jc6 hp hpa⟩, by omega, ?_⟩
             simp
             try decide
       . simp at h
         have hk2 : k = l.length := by omega
         have hq : Jam c l = 0 := by rw [Jam, if_neg (by simpa using hc), if_neg (by simpa using hn), <- hk2, hp]
         simp [Jaa, hq]
   . have hn2 : ¬ (l.length : Int) = c.parts.length := by omega
     simp [hn2]
     simp [Jaa, Jam, hc, hn]
 . simp [hc, Jaa, Jam]
end Go.Am
namespace Go.Am
open Go Go.Proofs Go.Pn
def netN (c : Circuit) (i : Int) (s : Txt) : Nat := (netP c ⟨i, s⟩).toNat
theorem Jd7 {c : Circuit} (h : Jad c = 0) {i : Int} {s : Txt} (hp : (⟨i, s⟩ : Port) ∈ allP c) : netP c ⟨i, s⟩ = netN c i s /\ netN c i s < (nets c).length := by
 obtain ⟨_, n, g, h1, h2, _⟩ := Kb2 h hp
 unfold netN
 rw [h1]
 exact ⟨by omega, by omega⟩
def mkd (m : List Bool) (n : Nat) : Bool := (m[n]?).getD false
end Go.Am
namespace Go.Am
open Go Go.Proofs Go.Pn
def Jdk (l : List Int) (i : Int) : Int := (l[i.toNat]?).getD 0
def Jea (c : Circuit) (l : List Int) (i : Int) : List Pass := Jeb (Jal c i).toNat (decide (Jdk l i = 1))
def J2f (c : Circuit) (l : List Int) (i : Int) : Txt := (Jjs (Jal c i).toNat (decide (Jdk l i = 1))).2
theorem Keg {k : Nat} (h : k < 14) (b : Bool) : ∀ y ∈ Jeb k b, y.to ∈ Jaq k /\ (∀ s ∈ y.fr, s ∈ Jaq k) /\ 1 <= y.fr.length /\ y.fr.length <= 2 := by
 have t1 := (by decide : ∀ k, k < 14 -> ∀ y ∈ Jeb k true, y.to ∈ Jaq k /\ (∀ s ∈ y.fr, s ∈ Jaq k) /\ 1 <= y.fr.length /\ y.fr.length <= 2) k h
 have t2 := (by decide : ∀ k, k < 14 -> ∀ y ∈ Jeb k false, y.to ∈ Jaq k /\ (∀ s ∈ y.fr, s ∈ Jaq k) /\ 1 <= y.fr.length /\ y.fr.length <= 2) k h
 cases b
 . exact t2
 . exact t1
theorem Keh {k : Nat} {b : Bool} : (Jeb k b).length <= 1 := by unfold Jeb; split <;> simp
structure PortFacts (c : Circuit) (l : List Int) (i : Nat) (q : Part) (a : Int) : Prop where
 here : c.parts[i]? = some q
 pos : l[i]? = some a
 lt : i < c.parts.length
 ltl : i < l.length
 kind : 0 <= q.kind /\ q.kind < 14
 placed : Jb3 q.kind a = 0
 pass : Jea c l i = Jeb q.kind.toNat (decide (a = 1))
 vent : J2f c l i = (Jjs q.kind.toNat (decide (a = 1))).2
 kat : Jal c i = q.kind
 mem : ∀ s, s ∈ Jaq q.kind.toNat -> (⟨i, s⟩ : Port) ∈ allP c
 passes : Jjw q.kind a = Jea c l i
 vents : Jev q.kind a = Je8 q.kind.toNat (decide (a = 1))
theorem Jhn {c : Circuit} {l : List Int} (h : Jam c l = 0) {i : Nat} {q : Part} (e : c.parts[i]? = some q) : ∃ a, PortFacts c l i q a := by
 obtain ⟨h1, h2, h3⟩ := Jeg h
 obtain ⟨a, ha, hpl, hk⟩ := h3 i q e
 have hi := (gsI.1 e).1
 have hka : Jal c (i : Int) = q.kind := by rw [Jal, Int.toNat_natCast, e]; rfl
 have hpo : Jdk l (i : Int) = a := by rw [Jdk, Int.toNat_natCast, ha]; rfl
 have hpass : Jea c l i = Jeb q.kind.toNat (decide (a = 1)) := by rw [Jea, hka, hpo]
 refine ⟨a, ⟨e, ha, hi, by omega, hk, hpl, hpass, by rw [J2f, hka, hpo], hka, fun s hs => ?_, by rw [hpass, Jjw, if_pos hpl], by rw [Jev, if_pos hpl]⟩⟩
 exact Jdl.2 (Jey.2 ⟨q, by rw [Int.toNat_natCast]; exact e, by simp, hs⟩)
def Jkx (c : Circuit) (m : List Bool) (i : Int) (s : Txt) : Bool := if s = [] then false else mkd m (netN c i s)
end Go.Am
