/- Lemmas and contracts for the proof of a statement of this seat. -/
import Derived.Test.YtmfjjncfdpejiaaGreatDoorZC7
set_option linter.unusedVariables false
set_option linter.unusedSimpArgs false
namespace Go.Am
open Go Go.Proofs Go.Pn
end Go.Am
namespace Go.Am
open Go Go.Proofs Go.Pn
theorem Jt0 (a : Pipe) : Ja6 a a = false := by simp [Ja6, Jt7]
theorem Jt1 {a b c : Pipe} (h : Ja6 a b = true) (k : Ja6 b c = true) : Ja6 a c = true := by
 unfold Ja6 at *
 by_cases e1 : a.fr = b.fr <;> by_cases e2 : b.fr = c.fr
 . rw [if_pos e1] at h; rw [if_pos e2] at k; rw [if_pos (e1.trans e2)]; exact Jt9 h k
 . rw [if_neg e2] at k; rw [e1, if_neg e2]; exact k
 . rw [if_neg e1] at h; rw [<- e2, if_neg e1]; exact h
 . rw [if_neg e1] at h; rw [if_neg e2] at k
   have := Jt9 h k
   rw [if_neg]
   . exact this
   . intro e; rw [e, Jt7] at this; cases this
theorem J4e {a b : Pipe} (h : Ja6 a b = false) (k : Ja6 b a = false) : a = b := by
 unfold Ja6 at *
 by_cases e1 : a.fr = b.fr
 . rw [if_pos e1] at h; rw [if_pos e1.symm] at k
   have e2 := Jt8 h k
   cases a; cases b; simp at e1 e2; rw [e1, e2]
 . rw [if_neg e1] at h; rw [if_neg (fun e => e1 e.symm)] at k
   exact (e1 (Jt8 h k)).elim
abbrev Asc (l : List Pipe) : Prop := l.Pairwise fun a b => Ja6 a b = true
theorem Jz7 {f : Nat -> Int} {n : Nat} : Jav f n = 0 ↔ ∀ k, k < n -> f k = 0 := by
 refine ⟨fun h k hk => Je1 h hk, fun h => ?_⟩
 induction n with
 | zero => rfl
 | succ n ih => exact Jda (ih fun k hk => h k (by omega)) (h n (by omega))
structure PartsOk (c : Circuit) : Prop where
 few : c.parts.length <= 64
 each : Jav (partAt c) c.parts.length = 0
 owned : Jav (Jd0 c) c.parts.length = 0
theorem Jwu {l : List Pipe} : Asc l ↔ ∀ (k : Nat) x y, l[k]? = some x -> l[k + 1]? = some y -> Ja6 x y = true := by
 constructor
 . intro h k x y hx hy
   obtain ⟨h1, rfl⟩ := gsI.1 hx
   obtain ⟨h2, rfl⟩ := gsI.1 hy
   exact List.pairwise_iff_getElem.1 h k (k + 1) h1 h2 (by omega)
 . intro h
   refine List.pairwise_iff_getElem.2 ?_
   intro i j hi hj hij
   obtain ⟨d, rfl⟩ := Nat.exists_eq_add_of_lt hij
   induction d with
   | zero => exact h i _ _ (List.getElem?_eq_getElem hi) (List.getElem?_eq_getElem hj)
   | succ d ih => exact Jt1 (ih (by omega) (by omega)) (h (i + d + 1) _ _ (List.getElem?_eq_getElem (by omega)) (List.getElem?_eq_getElem hj))
theorem Jqy {a b : Pipe} : ¬ 0 <= Jeh a b ↔ Ja6 a b = true := by rw [<- Jm9]; omega
theorem Jzd {a b : Port} : ¬ 0 <= Jcm a b ↔ Jbq a b = true := by rw [<- Jig]; omega
theorem Jg1 {c : Circuit} : Jaf c = 0 ↔ PartsOk c /\ c.pipes.length <= 256 /\ (∀ x ∈ c.pipes, Jc4 c x = 0) /\ Asc c.pipes := by
 have hp : Jav (Jca c) c.pipes.length = 0 ↔ (∀ x ∈ c.pipes, Jc4 c x = 0) /\ Asc c.pipes := by
   rw [Jz7, Jwu]
   constructor
   . intro h
     refine ⟨fun x hx => ?_, fun k x y hx hy => ?_⟩
     . obtain ⟨k, hk, e⟩ := List.getElem_of_mem hx
       have := h k hk
       simp only [Jca, List.getElem?_eq_getElem hk, e] at this
       apply Decidable.byContradiction
       intro hne
       rw [if_pos hne] at this
       exact hne this
     . have hk : k + 1 < c.pipes.length := (gsI.1 hy).1
       have := h (k + 1) hk
       simp only [Jca, hy, Nat.add_sub_cancel, hx] at this
       split at this
       . rename_i h1; exact absurd this h1
       . split at this
         . cases this
         . rename_i h2; exact Jqy.1 h2
   . rintro ⟨h1, h2⟩ k hk
     simp only [Jca, List.getElem?_eq_getElem hk]
     rw [if_neg (by simpa using h1 _ (List.getElem_mem hk))]
     cases k with
     | zero => rfl
     | succ k =>
       have hk2 : k < c.pipes.length := by omega
       simp only [Nat.add_sub_cancel, List.getElem?_eq_getElem hk2]
       rw [if_neg (Jqy.2 (h2 k _ _ (List.getElem?_eq_getElem hk2) (List.getElem?_eq_getElem hk)))]
 unfold Jaf
 constructor
 . intro h
   have a1 : ¬ 64 < c.parts.length := by intro h0; rw [if_pos h0] at h; simp at h
   rw [if_neg a1] at h
   have a2 : Jav (partAt c) c.parts.length = 0 := by grind
   rw [if_neg (by simpa using a2)] at h
   have a3 : Jav (Jd0 c) c.parts.length = 0 := by grind
   rw [if_neg (by simpa using a3)] at h
   have a4 : ¬ 256 < c.pipes.length := by intro h0; rw [if_pos h0] at h; simp at h
   rw [if_neg a4] at h
   exact ⟨⟨by omega, a2, a3⟩, by omega, hp.1 h⟩
 . rintro ⟨⟨a1, a2, a3⟩, a4, h⟩
   rw [if_neg (by omega), if_neg (by simpa using a2), if_neg (by simpa using a3), if_neg (by omega)]
   exact hp.2 h
theorem J4b {c : Circuit} {x : Pipe} : Jc4 c x = 0 ↔ Jcx c x.fr = 0 /\ Jcx c x.to = 0 /\ Jbq x.fr x.to = true := by
 unfold Jc4 Jcx
 rw [Jul, Jsw]
 have h1 := @Jzd x.fr x.to
 have r1 := @Jho c x.fr
 have r2 := @Jho c x.to
 have n1 := @Jk7 c x.fr
 have n2 := @Jk7 c x.to
 generalize Jbx c x.fr = a at *
 generalize Jbx c x.to = b at *
 generalize Jb2 c x.fr = d at *
 generalize Jb2 c x.to = e at *
 generalize Jcm x.fr x.to = k at *
 rw [<- h1]
 grind
theorem Jel {c : Circuit} {p : Port} : Jcx c p = 0 ↔ ∃ q, c.parts[p.part.toNat]? = some q /\ 0 <= p.part /\ p.name ∈ Jch q := by
 by_cases hr : p.part < 0 \/ (c.parts.length : Int) <= p.part
 . have h1 : Jbx c p = 2 := if_pos hr
   have h2 : Jcx c p = 2 := by rw [Jcx, h1]; rfl
   rw [h2]
   constructor
   . intro h; cases h
   . rintro ⟨q, e, h0, _⟩
     have hl := (gsI.1 e).1
     omega
 . have h1 : Jbx c p = 0 := if_neg hr
   have h2 : Jcx c p = Jb2 c p := by rw [Jcx, h1]; rfl
   rw [h2, Jb2]
   obtain ⟨q, e⟩ := Jag (xs := c.parts) (k := p.part.toNat) (by omega)
   rw [e]
   by_cases hm : p.name ∈ Jch q
   . simp only [hm, if_true]
     exact ⟨fun _ => ⟨q, rfl, by omega, hm⟩, fun _ => trivial⟩
   . simp only [hm, if_false]
     constructor
     . intro h; cases h
     . rintro ⟨q2, e2, _, h3⟩
       cases e2
       exact (hm h3).elim
theorem Jpv {c : Circuit} {p : Port} : ∀ {k : Nat}, p ∈ Jh8 c k ↔ ∃ i q, i < k /\ c.parts[i]? = some q /\ p.part = (i : Int) /\ p.name ∈ Jch q
 | 0 => by simp [Jh8]
 | k + 1 => by
   simp only [Jh8, List.mem_append]
   rw [Jpv (k := k)]
   constructor
   . rintro (⟨i, q, h1, h2⟩ | h)
     . exact ⟨i, q, by omega, h2⟩
     . cases e : c.parts[k]? with
       | none => rw [e] at h; cases h
       | some q =>
         rw [e] at h
         obtain ⟨s, hs, rfl⟩ := List.mem_map.1 h
         exact ⟨k, q, by omega, e, rfl, hs⟩
   . rintro ⟨i, q, h1, h2, h3, h4⟩
     by_cases e : i = k
     . subst e
       right
       rw [h2]
       exact List.mem_map.2 ⟨p.name, h4, by cases p; simp at h3; rw [h3]⟩
     . exact .inl ⟨i, q, by omega, h2, h3, h4⟩
theorem Jmn {c : Circuit} {p : Port} : p ∈ allP c ↔ Jcx c p = 0 := by
 unfold allP
 rw [Jpv, Jel]
 constructor
 . rintro ⟨i, q, h1, h2, h3, h4⟩
   exact ⟨q, by rw [h3, Int.toNat_natCast]; exact h2, by omega, h4⟩
 . rintro ⟨q, h1, h2, h3⟩
   exact ⟨p.part.toNat, q, (gsI.1 h1).1, h1, by omega, h3⟩
end Go.Am
namespace Go.Am
open Go Go.Proofs Go.Pn
end Go.Am
namespace Go.Am
open Go Go.Proofs Go.Pn
end Go.Am
