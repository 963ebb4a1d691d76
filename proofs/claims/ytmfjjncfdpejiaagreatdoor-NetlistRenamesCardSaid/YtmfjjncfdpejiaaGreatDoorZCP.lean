/- Lemmas and contracts for the proof of a statement of this seat. -/
import Derived.Test.YtmfjjncfdpejiaaGreatDoorZC7
set_option linter.unusedVariables false
set_option linter.unusedSimpArgs false
namespace Go.Am
open Go Go.Proofs Go.Pn
end Go.Am
namespace Go.Am
open Go Go.Proofs Go.Pn
theorem Jtc (a : Pipe) : Ja0 a a = false := by simp [Ja0, Jtk]
theorem Jtd {a b c : Pipe} (h : Ja0 a b = true) (k : Ja0 b c = true) : Ja0 a c = true := by
 unfold Ja0 at *
 by_cases e1 : a.fr = b.fr <;> by_cases e2 : b.fr = c.fr
 . rw [if_pos e1] at h; rw [if_pos e2] at k; rw [if_pos (e1.trans e2)]; exact Jtm h k
 . rw [if_neg e2] at k; rw [e1, if_neg e2]; exact k
 . rw [if_neg e1] at h; rw [<- e2, if_neg e1]; exact h
 . rw [if_neg e1] at h; rw [if_neg e2] at k
   have := Jtm h k
   rw [if_neg]
   . exact this
   . intro e; rw [e, Jtk] at this; cases this
theorem J3e {a b : Pipe} (h : Ja0 a b = false) (k : Ja0 b a = false) : a = b := by
 unfold Ja0 at *
 by_cases e1 : a.fr = b.fr
 . rw [if_pos e1] at h; rw [if_pos e1.symm] at k
   have e2 := Jtl h k
   cases a; cases b; simp at e1 e2; rw [e1, e2]
 . rw [if_neg e1] at h; rw [if_neg (fun e => e1 e.symm)] at k
   exact (e1 (Jtl h k)).elim
abbrev Asc (l : List Pipe) : Prop := l.Pairwise fun a b => Ja0 a b = true
theorem Jzj {f : Nat -> Int} {n : Nat} : Jat f n = 0 ↔ ∀ k, k < n -> f k = 0 := by
 refine ⟨fun h k hk => Jey h hk, fun h => ?_⟩
 induction n with
 | zero => rfl
 | succ n ih => exact Jda (ih fun k hk => h k (by omega)) (h n (by omega))
structure PartsOk (c : Circuit) : Prop where
 few : c.parts.length <= 64
 each : Jat (partAt c) c.parts.length = 0
 owned : Jat (Jdx c) c.parts.length = 0
theorem Jv7 {l : List Pipe} : Asc l ↔ ∀ (k : Nat) x y, l[k]? = some x -> l[k + 1]? = some y -> Ja0 x y = true := by
 constructor
 . intro h k x y hx hy
   obtain ⟨h1, rfl⟩ := gsI.1 hx
   obtain ⟨h2, rfl⟩ := gsI.1 hy
   exact List.pairwise_iff_getElem.1 h k (k + 1) h1 h2 (by omega)
 . intro h
   refine List.pairwise_iff_getElem.2 ?_
   intro i j hi hj hij
   obtain ⟨d, rfl⟩ := Nat.exists_eq_add_of_lt hij
   induction d with
   | zero => exact h i _ _ (List.getElem?_eq_getElem hi) (List.getElem?_eq_getElem hj)
   | succ d ih => exact Jtd (ih (by omega) (by omega)) (h (i + d + 1) _ _ (List.getElem?_eq_getElem (by omega)) (List.getElem?_eq_getElem hj))
theorem Jqh {a b : Pipe} : ¬ 0 <= Jed a b ↔ Ja0 a b = true := by rw [<- Jm1]; omega
theorem Jys {a b : Port} : ¬ 0 <= Jcl a b ↔ Jbk a b = true := by rw [<- Jid]; omega
theorem Jco {c : Circuit} : Jad c = 0 ↔ PartsOk c /\ c.pipes.length <= 256 /\ (∀ x ∈ c.pipes, Jc2 c x = 0) /\ Asc c.pipes := by
 have hp : Jat (Jb9 c) c.pipes.length = 0 ↔ (∀ x ∈ c.pipes, Jc2 c x = 0) /\ Asc c.pipes := by
   rw [Jzj, Jv7]
   constructor
   . intro h
     refine ⟨fun x hx => ?_, fun k x y hx hy => ?_⟩
     . obtain ⟨k, hk, e⟩ := List.getElem_of_mem hx
       have := h k hk
       simp only [Jb9, List.getElem?_eq_getElem hk, e] at this
       apply Decidable.byContradiction
       intro hne
       rw [if_pos hne] at this
       exact hne this
     . have hk : k + 1 < c.pipes.length := (gsI.1 hy).1
       have := h (k + 1) hk
       simp only [Jb9, hy, Nat.add_sub_cancel, hx] at this
       split at this
       . rename_i h1; exact absurd this h1
       . split at this
         . cases this
         . rename_i h2; exact Jqh.1 h2
   . rintro ⟨h1, h2⟩ k hk
     simp only [Jb9, List.getElem?_eq_getElem hk]
     rw [if_neg (by simpa using h1 _ (List.getElem_mem hk))]
     cases k with
     | zero => rfl
     | succ k =>
       have hk2 : k < c.pipes.length := by omega
       simp only [Nat.add_sub_cancel, List.getElem?_eq_getElem hk2]
       rw [if_neg (Jqh.2 (h2 k _ _ (List.getElem?_eq_getElem hk2) (List.getElem?_eq_getElem hk)))]
 unfold Jad
 constructor
 . intro h
   have a1 : ¬ 64 < c.parts.length := by intro h0; rw [if_pos h0] at h; simp at h
   rw [if_neg a1] at h
   have a2 : Jat (partAt c) c.parts.length = 0 := by grind
   rw [if_neg (by simpa using a2)] at h
   have a3 : Jat (Jdx c) c.parts.length = 0 := by grind
   rw [if_neg (by simpa using a3)] at h
   have a4 : ¬ 256 < c.pipes.length := by intro h0; rw [if_pos h0] at h; simp at h
   rw [if_neg a4] at h
   exact ⟨⟨by omega, a2, a3⟩, by omega, hp.1 h⟩
 . rintro ⟨⟨a1, a2, a3⟩, a4, h⟩
   rw [if_neg (by omega), if_neg (by simpa using a2), if_neg (by simpa using a3), if_neg (by omega)]
   exact hp.2 h
theorem J3c {c : Circuit} {x : Pipe} : Jc2 c x = 0 ↔ Jcv c x.fr = 0 /\ Jcv c x.to = 0 /\ Jbk x.fr x.to = true := by
 unfold Jc2 Jcv
 rw [Jtz, Jsb]
 have h1 := @Jys x.fr x.to
 have r1 := @Jhi c x.fr
 have r2 := @Jhi c x.to
 have n1 := @Jk1 c x.fr
 have n2 := @Jk1 c x.to
 generalize Jbq c x.fr = a at *
 generalize Jbq c x.to = b at *
 generalize Jbx c x.fr = d at *
 generalize Jbx c x.to = e at *
 generalize Jcl x.fr x.to = k at *
 rw [<- h1]
 grind
theorem Jeg {c : Circuit} {p : Port} : Jcv c p = 0 ↔ ∃ q, c.parts[p.part.toNat]? = some q /\ 0 <= p.part /\ p.name ∈ Jcg q := by
 by_cases hr : p.part < 0 \/ (c.parts.length : Int) <= p.part
 . have h1 : Jbq c p = 2 := if_pos hr
   have h2 : Jcv c p = 2 := by rw [Jcv, h1]; rfl
   rw [h2]
   constructor
   . intro h; cases h
   . rintro ⟨q, e, h0, _⟩
     have hl := (gsI.1 e).1
     omega
 . have h1 : Jbq c p = 0 := if_neg hr
   have h2 : Jcv c p = Jbx c p := by rw [Jcv, h1]; rfl
   rw [h2, Jbx]
   obtain ⟨q, e⟩ := Jag (xs := c.parts) (k := p.part.toNat) (by omega)
   rw [e]
   by_cases hm : p.name ∈ Jcg q
   . simp only [hm, if_true]
     exact ⟨fun _ => ⟨q, rfl, by omega, hm⟩, fun _ => trivial⟩
   . simp only [hm, if_false]
     constructor
     . intro h; cases h
     . rintro ⟨q2, e2, _, h3⟩
       cases e2
       exact (hm h3).elim
theorem Jpi {c : Circuit} {p : Port} : ∀ {k : Nat}, p ∈ Jh3 c k ↔ ∃ i q, i < k /\ c.parts[i]? = some q /\ p.part = (i : Int) /\ p.name ∈ Jcg q
 | 0 => by simp [Jh3]
 | k + 1 => by
   simp only [Jh3, List.mem_append]
   rw [Jpi (k := k)]
   constructor
   . rintro (⟨i, q, h1, h2⟩ | h)
     . exact ⟨i, q, by omega, h2⟩
     . cases e : c.parts[k]? with
       | none => rw [e] at h; cases h
       | some q =>
         rw [e] at h
         obtain ⟨s, hs, rfl⟩ := List.mem_map.1 h
         exact ⟨k, q, by omega, e, rfl, hs⟩
   . rintro ⟨i, q, h1, h2, h3, h4⟩
     by_cases e : i = k
     . subst e
       right
       rw [h2]
       exact List.mem_map.2 ⟨p.name, h4, by cases p; simp at h3; rw [h3]⟩
     . exact .inl ⟨i, q, by omega, h2, h3, h4⟩
theorem Jmj {c : Circuit} {p : Port} : p ∈ allP c ↔ Jcv c p = 0 := by
 unfold allP
 rw [Jpi, Jeg]
 constructor
 . rintro ⟨i, q, h1, h2, h3, h4⟩
   exact ⟨q, by rw [h3, Int.toNat_natCast]; exact h2, by omega, h4⟩
 . rintro ⟨q, h1, h2, h3⟩
   exact ⟨p.part.toNat, q, (gsI.1 h1).1, h1, by omega, h3⟩
end Go.Am
namespace Go.Am
open Go Go.Proofs Go.Pn
end Go.Am
namespace Go.Am
open Go Go.Proofs Go.Pn
end Go.Am
