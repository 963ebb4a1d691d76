/- Lemmas and contracts for the proof of a statement of this seat. -/
import Derived.Test.YtmfjjncfdpejiaaGreatDoorZC7
set_option linter.unusedVariables false
set_option linter.unusedSimpArgs false
namespace Go.Am
open Go Go.Proofs Go.Pn
end Go.Am
namespace Go.Am
open Go Go.Proofs Go.Pn
theorem Jlh (a : Pipe) : Jbu a a = false := by simp [Jbu, Jua]
theorem Jod {a b c : Pipe} (h : Jbu a b = true) (k : Jbu b c = true) : Jbu a c = true := by
 unfold Jbu at *
 by_cases e1 : a.fr = b.fr <;> by_cases e2 : b.fr = c.fr
 . rw [if_pos e1] at h; rw [if_pos e2] at k; rw [if_pos (e1.trans e2)]; exact Juc h k
 . rw [if_neg e2] at k; rw [e1, if_neg e2]; exact k
 . rw [if_neg e1] at h; rw [<- e2, if_neg e1]; exact h
 . rw [if_neg e1] at h; rw [if_neg e2] at k
   have := Juc h k
   rw [if_neg]
   . exact this
   . intro e; rw [e, Jua] at this; cases this
theorem J45 {a b : Pipe} (h : Jbu a b = true) : Jbu b a = false := by
 cases k : Jbu b a with
 | false => rfl
 | true => have := Jod h k; rw [Jlh] at this; cases this
theorem J46 {a b : Pipe} (h : Jbu a b = false) (k : Jbu b a = false) : a = b := by
 unfold Jbu at *
 by_cases e1 : a.fr = b.fr
 . rw [if_pos e1] at h; rw [if_pos e1.symm] at k
   have e2 := Jub h k
   cases a; cases b; simp at e1 e2; rw [e1, e2]
 . rw [if_neg e1] at h; rw [if_neg (fun e => e1 e.symm)] at k
   exact (e1 (Jub h k)).elim
abbrev Asc (l : List Pipe) : Prop := l.Pairwise fun a b => Jbu a b = true
theorem J01 {f : Nat -> Int} {n : Nat} : Jat f n = 0 ↔ ∀ k, k < n -> f k = 0 := by
 refine ⟨fun h k hk => Jfa h hk, fun h => ?_⟩
 induction n with
 | zero => rfl
 | succ n ih => exact Jdh (ih fun k hk => h k (by omega)) (h n (by omega))
structure PartsOk (c : Circuit) : Prop where
 few : c.parts.length <= 64
 each : Jat (partAt c) c.parts.length = 0
 owned : Jat (Jd9 c) c.parts.length = 0
theorem Jxi {l : List Pipe} : Asc l ↔ ∀ (k : Nat) x y, l[k]? = some x -> l[k + 1]? = some y -> Jbu x y = true := by
 constructor
 . intro h k x y hx hy
   obtain ⟨h1, rfl⟩ := gsI.1 hx
   obtain ⟨h2, rfl⟩ := gsI.1 hy
   exact List.pairwise_iff_getElem.1 h k (k + 1) h1 h2 (by omega)
 . intro h
   refine List.pairwise_iff_getElem.2 ?_
   intro i j hi hj hij
   obtain ⟨d, rfl⟩ := Nat.exists_eq_add_of_lt hij
   induction d with
   | zero => exact h i _ _ (List.getElem?_eq_getElem hi) (List.getElem?_eq_getElem hj)
   | succ d ih => exact Jod (ih (by omega) (by omega)) (h (i + d + 1) _ _ (List.getElem?_eq_getElem (by omega)) (List.getElem?_eq_getElem hj))
theorem Jqz {a b : Pipe} : ¬ 0 <= Jev a b ↔ Jbu a b = true := by rw [<- Jm3]; omega
theorem Jz4 {a b : Port} : ¬ 0 <= Jco a b ↔ Jbj a b = true := by rw [<- Jij]; omega
theorem Jeh {c : Circuit} : Jad c = 0 ↔ PartsOk c /\ c.pipes.length <= 256 /\ (∀ x ∈ c.pipes, Jc9 c x = 0) /\ Asc c.pipes := by
 have hp : Jat (Jcb c) c.pipes.length = 0 ↔ (∀ x ∈ c.pipes, Jc9 c x = 0) /\ Asc c.pipes := by
   rw [J01, Jxi]
   constructor
   . intro h
     refine ⟨fun x hx => ?_, fun k x y hx hy => ?_⟩
     . obtain ⟨k, hk, e⟩ := List.getElem_of_mem hx
       have := h k hk
       simp only [Jcb, List.getElem?_eq_getElem hk, e] at this
       apply Decidable.byContradiction
       intro hne
       rw [if_pos hne] at this
       exact hne this
     . have hk : k + 1 < c.pipes.length := (gsI.1 hy).1
       have := h (k + 1) hk
       simp only [Jcb, hy, Nat.add_sub_cancel, hx] at this
       split at this
       . rename_i h1; exact absurd this h1
       . split at this
         . cases this
         . rename_i h2; exact Jqz.1 h2
   . rintro ⟨h1, h2⟩ k hk
     simp only [Jcb, List.getElem?_eq_getElem hk]
     rw [if_neg (by simpa using h1 _ (List.getElem_mem hk))]
     cases k with
     | zero => rfl
     | succ k =>
       have hk2 : k < c.pipes.length := by omega
       simp only [Nat.add_sub_cancel, List.getElem?_eq_getElem hk2]
       rw [if_neg (Jqz.2 (h2 k _ _ (List.getElem?_eq_getElem hk2) (List.getElem?_eq_getElem hk)))]
 unfold Jad
 constructor
 . intro h
   have a1 : ¬ 64 < c.parts.length := by intro h0; rw [if_pos h0] at h; simp at h
   rw [if_neg a1] at h
   have a2 : Jat (partAt c) c.parts.length = 0 := by grind
   rw [if_neg (by simpa using a2)] at h
   have a3 : Jat (Jd9 c) c.parts.length = 0 := by grind
   rw [if_neg (by simpa using a3)] at h
   have a4 : ¬ 256 < c.pipes.length := by intro h0; rw [if_pos h0] at h; simp at h
   rw [if_neg a4] at h
   exact ⟨⟨by omega, a2, a3⟩, by omega, hp.1 h⟩
 . rintro ⟨⟨a1, a2, a3⟩, a4, h⟩
   rw [if_neg (by omega), if_neg (by simpa using a2), if_neg (by simpa using a3), if_neg (by omega)]
   exact hp.2 h
theorem J43 {c : Circuit} {x : Pipe} : Jc9 c x = 0 ↔ Jbq c x.fr = 0 /\ Jbq c x.to = 0 /\ Jbj x.fr x.to = true := by
 unfold Jc9 Jbq
 rw [Jus, Js3]
 have h1 := @Jz4 x.fr x.to
 have r1 := @Jhp c x.fr
 have r2 := @Jhp c x.to
 have n1 := @Jk6 c x.fr
 have n2 := @Jk6 c x.to
 generalize Jbk c x.fr = a at *
 generalize Jbk c x.to = b at *
 generalize Jbx c x.fr = d at *
 generalize Jbx c x.to = e at *
 generalize Jco x.fr x.to = k at *
 rw [<- h1]
 grind
theorem Jdq {c : Circuit} {p : Port} : Jbq c p = 0 ↔ ∃ q, c.parts[p.part.toNat]? = some q /\ 0 <= p.part /\ p.name ∈ Jbg q := by
 by_cases hr : p.part < 0 \/ (c.parts.length : Int) <= p.part
 . have h1 : Jbk c p = 2 := if_pos hr
   have h2 : Jbq c p = 2 := by rw [Jbq, h1]; rfl
   rw [h2]
   constructor
   . intro h; cases h
   . rintro ⟨q, e, h0, _⟩
     have hl := (gsI.1 e).1
     omega
 . have h1 : Jbk c p = 0 := if_neg hr
   have h2 : Jbq c p = Jbx c p := by rw [Jbq, h1]; rfl
   rw [h2, Jbx]
   obtain ⟨q, e⟩ := Jah (xs := c.parts) (k := p.part.toNat) (by omega)
   rw [e]
   by_cases hm : p.name ∈ Jbg q
   . simp only [hm, if_true]
     exact ⟨fun _ => ⟨q, rfl, by omega, hm⟩, fun _ => trivial⟩
   . simp only [hm, if_false]
     constructor
     . intro h; cases h
     . rintro ⟨q2, e2, _, h3⟩
       cases e2
       exact (hm h3).elim
theorem Jpz {c : Circuit} {p : Port} : ∀ {k : Nat}, p ∈ Jc3 c k ↔ ∃ i q, i < k /\ c.parts[i]? = some q /\ p.part = (i : Int) /\ p.name ∈ Jbg q
 | 0 => by simp [Jc3]
 | k + 1 => by
   simp only [Jc3, List.mem_append]
   rw [Jpz (k := k)]
   constructor
   . rintro (⟨i, q, h1, h2⟩ | h)
     . exact ⟨i, q, by omega, h2⟩
     . cases e : c.parts[k]? with
       | none => rw [e] at h; cases h
       | some q =>
         rw [e] at h
         obtain ⟨s, hs, rfl⟩ := List.mem_map.1 h
         exact ⟨k, q, by omega, e, rfl, hs⟩
   . rintro ⟨i, q, h1, h2, h3, h4⟩
     by_cases e : i = k
     . subst e
       right
       rw [h2]
       exact List.mem_map.2 ⟨p.name, h4, by cases p; simp at h3; rw [h3]⟩
     . exact .inl ⟨i, q, by omega, h2, h3, h4⟩
theorem Jjw {c : Circuit} {p : Port} : p ∈ allP c ↔ Jbq c p = 0 := by
 unfold allP
 rw [Jpz, Jdq]
 constructor
 . rintro ⟨i, q, h1, h2, h3, h4⟩
   exact ⟨q, by rw [h3, Int.toNat_natCast]; exact h2, by omega, h4⟩
 . rintro ⟨q, h1, h2, h3⟩
   exact ⟨p.part.toNat, q, (gsI.1 h1).1, h1, by omega, h3⟩
end Go.Am
namespace Go.Am
open Go Go.Proofs Go.Pn
theorem J9g {c : Circuit} (h : Jad c = 0) {i : Nat} {x : Part} (e : c.parts[i]? = some x) : Jc8 c x.name = i := by
 rcases Jn9 c x.name with h1 | ⟨j, y, h1, h2, h3⟩
 . exfalso
   unfold Jc8 idxI at h1
   cases hf : c.parts.findIdx? fun q => decide (q.name = x.name) with
   | none => have := List.findIdx?_eq_none_iff.1 hf x (List.mem_of_getElem? e); simp at this
   | some k => rw [hf] at h1; simp at h1
 . rw [h1, J40 h h2 e h3]
end Go.Am
namespace Go.Am
open Go Go.Proofs Go.Pn
end Go.Am
