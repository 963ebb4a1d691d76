/- Lemmas and contracts for the proof of a statement of this seat. -/
import Derived.Test.YtmfjjncfdpejiaaGreatDoorZC7
set_option linter.unusedVariables false
set_option linter.unusedSimpArgs false
namespace Go.Am
open Go Go.Proofs Go.Pn
abbrev rt (c : Circuit) : Port -> Port := rootOf (Jbu c.pipes)
theorem Kcb {c : Circuit} {p q : Port} : rt c p = rt c q ↔ Conn c.pipes p q := (Jst c.pipes).2 p q
theorem Jnj {c : Circuit} (h : Jad c = 0) : nets c = (Jbf (rt c) (allP c)).map fun r => (allP c).filter fun p => decide (rt c p = r) := (Jxm (Jj9 (Jcx h).1)).symm
theorem J80 {c : Circuit} (h : Jad c = 0) {p : Port} (hp : p ∈ allP c) : ∃ g ∈ nets c, p ∈ g := by
 refine ⟨(allP c).filter fun q => decide (rt c q = rt c p), ?_, by simp [hp]⟩
 rw [Jnj h]
 exact List.mem_map.2 ⟨rt c p, Jk4.2 ⟨p, hp, rfl⟩, rfl⟩
theorem Jq6 {c : Circuit} (h : Jad c = 0) {p : Port} (hp : p ∈ allP c) : ∃ (i : Nat) (g : List Port), netP c p = i /\ (nets c)[i]? = some g /\ p ∈ g := by
 unfold netP
 rcases Jhn (nets c) (fun l => decide (p ∈ l)) with ⟨h1, _⟩ | ⟨i, g, _, h2, h3, h4⟩
 . obtain ⟨g, hg, hpg⟩ := J80 h hp
   have := List.findIdx?_eq_none_iff.1 h1 g hg
   simp [hpg] at this
 . exact ⟨i, g, h2, h3, by simpa using h4⟩
end Go.Am
namespace Go.Am
open Go Go.Proofs Go.Pn
theorem Ka4 (a : Pipe) : Jca a a = false := by simp [Jca, Jhv]
theorem Jyp {a b c : Pipe} (h : Jca a b = true) (k : Jca b c = true) : Jca a c = true := by
 unfold Jca at *
 by_cases e1 : a.fr = b.fr <;> by_cases e2 : b.fr = c.fr
 . rw [if_pos e1] at h; rw [if_pos e2] at k; rw [if_pos (e1.trans e2)]; exact Jrk h k
 . rw [if_neg e2] at k; rw [e1, if_neg e2]; exact k
 . rw [if_neg e1] at h; rw [<- e2, if_neg e1]; exact h
 . rw [if_neg e1] at h; rw [if_neg e2] at k
   have := Jrk h k
   rw [if_neg]
   . exact this
   . intro e; rw [e, Jhv] at this; cases this
theorem Ka5 {a b : Pipe} (h : Jca a b = false) (k : Jca b a = false) : a = b := by
 unfold Jca at *
 by_cases e1 : a.fr = b.fr
 . rw [if_pos e1] at h; rw [if_pos e1.symm] at k
   have e2 := Jnw h k
   cases a; cases b; simp at e1 e2; rw [e1, e2]
 . rw [if_neg e1] at h; rw [if_neg (fun e => e1 e.symm)] at k
   exact (e1 (Jnw h k)).elim
abbrev Asc (l : List Pipe) : Prop := l.Pairwise fun a b => Jca a b = true
theorem Jqk {f : Nat -> Int} {n : Nat} : Jar f n = 0 ↔ ∀ k, k < n -> f k = 0 := by
 refine ⟨fun h k hk => Jer h hk, fun h => ?_⟩
 induction n with
 | zero => rfl
 | succ n ih => exact Jdo (ih fun k hk => h k (by omega)) (h n (by omega))
structure PartsOk (c : Circuit) : Prop where
 few : c.parts.length <= 64
 each : Jar (partAt c) c.parts.length = 0
 owned : Jar (Jeb c) c.parts.length = 0
theorem J16 {l : List Pipe} : Asc l ↔ ∀ (k : Nat) x y, l[k]? = some x -> l[k + 1]? = some y -> Jca x y = true := by
 constructor
 . intro h k x y hx hy
   obtain ⟨h1, rfl⟩ := gsI.1 hx
   obtain ⟨h2, rfl⟩ := gsI.1 hy
   exact List.pairwise_iff_getElem.1 h k (k + 1) h1 h2 (by omega)
 . intro h
   refine List.pairwise_iff_getElem.2 ?_
   intro i j hi hj hij
   obtain ⟨d, rfl⟩ := Nat.exists_eq_add_of_lt hij
   induction d with
   | zero => exact h i _ _ (List.getElem?_eq_getElem hi) (List.getElem?_eq_getElem hj)
   | succ d ih => exact Jyp (ih (by omega) (by omega)) (h (i + d + 1) _ _ (List.getElem?_eq_getElem (by omega)) (List.getElem?_eq_getElem hj))
theorem Ju0 {a b : Pipe} : ¬ 0 <= Jfj a b ↔ Jca a b = true := by rw [<- Jpv]; omega
theorem J5c {a b : Port} : ¬ 0 <= Jce a b ↔ Jat a b = true := by rw [<- Jhh]; omega
theorem Jkd {c : Circuit} : Jad c = 0 ↔ PartsOk c /\ c.pipes.length <= 256 /\ (∀ x ∈ c.pipes, Jc3 c x = 0) /\ Asc c.pipes := by
 have hp : Jar (Jb9 c) c.pipes.length = 0 ↔ (∀ x ∈ c.pipes, Jc3 c x = 0) /\ Asc c.pipes := by
   rw [Jqk, J16]
   constructor
   . intro h
     refine ⟨fun x hx => ?_, fun k x y hx hy => ?_⟩
     . obtain ⟨k, hk, e⟩ := List.getElem_of_mem hx
       have := h k hk
       simp only [Jb9, List.getElem?_eq_getElem hk, e] at this
       apply Decidable.byContradiction
       intro hne
       rw [if_pos hne] at this
       exact hne this
     . have hk : k + 1 < c.pipes.length := (gsI.1 hy).1
       have := h (k + 1) hk
       simp only [Jb9, hy, Nat.add_sub_cancel, hx] at this
       split at this
       . rename_i h1; exact absurd this h1
       . split at this
         . cases this
         . rename_i h2; exact Ju0.1 h2
   . rintro ⟨h1, h2⟩ k hk
     simp only [Jb9, List.getElem?_eq_getElem hk]
     rw [if_neg (by simpa using h1 _ (List.getElem_mem hk))]
     cases k with
     | zero => rfl
     | succ k =>
       have hk2 : k < c.pipes.length := by omega
       simp only [Nat.add_sub_cancel, List.getElem?_eq_getElem hk2]
       rw [if_neg (Ju0.2 (h2 k _ _ (List.getElem?_eq_getElem hk2) (List.getElem?_eq_getElem hk)))]
 unfold Jad
 constructor
 . intro h
   have a1 : ¬ 64 < c.parts.length := by intro h0; rw [if_pos h0] at h; simp at h
   rw [if_neg a1] at h
   have a2 : Jar (partAt c) c.parts.length = 0 := by grind
   rw [if_neg (by simpa using a2)] at h
   have a3 : Jar (Jeb c) c.parts.length = 0 := by grind
   rw [if_neg (by simpa using a3)] at h
   have a4 : ¬ 256 < c.pipes.length := by intro h0; rw [if_pos h0] at h; simp at h
   rw [if_neg a4] at h
   exact ⟨⟨by omega, a2, a3⟩, by omega, hp.1 h⟩
 . rintro ⟨⟨a1, a2, a3⟩, a4, h⟩
   rw [if_neg (by omega), if_neg (by simpa using a2), if_neg (by simpa using a3), if_neg (by omega)]
   exact hp.2 h
theorem Jrg {c : Circuit} {x : Pipe} : Jc3 c x = 0 ↔ Jd8 c x.fr = 0 /\ Jd8 c x.to = 0 /\ Jat x.fr x.to = true := by
 unfold Jc3 Jd8
 rw [Jy6, Jxg]
 have h1 := @J5c x.fr x.to
 have r1 := @Jjd c x.fr
 have r2 := @Jjd c x.to
 have n1 := @Jng c x.fr
 have n2 := @Jng c x.to
 generalize Jbt c x.fr = a at *
 generalize Jbt c x.to = b at *
 generalize Jb3 c x.fr = d at *
 generalize Jb3 c x.to = e at *
 generalize Jce x.fr x.to = k at *
 rw [<- h1]
 grind
theorem Jf5 {c : Circuit} {p : Port} : Jd8 c p = 0 ↔ ∃ q, c.parts[p.part.toNat]? = some q /\ 0 <= p.part /\ p.name ∈ Jbm q := by
 by_cases hr : p.part < 0 \/ (c.parts.length : Int) <= p.part
 . have h1 : Jbt c p = 2 := if_pos hr
   have h2 : Jd8 c p = 2 := by rw [Jd8, h1]; rfl
   rw [h2]
   constructor
   . intro h; cases h
   . rintro ⟨q, e, h0, _⟩
     have hl := (gsI.1 e).1
     omega
 . have h1 : Jbt c p = 0 := if_neg hr
   have h2 : Jd8 c p = Jb3 c p := by rw [Jd8, h1]; rfl
   rw [h2, Jb3]
   obtain ⟨q, e⟩ := Jah (xs := c.parts) (k := p.part.toNat) (by omega)
   rw [e]
   by_cases hm : p.name ∈ Jbm q
   . simp only [hm, if_true]
     exact ⟨fun _ => ⟨q, rfl, by omega, hm⟩, fun _ => trivial⟩
   . simp only [hm, if_false]
     constructor
     . intro h; cases h
     . rintro ⟨q2, e2, _, h3⟩
       cases e2
       exact (hm h3).elim
theorem Jtd {c : Circuit} {p : Port} : ∀ {k : Nat}, p ∈ Jcc c k ↔ ∃ i q, i < k /\ c.parts[i]? = some q /\ p.part = (i : Int) /\ p.name ∈ Jbm q
 | 0 => by simp [Jcc]
 | k + 1 => by
   simp only [Jcc, List.mem_append]
   rw [Jtd (k := k)]
   constructor
   . rintro (⟨i, q, h1, h2⟩ | h)
     . exact ⟨i, q, by omega, h2⟩
     . cases e : c.parts[k]? with
       | none => rw [e] at h; cases h
       | some q =>
         rw [e] at h
         obtain ⟨s, hs, rfl⟩ := List.mem_map.1 h
         exact ⟨k, q, by omega, e, rfl, hs⟩
   . rintro ⟨i, q, h1, h2, h3, h4⟩
     by_cases e : i = k
     . subst e
       right
       rw [h2]
       exact List.mem_map.2 ⟨p.name, h4, by cases p; simp at h3; rw [h3]⟩
     . exact .inl ⟨i, q, by omega, h2, h3, h4⟩
theorem Jfy {c : Circuit} {p : Port} : p ∈ allP c ↔ Jd8 c p = 0 := by
 unfold allP
 rw [Jtd, Jf5]
 constructor
 . rintro ⟨i, q, h1, h2, h3, h4⟩
   exact ⟨q, by rw [h3, Int.toNat_natCast]; exact h2, by omega, h4⟩
 . rintro ⟨q, h1, h2, h3⟩
   exact ⟨p.part.toNat, q, (gsI.1 h1).1, h1, by omega, h3⟩
end Go.Am
namespace Go.Am
open Go Go.Proofs Go.Pn
theorem Jht {c : Circuit} (h : Jad c = 0) {i : Nat} {x : Part} (e : c.parts[i]? = some x) : Jb8 c x.name = i := by
 rcases Jgb c x.name with h1 | ⟨j, y, h1, h2, h3⟩
 . exfalso
   unfold Jb8 idxI at h1
   cases hf : c.parts.findIdx? fun q => decide (q.name = x.name) with
   | none => have := List.findIdx?_eq_none_iff.1 hf x (List.mem_of_getElem? e); simp at this
   | some k => rw [hf] at h1; simp at h1
 . rw [h1, Jyg h h2 e h3]
end Go.Am
namespace Go.Am
open Go Go.Proofs Go.Pn
end Go.Am
