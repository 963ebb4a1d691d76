/- Lemmas and contracts for the proof of a statement of this seat. -/
import Derived.Test.YthkjeoagelhocaaGreatDoorZC7
set_option linter.unusedVariables false
set_option linter.unusedSimpArgs false
namespace Go.Am
open Go Go.Proofs Go.Pn
abbrev rt (c : Circuit) : Port -> Port := rootOf (Jbo c.pipes)
theorem Kgh {c : Circuit} {p q : Port} : rt c p = rt c q ↔ Conn c.pipes p q := (Jsz c.pipes).2 p q
theorem Jnw {c : Circuit} (h : Jac c = 0) : nets c = (Jbe (rt c) (allP c)).map fun r => (allP c).filter fun p => decide (rt c p = r) := (Jza (Jph (Ja8 h).1)).symm
theorem Kcs {c : Circuit} (h : Jac c = 0) {p : Port} (hp : p ∈ allP c) : ∃ g ∈ nets c, p ∈ g := by
 refine ⟨(allP c).filter fun q => decide (rt c q = rt c p), ?_, by simp [hp]⟩
 rw [Jnw h]
 exact List.mem_map.2 ⟨rt c p, Jle.2 ⟨p, hp, rfl⟩, rfl⟩
theorem Jrg {c : Circuit} (h : Jac c = 0) {p : Port} (hp : p ∈ allP c) : ∃ (i : Nat) (g : List Port), netP c p = i /\ (nets c)[i]? = some g /\ p ∈ g := by
 unfold netP
 rcases Ji0 (nets c) (fun l => decide (p ∈ l)) with ⟨h1, _⟩ | ⟨i, g, _, h2, h3, h4⟩
 . obtain ⟨g, hg, hpg⟩ := Kcs h hp
   have := List.findIdx?_eq_none_iff.1 h1 g hg
   simp [hpg] at this
 . exact ⟨i, g, h2, h3, by simpa using h4⟩
end Go.Am
namespace Go.Am
open Go Go.Proofs Go.Pn
theorem Ke5 {a b c : Pipe} (h : Je4 a b = true) (k : Je4 b c = true) : Je4 a c = true := by
 unfold Je4 at *
 by_cases e1 : a.fr = b.fr <;> by_cases e2 : b.fr = c.fr
 . rw [if_pos e1] at h; rw [if_pos e2] at k; rw [if_pos (e1.trans e2)]; exact Jru h k
 . rw [if_neg e2] at k; rw [e1, if_neg e2]; exact k
 . rw [if_neg e1] at h; rw [<- e2, if_neg e1]; exact h
 . rw [if_neg e1] at h; rw [if_neg e2] at k
   have := Jru h k
   rw [if_neg]
   . exact this
   . intro e; rw [e, Jk5] at this; cases this
abbrev Asc (l : List Pipe) : Prop := l.Pairwise fun a b => Je4 a b = true
theorem Jmz {f : Nat -> Int} {n : Nat} : Jaq f n = 0 ↔ ∀ k, k < n -> f k = 0 := by
 refine ⟨fun h k hk => Jfu h hk, fun h => ?_⟩
 induction n with
 | zero => rfl
 | succ n ih => exact Jdd (ih fun k hk => h k (by omega)) (h n (by omega))
structure PartsOk (c : Circuit) : Prop where
 few : c.parts.length <= 64
 each : Jaq (partAt c) c.parts.length = 0
 owned : Jaq (Jet c) c.parts.length = 0
theorem J3t {l : List Pipe} : Asc l ↔ ∀ (k : Nat) x y, l[k]? = some x -> l[k + 1]? = some y -> Je4 x y = true := by
 constructor
 . intro h k x y hx hy
   obtain ⟨h1, rfl⟩ := gsI.1 hx
   obtain ⟨h2, rfl⟩ := gsI.1 hy
   exact List.pairwise_iff_getElem.1 h k (k + 1) h1 h2 (by omega)
 . intro h
   refine List.pairwise_iff_getElem.2 ?_
   intro i j hi hj hij
   obtain ⟨d, rfl⟩ := Nat.exists_eq_add_of_lt hij
   induction d with
   | zero => exact h i _ _ (List.getElem?_eq_getElem hi) (List.getElem?_eq_getElem hj)
   | succ d ih => exact Ke5 (ih (by omega) (by omega)) (h (i + d + 1) _ _ (List.getElem?_eq_getElem (by omega)) (List.getElem?_eq_getElem hj))
theorem Jv0 {a b : Pipe} : ¬ 0 <= Jfr a b ↔ Je4 a b = true := by rw [<- Jp3]; omega
theorem Jvs {c : Circuit} : Jac c = 0 ↔ PartsOk c /\ c.pipes.length <= 256 /\ (∀ x ∈ c.pipes, Jd6 c x = 0) /\ Asc c.pipes := by
 have hp : Jaq (Jb7 c) c.pipes.length = 0 ↔ (∀ x ∈ c.pipes, Jd6 c x = 0) /\ Asc c.pipes := by
   rw [Jmz, J3t]
   constructor
   . intro h
     refine ⟨fun x hx => ?_, fun k x y hx hy => ?_⟩
     . obtain ⟨k, hk, e⟩ := List.getElem_of_mem hx
       have := h k hk
       simp only [Jb7, List.getElem?_eq_getElem hk, e] at this
       apply Decidable.byContradiction
       intro hne
       rw [if_pos hne] at this
       exact hne this
     . have hk : k + 1 < c.pipes.length := (gsI.1 hy).1
       have := h (k + 1) hk
       simp only [Jb7, hy, Nat.add_sub_cancel, hx] at this
       split at this
       . rename_i h1; exact absurd this h1
       . split at this
         . cases this
         . rename_i h2; exact Jv0.1 h2
   . rintro ⟨h1, h2⟩ k hk
     simp only [Jb7, List.getElem?_eq_getElem hk]
     rw [if_neg (by simpa using h1 _ (List.getElem_mem hk))]
     cases k with
     | zero => rfl
     | succ k =>
       have hk2 : k < c.pipes.length := by omega
       simp only [Nat.add_sub_cancel, List.getElem?_eq_getElem hk2]
       rw [if_neg (Jv0.2 (h2 k _ _ (List.getElem?_eq_getElem hk2) (List.getElem?_eq_getElem hk)))]
 unfold Jac
 constructor
 . intro h
   have a1 : ¬ 64 < c.parts.length := by intro h0; rw [if_pos h0] at h; simp at h
   rw [if_neg a1] at h
   have a2 : Jaq (partAt c) c.parts.length = 0 := by grind
   rw [if_neg (by simpa using a2)] at h
   have a3 : Jaq (Jet c) c.parts.length = 0 := by grind
   rw [if_neg (by simpa using a3)] at h
   have a4 : ¬ 256 < c.pipes.length := by intro h0; rw [if_pos h0] at h; simp at h
   rw [if_neg a4] at h
   exact ⟨⟨by omega, a2, a3⟩, by omega, hp.1 h⟩
 . rintro ⟨⟨a1, a2, a3⟩, a4, h⟩
   rw [if_neg (by omega), if_neg (by simpa using a2), if_neg (by simpa using a3), if_neg (by omega)]
   exact hp.2 h
theorem Jiy {c : Circuit} {p : Port} : Jdl c p = 0 ↔ ∃ q, c.parts[p.part.toNat]? = some q /\ 0 <= p.part /\ p.name ∈ Jbq q := by
 by_cases hr : p.part < 0 \/ (c.parts.length : Int) <= p.part
 . have h1 : Jbi c p = 2 := if_pos hr
   have h2 : Jdl c p = 2 := by rw [Jdl, h1]; rfl
   rw [h2]
   constructor
   . intro h; cases h
   . rintro ⟨q, e, h0, _⟩
     have hl := (gsI.1 e).1
     omega
 . have h1 : Jbi c p = 0 := if_neg hr
   have h2 : Jdl c p = Jbw c p := by rw [Jdl, h1]; rfl
   rw [h2, Jbw]
   obtain ⟨q, e⟩ := Jae (xs := c.parts) (k := p.part.toNat) (by omega)
   rw [e]
   by_cases hm : p.name ∈ Jbq q
   . simp only [hm, if_true]
     exact ⟨fun _ => ⟨q, rfl, by omega, hm⟩, fun _ => trivial⟩
   . simp only [hm, if_false]
     constructor
     . intro h; cases h
     . rintro ⟨q2, e2, _, h3⟩
       cases e2
       exact (hm h3).elim
theorem Jto {c : Circuit} {p : Port} : ∀ {k : Nat}, p ∈ Jbz c k ↔ ∃ i q, i < k /\ c.parts[i]? = some q /\ p.part = (i : Int) /\ p.name ∈ Jbq q
 | 0 => by simp [Jbz]
 | k + 1 => by
   simp only [Jbz, List.mem_append]
   rw [Jto (k := k)]
   constructor
   . rintro (⟨i, q, h1, h2⟩ | h)
     . exact ⟨i, q, by omega, h2⟩
     . cases e : c.parts[k]? with
       | none => rw [e] at h; cases h
       | some q =>
         rw [e] at h
         obtain ⟨s, hs, rfl⟩ := List.mem_map.1 h
         exact ⟨k, q, by omega, e, rfl, hs⟩
   . rintro ⟨i, q, h1, h2, h3, h4⟩
     by_cases e : i = k
     . subst e
       right
       rw [h2]
       exact List.mem_map.2 ⟨p.name, h4, by cases p; simp at h3; rw [h3]⟩
     . exact .inl ⟨i, q, by omega, h2, h3, h4⟩
theorem Jgb {c : Circuit} {p : Port} : p ∈ allP c ↔ Jdl c p = 0 := by
 unfold allP
 rw [Jto, Jiy]
 constructor
 . rintro ⟨i, q, h1, h2, h3, h4⟩
   exact ⟨q, by rw [h3, Int.toNat_natCast]; exact h2, by omega, h4⟩
 . rintro ⟨q, h1, h2, h3⟩
   exact ⟨p.part.toNat, q, (gsI.1 h1).1, h1, by omega, h3⟩
end Go.Am
namespace Go.Am
open Go Go.Proofs Go.Pn
theorem Jgk {c : Circuit} (h : Jac c = 0) {i : Nat} {x : Part} (e : c.parts[i]? = some x) : Jck c x.name = i := by
 rcases Jjd c x.name with h1 | ⟨j, y, h1, h2, h3⟩
 . exfalso
   unfold Jck idxI at h1
   cases hf : c.parts.findIdx? fun q => decide (q.name = x.name) with
   | none => have := List.findIdx?_eq_none_iff.1 hf x (List.mem_of_getElem? e); simp at this
   | some k => rw [hf] at h1; simp at h1
 . rw [h1, Ke2 h h2 e h3]
theorem Ke0 {c : Circuit} {s : Txt} (h : Jck c s = -1) : ∀ x ∈ c.parts, x.name ≠ s := by
 intro x hx
 unfold Jck idxI at h
 cases hf : c.parts.findIdx? fun q => decide (q.name = s) with
 | none => have := List.findIdx?_eq_none_iff.1 hf x hx; simpa using this
 | some k => rw [hf] at h; simp at h
end Go.Am
namespace Go.Am
open Go Go.Proofs Go.Pn
end Go.Am
