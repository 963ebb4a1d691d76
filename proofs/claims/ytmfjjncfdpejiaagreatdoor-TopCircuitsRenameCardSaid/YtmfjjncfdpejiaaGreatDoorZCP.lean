/- Lemmas and contracts for the proof of a statement of this seat. -/
import Derived.Test.YtmfjjncfdpejiaaGreatDoorZC7
set_option linter.unusedVariables false
set_option linter.unusedSimpArgs false
namespace Go.Am
open Go Go.Proofs Go.Pn
theorem Jtq {α : Type} (f : α -> Bool) : ∀ (l : List α), l.length = (l.filter f).length + (l.filter fun x => !f x).length
 | [] => rfl
 | x :: l => by
   have := Jtq f l
   cases h : f x <;> simp [h] <;> omega
abbrev rt (c : Circuit) : Port -> Port := rootOf (Jbw c.pipes)
theorem rt_iff {c : Circuit} {p q : Port} : rt c p = rt c q ↔ Conn c.pipes p q := (Jq6 c.pipes).2 p q
theorem Jme {c : Circuit} (h : Jad c = 0) : nets c = (Jat (rt c) (allP c)).map fun r => (allP c).filter fun p => decide (rt c p = r) := (Jvk (Jf4 (Jc7 h).1)).symm
theorem J5c {c : Circuit} (h : Jad c = 0) {p : Port} (hp : p ∈ allP c) : ∃ g ∈ nets c, p ∈ g := by
 refine ⟨(allP c).filter fun q => decide (rt c q = rt c p), ?_, by simp [hp]⟩
 rw [Jme h]
 exact List.mem_map.2 ⟨rt c p, Jfw.2 ⟨p, hp, rfl⟩, rfl⟩
theorem Jpl {c : Circuit} (h : Jad c = 0) {p : Port} (hp : p ∈ allP c) : ∃ (i : Nat) (g : List Port), netP c p = i /\ (nets c)[i]? = some g /\ p ∈ g := by
 unfold netP
 rcases Jg3 (nets c) (fun l => decide (p ∈ l)) with ⟨h1, _⟩ | ⟨i, g, _, h2, h3, h4⟩
 . obtain ⟨g, hg, hpg⟩ := J5c h hp
   have := List.findIdx?_eq_none_iff.1 h1 g hg
   simp [hpg] at this
 . exact ⟨i, g, h2, h3, by simpa using h4⟩
theorem J72 {f g : Port -> Port} {l : List Port} (h : ∀ p ∈ l, ∀ q ∈ l, f p = f q ↔ g p = g q) : (Jat f l).length = (Jat g l).length := by
 have key : ∀ n, n <= l.length -> (Jat f (l.take n)).length = (Jat g (l.take n)).length := by
   intro n
   induction n with
   | zero => intro _; simp [Jat]
   | succ n ih =>
     intro hn
     obtain ⟨x, hx⟩ : ∃ x, l[n]? = some x := ⟨_, List.getElem?_eq_getElem (by omega)⟩
     have e : l.take (n + 1) = l.take n ++ [x] := by rw [List.take_add_one, hx]; rfl
     have ih := ih (by omega)
     have hiff : f x ∈ Jat f (l.take n) ↔ g x ∈ Jat g (l.take n) := by
       rw [Jfw, Jfw]
       constructor
       . rintro ⟨p, hp, e⟩
         exact ⟨p, hp, (h p (List.mem_of_mem_take hp) x (List.mem_of_getElem? hx)).1 e⟩
       . rintro ⟨p, hp, e⟩
         exact ⟨p, hp, (h p (List.mem_of_mem_take hp) x (List.mem_of_getElem? hx)).2 e⟩
     rw [e, Jgn, Jgn]
     by_cases hm : f x ∈ Jat f (l.take n)
     . rw [if_pos hm, if_pos (hiff.1 hm)]; exact ih
     . rw [if_neg hm, if_neg (fun h => hm (hiff.2 h))]; simp [ih]
 have := key l.length (Nat.le_refl _)
 rwa [List.take_length] at this
end Go.Am
namespace Go.Am
open Go Go.Proofs Go.Pn
theorem Jwn (a : Pipe) : Jcf a a = false := by simp [Jcf, Jip]
theorem Jwo {a b c : Pipe} (h : Jcf a b = true) (k : Jcf b c = true) : Jcf a c = true := by
 unfold Jcf at *
 by_cases e1 : a.fr = b.fr <;> by_cases e2 : b.fr = c.fr
 . rw [if_pos e1] at h; rw [if_pos e2] at k; rw [if_pos (e1.trans e2)]; exact Jp1 h k
 . rw [if_neg e2] at k; rw [e1, if_neg e2]; exact k
 . rw [if_neg e1] at h; rw [<- e2, if_neg e1]; exact h
 . rw [if_neg e1] at h; rw [if_neg e2] at k
   have := Jp1 h k
   rw [if_neg]
   . exact this
   . intro e; rw [e, Jip] at this; cases this
theorem J7d {a b : Pipe} (h : Jcf a b = false) (k : Jcf b a = false) : a = b := by
 unfold Jcf at *
 by_cases e1 : a.fr = b.fr
 . rw [if_pos e1] at h; rw [if_pos e1.symm] at k
   have e2 := Jmp h k
   cases a; cases b; simp at e1 e2; rw [e1, e2]
 . rw [if_neg e1] at h; rw [if_neg (fun e => e1 e.symm)] at k
   exact (e1 (Jmp h k)).elim
abbrev Asc (l : List Pipe) : Prop := l.Pairwise fun a b => Jcf a b = true
theorem J3f {f : Nat -> Int} {n : Nat} : Jav f n = 0 ↔ ∀ k, k < n -> f k = 0 := by
 refine ⟨fun h k hk => Jfm h hk, fun h => ?_⟩
 induction n with
 | zero => rfl
 | succ n ih => exact Jdm (ih fun k hk => h k (by omega)) (h n (by omega))
structure PartsOk (c : Circuit) : Prop where
 few : c.parts.length <= 64
 each : Jav (partAt c) c.parts.length = 0
 owned : Jav (Jel c) c.parts.length = 0
theorem Jzo {l : List Pipe} : Asc l ↔ ∀ (k : Nat) x y, l[k]? = some x -> l[k + 1]? = some y -> Jcf x y = true := by
 constructor
 . intro h k x y hx hy
   obtain ⟨h1, rfl⟩ := gsI.1 hx
   obtain ⟨h2, rfl⟩ := gsI.1 hy
   exact List.pairwise_iff_getElem.1 h k (k + 1) h1 h2 (by omega)
 . intro h
   refine List.pairwise_iff_getElem.2 ?_
   intro i j hi hj hij
   obtain ⟨d, rfl⟩ := Nat.exists_eq_add_of_lt hij
   induction d with
   | zero => exact h i _ _ (List.getElem?_eq_getElem hi) (List.getElem?_eq_getElem hj)
   | succ d ih => exact Jwo (ih (by omega) (by omega)) (h (i + d + 1) _ _ (List.getElem?_eq_getElem (by omega)) (List.getElem?_eq_getElem hj))
theorem Jte {a b : Pipe} : ¬ 0 <= Je4 a b ↔ Jcf a b = true := by rw [<- Jon]; omega
theorem J2f {a b : Port} : ¬ 0 <= Jcc a b ↔ Jax a b = true := by rw [<- Jg1]; omega
theorem Jom {c : Circuit} : Jad c = 0 ↔ PartsOk c /\ c.pipes.length <= 256 /\ (∀ x ∈ c.pipes, Jdg c x = 0) /\ Asc c.pipes := by
 have hp : Jav (Jcm c) c.pipes.length = 0 ↔ (∀ x ∈ c.pipes, Jdg c x = 0) /\ Asc c.pipes := by
   rw [J3f, Jzo]
   constructor
   . intro h
     refine ⟨fun x hx => ?_, fun k x y hx hy => ?_⟩
     . obtain ⟨k, hk, e⟩ := List.getElem_of_mem hx
       have := h k hk
       simp only [Jcm, List.getElem?_eq_getElem hk, e] at this
       apply Decidable.byContradiction
       intro hne
       rw [if_pos hne] at this
       exact hne this
     . have hk : k + 1 < c.pipes.length := (gsI.1 hy).1
       have := h (k + 1) hk
       simp only [Jcm, hy, Nat.add_sub_cancel, hx] at this
       split at this
       . rename_i h1; exact absurd this h1
       . split at this
         . cases this
         . rename_i h2; exact Jte.1 h2
   . rintro ⟨h1, h2⟩ k hk
     simp only [Jcm, List.getElem?_eq_getElem hk]
     rw [if_neg (by simpa using h1 _ (List.getElem_mem hk))]
     cases k with
     | zero => rfl
     | succ k =>
       have hk2 : k < c.pipes.length := by omega
       simp only [Nat.add_sub_cancel, List.getElem?_eq_getElem hk2]
       rw [if_neg (Jte.2 (h2 k _ _ (List.getElem?_eq_getElem hk2) (List.getElem?_eq_getElem hk)))]
 unfold Jad
 constructor
 . intro h
   have a1 : ¬ 64 < c.parts.length := by intro h0; rw [if_pos h0] at h; simp at h
   rw [if_neg a1] at h
   have a2 : Jav (partAt c) c.parts.length = 0 := by grind
   rw [if_neg (by simpa using a2)] at h
   have a3 : Jav (Jel c) c.parts.length = 0 := by grind
   rw [if_neg (by simpa using a3)] at h
   have a4 : ¬ 256 < c.pipes.length := by intro h0; rw [if_pos h0] at h; simp at h
   rw [if_neg a4] at h
   exact ⟨⟨by omega, a2, a3⟩, by omega, hp.1 h⟩
 . rintro ⟨⟨a1, a2, a3⟩, a4, h⟩
   rw [if_neg (by omega), if_neg (by simpa using a2), if_neg (by simpa using a3), if_neg (by omega)]
   exact hp.2 h
theorem J7b {c : Circuit} {x : Pipe} : Jdg c x = 0 ↔ Jde c x.fr = 0 /\ Jde c x.to = 0 /\ Jax x.fr x.to = true := by
 unfold Jdg Jde
 rw [Jw5, Jvd]
 have h1 := @J2f x.fr x.to
 have r1 := @Jit c x.fr
 have r2 := @Jit c x.to
 have n1 := @Jmb c x.fr
 have n2 := @Jmb c x.to
 generalize Jbv c x.fr = a at *
 generalize Jbv c x.to = b at *
 generalize Jb2 c x.fr = d at *
 generalize Jb2 c x.to = e at *
 generalize Jcc x.fr x.to = k at *
 rw [<- h1]
 grind
theorem Jdn {c : Circuit} {p : Port} : Jde c p = 0 ↔ ∃ q, c.parts[p.part.toNat]? = some q /\ 0 <= p.part /\ p.name ∈ Jbj q := by
 by_cases hr : p.part < 0 \/ (c.parts.length : Int) <= p.part
 . have h1 : Jbv c p = 2 := if_pos hr
   have h2 : Jde c p = 2 := by rw [Jde, h1]; rfl
   rw [h2]
   constructor
   . intro h; cases h
   . rintro ⟨q, e, h0, _⟩
     have hl := (gsI.1 e).1
     omega
 . have h1 : Jbv c p = 0 := if_neg hr
   have h2 : Jde c p = Jb2 c p := by rw [Jde, h1]; rfl
   rw [h2, Jb2]
   obtain ⟨q, e⟩ := Jah (xs := c.parts) (k := p.part.toNat) (by omega)
   rw [e]
   by_cases hm : p.name ∈ Jbj q
   . simp only [hm, if_true]
     exact ⟨fun _ => ⟨q, rfl, by omega, hm⟩, fun _ => trivial⟩
   . simp only [hm, if_false]
     constructor
     . intro h; cases h
     . rintro ⟨q2, e2, _, h3⟩
       cases e2
       exact (hm h3).elim
theorem Jrv {c : Circuit} {p : Port} : ∀ {k : Nat}, p ∈ Jca c k ↔ ∃ i q, i < k /\ c.parts[i]? = some q /\ p.part = (i : Int) /\ p.name ∈ Jbj q
 | 0 => by simp [Jca]
 | k + 1 => by
   simp only [Jca, List.mem_append]
   rw [Jrv (k := k)]
   constructor
   . rintro (⟨i, q, h1, h2⟩ | h)
     . exact ⟨i, q, by omega, h2⟩
     . cases e : c.parts[k]? with
       | none => rw [e] at h; cases h
       | some q =>
         rw [e] at h
         obtain ⟨s, hs, rfl⟩ := List.mem_map.1 h
         exact ⟨k, q, by omega, e, rfl, hs⟩
   . rintro ⟨i, q, h1, h2, h3, h4⟩
     by_cases e : i = k
     . subst e
       right
       rw [h2]
       exact List.mem_map.2 ⟨p.name, h4, by cases p; simp at h3; rw [h3]⟩
     . exact .inl ⟨i, q, by omega, h2, h3, h4⟩
theorem Jd9 {c : Circuit} {p : Port} : p ∈ allP c ↔ Jde c p = 0 := by
 unfold allP
 rw [Jrv, Jdn]
 constructor
 . rintro ⟨i, q, h1, h2, h3, h4⟩
   exact ⟨q, by rw [h3, Int.toNat_natCast]; exact h2, by omega, h4⟩
 . rintro ⟨q, h1, h2, h3⟩
   exact ⟨p.part.toNat, q, (gsI.1 h1).1, h1, by omega, h3⟩
end Go.Am
namespace Go.Am
open Go Go.Proofs Go.Pn
theorem J75 {f : Port -> Port} {l m : List Port} (h : ∀ p, p ∈ l ↔ p ∈ m) : (Jat f l).length = (Jat f m).length := by
 apply List.Perm.length_eq
 rw [List.perm_ext_iff_of_nodup Jkb Jkb]
 intro r
 rw [Jfw, Jfw]
 simp only [h]
theorem J74 {f g : Port -> Port} {l : List Port} : Jat f (l.map g) = Jat (fun p => f (g p)) l := by
 unfold Jat
 rw [List.foldl_map]
theorem Jpu {c : Circuit} (h : Jad c = 0) {i : Nat} {x : Part} (e : c.parts[i]? = some x) : Jb3 c x.name = i := by
 rcases Jmm c x.name with h1 | ⟨j, y, h1, h2, h3⟩
 . exfalso
   unfold Jb3 idxI at h1
   cases hf : c.parts.findIdx? fun q => decide (q.name = x.name) with
   | none => have := List.findIdx?_eq_none_iff.1 hf x (List.mem_of_getElem? e); simp at this
   | some k => rw [hf] at h1; simp at h1
 . rw [h1, Jpw h h2 e h3]
end Go.Am
namespace Go.Am
open Go Go.Proofs Go.Pn
end Go.Am
