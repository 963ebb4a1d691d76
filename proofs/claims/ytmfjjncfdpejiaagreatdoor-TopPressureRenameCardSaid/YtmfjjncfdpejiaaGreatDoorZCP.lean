/- Lemmas and contracts for the proof of a statement of this seat. -/
import Derived.Test.YtmfjjncfdpejiaaGreatDoorZC7
set_option linter.unusedVariables false
set_option linter.unusedSimpArgs false
namespace Go.Am
open Go Go.Proofs Go.Pn
theorem J9h {α : Type} {xs : List α} {f g : α -> Bool} (h : ∀ x ∈ xs, f x = g x) : idxI xs f = idxI xs g := by
 rcases Jjg xs f with ⟨h1, h2⟩ | ⟨i, x, h1, h2, h3, h4⟩
 . rw [h2, Je0]
   intro x hx
   rw [<- h x hx]
   exact Bool.not_eq_true _ ▸ List.findIdx?_eq_none_iff.1 h1 x hx
 . rw [h2]
   obtain ⟨k1, k2, k3⟩ := List.findIdx?_eq_some_iff_getElem.1 h1
   refine (Jez h3 (by rw [<- h x (List.mem_of_getElem? h3)]; exact h4) fun j y hj hy => ?_).symm
   rw [<- h y (List.mem_of_getElem? hy)]
   obtain ⟨k4, rfl⟩ := gsI.1 hy
   simpa using k3 j hj
abbrev rt (c : Circuit) : Port -> Port := rootOf (Jbu c.pipes)
theorem Jsw {c : Circuit} {p q : Port} : rt c p = rt c q ↔ Conn c.pipes p q := (Jtr c.pipes).2 p q
theorem Jlh {c : Circuit} (h : Jad c = 0) : nets c = (Jba (rt c) (allP c)).map fun r => (allP c).filter fun p => decide (rt c p = r) := (Jza (Jp2 (Jbg h).1)).symm
theorem Jzb {c : Circuit} (h : Jad c = 0) {g : List Port} (hg : g ∈ nets c) : ∃ r ∈ Jba (rt c) (allP c), ∀ p, p ∈ g ↔ p ∈ allP c /\ rt c p = r := by
 rw [Jlh h] at hg
 obtain ⟨r, hr, rfl⟩ := List.mem_map.1 hg
 exact ⟨r, hr, fun p => by simp⟩
theorem Kb5 {c : Circuit} (h : Jad c = 0) {p : Port} (hp : p ∈ allP c) : ∃ g ∈ nets c, p ∈ g := by
 refine ⟨(allP c).filter fun q => decide (rt c q = rt c p), ?_, by simp [hp]⟩
 rw [Jlh h]
 exact List.mem_map.2 ⟨rt c p, Jlt.2 ⟨p, hp, rfl⟩, rfl⟩
theorem Jif {c : Circuit} (h : Jad c = 0) {p : Port} (hp : p ∈ allP c) : ∃ (i : Nat) (g : List Port), netP c p = i /\ (nets c)[i]? = some g /\ p ∈ g := by
 unfold netP
 rcases Jjg (nets c) (fun l => decide (p ∈ l)) with ⟨h1, _⟩ | ⟨i, g, _, h2, h3, h4⟩
 . obtain ⟨g, hg, hpg⟩ := Kb5 h hp
   have := List.findIdx?_eq_none_iff.1 h1 g hg
   simp [hpg] at this
 . exact ⟨i, g, h2, h3, by simpa using h4⟩
theorem Kb3 {c : Circuit} (h : Jad c = 0) {p q : Port} (hp : p ∈ allP c) (hq : q ∈ allP c) : netP c p = netP c q ↔ Conn c.pipes p q := by
 constructor
 . intro he
   obtain ⟨i, g, h1, h2, h3⟩ := Jif h hp
   obtain ⟨j, g2, k1, k2, k3⟩ := Jif h hq
   rw [h1, k1] at he
   have hij : i = j := by omega
   subst hij
   rw [h2] at k2; cases k2
   obtain ⟨r, _, hm⟩ := Jzb h (List.mem_of_getElem? h2)
   exact Jsw.1 (((hm p).1 h3).2.trans ((hm q).1 k3).2.symm)
 . intro hc
   have hr := Jsw.2 hc
   unfold netP
   refine J9h fun g hg => ?_
   obtain ⟨r, _, hm⟩ := Jzb h hg
   rw [decide_eq_decide, hm, hm, hr]
   simp [hp, hq]
end Go.Am
namespace Go.Am
open Go Go.Proofs Go.Pn
theorem J0f (a : Pipe) : Jb8 a a = false := by simp [Jb8, Jjy]
theorem J0g {a b c : Pipe} (h : Jb8 a b = true) (k : Jb8 b c = true) : Jb8 a c = true := by
 unfold Jb8 at *
 by_cases e1 : a.fr = b.fr <;> by_cases e2 : b.fr = c.fr
 . rw [if_pos e1] at h; rw [if_pos e2] at k; rw [if_pos (e1.trans e2)]; exact Jr7 h k
 . rw [if_neg e2] at k; rw [e1, if_neg e2]; exact k
 . rw [if_neg e1] at h; rw [<- e2, if_neg e1]; exact h
 . rw [if_neg e1] at h; rw [if_neg e2] at k
   have := Jr7 h k
   rw [if_neg]
   . exact this
   . intro e; rw [e, Jjy] at this; cases this
theorem Kej {a b : Pipe} (h : Jb8 a b = false) (k : Jb8 b a = false) : a = b := by
 unfold Jb8 at *
 by_cases e1 : a.fr = b.fr
 . rw [if_pos e1] at h; rw [if_pos e1.symm] at k
   have e2 := Jon h k
   cases a; cases b; simp at e1 e2; rw [e1, e2]
 . rw [if_neg e1] at h; rw [if_neg (fun e => e1 e.symm)] at k
   exact (e1 (Jon h k)).elim
abbrev Asc (l : List Pipe) : Prop := l.Pairwise fun a b => Jb8 a b = true
theorem Jk4 {f : Nat -> Int} {n : Nat} : Jas f n = 0 ↔ ∀ k, k < n -> f k = 0 := by
 refine ⟨fun h k hk => Jgn h hk, fun h => ?_⟩
 induction n with
 | zero => rfl
 | succ n ih => exact Jc6 (ih fun k hk => h k (by omega)) (h n (by omega))
structure PartsOk (c : Circuit) : Prop where
 few : c.parts.length <= 64
 each : Jas (partAt c) c.parts.length = 0
 owned : Jas (Jer c) c.parts.length = 0
theorem J3u {l : List Pipe} : Asc l ↔ ∀ (k : Nat) x y, l[k]? = some x -> l[k + 1]? = some y -> Jb8 x y = true := by
 constructor
 . intro h k x y hx hy
   obtain ⟨h1, rfl⟩ := gsI.1 hx
   obtain ⟨h2, rfl⟩ := gsI.1 hy
   exact List.pairwise_iff_getElem.1 h k (k + 1) h1 h2 (by omega)
 . intro h
   refine List.pairwise_iff_getElem.2 ?_
   intro i j hi hj hij
   obtain ⟨d, rfl⟩ := Nat.exists_eq_add_of_lt hij
   induction d with
   | zero => exact h i _ _ (List.getElem?_eq_getElem hi) (List.getElem?_eq_getElem hj)
   | succ d ih => exact J0g (ih (by omega) (by omega)) (h (i + d + 1) _ _ (List.getElem?_eq_getElem (by omega)) (List.getElem?_eq_getElem hj))
theorem Jwh {a b : Pipe} : ¬ 0 <= Jf1 a b ↔ Jb8 a b = true := by rw [<- Jqp]; omega
theorem J6v {a b : Port} : ¬ 0 <= Jb6 a b ↔ Jaz a b = true := by rw [<- Jh6]; omega
theorem Jm1 {c : Circuit} : Jad c = 0 ↔ PartsOk c /\ c.pipes.length <= 256 /\ (∀ x ∈ c.pipes, Jdj c x = 0) /\ Asc c.pipes := by
 have hp : Jas (Jce c) c.pipes.length = 0 ↔ (∀ x ∈ c.pipes, Jdj c x = 0) /\ Asc c.pipes := by
   rw [Jk4, J3u]
   constructor
   . intro h
     refine ⟨fun x hx => ?_, fun k x y hx hy => ?_⟩
     . obtain ⟨k, hk, e⟩ := List.getElem_of_mem hx
       have := h k hk
       simp only [Jce, List.getElem?_eq_getElem hk, e] at this
       apply Decidable.byContradiction
       intro hne
       rw [if_pos hne] at this
       exact hne this
     . have hk : k + 1 < c.pipes.length := (gsI.1 hy).1
       have := h (k + 1) hk
       simp only [Jce, hy, Nat.add_sub_cancel, hx] at this
       split at this
       . rename_i h1; exact absurd this h1
       . split at this
         . cases this
         . rename_i h2; exact Jwh.1 h2
   . rintro ⟨h1, h2⟩ k hk
     simp only [Jce, List.getElem?_eq_getElem hk]
     rw [if_neg (by simpa using h1 _ (List.getElem_mem hk))]
     cases k with
     | zero => rfl
     | succ k =>
       have hk2 : k < c.pipes.length := by omega
       simp only [Nat.add_sub_cancel, List.getElem?_eq_getElem hk2]
       rw [if_neg (Jwh.2 (h2 k _ _ (List.getElem?_eq_getElem hk2) (List.getElem?_eq_getElem hk)))]
 unfold Jad
 constructor
 . intro h
   have a1 : ¬ 64 < c.parts.length := by intro h0; rw [if_pos h0] at h; simp at h
   rw [if_neg a1] at h
   have a2 : Jas (partAt c) c.parts.length = 0 := by grind
   rw [if_neg (by simpa using a2)] at h
   have a3 : Jas (Jer c) c.parts.length = 0 := by grind
   rw [if_neg (by simpa using a3)] at h
   have a4 : ¬ 256 < c.pipes.length := by intro h0; rw [if_pos h0] at h; simp at h
   rw [if_neg a4] at h
   exact ⟨⟨by omega, a2, a3⟩, by omega, hp.1 h⟩
 . rintro ⟨⟨a1, a2, a3⟩, a4, h⟩
   rw [if_neg (by omega), if_neg (by simpa using a2), if_neg (by simpa using a3), if_neg (by omega)]
   exact hp.2 h
theorem Kei {c : Circuit} {x : Pipe} : Jdj c x = 0 ↔ Jbh c x.fr = 0 /\ Jbh c x.to = 0 /\ Jaz x.fr x.to = true := by
 unfold Jdj Jbh
 rw [J0v, Jy4]
 have h1 := @J6v x.fr x.to
 have r1 := @Jj3 c x.fr
 have r2 := @Jj3 c x.to
 have n1 := @Jn9 c x.fr
 have n2 := @Jn9 c x.to
 generalize Jbe c x.fr = a at *
 generalize Jbe c x.to = b at *
 generalize Jbv c x.fr = d at *
 generalize Jbv c x.to = e at *
 generalize Jb6 x.fr x.to = k at *
 rw [<- h1]
 grind
theorem Jey {c : Circuit} {p : Port} : Jbh c p = 0 ↔ ∃ q, c.parts[p.part.toNat]? = some q /\ 0 <= p.part /\ p.name ∈ Ja8 q := by
 by_cases hr : p.part < 0 \/ (c.parts.length : Int) <= p.part
 . have h1 : Jbe c p = 2 := if_pos hr
   have h2 : Jbh c p = 2 := by rw [Jbh, h1]; rfl
   rw [h2]
   constructor
   . intro h; cases h
   . rintro ⟨q, e, h0, _⟩
     have hl := (gsI.1 e).1
     omega
 . have h1 : Jbe c p = 0 := if_neg hr
   have h2 : Jbh c p = Jbv c p := by rw [Jbh, h1]; rfl
   rw [h2, Jbv]
   obtain ⟨q, e⟩ := Jae (xs := c.parts) (k := p.part.toNat) (by omega)
   rw [e]
   by_cases hm : p.name ∈ Ja8 q
   . simp only [hm, if_true]
     exact ⟨fun _ => ⟨q, rfl, by omega, hm⟩, fun _ => trivial⟩
   . simp only [hm, if_false]
     constructor
     . intro h; cases h
     . rintro ⟨q2, e2, _, h3⟩
       cases e2
       exact (hm h3).elim
theorem Juk {c : Circuit} {p : Port} : ∀ {k : Nat}, p ∈ Jby c k ↔ ∃ i q, i < k /\ c.parts[i]? = some q /\ p.part = (i : Int) /\ p.name ∈ Ja8 q
 | 0 => by simp [Jby]
 | k + 1 => by
   simp only [Jby, List.mem_append]
   rw [Juk (k := k)]
   constructor
   . rintro (⟨i, q, h1, h2⟩ | h)
     . exact ⟨i, q, by omega, h2⟩
     . cases e : c.parts[k]? with
       | none => rw [e] at h; cases h
       | some q =>
         rw [e] at h
         obtain ⟨s, hs, rfl⟩ := List.mem_map.1 h
         exact ⟨k, q, by omega, e, rfl, hs⟩
   . rintro ⟨i, q, h1, h2, h3, h4⟩
     by_cases e : i = k
     . subst e
       right
       rw [h2]
       exact List.mem_map.2 ⟨p.name, h4, by cases p; simp at h3; rw [h3]⟩
     . exact .inl ⟨i, q, by omega, h2, h3, h4⟩
theorem Jdl {c : Circuit} {p : Port} : p ∈ allP c ↔ Jbh c p = 0 := by
 unfold allP
 rw [Juk, Jey]
 constructor
 . rintro ⟨i, q, h1, h2, h3, h4⟩
   exact ⟨q, by rw [h3, Int.toNat_natCast]; exact h2, by omega, h4⟩
 . rintro ⟨q, h1, h2, h3⟩
   exact ⟨p.part.toNat, q, (gsI.1 h1).1, h1, by omega, h3⟩
end Go.Am
