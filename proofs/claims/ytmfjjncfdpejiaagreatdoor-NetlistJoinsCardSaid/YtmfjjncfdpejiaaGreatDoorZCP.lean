/- Lemmas and contracts for the proof of a statement of this seat. -/
import Derived.Test.YtmfjjncfdpejiaaGreatDoorZC7
set_option linter.unusedVariables false
set_option linter.unusedSimpArgs false
namespace Go.Am
open Go Go.Proofs Go.Pn
theorem J40 {α : Type} {xs : List α} {f g : α -> Bool} (h : ∀ x ∈ xs, f x = g x) : idxI xs f = idxI xs g := by
 rcases Jia xs f with ⟨h1, h2⟩ | ⟨i, x, h1, h2, h3, h4⟩
 . rw [h2, Jer]
   intro x hx
   rw [<- h x hx]
   exact Bool.not_eq_true _ ▸ List.findIdx?_eq_none_iff.1 h1 x hx
 . rw [h2]
   obtain ⟨k1, k2, k3⟩ := List.findIdx?_eq_some_iff_getElem.1 h1
   refine (Jee h3 (by rw [<- h x (List.mem_of_getElem? h3)]; exact h4) fun j y hj hy => ?_).symm
   rw [<- h y (List.mem_of_getElem? hy)]
   obtain ⟨k4, rfl⟩ := gsI.1 hy
   simpa using k3 j hj
abbrev rt (c : Circuit) : Port -> Port := rootOf (Jbv c.pipes)
theorem rt_iff {c : Circuit} {p q : Port} : rt c p = rt c q ↔ Conn c.pipes p q := (Jri c.pipes).2 p q
theorem Jpt {c : Circuit} (h : Jac c = 0) : nets c = (Jaw (rt c) (allP c)).map fun r => (allP c).filter fun p => decide (rt c p = r) := (Jv5 (Jk8 (Jb1 h).1)).symm
theorem Jv4 {c : Circuit} (h : Jac c = 0) : (nets c).length = (Jaw (rt c) (allP c)).length := by rw [Jpt h, List.length_map]
theorem Jv6 {c : Circuit} (h : Jac c = 0) {g : List Port} (hg : g ∈ nets c) : ∃ r ∈ Jaw (rt c) (allP c), ∀ p, p ∈ g ↔ p ∈ allP c /\ rt c p = r := by
 rw [Jpt h] at hg
 obtain ⟨r, hr, rfl⟩ := List.mem_map.1 hg
 exact ⟨r, hr, fun p => by simp⟩
theorem J6a {c : Circuit} (h : Jac c = 0) {p : Port} (hp : p ∈ allP c) : ∃ g ∈ nets c, p ∈ g := by
 refine ⟨(allP c).filter fun q => decide (rt c q = rt c p), ?_, by simp [hp]⟩
 rw [Jpt h]
 exact List.mem_map.2 ⟨rt c p, Jf9.2 ⟨p, hp, rfl⟩, rfl⟩
theorem Jv1 {c : Circuit} (h : Jac c = 0) {p : Port} (hp : p ∈ allP c) : ∃ (i : Nat) (g : List Port), netP c p = i /\ (nets c)[i]? = some g /\ p ∈ g := by
 unfold netP
 rcases Jia (nets c) (fun l => decide (p ∈ l)) with ⟨h1, _⟩ | ⟨i, g, _, h2, h3, h4⟩
 . obtain ⟨g, hg, hpg⟩ := J6a h hp
   have := List.findIdx?_eq_none_iff.1 h1 g hg
   simp [hpg] at this
 . exact ⟨i, g, h2, h3, by simpa using h4⟩
theorem J59 {c : Circuit} (h : Jac c = 0) {p q : Port} (hp : p ∈ allP c) (hq : q ∈ allP c) : netP c p = netP c q ↔ Conn c.pipes p q := by
 constructor
 . intro he
   obtain ⟨i, g, h1, h2, h3⟩ := Jv1 h hp
   obtain ⟨j, g2, k1, k2, k3⟩ := Jv1 h hq
   rw [h1, k1] at he
   have hij : i = j := by omega
   subst hij
   rw [h2] at k2; cases k2
   obtain ⟨r, _, hm⟩ := Jv6 h (List.mem_of_getElem? h2)
   exact rt_iff.1 (((hm p).1 h3).2.trans ((hm q).1 k3).2.symm)
 . intro hc
   have hr := rt_iff.2 hc
   unfold netP
   refine J40 fun g hg => ?_
   obtain ⟨r, _, hm⟩ := Jv6 h hg
   rw [decide_eq_decide, hm, hm, hr]
   simp [hp, hq]
theorem J85 {f g : Port -> Port} {l : List Port} (h : ∀ p ∈ l, ∀ q ∈ l, f p = f q ↔ g p = g q) : (Jaw f l).length = (Jaw g l).length := by
 have key : ∀ n, n <= l.length -> (Jaw f (l.take n)).length = (Jaw g (l.take n)).length := by
   intro n
   induction n with
   | zero => intro _; simp [Jaw]
   | succ n ih =>
     intro hn
     obtain ⟨x, hx⟩ : ∃ x, l[n]? = some x := ⟨_, List.getElem?_eq_getElem (by omega)⟩
     have e : l.take (n + 1) = l.take n ++ [x] := by rw [List.take_add_one, hx]; rfl
     have ih := ih (by omega)
     have hiff : f x ∈ Jaw f (l.take n) ↔ g x ∈ Jaw g (l.take n) := by
       rw [Jf9, Jf9]
       constructor
       . rintro ⟨p, hp, e⟩
         exact ⟨p, hp, (h p (List.mem_of_mem_take hp) x (List.mem_of_getElem? hx)).1 e⟩
       . rintro ⟨p, hp, e⟩
         exact ⟨p, hp, (h p (List.mem_of_mem_take hp) x (List.mem_of_getElem? hx)).2 e⟩
     rw [e, Jg0, Jg0]
     by_cases hm : f x ∈ Jaw f (l.take n)
     . rw [if_pos hm, if_pos (hiff.1 hm)]; exact ih
     . rw [if_neg hm, if_neg (fun h => hm (hiff.2 h))]; simp [ih]
 have := key l.length (Nat.le_refl _)
 rwa [List.take_length] at this
end Go.Am
namespace Go.Am
open Go Go.Proofs Go.Pn
theorem Jp5 (a : Pipe) : Jby a a = false := by simp [Jby, Jis]
theorem Jp6 {a b c : Pipe} (h : Jby a b = true) (k : Jby b c = true) : Jby a c = true := by
 unfold Jby at *
 by_cases e1 : a.fr = b.fr <;> by_cases e2 : b.fr = c.fr
 . rw [if_pos e1] at h; rw [if_pos e2] at k; rw [if_pos (e1.trans e2)]; exact Jp9 h k
 . rw [if_neg e2] at k; rw [e1, if_neg e2]; exact k
 . rw [if_neg e1] at h; rw [<- e2, if_neg e1]; exact h
 . rw [if_neg e1] at h; rw [if_neg e2] at k
   have := Jp9 h k
   rw [if_neg]
   . exact this
   . intro e; rw [e, Jis] at this; cases this
theorem J79 {a b : Pipe} (h : Jby a b = true) : Jby b a = false := by
 cases k : Jby b a with
 | false => rfl
 | true => have := Jp6 h k; rw [Jp5] at this; cases this
theorem J8a {a b : Pipe} (h : Jby a b = false) (k : Jby b a = false) : a = b := by
 unfold Jby at *
 by_cases e1 : a.fr = b.fr
 . rw [if_pos e1] at h; rw [if_pos e1.symm] at k
   have e2 := Jm2 h k
   cases a; cases b; simp at e1 e2; rw [e1, e2]
 . rw [if_neg e1] at h; rw [if_neg (fun e => e1 e.symm)] at k
   exact (e1 (Jm2 h k)).elim
abbrev Asc (l : List Pipe) : Prop := l.Pairwise fun a b => Jby a b = true
theorem Jo6 {f : Nat -> Int} {n : Nat} : Jau f n = 0 ↔ ∀ k, k < n -> f k = 0 := by
 refine ⟨fun h k hk => Jff h hk, fun h => ?_⟩
 induction n with
 | zero => rfl
 | succ n ih => exact Jdq (ih fun k hk => h k (by omega)) (h n (by omega))
structure PartsOk (c : Circuit) : Prop where
 few : c.parts.length <= 64
 each : Jau (partAt c) c.parts.length = 0
 owned : Jau (Jd3 c) c.parts.length = 0
theorem J0e {l : List Pipe} : Asc l ↔ ∀ (k : Nat) x y, l[k]? = some x -> l[k + 1]? = some y -> Jby x y = true := by
 constructor
 . intro h k x y hx hy
   obtain ⟨h1, rfl⟩ := gsI.1 hx
   obtain ⟨h2, rfl⟩ := gsI.1 hy
   exact List.pairwise_iff_getElem.1 h k (k + 1) h1 h2 (by omega)
 . intro h
   refine List.pairwise_iff_getElem.2 ?_
   intro i j hi hj hij
   obtain ⟨d, rfl⟩ := Nat.exists_eq_add_of_lt hij
   induction d with
   | zero => exact h i _ _ (List.getElem?_eq_getElem hi) (List.getElem?_eq_getElem hj)
   | succ d ih => exact Jp6 (ih (by omega) (by omega)) (h (i + d + 1) _ _ (List.getElem?_eq_getElem (by omega)) (List.getElem?_eq_getElem hj))
theorem Jtu {a b : Pipe} : ¬ 0 <= Jfd a b ↔ Jby a b = true := by rw [<- Jou]; omega
theorem J3a {a b : Port} : ¬ 0 <= Jcc a b ↔ Jaz a b = true := by rw [<- Jg9]; omega
theorem Jdz {c : Circuit} : Jac c = 0 ↔ PartsOk c /\ c.pipes.length <= 256 /\ (∀ x ∈ c.pipes, Jdh c x = 0) /\ Asc c.pipes := by
 have hp : Jau (Jck c) c.pipes.length = 0 ↔ (∀ x ∈ c.pipes, Jdh c x = 0) /\ Asc c.pipes := by
   rw [Jo6, J0e]
   constructor
   . intro h
     refine ⟨fun x hx => ?_, fun k x y hx hy => ?_⟩
     . obtain ⟨k, hk, e⟩ := List.getElem_of_mem hx
       have := h k hk
       simp only [Jck, List.getElem?_eq_getElem hk, e] at this
       apply Decidable.byContradiction
       intro hne
       rw [if_pos hne] at this
       exact hne this
     . have hk : k + 1 < c.pipes.length := (gsI.1 hy).1
       have := h (k + 1) hk
       simp only [Jck, hy, Nat.add_sub_cancel, hx] at this
       split at this
       . rename_i h1; exact absurd this h1
       . split at this
         . cases this
         . rename_i h2; exact Jtu.1 h2
   . rintro ⟨h1, h2⟩ k hk
     simp only [Jck, List.getElem?_eq_getElem hk]
     rw [if_neg (by simpa using h1 _ (List.getElem_mem hk))]
     cases k with
     | zero => rfl
     | succ k =>
       have hk2 : k < c.pipes.length := by omega
       simp only [Nat.add_sub_cancel, List.getElem?_eq_getElem hk2]
       rw [if_neg (Jtu.2 (h2 k _ _ (List.getElem?_eq_getElem hk2) (List.getElem?_eq_getElem hk)))]
 unfold Jac
 constructor
 . intro h
   have a1 : ¬ 64 < c.parts.length := by intro h0; rw [if_pos h0] at h; simp at h
   rw [if_neg a1] at h
   have a2 : Jau (partAt c) c.parts.length = 0 := by grind
   rw [if_neg (by simpa using a2)] at h
   have a3 : Jau (Jd3 c) c.parts.length = 0 := by grind
   rw [if_neg (by simpa using a3)] at h
   have a4 : ¬ 256 < c.pipes.length := by intro h0; rw [if_pos h0] at h; simp at h
   rw [if_neg a4] at h
   exact ⟨⟨by omega, a2, a3⟩, by omega, hp.1 h⟩
 . rintro ⟨⟨a1, a2, a3⟩, a4, h⟩
   rw [if_neg (by omega), if_neg (by simpa using a2), if_neg (by simpa using a3), if_neg (by omega)]
   exact hp.2 h
theorem Jw6 {c : Circuit} {x : Pipe} : Jdh c x = 0 ↔ Ja5 c x.fr = 0 /\ Ja5 c x.to = 0 /\ Jaz x.fr x.to = true := by
 unfold Jdh Ja5
 rw [Jxn, Jvx]
 have h1 := @J3a x.fr x.to
 have r1 := @Jiv c x.fr
 have r2 := @Jiv c x.to
 have n1 := @Jmj c x.fr
 have n2 := @Jmj c x.to
 generalize Jbg c x.fr = a at *
 generalize Jbg c x.to = b at *
 generalize Jbq c x.fr = d at *
 generalize Jbq c x.to = e at *
 generalize Jcc x.fr x.to = k at *
 rw [<- h1]
 grind
theorem Jc8 {c : Circuit} {p : Port} : Ja5 c p = 0 ↔ ∃ q, c.parts[p.part.toNat]? = some q /\ 0 <= p.part /\ p.name ∈ Jbb q := by
 by_cases hr : p.part < 0 \/ (c.parts.length : Int) <= p.part
 . have h1 : Jbg c p = 2 := if_pos hr
   have h2 : Ja5 c p = 2 := by rw [Ja5, h1]; rfl
   rw [h2]
   constructor
   . intro h; cases h
   . rintro ⟨q, e, h0, _⟩
     have hl := (gsI.1 e).1
     omega
 . have h1 : Jbg c p = 0 := if_neg hr
   have h2 : Ja5 c p = Jbq c p := by rw [Ja5, h1]; rfl
   rw [h2, Jbq]
   obtain ⟨q, e⟩ := Jag (xs := c.parts) (k := p.part.toNat) (by omega)
   rw [e]
   by_cases hm : p.name ∈ Jbb q
   . simp only [hm, if_true]
     exact ⟨fun _ => ⟨q, rfl, by omega, hm⟩, fun _ => trivial⟩
   . simp only [hm, if_false]
     constructor
     . intro h; cases h
     . rintro ⟨q2, e2, _, h3⟩
       cases e2
       exact (hm h3).elim
theorem Jr8 {c : Circuit} {p : Port} : ∀ {k : Nat}, p ∈ Jca c k ↔ ∃ i q, i < k /\ c.parts[i]? = some q /\ p.part = (i : Int) /\ p.name ∈ Jbb q
 | 0 => by simp [Jca]
 | k + 1 => by
   simp only [Jca, List.mem_append]
   rw [Jr8 (k := k)]
   constructor
   . rintro (⟨i, q, h1, h2⟩ | h)
     . exact ⟨i, q, by omega, h2⟩
     . cases e : c.parts[k]? with
       | none => rw [e] at h; cases h
       | some q =>
         rw [e] at h
         obtain ⟨s, hs, rfl⟩ := List.mem_map.1 h
         exact ⟨k, q, by omega, e, rfl, hs⟩
   . rintro ⟨i, q, h1, h2, h3, h4⟩
     by_cases e : i = k
     . subst e
       right
       rw [h2]
       exact List.mem_map.2 ⟨p.name, h4, by cases p; simp at h3; rw [h3]⟩
     . exact .inl ⟨i, q, by omega, h2, h3, h4⟩
theorem Jez {c : Circuit} {p : Port} : p ∈ allP c ↔ Ja5 c p = 0 := by
 unfold allP
 rw [Jr8, Jc8]
 constructor
 . rintro ⟨i, q, h1, h2, h3, h4⟩
   exact ⟨q, by rw [h3, Int.toNat_natCast]; exact h2, by omega, h4⟩
 . rintro ⟨q, h1, h2, h3⟩
   exact ⟨p.part.toNat, q, (gsI.1 h1).1, h1, by omega, h3⟩
end Go.Am
namespace Go.Am
open Go Go.Proofs Go.Pn
theorem J88 {f : Port -> Port} {l m : List Port} (h : ∀ p, p ∈ l ↔ p ∈ m) : (Jaw f l).length = (Jaw f m).length := by
 apply List.Perm.length_eq
 rw [List.perm_ext_iff_of_nodup Jnc Jnc]
 intro r
 rw [Jf9, Jf9]
 simp only [h]
theorem J87 {f g : Port -> Port} {l : List Port} : Jaw f (l.map g) = Jaw (fun p => f (g p)) l := by
 unfold Jaw
 rw [List.foldl_map]
theorem Jwt {c : Circuit} (h : Jac c = 0) {i : Nat} {x : Part} (e : c.parts[i]? = some x) : Jbx c x.name = i := by
 rcases Jir c x.name with h1 | ⟨j, y, h1, h2, h3⟩
 . exfalso
   unfold Jbx idxI at h1
   cases hf : c.parts.findIdx? fun q => decide (q.name = x.name) with
   | none => have := List.findIdx?_eq_none_iff.1 hf x (List.mem_of_getElem? e); simp at this
   | some k => rw [hf] at h1; simp at h1
 . rw [h1, Jp3 h h2 e h3]
end Go.Am
namespace Go.Am
open Go Go.Proofs Go.Pn
end Go.Am
