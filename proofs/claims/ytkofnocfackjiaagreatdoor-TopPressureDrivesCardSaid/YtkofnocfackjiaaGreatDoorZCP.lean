/- Lemmas and contracts for the proof of a statement of this seat. -/
import Derived.Test.YtkofnocfackjiaaGreatDoorZC7
set_option linter.unusedVariables false
set_option linter.unusedSimpArgs false
/- Plain laws: how many nets a circuit has, and which net a port is in. -/
namespace Go.Am
open Go Go.Proofs Go.Pn

abbrev rt (c : Circuit) : Port → Port := rootOf (upsOf c.pipes)
theorem rt_iff {c : Circuit} {p q : Port} : rt c p = rt c q ↔ Conn c.pipes p q := (ups_spec c.pipes).2 p q

theorem nets_rt {c : Circuit} (h : checkP c = 0) : nets c = (rootsIn (rt c) (allP c)).map fun r => (allP c).filter fun p => decide (rt c p = r) := (nets_groups (allP_nodup (check_parts h).1)).symm
theorem nets_has {c : Circuit} (h : checkP c = 0) {p : Port} (hp : p ∈ allP c) : ∃ g ∈ nets c, p ∈ g := by
  refine ⟨(allP c).filter fun q => decide (rt c q = rt c p), ?_, by simp [hp]⟩
  rw [nets_rt h]
  exact List.mem_map.2 ⟨rt c p, rootsIn_mem.2 ⟨p, hp, rfl⟩, rfl⟩

theorem netP_at {c : Circuit} (h : checkP c = 0) {p : Port} (hp : p ∈ allP c) : ∃ (i : Nat) (g : List Port), netP c p = i ∧ (nets c)[i]? = some g ∧ p ∈ g := by
  unfold netP
  rcases idxI_cases (nets c) (fun l => decide (p ∈ l)) with ⟨h1, _⟩ | ⟨i, g, _, h2, h3, h4⟩
  · obtain ⟨g, hg, hpg⟩ := nets_has h hp
    have := List.findIdx?_eq_none_iff.1 h1 g hg
    simp [hpg] at this
  · exact ⟨i, g, h2, h3, by simpa using h4⟩

end Go.Am
/- Plain laws: right circuits; a further pipe. -/
namespace Go.Am
open Go Go.Proofs Go.Pn

theorem pipeLt_trans {a b c : Pipe} (h : pipeLt a b = true) (k : pipeLt b c = true) : pipeLt a c = true := by
  unfold pipeLt at *
  by_cases e1 : a.fr = b.fr <;> by_cases e2 : b.fr = c.fr
  · rw [if_pos e1] at h; rw [if_pos e2] at k; rw [if_pos (e1.trans e2)]; exact portLt_trans h k
  · rw [if_neg e2] at k; rw [e1, if_neg e2]; exact k
  · rw [if_neg e1] at h; rw [← e2, if_neg e1]; exact h
  · rw [if_neg e1] at h; rw [if_neg e2] at k
    have := portLt_trans h k
    rw [if_neg]
    · exact this
    · intro e; rw [e, portLt_irrefl] at this; cases this
abbrev Asc (l : List Pipe) : Prop := l.Pairwise fun a b => pipeLt a b = true

theorem firstErr_iff {f : Nat → Int} {n : Nat} : firstErr f n = 0 ↔ ∀ k, k < n → f k = 0 := by
  refine ⟨fun h k hk => firstErr_zero h hk, fun h => ?_⟩
  induction n with
  | zero => rfl
  | succ n ih => exact firstErr_next (ih fun k hk => h k (by omega)) (h n (by omega))

structure PartsOk (c : Circuit) : Prop where
  few : c.parts.length ≤ 64
  each : firstErr (partAt c) c.parts.length = 0
  owned : firstErr (ownerAt c) c.parts.length = 0

theorem asc_iff {l : List Pipe} : Asc l ↔ ∀ (k : Nat) x y, l[k]? = some x → l[k + 1]? = some y → pipeLt x y = true := by
  constructor
  · intro h k x y hx hy
    obtain ⟨h1, rfl⟩ := List.getElem?_eq_some_iff.1 hx
    obtain ⟨h2, rfl⟩ := List.getElem?_eq_some_iff.1 hy
    exact List.pairwise_iff_getElem.1 h k (k + 1) h1 h2 (by omega)
  · intro h
    refine List.pairwise_iff_getElem.2 ?_
    intro i j hi hj hij
    obtain ⟨d, rfl⟩ := Nat.exists_eq_add_of_lt hij
    induction d with
    | zero => exact h i _ _ (List.getElem?_eq_getElem hi) (List.getElem?_eq_getElem hj)
    | succ d ih => exact pipeLt_trans (ih (by omega) (by omega)) (h (i + d + 1) _ _ (List.getElem?_eq_getElem (by omega)) (List.getElem?_eq_getElem hj))

theorem cmpPipe_ge {a b : Pipe} : ¬ 0 ≤ cmpPipe a b ↔ pipeLt a b = true := by rw [← cmpPipe_lt]; omega
theorem checkP_zero {c : Circuit} : checkP c = 0 ↔ PartsOk c ∧ c.pipes.length ≤ 256 ∧ (∀ x ∈ c.pipes, pipeErr c x = 0) ∧ Asc c.pipes := by
  have hp : firstErr (pipeAt c) c.pipes.length = 0 ↔ (∀ x ∈ c.pipes, pipeErr c x = 0) ∧ Asc c.pipes := by
    rw [firstErr_iff, asc_iff]
    constructor
    · intro h
      refine ⟨fun x hx => ?_, fun k x y hx hy => ?_⟩
      · obtain ⟨k, hk, e⟩ := List.getElem_of_mem hx
        have := h k hk
        simp only [pipeAt, List.getElem?_eq_getElem hk, e] at this
        apply Decidable.byContradiction
        intro hne
        rw [if_pos hne] at this
        exact hne this
      · have hk : k + 1 < c.pipes.length := (List.getElem?_eq_some_iff.1 hy).1
        have := h (k + 1) hk
        simp only [pipeAt, hy, Nat.add_sub_cancel, hx] at this
        split at this
        · rename_i h1; exact absurd this h1
        · split at this
          · cases this
          · rename_i h2; exact cmpPipe_ge.1 h2
    · rintro ⟨h1, h2⟩ k hk
      simp only [pipeAt, List.getElem?_eq_getElem hk]
      rw [if_neg (by simpa using h1 _ (List.getElem_mem hk))]
      cases k with
      | zero => rfl
      | succ k =>
        have hk2 : k < c.pipes.length := by omega
        simp only [Nat.add_sub_cancel, List.getElem?_eq_getElem hk2]
        rw [if_neg (cmpPipe_ge.2 (h2 k _ _ (List.getElem?_eq_getElem hk2) (List.getElem?_eq_getElem hk)))]
  unfold checkP
  constructor
  · intro h
    have a1 : ¬ 64 < c.parts.length := by intro h0; rw [if_pos h0] at h; simp at h
    rw [if_neg a1] at h
    have a2 : firstErr (partAt c) c.parts.length = 0 := by grind
    rw [if_neg (by simpa using a2)] at h
    have a3 : firstErr (ownerAt c) c.parts.length = 0 := by grind
    rw [if_neg (by simpa using a3)] at h
    have a4 : ¬ 256 < c.pipes.length := by intro h0; rw [if_pos h0] at h; simp at h
    rw [if_neg a4] at h
    exact ⟨⟨by omega, a2, a3⟩, by omega, hp.1 h⟩
  · rintro ⟨⟨a1, a2, a3⟩, a4, h⟩
    rw [if_neg (by omega), if_neg (by simpa using a2), if_neg (by simpa using a3), if_neg (by omega)]
    exact hp.2 h

theorem given_mem {c : Circuit} {p : Port} : givenErr c p = 0 ↔ ∃ q, c.parts[p.part.toNat]? = some q ∧ 0 ≤ p.part ∧ p.name ∈ portsOf q := by
  by_cases hr : p.part < 0 ∨ (c.parts.length : Int) ≤ p.part
  · have h1 : rangeErr c p = 2 := if_pos hr
    have h2 : givenErr c p = 2 := by rw [givenErr, h1]; rfl
    rw [h2]
    constructor
    · intro h; cases h
    · rintro ⟨q, e, h0, _⟩
      have hl := (List.getElem?_eq_some_iff.1 e).1
      omega
  · have h1 : rangeErr c p = 0 := if_neg hr
    have h2 : givenErr c p = nameErr c p := by rw [givenErr, h1]; rfl
    rw [h2, nameErr]
    obtain ⟨q, e⟩ := get_lt (xs := c.parts) (k := p.part.toNat) (by omega)
    rw [e]
    by_cases hm : p.name ∈ portsOf q
    · simp only [hm, if_true]
      exact ⟨fun _ => ⟨q, rfl, by omega, hm⟩, fun _ => trivial⟩
    · simp only [hm, if_false]
      constructor
      · intro h; cases h
      · rintro ⟨q2, e2, _, h3⟩
        cases e2
        exact (hm h3).elim

theorem allUp_mem {c : Circuit} {p : Port} : ∀ {k : Nat}, p ∈ allUp c k ↔ ∃ i q, i < k ∧ c.parts[i]? = some q ∧ p.part = (i : Int) ∧ p.name ∈ portsOf q
  | 0 => by simp [allUp]
  | k + 1 => by
    simp only [allUp, List.mem_append]
    rw [allUp_mem (k := k)]
    constructor
    · rintro (⟨i, q, h1, h2⟩ | h)
      · exact ⟨i, q, by omega, h2⟩
      · cases e : c.parts[k]? with
        | none => rw [e] at h; cases h
        | some q =>
          rw [e] at h
          obtain ⟨s, hs, rfl⟩ := List.mem_map.1 h
          exact ⟨k, q, by omega, e, rfl, hs⟩
    · rintro ⟨i, q, h1, h2, h3, h4⟩
      by_cases e : i = k
      · subst e
        right
        rw [h2]
        exact List.mem_map.2 ⟨p.name, h4, by cases p; simp at h3; rw [h3]⟩
      · exact .inl ⟨i, q, by omega, h2, h3, h4⟩
theorem allP_mem {c : Circuit} {p : Port} : p ∈ allP c ↔ givenErr c p = 0 := by
  unfold allP
  rw [allUp_mem, given_mem]
  constructor
  · rintro ⟨i, q, h1, h2, h3, h4⟩
    exact ⟨q, by rw [h3, Int.toNat_natCast]; exact h2, by omega, h4⟩
  · rintro ⟨q, h1, h2, h3⟩
    exact ⟨p.part.toNat, q, (List.getElem?_eq_some_iff.1 h1).1, h1, by omega, h3⟩

end Go.Am
