/- Lemmas and contracts for the proof of a statement of this seat. -/
import Derived.Test.YtfcljeghfckabaaGreatDoorZC7
set_option linter.unusedVariables false
set_option linter.unusedSimpArgs false
/- Plain laws: how many nets a circuit has, and which net a port is in. -/
namespace Go.Am
open Go Go.Proofs Go.Pn

theorem idxI_congr {α : Type} {xs : List α} {f g : α → Bool} (h : ∀ x ∈ xs, f x = g x) : idxI xs f = idxI xs g := by
  rcases idxI_cases xs f with ⟨h1, h2⟩ | ⟨i, x, h1, h2, h3, h4⟩
  · rw [h2, idxI_none]
    intro x hx
    rw [← h x hx]
    exact Bool.not_eq_true _ ▸ List.findIdx?_eq_none_iff.1 h1 x hx
  · rw [h2]
    obtain ⟨k1, k2, k3⟩ := List.findIdx?_eq_some_iff_getElem.1 h1
    refine (idxI_at h3 (by rw [← h x (List.mem_of_getElem? h3)]; exact h4) fun j y hj hy => ?_).symm
    rw [← h y (List.mem_of_getElem? hy)]
    obtain ⟨k4, rfl⟩ := List.getElem?_eq_some_iff.1 hy
    simpa using k3 j hj
abbrev rt (c : Circuit) : Port → Port := rootOf (upsOf c.pipes)
theorem rt_iff {c : Circuit} {p q : Port} : rt c p = rt c q ↔ Conn c.pipes p q := (ups_spec c.pipes).2 p q

theorem nets_rt {c : Circuit} (h : checkP c = 0) : nets c = (rootsIn (rt c) (allP c)).map fun r => (allP c).filter fun p => decide (rt c p = r) := (nets_groups (allP_nodup (check_parts h).1)).symm
theorem nets_mem {c : Circuit} (h : checkP c = 0) {g : List Port} (hg : g ∈ nets c) : ∃ r ∈ rootsIn (rt c) (allP c), ∀ p, p ∈ g ↔ p ∈ allP c ∧ rt c p = r := by
  rw [nets_rt h] at hg
  obtain ⟨r, hr, rfl⟩ := List.mem_map.1 hg
  exact ⟨r, hr, fun p => by simp⟩

theorem nets_has {c : Circuit} (h : checkP c = 0) {p : Port} (hp : p ∈ allP c) : ∃ g ∈ nets c, p ∈ g := by
  refine ⟨(allP c).filter fun q => decide (rt c q = rt c p), ?_, by simp [hp]⟩
  rw [nets_rt h]
  exact List.mem_map.2 ⟨rt c p, rootsIn_mem.2 ⟨p, hp, rfl⟩, rfl⟩

theorem netP_at {c : Circuit} (h : checkP c = 0) {p : Port} (hp : p ∈ allP c) : ∃ (i : Nat) (g : List Port), netP c p = i ∧ (nets c)[i]? = some g ∧ p ∈ g := by
  unfold netP
  rcases idxI_cases (nets c) (fun l => decide (p ∈ l)) with ⟨h1, _⟩ | ⟨i, g, _, h2, h3, h4⟩
  · obtain ⟨g, hg, hpg⟩ := nets_has h hp
    have := List.findIdx?_eq_none_iff.1 h1 g hg
    simp [hpg] at this
  · exact ⟨i, g, h2, h3, by simpa using h4⟩

theorem netP_same {c : Circuit} (h : checkP c = 0) {p q : Port} (hp : p ∈ allP c) (hq : q ∈ allP c) : netP c p = netP c q ↔ Conn c.pipes p q := by
  constructor
  · intro he
    obtain ⟨i, g, h1, h2, h3⟩ := netP_at h hp
    obtain ⟨j, g2, k1, k2, k3⟩ := netP_at h hq
    rw [h1, k1] at he
    have hij : i = j := by omega
    subst hij
    rw [h2] at k2; cases k2
    obtain ⟨r, _, hm⟩ := nets_mem h (List.mem_of_getElem? h2)
    exact rt_iff.1 (((hm p).1 h3).2.trans ((hm q).1 k3).2.symm)
  · intro hc
    have hr := rt_iff.2 hc
    unfold netP
    refine idxI_congr fun g hg => ?_
    obtain ⟨r, _, hm⟩ := nets_mem h hg
    rw [decide_eq_decide, hm, hm, hr]
    simp [hp, hq]

end Go.Am
/- Plain laws: right circuits; a further pipe. -/
namespace Go.Am
open Go Go.Proofs Go.Pn

theorem firstErr_iff {f : Nat → Int} {n : Nat} : firstErr f n = 0 ↔ ∀ k, k < n → f k = 0 := by
  refine ⟨fun h k hk => firstErr_zero h hk, fun h => ?_⟩
  induction n with
  | zero => rfl
  | succ n ih => exact firstErr_next (ih fun k hk => h k (by omega)) (h n (by omega))

theorem given_mem {c : Circuit} {p : Port} : givenErr c p = 0 ↔ ∃ q, c.parts[p.part.toNat]? = some q ∧ 0 ≤ p.part ∧ p.name ∈ portsOf q := by
  by_cases hr : p.part < 0 ∨ (c.parts.length : Int) ≤ p.part
  · have h1 : rangeErr c p = 2 := if_pos hr
    have h2 : givenErr c p = 2 := by rw [givenErr, h1]; rfl
    rw [h2]
    constructor
    · intro h; cases h
    · rintro ⟨q, e, h0, _⟩
      have hl := (List.getElem?_eq_some_iff.1 e).1
      omega
  · have h1 : rangeErr c p = 0 := if_neg hr
    have h2 : givenErr c p = nameErr c p := by rw [givenErr, h1]; rfl
    rw [h2, nameErr]
    obtain ⟨q, e⟩ := get_lt (xs := c.parts) (k := p.part.toNat) (by omega)
    rw [e]
    by_cases hm : p.name ∈ portsOf q
    · simp only [hm, if_true]
      exact ⟨fun _ => ⟨q, rfl, by omega, hm⟩, fun _ => trivial⟩
    · simp only [hm, if_false]
      constructor
      · intro h; cases h
      · rintro ⟨q2, e2, _, h3⟩
        cases e2
        exact (hm h3).elim

theorem allUp_mem {c : Circuit} {p : Port} : ∀ {k : Nat}, p ∈ allUp c k ↔ ∃ i q, i < k ∧ c.parts[i]? = some q ∧ p.part = (i : Int) ∧ p.name ∈ portsOf q
  | 0 => by simp [allUp]
  | k + 1 => by
    simp only [allUp, List.mem_append]
    rw [allUp_mem (k := k)]
    constructor
    · rintro (⟨i, q, h1, h2⟩ | h)
      · exact ⟨i, q, by omega, h2⟩
      · cases e : c.parts[k]? with
        | none => rw [e] at h; cases h
        | some q =>
          rw [e] at h
          obtain ⟨s, hs, rfl⟩ := List.mem_map.1 h
          exact ⟨k, q, by omega, e, rfl, hs⟩
    · rintro ⟨i, q, h1, h2, h3, h4⟩
      by_cases e : i = k
      · subst e
        right
        rw [h2]
        exact List.mem_map.2 ⟨p.name, h4, by cases p; simp at h3; rw [h3]⟩
      · exact .inl ⟨i, q, by omega, h2, h3, h4⟩
theorem allP_mem {c : Circuit} {p : Port} : p ∈ allP c ↔ givenErr c p = 0 := by
  unfold allP
  rw [allUp_mem, given_mem]
  constructor
  · rintro ⟨i, q, h1, h2, h3, h4⟩
    exact ⟨q, by rw [h3, Int.toNat_natCast]; exact h2, by omega, h4⟩
  · rintro ⟨q, h1, h2, h3⟩
    exact ⟨p.part.toNat, q, (List.getElem?_eq_some_iff.1 h1).1, h1, by omega, h3⟩

end Go.Am
