/- Lemmas and contracts for the proof of a statement of this seat. -/
import Derived.Test.YtebnpnkcoibooaaGreatDoorZC8
set_option linter.unusedVariables false
set_option linter.unusedSimpArgs false
/- Plain laws: how many nets a circuit has, and which net a port is in. -/
namespace Go.Am
open Go Go.Proofs Go.Pn

theorem idxI_congr {α : Type} {xs : List α} {f g : α → Bool} (h : ∀ x ∈ xs, f x = g x) : idxI xs f = idxI xs g := by
  rcases idxI_cases xs f with ⟨h1, h2⟩ | ⟨i, x, h1, h2, h3, h4⟩
  · rw [h2, idxI_none]
    intro x hx
    rw [← h x hx]
    exact Bool.not_eq_true _ ▸ List.findIdx?_eq_none_iff.1 h1 x hx
  · rw [h2]
    obtain ⟨k1, k2, k3⟩ := List.findIdx?_eq_some_iff_getElem.1 h1
    refine (idxI_at h3 (by rw [← h x (List.mem_of_getElem? h3)]; exact h4) fun j y hj hy => ?_).symm
    rw [← h y (List.mem_of_getElem? hy)]
    obtain ⟨k4, rfl⟩ := List.getElem?_eq_some_iff.1 hy
    simpa using k3 j hj
/-- The first port of the net of a port. -/
abbrev rt (c : Circuit) : Port → Port := rootOf (upsOf c.pipes)
theorem rt_iff {c : Circuit} {p q : Port} : rt c p = rt c q ↔ Conn c.pipes p q := (ups_spec c.pipes).2 p q

theorem nets_rt {c : Circuit} (h : checkP c = 0) : nets c = (rootsIn (rt c) (allP c)).map fun r => (allP c).filter fun p => decide (rt c p = r) := (nets_groups (allP_nodup (check_parts h).1)).symm
theorem nets_mem {c : Circuit} (h : checkP c = 0) {g : List Port} (hg : g ∈ nets c) : ∃ r ∈ rootsIn (rt c) (allP c), ∀ p, p ∈ g ↔ p ∈ allP c ∧ rt c p = r := by
  rw [nets_rt h] at hg
  obtain ⟨r, hr, rfl⟩ := List.mem_map.1 hg
  exact ⟨r, hr, fun p => by simp⟩

theorem nets_has {c : Circuit} (h : checkP c = 0) {p : Port} (hp : p ∈ allP c) : ∃ g ∈ nets c, p ∈ g := by
  refine ⟨(allP c).filter fun q => decide (rt c q = rt c p), ?_, by simp [hp]⟩
  rw [nets_rt h]
  exact List.mem_map.2 ⟨rt c p, rootsIn_mem.2 ⟨p, hp, rfl⟩, rfl⟩

theorem netP_at {c : Circuit} (h : checkP c = 0) {p : Port} (hp : p ∈ allP c) : ∃ (i : Nat) (g : List Port), netP c p = i ∧ (nets c)[i]? = some g ∧ p ∈ g := by
  unfold netP
  rcases idxI_cases (nets c) (fun l => decide (p ∈ l)) with ⟨h1, _⟩ | ⟨i, g, _, h2, h3, h4⟩
  · obtain ⟨g, hg, hpg⟩ := nets_has h hp
    have := List.findIdx?_eq_none_iff.1 h1 g hg
    simp [hpg] at this
  · exact ⟨i, g, h2, h3, by simpa using h4⟩

theorem netP_same {c : Circuit} (h : checkP c = 0) {p q : Port} (hp : p ∈ allP c) (hq : q ∈ allP c) : netP c p = netP c q ↔ Conn c.pipes p q := by
  constructor
  · intro he
    obtain ⟨i, g, h1, h2, h3⟩ := netP_at h hp
    obtain ⟨j, g2, k1, k2, k3⟩ := netP_at h hq
    rw [h1, k1] at he
    have hij : i = j := by omega
    subst hij
    rw [h2] at k2; cases k2
    obtain ⟨r, _, hm⟩ := nets_mem h (List.mem_of_getElem? h2)
    exact rt_iff.1 (((hm p).1 h3).2.trans ((hm q).1 k3).2.symm)
  · intro hc
    have hr := rt_iff.2 hc
    unfold netP
    refine idxI_congr fun g hg => ?_
    obtain ⟨r, _, hm⟩ := nets_mem h hg
    rw [decide_eq_decide, hm, hm, hr]
    simp [hp, hq]

end Go.Am
/- Plain laws: right circuits; a further pipe. -/
namespace Go.Am
open Go Go.Proofs Go.Pn

theorem pipeLt_irrefl (a : Pipe) : pipeLt a a = false := by simp [pipeLt, portLt_irrefl]
theorem pipeLt_trans {a b c : Pipe} (h : pipeLt a b = true) (k : pipeLt b c = true) : pipeLt a c = true := by
  unfold pipeLt at *
  by_cases e1 : a.fr = b.fr <;> by_cases e2 : b.fr = c.fr
  · rw [if_pos e1] at h; rw [if_pos e2] at k; rw [if_pos (e1.trans e2)]; exact portLt_trans h k
  · rw [if_neg e2] at k; rw [e1, if_neg e2]; exact k
  · rw [if_neg e1] at h; rw [← e2, if_neg e1]; exact h
  · rw [if_neg e1] at h; rw [if_neg e2] at k
    have := portLt_trans h k
    rw [if_neg]
    · exact this
    · intro e; rw [e, portLt_irrefl] at this; cases this
theorem pipeLt_asymm {a b : Pipe} (h : pipeLt a b = true) : pipeLt b a = false := by
  cases k : pipeLt b a with
  | false => rfl
  | true => have := pipeLt_trans h k; rw [pipeLt_irrefl] at this; cases this
theorem pipeLt_total {a b : Pipe} (h : pipeLt a b = false) (k : pipeLt b a = false) : a = b := by
  unfold pipeLt at *
  by_cases e1 : a.fr = b.fr
  · rw [if_pos e1] at h; rw [if_pos e1.symm] at k
    have e2 := portLt_total h k
    cases a; cases b; simp at e1 e2; rw [e1, e2]
  · rw [if_neg e1] at h; rw [if_neg (fun e => e1 e.symm)] at k
    exact (e1 (portLt_total h k)).elim

/-- The pipes are in order. -/
abbrev Asc (l : List Pipe) : Prop := l.Pairwise fun a b => pipeLt a b = true

theorem pipedF_true {x : Pipe} : ∀ {l o : List Pipe}, l.foldl (pipedStep x) (o, true) = (o ++ l, true)
  | [], o => by simp
  | y :: l, o => by
    rw [List.foldl_cons]
    have : pipedStep x (o, true) y = (o ++ [y], true) := by simp [pipedStep]
    rw [this, pipedF_true]; simp
theorem pipedF_false {x : Pipe} : ∀ {l o : List Pipe}, (let a := l.foldl (pipedStep x) (o, false); if a.2 then a.1 else a.1 ++ [x]) = o ++ (l.takeWhile (fun y => !pipeLt x y) ++ x :: l.dropWhile (fun y => !pipeLt x y))
  | [], o => by simp
  | y :: l, o => by
    rw [List.foldl_cons]
    by_cases h : pipeLt x y = true
    · have : pipedStep x (o, false) y = (o ++ [x] ++ [y], true) := by simp [pipedStep, h]
      rw [this, pipedF_true]; simp [h]
    · have h2 : pipeLt x y = false := by simpa using h
      have : pipedStep x (o, false) y = (o ++ [y], false) := by simp [pipedStep, h2]
      rw [this, pipedF_false]; simp [h2]
def pipeIx (l : List Pipe) (x : Pipe) : Nat := (l.takeWhile fun y => !pipeLt x y).length
theorem pipedL_split (l : List Pipe) (x : Pipe) : pipedL l x = l.takeWhile (fun y => !pipeLt x y) ++ x :: l.dropWhile (fun y => !pipeLt x y) := by
  have := pipedF_false (x := x) (l := l) (o := [])
  rw [List.nil_append] at this
  exact this
theorem pipeIx_le {l : List Pipe} {x : Pipe} : pipeIx l x ≤ l.length := by
  have := congrArg List.length (List.takeWhile_append_dropWhile (p := fun y => !pipeLt x y) (l := l))
  rw [List.length_append] at this
  unfold pipeIx; omega
theorem pipedL_at (l : List Pipe) (x : Pipe) : l.take (pipeIx l x) ++ x :: l.drop (pipeIx l x) = pipedL l x := by
  rw [pipedL_split]
  have h := List.takeWhile_append_dropWhile (p := fun y => !pipeLt x y) (l := l)
  have h1 : l.take (pipeIx l x) = l.takeWhile fun y => !pipeLt x y := by
    have e2 := congrArg (List.take (pipeIx l x)) h
    rw [← e2]
    exact List.take_left' rfl
  have h2 : l.drop (pipeIx l x) = l.dropWhile fun y => !pipeLt x y := by
    have e2 := congrArg (List.drop (pipeIx l x)) h
    rw [← e2]
    exact List.drop_left' rfl
  rw [h1, h2]
theorem pipedL_mem {l : List Pipe} {x y : Pipe} : y ∈ pipedL l x ↔ y ∈ l ∨ y = x := by
  rw [pipedL_split]
  have h := List.takeWhile_append_dropWhile (p := fun y => !pipeLt x y) (l := l)
  have : y ∈ l ↔ y ∈ l.takeWhile (fun y => !pipeLt x y) ∨ y ∈ l.dropWhile fun y => !pipeLt x y := by
    rw [← List.mem_append, h]
  rw [this]
  simp
  grind
theorem pipedL_length {l : List Pipe} {x : Pipe} : (pipedL l x).length = l.length + 1 := by
  rw [← pipedL_at]
  have := @pipeIx_le l x
  simp; omega
theorem takeWhile_all {α : Type} {p : α → Bool} : ∀ {l : List α}, ∀ y ∈ l.takeWhile p, p y = true
  | [], y, h => by simp at h
  | x :: l, y, h => by
    rw [List.takeWhile_cons] at h
    split at h
    · rename_i hp
      rcases List.mem_cons.1 h with rfl | h
      · exact hp
      · exact takeWhile_all y h
    · cases h
theorem dropWhile_head {α : Type} {p : α → Bool} : ∀ {l : List α} {z : α} {r : List α}, l.dropWhile p = z :: r → p z = false
  | [], z, r, h => by simp at h
  | x :: l, z, r, h => by
    rw [List.dropWhile_cons] at h
    split at h
    · exact dropWhile_head h
    · rename_i hp; cases h; simpa using hp
theorem piped_hi {l : List Pipe} {x : Pipe} (hl : Asc l) : ∀ z ∈ l.dropWhile (fun y => !pipeLt x y), pipeLt x z = true := by
  have hs : Asc (l.dropWhile fun y => !pipeLt x y) := hl.sublist (List.dropWhile_sublist _)
  have hh := @dropWhile_head Pipe (fun y => !pipeLt x y) l
  generalize l.dropWhile (fun y => !pipeLt x y) = d at hs hh
  intro z hz
  cases d with
  | nil => cases hz
  | cons w d =>
    have h1 : pipeLt x w = true := by simpa using hh rfl
    rcases List.mem_cons.1 hz with rfl | hz
    · exact h1
    · exact pipeLt_trans h1 ((List.pairwise_cons.1 hs).1 z hz)
theorem piped_lo {l : List Pipe} {x : Pipe} (hx : x ∉ l) : ∀ z ∈ l.takeWhile (fun y => !pipeLt x y), pipeLt z x = true := by
  intro z hz
  have h1 := takeWhile_all z hz
  simp at h1
  cases h : pipeLt z x with
  | true => rfl
  | false =>
    have := pipeLt_total h h1
    subst this
    exact (hx ((List.takeWhile_sublist _).subset hz)).elim
theorem pipedL_asc {l : List Pipe} {x : Pipe} (hl : Asc l) (hx : x ∉ l) : Asc (pipedL l x) := by
  rw [pipedL_split]
  have h1 := piped_hi (x := x) hl
  have h2 := piped_lo hx
  refine List.pairwise_append.2 ⟨hl.sublist (List.takeWhile_sublist _), List.pairwise_cons.2 ⟨h1, hl.sublist (List.dropWhile_sublist _)⟩, fun a ha b hb => ?_⟩
  rcases List.mem_cons.1 hb with rfl | hb
  · exact h2 a ha
  · exact pipeLt_trans (h2 a ha) (h1 b hb)
theorem pipeIx_lo {l : List Pipe} {x : Pipe} (hx : x ∉ l) (j : Nat) (y : Pipe) (hj : j < pipeIx l x) (e : l[j]? = some y) : pipeLt y x = true := by
  apply piped_lo hx
  have h := List.takeWhile_append_dropWhile (p := fun y => !pipeLt x y) (l := l)
  rw [← h, List.getElem?_append_left hj] at e
  exact List.mem_of_getElem? e
theorem pipeIx_hi {l : List Pipe} {x : Pipe} (hl : Asc l) (j : Nat) (y : Pipe) (hj : pipeIx l x ≤ j) (e : l[j]? = some y) : pipeLt x y = true := by
  apply piped_hi hl
  have h := List.takeWhile_append_dropWhile (p := fun y => !pipeLt x y) (l := l)
  rw [← h, List.getElem?_append_right hj] at e
  exact List.mem_of_getElem? e

/- ## right circuits -/
theorem firstErr_iff {f : Nat → Int} {n : Nat} : firstErr f n = 0 ↔ ∀ k, k < n → f k = 0 := by
  refine ⟨fun h k hk => firstErr_zero h hk, fun h => ?_⟩
  induction n with
  | zero => rfl
  | succ n ih => exact firstErr_next (ih fun k hk => h k (by omega)) (h n (by omega))

structure PartsOk (c : Circuit) : Prop where
  few : c.parts.length ≤ 64
  each : firstErr (partAt c) c.parts.length = 0
  owned : firstErr (ownerAt c) c.parts.length = 0

theorem asc_iff {l : List Pipe} : Asc l ↔ ∀ (k : Nat) x y, l[k]? = some x → l[k + 1]? = some y → pipeLt x y = true := by
  constructor
  · intro h k x y hx hy
    obtain ⟨h1, rfl⟩ := List.getElem?_eq_some_iff.1 hx
    obtain ⟨h2, rfl⟩ := List.getElem?_eq_some_iff.1 hy
    exact List.pairwise_iff_getElem.1 h k (k + 1) h1 h2 (by omega)
  · intro h
    refine List.pairwise_iff_getElem.2 ?_
    intro i j hi hj hij
    obtain ⟨d, rfl⟩ := Nat.exists_eq_add_of_lt hij
    induction d with
    | zero => exact h i _ _ (List.getElem?_eq_getElem hi) (List.getElem?_eq_getElem hj)
    | succ d ih => exact pipeLt_trans (ih (by omega) (by omega)) (h (i + d + 1) _ _ (List.getElem?_eq_getElem (by omega)) (List.getElem?_eq_getElem hj))

theorem cmpPipe_ge {a b : Pipe} : ¬ 0 ≤ cmpPipe a b ↔ pipeLt a b = true := by rw [← cmpPipe_lt]; omega
theorem cmpPort_ge {a b : Port} : ¬ 0 ≤ cmpPort a b ↔ portLt a b = true := by rw [← cmpPort_lt]; omega

theorem checkP_zero {c : Circuit} : checkP c = 0 ↔ PartsOk c ∧ c.pipes.length ≤ 256 ∧ (∀ x ∈ c.pipes, pipeErr c x = 0) ∧ Asc c.pipes := by
  have hp : firstErr (pipeAt c) c.pipes.length = 0 ↔ (∀ x ∈ c.pipes, pipeErr c x = 0) ∧ Asc c.pipes := by
    rw [firstErr_iff, asc_iff]
    constructor
    · intro h
      refine ⟨fun x hx => ?_, fun k x y hx hy => ?_⟩
      · obtain ⟨k, hk, e⟩ := List.getElem_of_mem hx
        have := h k hk
        simp only [pipeAt, List.getElem?_eq_getElem hk, e] at this
        apply Decidable.byContradiction
        intro hne
        rw [if_pos hne] at this
        exact hne this
      · have hk : k + 1 < c.pipes.length := (List.getElem?_eq_some_iff.1 hy).1
        have := h (k + 1) hk
        simp only [pipeAt, hy, Nat.add_sub_cancel, hx] at this
        split at this
        · rename_i h1; exact absurd this h1
        · split at this
          · cases this
          · rename_i h2; exact cmpPipe_ge.1 h2
    · rintro ⟨h1, h2⟩ k hk
      simp only [pipeAt, List.getElem?_eq_getElem hk]
      rw [if_neg (by simpa using h1 _ (List.getElem_mem hk))]
      cases k with
      | zero => rfl
      | succ k =>
        have hk2 : k < c.pipes.length := by omega
        simp only [Nat.add_sub_cancel, List.getElem?_eq_getElem hk2]
        rw [if_neg (cmpPipe_ge.2 (h2 k _ _ (List.getElem?_eq_getElem hk2) (List.getElem?_eq_getElem hk)))]
  unfold checkP
  constructor
  · intro h
    have a1 : ¬ 64 < c.parts.length := by intro h0; rw [if_pos h0] at h; simp at h
    rw [if_neg a1] at h
    have a2 : firstErr (partAt c) c.parts.length = 0 := by grind
    rw [if_neg (by simpa using a2)] at h
    have a3 : firstErr (ownerAt c) c.parts.length = 0 := by grind
    rw [if_neg (by simpa using a3)] at h
    have a4 : ¬ 256 < c.pipes.length := by intro h0; rw [if_pos h0] at h; simp at h
    rw [if_neg a4] at h
    exact ⟨⟨by omega, a2, a3⟩, by omega, hp.1 h⟩
  · rintro ⟨⟨a1, a2, a3⟩, a4, h⟩
    rw [if_neg (by omega), if_neg (by simpa using a2), if_neg (by simpa using a3), if_neg (by omega)]
    exact hp.2 h

theorem pipeErr_zero {c : Circuit} {x : Pipe} : pipeErr c x = 0 ↔ givenErr c x.fr = 0 ∧ givenErr c x.to = 0 ∧ portLt x.fr x.to = true := by
  unfold pipeErr givenErr
  rw [range_two, name_two]
  have h1 := @cmpPort_ge x.fr x.to
  have r1 := @range_is c x.fr
  have r2 := @range_is c x.to
  have n1 := @name_is c x.fr
  have n2 := @name_is c x.to
  generalize rangeErr c x.fr = a at *
  generalize rangeErr c x.to = b at *
  generalize nameErr c x.fr = d at *
  generalize nameErr c x.to = e at *
  generalize cmpPort x.fr x.to = k at *
  rw [← h1]
  grind

theorem given_mem {c : Circuit} {p : Port} : givenErr c p = 0 ↔ ∃ q, c.parts[p.part.toNat]? = some q ∧ 0 ≤ p.part ∧ p.name ∈ portsOf q := by
  by_cases hr : p.part < 0 ∨ (c.parts.length : Int) ≤ p.part
  · have h1 : rangeErr c p = 2 := if_pos hr
    have h2 : givenErr c p = 2 := by rw [givenErr, h1]; rfl
    rw [h2]
    constructor
    · intro h; cases h
    · rintro ⟨q, e, h0, _⟩
      have hl := (List.getElem?_eq_some_iff.1 e).1
      omega
  · have h1 : rangeErr c p = 0 := if_neg hr
    have h2 : givenErr c p = nameErr c p := by rw [givenErr, h1]; rfl
    rw [h2, nameErr]
    obtain ⟨q, e⟩ := get_lt (xs := c.parts) (k := p.part.toNat) (by omega)
    rw [e]
    by_cases hm : p.name ∈ portsOf q
    · simp only [hm, if_true]
      exact ⟨fun _ => ⟨q, rfl, by omega, hm⟩, fun _ => trivial⟩
    · simp only [hm, if_false]
      constructor
      · intro h; cases h
      · rintro ⟨q2, e2, _, h3⟩
        cases e2
        exact (hm h3).elim

theorem allUp_mem {c : Circuit} {p : Port} : ∀ {k : Nat}, p ∈ allUp c k ↔ ∃ i q, i < k ∧ c.parts[i]? = some q ∧ p.part = (i : Int) ∧ p.name ∈ portsOf q
  | 0 => by simp [allUp]
  | k + 1 => by
    simp only [allUp, List.mem_append]
    rw [allUp_mem (k := k)]
    constructor
    · rintro (⟨i, q, h1, h2⟩ | h)
      · exact ⟨i, q, by omega, h2⟩
      · cases e : c.parts[k]? with
        | none => rw [e] at h; cases h
        | some q =>
          rw [e] at h
          obtain ⟨s, hs, rfl⟩ := List.mem_map.1 h
          exact ⟨k, q, by omega, e, rfl, hs⟩
    · rintro ⟨i, q, h1, h2, h3, h4⟩
      by_cases e : i = k
      · subst e
        right
        rw [h2]
        exact List.mem_map.2 ⟨p.name, h4, by cases p; simp at h3; rw [h3]⟩
      · exact .inl ⟨i, q, by omega, h2, h3, h4⟩
theorem allP_mem {c : Circuit} {p : Port} : p ∈ allP c ↔ givenErr c p = 0 := by
  unfold allP
  rw [allUp_mem, given_mem]
  constructor
  · rintro ⟨i, q, h1, h2, h3, h4⟩
    exact ⟨q, by rw [h3, Int.toNat_natCast]; exact h2, by omega, h4⟩
  · rintro ⟨q, h1, h2, h3⟩
    exact ⟨p.part.toNat, q, (List.getElem?_eq_some_iff.1 h1).1, h1, by omega, h3⟩

theorem joinErr_zero {c : Circuit} {a b : Port} : joinErr c a b = 0 ↔ checkP c = 0 ∧ givenErr c a = 0 ∧ givenErr c b = 0 ∧ pipeOf a b ∉ c.pipes ∧ a ≠ b ∧ c.pipes.length ≠ 256 := by
  unfold joinErr
  constructor
  · intro h
    have a1 : checkP c = 0 := by grind
    have a2 : givenErr c a = 0 := by grind
    have a3 : givenErr c b = 0 := by grind
    rw [if_neg (by simpa using a1), if_neg (by simpa using a2), if_neg (by simpa using a3)] at h
    grind
  · rintro ⟨a1, a2, a3, a4, a5, a6⟩
    rw [if_neg (by simpa using a1), if_neg (by simpa using a2), if_neg (by simpa using a3), if_neg a4, if_neg a5, if_neg a6]

theorem pipeOf_lt {a b : Port} (h : a ≠ b) : portLt (pipeOf a b).fr (pipeOf a b).to = true := by
  unfold pipeOf
  split
  · rename_i h1; exact h1
  · rename_i h1
    cases h2 : portLt a b with
    | true => rfl
    | false => exact (h (portLt_total h2 (by simpa using h1))).elim
theorem pipeOf_ends {a b : Port} : ((pipeOf a b).fr = a ∧ (pipeOf a b).to = b) ∨ ((pipeOf a b).fr = b ∧ (pipeOf a b).to = a) := by
  unfold pipeOf
  split <;> simp
theorem joinP_is {c : Circuit} {a b : Port} (h : joinErr c a b = 0) : joinP c a b = ⟨c.parts, pipedL c.pipes (pipeOf a b)⟩ := by
  rw [joinP, if_neg (by simpa using h)]
theorem joinP_check {c : Circuit} {a b : Port} (h : joinErr c a b = 0) : checkP (joinP c a b) = 0 := by
  obtain ⟨h1, h2, h3, h4, h5, h6⟩ := joinErr_zero.1 h
  obtain ⟨k1, k2, k3, k4⟩ := checkP_zero.1 h1
  rw [joinP_is h]
  refine checkP_zero.2 ⟨⟨k1.few, k1.each, k1.owned⟩, ?_, fun x hx => ?_, pipedL_asc k4 h4⟩
  · show (pipedL c.pipes (pipeOf a b)).length ≤ 256
    rw [pipedL_length]; omega
  · show pipeErr c x = 0
    rcases pipedL_mem.1 hx with hx | rfl
    · exact k3 x hx
    · refine pipeErr_zero.2 ⟨?_, ?_, pipeOf_lt h5⟩
      · rcases @pipeOf_ends a b with ⟨e, _⟩ | ⟨e, _⟩ <;> rw [e] <;> assumption
      · rcases @pipeOf_ends a b with ⟨_, e⟩ | ⟨_, e⟩ <;> rw [e] <;> assumption
theorem joinP_sized {c : Circuit} {a b : Port} (hs : Sized c) : Sized (joinP c a b) := by
  unfold joinP
  split
  · exact empty_sized
  · rename_i h
    have h0 : joinErr c a b = 0 := by simpa using h
    have h2 := check_parts (joinErr_zero.1 h0).1
    refine ⟨hs.parts, ?_, hs.names⟩
    show (pipedL c.pipes (pipeOf a b)).length < _
    rw [pipedL_length]; omega

end Go.Am
