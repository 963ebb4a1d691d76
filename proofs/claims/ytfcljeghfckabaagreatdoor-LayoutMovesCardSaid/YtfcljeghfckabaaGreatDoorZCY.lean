/- Lemmas and contracts for the proof of a statement of this seat. -/
import Derived.Test.YtfcljeghfckabaaGreatDoorZCX
set_option linter.unusedVariables false
set_option linter.unusedSimpArgs false
/- Contracts: places in order, and their checks; chapter 25. -/
namespace Go.Am
open Go Go.Proofs Go.Pn


theorem plc_eq {x v : Plc} : (decide (v.row = x.row) && decide (v.col = x.col)) = decide (x = v) := by
  cases x; cases v
  rw [Bool.eq_iff_iff]
  simp
  constructor
  · rintro ⟨h1, h2⟩; exact ⟨h1.symm, h2.symm⟩
  · rintro ⟨h1, h2⟩; exact ⟨h1.symm, h2.symm⟩
@[simp] theorem Plc.eq_iff3 {p q : Plc} : (decide (p.row = q.row) && decide (p.col = q.col)) = decide (p = q) := by
  cases p; cases q; rw [Bool.eq_iff_iff]; simp
theorem c_Idx_Plc (xs : List Plc) (v : Plc) (hl : xs.length < 4611686018427387904) : Pure Go.Proofs.Tryz.prog GL 121 [.p (.lst 2 (xs.map Plc.enc)), Plc.av v] (.p (.int .i64 (idxI xs fun x => decide (x = v)))) := by
  refine Pure.of_walk (N := 19) Go.Proofs.Tryz.func121 rfl rfl rfl (by simp) (by first | (simp; done) | simp [*]) ?_
  simp
  refine XLoop.go [0, 3, 7] [0] 0 [] (fun _ => []) (fun _ (k : Nat) => [(8, .p (.int .i64 k))]) (fun _ _ => []) (fun k => k ≤ xs.length ∧ ∀ (j : Nat) x, j < k → xs[j]? = some x → decide (x = v) = false) (fun k => xs.length - k) 0 ⟨by omega, fun j b h => by omega⟩ ?_ ?_
  · simp
  · rintro k ⟨hk, hp⟩
    simp
    refine xif_split (fun h => ?_) (fun h => ?_)
    · simp at h
      obtain ⟨x, e⟩ := get_lt h
      simp <;> refine XDraw.intro (by kernel_rfl) ?_
      simp [h, e, -getElem?_pos, List.getElem?_cons_zero, List.getElem?_cons_succ]
      refine ⟨.of (by kernel_rfl), ?_⟩
      refine xif_split (fun h2 => ?_) (fun h2 => ?_)
      · have h3 : decide (x = v) = true := by first | grind | (rw [← plc_eq]; exact h2)
        simp [XEndT, idxI_at (q := fun x => decide (x = v)) e h3 hp]
      · have h3 : decide (x = v) = false := by first | grind | (rw [← plc_eq]; exact h2)
        simp
        refine ⟨wrap_i64 (by omega) (by omega), k + 1, ⟨by omega, ?_⟩, by omega, ?_⟩
        · simpa using below_next (P := fun x => decide (x = v) = false) hp e h3
        · simp
    · simp at h
      have hk2 : k = xs.length := by omega
      subst hk2
      simp [XEndT, idxI_none (q := fun x => decide (x = v)) (below_all hp)]

theorem c_Con_Plc (xs : List Plc) (v : Plc) (hl : xs.length < 4611686018427387904) : Pure Go.Proofs.Tryz.prog GL 88 [.p (.lst 2 (xs.map Plc.enc)), Plc.av v] (.p (.bool (decide (v ∈ xs)))) := by
  refine Pure.of_walk (N := 9) Go.Proofs.Tryz.func88 rfl rfl rfl (by simp) (by first | (simp; done) | simp [*]) ?_
  simp
  refine xcall_pure (c_Idx_Plc xs v hl) ?_
  simp [XEndT, idxI_nonneg]


/- ## the first error -/
def firstE (f : Nat → Int) : Nat → Int
  | 0 => 0
  | n + 1 => if firstE f n ≠ 0 then firstE f n else f n
theorem firstE_zero {f : Nat → Int} : ∀ {n : Nat}, firstE f n = 0 ↔ ∀ i, i < n → f i = 0
  | 0 => by simp [firstE]
  | n + 1 => by
    unfold firstE
    have ih := firstE_zero (f := f) (n := n)
    by_cases h : firstE f n = 0
    · rw [if_neg (by simpa using h)]
      constructor
      · intro h1 i hi
        rcases Nat.lt_succ_iff_lt_or_eq.1 hi with h2 | h2
        · exact ih.1 h i h2
        · rw [h2]; exact h1
      · intro h1; exact h1 n (by omega)
    · rw [if_pos h]
      constructor
      · intro h1; exact absurd h1 h
      · intro h1; exact absurd (ih.2 fun i hi => h1 i (by omega)) h
theorem firstE_at {f : Nat → Int} {k : Nat} (h0 : firstE f k = 0) (hk : f k ≠ 0) : ∀ {n : Nat}, k < n → firstE f n = f k
  | 0, h => by omega
  | n + 1, h => by
    unfold firstE
    rcases Nat.lt_succ_iff_lt_or_eq.1 h with h2 | h2
    · have := firstE_at h0 hk h2
      rw [if_pos (by rw [this]; exact hk), this]
    · subst h2
      rw [if_neg (by simpa using h0)]
theorem firstE_snoc {f : Nat → Int} {k : Nat} (h0 : firstE f k = 0) (hk : f k = 0) : firstE f (k + 1) = 0 := by
  unfold firstE; rw [if_neg (by simpa using h0), hk]

/-- The error of a place. -/
def plcErr (c : Circuit) (l : List Plc) (i : Nat) : Int := match l[i]? with
  | none => 0
  | some p => if p.row ≠ levelOf c i then 3 else if p.col < 0 ∨ 64 ≤ p.col then 2 else if p ∈ l.take i then 7 else 0
def placedE (c : Circuit) (l : List Plc) : Int := if l.length ≠ c.parts.length then 8 else firstE (plcErr c l) l.length
def layE (c : Circuit) (l : List Plc) : Int := if checkP c ≠ 0 then checkP c else placedE c l

/-- What right places are. -/
structure LayOk (c : Circuit) (l : List Plc) : Prop where
  len : l.length = c.parts.length
  row : ∀ (i : Nat) p, l[i]? = some p → p.row = levelOf c i
  col : ∀ p ∈ l, 0 ≤ p.col ∧ p.col < 64
  nd : l.Nodup
theorem nodup_take {α : Type} {l : List α} : l.Nodup ↔ ∀ (i : Nat) p, l[i]? = some p → p ∉ l.take i := by
  constructor
  · intro h i p hp hm
    obtain ⟨j, hj⟩ := List.mem_iff_getElem?.1 hm
    have hjl := (List.getElem?_eq_some_iff.1 hj).1
    rw [List.length_take] at hjl
    rw [List.getElem?_take_of_lt (by omega)] at hj
    obtain ⟨hj2, e⟩ := List.getElem?_eq_some_iff.1 hj
    obtain ⟨hi, e2⟩ := List.getElem?_eq_some_iff.1 hp
    exact (List.pairwise_iff_getElem.1 h j i hj2 hi (by omega)) (by rw [e, e2])
  · intro h
    rw [List.Nodup, List.pairwise_iff_getElem]
    intro i j hi hj hij e
    refine h j l[j] (List.getElem?_eq_getElem hj) ?_
    exact List.mem_iff_getElem?.2 ⟨i, by rw [List.getElem?_take_of_lt hij, List.getElem?_eq_getElem hi, e]⟩
theorem placedE_zero {c : Circuit} {l : List Plc} : placedE c l = 0 ↔ LayOk c l := by
  unfold placedE
  by_cases hl : l.length = c.parts.length
  · rw [if_neg (by simpa using hl), firstE_zero]
    constructor
    · intro h
      have h1 : ∀ (i : Nat) p, l[i]? = some p → p.row = levelOf c i ∧ (0 ≤ p.col ∧ p.col < 64) ∧ p ∉ l.take i := fun i p hp => by
        have := h i (List.getElem?_eq_some_iff.1 hp).1
        unfold plcErr at this
        rw [hp] at this
        simp only at this
        by_cases a1 : p.row ≠ levelOf c i
        · rw [if_pos a1] at this; simp at this
        · rw [if_neg a1] at this
          by_cases a2 : p.col < 0 ∨ 64 ≤ p.col
          · rw [if_pos a2] at this; simp at this
          · rw [if_neg a2] at this
            by_cases a3 : p ∈ l.take i
            · rw [if_pos a3] at this; simp at this
            · exact ⟨by simpa using a1, by omega, a3⟩
      refine ⟨hl, fun i p hp => (h1 i p hp).1, fun p hp => ?_, nodup_take.2 fun i p hp => (h1 i p hp).2.2⟩
      obtain ⟨i, hi⟩ := List.mem_iff_getElem?.1 hp
      exact (h1 i p hi).2.1
    · rintro ⟨_, h1, h2, h3⟩ i hi
      have hp := List.getElem?_eq_getElem hi
      have hc := h2 _ (List.getElem_mem hi)
      unfold plcErr
      rw [hp]
      simp only
      rw [if_neg (by simpa using h1 i _ hp), if_neg (by omega), if_neg (nodup_take.1 h3 i _ hp)]
  · rw [if_pos hl]
    constructor
    · intro h; simp at h
    · intro h; exact absurd h.len hl
theorem layE_zero {c : Circuit} {l : List Plc} : layE c l = 0 ↔ checkP c = 0 ∧ LayOk c l := by
  unfold layE
  by_cases h : checkP c = 0
  · rw [if_neg (by simpa using h), placedE_zero]; simp [h]
  · rw [if_pos h]; simp [h]

set_option maxRecDepth 20000 in
theorem c_layout_placed (c : Circuit) (l : List Plc) (hs : Sized c) (h : checkP c = 0) : Pure Go.Proofs.Tryz.prog GL 50 [c.av, .p (.lst 2 (l.map Plc.enc))] (.p (.int .i64 (placedE c l))) := by
  refine Pure.of_walk (N := 47) Go.Proofs.Tryz.func50 rfl rfl rfl (by simp) (by first | (simp; done) | simp [*]) ?_
  have h2 := check_parts h
  have hrw := c_layout_rows c hs h
  have hlv : (levelsL c).length = c.parts.length := levelsT_len
  simp
  by_cases hl : l.length = c.parts.length
  · have hpe : placedE c l = firstE (plcErr c l) l.length := by unfold placedE; rw [if_neg (by simpa using hl)]
    rw [hpe]
    simp [hl]
    refine xcall_pure hrw ?_
    simp
    refine XLoop.go [1, 5, 16, 17] [] 0 [] (fun _ => []) (fun _ (k : Nat) => [(18, .p (.int .i64 k))]) (fun _ _ => []) (fun k => k ≤ l.length ∧ firstE (plcErr c l) k = 0) (fun k => l.length - k) 0 ⟨by omega, rfl⟩ ?_ ?_
    · simp
      try decide
    · rintro k ⟨hk, hp⟩
      simp
      refine xif_split (fun h3 => ?_) (fun h3 => ?_)
      · simp at h3
        obtain ⟨p, e⟩ := get_lt h3
        have hrow := levelsL_at (c := c) (i := k) (by omega)
        have hCon := c_Con_Plc (l.take k) p (by simp; omega)
        have hkl : k < (levelsL c).length := by omega
        have hpe : plcErr c l k = if p.row ≠ levelOf c k then 3 else if p.col < 0 ∨ 64 ≤ p.col then 2 else if p ∈ l.take k then 7 else 0 := by unfold plcErr; rw [e]
        have hbad : plcErr c l k ≠ 0 → firstE (plcErr c l) l.length = plcErr c l k := fun hne => firstE_at hp hne h3
        have hgood : plcErr c l k = 0 → firstE (plcErr c l) (k + 1) = 0 := fun hz => firstE_snoc hp hz
        have hk3 : (k : Int) ≤ l.length := by omega
        simp [h3, e, Plc.enc, -getElem?_pos, List.getElem?_cons_zero, List.getElem?_cons_succ]
        refine XDraw.intro (by kernel_rfl) ?_
        simp [hkl, hrow, Int.enc, -getElem?_pos, List.getElem?_cons_zero, List.getElem?_cons_succ]
        refine ⟨.of (by kernel_rfl), ?_⟩
        by_cases h4 : p.row = levelOf c k
        · rw [if_neg (by simpa using h4)] at hpe
          simp [h4]
          by_cases h5 : p.col < 0 ∨ 64 ≤ p.col
          · rw [if_pos h5] at hpe
            have hb := hbad (by rw [hpe]; simp)
            rw [hb, hpe]
            by_cases h6 : p.col < 0
            · simp [h6, XEndT]
            · have h7 : 64 ≤ p.col := by omega
              simp [h6, h7, XEndT]
          · rw [if_neg h5] at hpe
            have h6 : ¬ p.col < 0 := by omega
            have h7 : ¬ 64 ≤ p.col := by omega
            simp [h6, h7]
            refine XDraw.intro (by kernel_rfl) ?_
            have hCon2 : Pure Go.Proofs.Tryz.prog GL 88 [.p (.lst 2 ((l.map Plc.enc).take k)), .agg [.p (.int .i64 (levelOf c k)), .p (.int .i64 p.col)]] (.p (.bool (decide (p ∈ l.take k)))) := by
              rw [← List.map_take, ← h4]; exact hCon
            simp [hk3]
            refine ⟨by omega, ?_⟩
            refine xcall_pure hCon2 ?_
            simp
            refine ⟨.of (by kernel_rfl), ?_⟩
            by_cases h8 : p ∈ l.take k
            · rw [if_pos h8] at hpe
              have hb := hbad (by rw [hpe]; simp)
              rw [hb, hpe]
              simp [h8, XEndT]
            · rw [if_neg h8] at hpe
              simp [h8]
              refine ⟨wrap_i64 (by omega) (by omega), k + 1, ⟨by omega, hgood hpe⟩, by omega, ?_⟩
              simp
        · rw [if_pos h4] at hpe
          have hb := hbad (by rw [hpe]; simp)
          rw [hb, hpe]
          simp [h4, XEndT]
      · simp at h3
        have hkk : k = l.length := by omega
        rw [hkk] at hp
        simp [XEndT, hp]
  · have hpe : placedE c l = 8 := by unfold placedE; rw [if_pos hl]
    rw [hpe]
    have hl' : ¬ ((l.length : Int) = c.parts.length) := by omega
    simp [hl, hl', XEndT]

theorem c_layout_Check (c : Circuit) (l : List Plc) (hs : Sized c) : Pure Go.Proofs.Tryz.prog GL 25 [c.av, .p (.lst 2 (l.map Plc.enc))] (.p (.int .i64 (layE c l))) := by
  refine Pure.of_walk (N := 14) Go.Proofs.Tryz.func25 rfl rfl rfl (by simp) (by first | (simp; done) | simp [*]) ?_
  simp
  refine xcall_pure (c_circuit_Check c hs) ?_
  by_cases h : checkP c = 0
  · have hp := c_layout_placed c l hs h
    have he : layE c l = placedE c l := if_neg (by simpa using h)
    rw [he]
    simp [h]
    refine xcall_pure hp ?_
    simp [XEndT]
  · have he : layE c l = checkP c := if_pos h
    rw [he]
    simp [h, XEndT]

end Go.Am
/- Contracts: the reference's check of places; rows of parts; places in order; chapter 25. -/
namespace Go.Am
open Go Go.Proofs Go.Pn

set_option maxRecDepth 20000 in
theorem c_pneumaticref25_Check (c : Circuit) (l : List Plc) (hs : Sized c) : Pure Go.Proofs.Tryz.prog GL 29 [c.av, .p (.lst 2 (l.map Plc.enc))] (.p (.int .i64 (layE c l))) := by
  refine Pure.of_walk (N := 66) Go.Proofs.Tryz.func29 rfl rfl rfl (by simp) (by first | (simp; done) | simp [*]) ?_
  simp
  refine xcall_pure (c_pneumaticref21_Check c hs) ?_
  by_cases h : checkP c = 0
  · have h2 := check_parts h
    have hLs := c_pneumaticref25_Levels c hs h
    have hlv : (levelsL c).length = c.parts.length := levelsT_len
    have he : layE c l = placedE c l := if_neg (by simpa using h)
    rw [he]
    simp [h]
    by_cases hl : l.length = c.parts.length
    · have hpe : placedE c l = firstE (plcErr c l) l.length := by unfold placedE; rw [if_neg (by simpa using hl)]
      rw [hpe]
      simp [hl]
      refine xcall_pure hLs ?_
      simp
      refine XLoop.go [1, 6] [0] 0 [] (fun _ => []) (fun _ (k : Nat) => [(7, .p (.int .i64 k))]) (fun _ _ => []) (fun k => k ≤ l.length ∧ firstE (plcErr c l) k = 0) (fun k => l.length - k) 0 ⟨by omega, rfl⟩ ?_ ?_
      · simp
        try decide
      · rintro k ⟨hk, hp⟩
        simp
        refine xif_split (fun h3 => ?_) (fun h3 => ?_)
        · simp at h3
          obtain ⟨p, e⟩ := get_lt h3
          have hrow := levelsL_at (c := c) (i := k) (by omega)
          have hkl : k < (levelsL c).length := by omega
          have hpe : plcErr c l k = if p.row ≠ levelOf c k then 3 else if p.col < 0 ∨ 64 ≤ p.col then 2 else if p ∈ l.take k then 7 else 0 := by unfold plcErr; rw [e]
          have hbad : plcErr c l k ≠ 0 → firstE (plcErr c l) l.length = plcErr c l k := fun hne => firstE_at hp hne h3
          have hgood : plcErr c l k = 0 → firstE (plcErr c l) (k + 1) = 0 := fun hz => firstE_snoc hp hz
          simp
          refine XDraw.intro (by kernel_rfl) ?_
          simp [h3, e, Plc.enc, hkl, hrow, Int.enc, -getElem?_pos, List.getElem?_cons_zero, List.getElem?_cons_succ]
          refine ⟨.of (by kernel_rfl), ?_⟩
          by_cases h4 : p.row = levelOf c k
          · rw [if_neg (by simpa using h4)] at hpe
            by_cases h5 : p.col < 0 ∨ 64 ≤ p.col
            · rw [if_pos h5] at hpe
              have hb := hbad (by rw [hpe]; simp)
              rw [hb, hpe]
              by_cases h6 : p.col < 0
              · simp [h3, e, Plc.enc, h4, h6, -getElem?_pos, List.getElem?_cons_zero, List.getElem?_cons_succ]
                simp [XEndT]
              · have h7 : 64 ≤ p.col := by omega
                simp [h3, e, Plc.enc, h4, h6, h7, -getElem?_pos, List.getElem?_cons_zero, List.getElem?_cons_succ]
                simp [XEndT]
            · rw [if_neg h5] at hpe
              have h6 : ¬ p.col < 0 := by omega
              have h7 : ¬ 64 ≤ p.col := by omega
              simp [h3, e, Plc.enc, h4, h6, h7, -getElem?_pos, List.getElem?_cons_zero, List.getElem?_cons_succ]
              refine XLoop.go [1, 6, 7] [0] 0 [] (fun _ => []) (fun _ (j : Nat) => [(8, .p (.int .i64 j))]) (fun _ _ => []) (fun j => j ≤ k ∧ ∀ (i : Nat) x, i < j → l[i]? = some x → decide (x = p) = false) (fun j => k - j) 0 ⟨by omega, fun i b h => by omega⟩ ?_ ?_
              · simp
                try decide
              · rintro j ⟨hj, hpj⟩
                simp
                refine xif_split (fun h8 => ?_) (fun h8 => ?_)
                · simp at h8
                  obtain ⟨x, ex⟩ := get_lt (xs := l) (k := j) (by omega)
                  have hjl : j < l.length := by omega
                  simp
                  refine XDraw.intro (by kernel_rfl) ?_
                  simp [h3, e, hjl, ex, Plc.enc, -getElem?_pos, List.getElem?_cons_zero, List.getElem?_cons_succ]
                  refine ⟨.of (by kernel_rfl), ?_⟩
                  by_cases hx : x = p
                  · have hmem : p ∈ l.take k := List.mem_iff_getElem?.2 ⟨j, by rw [List.getElem?_take_of_lt (by omega), ex, hx]⟩
                    rw [if_pos hmem] at hpe
                    have hb := hbad (by rw [hpe]; simp)
                    rw [hb, hpe]
                    simp [hx, XEndT]
                  · simp [hx]
                    refine ⟨wrap_i64 (by omega) (by omega), j + 1, ⟨by omega, fun i y hi hy => ?_⟩, by omega, ?_⟩
                    · rcases Nat.lt_succ_iff_lt_or_eq.1 hi with h9 | h9
                      · simpa using hpj i y h9 hy
                      · subst h9
                        rw [ex] at hy; cases hy
                        simpa using hx
                    · simp
                · simp at h8
                  have hnm : p ∉ l.take k := fun hm => by
                    obtain ⟨i, ei⟩ := List.mem_iff_getElem?.1 hm
                    have hil := (List.getElem?_eq_some_iff.1 ei).1
                    rw [List.length_take] at hil
                    rw [List.getElem?_take_of_lt (by omega)] at ei
                    have := hpj i p (by omega) ei
                    simp at this
                  rw [if_neg hnm] at hpe
                  simp
                  refine ⟨wrap_i64 (by omega) (by omega), k + 1, ⟨by omega, hgood hpe⟩, by omega, ?_⟩
                  simp
          · rw [if_pos h4] at hpe
            have hb := hbad (by rw [hpe]; simp)
            rw [hb, hpe]
            simp [h4, XEndT]
        · simp at h3
          have hkk : k = l.length := by omega
          rw [hkk] at hp
          simp [XEndT, hp]
    · have hpe : placedE c l = 8 := by unfold placedE; rw [if_pos hl]
      rw [hpe]
      have hl' : ¬ ((l.length : Int) = c.parts.length) := by omega
      simp [hl, hl', XEndT]
  · have he : layE c l = checkP c := if_pos h
    rw [he]
    simp [h, XEndT]

/- ## rows -/
def rowErr (c : Circuit) (i : Int) : Int := if checkP c ≠ 0 then checkP c else if i < 0 ∨ (c.parts.length : Int) ≤ i then 2 else 0
def rowRes (c : Circuit) (i : Int) : Int := if rowErr c i ≠ 0 then 0 else levelOf c i

theorem c_layout_Row (c : Circuit) (i : Int) (hs : Sized c) : Pure Go.Proofs.Tryz.prog GL 26 [c.av, .p (.int .i64 i)] (.tup [.p (.int .i64 (rowRes c i)), .p (.int .i64 (rowErr c i))]) := by
  refine Pure.of_walk (N := 26) Go.Proofs.Tryz.func26 rfl rfl rfl (by simp) (by first | (simp; done) | simp [*]) ?_
  simp
  refine xcall_pure (c_circuit_Check c hs) ?_
  by_cases h : checkP c = 0
  · have hrw := c_layout_rows c hs h
    simp [h]
    by_cases hr : i < 0 ∨ (c.parts.length : Int) ≤ i
    · have he : rowErr c i = 2 := by unfold rowErr; rw [if_neg (by simpa using h), if_pos hr]
      have hr2 : rowRes c i = 0 := by unfold rowRes; rw [he, if_pos (by simp)]
      rw [he, hr2]
      by_cases h1 : i < 0
      · simp [h1, XEndT]
      · have h3 : (c.parts.length : Int) ≤ i := by omega
        simp [h1, h3, XEndT]
    · have he : rowErr c i = 0 := by unfold rowErr; rw [if_neg (by simpa using h), if_neg hr]
      have hr2 : rowRes c i = levelOf c i := by unfold rowRes; rw [he, if_neg (by simp)]
      rw [he, hr2]
      obtain ⟨k, rfl⟩ : ∃ k : Nat, i = k := ⟨i.toNat, by omega⟩
      have h1 : ¬ ((k : Int) < 0) := by omega
      have h3 : ¬ c.parts.length ≤ k := by omega
      have hlv : (levelsL c).length = c.parts.length := levelsT_len
      have hrow := levelsL_at (c := c) (i := k) (by omega)
      have hkl : k < (levelsL c).length := by omega
      simp [h1, h3]
      refine xcall_pure hrw ?_
      simp [hkl, hrow, Int.enc, -getElem?_pos, List.getElem?_cons_zero, List.getElem?_cons_succ]
      simp [XEndT]
  · have he : rowErr c i = checkP c := by unfold rowErr; rw [if_pos h]
    have hr2 : rowRes c i = 0 := by unfold rowRes; rw [he, if_pos h]
    rw [he, hr2]
    simp [h, XEndT]

theorem c_pneumaticref25_Row (c : Circuit) (i : Int) (hs : Sized c) : Pure Go.Proofs.Tryz.prog GL 27 [c.av, .p (.int .i64 i)] (.tup [.p (.int .i64 (rowRes c i)), .p (.int .i64 (rowErr c i))]) := by
  refine Pure.of_walk (N := 24) Go.Proofs.Tryz.func27 rfl rfl rfl (by simp) (by first | (simp; done) | simp [*]) ?_
  simp
  refine xcall_pure (c_pneumaticref21_Check c hs) ?_
  by_cases h : checkP c = 0
  · simp [h]
    by_cases hr : i < 0 ∨ (c.parts.length : Int) ≤ i
    · have he : rowErr c i = 2 := by unfold rowErr; rw [if_neg (by simpa using h), if_pos hr]
      have hr2 : rowRes c i = 0 := by unfold rowRes; rw [he, if_pos (by simp)]
      rw [he, hr2]
      by_cases h1 : i < 0
      · simp [h1, XEndT]
      · have h3 : (c.parts.length : Int) ≤ i := by omega
        simp [h1, h3, XEndT]
    · have he : rowErr c i = 0 := by unfold rowErr; rw [if_neg (by simpa using h), if_neg hr]
      have hr2 : rowRes c i = levelOf c i := by unfold rowRes; rw [he, if_neg (by simp)]
      rw [he, hr2]
      obtain ⟨k, rfl⟩ : ∃ k : Nat, i = k := ⟨i.toNat, by omega⟩
      have h1 : ¬ ((k : Int) < 0) := by omega
      have h3 : ¬ c.parts.length ≤ k := by omega
      have hL := c_pneumaticref25_Level c k hs h (by omega)
      simp [h1, h3]
      refine xcall_pure hL ?_
      simp [XEndT]
  · have he : rowErr c i = checkP c := by unfold rowErr; rw [if_pos h]
    have hr2 : rowRes c i = 0 := by unfold rowRes; rw [he, if_pos h]
    rw [he, hr2]
    simp [h, XEndT]

end Go.Am
/- Contracts: places in order; chapter 25. -/
namespace Go.Am
open Go Go.Proofs Go.Pn

/-- How many of the first parts are in a row. -/
def cntT (c : Circuit) (r : Int) (k : Nat) : Nat := ((levelsT c k).filter fun x => decide (x = r)).length
theorem cntT_le {c : Circuit} {r : Int} {k : Nat} : cntT c r k ≤ k := by
  have h1 := List.length_filter_le (fun x => decide (x = r)) (levelsT c k)
  have h2 := @levelsT_len c k
  unfold cntT; omega
theorem cntT_snoc {c : Circuit} {r : Int} {k : Nat} : cntT c r (k + 1) = cntT c r k + if levelOf c k = r then 1 else 0 := by
  unfold cntT
  rw [levelsT_snoc, List.filter_append, List.length_append]
  by_cases h : levelOf c k = r <;> simp [h]
def placedT (c : Circuit) (k : Nat) : List Plc := (List.range k).map fun (i : Nat) => ⟨levelOf c i, cntT c (levelOf c i) i⟩
/-- The places in order. -/
def placedL (c : Circuit) : List Plc := placedT c c.parts.length
theorem placedT_len {c : Circuit} {k : Nat} : (placedT c k).length = k := by simp [placedT]
theorem placedT_snoc {c : Circuit} {k : Nat} : placedT c (k + 1) = placedT c k ++ [⟨levelOf c k, cntT c (levelOf c k) k⟩] := by simp [placedT, List.range_succ]
def nxtI (c : Circuit) (k : Nat) : List Int := (List.range 5).map fun (r : Nat) => (cntT c r k : Int)
theorem nxtI_len {c : Circuit} {k : Nat} : (nxtI c k).length = 5 := by simp [nxtI]
theorem nxtI_zero {c : Circuit} : nxtI c 0 = [0, 0, 0, 0, 0] := by simp [nxtI, cntT, levelsT, List.range, List.range.loop]
theorem nxtI_at {c : Circuit} {k r : Nat} (h : r < 5) : (nxtI c k)[r]? = some (cntT c r k : Int) := by simp [nxtI, h]
theorem nxtI_set {c : Circuit} {k r : Nat} (h : r < 5) (hr : levelOf c k = r) : (nxtI c k).set r ((cntT c r k : Int) + 1) = nxtI c (k + 1) := by
  apply List.ext_getElem?
  intro j
  rw [List.getElem?_set, nxtI_len]
  by_cases e : r = j
  · subst e
    rw [if_pos rfl, if_pos h, nxtI_at h, cntT_snoc, if_pos hr]; simp
  · rw [if_neg e]
    by_cases hj : j < 5
    · rw [nxtI_at hj, nxtI_at hj, cntT_snoc, if_neg (by rw [hr]; omega)]; simp
    · rw [List.getElem?_eq_none (by rw [nxtI_len]; omega), List.getElem?_eq_none (by rw [nxtI_len]; omega)]
theorem set_avI {m : List Int} {j : Nat} {v : Int} : (m.map Int.av).set j (.p (.int .i64 v)) = (m.set j v).map Int.av := by
  apply List.ext_getElem?
  intro i
  simp only [List.getElem?_set, List.getElem?_map, List.length_map]
  by_cases h : j = i
  · subst h
    by_cases h2 : j < m.length <;> simp [h2]
  · simp [h]
@[simp] theorem renL_avI {ρ : List Nat} {m : List Int} : renL ρ (m.map Int.av) = some (m.map Int.av) := renL_pure (pureL_map (fun _ => rfl))
theorem level_nat {c : Circuit} {i : Int} : ∃ r : Nat, levelOf c i = r ∧ r < 5 := by
  have := @level_range c i
  exact ⟨(levelOf c i).toNat, by omega, by omega⟩

set_option maxRecDepth 20000 in
theorem c_layout_Place (c : Circuit) (hs : Sized c) : Pure Go.Proofs.Tryz.prog GL 24 [c.av] (.tup [.p (.lst 2 ((if checkP c = 0 then placedL c else []).map Plc.enc)), .p (.int .i64 (checkP c))]) := by
  refine Pure.of_walk (N := 36) Go.Proofs.Tryz.func24 rfl rfl rfl (by simp) (by first | (simp; done) | simp [*]) ?_
  simp
  refine xcall_pure (c_circuit_Check c hs) ?_
  by_cases h : checkP c = 0
  · have h2 := check_parts h
    have hrw := c_layout_rows c hs h
    have hlv : (levelsL c).length = c.parts.length := levelsT_len
    rw [if_pos h]
    simp [h]
    refine xcall_pure hrw ?_
    simp
    refine XLoop.go [5, 15, 16] [0] 1 [2] (nms [6]) (fun nx (k : Nat) => [(6, .acc nx 2 k), (17, .p (.int .i64 k))]) (fun nx k => [(nx, accB 2 ((placedT c k).map Plc.row_)), (1, some (.cells 5 [(nxtI c k).map Int.av]))]) (fun k => k ≤ c.parts.length) (fun k => c.parts.length - k) 0 (by omega) ?_ ?_
    · simp [placedT, nxtI_zero]
      try decide
    · intro k hk
      have hpl := @placedT_len c k
      have hps := @placedT_snoc c k
      have hnl := @nxtI_len c k
      have hend : k = c.parts.length → placedT c k = placedL c := fun e => by rw [e]; rfl
      have hcl := @cntT_le c
      obtain ⟨r, hr, hr5⟩ := @level_nat c k
      have hna := nxtI_at (c := c) (k := k) hr5
      have hns := nxtI_set (k := k) hr5 hr
      have hcr := @cntT_le c r k
      generalize placedT c k = A at *
      generalize nxtI c k = M at *
      simp
      refine xif_split (fun h3 => ?_) (fun h3 => ?_)
      · simp [hlv] at h3
        have hrow := levelsL_at (c := c) (i := k) h3
        have hkl : k < (levelsL c).length := by omega
        rw [hr] at hrow hps
        have hr5' : (r : Int) < 5 := by omega
        simp [hkl, hrow, Int.enc, hna, hr5', -getElem?_pos, List.getElem?_cons_zero, List.getElem?_cons_succ]
        refine ⟨by omega, hpl, wrap_i64 (by omega) (by omega), by omega, wrap_i64 (by omega) (by omega), k + 1, by omega, by omega, ?_⟩
        simp [hps, hpl, set_avI, hns]
        try decide
      · simp [hlv] at h3
        have hA := hend (by omega)
        rw [hA] at hpl
        have h0 := h.symm
        simp [XEndT, hA, hpl, h0]
        try rfl
  · rw [if_neg h]
    simp [h]
    simp [XEndT]

set_option maxRecDepth 20000 in
theorem c_pneumaticref25_Placed (c : Circuit) (hs : Sized c) (h : checkP c = 0) : Pure Go.Proofs.Tryz.prog GL 53 [c.av] (.p (.lst 2 ((placedL c).map Plc.enc))) := by
  refine Pure.of_walk (N := 41) Go.Proofs.Tryz.func53 rfl rfl rfl (by simp) (by first | (simp; done) | simp [*]) ?_
  have h2 := check_parts h
  have hLs := c_pneumaticref25_Levels c hs h
  have hlv : (levelsL c).length = c.parts.length := levelsT_len
  simp
  refine xcall_pure hLs ?_
  simp
  refine XLoop.go [3, 4] [0] 1 [2] (nms [5]) (fun nx (k : Nat) => [(5, .acc nx 2 k), (6, .p (.int .i64 k))]) (fun nx k => [(nx, accB 2 ((placedT c k).map Plc.row_)), (1, some (.cells 1 ((nxtI c k).map Int.row)))]) (fun k => k ≤ c.parts.length) (fun k => c.parts.length - k) 0 (by omega) ?_ ?_
  · simp [placedT, nxtI_zero]
    try decide
  · intro k hk
    have hpl := @placedT_len c k
    have hps := @placedT_snoc c k
    have hnl := @nxtI_len c k
    have hend : k = c.parts.length → placedT c k = placedL c := fun e => by rw [e]; rfl
    obtain ⟨r, hr, hr5⟩ := @level_nat c k
    have hna := nxtI_at (c := c) (k := k) hr5
    have hns := nxtI_set (k := k) hr5 hr
    have hcr := @cntT_le c r k
    generalize placedT c k = A at *
    generalize nxtI c k = M at *
    simp
    refine xif_split (fun h3 => ?_) (fun h3 => ?_)
    · simp [hlv] at h3
      have hrow := levelsL_at (c := c) (i := k) h3
      have hkl : k < (levelsL c).length := by omega
      rw [hr] at hrow hps
      have hr5' : (r : Int) < 5 := by omega
      simp
      refine XDraw.intro (by kernel_rfl) ?_
      simp [hkl, hrow, Int.enc, Int.row, hna, hr5', -getElem?_pos, List.getElem?_cons_zero, List.getElem?_cons_succ]
      refine ⟨by omega, hpl, .of (by kernel_rfl), ?_⟩
      trace_state
      refine ⟨wrap_i64 (by omega) (by omega), wrap_i64 (by omega) (by omega), k + 1, by omega, by omega, ?_⟩
      simp [hps, hpl, set_rowI, hns]
      try decide
    · simp [hlv] at h3
      have hA := hend (by omega)
      rw [hA] at hpl
      simp [XEndT, hA, hpl]
      try rfl

theorem c_pneumaticref25_Place (c : Circuit) (hs : Sized c) : Pure Go.Proofs.Tryz.prog GL 28 [c.av] (.tup [.p (.lst 2 ((if checkP c = 0 then placedL c else []).map Plc.enc)), .p (.int .i64 (checkP c))]) := by
  refine Pure.of_walk (N := 12) Go.Proofs.Tryz.func28 rfl rfl rfl (by simp) (by first | (simp; done) | simp [*]) ?_
  simp
  refine xcall_pure (c_pneumaticref21_Check c hs) ?_
  by_cases h : checkP c = 0
  · have hP := c_pneumaticref25_Placed c hs h
    rw [if_pos h]
    simp [h]
    refine xcall_pure hP ?_
    simp [XEndT, h]
  · rw [if_neg h]
    simp [h]
    simp [XEndT]

end Go.Am
