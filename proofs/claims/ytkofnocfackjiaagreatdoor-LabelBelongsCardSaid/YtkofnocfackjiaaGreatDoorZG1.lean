/- Lemmas and contracts for the proof of a statement of this seat. -/
import Derived.Test.YtkofnocfackjiaaGreatDoorZF1
import Derived.Test.YtkofnocfackjiaaGreatDoorZCW
import Derived.Test.YtkofnocfackjiaaGreatDoorZF3
import Derived.Test.YtkofnocfackjiaaGreatDoorZF8
set_option linter.unusedVariables false
set_option linter.unusedSimpArgs false
/- Plain: where groups come from; chapter 26. -/
namespace Go.Am
open Go Go.Proofs Go.Pn

theorem gAt_next {A : Nat → List Int} {g : List Int} {n : Nat} {k : Int} (h : gAt g k ≠ -1) : gAt (nextT A g n) k = gAt g k := by
  unfold gAt at h ⊢
  by_cases hk : k.toNat < g.length
  · rw [nextT_at hk]
    obtain ⟨x, ex⟩ := get_lt hk
    rw [ex] at h ⊢
    simp only at h
    have hx : gAt g (k.toNat : Nat) = x := gAt_nat ex
    simp only [hx]
    rw [if_neg (fun hh => h hh.2)]
  · rw [List.getElem?_eq_none (by omega)] at h
    exact absurd rfl h
theorem gAt_iter {A : Nat → List Int} {g : List Int} {n k : Nat} {j : Int} (h : gAt (iterT A n g k) j ≠ -1) : ∀ m, gAt (iterT A n g (k + m)) j = gAt (iterT A n g k) j
  | 0 => rfl
  | m + 1 => by
    have ih := gAt_iter h m
    rw [show k + (m + 1) = (k + m) + 1 from rfl, iterT, gAt_next (by rw [ih]; exact h), ih]
theorem gAt_end {A : Nat → List Int} {g : List Int} {n k : Nat} {j : Int} (hk : k ≤ g.length) (h : gAt (iterT A n g k) j ≠ -1) : gAt (endT A n g) j = gAt (iterT A n g k) j := by
  unfold endT
  obtain ⟨m, hm⟩ : ∃ m, g.length = k + m := ⟨g.length - k, by omega⟩
  rw [hm]
  exact gAt_iter h m
theorem iter_from {A : Nat → List Int} {g : List Int} {n i : Nat} (h0 : gAt g i = -1) : ∀ {k : Nat}, gAt (iterT A n g k) i ≠ -1 → 1 ≤ gAt (iterT A n g k) i ∧ ∃ x ∈ A i, 1 ≤ gAt (iterT A n g k) x
  | 0, h => absurd h0 h
  | k + 1, h => by
    by_cases hk : gAt (iterT A n g k) i = -1
    · rw [iterT] at h ⊢
      have hl : i < (iterT A n g k).length := by
        apply Classical.byContradiction
        intro hn
        rw [gAt_none (by rw [nextT_len]; omega)] at h
        exact h rfl
      have e := nextT_at (A := A) (n := n) hl
      rw [hk] at e
      have e2 := gAt_nat e
      rw [e2] at h ⊢
      by_cases hn : i < n
      · rw [if_pos ⟨hn, rfl⟩] at h ⊢
        refine ⟨minG_one h, ?_⟩
        rcases @minG_is (iterT A n g k) (A i) with ⟨h1, _⟩ | ⟨⟨x, hx, h1, h2⟩, _⟩
        · exact absurd h1 h
        · exact ⟨x, hx, by rw [gAt_next (by omega)]; omega⟩
      · rw [if_neg (fun hh => hn hh.1)] at h
        exact absurd rfl h
    · obtain ⟨h1, x, hx, h2⟩ := iter_from h0 hk
      rw [iterT]
      refine ⟨by rw [gAt_next hk]; exact h1, x, hx, by rw [gAt_next (by omega)]; exact h2⟩
theorem stop_none {A : Nat → List Int} {g : List Int} {n i : Nat} (hn : i < n) (hl : i < g.length) (h : gAt (endT A n g) i = -1) : ∀ x ∈ A i, ¬ 1 ≤ gAt (endT A n g) x := by
  have hs := @endT_stop A g n
  have e := nextT_at (A := A) (n := n) (g := endT A n g) (i := i) (by rw [endT_len]; exact hl)
  rw [hs, h, if_pos ⟨hn, rfl⟩] at e
  have e2 := gAt_nat e
  rw [h] at e2
  intro x hx h1
  rcases @minG_is (endT A n g) (A i) with ⟨_, h2⟩ | ⟨⟨y, _, h2, h3⟩, _⟩
  · exact h2 _ ⟨x, hx, rfl, h1⟩
  · omega

def rg (c : Circuit) (i : Int) : Int := gAt (rawG c) i
theorem g0_at {c : Circuit} {i : Nat} (h : i < c.parts.length) : gAt (firstT c c.parts.length c.parts.length) i = grpK c c.parts.length i := gAt_nat (firstT_at h)
theorem g0_cyl {c : Circuit} {i : Nat} {q : Part} (e : c.parts[i]? = some q) (hk : q.kind = 1) : 1 ≤ gAt (firstT c c.parts.length c.parts.length) i := by
  have hi := (List.getElem?_eq_some_iff.1 e).1
  rw [g0_at hi]
  unfold grpK
  rw [e]
  simp only [hk, if_true, hi]
  rw [cylN_step e, if_pos hk]
  have := @cylN_pos c i
  omega
theorem g0_lim {c : Circuit} (h : checkP c = 0) {i : Nat} {q : Part} (e : c.parts[i]? = some q) (hk : q.kind = 6) : 1 ≤ gAt (firstT c c.parts.length c.parts.length) i := by
  have hi := (List.getElem?_eq_some_iff.1 e).1
  obtain ⟨j, p, d, hj, ej, hk1, _⟩ := lim_cyl h e hk
  have hjl := (List.getElem?_eq_some_iff.1 ej).1
  rw [g0_at hi]
  unfold grpK
  rw [e]
  simp only [hk]
  rw [if_neg (by decide), if_neg (by decide), if_pos trivial, hj, if_pos (by omega), Int.toNat_natCast, cylN_step ej, if_pos hk1]
  have := @cylN_pos c j
  omega
theorem g0_sup {c : Circuit} {i : Nat} {q : Part} (e : c.parts[i]? = some q) (hk : q.kind = 0) : gAt (firstT c c.parts.length c.parts.length) i = 0 := by
  have hi := (List.getElem?_eq_some_iff.1 e).1
  rw [g0_at hi]
  unfold grpK
  rw [e]
  simp only [hk]
  rw [if_neg (by decide), if_pos trivial, if_pos hi]
theorem g0_else {c : Circuit} {i : Nat} {q : Part} (e : c.parts[i]? = some q) (h0 : q.kind ≠ 0) (h1 : q.kind ≠ 1) (h6 : q.kind ≠ 6) : gAt (firstT c c.parts.length c.parts.length) i = -1 := by
  have hi := (List.getElem?_eq_some_iff.1 e).1
  rw [g0_at hi]
  unfold grpK
  rw [e]
  simp only
  rw [if_neg h1, if_neg h0, if_neg h6]
theorem rg_keep {c : Circuit} {i : Int} (h : gAt (firstT c c.parts.length c.parts.length) i ≠ -1) : rg c i = gAt (firstT c c.parts.length c.parts.length) i :=
  gAt_end (k := 0) (by omega) h
theorem grp_rg {c : Circuit} {i : Nat} (hi : i < c.parts.length) : gAt (groupsL c) i = max (rg c i) 0 := by
  obtain ⟨x, ex⟩ := get_lt (show i < (rawG c).length by rw [rawG_len]; exact hi)
  have e1 : rg c i = x := gAt_nat ex
  rw [e1]
  refine gAt_nat ?_
  unfold groupsL
  rw [List.getElem?_map, ex]; rfl

theorem no_supply {c : Circuit} (h : checkP c = 0) {i : Nat} {q : Part} (e : c.parts[i]? = some q) {x : Int} (hx : x ∈ dirL c i) : kindAt c x ≠ 0 := by
  have hr := dirL_range ⟨by omega, by have := (List.getElem?_eq_some_iff.1 e).1; omega⟩ hx
  obtain ⟨j, rfl⟩ : ∃ j : Nat, x = j := ⟨x.toNat, by omega⟩
  obtain ⟨r, er⟩ := get_lt (show j < c.parts.length by omega)
  rw [kind_at er]
  rcases mem_dirL.1 hx with hh | ⟨p, hp, hp1, hg, y, hy, hyj⟩
  · have := (mem_lims h e er).1 hh
    omega
  · obtain ⟨hy1, hy2⟩ := List.mem_filter.1 hy
    have hya : y ∈ allP c := (List.mem_filter.1 hy1).1
    obtain ⟨i', q', e1, e2, e3, e4, e5, e6, e7, e8⟩ := role_all (check_parts h).1 hya
    have hij : i' = j := by omega
    subst hij
    rw [er] at e3; cases e3
    intro h0
    rw [h0] at e4 e6
    have hrl := role_kind (k := 0) e4
    have hall := (by decide +kernel : ∀ s ∈ kindPorts 0, playsN 0 s = 1) y.name e6
    rw [hall] at hrl
    simp [sideB, takesB, hrl] at hy2
theorem rg_lo {c : Circuit} {i : Int} : -1 ≤ rg c i := by
  unfold rg gAt
  cases e : (rawG c)[i.toNat]? with
  | none => exact Int.le_refl _
  | some x =>
    simp only
    exact iterT_lo firstT_lo x (List.mem_of_getElem? e)
theorem belongs_law {c : Circuit} (h : checkP c = 0) {i : Nat} {q : Part} (e : c.parts[i]? = some q) :
    (0 < gAt (groupsL c) i) ↔ ((q.kind = 1 ∨ q.kind = 6 ∨ ∃ x ∈ reachK c i, 0 < gAt (groupsL c) x ∧ kindAt c x ≠ 0) ∧ q.kind ≠ 0) := by
  have hi := (List.getElem?_eq_some_iff.1 e).1
  have hir : 0 ≤ (i : Int) ∧ (i : Int) < c.parts.length := by omega
  rw [grp_rg hi]
  by_cases h0 : q.kind = 0
  · have h1 := g0_sup e h0
    have h2 := rg_keep (c := c) (i := i) (by rw [h1]; decide)
    rw [h2, h1]
    constructor
    · intro hh; simp at hh
    · rintro ⟨_, hh⟩; exact absurd h0 hh
  · by_cases h1 : q.kind = 1
    · have g1 := g0_cyl e h1
      have g2 := rg_keep (c := c) (i := i) (by omega)
      rw [g2]
      exact ⟨fun _ => ⟨.inl h1, h0⟩, fun _ => by omega⟩
    · by_cases h6 : q.kind = 6
      · have g1 := g0_lim h e h6
        have g2 := rg_keep (c := c) (i := i) (by omega)
        rw [g2]
        exact ⟨fun _ => ⟨.inr (.inl h6), h0⟩, fun _ => by omega⟩
      · have g0 := g0_else e h0 h1 h6
        constructor
        · intro hp
          have hne : rg c i ≠ -1 := by omega
          obtain ⟨_, x, hx, hx1⟩ := iter_from (A := fun i => dirL c (i : Int)) (n := c.parts.length) g0 (k := (firstT c c.parts.length c.parts.length).length) hne
          have hxr := dirL_range hir hx
          obtain ⟨j, rfl⟩ : ∃ j : Nat, x = j := ⟨x.toNat, by omega⟩
          have hxg : 1 ≤ rg c j := hx1
          refine ⟨.inr (.inr ⟨j, reach_start hir hx, ?_, no_supply h e hx⟩), h0⟩
          rw [grp_rg (by omega)]; omega
        · rintro ⟨hh, _⟩
          rcases hh with hh | hh | ⟨x, hx, hxg, _⟩
          · exact absurd hh h1
          · exact absurd hh h6
          · apply Classical.byContradiction
            intro hno
            have hlo := @rg_lo c i
            have hraw : rg c i = -1 := by
              by_cases hz : rg c i = -1
              · exact hz
              · have := (iter_from (A := fun i => dirL c (i : Int)) (n := c.parts.length) g0 (k := (firstT c c.parts.length c.parts.length).length) hz).1
                have h3 : 1 ≤ rg c i := this
                omega
            have key : ∀ (a : Nat), a < c.parts.length → rg c a = -1 → ∀ x ∈ dirL c a, (0 ≤ x ∧ x < c.parts.length) ∧ rg c x = -1 := by
              intro a ha hra x hx
              have har : 0 ≤ (a : Int) ∧ (a : Int) < c.parts.length := by omega
              have hxr := dirL_range har hx
              refine ⟨hxr, ?_⟩
              have hn := stop_none (A := fun i => dirL c (i : Int)) ha (by rw [firstT_len]; exact ha) hra x hx
              have hn' : ¬ 1 ≤ rg c x := hn
              obtain ⟨qa, ea⟩ := get_lt ha
              have hns := no_supply h ea hx
              have hlx := @rg_lo c x
              obtain ⟨j, rfl⟩ : ∃ j : Nat, x = j := ⟨x.toNat, by omega⟩
              obtain ⟨qj, ej⟩ := get_lt (show j < c.parts.length by omega)
              rw [kind_at ej] at hns
              apply Classical.byContradiction
              intro hne
              have hz : rg c j = 0 := by omega
              by_cases k1 : qj.kind = 1
              · have a1 := g0_cyl ej k1
                have a2 := rg_keep (c := c) (i := j) (by omega)
                omega
              · by_cases k6 : qj.kind = 6
                · have a1 := g0_lim h ej k6
                  have a2 := rg_keep (c := c) (i := j) (by omega)
                  omega
                · have a1 := g0_else ej hns k1 k6
                  have := (iter_from (A := fun i => dirL c (i : Int)) (n := c.parts.length) a1 (k := (firstT c c.parts.length c.parts.length).length) hne).1
                  have h3 : 1 ≤ rg c j := this
                  omega
            have hks := reach_least (c := c) (i := i) (ks := ((List.range c.parts.length).filter fun j => decide (rg c (j : Nat) = -1)).map fun (j : Nat) => (j : Int)) hir ?_ ?_ x hx
            · obtain ⟨j, hj, rfl⟩ := List.mem_map.1 hks
              obtain ⟨hj1, hj2⟩ := List.mem_filter.1 hj
              rw [List.mem_range] at hj1
              simp only [decide_eq_true_eq] at hj2
              rw [grp_rg hj1, hj2] at hxg
              omega
            · intro y hy
              obtain ⟨hr, hg⟩ := key i hi hraw y hy
              refine List.mem_map.2 ⟨y.toNat, List.mem_filter.2 ⟨List.mem_range.2 (by omega), ?_⟩, by omega⟩
              rw [show ((y.toNat : Nat) : Int) = y by omega]
              simpa using hg
            · intro a ha y hy
              obtain ⟨j, hj, rfl⟩ := List.mem_map.1 ha
              obtain ⟨hj1, hj2⟩ := List.mem_filter.1 hj
              rw [List.mem_range] at hj1
              simp only [decide_eq_true_eq] at hj2
              obtain ⟨hr, hg⟩ := key j hj1 hj2 y hy
              refine List.mem_map.2 ⟨y.toNat, List.mem_filter.2 ⟨List.mem_range.2 (by omega), ?_⟩, by omega⟩
              rw [show ((y.toNat : Nat) : Int) = y by omega]
              simpa using hg
theorem driver_law {c : Circuit} (h : checkP c = 0) {i : Nat} {q : Part} (e : c.parts[i]? = some q) (hd : drvErr c q.name = 0) :
    ∃ v : Nat, (drvRes c q.name).1 = v ∧ v < c.parts.length ∧ 1 ≤ gAt (groupsL c) v ∧ gAt (groupsL c) v ≤ gAt (groupsL c) i := by
  have hi := (List.getElem?_eq_some_iff.1 e).1
  obtain ⟨hk, v, hv, hf⟩ := drv_facts h e hd
  refine ⟨v, hv, hf.lt, ?_⟩
  obtain ⟨hp2, _⟩ := cyl_ports e hk
  obtain ⟨s2a, s2b⟩ := side_feed h hp2
  have h2 := hf.two.2.1
  rw [s2b] at h2
  obtain ⟨fx1, fx2, fx3⟩ := feed_mem (c := c) (i := i) (s := [50]) (a := ⟨v, if (drvRes c q.name).2 then [50] else [52]⟩) (by rw [h2]; simp)
  have hki : kindAt c (i : Int) = 1 := by rw [kind_at e, hk]
  have hrole : roleP c ⟨(i : Int), [50]⟩ = 4 := by
    rw [role_kind (k := 1) (by simpa using hki)]
    show playsN 1 [50] = 4
    decide +kernel
  have hdir : (i : Int) ∈ dirL c v := by
    rw [mem_dirL]
    refine .inr ⟨_, fx2, rfl, by simp [givesB, fx3], ⟨(i : Int), [50]⟩, List.mem_filter.2 ⟨around_sym hp2 fx1, ?_⟩, rfl⟩
    simp [sideB, takesB, hrole]
  have hkv : kindAt c v = 2 ∨ kindAt c v = 3 := by
    have hix : partIx c q.name = i := partI_at h e
    have hdr : drvRes c q.name = (drvOf c i).getD (0, false) := by unfold drvRes; rw [hd, if_neg (by simp), hix]
    cases ho : drvOf c i with
    | none =>
      unfold drvErr at hd
      rw [if_neg (by simpa using h), hix, if_neg (by omega), hki, if_neg (by simp), ho] at hd
      simp at hd
    | some r =>
      rw [hdr, ho] at hv
      simp only [Option.getD_some] at hv
      unfold drvOf at ho
      split at ho
      · split at ho
        · cases ho
        · split at ho
          · rename_i hkk
            simp only [Option.some.injEq] at ho
            rw [← ho] at hv
            simp only at hv
            rw [hv] at hkk
            exact hkk
          · cases ho
      · cases ho
  obtain ⟨qv, ev⟩ := get_lt hf.lt
  rw [kind_at ev] at hkv
  have gv := g0_else ev (by omega) (by omega) (by omega)
  have gi := g0_cyl e hk
  have ri := rg_keep (c := c) (i := i) (by omega)
  have hl : 1 ≤ (firstT c c.parts.length c.parts.length).length := by rw [firstT_len]; omega
  have hn := nextT_at (A := fun i => dirL c (i : Int)) (n := c.parts.length) (g := firstT c c.parts.length c.parts.length) (i := v) (by rw [firstT_len]; exact hf.lt)
  rw [gv, if_pos ⟨hf.lt, rfl⟩] at hn
  have hn2 := gAt_nat hn
  have hmin : 1 ≤ minG (firstT c c.parts.length c.parts.length) (dirL c (v : Int)) (-1) ∧ minG (firstT c c.parts.length c.parts.length) (dirL c (v : Int)) (-1) ≤ gAt (firstT c c.parts.length c.parts.length) i := by
    rcases @minG_is (firstT c c.parts.length c.parts.length) (dirL c (v : Int)) with ⟨_, h3⟩ | ⟨⟨y, _, h3, h4⟩, h5⟩
    · exact absurd ⟨(i : Int), hdir, rfl, gi⟩ (h3 _)
    · exact ⟨h4, h5 _ ⟨(i : Int), hdir, rfl, gi⟩⟩
  have hrv : rg c v = gAt (iterT (fun i => dirL c (i : Int)) c.parts.length (firstT c c.parts.length c.parts.length) 1) v :=
    gAt_end (k := 1) hl (by have := hn2; show ¬ gAt (nextT (fun i => dirL c (i : Int)) (firstT c c.parts.length c.parts.length) c.parts.length) (v : Int) = -1; omega)
  have hrv2 : rg c v = minG (firstT c c.parts.length c.parts.length) (dirL c (v : Int)) (-1) := by rw [hrv]; exact hn2
  rw [grp_rg hf.lt, grp_rg hi, hrv2, ri]
  omega
end Go.Am
/- Contracts: LabelBelongs; chapter 26. -/
namespace Go.Am
open Go Go.Proofs Go.Pn

def anyG (c : Circuit) (l : List Int) (k : Nat) : Bool := (l.take k).any fun x => decide (0 < gAt (groupsL c) x) && !decide (kindAt c x = 0)
theorem anyG_zero {c : Circuit} {l : List Int} : anyG c l 0 = false := rfl
theorem anyG_step {c : Circuit} {l : List Int} {k : Nat} {x : Int} (e : l[k]? = some x) : anyG c l (k + 1) = (anyG c l k || (decide (0 < gAt (groupsL c) x) && !decide (kindAt c x = 0))) := by
  unfold anyG; rw [take_snoc e, List.any_append]; simp
theorem anyG_all {c : Circuit} {l : List Int} : anyG c l l.length = true ↔ ∃ x ∈ l, 0 < gAt (groupsL c) x ∧ kindAt c x ≠ 0 := by
  unfold anyG; rw [List.take_length]; simp
theorem reach_len {c : Circuit} {i : Int} : (reachK c i).length ≤ c.parts.length := by
  unfold reachK
  rw [List.length_map]
  refine Nat.le_trans (List.length_filter_le ..) ?_
  simp

def orB (a b : Bool) : Bool := a || b
set_option maxRecDepth 40000 in
theorem c_LabelBelongs (c : Circuit) (hs : Sized c) : Pure Tryz.prog GL4 9 [c.av] (.p (.bool true)) := by
  refine Pure.of_walk (N := 140) Tryz.func9 rfl rfl rfl (by simp) (by simp) ?_
  have hF := wF (c_pneumaticlaw26_right c hs)
  simp
  refine xcall_pure hF ?_
  cases hf : (fewP c && decide (checkP c = 0)) with
  | false =>
    simp
    refine xcall_pure c_awake26 ?_
    simp [XEndT]
  | true =>
    simp only [Bool.and_eq_true, decide_eq_true_eq] at hf
    obtain ⟨hfw, h⟩ := hf
    have h2 := (check_parts h).2.1
    have hG := wF (c_label_Groups c hs)
    rw [if_pos h, h] at hG
    have hgl := @groupsL_len c
    simp
    refine xcall_pure hG ?_
    simp [hgl]
    refine XLoop.go [1, 3, 34, 35] [0] 0 [] (fun _ => []) (fun _ (i : Nat) => [(36, .p (.int .i64 i))]) (fun _ _ => []) (fun i => i ≤ c.parts.length) (fun i => c.parts.length - i) 0 (by omega) ?_ ?_
    · simp
      try decide
    intro i hi
    simp
    refine xif_split (fun h3 => ?_) (fun h3 => ?_)
    · simp at h3
      obtain ⟨q, eq⟩ := get_lt h3
      have hix : partIx c q.name = i := partI_at h eq
      have hbe : behErr c q.name = 0 := by unfold behErr; rw [if_neg (by simpa using h), hix, if_neg (by omega)]
      have hbl : behL c q.name = reachK c i := by unfold behL; rw [hbe, if_neg (by simp), hix]
      have hB := wF (c_inspect_Behind c q.name hs)
      have hD := wF (c_inspect_Driver c q.name hs)
      rw [hbe, hbl] at hB
      have hlaw := belongs_law h eq
      have hdrv := driver_law h eq
      have hall := @anyG_all c (reachK c i)
      have hrl := @reach_len c i
      have hrr := fun x (hx : x ∈ reachK c i) => reachK_range hx
      obtain ⟨g, eg⟩ := get_lt (show i < (groupsL c).length by omega)
      have hga : gAt (groupsL c) i = g := gAt_nat eg
      rw [hga] at hlaw hdrv
      rw [← hall] at hlaw
      generalize reachK c i = R at *
      simp [h3, eq, -getElem?_pos, List.getElem?_cons_zero, List.getElem?_cons_succ]
      refine xcall_pure hB ?_
      by_cases k1 : q.kind = 1
      · have k6 : ¬ q.kind = 6 := by omega
        simp [k1]
        refine XLoop.go [1, 3, 5, 6, 34, 35, 36, 58, 59] [0, 1] 0 [] (fun _ => []) (fun _ (k : Nat) => [(9, .p (.bool (orB true (anyG c R k)))), (60, .p (.int .i64 k))]) (fun _ _ => []) (fun k => k ≤ R.length) (fun k => R.length - k) 0 (by omega) ?_ ?_
        · simp [anyG_zero, orB]
          try decide
        intro k hk
        simp
        refine xif_split (fun h5 => ?_) (fun h5 => ?_)
        · simp at h5
          obtain ⟨x, ex⟩ := get_lt h5
          obtain ⟨x1, x2⟩ := hrr x (List.mem_of_getElem? ex)
          obtain ⟨j, rfl⟩ : ∃ j : Nat, x = j := ⟨x.toNat, by omega⟩
          have hj : j < c.parts.length := by omega
          have hx0 : ¬ (j : Int) < 0 := by omega
          have hxn : ¬ (c.parts.length : Int) ≤ (j : Int) := by omega
          obtain ⟨r, er⟩ := get_lt hj
          obtain ⟨y, ey⟩ := get_lt (show j < (groupsL c).length by omega)
          have hst := anyG_step (c := c) ex
          rw [gAt_nat ey, kind_at er] at hst
          generalize anyG c R k = A at *
          have hst2 : orB true (anyG c R (k + 1)) = (orB true A || (decide (0 < y) && !decide (r.kind = 0))) := by rw [hst]; unfold orB; rw [Bool.or_assoc]
          generalize orB true A = B at *
          cases B with
          | true =>
            simp [h5, ex, hx0, hxn, hgl, -getElem?_pos, List.getElem?_cons_zero, List.getElem?_cons_succ]
            refine ⟨wrap_i64 (by omega) (by omega), k + 1, by omega, by omega, ?_, by omega⟩
            rw [hst2]; simp
          | false =>
            by_cases hy : 0 < y
            · by_cases hr0 : r.kind = 0
              · simp [h5, ex, hx0, hxn, hgl, ey, hy, er, hr0, -getElem?_pos, List.getElem?_cons_zero, List.getElem?_cons_succ]
                refine ⟨by omega, wrap_i64 (by omega) (by omega), k + 1, by omega, by omega, ?_, by omega⟩
                rw [hst2]; simp [hy, hr0]
              · simp [h5, ex, hx0, hxn, hgl, ey, hy, er, hr0, -getElem?_pos, List.getElem?_cons_zero, List.getElem?_cons_succ]
                refine ⟨by omega, wrap_i64 (by omega) (by omega), k + 1, by omega, by omega, ?_, by omega⟩
                rw [hst2]; simp [hy, hr0]
            · simp [h5, ex, hx0, hxn, hgl, ey, hy, -getElem?_pos, List.getElem?_cons_zero, List.getElem?_cons_succ]
              refine ⟨by omega, wrap_i64 (by omega) (by omega), k + 1, by omega, by omega, ?_, by omega⟩
              rw [hst2]; simp [hy]
        · simp at h5
          have hk2 : k = R.length := by omega
          subst hk2
          have hB2 : orB true (anyG c R R.length) = true ↔ (q.kind = 1 ∨ q.kind = 6 ∨ anyG c R R.length = true) := by unfold orB; simp [k1, k6]
          rw [← hB2] at hlaw
          generalize orB true (anyG c R R.length) = B at *
          simp
          refine XDraw.intro (by kernel_rfl) ?_
          have hil : i < c.parts.length := h3
          by_cases hg0 : 0 < g
          · obtain ⟨hfd, hk0⟩ := hlaw.1 hg0
            simp [hfd, hgl, eg, hil, hg0, hk0, -getElem?_pos, List.getElem?_cons_zero, List.getElem?_cons_succ]
            refine ⟨.of (by kernel_rfl), ?_⟩
            refine xcall_pure hD ?_
            by_cases hde : drvErr c q.name = 0
            · obtain ⟨v, v1, v2, v3, v4⟩ := hdrv hde
              obtain ⟨y, ey⟩ := get_lt (show v < (groupsL c).length by omega)
              rw [gAt_nat ey] at v3 v4
              have v5 : ¬ (v : Int) < 0 := by omega
              have v6 : ¬ (c.parts.length : Int) ≤ (v : Int) := by omega
              have v7 : ¬ y < 1 := by omega
              have v8 : ¬ g < y := by omega
              simp [hde, v1, -getElem?_pos, List.getElem?_cons_zero, List.getElem?_cons_succ]
              refine XDraw.intro (by kernel_rfl) ?_
              simp [v5, v6, v7, v8, v2, hgl, ey, eg, hil, -getElem?_pos, List.getElem?_cons_zero, List.getElem?_cons_succ]
              exact ⟨.of (by kernel_rfl), wrap_i64 (by omega) (by omega), i + 1, by omega, by omega, by omega⟩
            · simp [hde, -getElem?_pos, List.getElem?_cons_zero, List.getElem?_cons_succ]
              exact ⟨wrap_i64 (by omega) (by omega), i + 1, by omega, by omega, by omega⟩
          · cases B with
            | true =>
              have hk0 : q.kind = 0 := Classical.byContradiction fun hk0 => hg0 (hlaw.2 ⟨rfl, hk0⟩)
              exact (by omega : False).elim
              all_goals
                simp [hgl, eg, hil, hg0, hk0, -getElem?_pos, List.getElem?_cons_zero, List.getElem?_cons_succ]
                refine ⟨.of (by kernel_rfl), ?_⟩
                refine xcall_pure hD ?_
                by_cases hde : drvErr c q.name = 0
                · obtain ⟨v, v1, v2, v3, v4⟩ := hdrv hde
                  obtain ⟨y, ey⟩ := get_lt (show v < (groupsL c).length by omega)
                  rw [gAt_nat ey] at v3 v4
                  have v5 : ¬ (v : Int) < 0 := by omega
                  have v6 : ¬ (c.parts.length : Int) ≤ (v : Int) := by omega
                  have v7 : ¬ y < 1 := by omega
                  have v8 : ¬ g < y := by omega
                  simp [hde, v1, -getElem?_pos, List.getElem?_cons_zero, List.getElem?_cons_succ]
                  refine XDraw.intro (by kernel_rfl) ?_
                  simp [v5, v6, v7, v8, v2, hgl, ey, eg, hil, -getElem?_pos, List.getElem?_cons_zero, List.getElem?_cons_succ]
                  exact ⟨.of (by kernel_rfl), wrap_i64 (by omega) (by omega), i + 1, by omega, by omega, by omega⟩
                · simp [hde, -getElem?_pos, List.getElem?_cons_zero, List.getElem?_cons_succ]
                  exact ⟨wrap_i64 (by omega) (by omega), i + 1, by omega, by omega, by omega⟩
            | false =>
              simp [hgl, eg, hil, hg0, -getElem?_pos, List.getElem?_cons_zero, List.getElem?_cons_succ]
              refine ⟨.of (by kernel_rfl), ?_⟩
              refine xcall_pure hD ?_
              by_cases hde : drvErr c q.name = 0
              · obtain ⟨v, v1, v2, v3, v4⟩ := hdrv hde
                obtain ⟨y, ey⟩ := get_lt (show v < (groupsL c).length by omega)
                rw [gAt_nat ey] at v3 v4
                have v5 : ¬ (v : Int) < 0 := by omega
                have v6 : ¬ (c.parts.length : Int) ≤ (v : Int) := by omega
                have v7 : ¬ y < 1 := by omega
                have v8 : ¬ g < y := by omega
                simp [hde, v1, -getElem?_pos, List.getElem?_cons_zero, List.getElem?_cons_succ]
                refine XDraw.intro (by kernel_rfl) ?_
                simp [v5, v6, v7, v8, v2, hgl, ey, eg, hil, -getElem?_pos, List.getElem?_cons_zero, List.getElem?_cons_succ]
                exact ⟨.of (by kernel_rfl), wrap_i64 (by omega) (by omega), i + 1, by omega, by omega, by omega⟩
              · simp [hde, -getElem?_pos, List.getElem?_cons_zero, List.getElem?_cons_succ]
                exact ⟨wrap_i64 (by omega) (by omega), i + 1, by omega, by omega, by omega⟩
      · by_cases k6 : q.kind = 6
        · simp [k1, k6]
          refine XLoop.go [1, 3, 5, 6, 34, 35, 36, 58, 59] [0, 1] 0 [] (fun _ => []) (fun _ (k : Nat) => [(9, .p (.bool (orB true (anyG c R k)))), (60, .p (.int .i64 k))]) (fun _ _ => []) (fun k => k ≤ R.length) (fun k => R.length - k) 0 (by omega) ?_ ?_
          · simp [anyG_zero, orB]
            try decide
          intro k hk
          simp
          refine xif_split (fun h5 => ?_) (fun h5 => ?_)
          · simp at h5
            obtain ⟨x, ex⟩ := get_lt h5
            obtain ⟨x1, x2⟩ := hrr x (List.mem_of_getElem? ex)
            obtain ⟨j, rfl⟩ : ∃ j : Nat, x = j := ⟨x.toNat, by omega⟩
            have hj : j < c.parts.length := by omega
            have hx0 : ¬ (j : Int) < 0 := by omega
            have hxn : ¬ (c.parts.length : Int) ≤ (j : Int) := by omega
            obtain ⟨r, er⟩ := get_lt hj
            obtain ⟨y, ey⟩ := get_lt (show j < (groupsL c).length by omega)
            have hst := anyG_step (c := c) ex
            rw [gAt_nat ey, kind_at er] at hst
            generalize anyG c R k = A at *
            have hst2 : orB true (anyG c R (k + 1)) = (orB true A || (decide (0 < y) && !decide (r.kind = 0))) := by rw [hst]; unfold orB; rw [Bool.or_assoc]
            generalize orB true A = B at *
            cases B with
            | true =>
              simp [h5, ex, hx0, hxn, hgl, -getElem?_pos, List.getElem?_cons_zero, List.getElem?_cons_succ]
              refine ⟨wrap_i64 (by omega) (by omega), k + 1, by omega, by omega, ?_, by omega⟩
              rw [hst2]; simp
            | false =>
              by_cases hy : 0 < y
              · by_cases hr0 : r.kind = 0
                · simp [h5, ex, hx0, hxn, hgl, ey, hy, er, hr0, -getElem?_pos, List.getElem?_cons_zero, List.getElem?_cons_succ]
                  refine ⟨by omega, wrap_i64 (by omega) (by omega), k + 1, by omega, by omega, ?_, by omega⟩
                  rw [hst2]; simp [hy, hr0]
                · simp [h5, ex, hx0, hxn, hgl, ey, hy, er, hr0, -getElem?_pos, List.getElem?_cons_zero, List.getElem?_cons_succ]
                  refine ⟨by omega, wrap_i64 (by omega) (by omega), k + 1, by omega, by omega, ?_, by omega⟩
                  rw [hst2]; simp [hy, hr0]
              · simp [h5, ex, hx0, hxn, hgl, ey, hy, -getElem?_pos, List.getElem?_cons_zero, List.getElem?_cons_succ]
                refine ⟨by omega, wrap_i64 (by omega) (by omega), k + 1, by omega, by omega, ?_, by omega⟩
                rw [hst2]; simp [hy]
          · simp at h5
            have hk2 : k = R.length := by omega
            subst hk2
            have hB2 : orB true (anyG c R R.length) = true ↔ (q.kind = 1 ∨ q.kind = 6 ∨ anyG c R R.length = true) := by unfold orB; simp [k1, k6]
            rw [← hB2] at hlaw
            generalize orB true (anyG c R R.length) = B at *
            simp
            refine XDraw.intro (by kernel_rfl) ?_
            have hil : i < c.parts.length := h3
            by_cases hg0 : 0 < g
            · obtain ⟨hfd, hk0⟩ := hlaw.1 hg0
              simp [hfd, hgl, eg, hil, hg0, hk0, -getElem?_pos, List.getElem?_cons_zero, List.getElem?_cons_succ]
              refine ⟨.of (by kernel_rfl), ?_⟩
              refine xcall_pure hD ?_
              by_cases hde : drvErr c q.name = 0
              · obtain ⟨v, v1, v2, v3, v4⟩ := hdrv hde
                obtain ⟨y, ey⟩ := get_lt (show v < (groupsL c).length by omega)
                rw [gAt_nat ey] at v3 v4
                have v5 : ¬ (v : Int) < 0 := by omega
                have v6 : ¬ (c.parts.length : Int) ≤ (v : Int) := by omega
                have v7 : ¬ y < 1 := by omega
                have v8 : ¬ g < y := by omega
                simp [hde, v1, -getElem?_pos, List.getElem?_cons_zero, List.getElem?_cons_succ]
                refine XDraw.intro (by kernel_rfl) ?_
                simp [v5, v6, v7, v8, v2, hgl, ey, eg, hil, -getElem?_pos, List.getElem?_cons_zero, List.getElem?_cons_succ]
                exact ⟨.of (by kernel_rfl), wrap_i64 (by omega) (by omega), i + 1, by omega, by omega, by omega⟩
              · simp [hde, -getElem?_pos, List.getElem?_cons_zero, List.getElem?_cons_succ]
                exact ⟨wrap_i64 (by omega) (by omega), i + 1, by omega, by omega, by omega⟩
            · cases B with
              | true =>
                have hk0 : q.kind = 0 := Classical.byContradiction fun hk0 => hg0 (hlaw.2 ⟨rfl, hk0⟩)
                exact (by omega : False).elim
                all_goals
                  simp [hgl, eg, hil, hg0, hk0, -getElem?_pos, List.getElem?_cons_zero, List.getElem?_cons_succ]
                  refine ⟨.of (by kernel_rfl), ?_⟩
                  refine xcall_pure hD ?_
                  by_cases hde : drvErr c q.name = 0
                  · obtain ⟨v, v1, v2, v3, v4⟩ := hdrv hde
                    obtain ⟨y, ey⟩ := get_lt (show v < (groupsL c).length by omega)
                    rw [gAt_nat ey] at v3 v4
                    have v5 : ¬ (v : Int) < 0 := by omega
                    have v6 : ¬ (c.parts.length : Int) ≤ (v : Int) := by omega
                    have v7 : ¬ y < 1 := by omega
                    have v8 : ¬ g < y := by omega
                    simp [hde, v1, -getElem?_pos, List.getElem?_cons_zero, List.getElem?_cons_succ]
                    refine XDraw.intro (by kernel_rfl) ?_
                    simp [v5, v6, v7, v8, v2, hgl, ey, eg, hil, -getElem?_pos, List.getElem?_cons_zero, List.getElem?_cons_succ]
                    exact ⟨.of (by kernel_rfl), wrap_i64 (by omega) (by omega), i + 1, by omega, by omega, by omega⟩
                  · simp [hde, -getElem?_pos, List.getElem?_cons_zero, List.getElem?_cons_succ]
                    exact ⟨wrap_i64 (by omega) (by omega), i + 1, by omega, by omega, by omega⟩
              | false =>
                simp [hgl, eg, hil, hg0, -getElem?_pos, List.getElem?_cons_zero, List.getElem?_cons_succ]
                refine ⟨.of (by kernel_rfl), ?_⟩
                refine xcall_pure hD ?_
                by_cases hde : drvErr c q.name = 0
                · obtain ⟨v, v1, v2, v3, v4⟩ := hdrv hde
                  obtain ⟨y, ey⟩ := get_lt (show v < (groupsL c).length by omega)
                  rw [gAt_nat ey] at v3 v4
                  have v5 : ¬ (v : Int) < 0 := by omega
                  have v6 : ¬ (c.parts.length : Int) ≤ (v : Int) := by omega
                  have v7 : ¬ y < 1 := by omega
                  have v8 : ¬ g < y := by omega
                  simp [hde, v1, -getElem?_pos, List.getElem?_cons_zero, List.getElem?_cons_succ]
                  refine XDraw.intro (by kernel_rfl) ?_
                  simp [v5, v6, v7, v8, v2, hgl, ey, eg, hil, -getElem?_pos, List.getElem?_cons_zero, List.getElem?_cons_succ]
                  exact ⟨.of (by kernel_rfl), wrap_i64 (by omega) (by omega), i + 1, by omega, by omega, by omega⟩
                · simp [hde, -getElem?_pos, List.getElem?_cons_zero, List.getElem?_cons_succ]
                  exact ⟨wrap_i64 (by omega) (by omega), i + 1, by omega, by omega, by omega⟩
        · simp [k1, k6]
          refine XLoop.go [1, 3, 5, 6, 34, 35, 36, 58, 59] [0, 1] 0 [] (fun _ => []) (fun _ (k : Nat) => [(9, .p (.bool (orB false (anyG c R k)))), (60, .p (.int .i64 k))]) (fun _ _ => []) (fun k => k ≤ R.length) (fun k => R.length - k) 0 (by omega) ?_ ?_
          · simp [anyG_zero, orB]
            try decide
          intro k hk
          simp
          refine xif_split (fun h5 => ?_) (fun h5 => ?_)
          · simp at h5
            obtain ⟨x, ex⟩ := get_lt h5
            obtain ⟨x1, x2⟩ := hrr x (List.mem_of_getElem? ex)
            obtain ⟨j, rfl⟩ : ∃ j : Nat, x = j := ⟨x.toNat, by omega⟩
            have hj : j < c.parts.length := by omega
            have hx0 : ¬ (j : Int) < 0 := by omega
            have hxn : ¬ (c.parts.length : Int) ≤ (j : Int) := by omega
            obtain ⟨r, er⟩ := get_lt hj
            obtain ⟨y, ey⟩ := get_lt (show j < (groupsL c).length by omega)
            have hst := anyG_step (c := c) ex
            rw [gAt_nat ey, kind_at er] at hst
            generalize anyG c R k = A at *
            have hst2 : orB false (anyG c R (k + 1)) = (orB false A || (decide (0 < y) && !decide (r.kind = 0))) := by rw [hst]; unfold orB; rw [Bool.or_assoc]
            generalize orB false A = B at *
            cases B with
            | true =>
              simp [h5, ex, hx0, hxn, hgl, -getElem?_pos, List.getElem?_cons_zero, List.getElem?_cons_succ]
              refine ⟨wrap_i64 (by omega) (by omega), k + 1, by omega, by omega, ?_, by omega⟩
              rw [hst2]; simp
            | false =>
              by_cases hy : 0 < y
              · by_cases hr0 : r.kind = 0
                · simp [h5, ex, hx0, hxn, hgl, ey, hy, er, hr0, -getElem?_pos, List.getElem?_cons_zero, List.getElem?_cons_succ]
                  refine ⟨by omega, wrap_i64 (by omega) (by omega), k + 1, by omega, by omega, ?_, by omega⟩
                  rw [hst2]; simp [hy, hr0]
                · simp [h5, ex, hx0, hxn, hgl, ey, hy, er, hr0, -getElem?_pos, List.getElem?_cons_zero, List.getElem?_cons_succ]
                  refine ⟨by omega, wrap_i64 (by omega) (by omega), k + 1, by omega, by omega, ?_, by omega⟩
                  rw [hst2]; simp [hy, hr0]
              · simp [h5, ex, hx0, hxn, hgl, ey, hy, -getElem?_pos, List.getElem?_cons_zero, List.getElem?_cons_succ]
                refine ⟨by omega, wrap_i64 (by omega) (by omega), k + 1, by omega, by omega, ?_, by omega⟩
                rw [hst2]; simp [hy]
          · simp at h5
            have hk2 : k = R.length := by omega
            subst hk2
            have hB2 : orB false (anyG c R R.length) = true ↔ (q.kind = 1 ∨ q.kind = 6 ∨ anyG c R R.length = true) := by unfold orB; simp [k1, k6]
            rw [← hB2] at hlaw
            generalize orB false (anyG c R R.length) = B at *
            simp
            refine XDraw.intro (by kernel_rfl) ?_
            have hil : i < c.parts.length := h3
            by_cases hg0 : 0 < g
            · obtain ⟨hfd, hk0⟩ := hlaw.1 hg0
              simp [hfd, hgl, eg, hil, hg0, hk0, -getElem?_pos, List.getElem?_cons_zero, List.getElem?_cons_succ]
              refine ⟨.of (by kernel_rfl), ?_⟩
              refine xcall_pure hD ?_
              by_cases hde : drvErr c q.name = 0
              · obtain ⟨v, v1, v2, v3, v4⟩ := hdrv hde
                obtain ⟨y, ey⟩ := get_lt (show v < (groupsL c).length by omega)
                rw [gAt_nat ey] at v3 v4
                have v5 : ¬ (v : Int) < 0 := by omega
                have v6 : ¬ (c.parts.length : Int) ≤ (v : Int) := by omega
                have v7 : ¬ y < 1 := by omega
                have v8 : ¬ g < y := by omega
                simp [hde, v1, -getElem?_pos, List.getElem?_cons_zero, List.getElem?_cons_succ]
                refine XDraw.intro (by kernel_rfl) ?_
                simp [v5, v6, v7, v8, v2, hgl, ey, eg, hil, -getElem?_pos, List.getElem?_cons_zero, List.getElem?_cons_succ]
                exact ⟨.of (by kernel_rfl), wrap_i64 (by omega) (by omega), i + 1, by omega, by omega, by omega⟩
              · simp [hde, -getElem?_pos, List.getElem?_cons_zero, List.getElem?_cons_succ]
                exact ⟨wrap_i64 (by omega) (by omega), i + 1, by omega, by omega, by omega⟩
            · cases B with
              | true =>
                have hk0 : q.kind = 0 := Classical.byContradiction fun hk0 => hg0 (hlaw.2 ⟨rfl, hk0⟩)
                skip
                all_goals
                  simp [hgl, eg, hil, hg0, hk0, -getElem?_pos, List.getElem?_cons_zero, List.getElem?_cons_succ]
                  refine ⟨.of (by kernel_rfl), ?_⟩
                  refine xcall_pure hD ?_
                  by_cases hde : drvErr c q.name = 0
                  · obtain ⟨v, v1, v2, v3, v4⟩ := hdrv hde
                    obtain ⟨y, ey⟩ := get_lt (show v < (groupsL c).length by omega)
                    rw [gAt_nat ey] at v3 v4
                    have v5 : ¬ (v : Int) < 0 := by omega
                    have v6 : ¬ (c.parts.length : Int) ≤ (v : Int) := by omega
                    have v7 : ¬ y < 1 := by omega
                    have v8 : ¬ g < y := by omega
                    simp [hde, v1, -getElem?_pos, List.getElem?_cons_zero, List.getElem?_cons_succ]
                    refine XDraw.intro (by kernel_rfl) ?_
                    simp [v5, v6, v7, v8, v2, hgl, ey, eg, hil, -getElem?_pos, List.getElem?_cons_zero, List.getElem?_cons_succ]
                    exact ⟨.of (by kernel_rfl), wrap_i64 (by omega) (by omega), i + 1, by omega, by omega, by omega⟩
                  · simp [hde, -getElem?_pos, List.getElem?_cons_zero, List.getElem?_cons_succ]
                    exact ⟨wrap_i64 (by omega) (by omega), i + 1, by omega, by omega, by omega⟩
              | false =>
                simp [hgl, eg, hil, hg0, -getElem?_pos, List.getElem?_cons_zero, List.getElem?_cons_succ]
                refine ⟨.of (by kernel_rfl), ?_⟩
                refine xcall_pure hD ?_
                by_cases hde : drvErr c q.name = 0
                · obtain ⟨v, v1, v2, v3, v4⟩ := hdrv hde
                  obtain ⟨y, ey⟩ := get_lt (show v < (groupsL c).length by omega)
                  rw [gAt_nat ey] at v3 v4
                  have v5 : ¬ (v : Int) < 0 := by omega
                  have v6 : ¬ (c.parts.length : Int) ≤ (v : Int) := by omega
                  have v7 : ¬ y < 1 := by omega
                  have v8 : ¬ g < y := by omega
                  simp [hde, v1, -getElem?_pos, List.getElem?_cons_zero, List.getElem?_cons_succ]
                  refine XDraw.intro (by kernel_rfl) ?_
                  simp [v5, v6, v7, v8, v2, hgl, ey, eg, hil, -getElem?_pos, List.getElem?_cons_zero, List.getElem?_cons_succ]
                  exact ⟨.of (by kernel_rfl), wrap_i64 (by omega) (by omega), i + 1, by omega, by omega, by omega⟩
                · simp [hde, -getElem?_pos, List.getElem?_cons_zero, List.getElem?_cons_succ]
                  exact ⟨wrap_i64 (by omega) (by omega), i + 1, by omega, by omega, by omega⟩
    · simp at h3
      simp
      refine xcall_pure c_awake26 ?_
      simp [XEndT]
end Go.Am
