/- Lemmas and contracts for the proof of a statement of this seat. -/
import Derived.Test.YtkofnocfackjiaaGreatDoorZC7
import Derived.Test.YtkofnocfackjiaaGreatDoorZCP
import Derived.Test.YtkofnocfackjiaaGreatDoorZS2
set_option linter.unusedVariables false
set_option linter.unusedSimpArgs false
/- Contracts: chapter 20, positions: the reference. -/
namespace Go.Am
open Go Go.Proofs Go.Pn

@[simp] def _root_.Go.Pn.Pass.enc (p : Pass) : List PV := [.str p.to, .lst 1 (p.fr.map Txt.enc), .bool p.all]

theorem c_pneumaticref20_Many (k : Nat) (hk : k < 14) : Pure Tryz.prog GL 72 [.p (.int .i64 k)] (.p (.int .i64 (manyOf k))) := by
  refine Pure.of_walk (N := 14) Tryz.func72 rfl rfl rfl (by simp) (by first | (simp; done) | simp [*]) ?_
  simp
  refine xcall_pure c_pneumaticref20_Rows ?_
  have hk2 : k < refRows.length := by simpa [refRows] using hk
  rcases (by omega : k = 0 ∨ k = 1 ∨ k = 2 ∨ k = 3 ∨ k = 4 ∨ k = 5 ∨ k = 6 ∨ k = 7 ∨ k = 8 ∨ k = 9 ∨ k = 10 ∨ k = 11 ∨ k = 12 ∨ k = 13) with rfl|rfl|rfl|rfl|rfl|rfl|rfl|rfl|rfl|rfl|rfl|rfl|rfl|rfl <;> (simp [refRows, refRow, refPorts]; simp [XEndT, manyOf, roles])

theorem netP_at3 {c : Circuit} (h : checkP c = 0) {p : Port} (hp : p ∈ allP c) : givenErr c p = 0 ∧ ∃ (i : Nat) (g : List Port), netP c p = i ∧ i < (nets c).length ∧ (nets c)[i]? = some g ∧ p ∈ g ∧ g.length < 100000 := by
  refine ⟨allP_mem.1 hp, ?_⟩
  obtain ⟨i, g, h1, h2, h3⟩ := netP_at h hp
  exact ⟨i, g, h1, (List.getElem?_eq_some_iff.1 h2).1, h2, h3, by have := (netsL h).2 g (List.mem_of_getElem? h2); omega⟩

end Go.Am
/- Contracts: package part: positions, passes, vents, pilots, next, role. -/
namespace Go.Am
open Go Go.Proofs Go.Pn

def Passes.av (l : List Pass) : AV := .p (.lst 3 (l.map Pass.enc))

theorem frz_pass {s : Store} {b b2 n : Nat} {c c2 : Option Nat} {to : Txt} {frs : List Txt} {all : Bool} (hg : get s b = some (.cells 3 [[.p (.str to), .ref b2 1 0 n c2, .p (.bool all)]]))
    (hg2 : get s b2 = some (.cells 1 (frs.map Txt.row))) (hn : frs.length = n) : FrzA s (fun _ => True) (.ref b 3 0 1 c) (Passes.av [⟨to, frs, all⟩]) := by
  have h2 : Frz s (fun _ => True) (.ref b2 1 0 n c2) (.lst 1 (frs.map Txt.enc)) := .rows trivial hg2 (by simp [List.take_of_length_le, ← hn]) (by simpa using hn)
  refine .one _ _ (.ref b 3 0 1 c _ _ (fun _ j => ([.p (.str to), .ref b2 1 0 n c2, .p (.bool all)] : List AV)[j]?.getD .any) trivial hg rfl (fun p j row x h1 h3 => ?_) (fun p j row x h1 h3 => ?_))
  · match p with
    | 0 =>
      simp at h1; subst h1
      match j with
      | 0 => exact ⟨_, rfl, rfl⟩
      | 1 => exact ⟨_, rfl, rfl⟩
      | 2 => exact ⟨_, rfl, rfl⟩
      | j + 3 => simp at h3
    | p + 1 => simp at h1
  · match p with
    | 0 =>
      simp at h1; subst h1
      match j with
      | 0 => simp at h3; subst h3; exact .p _
      | 1 => simp at h3; subst h3; exact h2
      | 2 => simp at h3; subst h3; exact .p _
      | j + 3 => simp at h3
    | p + 1 => simp at h1

theorem c_part_pass (to fr : Txt) : Pure Tryz.prog GL 210 [.p (.str to), .p (.str fr)] (Passes.av [⟨to, [fr], false⟩]) := by
  refine Pure.of_walkZ (N := 10) Tryz.func210 rfl rfl rfl (by simp) (by simp) ?_
  simp
  refine ⟨.inl rfl, [.ref 1 3 0 1 (some 1)], by simp, ?_⟩
  exact frz_pass (b := 1) (b2 := 0) (n := 1) (c2 := some 1) (by simp [get]) (by simp [get]) rfl

theorem c_part_merge_1 (x : Bool) (pos : Int) : Pure Tryz.prog GL 213 [.p (.int .i64 pos), .iptr 1 [[.bool x]] 0 0] (Passes.av [⟨t2, [t1, t11], x⟩]) := by
  refine Pure.of_walkZ (N := 8) Tryz.func213 rfl rfl rfl (by simp) (by simp) ?_
  simp
  refine ⟨.inl rfl, [.ref 1 3 0 1 (some 1)], by simp, ?_⟩
  exact frz_pass (b := 1) (b2 := 0) (n := 2) (c2 := some 2) (by simp [get, t2]) (by simp [get, t1, t11]) rfl

theorem c_part_nothing (pos : Int) : Pure Tryz.prog GL 159 [.p (.int .i64 pos)] (Passes.av []) := by
  refine Pure.of_walk (N := 3) Tryz.func159 rfl rfl rfl (by simp) (by first | (simp; done) | simp [*]) ?_
  simp
  simp [XEndT, Passes.av]

theorem c_part_through (pos : Int) : Pure Tryz.prog GL 166 [.p (.int .i64 pos)] (Passes.av [⟨t2, [t1], false⟩]) := by
  refine Pure.of_walk (N := 4) Tryz.func166 rfl rfl rfl (by simp) (by first | (simp; done) | simp [*]) ?_
  simp
  refine xcall_pure (c_part_pass [50] [49]) ?_
  simp [Passes.av]
  simp [XEndT, t2, t1]

def posI (b : Bool) : Int := if b then 1 else 0

theorem c_part_change (b : Bool) : Pure Tryz.prog GL 161 [.p (.int .i64 (posI b))] (Passes.av [⟨if b then t4 else t2, [t1], false⟩]) := by
  refine Pure.of_walk (N := 8) Tryz.func161 rfl rfl rfl (by simp) (by first | (simp; done) | simp [*]) ?_
  cases b
  · simp [posI]
    refine xcall_pure (c_part_pass [50] [49]) ?_
    simp [Passes.av]
    simp [XEndT, t2, t1]
  · simp [posI]
    refine xcall_pure (c_part_pass [52] [49]) ?_
    simp [Passes.av]
    simp [XEndT, t4, t1]

theorem c_part_gate_1 (n pos : Int) : Pure Tryz.prog GL 211 [.p (.int .i64 pos), .iptr 1 [[.int .i64 n]] 0 0] (Passes.av (if pos = n then [⟨t2, [t1], false⟩] else [])) := by
  refine Pure.of_walk (N := 8) Tryz.func211 rfl rfl rfl (by simp) (by first | (simp; done) | simp [*]) ?_
  simp
  by_cases h : pos = n
  · simp [h]
    refine xcall_pure (c_part_pass [50] [49]) ?_
    simp [Passes.av]
    simp [XEndT, t2, t1, h]
  · simp [h]
    simp [XEndT, Passes.av, h]

theorem fn_passes (k : Nat) (hk : k < 14) (b : Bool) : ∃ m cap, (catRow k)[10]? = some (.fn (.func m) cap) ∧ pureL cap = true ∧ Pure Tryz.prog GL m (.p (.int .i64 (posI b)) :: cap) (Passes.av (passedOf k b)) := by
  have g1 := c_part_gate_1 1 (posI b)
  have g0 := c_part_gate_1 0 (posI b)
  have ch := c_part_change b
  have no := c_part_nothing (posI b)
  have th := c_part_through (posI b)
  have m0 := c_part_merge_1 false (posI b)
  have m1 := c_part_merge_1 true (posI b)
  cases b
  all_goals
    simp only [posI, Bool.false_eq_true, if_true, if_false] at g1 g0 ch no th m0 m1 ⊢
    rcases (by omega : k = 0 ∨ k = 1 ∨ k = 2 ∨ k = 3 ∨ k = 4 ∨ k = 5 ∨ k = 6 ∨ k = 7 ∨ k = 8 ∨ k = 9 ∨ k = 10 ∨ k = 11 ∨ k = 12 ∨ k = 13) with rfl|rfl|rfl|rfl|rfl|rfl|rfl|rfl|rfl|rfl|rfl|rfl|rfl|rfl
    all_goals first
      | exact ⟨_, _, rfl, rfl, no⟩
      | exact ⟨_, _, rfl, rfl, ch⟩
      | exact ⟨_, _, rfl, rfl, g1⟩
      | exact ⟨_, _, rfl, rfl, g0⟩
      | exact ⟨_, _, rfl, rfl, th⟩
      | exact ⟨_, _, rfl, rfl, m0⟩
      | exact ⟨_, _, rfl, rfl, m1⟩

end Go.Am
/- Contracts: package part: placed, Passes, Vents, Positions, Pilots, Next, Role. -/
namespace Go.Am
open Go Go.Proofs Go.Pn


theorem catRow_facts {k : Nat} (h : k < 14) : (catRow k)[9]? = some (.p (.int .i64 (manyOf k))) ∧ (catRow k)[7]? = some (.p (.str (pilotsOf k).1)) ∧ (catRow k)[8]? = some (.p (.str (pilotsOf k).2)) ∧
    ((catRow k).drop 2).take 5 = (roles k).map (fun l => .p (.lst 1 (l.map Txt.enc))) ∧ (roles k).length = 5 := by
  rcases (by omega : k = 0 ∨ k = 1 ∨ k = 2 ∨ k = 3 ∨ k = 4 ∨ k = 5 ∨ k = 6 ∨ k = 7 ∨ k = 8 ∨ k = 9 ∨ k = 10 ∨ k = 11 ∨ k = 12 ∨ k = 13) with rfl|rfl|rfl|rfl|rfl|rfl|rfl|rfl|rfl|rfl|rfl|rfl|rfl|rfl <;> exact ⟨rfl, rfl, rfl, rfl, rfl⟩
theorem manyOf_le {k : Nat} : 1 ≤ manyOf k ∧ manyOf k ≤ 2 := by unfold manyOf; split <;> omega

theorem c_part_Positions (k : Int) : Pure Tryz.prog GL 182 [.p (.int .i64 k)] (.tup [.p (.int .i64 (if kindErr k = 0 then manyOf k.toNat else 0)), .p (.int .i64 (kindErr k))]) := by
  refine Pure.of_walk (N := 14) Tryz.func182 rfl rfl rfl (by simp) (by first | (simp; done) | simp [*]) ?_
  simp
  refine xcall_pure (c_part_find k) ?_
  by_cases hk : 0 ≤ k ∧ k < 14
  · have h3 : kindErr k = 0 := kindErr_ok.2 hk
    have hl := catRow_len (k := k.toNat)
    have h6 := catRow_one (k := k.toNat)
    obtain ⟨f1, f2, f3, f4, f5⟩ := catRow_facts (k := k.toNat) (by omega)
    obtain ⟨_, f1'⟩ := List.getElem?_eq_some_iff.1 f1
    simp [h3, hl, lay_whole]
    refine ⟨by simpa using h6, ?_⟩
    simp [XEndT, h3, f1']
  · have h3 : kindErr k = 1 := kindErr_bad hk
    simp [h3, catRow, lay]
    simp [XEndT, h3]

theorem c_part_placed (k pos : Int) : Pure Tryz.prog GL 222 [.p (.int .i64 k), .p (.int .i64 pos)] (.tup [.agg (catRow (if placedErr k pos = 0 then k.toNat else 14)), .p (.int .i64 (placedErr k pos))]) := by
  refine Pure.of_walk (N := 29) Tryz.func222 rfl rfl rfl (by simp) (by first | (simp; done) | simp [*]) ?_
  simp
  refine xcall_pure (c_part_find k) ?_
  by_cases hk : 0 ≤ k ∧ k < 14
  · have h3 : kindErr k = 0 := kindErr_ok.2 hk
    have hl := catRow_len (k := k.toNat)
    have h6 := catRow_one (k := k.toNat)
    have h7 := catRow_pure (k := k.toNat)
    have h8 : (catRow k.toNat).take 12 = catRow k.toNat := List.take_of_length_le (by omega)
    obtain ⟨f1, f2, f3, f4, f5⟩ := catRow_facts (k := k.toNat) (by omega)
    simp [h3, hl, lay_whole]
    refine ⟨by simpa using h6, ?_⟩
    by_cases h1 : pos < 0
    · have hp : placedErr k pos = 2 := by simp [placedErr, h3, h1]
      simp [h1]
      simp [XEndT, hp, catRow]
    · by_cases h2 : (manyOf k.toNat : Int) ≤ pos
      · have hp : placedErr k pos = 2 := by simp [placedErr, h3, h2]
        simp [h1, f1, h2, -getElem?_pos, List.getElem?_cons_zero, List.getElem?_cons_succ]
        simp [XEndT, hp, catRow]
      · have hp : placedErr k pos = 0 := by simp [placedErr, h3, h1, h2]
        simp [h1, f1, h2, hl, lay_whole, h8, -getElem?_pos, List.getElem?_cons_zero, List.getElem?_cons_succ]
        refine ⟨by simpa using h6, ?_⟩
        simp [XEndT, hp, hl, h8, toL_refl _ h7]
  · have h3 : kindErr k = 1 := kindErr_bad hk
    have hp : placedErr k pos = 1 := by simp [placedErr, h3]
    simp [h3, catRow, lay]
    simp [XEndT, hp, catRow]

end Go.Am
/- Contracts: package part: Passes, Vents, Next, Role. -/
namespace Go.Am
open Go Go.Proofs Go.Pn


theorem placed_ok {k pos : Int} (h : placedErr k pos = 0) : (0 ≤ k ∧ k < 14) ∧ ∃ b : Bool, pos = posI b := by
  unfold placedErr at h
  by_cases hk : 0 ≤ k ∧ k < 14
  · refine ⟨hk, ?_⟩
    rw [kindErr_ok.2 hk] at h
    simp only [ne_eq, not_true_eq_false, if_false] at h
    have h2 : ¬ (pos < 0 ∨ (manyOf k.toNat : Int) ≤ pos) := by
      intro h2; rw [if_pos h2] at h; cases h
    have h3 := (@manyOf_le k.toNat).2
    by_cases h4 : pos = 0
    · exact ⟨false, h4⟩
    · exact ⟨true, by simp only [posI, if_true]; omega⟩
  · rw [kindErr_bad hk] at h; simp at h

def passedAt (k pos : Int) : List Pass := if placedErr k pos = 0 then passedOf k.toNat (decide (pos = 1)) else []
def ventsAt (k pos : Int) : List Txt := if placedErr k pos = 0 then ventsOf k.toNat (decide (pos = 1)) else []
theorem posI_one {b : Bool} : decide (posI b = 1) = b := by cases b <;> rfl

theorem c_part_Passes (k pos : Int) : Pure Tryz.prog GL 186 [.p (.int .i64 k), .p (.int .i64 pos)] (.tup [Passes.av (passedAt k pos), .p (.int .i64 (placedErr k pos))]) := by
  refine Pure.of_walk (N := 21) Tryz.func186 rfl rfl rfl (by simp) (by first | (simp; done) | simp [*]) ?_
  simp
  refine xcall_pure (c_part_placed k pos) ?_
  by_cases hp : placedErr k pos = 0
  · obtain ⟨hk, b, hb⟩ := placed_ok hp
    have hl := catRow_len (k := k.toNat)
    have h6 := catRow_one (k := k.toNat)
    obtain ⟨m, cap, g1, g2, g3⟩ := fn_passes k.toNat (by omega) b
    have hpa : passedAt k pos = passedOf k.toNat b := by rw [passedAt, if_pos hp, hb, posI_one]
    have hren := fun ρ => (renA_pure (ρ := ρ)).2 cap g2
    simp [hp, hl, lay_whole]
    refine ⟨by simpa using h6, ?_⟩
    obtain ⟨_, g1'⟩ := List.getElem?_eq_some_iff.1 g1
    simp [g1']
    rw [hb]
    refine xcall_pure g3 ?_
    simp
    rw [← hb]
    simp [XEndT, hpa, hp, Passes.av]
  · simp [hp, catRow, lay]
    simp [XEndT, passedAt, hp, Passes.av]

theorem pureL_map {α : Type} {f : α → AV} (h : ∀ x, pureA (f x) = true) : ∀ {l : List α}, pureL (l.map f) = true
  | [] => rfl
  | x :: l => by simp [pureL, h x, pureL_map h (l := l)]

def roleOf (k : Nat) (s : Txt) : Int := idxI (roles k) fun l => decide (s ∈ l)

theorem c_part_Role (k : Int) (s : Txt) (hk : 0 ≤ k ∧ k < 14) : Pure Tryz.prog GL 90 [.p (.int .i64 k), .p (.str s)] (.tup [.p (.int .i64 (if roleOf k.toNat s < 0 then 0 else roleOf k.toNat s)), .p (.int .i64 (if roleOf k.toNat s < 0 then 6 else 0))]) := by
  refine Pure.of_walk (N := 29) Tryz.func90 rfl rfl rfl (by simp) (by first | (simp; done) | simp [*]) ?_
  simp
  refine xcall_pure (c_part_find k) ?_
  have h3 : kindErr k = 0 := kindErr_ok.2 hk
  have hl := catRow_len (k := k.toNat)
  have h6 := catRow_one (k := k.toNat)
  obtain ⟨f1, f2, f3, f4, f5⟩ := catRow_facts (k := k.toNat) (by omega)
  have hsh : ∀ l ∈ roles k.toNat, l.length < 100 := (by decide : ∀ k, k < 14 → ∀ l ∈ roles k, l.length < 100) k.toNat (by omega)
  simp [h3, hl, lay_whole]
  refine ⟨by simpa using h6, ?_⟩
  have hren := fun ρ => renL_pure (ρ := ρ) (pureL_map (f := fun l : List Txt => AV.p (PV.lst 1 (l.map Txt.enc))) (fun _ => rfl) (l := roles k.toNat))
  simp [f4]
  refine XLoop.go [1, 19] [] 0 [] (fun _ => []) (fun _ (r : Nat) => [(20, .p (.int .i64 r))]) (fun _ _ => []) (fun r => r ≤ 5 ∧ ∀ (j : Nat) x, j < r → (roles k.toNat)[j]? = some x → decide (s ∈ x) = false) (fun r => 5 - r) 0 ⟨by omega, fun j x h => by omega⟩ ?_ ?_
  · simp [hren]
  · rintro r ⟨hr, hp⟩
    simp
    refine xif_split (fun h => ?_) (fun h => ?_)
    · simp at h
      obtain ⟨x, e⟩ := get_lt (xs := roles k.toNat) (k := r) (by omega)
      simp [h, e, f5, -getElem?_pos, List.getElem?_cons_zero, List.getElem?_cons_succ]
      refine xcall_pure (c_Con_Txt x s (by have := hsh x (List.mem_of_getElem? e); omega)) ?_
      simp
      by_cases h2 : s ∈ x
      · have hro : roleOf k.toNat s = r := idxI_at (q := fun l => decide (s ∈ l)) e (by simpa using h2) hp
        have h0 : ¬ (r : Int) < 0 := by omega
        simp [h2]
        simp [XEndT, hro, h0]
      · simp [h2]
        refine ⟨wrap_i64 (by omega) (by omega), r + 1, ⟨by omega, ?_⟩, by omega, ?_⟩
        · simpa using below_next (P := fun l => decide (s ∈ l) = false) hp e (by simpa using h2)
        · simp [hren]
    · simp at h
      have h7 : r = (roles k.toNat).length := by omega
      subst h7
      have hro : roleOf k.toNat s = -1 := idxI_none (q := fun l => decide (s ∈ l)) (below_all hp)
      simp [XEndT, hro]

end Go.Am
/- Contracts: everyday functions of package slices, at int and at ports. -/
namespace Go.Am
open Go Go.Proofs Go.Pn


theorem c_IdxF_Int (xs : List Int) (q : Int → Bool) (m : Nat) (cap : List AV) (hcap : pureL cap = true) (hl : xs.length < 4611686018427387904) (hq : ∀ x ∈ xs, Pure Tryz.prog GL m ((Int.av x) :: cap) (.p (.bool (q x)))) : Pure Tryz.prog GL 191 [.p (.lst 1 (xs.map Int.enc)), .fn (.func m) cap] (.p (.int .i64 (idxI xs q))) := by
  refine Pure.of_walk (N := 19) Tryz.func191 rfl rfl rfl (by simp) (by first | (simp; done) | simp [*]) ?_
  have hren := fun ρ => (renA_pure (ρ := ρ)).2 cap hcap
  simp
  refine XLoop.go [0, 1, 7] [] 0 [] (fun _ => []) (fun _ (k : Nat) => [(8, .p (.int .i64 k))]) (fun _ _ => []) (fun k => k ≤ xs.length ∧ ∀ (j : Nat) x, j < k → xs[j]? = some x → q x = false) (fun k => xs.length - k) 0 ⟨by omega, fun j b h => by omega⟩ ?_ ?_
  · simp [hren]
  · rintro k ⟨hk, hp⟩
    simp
    refine xif_split (fun h => ?_) (fun h => ?_)
    · simp at h
      obtain ⟨x, e⟩ := get_lt h
      simp [h, e, -getElem?_pos, List.getElem?_cons_zero, List.getElem?_cons_succ]
      refine xcall_pure (hq x (List.mem_of_getElem? e)) ?_
      simp
      refine xif_split (fun h2 => ?_) (fun h2 => ?_)
      · simp [XEndT, idxI_at e h2 hp]
      · simp [hren]
        refine ⟨wrap_i64 (by omega) (by omega), k + 1, ⟨by omega, below_next hp e h2⟩, by omega, ?_⟩
        simp [hren]
    · simp at h
      have hk2 : k = xs.length := by omega
      subst hk2
      simp [XEndT, idxI_none (below_all hp)]

theorem c_ConF_Int (xs : List Int) (q : Int → Bool) (m : Nat) (cap : List AV) (hcap : pureL cap = true) (hl : xs.length < 4611686018427387904) (hq : ∀ x ∈ xs, Pure Tryz.prog GL m ((Int.av x) :: cap) (.p (.bool (q x)))) : Pure Tryz.prog GL 124 [.p (.lst 1 (xs.map Int.enc)), .fn (.func m) cap] (.p (.bool (xs.any q))) := by
  refine Pure.of_walk (N := 9) Tryz.func124 rfl rfl rfl (by simp) (by first | (simp; done) | simp [*]) ?_
  simp
  refine xcall_pure (c_IdxF_Int xs q m cap hcap hl hq) ?_
  simp [XEndT]
  rw [Bool.eq_iff_iff]
  simp [idxI_nonneg]

end Go.Am
/- Contracts: chapter 24: Check of both, Few; in, feeds, back of the reference. -/
namespace Go.Am
open Go Go.Proofs Go.Pn

@[simp] abbrev Ints.av (l : List Int) : AV := .p (.lst 1 (l.map Int.enc))
def posAt (c : Circuit) (l : List Int) (i : Nat) : Int := match c.parts[i]?, l[i]? with
  | some p, some a => if a < 0 ∨ (manyOf p.kind.toNat : Int) ≤ a then 2 else 0
  | _, _ => 0
def checkQ (c : Circuit) (l : List Int) : Int := if checkP c ≠ 0 then checkP c else if l.length ≠ c.parts.length then 8 else firstErr (posAt c l) l.length

theorem checkQ_zero {c : Circuit} {l : List Int} (h : checkQ c l = 0) : checkP c = 0 ∧ l.length = c.parts.length ∧ ∀ (i : Nat) p, c.parts[i]? = some p → ∃ a, l[i]? = some a ∧ placedErr p.kind a = 0 ∧ (0 ≤ p.kind ∧ p.kind < 14) := by
  unfold checkQ at h
  have h1 : checkP c = 0 := by
    apply Decidable.byContradiction
    intro hn
    rw [if_pos hn] at h; exact hn h
  rw [if_neg (by simpa using h1)] at h
  have h2 : l.length = c.parts.length := by
    apply Decidable.byContradiction
    intro hn
    rw [if_pos hn] at h; cases h
  rw [if_neg (by simpa using h2)] at h
  refine ⟨h1, h2, fun i p hp => ?_⟩
  have hi : i < l.length := by rw [h2]; exact (List.getElem?_eq_some_iff.1 hp).1
  obtain ⟨a, ha⟩ := get_lt hi
  have h3 := firstErr_iff.1 h i hi
  have hk := (check_parts h1).1 p (List.mem_of_getElem? hp)
  simp only [posAt, hp, ha] at h3
  refine ⟨a, ha, ?_, hk⟩
  unfold placedErr
  rw [kindErr_ok.2 hk]
  simpa using h3

set_option maxRecDepth 20000 in
theorem c_pressure_Check (c : Circuit) (l : List Int) (hs : Sized c) (hl : l.length < 4611686018427387904) : Pure Tryz.prog GL 111 [c.av, Ints.av l] (.p (.int .i64 (checkQ c l))) := by
  refine Pure.of_walk (N := 49) Tryz.func111 rfl rfl rfl (by simp) (by first | (simp; done) | simp [*]) ?_
  simp [Ints.av]
  refine xcall_pure (c_circuit_Check c hs) ?_
  by_cases hc : checkP c = 0
  · have h2 := check_parts hc
    simp [hc]
    by_cases hn : l.length = c.parts.length
    · simp [hn]
      refine XLoop.go [2, 21, 22] [0] 0 [] (fun _ => []) (fun _ (k : Nat) => [(23, .p (.int .i64 k))]) (fun _ _ => []) (fun k => k ≤ l.length ∧ firstErr (posAt c l) k = 0) (fun k => l.length - k) 0 ⟨by omega, rfl⟩ ?_ ?_
      · simp
        try decide
      · rintro k ⟨hk, hp⟩
        simp
        refine xif_split (fun h => ?_) (fun h => ?_)
        · simp at h
          obtain ⟨x, e⟩ := get_lt h
          obtain ⟨a, e2⟩ := get_lt (xs := l) (k := k) (by omega)
          have hkx := h2.1 x (List.mem_of_getElem? e)
          have h3 : kindErr x.kind = 0 := kindErr_ok.2 hkx
          have hpa : posAt c l k = if a < 0 ∨ (manyOf x.kind.toNat : Int) ≤ a then 2 else 0 := by simp only [posAt, e, e2]
          have hkl : k < l.length := by omega
          simp [h, e, e2, hkl, -getElem?_pos, List.getElem?_cons_zero, List.getElem?_cons_succ]
          refine xcall_pure (c_part_Positions x.kind) ?_
          simp [h3]
          by_cases b1 : a < 0 ∨ (manyOf x.kind.toNat : Int) ≤ a
          · have hq : checkQ c l = 2 := by
              rw [if_pos b1] at hpa
              rw [checkQ, if_neg (by simpa using hc), if_neg (by simpa using hn), firstErr_at hp hkl (by rw [hpa]; decide), hpa]
            by_cases b2 : a < 0
            · simp [b2]
              simp [XEndT, hq]
            · have b3 : (manyOf x.kind.toNat : Int) ≤ a := by omega
              simp [b2, b3]
              simp [XEndT, hq]
          · have b2 : ¬ a < 0 := by omega
            have b3 : ¬ (manyOf x.kind.toNat : Int) ≤ a := by omega
            rw [if_neg b1] at hpa
            simp [b2, b3]
            refine ⟨wrap_i64 (by omega) (by omega), k + 1, ⟨by omega, firstErr_next hp hpa⟩, by omega, ?_⟩
            simp
            try decide
        · simp at h
          have hk2 : k = l.length := by omega
          have hq : checkQ c l = 0 := by rw [checkQ, if_neg (by simpa using hc), if_neg (by simpa using hn), ← hk2, hp]
          simp [XEndT, hq]
    · have hn2 : ¬ (l.length : Int) = c.parts.length := by omega
      simp [hn2]
      simp [XEndT, checkQ, hc, hn]
  · simp [hc, XEndT, checkQ]

set_option maxRecDepth 20000 in
theorem c_pneumaticref24_Check (c : Circuit) (l : List Int) (hs : Sized c) (hl : l.length < 4611686018427387904) : Pure Tryz.prog GL 38 [c.av, Ints.av l] (.p (.int .i64 (checkQ c l))) := by
  refine Pure.of_walk (N := 43) Tryz.func38 rfl rfl rfl (by simp) (by first | (simp; done) | simp [*]) ?_
  simp [Ints.av]
  refine xcall_pure (c_pneumaticref21_Check c hs) ?_
  by_cases hc : checkP c = 0
  · have h2 := check_parts hc
    simp [hc]
    by_cases hn : l.length = c.parts.length
    · simp [hn]
      refine XLoop.go [1, 2] [0] 0 [] (fun _ => []) (fun _ (k : Nat) => [(6, .p (.int .i64 k))]) (fun _ _ => []) (fun k => k ≤ l.length ∧ firstErr (posAt c l) k = 0) (fun k => l.length - k) 0 ⟨by omega, rfl⟩ ?_ ?_
      · simp
        try decide
      · rintro k ⟨hk, hp⟩
        simp
        refine xif_split (fun h => ?_) (fun h => ?_)
        · simp at h
          obtain ⟨a, e2⟩ := get_lt h
          obtain ⟨x, e⟩ := get_lt (xs := c.parts) (k := k) (by omega)
          have hkx := h2.1 x (List.mem_of_getElem? e)
          have hpa : posAt c l k = if a < 0 ∨ (manyOf x.kind.toNat : Int) ≤ a then 2 else 0 := by simp only [posAt, e, e2]
          have hkc : k < c.parts.length := by omega
          have hkk : ((x.kind.toNat : Nat) : Int) = x.kind := by omega
          have hmany := c_pneumaticref20_Many x.kind.toNat (by omega)
          rw [hkk] at hmany
          simp
          refine XDraw.intro (by kernel_rfl) ?_
          simp [h, e2, -getElem?_pos, List.getElem?_cons_zero, List.getElem?_cons_succ]
          by_cases b2 : a < 0
          · simp [b2]
            refine ⟨.of (by kernel_rfl), ?_⟩
            have hq : checkQ c l = 2 := by
              rw [if_pos (.inl b2)] at hpa
              rw [checkQ, if_neg (by simpa using hc), if_neg (by simpa using hn), firstErr_at hp h (by rw [hpa]; decide), hpa]
            simp [XEndT, hq]
          · simp [b2, h, e2, hkc, e, -getElem?_pos, List.getElem?_cons_zero, List.getElem?_cons_succ]
            refine xcall_pure hmany ?_
            simp
            refine ⟨.of (by kernel_rfl), ?_⟩
            by_cases b3 : (manyOf x.kind.toNat : Int) ≤ a
            · have hq : checkQ c l = 2 := by
                rw [if_pos (.inr b3)] at hpa
                rw [checkQ, if_neg (by simpa using hc), if_neg (by simpa using hn), firstErr_at hp h (by rw [hpa]; decide), hpa]
              simp [b3]
              simp [XEndT, hq]
            · rw [if_neg (by omega)] at hpa
              simp [b3]
              refine ⟨wrap_i64 (by omega) (by omega), k + 1, ⟨by omega, firstErr_next hp hpa⟩, by omega, ?_⟩
              simp
              try decide
        · simp at h
          have hk2 : k = l.length := by omega
          have hq : checkQ c l = 0 := by rw [checkQ, if_neg (by simpa using hc), if_neg (by simpa using hn), ← hk2, hp]
          simp [XEndT, hq]
    · have hn2 : ¬ (l.length : Int) = c.parts.length := by omega
      simp [hn2]
      simp [XEndT, checkQ, hc, hn]
  · simp [hc, XEndT, checkQ]

end Go.Am
/- Contracts: chapter 24, the reference: in, feeds, back, open, Acts. -/
namespace Go.Am
open Go Go.Proofs Go.Pn

def netN (c : Circuit) (i : Int) (s : Txt) : Nat := (netP c ⟨i, s⟩).toNat
theorem netN_at {c : Circuit} (h : checkP c = 0) {i : Int} {s : Txt} (hp : (⟨i, s⟩ : Port) ∈ allP c) : netP c ⟨i, s⟩ = netN c i s ∧ netN c i s < (nets c).length := by
  obtain ⟨_, n, g, h1, h2, _⟩ := netP_at3 h hp
  unfold netN
  rw [h1]
  exact ⟨by omega, by omega⟩

def mkd (m : List Bool) (n : Nat) : Bool := (m[n]?).getD false
end Go.Am
/- Contracts: chapter 24, the reference: feeds, back, open, Acts. -/
namespace Go.Am
open Go Go.Proofs Go.Pn

def posOf (l : List Int) (i : Int) : Int := (l[i.toNat]?).getD 0
def passAt (c : Circuit) (l : List Int) (i : Int) : List Pass := passedOf (kindAt c i).toNat (decide (posOf l i = 1))
def ventAt (c : Circuit) (l : List Int) (i : Int) : Txt := (openOf (kindAt c i).toNat (decide (posOf l i = 1))).2
theorem passed_facts {k : Nat} (h : k < 14) (b : Bool) : ∀ y ∈ passedOf k b, y.to ∈ kindPorts k ∧ (∀ s ∈ y.fr, s ∈ kindPorts k) ∧ 1 ≤ y.fr.length ∧ y.fr.length ≤ 2 := by
  have t1 := (by decide : ∀ k, k < 14 → ∀ y ∈ passedOf k true, y.to ∈ kindPorts k ∧ (∀ s ∈ y.fr, s ∈ kindPorts k) ∧ 1 ≤ y.fr.length ∧ y.fr.length ≤ 2) k h
  have t2 := (by decide : ∀ k, k < 14 → ∀ y ∈ passedOf k false, y.to ∈ kindPorts k ∧ (∀ s ∈ y.fr, s ∈ kindPorts k) ∧ 1 ≤ y.fr.length ∧ y.fr.length ≤ 2) k h
  cases b
  · exact t2
  · exact t1
theorem passed_len {k : Nat} {b : Bool} : (passedOf k b).length ≤ 1 := by unfold passedOf; split <;> simp

structure PortFacts (c : Circuit) (l : List Int) (i : Nat) (q : Part) (a : Int) : Prop where
  here : c.parts[i]? = some q
  pos : l[i]? = some a
  lt : i < c.parts.length
  ltl : i < l.length
  kind : 0 ≤ q.kind ∧ q.kind < 14
  placed : placedErr q.kind a = 0
  pass : passAt c l i = passedOf q.kind.toNat (decide (a = 1))
  vent : ventAt c l i = (openOf q.kind.toNat (decide (a = 1))).2
  kat : kindAt c i = q.kind
  mem : ∀ s, s ∈ kindPorts q.kind.toNat → (⟨i, s⟩ : Port) ∈ allP c
  passes : passedAt q.kind a = passAt c l i
  vents : ventsAt q.kind a = ventsOf q.kind.toNat (decide (a = 1))

theorem part_facts {c : Circuit} {l : List Int} (h : checkQ c l = 0) {i : Nat} {q : Part} (e : c.parts[i]? = some q) : ∃ a, PortFacts c l i q a := by
  obtain ⟨h1, h2, h3⟩ := checkQ_zero h
  obtain ⟨a, ha, hpl, hk⟩ := h3 i q e
  have hi := (List.getElem?_eq_some_iff.1 e).1
  have hka : kindAt c (i : Int) = q.kind := by rw [kindAt, Int.toNat_natCast, e]; rfl
  have hpo : posOf l (i : Int) = a := by rw [posOf, Int.toNat_natCast, ha]; rfl
  have hpass : passAt c l i = passedOf q.kind.toNat (decide (a = 1)) := by rw [passAt, hka, hpo]
  refine ⟨a, ⟨e, ha, hi, by omega, hk, hpl, hpass, by rw [ventAt, hka, hpo], hka, fun s hs => ?_, by rw [hpass, passedAt, if_pos hpl], by rw [ventsAt, if_pos hpl]⟩⟩
  exact allP_mem.2 (given_mem.2 ⟨q, by rw [Int.toNat_natCast]; exact e, by simp, hs⟩)

def actsB (c : Circuit) (m : List Bool) (i : Int) (s : Txt) : Bool := if s = [] then false else mkd m (netN c i s)

end Go.Am
