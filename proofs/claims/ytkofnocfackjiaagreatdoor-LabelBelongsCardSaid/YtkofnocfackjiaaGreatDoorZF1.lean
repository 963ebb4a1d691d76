/- Lemmas and contracts for the proof of a statement of this seat. -/
import Derived.Test.YtkofnocfackjiaaGreatDoorZC1
import Derived.Test.YtkofnocfackjiaaGreatDoorZCT
import Derived.Test.YtkofnocfackjiaaGreatDoorZCR
import Derived.Lib.AtoiAll
import Derived.Lib.IndexAny
import Derived.Lib.ItoaNum
set_option linter.unusedVariables false
set_option linter.unusedSimpArgs false
/- Plain: rounds in which groups spread; chapter 26. -/
namespace Go.Am
open Go Go.Proofs Go.Pn

def gAt (g : List Int) (k : Int) : Int := match g[k.toNat]? with | some x => x | none => -1
def minG (g : List Int) (ks : List Int) (x : Int) : Int := ks.foldl (fun x k => if 1 ≤ gAt g k ∧ (x = -1 ∨ gAt g k < x) then gAt g k else x) x
theorem minG_cons {g : List Int} {k : Int} {ks : List Int} {x : Int} : minG g (k :: ks) x = minG g ks (if 1 ≤ gAt g k ∧ (x = -1 ∨ gAt g k < x) then gAt g k else x) := rfl
theorem minG_snoc {g : List Int} {k : Int} {ks : List Int} {x : Int} : minG g (ks ++ [k]) x = if 1 ≤ gAt g k ∧ (minG g ks x = -1 ∨ gAt g k < minG g ks x) then gAt g k else minG g ks x := by
  unfold minG; rw [List.foldl_append]; rfl
def IsLeast (S : Int → Prop) (r : Int) : Prop := (r = -1 ∧ ∀ y, ¬ S y) ∨ (S r ∧ ∀ y, S y → r ≤ y)
theorem IsLeast.unique {S T : Int → Prop} {r s : Int} (h : IsLeast S r) (k : IsLeast T s) (hst : ∀ y, S y ↔ T y) : r = s := by
  rcases h with ⟨h1, h2⟩ | ⟨h1, h2⟩ <;> rcases k with ⟨k1, k2⟩ | ⟨k1, k2⟩
  · omega
  · exact absurd ((hst s).2 k1) (h2 s)
  · exact absurd ((hst r).1 h1) (k2 r)
  · have := h2 s ((hst s).2 k1); have := k2 r ((hst r).1 h1); omega
theorem minG_least {g : List Int} : ∀ {ks : List Int} {x : Int} {S : Int → Prop}, IsLeast S x → (∀ y, S y → 1 ≤ y) → IsLeast (fun y => S y ∨ ∃ k ∈ ks, gAt g k = y ∧ 1 ≤ y) (minG g ks x)
  | [], x, S, h, _ => by
    have e : (fun y => S y ∨ ∃ k ∈ ([] : List Int), gAt g k = y ∧ 1 ≤ y) = S := by funext y; simp
    rw [e]; exact h
  | k :: ks, x, S, h, hS => by
    rw [minG_cons]
    have key : IsLeast (fun y => S y ∨ (gAt g k = y ∧ 1 ≤ y)) (if 1 ≤ gAt g k ∧ (x = -1 ∨ gAt g k < x) then gAt g k else x) := by
      by_cases hc : 1 ≤ gAt g k ∧ (x = -1 ∨ gAt g k < x)
      · rw [if_pos hc]
        refine .inr ⟨.inr ⟨rfl, hc.1⟩, ?_⟩
        rintro y (hy | ⟨rfl, _⟩)
        · rcases h with ⟨h1, h2⟩ | ⟨h1, h2⟩
          · exact absurd hy (h2 y)
          · have := h2 y hy
            have := hS x h1
            omega
        · exact Int.le_refl _
      · rw [if_neg hc]
        rcases h with ⟨h1, h2⟩ | ⟨h1, h2⟩
        · refine .inl ⟨h1, ?_⟩
          rintro y (hy | ⟨rfl, hy⟩)
          · exact h2 y hy
          · exact hc ⟨hy, .inl h1⟩
        · refine .inr ⟨.inl h1, ?_⟩
          rintro y (hy | ⟨rfl, hy⟩)
          · exact h2 y hy
          · have := hS x h1
            omega
    have ih := minG_least (g := g) (ks := ks) key (by rintro y (hy | ⟨_, hy⟩); exact hS y hy; exact hy)
    have e : (fun y => S y ∨ ∃ k' ∈ k :: ks, gAt g k' = y ∧ 1 ≤ y) = (fun y => (S y ∨ (gAt g k = y ∧ 1 ≤ y)) ∨ ∃ k' ∈ ks, gAt g k' = y ∧ 1 ≤ y) := by
      funext y
      refine propext ⟨?_, ?_⟩
      · rintro (h | ⟨k', hk, h⟩)
        · exact .inl (.inl h)
        · rcases List.mem_cons.1 hk with rfl | hk
          · exact .inl (.inr h)
          · exact .inr ⟨k', hk, h⟩
      · rintro ((h | h) | ⟨k', hk, h⟩)
        · exact .inl h
        · exact .inr ⟨k, by simp, h⟩
        · exact .inr ⟨k', by simp [hk], h⟩
    rw [e]; exact ih
theorem minG_is {g : List Int} {ks : List Int} : IsLeast (fun y => ∃ k ∈ ks, gAt g k = y ∧ 1 ≤ y) (minG g ks (-1)) := by
  have := minG_least (g := g) (ks := ks) (x := -1) (S := fun _ => False) (.inl ⟨rfl, fun _ h => h⟩) (fun _ h => h.elim)
  have e : (fun y => False ∨ ∃ k ∈ ks, gAt g k = y ∧ 1 ≤ y) = (fun y => ∃ k ∈ ks, gAt g k = y ∧ 1 ≤ y) := by funext y; simp
  rw [e] at this; exact this
theorem minG_same {g : List Int} {ks ms : List Int} (h : ∀ k, k ∈ ks ↔ k ∈ ms) : minG g ks (-1) = minG g ms (-1) :=
  minG_is.unique minG_is fun y => by simp only [h]
theorem minG_one {g : List Int} {ks : List Int} (h : minG g ks (-1) ≠ -1) : 1 ≤ minG g ks (-1) := by
  rcases @minG_is g ks with ⟨h1, _⟩ | ⟨⟨_, _, _, h1⟩, _⟩
  · exact absurd h1 h
  · exact h1

def nextT (A : Nat → List Int) (g : List Int) (n : Nat) : List Int := (List.range g.length).map fun i => if i < n ∧ gAt g i = -1 then minG g (A i) (-1) else gAt g i
theorem nextT_len {A : Nat → List Int} {g : List Int} {n : Nat} : (nextT A g n).length = g.length := by simp [nextT]
theorem nextT_at {A : Nat → List Int} {g : List Int} {n i : Nat} (h : i < g.length) : (nextT A g n)[i]? = some (if i < n ∧ gAt g i = -1 then minG g (A i) (-1) else gAt g i) := by simp [nextT, h]
theorem gAt_nat {g : List Int} {i : Nat} {x : Int} (e : g[i]? = some x) : gAt g (i : Int) = x := by simp only [gAt, Int.toNat_natCast, e]
theorem nextT_zero {A : Nat → List Int} {g : List Int} : nextT A g 0 = g := by
  apply List.ext_getElem?
  intro i
  by_cases h : i < g.length
  · rw [nextT_at h, if_neg (by omega)]
    obtain ⟨x, e⟩ : ∃ x, g[i]? = some x := ⟨_, List.getElem?_eq_getElem h⟩
    rw [gAt_nat e, e]
  · rw [List.getElem?_eq_none (by rw [nextT_len]; omega), List.getElem?_eq_none (by omega)]
theorem nextT_step {A : Nat → List Int} {g : List Int} {n : Nat} (h : n < g.length) : nextT A g (n + 1) = if gAt g n = -1 then (nextT A g n).set n (minG g (A n) (-1)) else nextT A g n := by
  apply List.ext_getElem?
  intro i
  by_cases hi : i < g.length
  · rw [nextT_at hi]
    by_cases hn : gAt g n = -1
    · rw [if_pos hn, List.getElem?_set, nextT_len]
      by_cases e : n = i
      · subst e
        rw [if_pos ⟨by omega, hn⟩, if_pos rfl, if_pos h]
      · rw [if_neg e, nextT_at hi]
        congr 1
        by_cases h2 : gAt g i = -1
        · by_cases h3 : i < n
          · rw [if_pos ⟨by omega, h2⟩, if_pos ⟨h3, h2⟩]
          · rw [if_neg (by omega), if_neg (by omega)]
        · rw [if_neg (fun h => h2 h.2), if_neg (fun h => h2 h.2)]
    · rw [if_neg hn, nextT_at hi]
      congr 1
      by_cases e : i = n
      · subst e
        rw [if_neg (fun h => hn h.2), if_neg (fun h => hn h.2)]
      · by_cases h2 : gAt g i = -1
        · by_cases h3 : i < n
          · rw [if_pos ⟨by omega, h2⟩, if_pos ⟨h3, h2⟩]
          · rw [if_neg (by omega), if_neg (by omega)]
        · rw [if_neg (fun h => h2 h.2), if_neg (fun h => h2 h.2)]
  · have h2 : i ≥ (nextT A g n).length := by rw [nextT_len]; omega
    rw [List.getElem?_eq_none (by rw [nextT_len]; omega)]
    split
    · rw [List.getElem?_eq_none (by rw [List.length_set]; exact h2)]
    · rw [List.getElem?_eq_none h2]

def noneN (g : List Int) : Nat := g.countP fun x => decide (x = -1)
theorem noneN_len {g : List Int} : noneN g ≤ g.length := List.countP_le_length
theorem count_le {A B : List Int} (hl : A.length = B.length) (h : ∀ (i : Nat) a b, A[i]? = some a → B[i]? = some b → b = -1 → a = -1) : noneN B ≤ noneN A ∧ (noneN A = noneN B → ∀ (i : Nat) a b, A[i]? = some a → B[i]? = some b → (a = -1 ↔ b = -1)) := by
  induction A generalizing B with
  | nil => cases B with | nil => simp [noneN] | cons => simp at hl
  | cons a A ih =>
    cases B with
    | nil => simp at hl
    | cons b B =>
      have ih := @ih B (by simpa using hl) fun i x y hx hy => h (i + 1) x y (by simpa using hx) (by simpa using hy)
      have h0 := h 0 a b rfl rfl
      unfold noneN at ih ⊢
      simp only [List.countP_cons, decide_eq_true_eq]
      refine ⟨by split <;> split <;> omega, fun hc i x y hx hy => ?_⟩
      have hab : a = -1 ↔ b = -1 := by
        refine ⟨fun ha => ?_, h0⟩
        by_cases hb : b = -1
        · exact hb
        · rw [if_pos ha, if_neg hb] at hc
          omega
      cases i with
      | zero => simp at hx hy; subst hx; subst hy; exact hab
      | succ i =>
        refine ih.2 ?_ i x y (by simpa using hx) (by simpa using hy)
        by_cases ha : a = -1
        · rw [if_pos ha, if_pos (hab.1 ha)] at hc; omega
        · rw [if_neg ha, if_neg (fun hb => ha (hab.2 hb))] at hc; omega
theorem next_less {A : Nat → List Int} {g : List Int} {n : Nat} (hne : nextT A g n ≠ g) : noneN (nextT A g n) < noneN g := by
  have hk : ∀ (i : Nat) a b, g[i]? = some a → (nextT A g n)[i]? = some b → b = -1 → a = -1 := fun i a b ha hb hb1 => by
    have hi := (List.getElem?_eq_some_iff.1 ha).1
    rw [nextT_at hi, gAt_nat ha] at hb
    by_cases h : i < n ∧ a = -1
    · exact h.2
    · rw [if_neg h] at hb; cases hb; exact hb1
  obtain ⟨h1, h2⟩ := count_le (A := g) (B := nextT A g n) nextT_len.symm hk
  by_cases he : noneN g = noneN (nextT A g n)
  · exfalso
    apply hne
    apply List.ext_getElem?
    intro i
    by_cases hi : i < g.length
    · obtain ⟨x, e⟩ : ∃ x, g[i]? = some x := ⟨_, List.getElem?_eq_getElem hi⟩
      have e2 := nextT_at (A := A) (n := n) hi
      have h3 := h2 he i _ _ e e2
      rw [e2, e, gAt_nat e]
      rw [gAt_nat e] at h3
      by_cases h : i < n ∧ x = -1
      · rw [if_pos h] at h3 ⊢
        rw [h3.1 h.2, h.2]
      · rw [if_neg h]
    · rw [List.getElem?_eq_none (by rw [nextT_len]; omega), List.getElem?_eq_none (by omega)]
  · omega

def iterT (A : Nat → List Int) (n : Nat) (g : List Int) : Nat → List Int
  | 0 => g
  | k + 1 => nextT A (iterT A n g k) n
theorem iterT_len {A : Nat → List Int} {n : Nat} {g : List Int} : ∀ {k : Nat}, (iterT A n g k).length = g.length
  | 0 => rfl
  | k + 1 => by rw [iterT, nextT_len, iterT_len]
theorem iterT_stop {A : Nat → List Int} {n : Nat} {g : List Int} {k : Nat} (h : nextT A (iterT A n g k) n = iterT A n g k) : ∀ m, iterT A n g (k + m) = iterT A n g k
  | 0 => rfl
  | m + 1 => by
    have ih := iterT_stop h m
    rw [show k + (m + 1) = (k + m) + 1 from rfl, iterT, ih, h]
def endT (A : Nat → List Int) (n : Nat) (g : List Int) : List Int := iterT A n g g.length
theorem iter_none {A : Nat → List Int} {n : Nat} {g : List Int} : ∀ {k : Nat}, (∀ j, j < k → nextT A (iterT A n g j) n ≠ iterT A n g j) → noneN (iterT A n g k) + k ≤ noneN g
  | 0, _ => by simp [iterT]
  | k + 1, h => by
    have ih := @iter_none A n g k fun j hj => h j (by omega)
    have := next_less (h k (by omega))
    rw [iterT]; omega
theorem end_of {A : Nat → List Int} {n : Nat} {g : List Int} {k : Nat} (hp : ∀ j, j < k → nextT A (iterT A n g j) n ≠ iterT A n g j) (h : nextT A (iterT A n g k) n = iterT A n g k) : iterT A n g k = endT A n g := by
  have h1 := iter_none hp
  have h2 := @noneN_len g
  obtain ⟨m, hm⟩ : ∃ m, g.length = k + m := ⟨g.length - k, by omega⟩
  unfold endT
  rw [hm, iterT_stop h m]
end Go.Am
/- Plain: the groups before the first round; chapter 26. -/
namespace Go.Am
open Go Go.Proofs Go.Pn

def cylN (c : Circuit) (k : Nat) : Int := ((c.parts.take k).countP fun p => decide (p.kind = 1) : Nat)
theorem cylN_step {c : Circuit} {k : Nat} {p : Part} (e : c.parts[k]? = some p) : cylN c (k + 1) = cylN c k + if p.kind = 1 then 1 else 0 := by
  unfold cylN
  rw [take_snoc e, List.countP_append]
  by_cases h : p.kind = 1 <;> simp [h]
theorem cylN_le {c : Circuit} {k : Nat} : cylN c k ≤ k := by
  have h1 := @List.countP_le_length _ (fun p : Part => decide (p.kind = 1)) (c.parts.take k)
  have h2 : (c.parts.take k).length ≤ k := List.length_take_le ..
  unfold cylN; omega
theorem cylN_pos {c : Circuit} {k : Nat} : 0 ≤ cylN c k := by unfold cylN; omega
def cylOf (c : Circuit) (s : Txt) : Int := partI c s.dropLast
def grpK (c : Circuit) (k : Nat) (i : Nat) : Int := match c.parts[i]? with
  | none => -1
  | some p => if p.kind = 1 then (if i < k then cylN c (i + 1) else -1) else if p.kind = 0 then (if i < k then 0 else -1)
      else if p.kind = 6 then (if cylOf c p.name < k then cylN c ((cylOf c p.name).toNat + 1) else -1) else -1
def firstT (c : Circuit) (n k : Nat) : List Int := (List.range n).map (grpK c k)
theorem firstT_len {c : Circuit} {n k : Nat} : (firstT c n k).length = n := by simp [firstT]
theorem firstT_at {c : Circuit} {n k i : Nat} (h : i < n) : (firstT c n k)[i]? = some (grpK c k i) := by simp [firstT, h]

theorem lim_bel {c : Circuit} (h : checkP c = 0) {i : Nat} {q : Part} (e : c.parts[i]? = some q) (hk : q.kind = 6) : belB c q.name = true := by
  have hc := checkP_zero.1 h
  have h1 := firstErr_iff.1 hc.1.owned i (List.getElem?_eq_some_iff.1 e).1
  simp only [ownerAt, e] at h1
  have hn : ∀ p ∈ c.parts, p.name ≠ [] := fun p hp => by
    obtain ⟨j, hj, ej⟩ := List.getElem_of_mem hp
    have h2 := firstErr_iff.1 hc.1.each j hj
    simp only [partAt, List.getElem?_eq_getElem hj, ej] at h2
    intro hnil
    have h3 : partErr p = 0 := by
      apply Decidable.byContradiction
      intro hne
      rw [if_pos hne] at h2
      exact hne h2
    unfold partErr at h3
    rw [hnil] at h3
    have h4 : wordErr ([] : Txt) ≠ 0 := by decide
    by_cases h5 : kindErr p.kind ≠ 0
    · rw [if_pos h5] at h3; exact h5 h3
    · rw [if_neg h5, if_pos h4] at h3; exact h4 h3
  cases hb : belB c q.name with
  | true => rfl
  | false =>
    rw [if_pos ⟨hk, (owner_bel hn).2 hb⟩] at h1
    cases h1
theorem lim_cyl {c : Circuit} (h : checkP c = 0) {i : Nat} {q : Part} (e : c.parts[i]? = some q) (hk : q.kind = 6) :
    ∃ (j : Nat) (p : Part) (d : UInt8), cylOf c q.name = j ∧ c.parts[j]? = some p ∧ p.kind = 1 ∧ q.name = p.name ++ [d] ∧ (d = 48 ∨ d = 49) := by
  have hb := lim_bel h e hk
  unfold belB at hb
  simp only [Bool.and_eq_true, Bool.or_eq_true, decide_eq_true_eq] at hb
  obtain ⟨⟨h1, h2⟩, h3⟩ := hb
  unfold cylB at h3
  split at h3
  · cases h3
  · rename_i j hj
    obtain ⟨hjl, hp, _⟩ := List.findIdx?_eq_some_iff_getElem.1 hj
    have ej : c.parts[j]? = some c.parts[j] := List.getElem?_eq_getElem hjl
    have hname : c.parts[j].name = q.name.dropLast := by simpa using hp
    have hki : c.parts[j].kind = 1 := by rw [ej] at h3; simpa using h3
    have hd : ∀ d, q.name.getLast? = some d → q.name = c.parts[j].name ++ [d] := fun d hd => by
      rw [hname]
      have hne : q.name ≠ [] := by intro h0; rw [h0] at h1; simp at h1
      rw [List.getLast?_eq_some_getLast hne] at hd
      have := List.dropLast_concat_getLast hne
      simp only [Option.some.injEq] at hd
      rw [hd] at this
      exact this.symm
    have hc : cylOf c q.name = j := by unfold cylOf; rw [← hname]; exact partI_at h ej
    rcases h2 with h2 | h2
    · exact ⟨j, _, 48, hc, ej, hki, hd _ h2, .inl rfl⟩
    · exact ⟨j, _, 49, hc, ej, hki, hd _ h2, .inr rfl⟩
theorem sw_is {c : Circuit} (h : checkP c = 0) {j : Nat} {p : Part} (e : c.parts[j]? = some p) (d : UInt8) : (swAt c (p.name ++ [d]) = -1 ∧ ∀ (i : Nat) q, c.parts[i]? = some q → q.kind = 6 → q.name ≠ p.name ++ [d]) ∨
    ∃ (i : Nat) (q : Part), swAt c (p.name ++ [d]) = i ∧ c.parts[i]? = some q ∧ q.kind = 6 ∧ q.name = p.name ++ [d] := by
  have h0 := partI_cases c (p.name ++ [d])
  unfold swAt
  rcases h0 with hk | ⟨i, x, hk, ei, hx⟩
  · rw [hk]
    refine .inl ⟨rfl, fun i q eq _ => partI_none hk q (List.mem_of_getElem? eq)⟩
  · rw [hk]
    have hka : kindAt c (i : Int) = x.kind := by rw [kindAt, Int.toNat_natCast, ei]; rfl
    have hxn : x.name = p.name ++ [d] := hx
    unfold swK
    rw [hka]
    by_cases h6 : x.kind = 6
    · rw [if_neg (by simp [h6])]
      exact .inr ⟨i, x, rfl, ei, h6, hxn⟩
    · rw [if_pos ⟨by omega, h6⟩]
      refine .inl ⟨rfl, fun i' q eq hq6 hqn => ?_⟩
      have h1 := partI_at h eq
      rw [hqn, hk] at h1
      have h2 : i = i' := by omega
      subst h2
      rw [ei] at eq; cases eq
      exact h6 hq6

theorem grpK_zero {c : Circuit} (h : checkP c = 0) {i : Nat} : grpK c 0 i = -1 := by
  unfold grpK
  cases e : c.parts[i]? with
  | none => rfl
  | some p =>
    simp only
    split
    · rw [if_neg (by omega)]
    · split
      · rw [if_neg (by omega)]
      · split
        · rename_i h6
          obtain ⟨j, _, _, hj, _⟩ := lim_cyl h e h6
          rw [if_neg (by omega)]
        · rfl
theorem first_skip {c : Circuit} (h : checkP c = 0) {n k : Nat} {p : Part} (e : c.parts[k]? = some p) (h1 : p.kind ≠ 1) (h0 : p.kind ≠ 0) : firstT c n (k + 1) = firstT c n k := by
  unfold firstT
  apply List.map_congr_left
  intro i _
  unfold grpK
  cases ei : c.parts[i]? with
  | none => rfl
  | some q =>
    have hne : i = k → q = p := fun hik => by subst hik; rw [e] at ei; cases ei; rfl
    simp only
    by_cases hq1 : q.kind = 1
    · have : i ≠ k := fun hik => h1 (hne hik ▸ hq1)
      rw [if_pos hq1, if_pos hq1]
      by_cases hik : i < k
      · rw [if_pos (by omega), if_pos hik]
      · rw [if_neg (by omega), if_neg hik]
    · rw [if_neg hq1, if_neg hq1]
      by_cases hq0 : q.kind = 0
      · have : i ≠ k := fun hik => h0 (hne hik ▸ hq0)
        rw [if_pos hq0, if_pos hq0]
        by_cases hik : i < k
        · rw [if_pos (by omega), if_pos hik]
        · rw [if_neg (by omega), if_neg hik]
      · rw [if_neg hq0, if_neg hq0]
        by_cases hq6 : q.kind = 6
        · rw [if_pos hq6, if_pos hq6]
          obtain ⟨j, p', d, hj, ej, hk1, _⟩ := lim_cyl h ei hq6
          have : j ≠ k := fun hjk => by subst hjk; rw [e] at ej; cases ej; exact h1 hk1
          rw [hj]
          by_cases hjk : j < k
          · rw [if_pos (by omega), if_pos (by omega)]
          · rw [if_neg (by omega), if_neg (by omega)]
        · rw [if_neg hq6, if_neg hq6]
theorem first_supply {c : Circuit} (h : checkP c = 0) {n k : Nat} {p : Part} (e : c.parts[k]? = some p) (h0 : p.kind = 0) (hk : k < n) : firstT c n (k + 1) = (firstT c n k).set k 0 := by
  apply List.ext_getElem?
  intro i
  by_cases hi : i < n
  · rw [List.getElem?_set, firstT_at hi, firstT_len]
    by_cases hik : k = i
    · subst hik
      rw [if_pos rfl, if_pos hk]
      unfold grpK
      rw [e]
      simp [h0]
    · rw [if_neg hik, firstT_at hi]
      congr 1
      unfold grpK
      cases ei : c.parts[i]? with
      | none => rfl
      | some q =>
        simp only
        by_cases hq1 : q.kind = 1
        · rw [if_pos hq1, if_pos hq1]
          by_cases hik : i < k
          · rw [if_pos (by omega), if_pos hik]
          · rw [if_neg (by omega), if_neg hik]
        · rw [if_neg hq1, if_neg hq1]
          by_cases hq0 : q.kind = 0
          · rw [if_pos hq0, if_pos hq0]
            by_cases hik : i < k
            · rw [if_pos (by omega), if_pos hik]
            · rw [if_neg (by omega), if_neg hik]
          · rw [if_neg hq0, if_neg hq0]
            by_cases hq6 : q.kind = 6
            · rw [if_pos hq6, if_pos hq6]
              obtain ⟨j, p', d, hj, ej, hk1, _⟩ := lim_cyl h ei hq6
              have : j ≠ k := fun hjk => by subst hjk; rw [e] at ej; cases ej; rw [h0] at hk1; cases hk1
              rw [hj]
              by_cases hjk : j < k
              · rw [if_pos (by omega), if_pos (by omega)]
              · rw [if_neg (by omega), if_neg (by omega)]
            · rw [if_neg hq6, if_neg hq6]
  · rw [List.getElem?_eq_none (by rw [firstT_len]; omega), List.getElem?_eq_none (by rw [List.length_set, firstT_len]; omega)]
def setI (g : List Int) (k x : Int) : List Int := if 0 ≤ k then g.set k.toNat x else g
theorem setI_len {g : List Int} {k x : Int} : (setI g k x).length = g.length := by unfold setI; split <;> simp
theorem setI_at {g : List Int} {k x : Int} {i : Nat} (hi : i < g.length) : (setI g k x)[i]? = if k = i then some x else g[i]? := by
  unfold setI
  by_cases h : 0 ≤ k
  · rw [if_pos h, List.getElem?_set]
    by_cases e : k = i
    · rw [if_pos e, if_pos (by omega), if_pos (by omega)]
    · rw [if_neg e, if_neg (by omega)]
  · rw [if_neg h, if_neg (by omega)]
theorem first_cyl {c : Circuit} (h : checkP c = 0) {n k : Nat} {p : Part} (e : c.parts[k]? = some p) (h1 : p.kind = 1) (hk : k < n) :
    firstT c n (k + 1) = setI (setI ((firstT c n k).set k (cylN c (k + 1))) (swAt c (p.name ++ [48])) (cylN c (k + 1))) (swAt c (p.name ++ [49])) (cylN c (k + 1)) := by
  apply List.ext_getElem?
  intro i
  by_cases hi : i < n
  · rw [setI_at (by rw [setI_len, List.length_set, firstT_len]; exact hi), setI_at (by rw [List.length_set, firstT_len]; exact hi), List.getElem?_set, firstT_at hi, firstT_at hi, firstT_len]
    have hsw : ∀ d, swAt c (p.name ++ [d]) = i → ∃ q, c.parts[i]? = some q ∧ q.kind = 6 ∧ q.name = p.name ++ [d] := fun d hd => by
      rcases sw_is h e d with ⟨h2, _⟩ | ⟨i', q, h2, h3, h4, h5⟩
      · omega
      · have : i' = i := by omega
        subst this
        exact ⟨q, h3, h4, h5⟩
    have hlim : ∀ d q, c.parts[i]? = some q → q.kind = 6 → q.name = p.name ++ [d] → grpK c (k + 1) i = cylN c (k + 1) := fun d q eq h6 hn => by
      have hco : cylOf c q.name = k := by
        unfold cylOf
        rw [hn, List.dropLast_concat]
        exact partI_at h e
      unfold grpK
      rw [eq]
      simp only
      rw [if_neg (by omega), if_neg (by omega), if_pos h6, hco, if_pos (by omega), Int.toNat_natCast]
    by_cases hb : swAt c (p.name ++ [49]) = i
    · rw [if_pos hb]
      obtain ⟨q, a1, a2, a3⟩ := hsw _ hb
      rw [hlim _ q a1 a2 a3]
    · rw [if_neg hb]
      by_cases ha : swAt c (p.name ++ [48]) = i
      · rw [if_pos ha]
        obtain ⟨q, a1, a2, a3⟩ := hsw _ ha
        rw [hlim _ q a1 a2 a3]
      · rw [if_neg ha]
        by_cases hik : k = i
        · subst hik
          rw [if_pos rfl, if_pos hk]
          unfold grpK
          rw [e]
          simp [h1]
        · rw [if_neg hik]
          congr 1
          unfold grpK
          cases ei : c.parts[i]? with
          | none => rfl
          | some q =>
            simp only
            by_cases hq1 : q.kind = 1
            · rw [if_pos hq1, if_pos hq1]
              by_cases hik : i < k
              · rw [if_pos (by omega), if_pos hik]
              · rw [if_neg (by omega), if_neg hik]
            · rw [if_neg hq1, if_neg hq1]
              by_cases hq0 : q.kind = 0
              · rw [if_pos hq0, if_pos hq0]
                by_cases hik : i < k
                · rw [if_pos (by omega), if_pos hik]
                · rw [if_neg (by omega), if_neg hik]
              · rw [if_neg hq0, if_neg hq0]
                by_cases hq6 : q.kind = 6
                · rw [if_pos hq6, if_pos hq6]
                  obtain ⟨j, p', d, hj, ej, hk1, hn, hd⟩ := lim_cyl h ei hq6
                  have hjk : j ≠ k := fun hjk => by
                    subst hjk
                    rw [e] at ej; cases ej
                    have hne : swAt c (p.name ++ [d]) ≠ i := by rcases hd with rfl | rfl <;> assumption
                    rcases sw_is h e d with ⟨_, h2⟩ | ⟨i', q', h2, h3, h4, h5⟩
                    · exact h2 i q ei hq6 hn
                    · have h6 := partI_at h ei
                      have h7 := partI_at h h3
                      rw [hn] at h6
                      rw [h5, h6] at h7
                      exact hne (by omega)
                  rw [hj]
                  by_cases hjk2 : j < k
                  · rw [if_pos (by omega), if_pos (by omega)]
                  · rw [if_neg (by omega), if_neg (by omega)]
                · rw [if_neg hq6, if_neg hq6]
  · rw [List.getElem?_eq_none (by rw [firstT_len]; omega), List.getElem?_eq_none (by rw [setI_len, setI_len, List.length_set, firstT_len]; omega)]
end Go.Am
/- Plain: the groups in the end; chapter 26. -/
namespace Go.Am
open Go Go.Proofs Go.Pn

theorem minG_congr {g h : List Int} (e : ∀ k : Int, gAt g k = gAt h k) : ∀ {ks : List Int} {x : Int}, minG g ks x = minG h ks x
  | [], _ => rfl
  | k :: ks, x => by rw [minG_cons, minG_cons, e k]; exact minG_congr e
def padT (g : List Int) (m : Nat) : List Int := g ++ List.replicate (m - g.length) (-1)
theorem padT_len {g : List Int} {m : Nat} (h : g.length ≤ m) : (padT g m).length = m := by simp [padT]; omega
theorem padT_at {g : List Int} {m i : Nat} (h : i < m) : (padT g m)[i]? = some (gAt g i) := by
  unfold padT
  by_cases hi : i < g.length
  · rw [List.getElem?_append_left hi, List.getElem?_eq_getElem hi, gAt_nat (List.getElem?_eq_getElem hi)]
  · have e : g[i]? = none := List.getElem?_eq_none (by omega)
    rw [List.getElem?_append_right (by omega), List.getElem?_replicate, if_pos (by omega)]
    simp only [gAt, Int.toNat_natCast, e]
theorem gAt_none {g : List Int} {i : Nat} (h : g.length ≤ i) : gAt g i = -1 := by simp only [gAt, Int.toNat_natCast, List.getElem?_eq_none h]
theorem gAt_pad {g : List Int} {m : Nat} (h : g.length ≤ m) (k : Int) : gAt (padT g m) k = gAt g k := by
  unfold gAt
  by_cases hk : k.toNat < m
  · rw [padT_at hk]
    simp only [gAt, Int.toNat_natCast]
  · rw [List.getElem?_eq_none (by rw [padT_len h]; omega), List.getElem?_eq_none (by omega)]
theorem nextT_pad {A : Nat → List Int} {g : List Int} {n m : Nat} (hn : n ≤ g.length) (h : g.length ≤ m) : nextT A (padT g m) n = padT (nextT A g n) m := by
  apply List.ext_getElem?
  intro i
  by_cases hi : i < m
  · rw [nextT_at (by rw [padT_len h]; exact hi), padT_at hi, gAt_pad h, minG_congr (gAt_pad h)]
    by_cases hg : i < g.length
    · rw [gAt_nat (nextT_at hg)]
    · rw [if_neg (by omega), gAt_none (by omega), gAt_none (by rw [nextT_len]; omega)]
  · rw [List.getElem?_eq_none (by rw [nextT_len, padT_len h]; omega), List.getElem?_eq_none (by rw [padT_len (by rw [nextT_len]; exact h)]; omega)]
theorem iterT_pad {A : Nat → List Int} {g : List Int} {n m : Nat} (hn : n ≤ g.length) (h : g.length ≤ m) : ∀ {k : Nat}, iterT A n (padT g m) k = padT (iterT A n g k) m
  | 0 => rfl
  | k + 1 => by rw [iterT, iterT_pad hn h, nextT_pad (by rw [iterT_len]; exact hn) (by rw [iterT_len]; exact h)]; rfl
theorem iterT_end {A : Nat → List Int} {g : List Int} {n : Nat} {m : Nat} (h : g.length ≤ m) : iterT A n g m = endT A n g := by
  have h0 : ∃ k, k ≤ g.length ∧ nextT A (iterT A n g k) n = iterT A n g k := by
    apply Classical.byContradiction
    intro hn
    have h1 := @iter_none A n g (g.length + 1) fun j hj he => hn ⟨j, by omega, he⟩
    have h2 := @noneN_len g
    omega
  obtain ⟨k, hk, he⟩ := h0
  have h1 := iterT_stop he (m - k)
  have h2 := iterT_stop he (g.length - k)
  rw [show k + (m - k) = m by omega] at h1
  rw [show k + (g.length - k) = g.length by omega] at h2
  unfold endT
  rw [h1, h2]
theorem endT_pad {A : Nat → List Int} {g : List Int} {n m : Nat} (hn : n ≤ g.length) (h : g.length ≤ m) : endT A n (padT g m) = padT (endT A n g) m := by
  have e : endT A n (padT g m) = iterT A n (padT g m) m := by unfold endT; rw [padT_len h]
  rw [e, iterT_pad hn h, iterT_end h]
theorem endT_len {A : Nat → List Int} {g : List Int} {n : Nat} : (endT A n g).length = g.length := iterT_len
theorem endT_stop {A : Nat → List Int} {g : List Int} {n : Nat} : nextT A (endT A n g) n = endT A n g := by
  have h1 := @iterT_end A g n (g.length + 1) (by omega)
  rw [iterT] at h1
  exact h1
theorem nextT_congr {A B : Nat → List Int} {g : List Int} {n : Nat} (h : ∀ i, i < n → ∀ k, k ∈ A i ↔ k ∈ B i) : nextT A g n = nextT B g n := by
  unfold nextT
  apply List.map_congr_left
  intro i _
  by_cases hi : i < n ∧ gAt g i = -1
  · rw [if_pos hi, if_pos hi]; exact minG_same (h i hi.1)
  · rw [if_neg hi, if_neg hi]
theorem iterT_congr {A B : Nat → List Int} {g : List Int} {n : Nat} (h : ∀ i, i < n → ∀ k, k ∈ A i ↔ k ∈ B i) : ∀ {k : Nat}, iterT A n g k = iterT B n g k
  | 0 => rfl
  | k + 1 => by rw [iterT, iterT, iterT_congr h, nextT_congr h]
theorem endT_congr {A B : Nat → List Int} {g : List Int} {n : Nat} (h : ∀ i, i < n → ∀ k, k ∈ A i ↔ k ∈ B i) : endT A n g = endT B n g := iterT_congr h

theorem firstT_pad {c : Circuit} {k m : Nat} (h : c.parts.length ≤ m) : firstT c m k = padT (firstT c c.parts.length k) m := by
  apply List.ext_getElem?
  intro i
  by_cases hi : i < m
  · rw [firstT_at hi, padT_at hi]
    by_cases hp : i < c.parts.length
    · rw [gAt_nat (firstT_at hp)]
    · rw [gAt_none (by rw [firstT_len]; omega)]
      unfold grpK
      rw [List.getElem?_eq_none (by omega)]
  · rw [List.getElem?_eq_none (by rw [firstT_len]; omega), List.getElem?_eq_none (by rw [padT_len (by rw [firstT_len]; exact h)]; omega)]

def actP (c : Circuit) (i : Int) (p : Port) : List Int := if decide (p.part = i) && givesB c p then (onlyL c (around c p) false).map (·.part) else []
def actK (c : Circuit) (i : Int) : List Int := (allP c).flatMap (actP c i) ++ (limL c i).filter fun x => decide (0 ≤ x)
theorem mem_actK {c : Circuit} {i x : Int} : x ∈ actK c i ↔ x ∈ dirL c i := by
  unfold actK dirL
  rw [mem_limFold, mem_dirFold, List.mem_append, List.mem_filter, List.mem_flatMap]
  simp only [List.not_mem_nil, false_or, decide_eq_true_eq]
  have e : (∃ p ∈ allP c, x ∈ actP c i p) ↔ ∃ p ∈ allP c, p.part = i ∧ givesB c p = true ∧ ∃ q ∈ onlyL c (around c p) false, q.part = x := by
    constructor
    · rintro ⟨p, hp, hx⟩
      unfold actP at hx
      by_cases h : (decide (p.part = i) && givesB c p) = true
      · rw [if_pos h] at hx
        simp only [Bool.and_eq_true, decide_eq_true_eq] at h
        obtain ⟨q, hq, hqx⟩ := List.mem_map.1 hx
        exact ⟨p, hp, h.1, h.2, q, hq, hqx⟩
      · rw [if_neg h] at hx; cases hx
    · rintro ⟨p, hp, h1, h2, q, hq, hqx⟩
      refine ⟨p, hp, ?_⟩
      unfold actP
      rw [if_pos (by simp [h1, h2])]
      exact List.mem_map.2 ⟨q, hq, hqx⟩
  rw [e]
def rawG (c : Circuit) : List Int := endT (fun i => dirL c (i : Int)) c.parts.length (firstT c c.parts.length c.parts.length)
def groupsL (c : Circuit) : List Int := (rawG c).map fun x => max x 0
theorem rawG_len {c : Circuit} : (rawG c).length = c.parts.length := by unfold rawG; rw [endT_len, firstT_len]
theorem groupsL_len {c : Circuit} : (groupsL c).length = c.parts.length := by unfold groupsL; rw [List.length_map, rawG_len]
theorem end_act {c : Circuit} {m : Nat} (h : c.parts.length ≤ m) : endT (fun i => actK c (i : Int)) c.parts.length (firstT c m c.parts.length) = padT (rawG c) m := by
  rw [firstT_pad h, endT_pad (by rw [firstT_len]; exact Nat.le_refl _) (by rw [firstT_len]; exact h)]
  unfold rawG
  rw [endT_congr fun i _ k => mem_actK]
end Go.Am
/- Plain: acting directly, as the reference tells it; chapter 26. -/
namespace Go.Am
open Go Go.Proofs Go.Pn

theorem mem_dirL {c : Circuit} {i x : Int} : x ∈ dirL c i ↔ (x ∈ limL c i ∧ 0 ≤ x) ∨ ∃ p ∈ allP c, p.part = i ∧ givesB c p = true ∧ ∃ q ∈ onlyL c (around c p) false, q.part = x := by
  unfold dirL
  rw [mem_limFold, mem_dirFold]
  simp only [List.not_mem_nil, false_or]
  constructor
  · rintro (h | h)
    · exact .inr h
    · exact .inl h
  · rintro (h | h)
    · exact .inr h
    · exact .inl h
theorem part_kind {c : Circuit} (h : checkP c = 0) {i : Nat} {q : Part} (e : c.parts[i]? = some q) : 0 ≤ q.kind ∧ q.kind < 14 := (check_parts h).1 q (List.mem_of_getElem? e)
theorem name_at {c : Circuit} {i : Nat} {q : Part} (e : c.parts[i]? = some q) : nameAt c i = q.name := by unfold nameAt; rw [Int.toNat_natCast, e]
theorem kind_at {c : Circuit} {i : Nat} {q : Part} (e : c.parts[i]? = some q) : kindAt c i = q.kind := by unfold kindAt; rw [Int.toNat_natCast, e]; rfl
theorem mem_lims {c : Circuit} (h : checkP c = 0) {a b : Nat} {p q : Part} (ea : c.parts[a]? = some p) (eb : c.parts[b]? = some q) : ((b : Int) ∈ limL c a ∧ 0 ≤ (b : Int)) ↔ p.kind = 1 ∧ q.kind = 6 ∧ q.name.dropLast = p.name := by
  have hpa := partI_at h ea
  have hka := kind_at ea
  unfold limL
  rw [name_at ea]
  by_cases h1 : p.kind = 1
  · have he : limErr c p.name = 0 := by
      unfold limErr
      rw [if_neg (by simpa using h), hpa, if_neg (by omega), hka, if_neg (by simpa using h1)]
    have hl : ∀ d, limAt c p.name d = swAt c (p.name ++ [d]) := fun d => by unfold limAt; rw [if_neg (by simpa using he)]
    rw [if_pos he, hl, hl]
    simp only [List.mem_cons, List.not_mem_nil, or_false]
    have hs : ∀ d, (b : Int) = swAt c (p.name ++ [d]) → q.kind = 6 ∧ q.name = p.name ++ [d] := fun d hb => by
      rcases sw_is h ea d with ⟨h2, _⟩ | ⟨i, q', h2, h3, h4, h5⟩
      · omega
      · have : i = b := by omega
        subst this
        rw [eb] at h3; cases h3
        exact ⟨h4, h5⟩
    constructor
    · rintro ⟨hb | hb, _⟩
      · obtain ⟨h2, h3⟩ := hs _ hb
        exact ⟨h1, h2, by rw [h3, List.dropLast_concat]⟩
      · obtain ⟨h2, h3⟩ := hs _ hb
        exact ⟨h1, h2, by rw [h3, List.dropLast_concat]⟩
    · rintro ⟨_, h6, hn⟩
      refine ⟨?_, by omega⟩
      obtain ⟨j, p', d, _, _, _, hnm, hd⟩ := lim_cyl h eb h6
      have hp' : p'.name = p.name := by rw [← hn, hnm, List.dropLast_concat]
      rw [hp'] at hnm
      have key : swAt c (p.name ++ [d]) = b := by
        rcases sw_is h ea d with ⟨_, h2⟩ | ⟨i, q', h2, h3, h4, h5⟩
        · exact absurd hnm (h2 b q eb h6)
        · have h7 := partI_at h eb
          have h8 := partI_at h h3
          rw [hnm] at h7
          rw [h5, h7] at h8
          rw [h2]; omega
      rcases hd with rfl | rfl
      · exact .inl key.symm
      · exact .inr key.symm
  · have he : limErr c p.name ≠ 0 := by
      unfold limErr
      rw [if_neg (by simpa using h), hpa, if_neg (by omega), hka, if_pos h1]
      decide
    rw [if_neg he]
    simp [h1]
end Go.Am
/- Plain: designations, their order, and the rank of a part; chapter 26. -/
namespace Go.Am
open Go Go.Proofs Go.Pn

structure Lbl where
  grp : Int
  ltr : Txt
  num : Int
deriving DecidableEq
@[simp] def Lbl.av (x : Lbl) : AV := .agg [.p (.int .i64 x.grp), .p (.str x.ltr), .p (.int .i64 x.num)]
@[simp] def Lbl.enc (x : Lbl) : List PV := [.int .i64 x.grp, .str x.ltr, .int .i64 x.num]
@[simp] def Lbl.row_ (x : Lbl) : List AV := [.p (.int .i64 x.grp), .p (.str x.ltr), .p (.int .i64 x.num)]

@[simp] theorem Lbl.eq_iff {x y : Lbl} : (x.grp = y.grp ∧ x.ltr = y.ltr ∧ x.num = y.num) = (x = y) := by cases x; cases y; simp
def letterN (k : Int) : Txt := if k = 0 then [90] else if k = 1 then [65] else if k = 6 ∨ k = 7 then [83] else [86]
def keyG (c : Circuit) (i : Nat) : Int × Txt := (gAt (groupsL c) i, letterN (kindAt c i))
def cntG (c : Circuit) (y : Int × Txt) (i : Nat) : Nat := (List.range i).countP fun k => decide (keyG c k = y)
theorem cntG_step {c : Circuit} {y : Int × Txt} {i : Nat} : cntG c y (i + 1) = cntG c y i + if keyG c i = y then 1 else 0 := by
  unfold cntG
  rw [List.range_succ, List.countP_append]
  by_cases h : keyG c i = y <;> simp [h]
theorem cntG_le {c : Circuit} {y : Int × Txt} {i : Nat} : cntG c y i ≤ i := by
  have := @List.countP_le_length _ (fun k => decide (keyG c k = y)) (List.range i)
  rw [List.length_range] at this
  exact this
theorem cntG_mono {c : Circuit} {y : Int × Txt} {i : Nat} : ∀ {d : Nat}, cntG c y i ≤ cntG c y (i + d)
  | 0 => Nat.le_refl _
  | d + 1 => by
    have := @cntG_mono c y i d
    rw [show i + (d + 1) = (i + d) + 1 from rfl, cntG_step]
    omega
def lblN (c : Circuit) (i : Nat) : Lbl := ⟨(keyG c i).1, (keyG c i).2, ((cntG c (keyG c i) i : Nat) : Int) + 1⟩
def labelsT (c : Circuit) (k : Nat) : List Lbl := (List.range k).map (lblN c)
def labelsL (c : Circuit) : List Lbl := labelsT c c.parts.length
theorem labelsT_len {c : Circuit} {k : Nat} : (labelsT c k).length = k := by simp [labelsT]
theorem labelsT_step {c : Circuit} {k : Nat} : labelsT c (k + 1) = labelsT c k ++ [lblN c k] := by unfold labelsT; rw [List.range_succ, List.map_append]; rfl
theorem labelsT_at {c : Circuit} {n k : Nat} (h : k < n) : (labelsT c n)[k]? = some (lblN c k) := by simp [labelsT, h]
theorem labelsL_len {c : Circuit} : (labelsL c).length = c.parts.length := labelsT_len
theorem lbl_lt {c : Circuit} {i j : Nat} (h : i < j) : lblN c i ≠ lblN c j := by
  intro e
  have h1 : keyG c i = keyG c j := by
    have a := congrArg Lbl.grp e
    have b := congrArg Lbl.ltr e
    exact Prod.ext a b
  have h2 := congrArg Lbl.num e
  simp only [lblN] at h2
  rw [h1] at h2
  obtain ⟨d, hd⟩ : ∃ d, j = (i + 1) + d := ⟨j - (i + 1), by omega⟩
  have h3 := @cntG_mono c (keyG c j) (i + 1) d
  rw [← hd, cntG_step, if_pos h1] at h3
  omega
theorem lbl_inj {c : Circuit} {i j : Nat} (e : lblN c i = lblN c j) : i = j := by
  rcases Nat.lt_trichotomy i j with h | h | h
  · exact absurd e (lbl_lt h)
  · exact h
  · exact absurd e.symm (lbl_lt h)

def lblLt (a b : Lbl) : Bool := if a.grp ≠ b.grp then decide (a.grp < b.grp) else if a.ltr ≠ b.ltr then Op.bytesLess a.ltr b.ltr else decide (a.num < b.num)
theorem lblLt_irrefl (a : Lbl) : lblLt a a = false := by simp [lblLt]
theorem lblLt_trans {a b c : Lbl} (h : lblLt a b = true) (k : lblLt b c = true) : lblLt a c = true := by
  unfold lblLt at *
  by_cases h1 : a.grp = b.grp
  · rw [if_neg (by simpa using h1)] at h
    by_cases h2 : b.grp = c.grp
    · rw [if_neg (by simpa using h2)] at k
      rw [if_neg (by simpa using h1.trans h2)]
      by_cases h3 : a.ltr = b.ltr
      · rw [if_neg (by simpa using h3)] at h
        by_cases h4 : b.ltr = c.ltr
        · rw [if_neg (by simpa using h4)] at k
          rw [if_neg (by simpa using h3.trans h4)]
          simp only [decide_eq_true_eq] at h k ⊢
          omega
        · rw [if_pos h4] at k
          rw [h3, if_pos h4]
          exact k
      · rw [if_pos h3] at h
        by_cases h4 : b.ltr = c.ltr
        · rw [← h4, if_pos h3]; exact h
        · rw [if_pos h4] at k
          have h5 := bl_trans h k
          rw [if_pos (fun e => by rw [e, bl_irrefl] at h5; cases h5)]
          exact h5
    · rw [if_pos h2] at k
      rw [h1, if_pos h2]
      exact k
  · rw [if_pos h1] at h
    simp only [decide_eq_true_eq] at h
    by_cases h2 : b.grp = c.grp
    · rw [← h2, if_pos h1]; simpa using h
    · rw [if_pos h2] at k
      simp only [decide_eq_true_eq] at k
      rw [if_pos (by omega)]
      simp only [decide_eq_true_eq]
      omega
theorem lblLt_asymm {a b : Lbl} (h : lblLt a b = true) : lblLt b a = false := by
  cases k : lblLt b a with
  | false => rfl
  | true => have := lblLt_trans h k; rw [lblLt_irrefl] at this; cases this

def rankN (c : Circuit) (i : Nat) : Nat := (List.range c.parts.length).countP fun k => lblLt (lblN c k) (lblN c i)
theorem rank_of {c : Circuit} {s : List Nat} (hp : s.Perm (List.range c.parts.length)) (hs : s.Pairwise fun a b => lblLt (lblN c a) (lblN c b) = true) {m i : Nat} (e : s[m]? = some i) : rankN c i = m := by
  obtain ⟨hm, he⟩ := List.getElem?_eq_some_iff.1 e
  unfold rankN
  rw [← hp.countP_eq]
  have hsp : s = s.take m ++ s[m] :: s.drop (m + 1) := by
    rw [List.getElem_cons_drop, List.take_append_drop]
  rw [he] at hsp
  rw [hsp] at hs ⊢
  rw [List.pairwise_append] at hs
  obtain ⟨_, h2, h3⟩ := hs
  rw [List.pairwise_cons] at h2
  rw [List.countP_append, List.countP_cons]
  have e1 : (s.take m).countP (fun k => lblLt (lblN c k) (lblN c i)) = (s.take m).length := by
    rw [List.countP_eq_length]
    intro a ha
    exact h3 a ha i (by simp)
  have e2 : (s.drop (m + 1)).countP (fun k => lblLt (lblN c k) (lblN c i)) = 0 := by
    rw [List.countP_eq_zero]
    intro a ha
    rw [lblLt_asymm (h2.1 a ha)]
    simp
  rw [e1, e2, lblLt_irrefl]
  simp
  omega
def rankL (c : Circuit) (m : Nat) : List Nat := (List.range c.parts.length).filter fun i => decide (rankN c i = m)
theorem rankL_one {c : Circuit} {s : List Nat} (hp : s.Perm (List.range c.parts.length)) (hs : s.Pairwise fun a b => lblLt (lblN c a) (lblN c b) = true) {m i : Nat} (e : s[m]? = some i) : rankL c m = [i] := by
  have hnd : (rankL c m).Nodup := List.Nodup.sublist List.filter_sublist List.nodup_range
  have hmem : ∀ j, j ∈ rankL c m ↔ j = i := by
    intro j
    unfold rankL
    rw [List.mem_filter, ← hp.mem_iff]
    simp only [decide_eq_true_eq]
    constructor
    · rintro ⟨hj, hr⟩
      obtain ⟨m', e'⟩ := List.mem_iff_getElem?.1 hj
      have h1 := rank_of hp hs e'
      rw [hr] at h1
      subst h1
      rw [e] at e'
      simpa using e'.symm
    · rintro rfl
      exact ⟨List.mem_of_getElem? e, rank_of hp hs e⟩
  have hperm : (rankL c m).Perm [i] := (List.perm_ext_iff_of_nodup hnd (by simp)).2 fun j => by rw [hmem]; simp
  exact List.perm_singleton.1 hperm
def orderL (c : Circuit) : List Nat := (List.range c.parts.length).flatMap (rankL c)
theorem order_is {c : Circuit} {s : List Nat} (hp : s.Perm (List.range c.parts.length)) (hs : s.Pairwise fun a b => lblLt (lblN c a) (lblN c b) = true) : orderL c = s := by
  have hl : s.length = c.parts.length := by rw [hp.length_eq, List.length_range]
  have h : ∀ (n : Nat), n ≤ s.length → (List.range n).flatMap (rankL c) = s.take n := by
    intro n
    induction n with
    | zero => simp
    | succ n ih =>
      intro hn
      obtain ⟨i, e⟩ := get_lt (show n < s.length by omega)
      rw [List.range_succ, List.flatMap_append, ih (by omega), take_snoc e]
      simp [rankL_one hp hs e]
  unfold orderL
  rw [← hl, h s.length (Nat.le_refl _), List.take_length]
end Go.Am
/- Plain: texts of designations; chapter 26. -/
namespace Go.Am
open Go Go.Proofs Go.Pn

def digN (n : Nat) : Txt := if n < 10 then [UInt8.ofNat (48 + n)] else [UInt8.ofNat (48 + n / 10), UInt8.ofNat (48 + n % 10)]
theorem dec_dig {n : Nat} (h : n < 100) : Lib.decDigits n = digN n := by
  unfold digN
  by_cases h1 : n < 10
  · rw [Lib.decDigits, dif_pos h1, if_pos h1]
  · rw [Lib.decDigits, dif_neg h1, if_neg h1, Lib.decDigits, dif_pos (by omega)]
    rfl
def chkL (x : Lbl) : Int := if x.grp < 0 ∨ 64 < x.grp then 2 else if x.ltr ∉ [([65] : Txt), [83], [86], [90]] then 1 else if x.num < 1 ∨ 64 < x.num then 2 else 0
theorem chkL_zero {x : Lbl} : chkL x = 0 ↔ (0 ≤ x.grp ∧ x.grp ≤ 64) ∧ x.ltr ∈ [([65] : Txt), [83], [86], [90]] ∧ 1 ≤ x.num ∧ x.num ≤ 64 := by
  unfold chkL
  by_cases h1 : x.grp < 0 ∨ 64 < x.grp
  · rw [if_pos h1]; constructor
    · intro h; cases h
    · rintro ⟨h, _⟩; omega
  · rw [if_neg h1]
    by_cases h2 : x.ltr ∈ [([65] : Txt), [83], [86], [90]]
    · rw [if_neg (fun hn => hn h2)]
      by_cases h3 : x.num < 1 ∨ 64 < x.num
      · rw [if_pos h3]; constructor
        · intro h; cases h
        · rintro ⟨_, _, h⟩; omega
      · rw [if_neg h3]
        exact ⟨fun _ => ⟨by omega, h2, by omega⟩, fun _ => rfl⟩
    · rw [if_pos h2]; constructor
      · intro h; cases h
      · rintro ⟨_, h, _⟩; exact absurd h h2
def textL (x : Lbl) : Txt := digN x.grp.toNat ++ (x.ltr ++ digN x.num.toNat)
def noL : Lbl := ⟨0, [], 0⟩

def numErr (s : Txt) : Int := if s = [] ∨ (1 < s.length ∧ s.head? = some 48) then 3 else if s.all isDigit = false then 3 else if 7 < s.length then 17 else 0
def worthN (s : Txt) : Int := s.foldl (fun n b => 10 * n + ((b.toNat : Int) - 48)) 0
def signed (s : Txt) : Bool := decide (s.head? = some 45)
def valErr (s : Txt) : Int := if signed s ∧ s.tail = [48] then 3 else numErr (if signed s then s.tail else s)
def valOf (s : Txt) : Int := if valErr s ≠ 0 then 0 else if signed s then -worthN s.tail else worthN s
theorem digit_iff {b : UInt8} : isDigit b = true ↔ 48 ≤ b.toNat ∧ b.toNat ≤ 57 := by
  have h : ∀ n : Nat, n < 256 → (isDigit (UInt8.ofNat n) = true ↔ 48 ≤ n ∧ n ≤ 57) := by decide +kernel
  have := h b.toNat b.toNat_lt
  rwa [UInt8.ofNat_toNat] at this
theorem worth_go {s : Txt} : ∀ {n : Int}, (∀ b ∈ s, isDigit b = true) → 0 ≤ n → n * 10 ^ s.length ≤ s.foldl (fun n b => 10 * n + ((b.toNat : Int) - 48)) n := by
  induction s with
  | nil => intro n _ _; simp
  | cons b s ih =>
    intro n hd h0
    have hb := digit_iff.1 (hd b (by simp))
    have h1 := @ih (10 * n + ((b.toNat : Int) - 48)) (fun x hx => hd x (by simp [hx])) (by omega)
    rw [List.foldl_cons]
    refine Int.le_trans ?_ h1
    rw [List.length_cons, Int.pow_succ]
    have h2 : 0 ≤ (10 : Int) ^ s.length := Int.pow_nonneg (by omega)
    have h3 : n * (10 ^ s.length * 10) = (10 * n) * 10 ^ s.length := by rw [Int.mul_comm (10 ^ s.length) 10, ← Int.mul_assoc, Int.mul_comm n 10]
    rw [h3, Int.add_mul]
    have h4 : 0 ≤ ((b.toNat : Int) - 48) * 10 ^ s.length := Int.mul_nonneg (by omega) h2
    omega
theorem num_dig {s : Txt} (h : numErr s = 0) (h1 : worthN s ≤ 64) : 0 ≤ worthN s ∧ s = digN (worthN s).toNat := by
  have e1 : ¬ (s = [] ∨ (1 < s.length ∧ s.head? = some 48)) := by intro h2; unfold numErr at h; rw [if_pos h2] at h; cases h
  have e2 : s.all isDigit = true := by
    cases h3 : s.all isDigit with
    | true => rfl
    | false => unfold numErr at h; rw [if_neg e1, if_pos h3] at h; cases h
  have hd : ∀ b ∈ s, isDigit b = true := fun b hb => List.all_eq_true.1 e2 b hb
  match s, e1, hd with
  | [], e1, _ => exact absurd (.inl rfl) e1
  | [a], _, hd =>
    have ha := digit_iff.1 (hd a (by simp))
    have e : worthN [a] = (a.toNat : Int) - 48 := by simp [worthN]
    rw [e]
    refine ⟨by omega, ?_⟩
    unfold digN
    rw [if_pos (by omega), show 48 + ((a.toNat : Int) - 48).toNat = a.toNat by omega, UInt8.ofNat_toNat]
  | [a, b], e1, hd =>
    have ha := digit_iff.1 (hd a (by simp))
    have hb := digit_iff.1 (hd b (by simp))
    have h48 : a.toNat ≠ 48 := fun hh => e1 (.inr ⟨by simp, by simp; rw [← UInt8.toNat_inj]; exact hh⟩)
    have e : worthN [a, b] = 10 * ((a.toNat : Int) - 48) + ((b.toNat : Int) - 48) := by simp [worthN]
    rw [e]
    refine ⟨by omega, ?_⟩
    unfold digN
    rw [if_neg (by omega), show 48 + (10 * ((a.toNat : Int) - 48) + ((b.toNat : Int) - 48)).toNat / 10 = a.toNat by omega, show 48 + (10 * ((a.toNat : Int) - 48) + ((b.toNat : Int) - 48)).toNat % 10 = b.toNat by omega, UInt8.ofNat_toNat, UInt8.ofNat_toNat]
  | a :: b :: c :: r, e1, hd =>
    exfalso
    have ha := digit_iff.1 (hd a (by simp))
    have h48 : a.toNat ≠ 48 := fun hh => e1 (.inr ⟨by simp, by simp; rw [← UInt8.toNat_inj]; exact hh⟩)
    have h2 := @worth_go (b :: c :: r) ((a.toNat : Int) - 48) (fun x hx => hd x (by simp [hx])) (by omega)
    have e : worthN (a :: b :: c :: r) = (b :: c :: r).foldl (fun n b => 10 * n + ((b.toNat : Int) - 48)) ((a.toNat : Int) - 48) := by simp [worthN]
    rw [← e] at h2
    have h3 : (100 : Int) ≤ 10 ^ (b :: c :: r).length := by
      simp only [List.length_cons]
      rw [show r.length + 1 + 1 = r.length + 2 from rfl, Int.pow_add]
      have : (0 : Int) < 10 ^ r.length := Int.pow_pos (by omega)
      omega
    have h4 : (100 : Int) ≤ ((a.toNat : Int) - 48) * 10 ^ (b :: c :: r).length := by
      have : (1 : Int) * 10 ^ (b :: c :: r).length ≤ ((a.toNat : Int) - 48) * 10 ^ (b :: c :: r).length := Int.mul_le_mul_of_nonneg_right (by omega) (by omega)
      omega
    omega
theorem val_dig {s : Txt} (h : valErr s = 0) (h0 : 0 ≤ valOf s) (h1 : valOf s ≤ 64) : s = digN (valOf s).toNat := by
  cases hs : signed s with
  | false =>
    have e1 : valErr s = numErr s := by unfold valErr; rw [hs]; simp
    have e2 : valOf s = worthN s := by unfold valOf; rw [if_neg (by simpa using h), hs]; simp
    rw [e1] at h
    rw [e2] at h1 ⊢
    exact (num_dig h h1).2
  | true =>
    exfalso
    have e2 : valOf s = -worthN s.tail := by unfold valOf; rw [if_neg (by simpa using h), hs]; simp
    have hne : ¬ s.tail = [48] := fun hh => by unfold valErr at h; rw [if_pos ⟨hs, hh⟩] at h; cases h
    have e1 : numErr s.tail = 0 := by
      unfold valErr at h
      rw [if_neg (fun hh => hne hh.2), hs] at h
      simpa using h
    rw [e2] at h0
    obtain ⟨h2, h3⟩ := num_dig e1 (by omega)
    have h4 : worthN s.tail = 0 := by omega
    rw [h4] at h3
    exact hne h3
theorem dig_val {n : Nat} (h : n < 100) : valErr (digN n) = 0 ∧ valOf (digN n) = n ∧ (∀ b ∈ digN n, isDigit b = true) ∧ digN n ≠ [] ∧ Lib.atoiAll (digN n) = .ok (n : Int) := by
  have h2 : ∀ n : Nat, n < 100 → (valErr (digN n) = 0 ∧ valOf (digN n) = n ∧ (digN n).all isDigit = true ∧ digN n ≠ []) := by decide +kernel
  have h4 : ∀ n : Nat, n < 100 → (match Lib.atoiAll (digN n) with | .ok v => decide (v = (n : Int)) | _ => false) = true := by decide +kernel
  have h3 : ∀ n : Nat, n < 100 → Lib.atoiAll (digN n) = .ok (n : Int) := fun n hn => by
    have := h4 n hn
    cases e : Lib.atoiAll (digN n) with
    | ok v => rw [e] at this; simp only [decide_eq_true_eq] at this; rw [this]
    | range => rw [e] at this; cases this
    | _ => rw [e] at this; cases this
  obtain ⟨a, b, c, d⟩ := h2 n h
  exact ⟨a, b, fun x hx => List.all_eq_true.1 c x hx, d, h3 n h⟩

def dpl (s : Txt) : Nat := (s.takeWhile isDigit).length
def parX (s : Txt) : Lbl := ⟨valOf (s.take (dpl s)), (s.drop (dpl s)).take 1, valOf (s.drop (dpl s + 1))⟩
def parB (s : Txt) : Bool := !decide (dpl s = s.length) && (decide (valErr (s.take (dpl s)) = 0) && (decide (valErr (s.drop (dpl s + 1)) = 0) && decide (chkL (parX s) = 0)))
def parL (s : Txt) : Lbl := if parB s then parX s else noL
def parE (s : Txt) : Int := if parB s then 0 else 4
theorem dpl_le {s : Txt} : dpl s ≤ s.length := (List.takeWhile_prefix _).length_le
theorem parB_text {s : Txt} (h : parB s = true) : chkL (parX s) = 0 ∧ textL (parX s) = s := by
  unfold parB at h
  simp only [Bool.and_eq_true, Bool.not_eq_true', decide_eq_true_eq, decide_eq_false_iff_not] at h
  obtain ⟨h1, h2, h3, h4⟩ := h
  refine ⟨h4, ?_⟩
  obtain ⟨⟨a1, a2⟩, a3, a4, a5⟩ := chkL_zero.1 h4
  have e1 := val_dig h2 a1 a2
  have e2 := val_dig h3 (by simp only [parX] at a4; omega) a5
  have hl := @dpl_le s
  unfold textL
  simp only [parX]
  rw [← e1, ← e2]
  have e3 : (s.drop (dpl s)).take 1 ++ s.drop (dpl s + 1) = s.drop (dpl s) := by
    rw [show s.drop (dpl s + 1) = (s.drop (dpl s)).drop 1 by rw [List.drop_drop]]
    exact List.take_append_drop _ _
  rw [e3, List.take_append_drop]
theorem ltr_one {x : Lbl} (h : chkL x = 0) : ∃ b : UInt8, x.ltr = [b] ∧ isDigit b = false ∧ b ∈ ([65, 83, 86, 90] : Txt) := by
  obtain ⟨_, h2, _⟩ := chkL_zero.1 h
  simp only [List.mem_cons, List.not_mem_nil, or_false] at h2
  rcases h2 with h2 | h2 | h2 | h2
  · exact ⟨65, h2, by decide, by simp⟩
  · exact ⟨83, h2, by decide, by simp⟩
  · exact ⟨86, h2, by decide, by simp⟩
  · exact ⟨90, h2, by decide, by simp⟩
theorem takeW_digits {d : Txt} {b : UInt8} {r : Txt} (hd : ∀ x ∈ d, isDigit x = true) (hb : isDigit b = false) : (d ++ b :: r).takeWhile isDigit = d := by
  induction d with
  | nil => simp [hb]
  | cons a d ih => rw [List.cons_append, List.takeWhile_cons, if_pos (hd a (by simp)), ih fun x hx => hd x (by simp [hx])]
theorem text_par {x : Lbl} (h : chkL x = 0) : parB (textL x) = true ∧ parX (textL x) = x := by
  obtain ⟨⟨a1, a2⟩, _, a4, a5⟩ := chkL_zero.1 h
  obtain ⟨b, hb, hbd, _⟩ := ltr_one h
  obtain ⟨c1, c2, c3, c4, _⟩ := @dig_val x.grp.toNat (by omega)
  obtain ⟨d1, d2, d3, d4, _⟩ := @dig_val x.num.toNat (by omega)
  have et : textL x = digN x.grp.toNat ++ b :: digN x.num.toNat := by unfold textL; rw [hb]; rfl
  have ed : dpl (textL x) = (digN x.grp.toNat).length := by unfold dpl; rw [et, takeW_digits c3 hbd]
  have e1 : (textL x).take (dpl (textL x)) = digN x.grp.toNat := by rw [ed, et, List.take_left]
  have e2 : (textL x).drop (dpl (textL x)) = b :: digN x.num.toNat := by rw [ed, et, List.drop_left]
  have e3 : (textL x).drop (dpl (textL x) + 1) = digN x.num.toNat := by rw [← List.drop_drop, e2]; rfl
  have ex : parX (textL x) = x := by
    unfold parX
    rw [e1, e2, e3, c2, d2]
    cases x
    simp only at hb a1 a4 ⊢
    rw [hb]
    simp only [List.take_succ_cons, List.take_zero, Lbl.mk.injEq, true_and]
    omega
  refine ⟨?_, ex⟩
  unfold parB
  rw [e1, e3, c1, d1, ex, h]
  have : ¬ dpl (textL x) = (textL x).length := by
    rw [ed, et]; simp
  simp [this]
theorem par_of {s : Txt} {x : Lbl} (h : chkL x = 0) (e : textL x = s) : parL s = x ∧ parE s = 0 := by
  subst e
  obtain ⟨h1, h2⟩ := text_par h
  unfold parL parE
  rw [if_pos h1, if_pos h1]
  exact ⟨h2, rfl⟩
theorem par_none {s : Txt} (h : ∀ x, chkL x = 0 → textL x ≠ s) : parL s = noL ∧ parE s = 4 := by
  have hb : ¬ parB s = true := fun hb => by
    obtain ⟨h1, h2⟩ := parB_text hb
    exact h _ h1 h2
  unfold parL parE
  rw [if_neg hb, if_neg hb]
  exact ⟨rfl, rfl⟩
end Go.Am
/- Plain: the order of designations as a number; chapter 26. -/
namespace Go.Am
open Go Go.Proofs Go.Pn

def cmpS (a b : Txt) : Int := if Op.bytesLess a b then -1 else if Op.bytesLess b a then 1 else 0
def cmpLbl (a b : Lbl) : Int := orI [cmpI a.grp b.grp, cmpS a.ltr b.ltr, cmpI a.num b.num]
theorem lblLt_total {a b : Lbl} (h : lblLt a b = false) (k : lblLt b a = false) : a = b := by
  unfold lblLt at h k
  by_cases h1 : a.grp = b.grp
  · rw [if_neg (by simpa using h1)] at h
    rw [if_neg (by simpa using h1.symm)] at k
    by_cases h2 : a.ltr = b.ltr
    · rw [if_neg (by simpa using h2)] at h
      rw [if_neg (by simpa using h2.symm)] at k
      simp only [decide_eq_false_iff_not] at h k
      obtain ⟨g, l, n⟩ := a
      obtain ⟨g', l', n'⟩ := b
      simp only at h1 h2 h k
      have h3 : n = n' := by omega
      rw [h1, h2, h3]
    · rw [if_pos h2] at h
      rw [if_pos (fun e => h2 e.symm)] at k
      exact absurd (bl_total h k) h2
  · rw [if_pos h1] at h
    rw [if_pos (fun e => h1 e.symm)] at k
    simp only [decide_eq_false_iff_not] at h k
    omega
theorem cmpI_same (a : Int) : cmpI a a = 0 := by unfold cmpI; rw [if_neg (by omega), if_neg (by omega)]
theorem cmpI_lt {a b : Int} (h : a < b) : cmpI a b = -1 := by unfold cmpI; rw [if_pos h]
theorem cmpI_gt {a b : Int} (h : b < a) : cmpI a b = 1 := by unfold cmpI; rw [if_neg (by omega), if_pos h]
theorem cmpS_same (a : Txt) : cmpS a a = 0 := by unfold cmpS; rw [bl_irrefl]; rfl
theorem cmpLbl_is (a b : Lbl) : cmpLbl a b = if lblLt a b then -1 else if lblLt b a then 1 else 0 := by
  obtain ⟨g, l, n⟩ := a
  obtain ⟨g', l', n'⟩ := b
  unfold cmpLbl
  simp only [orI]
  unfold lblLt
  simp only
  by_cases h1 : g = g'
  · subst h1
    simp only [cmpI_same, ne_eq, not_true_eq_false, if_true, if_false]
    by_cases h2 : l = l'
    · subst h2
      simp only [cmpS_same, not_true_eq_false, if_true, if_false]
      rcases Int.lt_trichotomy n n' with h3 | h3 | h3
      · rw [cmpI_lt h3]; simp [h3]
      · subst h3; rw [cmpI_same]; simp
      · rw [cmpI_gt h3]; simp [h3]; omega
    · have h2' : ¬ l' = l := fun e => h2 e.symm
      simp only [h2, h2', not_false_eq_true, if_true]
      unfold cmpS
      cases h3 : Op.bytesLess l l' with
      | true => simp
      | false =>
        cases h4 : Op.bytesLess l' l with
        | true => simp
        | false => exact absurd (bl_total h3 h4) h2
  · rw [if_pos h1, if_pos (fun e => h1 e.symm)]
    by_cases h2 : g < g'
    · rw [cmpI_lt h2]; simp [h2]
    · have h3 : g' < g := by omega
      rw [cmpI_gt h3]; simp [h3]; omega
theorem cmpLbl_zero {a b : Lbl} : cmpLbl a b = 0 ↔ a = b := by
  rw [cmpLbl_is]
  constructor
  · intro h
    cases h1 : lblLt a b with
    | true => rw [h1] at h; simp at h
    | false =>
      cases h2 : lblLt b a with
      | true => rw [h1, h2] at h; simp at h
      | false => exact lblLt_total h1 h2
  · rintro rfl
    rw [lblLt_irrefl]; rfl
theorem cmpLbl_neg (a b : Lbl) : cmpLbl a b = -cmpLbl b a := by
  rw [cmpLbl_is, cmpLbl_is]
  cases h1 : lblLt a b with
  | true => rw [lblLt_asymm h1]; simp
  | false => cases h2 : lblLt b a <;> simp
theorem cmpLbl_lt {a b : Lbl} : cmpLbl a b < 0 ↔ lblLt a b = true := by
  rw [cmpLbl_is]
  cases h1 : lblLt a b with
  | true => simp
  | false => cases h2 : lblLt b a <;> simp
theorem cmpLbl_trans {a b c : Lbl} (h : cmpLbl a b ≤ 0) (k : cmpLbl b c ≤ 0) : cmpLbl a c ≤ 0 := by
  have e : ∀ {x y : Lbl}, cmpLbl x y ≤ 0 → cmpLbl x y < 0 ∨ x = y := fun {x y} hxy => by
    by_cases h0 : cmpLbl x y = 0
    · exact .inr (cmpLbl_zero.1 h0)
    · exact .inl (by omega)
  rcases e h with h1 | rfl
  · rcases e k with h2 | rfl
    · have := cmpLbl_lt.2 (lblLt_trans (cmpLbl_lt.1 h1) (cmpLbl_lt.1 h2)); omega
    · omega
  · exact k
end Go.Am
/- Plain: sinking sorts; chapter 26. -/
namespace Go.Am
open Go Go.Proofs Go.Pn

def swapF (l : List Int) (j : Nat) : List Int := (l.set (j + 1) (l[j]?.getD 0)).set j (l[j + 1]?.getD 0)
def sinkF (lt : Int → Int → Bool) (l : List Int) : Nat → List Int
  | 0 => l
  | j + 1 => if lt (l[j + 1]?.getD 0) (l[j]?.getD 0) then sinkF lt (swapF l j) j else l
def fromF (lt : Int → Int → Bool) : Nat → List Int → Nat → List Int
  | 0, l, _ => l
  | f + 1, l, i => fromF lt f (sinkF lt l i) (i + 1)
def isortF (lt : Int → Int → Bool) (l : List Int) : List Int := fromF lt (l.length - 1) l 1
theorem swapF_len {l : List Int} {j : Nat} : (swapF l j).length = l.length := by simp [swapF]
theorem sinkF_len {lt : Int → Int → Bool} : ∀ {j : Nat} {l : List Int}, (sinkF lt l j).length = l.length
  | 0, l => rfl
  | j + 1, l => by
    unfold sinkF
    split
    · rw [sinkF_len, swapF_len]
    · rfl
theorem fromF_len {lt : Int → Int → Bool} : ∀ {f : Nat} {l : List Int} {i : Nat}, (fromF lt f l i).length = l.length
  | 0, l, i => rfl
  | f + 1, l, i => by simp only [fromF]; rw [fromF_len, sinkF_len]
theorem isortF_len {lt : Int → Int → Bool} {l : List Int} : (isortF lt l).length = l.length := fromF_len
theorem swapF_at {l : List Int} {j i : Nat} {x y : Int} (h1 : l[j]? = some x) (h2 : l[j + 1]? = some y) : (swapF l j)[i]? = if i = j then some y else if i = j + 1 then some x else l[i]? := by
  have hj := (List.getElem?_eq_some_iff.1 h2).1
  unfold swapF
  rw [h1, h2, List.getElem?_set, List.getElem?_set, List.length_set]
  simp only [Option.getD_some]
  by_cases e1 : i = j
  · subst e1; rw [if_pos rfl, if_pos (by omega), if_pos rfl]
  · rw [if_neg (fun e => e1 e.symm), if_neg e1]
    by_cases e2 : i = j + 1
    · subst e2; rw [if_pos rfl, if_pos hj, if_pos rfl]
    · rw [if_neg (fun e => e2 e.symm), if_neg e2]
theorem swapF_perm {l : List Int} {j : Nat} {x y : Int} (h1 : l[j]? = some x) (h2 : l[j + 1]? = some y) : (swapF l j).Perm l := by
  have hj := (List.getElem?_eq_some_iff.1 h2).1
  have e1 : l = l.take j ++ x :: y :: l.drop (j + 2) := by
    have a : l.drop j = x :: l.drop (j + 1) := by rw [List.drop_eq_getElem_cons (by omega)]; rw [List.getElem?_eq_getElem (by omega)] at h1; cases h1; rfl
    have b : l.drop (j + 1) = y :: l.drop (j + 2) := by rw [List.drop_eq_getElem_cons hj]; rw [List.getElem?_eq_getElem hj] at h2; cases h2; rfl
    rw [← b, ← a, List.take_append_drop]
  have e2 : swapF l j = l.take j ++ y :: x :: l.drop (j + 2) := by
    apply List.ext_getElem?
    intro i
    rw [swapF_at h1 h2]
    have hl : (l.take j).length = j := by simp; omega
    by_cases a : i = j
    · subst a; rw [if_pos rfl, List.getElem?_append_right (by omega), hl]; simp
    · rw [if_neg a]
      by_cases b : i = j + 1
      · subst b; rw [if_pos rfl, List.getElem?_append_right (by omega), hl]; simp
      · rw [if_neg b]
        by_cases c : i < j
        · rw [List.getElem?_append_left (by omega), List.getElem?_take_of_lt c]
        · rw [List.getElem?_append_right (by omega), hl]
          obtain ⟨d, hd⟩ : ∃ d, i = j + 2 + d := ⟨i - (j + 2), by omega⟩
          subst hd
          rw [show j + 2 + d - j = d + 2 by omega]
          simp [List.getElem?_drop]
  rw [e2]
  conv => rhs; rw [e1]
  exact List.Perm.append_left _ (List.Perm.swap ..)
theorem sinkF_perm {lt : Int → Int → Bool} : ∀ {j : Nat} {l : List Int}, j < l.length → (sinkF lt l j).Perm l
  | 0, l, _ => .refl _
  | j + 1, l, h => by
    obtain ⟨x, h1⟩ := get_lt (xs := l) (k := j) (by omega)
    obtain ⟨y, h2⟩ := get_lt (xs := l) (k := j + 1) h
    unfold sinkF
    split
    · exact (sinkF_perm (by rw [swapF_len]; omega)).trans (swapF_perm h1 h2)
    · exact .refl _
theorem fromF_perm {lt : Int → Int → Bool} : ∀ {f : Nat} {l : List Int} {i : Nat}, i + f ≤ l.length → (fromF lt f l i).Perm l
  | 0, l, i, _ => .refl _
  | f + 1, l, i, h => by
    simp only [fromF]
    exact (fromF_perm (by rw [sinkF_len]; omega)).trans (sinkF_perm (by omega))
theorem isortF_perm {lt : Int → Int → Bool} {l : List Int} : (isortF lt l).Perm l := by
  unfold isortF
  cases l with
  | nil => exact .refl _
  | cons a l => exact fromF_perm (by simp; omega)

structure LtOk (lt : Int → Int → Bool) : Prop where
  asymm : ∀ x y, lt x y = true → lt y x = false
  ntrans : ∀ x y z, lt y x = false → lt z y = false → lt z x = false
def UpTo (lt : Int → Int → Bool) (q : List Int) (i : Nat) : Prop := ∀ (a b : Nat) x y, a < b → b ≤ i → q[a]? = some x → q[b]? = some y → lt y x = false
theorem sink_up {lt : Int → Int → Bool} (ho : LtOk lt) {i : Nat} : ∀ {j : Nat} {q : List Int}, j ≤ i → i < q.length → (∀ (a b : Nat) x y, a < b → b ≤ i → a ≠ j → b ≠ j → q[a]? = some x → q[b]? = some y → lt y x = false) →
    (∀ (b : Nat) x y, j < b → b ≤ i → q[j]? = some x → q[b]? = some y → lt y x = false) → UpTo lt (sinkF lt q j) i
  | 0, q, _, _, h1, h2 => by
    intro a b x y hab hb hx hy
    simp only [sinkF] at hx hy
    by_cases ha : a = 0
    · subst ha; exact h2 b x y hab hb hx hy
    · exact h1 a b x y hab hb ha (by omega) hx hy
  | j + 1, q, hj, hi, h1, h2 => by
    obtain ⟨u, e1⟩ := get_lt (xs := q) (k := j) (by omega)
    obtain ⟨v, e2⟩ := get_lt (xs := q) (k := j + 1) (by omega)
    have e1' : q[j]?.getD 0 = u := by rw [e1]; rfl
    have e2' : q[j + 1]?.getD 0 = v := by rw [e2]; rfl
    unfold sinkF
    rw [e1', e2']
    by_cases hlt : lt v u = true
    · rw [if_pos hlt]
      refine sink_up ho (by omega) (by rw [swapF_len]; exact hi) (fun a b x y hab hb ha hb2 hx hy => ?_) (fun b x y hb hbi hx hy => ?_)
      · rw [swapF_at e1 e2] at hx hy
        rw [if_neg ha] at hx
        rw [if_neg hb2] at hy
        by_cases a1 : a = j + 1
        · rw [if_pos a1] at hx; cases hx
          rw [if_neg (by omega)] at hy
          exact h1 j b u y (by omega) hb (by omega) (by omega) e1 hy
        · rw [if_neg a1] at hx
          by_cases b1 : b = j + 1
          · rw [if_pos b1] at hy; cases hy
            exact h1 a j x u (by omega) (by omega) a1 (by omega) hx e1
          · rw [if_neg b1] at hy
            exact h1 a b x y hab hb a1 b1 hx hy
      · rw [swapF_at e1 e2] at hx hy
        rw [if_pos rfl] at hx; cases hx
        rw [if_neg (by omega)] at hy
        by_cases b1 : b = j + 1
        · rw [if_pos b1] at hy; cases hy
          exact ho.asymm _ _ hlt
        · rw [if_neg b1] at hy
          exact h2 b v y (by omega) hbi e2 hy
    · rw [if_neg hlt]
      have hf : lt v u = false := by simpa using hlt
      intro a b x y hab hb hx hy
      by_cases a1 : a = j + 1
      · subst a1; rw [e2] at hx; cases hx
        exact h2 b v y hab hb e2 hy
      · by_cases b1 : b = j + 1
        · subst b1; rw [e2] at hy; cases hy
          by_cases a2 : a = j
          · subst a2; rw [e1] at hx; cases hx; exact hf
          · exact ho.ntrans _ _ _ (h1 a j x u (by omega) (by omega) a1 (by omega) hx e1) hf
        · exact h1 a b x y hab hb a1 b1 hx hy
theorem from_up {lt : Int → Int → Bool} (ho : LtOk lt) : ∀ {f : Nat} {q : List Int} {i : Nat}, 1 ≤ i → i + f = q.length → UpTo lt q (i - 1) → UpTo lt (fromF lt f q i) (q.length - 1)
  | 0, q, i, _, h, hu => by
    simp only [fromF]
    rw [← h]; exact hu
  | f + 1, q, i, h1, h, hu => by
    simp only [fromF]
    have h2 : UpTo lt (sinkF lt q i) i := sink_up ho (Nat.le_refl _) (by omega) (fun a b x y hab hb ha hb2 hx hy => hu a b x y hab (by omega) hx hy) (fun b x y hb hbi => by omega)
    have := from_up ho (f := f) (q := sinkF lt q i) (i := i + 1) (by omega) (by rw [sinkF_len]; omega) h2
    rw [sinkF_len] at this
    exact this
theorem isortF_up {lt : Int → Int → Bool} (ho : LtOk lt) {l : List Int} : (isortF lt l).Pairwise fun x y => lt y x = false := by
  rw [List.pairwise_iff_getElem]
  intro a b ha hb hab
  rw [isortF_len] at ha hb
  have hl : 0 < l.length := by omega
  have h := @from_up lt ho (l.length - 1) l 1 (by omega) (by omega) (fun a b x y hab hb => by omega)
  exact h a b _ _ hab (by omega) (List.getElem?_eq_getElem (by rw [fromF_len]; exact ha)) (List.getElem?_eq_getElem (by rw [fromF_len]; exact hb))
end Go.Am
