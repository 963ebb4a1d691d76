/- Lemmas and contracts for the proof of a statement of this seat. -/
import Derived.Test.YtkofnocfackjiaaGreatDoorZF2
import Derived.Test.YtkofnocfackjiaaGreatDoorZCG
set_option linter.unusedVariables false
set_option linter.unusedSimpArgs false
/- Contracts: the reference: All, Groups; chapter 26. -/
namespace Go.Am
open Go Go.Proofs Go.Pn

theorem nextT_lo {A : Nat → List Int} {g : List Int} {n : Nat} (hg : ∀ x ∈ g, -1 ≤ x) : ∀ x ∈ nextT A g n, -1 ≤ x := by
  intro x hx
  obtain ⟨i, e⟩ := List.mem_iff_getElem?.1 hx
  have hi : i < g.length := by have := (List.getElem?_eq_some_iff.1 e).1; rwa [nextT_len] at this
  rw [nextT_at hi] at e
  obtain ⟨y, ey⟩ := get_lt hi
  have hy := hg y (List.mem_of_getElem? ey)
  rw [gAt_nat ey] at e
  by_cases h : i < n ∧ y = -1
  · rw [if_pos h] at e; cases e
    by_cases h1 : minG g (A i) (-1) = -1
    · omega
    · have := minG_one h1; omega
  · rw [if_neg h] at e; cases e; exact hy
theorem iterT_lo {A : Nat → List Int} {g : List Int} {n : Nat} (hg : ∀ x ∈ g, -1 ≤ x) : ∀ {k : Nat}, ∀ x ∈ iterT A n g k, -1 ≤ x
  | 0 => hg
  | k + 1 => nextT_lo (iterT_lo hg)
theorem grpK_lo {c : Circuit} {k i : Nat} : -1 ≤ grpK c k i := by
  unfold grpK
  have h1 := @cylN_pos c (i + 1)
  split
  · omega
  · split
    · split <;> omega
    · split
      · split <;> omega
      · split
        · rename_i p _ _ _ _
          have h2 := @cylN_pos c ((cylOf c p.name).toNat + 1)
          split <;> omega
        · omega
theorem firstT_lo {c : Circuit} {n k : Nat} : ∀ x ∈ firstT c n k, -1 ≤ x := by
  intro x hx
  obtain ⟨i, _, rfl⟩ := List.mem_map.1 hx
  exact grpK_lo
end Go.Am
/- Contracts: the reference: Named, Labels, Text, Format, Find, Same; chapter 26. -/
namespace Go.Am
open Go Go.Proofs Go.Pn

def wordN (k : Nat) : Txt := (refWords[k]?.getD ([], [])).1
end Go.Am
/- Contracts: the reference's Legend; chapter 26. -/
namespace Go.Am
open Go Go.Proofs Go.Pn

theorem minG_hi {g : List Int} {B : Int} (hB : -1 ≤ B) (hg : ∀ x ∈ g, x ≤ B) {ks : List Int} : minG g ks (-1) ≤ B := by
  rcases @minG_is g ks with ⟨h1, _⟩ | ⟨⟨k, _, h1, h2⟩, _⟩
  · omega
  · rw [← h1]
    unfold gAt
    cases e : g[k.toNat]? with
    | none => simpa using hB
    | some x => exact hg x (List.mem_of_getElem? e)
theorem nextT_hi {A : Nat → List Int} {g : List Int} {n : Nat} {B : Int} (hB : -1 ≤ B) (hg : ∀ x ∈ g, x ≤ B) : ∀ x ∈ nextT A g n, x ≤ B := by
  intro x hx
  obtain ⟨i, e⟩ := List.mem_iff_getElem?.1 hx
  have hi : i < g.length := by have := (List.getElem?_eq_some_iff.1 e).1; rwa [nextT_len] at this
  rw [nextT_at hi] at e
  obtain ⟨y, ey⟩ := get_lt hi
  rw [gAt_nat ey] at e
  by_cases h : i < n ∧ y = -1
  · rw [if_pos h] at e; cases e
    exact minG_hi hB hg
  · rw [if_neg h] at e; cases e; exact hg _ (List.mem_of_getElem? ey)
theorem iterT_hi {A : Nat → List Int} {g : List Int} {n : Nat} {B : Int} (hB : -1 ≤ B) (hg : ∀ x ∈ g, x ≤ B) : ∀ {k : Nat}, ∀ x ∈ iterT A n g k, x ≤ B
  | 0 => hg
  | k + 1 => nextT_hi hB (iterT_hi hB hg)
theorem cylN_all {c : Circuit} {k : Nat} : cylN c k ≤ c.parts.length := by
  have h1 := @List.countP_le_length _ (fun p : Part => decide (p.kind = 1)) (c.parts.take k)
  have h2 : (c.parts.take k).length ≤ c.parts.length := by simp; omega
  unfold cylN; omega
theorem firstT_hi {c : Circuit} {n k : Nat} : ∀ x ∈ firstT c n k, x ≤ c.parts.length := by
  intro x hx
  obtain ⟨i, _, rfl⟩ := List.mem_map.1 hx
  unfold grpK
  have h1 := @cylN_all c (i + 1)
  split
  · omega
  · split
    · split <;> omega
    · split
      · split <;> omega
      · split
        · rename_i p _ _ _ _
          have h2 := @cylN_all c ((cylOf c p.name).toNat + 1)
          split <;> omega
        · omega
theorem groups_range {c : Circuit} {i : Nat} {y : Int} (e : (groupsL c)[i]? = some y) : 0 ≤ y ∧ y ≤ c.parts.length := by
  unfold groupsL at e
  rw [List.getElem?_map, Option.map_eq_some_iff] at e
  obtain ⟨x, h1, rfl⟩ := e
  have h2 : x ≤ c.parts.length := iterT_hi (by omega) firstT_hi x (by unfold rawG endT at h1; exact List.mem_of_getElem? h1)
  omega
theorem letter_in {k : Int} : letterN k ∈ [([65] : Txt), [83], [86], [90]] := by
  unfold letterN
  split
  · simp
  · split
    · simp
    · split <;> simp
theorem lbl_ok {c : Circuit} (h : checkP c = 0) {i : Nat} (hi : i < c.parts.length) : chkL (lblN c i) = 0 := by
  have h2 := (check_parts h).2.1
  obtain ⟨y, ey⟩ := get_lt (show i < (groupsL c).length by rw [groupsL_len]; exact hi)
  have h3 := groups_range ey
  have h4 := @cntG_le c (keyG c i) i
  rw [chkL_zero]
  have e1 : (lblN c i).grp = y := gAt_nat ey
  refine ⟨by rw [e1]; omega, letter_in, ?_⟩
  show 1 ≤ ((cntG c (keyG c i) i : Nat) : Int) + 1 ∧ ((cntG c (keyG c i) i : Nat) : Int) + 1 ≤ 64
  omega
theorem textL_len {x : Lbl} (h : chkL x = 0) : (textL x).length ≤ 5 := by
  obtain ⟨b, hb, _⟩ := ltr_one h
  have hd : ∀ n, (digN n).length ≤ 2 := fun n => by unfold digN; split <;> simp
  have h1 := hd x.grp.toNat
  have h2 := hd x.num.toNat
  unfold textL
  rw [hb]
  simp only [List.length_append, List.length_cons, List.length_nil]
  omega

def lineL (c : Circuit) (i : Nat) : Txt := textL (lblN c i) ++ (32 :: (nameAt c i ++ (32 :: wordN (kindAt c i).toNat)))
def legI (c : Circuit) (m i : Nat) : List Txt := ((List.range i).filter fun i => decide (rankN c i = m)).map (lineL c)
def legT (c : Circuit) (m : Nat) : List Txt := (List.range m).flatMap fun m => legI c m c.parts.length
def legendL (c : Circuit) : List Txt := legT c c.parts.length
theorem legend_is {c : Circuit} : legendL c = (orderL c).map (lineL c) := by
  unfold legendL legT orderL
  rw [List.map_flatMap]
  rfl
theorem wordN_len {k : Nat} (h : k < 14) : (wordN k).length ≤ 10 := (by decide : ∀ k, k < 14 → (wordN k).length ≤ 10) k h

end Go.Am
