/- Lemmas and contracts for the proof of a statement of this seat. -/
import Derived.Test.YtkofnocfackjiaaGreatDoorZCF
import Derived.Test.YtkofnocfackjiaaGreatDoorZA6
import Derived.Test.YtkofnocfackjiaaGreatDoorZF1
import Derived.Test.YtkofnocfackjiaaGreatDoorZCS
set_option linter.unusedVariables false
set_option linter.unusedSimpArgs false
/- Rows that grew in the cells of an array, seen as pure. -/
namespace Go.Am
open Go Go.Proofs Go.Pn

end Go.Am
/- Contracts: designations: check, order; the reference's; chapter 26. -/
namespace Go.Am
open Go Go.Proofs Go.Pn


theorem c_cmp_Compare_string (a b : Txt) : Pure Tryz.prog GL 102 [.p (.str a), .p (.str b)] (.p (.int .i64 (cmpS a b))) := by
  refine Pure.of_walk (N := 20) Tryz.func102 rfl rfl rfl (by simp) (by first | (simp; done) | simp [*]) ?_
  simp
  refine xcall_pure (c_cmp_isNaN_string a) ?_
  simp
  refine xcall_pure (c_cmp_isNaN_string b) ?_
  simp
  cases h1 : Op.bytesLess a b with
  | true => simp [XEndT, cmpS, h1]
  | false =>
    cases h2 : Op.bytesLess b a with
    | true =>
      have hne : ¬ a = b := fun e => by subst e; rw [bl_irrefl] at h2; cases h2
      simp [XEndT, cmpS, h1, h2, hne]
    | false =>
      obtain rfl := bl_total h1 h2
      simp [XEndT, cmpS, bl_irrefl]

def ltrL : List Txt := [[65], [83], [86], [90]]
theorem c_label_check (x : Lbl) (hl : x.ltr.length < 4611686018427387904) : Pure Tryz.prog GL 45 [x.av] (.p (.int .i64 (chkL x))) := by
  refine Pure.of_walk (N := 27) Tryz.func45 rfl rfl rfl (by simp) (by first | (simp; done) | simp [*]) ?_
  by_cases h1 : x.grp < 0
  · have e : chkL x = 2 := if_pos (.inl h1)
    simp [h1]
    simp [XEndT, e]
  by_cases h2 : 64 < x.grp
  · have e : chkL x = 2 := if_pos (.inr h2)
    simp [h1, h2]
    simp [XEndT, e]
  simp [h1, h2]
  refine xcall_lent ?_
  simp
  refine ⟨_, c_Con_Txt ltrL x.ltr (by simp [ltrL]), rfl, ?_⟩
  by_cases h3 : x.ltr ∈ ltrL
  · by_cases h4 : x.num < 1
    · have e : chkL x = 2 := by unfold chkL; rw [if_neg (by omega), if_neg (fun hn => hn h3), if_pos (.inl h4)]
      simp [h3, h4]
      simp [XEndT, e]
    by_cases h5 : 64 < x.num
    · have e : chkL x = 2 := by unfold chkL; rw [if_neg (by omega), if_neg (fun hn => hn h3), if_pos (.inr h5)]
      simp [h3, h4, h5]
      simp [XEndT, e]
    have e : chkL x = 0 := by unfold chkL; rw [if_neg (by omega), if_neg (fun hn => hn h3), if_neg (by omega)]
    simp [h3, h4, h5]
    simp [XEndT, e]
  · have e : chkL x = 1 := by unfold chkL; rw [if_neg (by omega), if_pos (show ¬ x.ltr ∈ [([65] : Txt), [83], [86], [90]] from h3)]
    simp [h3]
    simp [XEndT, e]

theorem c_label_order (a b : Lbl) : Pure Tryz.prog GL 59 [a.av, b.av] (.p (.int .i64 (cmpLbl a b))) := by
  refine Pure.of_walk (N := 22) Tryz.func59 rfl rfl rfl (by simp) (by first | (simp; done) | simp [*]) ?_
  simp
  refine XDraw.intro (by kernel_rfl) ?_
  simp
  refine xcall_pure (c_cmp_Compare_int a.grp b.grp) ?_
  simp
  refine xcall_pure (c_cmp_Compare_string a.ltr b.ltr) ?_
  simp
  refine xcall_pure (c_cmp_Compare_int a.num b.num) ?_
  simp
  refine xcall_lent ?_
  simp
  refine ⟨_, c_cmp_Or_int [cmpI a.grp b.grp, cmpS a.ltr b.ltr, cmpI a.num b.num] (by simp), rfl, ?_⟩
  simp [XEndT, cmpLbl]
  exact .of (by kernel_rfl)

set_option maxRecDepth 20000 in
theorem c_pneumaticref26_Check (x : Lbl) : Pure Tryz.prog GL 27 [x.av] (.p (.int .i64 (chkL x))) := by
  refine Pure.of_walk (N := 37) Tryz.func27 rfl rfl rfl (by simp) (by first | (simp; done) | simp [*]) ?_
  by_cases h1 : x.grp < 0
  · have e : chkL x = 2 := if_pos (.inl h1)
    simp [h1]
    simp [XEndT, e]
  by_cases h2 : 64 < x.grp
  · have e : chkL x = 2 := if_pos (.inr h2)
    simp [h1, h2]
    simp [XEndT, e]
  by_cases h3 : x.ltr ∈ ltrL
  · have h3' := h3
    simp [ltrL] at h3'
    by_cases h4 : x.num < 1
    · have e : chkL x = 2 := by unfold chkL; rw [if_neg (by omega), if_neg (fun hn => hn h3), if_pos (.inl h4)]
      rcases h3' with h3' | h3' | h3' | h3' <;> simp [h1, h2, h3', h4] <;> simp [XEndT, e]
    by_cases h5 : 64 < x.num
    · have e : chkL x = 2 := by unfold chkL; rw [if_neg (by omega), if_neg (fun hn => hn h3), if_pos (.inr h5)]
      rcases h3' with h3' | h3' | h3' | h3' <;> simp [h1, h2, h3', h4, h5] <;> simp [XEndT, e]
    have e : chkL x = 0 := by unfold chkL; rw [if_neg (by omega), if_neg (fun hn => hn h3), if_neg (by omega)]
    rcases h3' with h3' | h3' | h3' | h3' <;> simp [h1, h2, h3', h4, h5] <;> simp [XEndT, e]
  · have e : chkL x = 1 := by unfold chkL; rw [if_neg (by omega), if_pos (show ¬ x.ltr ∈ [([65] : Txt), [83], [86], [90]] from h3)]
    have n1 : ¬ x.ltr = [65] := fun h => h3 (by simp [ltrL, h])
    have n2 : ¬ x.ltr = [83] := fun h => h3 (by simp [ltrL, h])
    have n3 : ¬ x.ltr = [86] := fun h => h3 (by simp [ltrL, h])
    have n4 : ¬ x.ltr = [90] := fun h => h3 (by simp [ltrL, h])
    simp [h1, h2, n1, n2, n3, n4]
    simp [XEndT, e]

end Go.Am
/- Contracts: the reference's numbers and texts of designations; chapter 26. -/
namespace Go.Am
open Go Go.Proofs Go.Pn

theorem head_is {s : Txt} {b : UInt8} : s.head? = some b ↔ s[0]? = some b := by cases s <;> simp
theorem u8_eq {b : UInt8} {n : Nat} (h : n < 256) : ((b.toNat : Int) = (n : Int)) ↔ b = UInt8.ofNat n := by
  rw [← UInt8.toNat_inj]
  simp
  omega

theorem c_pneumaticref12_Number (s : Txt) (hs : s.length ≤ 1000) : Pure Tryz.prog GL 86 [.p (.str s)] (.p (.int .i64 (numErr s))) := by
  refine Pure.of_walk (N := 31) Tryz.func86 rfl rfl rfl (by simp) (by first | (simp; done) | simp [*]) ?_
  by_cases h0 : s = []
  · subst h0
    simp
    simp [XEndT, numErr]
  obtain ⟨b, e⟩ := get_lt (xs := s) (k := 0) (List.length_pos_iff.2 h0)
  have hne : ¬ s.length = 0 := fun h => h0 (List.length_eq_zero_iff.1 h)
  by_cases h1 : (1 : Int) < s.length
  · have h1' : 0 < s.length := by omega
    by_cases h2 : (b.toNat : Int) = 48
    · have hb : b = 48 := (u8_eq (n := 48) (by omega)).1 h2
      have en : numErr s = 3 := by unfold numErr; rw [if_pos (.inr ⟨by omega, head_is.2 (by rw [e, hb])⟩)]
      simp [h0, hne, h1', e, h2, h1, -getElem?_pos, List.getElem?_cons_zero, List.getElem?_cons_succ]
      simp [XEndT, en]
    · have hz : ¬ (s = [] ∨ (1 < s.length ∧ s.head? = some 48)) := by
        rintro (h | ⟨_, h⟩)
        · exact h0 h
        · rw [head_is, e] at h
          cases h
          exact h2 (by decide)
      simp [h0, hne, h1', e, h2, h1, -getElem?_pos, List.getElem?_cons_zero, List.getElem?_cons_succ]
      refine XLoop.go [0] [] 0 [] (fun _ => []) (fun _ (k : Nat) => [(3, .p (.int .i64 k))]) (fun _ _ => []) (fun k => k ≤ s.length ∧ ∀ (j : Nat) x, j < k → s[j]? = some x → isDigit x = true) (fun k => s.length - k) 0 ⟨by omega, fun j x h => by omega⟩ ?_ ?_
      · simp
      rintro k ⟨hk, hp⟩
      simp
      refine xif_split (fun h3 => ?_) (fun h3 => ?_)
      · simp at h3
        obtain ⟨x, ex⟩ := get_lt h3
        simp [h3, ex, -getElem?_pos, List.getElem?_cons_zero, List.getElem?_cons_succ]
        refine xcall_pure (c_pneumaticref12_Digit x) ?_
        cases hx : isDigit x with
        | true =>
          simp
          refine ⟨wrap_i64 (by omega) (by omega), k + 1, ⟨by omega, fun j y hj ey => ?_⟩, by omega, ?_⟩
          · by_cases hjk : j = k
            · subst hjk; rw [ex] at ey; cases ey; exact hx
            · exact hp j y (by omega) ey
          · simp
        | false =>
          have ha : s.all isDigit = false := by
            rw [List.all_eq_false]
            exact ⟨x, List.mem_of_getElem? ex, by simp [hx]⟩
          have en : numErr s = 3 := by unfold numErr; rw [if_neg hz, if_pos ha]
          simp [XEndT, en]
      · simp at h3
        have ha : s.all isDigit = true := List.all_eq_true.2 fun x hx => by
          obtain ⟨j, hj⟩ := List.mem_iff_getElem?.1 hx
          exact hp j x (by have := (List.getElem?_eq_some_iff.1 hj).1; omega) hj
        by_cases h7 : (7 : Int) < s.length
        · have en : numErr s = 17 := by unfold numErr; rw [if_neg hz, if_neg (by rw [ha]; simp), if_pos (by omega)]
          simp [h7]
          simp [XEndT, en]
        · have en : numErr s = 0 := by unfold numErr; rw [if_neg hz, if_neg (by rw [ha]; simp), if_neg (by omega)]
          simp [h7]
          simp [XEndT, en]
  · have hz : ¬ (s = [] ∨ (1 < s.length ∧ s.head? = some 48)) := by
      rintro (h | ⟨h, _⟩)
      · exact h0 h
      · omega
    simp [h0, hne, e, h1, -getElem?_pos, List.getElem?_cons_zero, List.getElem?_cons_succ]
    refine XLoop.go [0] [] 0 [] (fun _ => []) (fun _ (k : Nat) => [(3, .p (.int .i64 k))]) (fun _ _ => []) (fun k => k ≤ s.length ∧ ∀ (j : Nat) x, j < k → s[j]? = some x → isDigit x = true) (fun k => s.length - k) 0 ⟨by omega, fun j x h => by omega⟩ ?_ ?_
    · simp
    rintro k ⟨hk, hp⟩
    simp
    refine xif_split (fun h3 => ?_) (fun h3 => ?_)
    · simp at h3
      obtain ⟨x, ex⟩ := get_lt h3
      simp [h3, ex, -getElem?_pos, List.getElem?_cons_zero, List.getElem?_cons_succ]
      refine xcall_pure (c_pneumaticref12_Digit x) ?_
      cases hx : isDigit x with
      | true =>
        simp
        refine ⟨wrap_i64 (by omega) (by omega), k + 1, ⟨by omega, fun j y hj ey => ?_⟩, by omega, ?_⟩
        · by_cases hjk : j = k
          · subst hjk; rw [ex] at ey; cases ey; exact hx
          · exact hp j y (by omega) ey
        · simp
      | false =>
        have ha : s.all isDigit = false := by
          rw [List.all_eq_false]
          exact ⟨x, List.mem_of_getElem? ex, by simp [hx]⟩
        have en : numErr s = 3 := by unfold numErr; rw [if_neg hz, if_pos ha]
        simp [XEndT, en]
    · simp at h3
      have ha : s.all isDigit = true := List.all_eq_true.2 fun x hx => by
        obtain ⟨j, hj⟩ := List.mem_iff_getElem?.1 hx
        exact hp j x (by have := (List.getElem?_eq_some_iff.1 hj).1; omega) hj
      by_cases h7 : (7 : Int) < s.length
      · have en : numErr s = 17 := by unfold numErr; rw [if_neg hz, if_neg (by rw [ha]; simp), if_pos (by omega)]
        simp [h7]
        simp [XEndT, en]
      · have en : numErr s = 0 := by unfold numErr; rw [if_neg hz, if_neg (by rw [ha]; simp), if_neg (by omega)]
        simp [h7]
        simp [XEndT, en]

theorem worth_lt {s : Txt} (h : ∀ b ∈ s, isDigit b = true) : 0 ≤ worthN s ∧ worthN s < 10 ^ s.length := by
  have key : ∀ (s : Txt) (n : Int), (∀ b ∈ s, isDigit b = true) → 0 ≤ n → 0 ≤ s.foldl (fun n b => 10 * n + ((b.toNat : Int) - 48)) n ∧ s.foldl (fun n b => 10 * n + ((b.toNat : Int) - 48)) n < (n + 1) * 10 ^ s.length := by
    intro s
    induction s with
    | nil => intro n _ h0; simp; omega
    | cons b s ih =>
      intro n hd h0
      have hb := digit_iff.1 (hd b (by simp))
      obtain ⟨h1, h2⟩ := ih (10 * n + ((b.toNat : Int) - 48)) (fun x hx => hd x (by simp [hx])) (by omega)
      rw [List.foldl_cons]
      refine ⟨h1, Int.lt_of_lt_of_le h2 ?_⟩
      rw [List.length_cons, Int.pow_succ]
      have h3 : 0 ≤ (10 : Int) ^ s.length := Int.pow_nonneg (by omega)
      have h4 : (n + 1) * (10 ^ s.length * 10) = (10 * (n + 1)) * 10 ^ s.length := by rw [Int.mul_comm (10 ^ s.length) 10, ← Int.mul_assoc, Int.mul_comm (n + 1) 10]
      rw [h4]
      exact Int.mul_le_mul_of_nonneg_right (by omega) h3
  have := key s 0 h (by omega)
  simpa [worthN] using this
theorem worth_snoc {s : Txt} {k : Nat} {b : UInt8} (e : s[k]? = some b) : worthN (s.take (k + 1)) = 10 * worthN (s.take k) + ((b.toNat : Int) - 48) := by
  rw [take_snoc e]
  unfold worthN
  rw [List.foldl_append]
  rfl
theorem pow_seven {k : Nat} (h : k ≤ 7) : (10 : Int) ^ k ≤ 10000000 := (by decide : ∀ k, k ≤ 7 → (10 : Int) ^ k ≤ 10000000) k h

theorem c_pneumaticref12_Worth (s : Txt) (hs : s.length ≤ 7) (hd : ∀ b ∈ s, isDigit b = true) : Pure Tryz.prog GL 87 [.p (.str s)] (.p (.int .i64 (worthN s))) := by
  refine Pure.of_walk (N := 20) Tryz.func87 rfl rfl rfl (by simp) (by first | (simp; done) | simp [*]) ?_
  simp
  refine XLoop.go [0] [] 0 [] (fun _ => []) (fun _ (k : Nat) => [(3, .p (.int .i64 (worthN (s.take k)))), (4, .p (.int .i64 k))]) (fun _ _ => []) (fun k => k ≤ s.length) (fun k => s.length - k) 0 (by omega) ?_ ?_
  · simp [worthN]
  intro k hk
  have hb := @worth_lt (s.take k) fun b hb => hd b (List.mem_of_mem_take hb)
  have hp := @pow_seven (s.take k).length (by simp; omega)
  have hsn := fun {b} (e : s[k]? = some b) => worth_snoc e
  have hend : k = s.length → worthN (s.take k) = worthN s := fun h => by rw [h, List.take_length]
  generalize worthN (s.take k) = n at hb hsn hend
  simp
  refine xif_split (fun h3 => ?_) (fun h3 => ?_)
  · simp at h3
    obtain ⟨b, e⟩ := get_lt h3
    have hbd := digit_iff.1 (hd b (List.mem_of_getElem? e))
    have hs2 := hsn e
    simp [h3, e, -getElem?_pos, List.getElem?_cons_zero, List.getElem?_cons_succ]
    refine ⟨wrap_i64 (by omega) (by omega), by simp [IntKind.wrap, IntKind.bits, IntKind.signed]; omega, wrap_i64 (by omega) (by omega), wrap_i64 (by omega) (by omega), wrap_i64 (by omega) (by omega), k + 1, by omega, by omega, ?_⟩
    simp [hs2]
  · simp at h3
    have hk2 : k = s.length := by omega
    simp [XEndT, hend hk2]

theorem c_pneumaticref12_Value (s : Txt) (hs : s.length ≤ 1000) : Pure Tryz.prog GL 48 [.p (.str s)] (.tup [.p (.int .i64 (valOf s)), .p (.int .i64 (valErr s))]) := by
  refine Pure.of_walk (N := 31) Tryz.func48 rfl rfl rfl (by simp) (by first | (simp; done) | simp [*]) ?_
  have hdig : ∀ {t : Txt}, numErr t = 0 → t.length ≤ 7 ∧ ∀ b ∈ t, isDigit b = true := fun {t} h => by
    unfold numErr at h
    by_cases h1 : t = [] ∨ (1 < t.length ∧ t.head? = some 48)
    · rw [if_pos h1] at h; cases h
    · rw [if_neg h1] at h
      by_cases h2 : t.all isDigit = false
      · rw [if_pos h2] at h; cases h
      · rw [if_neg h2] at h
        by_cases h3 : 7 < t.length
        · rw [if_pos h3] at h; cases h
        · exact ⟨by omega, fun b hb => List.all_eq_true.1 (by simpa using h2) b hb⟩
  cases s with
  | nil =>
    have hN := c_pneumaticref12_Number [] (by simp)
    have e1 : numErr [] = 3 := by decide
    have e2 : valErr [] = 3 ∧ valOf [] = 0 := by decide
    rw [e1] at hN
    simp
    refine xcall_pure hN ?_
    simp [XEndT, e2]
  | cons b r =>
    simp only [List.length_cons] at hs
    by_cases h1 : (b.toNat : Int) = 45
    · have hb : b = 45 := (u8_eq (n := 45) (by omega)).1 h1
      subst hb
      have hsg : signed (45 :: r) = true := by simp [signed]
      by_cases h2 : r = [48]
      · have e2 : valErr (45 :: r) = 3 := by unfold valErr; rw [if_pos ⟨hsg, h2⟩]
        have e3 : valOf (45 :: r) = 0 := by unfold valOf; rw [if_pos (by rw [e2]; decide)]
        rw [e2, e3]
        subst h2
        simp
        simp [XEndT]
      · have e2 : valErr (45 :: r) = numErr r := by unfold valErr; rw [if_neg (fun h => h2 h.2), hsg]; rfl
        have hN := c_pneumaticref12_Number r (by omega)
        have hsub : ((45 :: r : Txt).drop 1).take ((45 :: r : Txt).length - 1) = r := by simp
        simp [h2]
        rw [if_pos (by omega)]
        simp [h2]
        refine xcall_pure hN ?_
        by_cases h3 : numErr r = 0
        · obtain ⟨d1, d2⟩ := hdig h3
          have hW := c_pneumaticref12_Worth r d1 d2
          have hb := worth_lt d2
          have hp := @pow_seven r.length d1
          have e3 : valOf (45 :: r) = -worthN r := by unfold valOf; rw [if_neg (by rw [e2, h3]; simp), hsg]; rfl
          rw [e2, e3, h3]
          simp [h3]
          refine xcall_pure hW ?_
          simp
          refine ⟨wrap_i64 (by omega) (by omega), ?_⟩
          simp [XEndT]
        · have e3 : valOf (45 :: r) = 0 := by unfold valOf; rw [if_pos (by rw [e2]; exact h3)]
          rw [e2, e3]
          simp [h3]
          simp [XEndT]
    · have hne : ¬ b = 45 := fun h => h1 (by rw [h]; rfl)
      have hsg : signed (b :: r) = false := by simp [signed, hne]
      have e2 : valErr (b :: r) = numErr (b :: r) := by unfold valErr; rw [hsg]; simp
      have hN := c_pneumaticref12_Number (b :: r) (by simp; omega)
      simp [h1]
      refine xcall_pure hN ?_
      by_cases h3 : numErr (b :: r) = 0
      · obtain ⟨d1, d2⟩ := hdig h3
        have hW := c_pneumaticref12_Worth (b :: r) d1 d2
        have hb := worth_lt d2
        have hp := @pow_seven (b :: r).length d1
        have e3 : valOf (b :: r) = worthN (b :: r) := by unfold valOf; rw [if_neg (by rw [e2, h3]; simp), hsg]; rfl
        rw [e2, e3, h3]
        simp [h3]
        refine xcall_pure hW ?_
        simp
        refine ⟨wrap_i64 (by omega) (by omega), ?_⟩
        simp [XEndT]
      · have e3 : valOf (b :: r) = 0 := by unfold valOf; rw [if_pos (by rw [e2]; exact h3)]
        rw [e2, e3]
        simp [h3]
        simp [XEndT]

theorem c_pneumaticref26_Parse (s : Txt) (hs : s.length ≤ 1000) : Pure Tryz.prog GL 13 [.p (.str s)] (.tup [(parL s).av, .p (.int .i64 (parE s))]) := by
  refine Pure.of_walk (N := 63) Tryz.func13 rfl rfl rfl (by simp) (by first | (simp; done) | simp [*]) ?_
  simp
  refine XLoop.go [0, 2] [0] 0 [] (fun _ => []) (fun _ (k : Nat) => [(4, .p (.int .i64 k))]) (fun _ _ => []) (fun k => k ≤ s.length ∧ ∀ (j : Nat) x, j < k → s[j]? = some x → isDigit x = true) (fun k => s.length - k) 0 ⟨by omega, fun j x h => by omega⟩ ?_ ?_
  · simp
    try decide
  rintro k ⟨hk, hp⟩
  have hgo : ∀ x, s[k]? = some x → isDigit x = true → ∀ (j : Nat) y, j < k + 1 → s[j]? = some y → isDigit y = true := fun x e hx => below_next hp e hx
  have hat : (k = s.length ∨ ∃ x, s[k]? = some x ∧ isDigit x = false) → dpl s = k := fun h => by
    have hd : ∀ x ∈ s.take k, isDigit x = true := fun x hx => by
      obtain ⟨j, hj⟩ := List.mem_iff_getElem?.1 hx
      have hjl := (List.getElem?_eq_some_iff.1 hj).1
      rw [List.length_take] at hjl
      rw [List.getElem?_take_of_lt (by omega)] at hj
      exact hp j x (by omega) hj
    have hlen : (s.take k).length = k := by simp; omega
    unfold dpl
    rcases h with h | ⟨x, ex, hx⟩
    · have : s.take k = s := by rw [h, List.take_length]
      rw [this] at hd
      have hall : ∀ (t : Txt), (∀ x ∈ t, isDigit x = true) → t.takeWhile isDigit = t := fun t => by
        induction t with
        | nil => intro _; rfl
        | cons a t ih => intro ht; rw [List.takeWhile_cons, if_pos (ht a (by simp)), ih fun x hx => ht x (by simp [hx])]
      rw [hall s hd, h]
    · have e : s = s.take k ++ x :: s.drop (k + 1) := by
        have hkl := (List.getElem?_eq_some_iff.1 ex).1
        have : s.drop k = x :: s.drop (k + 1) := by rw [List.drop_eq_getElem_cons hkl]; rw [List.getElem?_eq_getElem hkl] at ex; cases ex; rfl
        rw [← this, List.take_append_drop]
      rw [e, takeW_digits hd hx, hlen]
  by_cases h3 : (k : Int) < s.length
  · obtain ⟨x, ex⟩ := get_lt (show k < s.length by omega)
    have h3' : k < s.length := by omega
    have hD := c_pneumaticref12_Digit x
    cases hx : isDigit x with
    | true =>
      rw [hx] at hD
      simp [h3, h3', ex, -getElem?_pos, List.getElem?_cons_zero, List.getElem?_cons_succ]
      refine xcall_pure hD ?_
      simp
      refine ⟨wrap_i64 (by omega) (by omega), k + 1, ⟨by omega, hgo x ex hx⟩, by omega, ?_⟩
      simp
      try decide
    | false =>
      rw [hx] at hD
      have hdp := hat (.inr ⟨x, ex, hx⟩)
      simp [h3, h3', ex, -getElem?_pos, List.getElem?_cons_zero, List.getElem?_cons_succ]
      refine xcall_pure hD ?_
      have hV1 := c_pneumaticref12_Value (s.take k) (by simp; omega)
      have hV2 := c_pneumaticref12_Value (s.drop (k + 1)) (by simp; omega)
      have hxx : parX s = ⟨valOf (s.take k), [x], valOf (s.drop (k + 1))⟩ := by
        unfold parX
        rw [hdp]
        rw [List.drop_eq_getElem_cons h3']
        rw [List.getElem?_eq_getElem h3'] at ex
        cases ex
        rfl
      have hdt : (s.drop k).take 1 = [x] := by
        rw [List.drop_eq_getElem_cons h3']
        rw [List.getElem?_eq_getElem h3'] at ex
        cases ex
        rfl
      have hC := c_pneumaticref26_Check ⟨valOf (s.take k), [x], valOf (s.drop (k + 1))⟩
      have hPB : parB s = true ↔ (valErr (s.take k) = 0 ∧ valErr (s.drop (k + 1)) = 0 ∧ chkL ⟨valOf (s.take k), [x], valOf (s.drop (k + 1))⟩ = 0) := by
        unfold parB
        rw [hxx, hdp]
        simp only [Bool.and_eq_true, Bool.not_eq_true', decide_eq_true_eq, decide_eq_false_iff_not]
        constructor
        · rintro ⟨_, h⟩; exact h
        · intro h; exact ⟨by omega, h⟩
      have hno : ¬ ((k : Int) = (s.length : Int)) := by omega
      have hle1 : (0 : Int) ≤ (k : Int) ∧ (k : Int) ≤ (s.length : Int) := by omega
      have hle2 : (0 : Int) ≤ (k : Int) + 1 ∧ (k : Int) + 1 ≤ (s.length : Int) := by omega
      have hle3 : (0 : Int) ≤ (k : Int) ∧ (k : Int) ≤ (k : Int) + 1 := by omega
      simp [hno]
      rw [if_pos hk]
      simp
      refine xcall_pure hV1 ?_
      simp
      refine ⟨wrap_i64 (by omega) (by omega), ?_⟩
      rw [if_pos (by omega)]
      simp
      rw [show List.take (s.length - (k + 1)) (s.drop (k + 1)) = s.drop (k + 1) from List.take_of_length_le (by simp)]
      refine xcall_pure hV2 ?_
      simp
      refine ⟨wrap_i64 (by omega) (by omega), ?_⟩
      rw [if_pos (by omega)]
      simp
      rw [if_pos (by omega)]
      simp [hdt]
      by_cases a1 : valErr (s.take k) = 0
      · by_cases a2 : valErr (s.drop (k + 1)) = 0
        · by_cases a3 : chkL ⟨valOf (s.take k), [x], valOf (s.drop (k + 1))⟩ = 0
          · have hB : parB s = true := hPB.2 ⟨a1, a2, a3⟩
            have e1 : parL s = ⟨valOf (s.take k), [x], valOf (s.drop (k + 1))⟩ := by rw [← hxx]; exact if_pos hB
            have e2 : parE s = 0 := if_pos hB
            rw [e1, e2]
            simp [a1, a2]
            refine xcall_pure hC ?_
            simp [a3]
            simp [XEndT]
          · have hB : ¬ parB s = true := fun h => a3 (hPB.1 h).2.2
            have e1 : parL s = noL := if_neg hB
            have e2 : parE s = 4 := if_neg hB
            rw [e1, e2]
            simp [a1, a2]
            refine xcall_pure hC ?_
            simp [a3]
            simp [XEndT, noL]
        · have hB : ¬ parB s = true := fun h => a2 (hPB.1 h).2.1
          have e1 : parL s = noL := if_neg hB
          have e2 : parE s = 4 := if_neg hB
          rw [e1, e2]
          simp [a1, a2]
          simp [XEndT, noL]
      · have hB : ¬ parB s = true := fun h => a1 (hPB.1 h).1
        have e1 : parL s = noL := if_neg hB
        have e2 : parE s = 4 := if_neg hB
        rw [e1, e2]
        simp [a1]
        simp [XEndT, noL]
  · have hkl : k = s.length := by omega
    have hdp := hat (.inl hkl)
    have hB : ¬ parB s = true := by
      unfold parB
      rw [hdp, hkl]
      simp
    have e1 : parL s = noL := if_neg hB
    have e2 : parE s = 4 := if_neg hB
    rw [e1, e2]
    simp [h3]
    subst hkl
    simp [XEndT, noL]
end Go.Am
/- Contracts: the reference: acting directly; chapter 26. -/
namespace Go.Am
open Go Go.Proofs Go.Pn

end Go.Am
/- Contracts: the reference: the groups; chapter 26. -/
namespace Go.Am
open Go Go.Proofs Go.Pn

def g1 (c : Circuit) (k i : Nat) : Int := if i < k then (match c.parts[i]? with
  | some p => if p.kind = 1 then cylN c (i + 1) else if p.kind = 0 then 0 else -1
  | none => -1) else 0
def g2 (c : Circuit) (k i : Nat) : Int := if i < k then grpK c c.parts.length i else g1 c c.parts.length i
theorem set_rowG {l : List Int} {i : Nat} {x : Int} : (l.map Int.row).set i [.p (.int .i64 x)] = (l.set i x).map Int.row := by rw [List.map_set]

end Go.Am
