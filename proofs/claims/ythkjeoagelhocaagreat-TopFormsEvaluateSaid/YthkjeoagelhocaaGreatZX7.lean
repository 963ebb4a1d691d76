/- Lemmas and contracts for the proof of a statement of this seat. -/
import Derived.Test.YthkjeoagelhocaaGreatZX1
import Derived.Test.YthkjeoagelhocaaGreatZX4
import Derived.Test.YthkjeoagelhocaaGreatZX5
import Derived.Test.YthkjeoagelhocaaGreatZC1
set_option linter.unusedVariables false
set_option linter.unusedSimpArgs false
/- The plain law of forms without hazards; chapter 8. -/
namespace Go.Am
open Go

def tabF (n : Nat) (L : List Cube) : Nat := (List.range (2 ^ n)).foldl (fun o k => if L.any (fun c => c.has k) then o ||| 2 ^ k else o) 0
theorem tabF_bit {n : Nat} {L : List Cube} {k : Nat} : (tabF n L).testBit k = (decide (k < 2 ^ n) && L.any (fun c => c.has k)) := by
  unfold tabF
  rw [fold_bits (p := fun k => L.any (fun c => c.has k)), Nat.zero_testBit, Bool.false_or, Bool.eq_iff_iff]
  simp only [List.any_eq_true, List.mem_range, Bool.and_eq_true, decide_eq_true_eq]
  constructor
  · rintro ⟨j, h1, rfl, h2⟩; exact ⟨h1, h2⟩
  · rintro ⟨h1, h2⟩; exact ⟨k, h1, rfl, h2⟩
theorem tabF_eq {n b : Nat} {L : List Cube} (hb : b < 2 ^ (2 ^ n)) (hI : ∀ c ∈ L, Imp ⟨n, b, 0⟩ c) (hc : CoversC ⟨n, b, 0⟩ L) : tabF n L = b := Nat.eq_of_testBit_eq fun k => by
  rw [tabF_bit]
  cases h : b.testBit k with
  | true =>
    have hk : k < 2 ^ n := bit_lt hb h
    obtain ⟨c, h1, h2⟩ := hc k hk h
    rw [decide_eq_true hk, Bool.true_and]
    exact List.any_eq_true.2 ⟨c, h1, h2⟩
  | false =>
    rw [← Bool.not_eq_true]
    intro hk
    rw [Bool.and_eq_true, decide_eq_true_eq] at hk
    obtain ⟨c, h1, h2⟩ := List.any_eq_true.1 hk.2
    rcases hI c h1 k hk.1 h2 with h3 | h3
    · rw [h] at h3; cases h3
    · simp at h3
structure HSt where
  best : Nat
  least : Nat
deriving DecidableEq
section
variable (n b : Nat) (P : List Cube) (lit : List Cube → Nat) (take : HSt → Nat → Bool)
end
section
variable {n b : Nat} {P : List Cube} {lit : List Cube → Nat} {take : HSt → Nat → Bool}
end
end Go.Am
/- Contracts: math/bits: Reverse, Len, OnesCount; chapter 8. -/
namespace Go.Am
open Go Go.Proofs Go.Pn

theorem and_lt {a m : Nat} (h : m < 2 ^ 64) : a &&& m < 2 ^ 64 := Nat.lt_of_le_of_lt Nat.and_le_right h
end Go.Am
/- Contracts: package hazard: checks, tables, pairs of points; chapter 8. -/
namespace Go.Am
open Go Go.Proofs Go.Pn

theorem all_care {n : Nat} {c : Cube} (h : c.Ok n) : andN c.care (p2 n - 1) = 0 := andN_zero.2 fun i hi => by
  have : i < n := bit_lt h.care hi
  unfold p2
  rw [Nat.testBit_two_pow_sub_one]
  exact decide_eq_true this
theorem all_value {n : Nat} {c : Cube} (h : c.Ok n) : andN c.value c.care = 0 := andN_zero.2 fun i hi => h.value i hi
theorem c_implicant_Check (n : Nat) (c : Cube) (hn : n ≤ 4) (hc : c.Ok n) : Pure Tryz.prog GL 85 [.p (.int .i64 n), c.av] (.p (.int .i64 0)) := by
  refine Pure.of_walk (N := 27) Tryz.func85 rfl rfl rfl (by simp) (by first | (simp; done) | simp [*]) ?_
  have hA := c_implicant_all n hn
  have hp := @p2_pos n
  have h16 := p2_16 hn
  rw [show ((p2 n : Nat) : Int) - 1 = ((p2 n - 1 : Nat) : Int) by omega] at hA
  obtain ⟨hc1, hc2⟩ := cube_small hc hn
  have h1 : ¬ (n : Int) < 0 := by omega
  have h2 : ¬ (6 : Int) < n := by omega
  have e1 := all_care hc
  have e2 := all_value hc
  simp [h1, h2]
  refine XDraw.intro (by kernel_rfl) ?_
  simp
  refine xcall_pure hA ?_
  simp [e1, e2]
  refine ⟨bit_u64 (by omega) (by omega), bit_u64 (by omega) (by omega), .of (by kernel_rfl), ?_⟩
  simp [XEndT]
theorem c_hazard_Check (n : Nat) (L : List Cube) (hn : n ≤ 4) (hL : L.length ≤ 256) (hok : ∀ c ∈ L, c.Ok n) : Pure Tryz.prog GL 43 [.p (.int .i64 n), .p (.lst 2 (L.map Cube.enc))] (.p (.int .i64 0)) := by
  refine Pure.of_walk (N := 32) Tryz.func43 rfl rfl rfl (by simp) (by first | (simp; done) | simp [*]) ?_
  have h1 : ¬ (n : Int) < 0 := by omega
  have h2 : ¬ (6 : Int) < n := by omega
  have h3 : ¬ (256 : Int) < L.length := by omega
  simp [h1, h2, h3]
  refine XLoop.go [0, 19, 20] [] 0 [] (fun _ => []) (fun _ (k : Nat) => [(21, .p (.int .i64 k))]) (fun _ _ => []) (fun k => k ≤ L.length) (fun k => L.length - k) 0 (by omega) ?_ ?_
  · simp
    try decide
  intro k hk
  simp
  refine xif_split (fun h => ?_) (fun h => ?_)
  · simp at h
    obtain ⟨c, e⟩ := get_lt h
    have hC := c_implicant_Check n c hn (hok c (List.mem_of_getElem? e))
    simp [h, e, -getElem?_pos, List.getElem?_cons_zero, List.getElem?_cons_succ]
    refine xcall_pure hC ?_
    simp
    exact ⟨wrap_i64 (by omega) (by omega), k + 1, by omega, by omega, by omega⟩
  · simp [XEndT]
end Go.Am
