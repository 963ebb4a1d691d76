/- TopFormsSplit: the program's function returns true. -/
import Derived.Test.YthkjeoagelhocaaGreatZX5
set_option linter.unusedVariables false
set_option linter.unusedSimpArgs false
namespace Go.Am
open Go Go.Proofs Go.Pn

theorem c_pneumatictop_tryForm (n b : Nat) (hn : n ≤ 4) (hb : b < p2 (p2 n)) : Pure Tryz.prog GL 7 [.agg [.p (.int .i64 n), .p (.int .u64 b)]] (.tup [.p (.lst 2 ((formN ⟨n, b, 0⟩).map Cube.enc)), .p (.int .i64 0)]) := by
  refine Pure.of_walk (N := 12) Tryz.func7 rfl rfl rfl (by simp) (by first | (simp; done) | simp [*]) ?_
  have hA := c_minimal_Form ⟨n, b, 0⟩ ⟨hn, hb, p2_pos, Nat.and_zero b⟩
  simp
  refine xcall_pure hA ?_
  simp [XEndT]
theorem two_primes : primesL ⟨3, 232, 0⟩ = [⟨3, 3⟩, ⟨5, 5⟩, ⟨6, 6⟩] := by decide +kernel
theorem three_in : ∀ l : List Nat, l.countP (fun i => decide (i = 0)) + l.countP (fun i => decide (i = 1)) + l.countP (fun i => decide (i = 2)) ≤ l.length
  | [] => Nat.le_refl _
  | i :: l => by
    have ih := three_in l
    simp only [List.countP_cons, List.length_cons, decide_eq_true_eq]
    split <;> split <;> split <;> omega
theorem two_form : (formN ⟨3, 232, 0⟩).length = 3 := by
  rw [formN_eq, List.length_map]
  obtain ⟨h1, h2, h3⟩ := least_facts (x := ⟨3, 232, 0⟩) (by decide)
  have h0 : (primesL ⟨3, 232, 0⟩).length = 3 := by rw [two_primes]; rfl
  have key : ∀ (k j : Nat), k < 2 ^ 3 → (232 : Nat).testBit k = true → (∀ i, i < 3 → (atC (primesL ⟨3, 232, 0⟩) i).has k = true → i = j) → 0 < (leastN ⟨3, 232, 0⟩).countP fun i => decide (i = j) := fun k j hk ho hu => by
    obtain ⟨i, hi, hh⟩ := h3 k hk ho
    have := h2 i hi
    rw [h0] at this
    exact List.countP_pos_iff.2 ⟨i, hi, decide_eq_true (hu i this hh)⟩
  have a := key 3 0 (by decide) (by decide) (by rw [two_primes]; decide)
  have b := key 5 1 (by decide) (by decide) (by rw [two_primes]; decide)
  have c := key 6 2 (by decide) (by decide) (by rw [two_primes]; decide)
  have := three_in (leastN ⟨3, 232, 0⟩)
  omega
theorem c_pneumatictop_tryTwo  : Pure Tryz.prog GL 6 [] (.p (.bool true)) := by
  refine Pure.of_walk (N := 15) Tryz.func6 rfl rfl rfl (by simp) (by first | (simp; done) | simp [*]) ?_
  have hA := c_pneumatictop_tryForm 3 232 (by decide) (by decide)
  have h3 := two_form
  simp
  refine xcall_pure hA ?_
  simp [h3, XEndT]
theorem form_short {x : Tsk} (hn : x.n ≤ 4) : (formN x).length ≤ 256 := by
  rw [formN_eq, List.length_map]
  have := (least_facts hn).1
  have := primesL_len hn
  omega
end Go.Am
