/- TopFormsSplit: the program's function returns true. -/
import Derived.Test.YthkjeoagelhocaaZX5
set_option linter.unusedVariables false
set_option linter.unusedSimpArgs false
namespace Go.Am
open Go Go.Proofs Go.Pn

theorem c_pneumatictop_tryForm (n b : Nat) (hn : n ≤ 4) (hb : b < p2 (p2 n)) : Pure Go.Proofs.Try.prog GL 8 [.agg [.p (.int .i64 n), .p (.int .u64 b)]] (.tup [.p (.lst 2 ((formN ⟨n, b, 0⟩).map Cube.enc)), .p (.int .i64 0)]) := by
  refine Pure.of_walk (N := 12) Go.Proofs.Try.func8 rfl rfl rfl (by simp) (by first | (simp; done) | simp [*]) ?_
  have hA := c_minimal_Form ⟨n, b, 0⟩ ⟨hn, hb, p2_pos, Nat.and_zero b⟩
  simp
  refine xcall_pure hA ?_
  simp [XEndT]
theorem two_primes : primesL ⟨3, 232, 0⟩ = [⟨3, 3⟩, ⟨5, 5⟩, ⟨6, 6⟩] := by decide +kernel
theorem three_in : ∀ l : List Nat, l.countP (fun i => decide (i = 0)) + l.countP (fun i => decide (i = 1)) + l.countP (fun i => decide (i = 2)) ≤ l.length
  | [] => Nat.le_refl _
  | i :: l => by
    have ih := three_in l
    simp only [List.countP_cons, List.length_cons, decide_eq_true_eq]
    split <;> split <;> split <;> omega
theorem two_form : (formN ⟨3, 232, 0⟩).length = 3 := by
  rw [formN_eq, List.length_map]
  obtain ⟨h1, h2, h3⟩ := least_facts (x := ⟨3, 232, 0⟩) (by decide)
  have h0 : (primesL ⟨3, 232, 0⟩).length = 3 := by rw [two_primes]; rfl
  have key : ∀ (k j : Nat), k < 2 ^ 3 → (232 : Nat).testBit k = true → (∀ i, i < 3 → (atC (primesL ⟨3, 232, 0⟩) i).has k = true → i = j) → 0 < (leastN ⟨3, 232, 0⟩).countP fun i => decide (i = j) := fun k j hk ho hu => by
    obtain ⟨i, hi, hh⟩ := h3 k hk ho
    have := h2 i hi
    rw [h0] at this
    exact List.countP_pos_iff.2 ⟨i, hi, decide_eq_true (hu i this hh)⟩
  have a := key 3 0 (by decide) (by decide) (by rw [two_primes]; decide)
  have b := key 5 1 (by decide) (by decide) (by rw [two_primes]; decide)
  have c := key 6 2 (by decide) (by decide) (by rw [two_primes]; decide)
  have := three_in (leastN ⟨3, 232, 0⟩)
  omega
theorem c_pneumatictop_tryTwo  : Pure Go.Proofs.Try.prog GL 6 [] (.p (.bool true)) := by
  refine Pure.of_walk (N := 15) Go.Proofs.Try.func6 rfl rfl rfl (by simp) (by first | (simp; done) | simp [*]) ?_
  have hA := c_pneumatictop_tryForm 3 232 (by decide) (by decide)
  have h3 := two_form
  simp
  refine xcall_pure hA ?_
  simp [h3, XEndT]
theorem cofB_lt {n b i : Nat} {v : Bool} : cofB n b i v < p2 (p2 n) := lt_bits fun j hj => by
  rw [cofB_bit, Bool.and_eq_true, decide_eq_true_eq] at hj
  exact hj.1
theorem form_short {x : Tsk} (hn : x.n ≤ 4) : (formN x).length ≤ 256 := by
  rw [formN_eq, List.length_map]
  have := (least_facts hn).1
  have := primesL_len hn
  omega
theorem c_pneumatictop_TopFormsSplit (n : Int) (b k : Nat) (hb : b < 2 ^ 64) (hk : k < 256) : Pure Go.Proofs.Try.prog GL 3 [.agg [.p (.int .i64 n), .p (.int .u64 b)], .p (.int .u8 k)] (.p (.bool true)) := by
  refine Pure.of_walk (N := 105) Go.Proofs.Try.func3 rfl rfl rfl (by simp) (by first | (simp; done) | simp [*]) ?_
  have hC := c_pneumaticref04_Check n b hb
  have hT := c_pneumatictop_tryTwo
  by_cases h0 : tabE n b = 0
  · obtain ⟨m, rfl, hm6, hbm⟩ := tabE_zero h0
    rw [h0] at hC
    simp
    refine xcall_pure hC ?_
    by_cases h1 : (m : Int) < 1
    · simp [h1]
      refine xcall_pure hT ?_
      simp [XEndT]
    by_cases h4 : (4 : Int) < m
    · simp [h1, h4]
      refine xcall_pure hT ?_
      simp [XEndT]
    have hm : m ≤ 4 := by omega
    have hP := c_pneumaticref08_Primes m b hm hb
    simp [h1, h4]
    refine xcall_pure hP ?_
    simp
    refine xif_split (fun h5 => ?_) (fun h5 => ?_)
    · simp
      refine xcall_pure hT ?_
      simp [XEndT]
    clear h5 hP hC
    have hi : k % m < m := Nat.mod_lt _ (by omega)
    have hlo := c_truth_Cofactor m b (k % m) false hm hbm hi
    have hhi := c_truth_Cofactor m b (k % m) true hm hbm hi
    have hf := c_pneumatictop_tryForm m b hm hbm
    have hfl := c_pneumatictop_tryForm m (cofB m b (k % m) false) hm cofB_lt
    have hfh := c_pneumatictop_tryForm m (cofB m b (k % m) true) hm cofB_lt
    obtain ⟨s1, s2⟩ := split_law (srt := fun l => srtN l) (b := b) hm hi betO (fun _ _ => betO_none) (fun _ => srtN_perm)
    have s3 := s2 false
    have s4 := s2 true
    have l0 := form_short (x := ⟨m, b, 0⟩) hm
    have l1 := form_short (x := ⟨m, cofB m b (k % m) false, 0⟩) hm
    have l2 := form_short (x := ⟨m, cofB m b (k % m) true, 0⟩) hm
    change (formN _).length ≤ (formN _).length + (formN _).length at s1
    change (formN _).length ≤ (formN _).length at s3 s4
    generalize formN ⟨m, b, 0⟩ = A at *
    generalize formN ⟨m, cofB m b (k % m) false, 0⟩ = B at *
    generalize formN ⟨m, cofB m b (k % m) true, 0⟩ = C at *
    have hm0 : (k : Int).tmod m = ((k % m : Nat) : Int) := by rw [Int.tmod_eq_emod_of_nonneg (by omega)]; rfl
    simp
    generalize k % m = i at *
    rw [hm0]
    refine ⟨wrap_n (by omega), by omega, ?_⟩
    refine xcall_pure hlo ?_
    simp
    refine xcall_pure hhi ?_
    simp
    refine xcall_pure hf ?_
    simp
    refine xcall_pure hfl ?_
    simp
    refine xcall_pure hfh ?_
    simp
    have s1' : (A.length : Int) ≤ (B.length : Int) + C.length := by omega
    simp [s3, s4, s1']
    refine ⟨wrap_i64 (by omega) (by omega), xcall_pure hT ?_⟩
    simp [XEndT]
  · simp [h0]
    refine xcall_pure hC ?_
    simp [h0]
    refine xcall_pure hT ?_
    simp [XEndT]
end Go.Am
