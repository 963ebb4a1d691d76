/- Lemmas and contracts for the proof of a statement of this seat. -/
import Derived.Test.YthkjeoagelhocaaGreatZC1
import Derived.Test.YthkjeoagelhocaaGreatZX1
import Derived.Test.YthkjeoagelhocaaGreatZA7
set_option linter.unusedVariables false
set_option linter.unusedSimpArgs false
/- Contracts: bits, cubes and tables of the reference; chapters 4 and 6. -/
namespace Go.Am
open Go Go.Proofs Go.Pn

@[simp] def Cube.enc (c : Cube) : List PV := [.int .u64 c.care, .int .u64 c.value]
@[simp] def Cube.row (c : Cube) : List AV := [.p (.int .u64 c.care), .p (.int .u64 c.value)]
@[simp] def Cube.av (c : Cube) : AV := .agg [.p (.int .u64 c.care), .p (.int .u64 c.value)]
@[simp] def Tsk.av (x : Tsk) : AV := .agg [.p (.int .i64 x.n), .p (.int .u64 x.on), .p (.int .i64 x.n), .p (.int .u64 x.free)]
structure Tsk.Ok (x : Tsk) : Prop where
  n : x.n ≤ 4
  on : x.on < 2 ^ 64
  free : x.free < 2 ^ 64

theorem bit_u64 {a b : Nat} (ha : a < 2 ^ 64) (hb : b < 2 ^ 64) : bitR .u64 (a : Int) (b : Int) :=
  ⟨by omega, by omega, by have := @wrap_u64 (a : Int) (by omega) (by omega); exact of_eq_true this, by have := @wrap_u64 (b : Int) (by omega) (by omega); exact of_eq_true this⟩
theorem bit_i64 {a b : Nat} (ha : a < 2 ^ 62) (hb : b < 2 ^ 62) : bitR .i64 (a : Int) (b : Int) :=
  ⟨by omega, by omega, wrap_i64 (by omega) (by omega), wrap_i64 (by omega) (by omega)⟩
def shrN (a k : Nat) : Nat := a / 2 ^ k
def p2 (n : Nat) : Nat := 2 ^ n
theorem p2_le {n m : Nat} (h : n ≤ m) : p2 n ≤ p2 m := Nat.pow_le_pow_right (by decide) h
theorem p2_pos {n : Nat} : 0 < p2 n := Nat.two_pow_pos n
theorem p2_16 {n : Nat} (h : n ≤ 4) : p2 n ≤ 16 := p2_le h
theorem p2_64 {n : Nat} (h : n ≤ 6) : p2 n ≤ 64 := p2_le h
@[simp] theorem shlN_one {n : Nat} : shlN 1 n = p2 n := by unfold shlN p2; simp
@[simp] theorem fdiv_nat {a k : Nat} : ((a : Nat) : Int).fdiv (2 ^ k) = ((shrN a k : Nat) : Int) := by
  have h : (2 : Int) ^ k = ((2 ^ k : Nat) : Int) := by simp
  rw [h, Int.fdiv_eq_ediv_of_nonneg _ (Int.natCast_nonneg _)]; rfl
@[simp] theorem and_one {a k : Nat} : decide (((shrN a k : Nat) : Int) % 2 = 1) = a.testBit k := by
  unfold shrN
  rw [Nat.testBit_eq_decide_div_mod_eq]
  exact decide_eq_decide.2 (by omega)
theorem shr_lt {b k : Nat} (hb : b < 2 ^ 64) : shrN b k < 2 ^ 64 := Nat.lt_of_le_of_lt (Nat.div_le_self ..) hb
@[simp] theorem bits_i64 : IntKind.i64.bits = 64 := rfl
@[simp] theorem bits_u64 : IntKind.u64.bits = 64 := rfl
theorem bit_one {a : Nat} (ha : a < 2 ^ 64) : bitR .u64 (a : Int) 1 := bit_u64 (b := 1) ha (by decide)
theorem wrap_n {n : Nat} (h : n < 2 ^ 62) : IntKind.i64.wrap (n : Int) = n := wrap_i64 (by omega) (by omega)
theorem wrapu_n {n : Nat} (h : n < 2 ^ 64) : IntKind.u64.wrap (n : Int) = n := of_eq_true (wrap_u64 (by omega) (by omega))

theorem c_pneumaticref04_Size (n : Nat) (hn : n ≤ 6) : Pure Tryz.prog GL 9 [.p (.int .i64 n)] (.p (.int .i64 (p2 n : Nat))) := by
  refine Pure.of_walk (N := 5) Tryz.func9 rfl rfl rfl (by simp) (by first | (simp; done) | simp [*]) ?_
  have h := p2_64 hn
  simp
  exact ⟨⟨by omega, wrap_n (by omega)⟩, by simp [XEndT]⟩
def tabE (n : Int) (b : Nat) : Int := if n < 0 ∨ 6 < n then 2 else if p2 (p2 n.toNat) ≤ b then 3 else 0
theorem tabE_zero {n : Int} {b : Nat} (h : tabE n b = 0) : ∃ m : Nat, n = m ∧ m ≤ 6 ∧ b < p2 (p2 m) := by
  unfold tabE at h
  split at h
  · cases h
  · split at h
    · cases h
    · exact ⟨n.toNat, by omega, by omega, by omega⟩
theorem c_pneumaticref04_Check (n : Int) (b : Nat) (hb : b < 2 ^ 64) : Pure Tryz.prog GL 14 [.agg [.p (.int .i64 n), .p (.int .u64 b)]] (.p (.int .i64 (tabE n b))) := by
  refine Pure.of_walk (N := 25) Tryz.func14 rfl rfl rfl (by simp) (by first | (simp; done) | simp [*]) ?_
  by_cases h0 : n < 0 ∨ 6 < n
  · have e : tabE n b = 2 := by unfold tabE; rw [if_pos h0]
    rw [e]
    by_cases h1 : n < 0
    · simp [h1, XEndT]
    · have h2 : (6 : Int) < n := by omega
      simp [h1, h2, XEndT]
  · obtain ⟨m, rfl⟩ : ∃ m : Nat, n = m := ⟨n.toNat, by omega⟩
    have h1 : ¬ (m : Int) < 0 := by omega
    have h2 : ¬ (6 : Int) < m := by omega
    have h3 := p2_64 (n := m) (by omega)
    simp [h1, h2]
    refine xcall_pure (c_pneumaticref04_Size m (by omega)) ?_
    simp
    refine XLoop.go [1] [0] 0 [] (fun _ => []) (fun _ (k : Nat) => [(3, .p (.int .i64 k))]) (fun _ _ => []) (fun k => p2 m ≤ k ∧ k ≤ 64 ∧ ∀ j, p2 m ≤ j → j < k → b.testBit j = false) (fun k => 64 - k) (p2 m) ⟨Nat.le_refl _, h3, fun j a c => by omega⟩ ?_ ?_
    · simp
    rintro k ⟨hk1, hk2, hk3⟩
    simp
    refine xif_split (fun h4 => ?_) (fun h4 => ?_)
    · simp at h4
      simp
      refine ⟨by omega, bit_one (shr_lt hb), ?_⟩
      cases hbk : b.testBit k with
      | true =>
        have h5 : p2 k ≤ b := Nat.ge_two_pow_of_testBit hbk
        have h6 := p2_le hk1
        have e : tabE (m : Int) b = 3 := by unfold tabE; rw [if_neg h0, Int.toNat_natCast, if_pos (by omega)]
        rw [e]
        simp [XEndT]
      | false =>
        simp
        refine ⟨wrap_i64 (by omega) (by omega), k + 1, ⟨by omega, by omega, fun j a c => ?_⟩, by omega, by omega⟩
        by_cases hjk : j = k
        · subst hjk; exact hbk
        · exact hk3 j a (by omega)
    · simp at h4
      have hk : k = 64 := by omega
      subst hk
      have h5 : b < p2 (p2 m) := lt_bits fun i hi => by
        apply Classical.byContradiction
        intro hn
        by_cases h64 : i < 64
        · rw [hk3 i (by omega) h64] at hi; cases hi
        · rw [Nat.testBit_lt_two_pow (Nat.lt_of_lt_of_le hb (Nat.pow_le_pow_right (by decide) (by omega)))] at hi; cases hi
      have e : tabE (m : Int) b = 0 := by unfold tabE; rw [if_neg h0, Int.toNat_natCast, if_neg (by omega)]
      rw [e]
      simp [XEndT]
end Go.Am
/- Contracts: prime implicants of the reference; chapter 6. -/
namespace Go.Am
open Go Go.Proofs Go.Pn

def NoneF (p : Nat → Bool) (k : Nat) : Prop := ∀ j, j < k → p j = false
theorem noneF_zero {p : Nat → Bool} : NoneF p 0 := fun j h => by omega
theorem noneF_next {p : Nat → Bool} {k : Nat} (h : NoneF p k) (hk : p k = false) : NoneF p (k + 1) := fun j hj => by
  by_cases e : j = k
  · subst e; exact hk
  · exact h j (by omega)
theorem pow_mono {n : Nat} (h : n ≤ 4) : 2 ^ n ≤ 16 := Nat.pow_le_pow_right (by decide) h
theorem cube_small {n : Nat} {c : Cube} (h : c.Ok n) (hn : n ≤ 4) : c.care < 16 ∧ c.value < 16 := by
  have h1 := pow_mono hn
  have h2 := lt_bits (n := n) fun i hi => bit_lt h.care (h.value i hi)
  have := h.care
  omega

theorem dropV_is {c : Cube} {i : Nat} : dropV c i = ⟨andN c.care (p2 i), andN c.value (p2 i)⟩ := rfl
theorem acc_ok1 {ρ : List Nat} {s' : Store} {b k : Nat} {α : Type} {f : α → List AV} (hf : ∀ x, pureL (f x) = true) {D : List α} (h : (ρ[b]?).bind (get s') = accB k (D.map f)) : blkOk ρ s' b (accB k (D.map f)) :=
  of_eq_true (blkOk_acc h (renR_map hf))
def cubesR (n care k : Nat) : List Cube := ((List.range k).filter fun value => decide (andN value care = 0)).map fun value => ⟨care, value⟩
theorem cubesR_snoc {n care k : Nat} : cubesR n care (k + 1) = cubesR n care k ++ (if andN k care = 0 then [⟨care, k⟩] else []) := by
  unfold cubesR
  rw [List.range_succ, List.filter_append, List.map_append]
  by_cases h : andN k care = 0 <;> simp [h]
theorem cubesR_len {n care k : Nat} : (cubesR n care k).length ≤ k := by
  unfold cubesR
  rw [List.length_map]
  have := List.length_filter_le (fun value => decide (andN value care = 0)) (List.range k)
  simpa using this
end Go.Am
/- Contracts: tables and their cofactors; chapter 4. -/
namespace Go.Am
open Go Go.Proofs Go.Pn

theorem c_truth_sized (n : Int) : Pure Tryz.prog GL 66 [.p (.int .i64 n)] (.p (.bool (decide (0 ≤ n) && decide (n ≤ 6)))) := by
  refine Pure.of_walk (N := 9) Tryz.func66 rfl rfl rfl (by simp) (by first | (simp; done) | simp [*]) ?_
  by_cases h : 0 ≤ n
  · simp [h, XEndT]
  · simp [h, XEndT]
def whole (n : Nat) : Nat := p2 (p2 n) - 1
theorem p2p2 {n : Nat} (h : n ≤ 4) : 0 < p2 (p2 n) ∧ p2 (p2 n) ≤ 65536 := ⟨p2_pos, p2_le (p2_16 h)⟩
theorem andN_whole {b n : Nat} (h : b < p2 (p2 n)) : andN b (whole n) = 0 := andN_zero.2 fun i hi => by
  have := bit_lt h hi
  unfold whole
  rw [show p2 (p2 n) = 2 ^ p2 n from rfl, Nat.testBit_two_pow_sub_one]
  simpa using this
theorem c_truth_whole (n : Nat) (hn : n ≤ 4) : Pure Tryz.prog GL 67 [.p (.int .i64 n)] (.p (.int .u64 (whole n : Nat))) := by
  refine Pure.of_walk (N := 9) Tryz.func67 rfl rfl rfl (by simp) (by first | (simp; done) | simp [*]) ?_
  have h16 := p2_16 hn
  obtain ⟨h1, h2⟩ := p2p2 hn
  have h6 : ¬ (n : Int) = 6 := by omega
  have e : ((p2 (p2 n) : Nat) : Int) - 1 = ((whole n : Nat) : Int) := by unfold whole; omega
  simp [h6]
  refine ⟨⟨by omega, wrapu_n (by omega)⟩, ⟨by omega, wrapu_n (by omega)⟩, by rw [e]; exact wrapu_n (by unfold whole; omega), ?_⟩
  simp [XEndT, e]
theorem c_truth_Check (n b : Nat) (hn : n ≤ 4) (hb : b < p2 (p2 n)) : Pure Tryz.prog GL 32 [.agg [.p (.int .i64 n), .p (.int .u64 b)]] (.p (.int .i64 0)) := by
  refine Pure.of_walk (N := 16) Tryz.func32 rfl rfl rfl (by simp) (by first | (simp; done) | simp [*]) ?_
  have h1 := c_truth_sized (n : Int)
  have h2 := c_truth_whole n hn
  obtain ⟨h3, h4⟩ := p2p2 hn
  have e1 : (decide ((0 : Int) ≤ n) && decide ((n : Int) ≤ 6)) = true := by simp; omega
  rw [e1] at h1
  simp
  refine xcall_pure h1 ?_
  simp
  refine XDraw.intro (by kernel_rfl) ?_
  simp
  refine xcall_pure h2 ?_
  simp
  refine ⟨bit_u64 (by omega) (by unfold whole; omega), .of (by kernel_rfl), ?_⟩
  simp [andN_whole hb, XEndT]
def stepB (p : Nat → Bool) (o k : Nat) : Nat := if p k then o ||| p2 k else o
def foldB (p : Nat → Bool) (k : Nat) : Nat := (List.range k).foldl (stepB p) 0
theorem foldB_zero {p : Nat → Bool} : foldB p 0 = 0 := rfl
theorem foldB_snoc {p : Nat → Bool} {k : Nat} : foldB p (k + 1) = stepB p (foldB p k) k := by unfold foldB; rw [List.range_succ, List.foldl_append]; rfl
theorem foldB_lt {p : Nat → Bool} : ∀ {k : Nat}, k ≤ 64 → foldB p k < 2 ^ 64
  | 0, _ => by rw [foldB_zero]; exact Nat.two_pow_pos 64
  | k + 1, h => by
    rw [foldB_snoc]
    unfold stepB
    split
    · exact Nat.or_lt_two_pow (foldB_lt (by omega)) (Nat.pow_lt_pow_right (by decide) (by omega))
    · exact foldB_lt (by omega)
def tabC (n o : Nat) : ABlk := .cells 2 [[.p (.int .i64 n), .p (.int .u64 o)]]
@[simp] theorem tabC_ren {ρ : List Nat} {n o : Nat} : renB ρ (tabC n o) = some (tabC n o) := rfl
theorem p2_u64 {k : Nat} (h : k < 64) : p2 k < 2 ^ 64 := Nat.pow_lt_pow_right (by decide) h
end Go.Am
/- Contracts: cubes of package implicant; chapter 6. -/
namespace Go.Am
open Go Go.Proofs Go.Pn

theorem c_implicant_all (n : Nat) (hn : n ≤ 4) : Pure Tryz.prog GL 112 [.p (.int .i64 n)] (.p (.int .u64 ((p2 n : Nat) - 1))) := by
  refine Pure.of_walk (N := 6) Tryz.func112 rfl rfl rfl (by simp) (by first | (simp; done) | simp [*]) ?_
  have h16 := p2_16 hn
  have hp := @p2_pos n
  simp
  refine ⟨⟨by omega, wrapu_n (by omega)⟩, ?_⟩
  have e : ((p2 n : Nat) : Int) - 1 = ((p2 n - 1 : Nat) : Int) := by omega
  refine ⟨by rw [e]; exact wrapu_n (by omega), ?_⟩
  simp [XEndT]
theorem c_implicant_has (c : Cube) (k : Nat) (hk : k < 2 ^ 62) (h1 : c.care < 2 ^ 64) : Pure Tryz.prog GL 142 [c.av, .p (.int .i64 k)] (.p (.bool (c.has k))) := by
  refine Pure.of_walk (N := 13) Tryz.func142 rfl rfl rfl (by simp) (by first | (simp; done) | simp [*]) ?_
  simp
  refine ⟨wrapu_n (by omega), bit_u64 (by omega) h1, ?_⟩
  simp [XEndT, Cube.has]
  exact Int.ofNat_inj
theorem ptsN_fold {n : Nat} {c : Cube} : foldB c.has (p2 n) = ptsN n c := rfl
theorem ptsN_lt {n : Nat} {c : Cube} (hn : n ≤ 4) : ptsN n c < 2 ^ 64 := by
  have h16 := p2_16 hn
  rw [← ptsN_fold]
  exact foldB_lt (by omega)
theorem c_implicant_points (n : Nat) (c : Cube) (hn : n ≤ 4) (h1 : c.care < 2 ^ 64) : Pure Tryz.prog GL 129 [.p (.int .i64 n), c.av] (.p (.int .u64 (ptsN n c))) := by
  refine Pure.of_walk (N := 21) Tryz.func129 rfl rfl rfl (by simp) (by first | (simp; done) | simp [*]) ?_
  have h16 := p2_16 hn
  simp
  refine ⟨⟨by omega, wrap_n (by omega)⟩, ?_⟩
  refine XLoop.go [3, 8] [0] 0 [] (fun _ => []) (fun _ (k : Nat) => [(9, .p (.int .i64 k)), (5, .p (.int .u64 (foldB c.has k)))]) (fun _ _ => []) (fun k => k ≤ p2 n) (fun k => p2 n - k) 0 (by omega) ?_ ?_
  · simp [foldB_zero]
    try decide
  intro k hk
  have hlt := @foldB_lt c.has k (by omega)
  have hsn := @foldB_snoc c.has k
  simp
  refine xif_split (fun h => ?_) (fun h => ?_)
  · simp at h
    have hH := c_implicant_has c k (by omega) h1
    simp
    refine xcall_pure hH ?_
    cases hv : c.has k with
    | false =>
      have e : foldB c.has (k + 1) = foldB c.has k := by rw [hsn]; unfold stepB; rw [if_neg (by rw [hv]; exact Bool.false_ne_true)]
      simp
      refine ⟨wrap_i64 (by omega) (by omega), k + 1, by omega, by omega, by omega, by rw [e]⟩
    | true =>
      have e : foldB c.has (k + 1) = foldB c.has k ||| p2 k := by rw [hsn]; unfold stepB; rw [if_pos hv]
      simp
      refine ⟨⟨by omega, wrapu_n (p2_u64 (by omega))⟩, bit_u64 hlt (p2_u64 (by omega)), wrap_i64 (by omega) (by omega), k + 1, by omega, by omega, by omega, by rw [e]⟩
  · simp at h
    have hkn : k = p2 n := by omega
    subst hkn
    rw [ptsN_fold]
    simp [XEndT]
theorem or_u64 {a b : Nat} (ha : a < 2 ^ 64) (hb : b < 2 ^ 64) : a ||| b < 2 ^ 64 := Nat.or_lt_two_pow ha hb
theorem c_implicant_implies (x : Tsk) (c : Cube) (hx : x.Ok) (h1 : c.care < 2 ^ 64) : Pure Tryz.prog GL 130 [x.av, c.av] (.p (.bool (impB x c))) := by
  refine Pure.of_walk (N := 19) Tryz.func130 rfl rfl rfl (by simp) (by first | (simp; done) | simp [*]) ?_
  have hP := c_implicant_points x.n c hx.n h1
  have hp := @ptsN_lt x.n c hx.n
  simp
  refine XDraw.intro (by kernel_rfl) ?_
  simp
  refine xcall_pure hP ?_
  simp
  refine ⟨bit_u64 hx.on hx.free, bit_u64 hp (or_u64 hx.on hx.free), .of (by kernel_rfl), ?_⟩
  simp [XEndT, impB]
def widerF (x : Tsk) (c : Cube) (i : Nat) : Bool := !decide (dropV c i = c) && impB x (dropV c i)
theorem wider_true {x : Tsk} {c : Cube} {i : Nat} (h1 : i < x.n) (h2 : widerF x c i = true) : growsB x c = true :=
  List.any_eq_true.2 ⟨i, List.mem_range.2 h1, h2⟩
theorem wider_false {x : Tsk} {c : Cube} (h : NoneF (widerF x c) x.n) : growsB x c = false := by
  rw [Bool.eq_false_iff]
  intro ht
  obtain ⟨j, hj, h2⟩ := List.any_eq_true.1 ht
  have := h j (List.mem_range.1 hj)
  unfold widerF at this
  rw [this] at h2; cases h2
theorem drop_cond {c : Cube} {k : Nat} : (!decide (((andN c.care (p2 k) : Nat) : Int) = c.care) || !decide (((andN c.value (p2 k) : Nat) : Int) = c.value)) = !decide (dropV c k = c) := by
  rw [dropV_is]
  obtain ⟨a, b⟩ := c
  by_cases h1 : andN a (p2 k) = a <;> by_cases h2 : andN b (p2 k) = b <;> simp [h1, h2, Int.ofNat_inj]
theorem c_implicant_grows (x : Tsk) (c : Cube) (hx : x.Ok) (hc : c.Ok x.n) : Pure Tryz.prog GL 131 [x.av, c.av] (.p (.bool (growsB x c))) := by
  refine Pure.of_walk (N := 33) Tryz.func131 rfl rfl rfl (by simp) (by first | (simp; done) | simp [*]) ?_
  have hn := hx.n
  obtain ⟨hc1, hc2⟩ := cube_small hc hn
  simp
  refine XLoop.go [2, 3, 9] [0, 1] 0 [] (fun _ => []) (fun _ (k : Nat) => [(10, .p (.int .i64 k))]) (fun _ _ => []) (fun k => k ≤ x.n ∧ NoneF (widerF x c) k) (fun k => x.n - k) 0 ⟨by omega, noneF_zero⟩ ?_ ?_
  · simp
    try decide
  rintro k ⟨hk, hq⟩
  simp
  refine xif_split (fun h => ?_) (fun h => ?_)
  · simp at h
    have hp : p2 k < 2 ^ 64 := p2_u64 (by omega)
    have hd := dropV_ok (i := k) hc
    obtain ⟨hd1, hd2⟩ := cube_small hd hn
    have hI := c_implicant_implies x (dropV c k) hx (by omega)
    simp
    refine XDraw.intro (by kernel_rfl) ?_
    simp
    refine ⟨⟨by omega, wrapu_n hp⟩, bit_u64 (by omega) hp, ⟨by omega, wrapu_n hp⟩, bit_u64 (by omega) hp, .of (by kernel_rfl), ?_⟩
    rw [drop_cond]
    cases h1 : decide (dropV c k = c) with
    | true =>
      simp
      exact ⟨wrap_i64 (by omega) (by omega), k + 1, ⟨by omega, noneF_next hq (by unfold widerF; rw [h1]; rfl)⟩, by omega, by omega, by decide⟩
    | false =>
      simp
      refine xcall_pure hI ?_
      cases h2 : impB x (dropV c k) with
      | false =>
        simp
        exact ⟨wrap_i64 (by omega) (by omega), k + 1, ⟨by omega, noneF_next hq (by unfold widerF; rw [h1, h2]; rfl)⟩, by omega, by omega, by decide⟩
      | true =>
        rw [wider_true (i := k) h (by unfold widerF; rw [h1, h2]; rfl)]
        simp [XEndT]
  · simp at h
    have hkn : k = x.n := by omega
    subst hkn
    rw [wider_false hq]
    simp [XEndT]
theorem c_implicant_cubes (n : Nat) : Pure Tryz.prog GL 128 [.p (.int .i64 n)] (.fn (.func 141) [.iptr 1 [[.int .i64 n]] 0 0]) := by
  refine Pure.of_walk (N := 4) Tryz.func128 rfl rfl rfl (by simp) (by first | (simp; done) | simp [*]) ?_
  simp [XEndT]
end Go.Am
/- Contracts: prime implicants of package implicant; chapter 6. -/
namespace Go.Am
open Go Go.Proofs Go.Pn

def cellB : ABlk → Nat
  | .cells _ [[x]] => nameOf x
  | _ => 0
@[simp] def cellNm (b : Nat) (st : St) : Nat := match get st.s b with | some x => cellB x | none => 0
def cubesU (n care : Nat) : List Cube := (List.range care).flatMap fun c => cubesR n c (p2 n)
theorem cubesU_snoc {n k : Nat} : cubesU n (k + 1) = cubesU n k ++ cubesR n k (p2 n) := by unfold cubesU; rw [List.range_succ, List.flatMap_append]; simp
theorem cubesU_all {n : Nat} : cubesU n (p2 n) = cubesL n := rfl
theorem cubesU_len {n : Nat} (hn : n ≤ 4) : ∀ {k : Nat}, k ≤ 16 → (cubesU n k).length ≤ k * 16
  | 0, _ => by simp [cubesU]
  | k + 1, h => by
    have ih := @cubesU_len n hn k (by omega)
    have := @cubesR_len n k (p2 n)
    have := p2_16 hn
    rw [cubesU_snoc, List.length_append]
    omega
def takenU (p : Cube → Bool) (n k j : Nat) : List Cube := (cubesU n k ++ cubesR n k j).filter p
theorem takenU_zero {p : Cube → Bool} {n : Nat} : takenU p n 0 0 = [] := rfl
theorem takenU_row {p : Cube → Bool} {n k : Nat} : takenU p n (k + 1) 0 = takenU p n k (p2 n) := by
  unfold takenU
  rw [cubesU_snoc, show cubesR n (k + 1) 0 = [] from rfl, List.append_nil]
theorem takenU_all {p : Cube → Bool} {n : Nat} : takenU p n (p2 n) 0 = (cubesL n).filter p := by
  unfold takenU
  rw [cubesU_all, show cubesR n (p2 n) 0 = [] from rfl, List.append_nil]
theorem takenU_no {p : Cube → Bool} {n k j : Nat} (h : ¬ andN j k = 0) : takenU p n k (j + 1) = takenU p n k j := by
  unfold takenU
  rw [cubesR_snoc, if_neg h, List.append_nil]
theorem takenU_skip {p : Cube → Bool} {n k j : Nat} (h : andN j k = 0) (hp : p ⟨k, j⟩ = false) : takenU p n k (j + 1) = takenU p n k j := by
  unfold takenU
  rw [cubesR_snoc, if_pos h, ← List.append_assoc, List.filter_append _ [_]]
  simp [hp]
theorem takenU_take {p : Cube → Bool} {n k j : Nat} (h : andN j k = 0) (hp : p ⟨k, j⟩ = true) : takenU p n k (j + 1) = takenU p n k j ++ [⟨k, j⟩] := by
  unfold takenU
  rw [cubesR_snoc, if_pos h, ← List.append_assoc, List.filter_append _ [_]]
  simp [hp]
theorem takenU_len {p : Cube → Bool} {n k j : Nat} (hn : n ≤ 4) (hk : k ≤ 16) (hj : j ≤ 16) : (takenU p n k j).length ≤ 272 := by
  have h1 := List.length_filter_le p (cubesU n k ++ cubesR n k j)
  have h2 := cubesU_len hn hk
  have h3 := @cubesR_len n k j
  unfold takenU
  rw [List.length_append] at h1
  omega

def prT (b0 b1 : Nat) : Slots := [(1, .ptr b0 4 0 0), (3, .ptr b1 1 0 0)]
def outB (b2 : Nat) (l : List Cube) : ABlk := .cells 1 [[.acc b2 2 l.length]]
@[simp] theorem cellB_out {b : Nat} {l : List Cube} : cellB (outB b l) = b := rfl
theorem outB_nil {ρ : List Nat} {b : Nat} (h : ρ[b]? = some b) : (withSome (renB ρ (outB b [])) fun z => wknB (.cells 1 [[.nils]]) z) := by
  unfold outB
  simp [h]
theorem renS_out {b0 b1 lam nx : Nat} {L : List Cube} : renS (namesOf [b0, b1, lam] nx 1) [(1, some (outB 3 L)), (3, accB 2 (L.map Cube.row))] = some [(b1, some (outB nx L)), (nx, accB 2 (L.map Cube.row))] := by
  by_cases h : L = []
  · subst h; rfl
  · have e : accB 2 (L.map Cube.row) = some (.cells 2 (L.map Cube.row)) := by simp [accB, h]
    have e2 : ∀ ρ, renR ρ (L.map Cube.row) = some (L.map Cube.row) := fun ρ => renR_map fun x => rfl
    rw [e]
    have e3 : renB [b0, b1, lam, nx] (.cells 2 (L.map Cube.row)) = some (.cells 2 (L.map Cube.row)) := by show (renR _ _).map _ = _; rw [e2]; rfl
    have e4 : renB [b0, b1, lam, nx] (outB 3 L) = some (outB nx L) := rfl
    simp [-renB, renS, e3, e4, namesOf]
theorem acc_same {ρ : List Nat} {L : List Cube} : (match accB 2 (L.map Cube.row) with
    | some y => withSome (renB ρ y) fun y' => accB 2 (L.map Cube.row) = some y'
    | none => True) := by
  by_cases h : L = []
  · subst h; exact trivial
  · have e : accB 2 (L.map Cube.row) = some (.cells 2 (L.map Cube.row)) := by simp [accB, h]
    have e3 : renB ρ (.cells 2 (L.map Cube.row)) = some (.cells 2 (L.map Cube.row)) := by show (renR _ _).map _ = _; rw [renR_map fun x => rfl]; rfl
    rw [e]
    simp [-renB, e3]
def RoundC0 (i : LoopI) (X0 : ABlk) (n : Nat) (p : Cube → Bool) : Prop :=
  ∀ (l : List Cube) (c : Cube) (s : Store) (nx b0 b1 b2 lam : Nat), c.Ok n → p c = false → [lam, b0, b1, b2].Nodup → (∀ b ∈ [lam, b0, b1, b2], b < nx) → get s b0 = some X0 → get s b1 = some (outB b2 l) → get s b2 = accB 2 (l.map Cube.row) → get s lam = some (.loop i (prT b0 b1) none) →
    GivesY Tryz.prog GL i.l [c.av] s nx (.p (.bool true)) [lam, b0, b1, b2] [(lam, some (.loop i (prT b0 b1) none))] nx
def RoundC1 (i : LoopI) (X0 : ABlk) (n : Nat) (p : Cube → Bool) : Prop :=
  ∀ (l : List Cube) (c : Cube) (s : Store) (nx b0 b1 b2 lam : Nat), c.Ok n → p c = true → l.length ≤ 272 → [lam, b0, b1, b2].Nodup → (∀ b ∈ [lam, b0, b1, b2], b < nx) → get s b0 = some X0 → get s b1 = some (outB b2 l) → get s b2 = accB 2 (l.map Cube.row) → get s lam = some (.loop i (prT b0 b1) none) →
    GivesY Tryz.prog GL i.l [c.av] s nx (.p (.bool true)) [lam, b0, b1, b2] [(lam, some (.loop i (prT b0 b1) none)), (b1, some (outB nx (l ++ [c]))), (nx, accB 2 ((l ++ [c]).map Cube.row)), (b2, none)] (nx + 1)

theorem g_cubes1 {i : LoopI} {X0 : ABlk} {n : Nat} {p : Cube → Bool} (hn : n ≤ 4) (h0 : RoundC0 i X0 n p) (h1 : RoundC1 i X0 n p) (r0 : ∀ ρ, renB ρ X0 = some X0) (s : Store) (nx b0 b1 lam : Nat) (hnd : [b0, b1, lam].Nodup) (hlt : ∀ b ∈ [b0, b1, lam], b < nx)
    (g0 : get s b0 = some X0) (g1 : get s b1 = some (.cells 1 [[.nils]])) (g3 : get s lam = some (.loop i (prT b0 b1) none)) :
    Gives Tryz.prog GL 141 [.fn (.yield i.l) [], .iptr 1 [[.int .i64 n]] 0 0] s nx (.tup []) [b0, b1, lam] [(b1, some (outB nx ((cubesL n).filter p))), (nx, accB 2 (((cubesL n).filter p).map Cube.row))] (nx + 1) := by
  have h16 := p2_16 hn
  have hA := c_implicant_all n hn
  have hl0 : renB [b0, b1, lam] (.loop i (prT 0 1) none) = some (.loop i (prT b0 b1) none) := rfl
  have e3 : ∀ (c : Nat) (l : List Cube), renB (List.range 3 ++ [c]) (outB 3 l) = some (outB c l) := fun c l => rfl
  have e9 : ∀ c : Nat, renB (List.range 3 ++ [c]) (.loop i (prT 0 1) none) = some (.loop i (prT 0 1) none) := fun c => rfl
  have f3 : ∀ (c : Nat) (l : List Cube), renB [0, 1, 2, c] (outB 3 l) = some (outB c l) := fun c l => rfl
  have f9 : ∀ c : Nat, renB [0, 1, 2, c] (.loop i (prT 0 1) none) = some (.loop i (prT 0 1) none) := fun c => rfl
  have hL : LendsX [b0, b1, lam] nx [(0, some X0), (1, some (.cells 1 [[.nils]])), (2, some (.loop i (prT 0 1) none))] s [.fn (.yield i.l) [], .iptr 1 [[.int .i64 n]] 0 0] [.fn (.yield i.l) [], .iptr 1 [[.int .i64 n]] 0 0] := by
    refine ⟨?_, rfl, hnd, hlt, rfl⟩
    simp [-renB, g0, g1, g3, r0, hl0]
    try exact rfl
  refine Gives.mk_walkK (N := 31) (args := [.fn (.yield i.l) [], .iptr 1 [[.int .i64 n]] 0 0]) [b0, b1, lam] []
    [(0, some X0), (1, some (.cells 1 [[.nils]])), (2, some (.loop i (prT 0 1) none))] [(1, some (outB 3 ((cubesL n).filter p))), (3, accB 2 (((cubesL n).filter p).map Cube.row))] 3 1 (.tup []) (fun st => [cellNm 1 st]) (up1 := [(b1, some (outB nx ((cubesL n).filter p))), (nx, accB 2 (((cubesL n).filter p).map Cube.row))]) Tryz.func141 rfl rfl rfl (by simp) rfl
    hL (by simp) rfl ?_ (by simp) rfl ?_
  · exact renS_out
  simp [-renB]
  refine xcall_pure hA ?_
  simp [-renB]
  refine ⟨wrapu_n (by omega), ?_⟩
  refine XLoop.go [0, 1, 7] [0, 2] 1 [3] (fun st => [cellNm 1 st]) (fun _ (k : Nat) => [(8, .p (.int .u64 k))]) (fun _ k => [(1, some (outB 3 (takenU p n k 0))), (3, accB 2 ((takenU p n k 0).map Cube.row))]) (fun k => k ≤ p2 n) (fun k => p2 n - k) 0 (by omega) ?_ ?_
  · simp [-renB, r0, takenU_zero, e9]
    exact ⟨outB_nil rfl, by decide⟩
  intro k hk
  simp [-renB]
  refine xif_split (fun h => ?_) (fun h => ?_)
  · simp at h
    simp [-renB]
    refine xcall_pure hA ?_
    simp [-renB]
    refine ⟨wrapu_n (by omega), ?_⟩
    refine XLoop.gor [0, 1, 3, 7, 8, 13] [0, 2] [0, 1, 2, 3] (fun st => [0, 1, 2, cellNm 1 st]) (fun (j : Nat) => [(14, .p (.int .u64 j))]) (fun j => [(1, some (outB 3 (takenU p n k j))), (3, accB 2 ((takenU p n k j).map Cube.row))]) (fun j => j ≤ p2 n) (fun j => p2 n - j) 0 (by omega) ?_ ?_
    · simp [-renB, r0, f3, f9]
      rfl
    intro j hj
    have hlen := @takenU_len p n k j hn (by omega) (by omega)
    simp [-renB]
    refine xif_split (fun h2 => ?_) (fun h2 => ?_)
    · simp at h2
      simp [-renB]
      refine ⟨bit_u64 (by omega) (by omega), ?_⟩
      by_cases h3 : andN j k = 0
      · have hok : Cube.Ok n ⟨k, j⟩ := ⟨h, andN_zero.1 h3⟩
        simp [-renB, h3]
        cases hp : p ⟨k, j⟩ with
        | false =>
          refine xycall_gives (h0 (takenU p n k j) ⟨k, j⟩ _ _ 0 1 3 2 hok hp (by simp) (by simp) rfl rfl ?_ rfl) ?_
          · simp
          simp [-renB, r0, f3, f9]
          refine ⟨of_eq_true (wrap_u64 (by omega) (by omega)), j + 1, by omega, by omega, by omega, ⟨by rw [takenU_skip h3 hp]; simp, acc_ok1 (fun _ => rfl) (by rw [takenU_skip h3 hp]; simp)⟩, rfl⟩
        | true =>
          refine xycall_gives (h1 (takenU p n k j) ⟨k, j⟩ _ _ 0 1 3 2 hok hp hlen (by simp) (by simp) rfl rfl ?_ rfl) ?_
          · simp
          simp [-renB, r0, f3, f9]
          refine ⟨of_eq_true (wrap_u64 (by omega) (by omega)), j + 1, by omega, by omega, by omega, ⟨by rw [takenU_take h3 hp]; simp, ?_⟩, rfl⟩
          rw [show List.map Cube.row (takenU p n k j) ++ [[AV.p (PV.int IntKind.u64 ↑k), AV.p (PV.int IntKind.u64 ↑j)]] = (takenU p n k (j + 1)).map Cube.row by rw [takenU_take h3 hp]; simp]
          exact acc_ok1 (fun _ => rfl) (by simp)
      · simp [-renB, h3, r0, f3, f9]
        refine ⟨of_eq_true (wrap_u64 (by omega) (by omega)), j + 1, by omega, by omega, by omega, ⟨by rw [takenU_no h3]; simp, acc_ok1 (fun _ => rfl) (by rw [takenU_no h3]; simp)⟩, rfl⟩
    · simp at h2
      have hjn : j = p2 n := by omega
      subst hjn
      simp [-renB, r0, e3, e9]
      refine ⟨of_eq_true (wrap_u64 (by omega) (by omega)), k + 1, by omega, by omega, by omega, ⟨by rw [takenU_row]; simp, acc_ok1 (fun _ => rfl) (by rw [takenU_row]; rfl)⟩, by decide⟩
  · simp at h
    have hkn : k = p2 n := by omega
    subst hkn
    rw [← takenU_all]
    simp [-renB, r0, e3, e9]
    exact ⟨acc_same, by decide⟩
end Go.Am
/- Contracts: the prime implicants of package implicant, as a list; chapter 6. -/
namespace Go.Am
open Go Go.Proofs Go.Pn

def primF (x : Tsk) (c : Cube) : Bool := hitsB x c && impB x c && !growsB x c
theorem primF_all {x : Tsk} : (cubesL x.n).filter (primF x) = primesL x := rfl
def tskB (x : Tsk) : ABlk := .cells 4 [[.p (.int .i64 x.n), .p (.int .u64 x.on), .p (.int .i64 x.n), .p (.int .u64 x.free)]]
theorem lends_pr {x : Tsk} {s : Store} {b0 b1 b2 : Nat} {l : List Cube} (g0 : get s b0 = some (tskB x)) (g1 : get s b1 = some (outB b2 l)) (g2 : get s b2 = accB 2 (l.map Cube.row)) :
    lendsOk [b0, b1, b2] s [(0, some (tskB x)), (1, some (outB 2 l)), (2, accB 2 (l.map Cube.row))] := by
  have e0 : renB [b0, b1, b2] (tskB x) = some (tskB x) := rfl
  have e1 : renB [b0, b1, b2] (outB 2 l) = some (outB b2 l) := rfl
  by_cases h : l = []
  · subst h
    simp [-renB, g0, g1, e0, e1]
  · have e : accB 2 (l.map Cube.row) = some (.cells 2 (l.map Cube.row)) := by simp [accB, h]
    have e3 : renB [b0, b1, b2] (.cells 2 (l.map Cube.row)) = some (.cells 2 (l.map Cube.row)) := by show (renR _ _).map _ = _; rw [renR_map fun x => rfl]; rfl
    rw [e] at g2 ⊢
    simp [-renB, g0, g1, g2, e0, e1, e3]
theorem lend_all {x : Tsk} {s : Store} {b0 b1 b2 : Nat} {l : List Cube} (g2 : get s b2 = accB 2 (l.map Cube.row)) :
    ∀ b b', [b0, b1, b2][b]? = some b' → get s b' ≠ none → ∃ y, get [(0, some (tskB x)), (1, some (outB 2 l)), (2, accB 2 (l.map Cube.row))] b = some y := by
  intro b b' hb hg
  match b, hb with
  | 0, _ => exact ⟨_, rfl⟩
  | 1, _ => exact ⟨_, rfl⟩
  | 2, hb =>
    simp at hb
    subst hb
    rw [g2] at hg
    exact Option.ne_none_iff_exists'.1 hg
theorem hits_cond {x : Tsk} {c : Cube} : (!decide (ptsN x.n c &&& x.on = 0)) = hitsB x c := by
  unfold hitsB
  by_cases h : ptsN x.n c &&& x.on = 0 <;> simp [h]
theorem out_same {x : Tsk} {l : List Cube} {r0 r1 : List AV} {st : St} (h : st.s = [(3, some (.cells 2 [r0])), (3, some (.cells 2 [r1])), (0, some (tskB x)), (1, some (outB 2 l)), (2, accB 2 (l.map Cube.row))]) :
    outOk (List.range 3 ++ []) st.s [] ([] ++ ([].map (·, none) ++ [(0, some (tskB x)), (1, some (outB 2 l)), (2, accB 2 (l.map Cube.row))])) ∧ (List.range 3 ++ []).Nodup ∧ (List.range 3 ++ ([] : List Nat)).length ≤ 3 + 0 := by
  have e0 : renB [0, 1, 2] (tskB x) = some (tskB x) := rfl
  have e1 : renB [0, 1, 2] (outB 2 l) = some (outB 2 l) := rfl
  refine ⟨?_, by decide, by decide⟩
  rw [h]
  rw [show List.range 3 ++ [] = [0, 1, 2] from rfl]
  simp [-renB, e0, e1]
  exact acc_same
def SortC : Prop := ∀ (l : List Cube) (s : Store) (nx b : Nat), get s b = accB 2 (l.map Cube.row) → l.length < 1000 → b < nx → (l.Pairwise fun a c => a.care < c.care ∨ a.care = c.care ∧ a.value < c.value) → Gives Tryz.prog GL 132 [.acc b 2 l.length, .fn (.func 133) []] s nx (.tup []) [b] [(b, accB 2 (l.map Cube.row))] nx
theorem cubes_asc {n : Nat} : (cubesL n).Pairwise fun a c => a.care < c.care ∨ a.care = c.care ∧ a.value < c.value := by
  unfold cubesL
  refine List.pairwise_flatMap.2 ⟨fun care _ => ?_, ?_⟩
  · refine List.pairwise_map.2 ((List.pairwise_lt_range.filter _).imp fun h => .inr ⟨rfl, h⟩)
  · refine List.pairwise_lt_range.imp fun {a b} h u hu v hv => ?_
    obtain ⟨x, _, rfl⟩ := List.mem_map.1 hu
    obtain ⟨y, _, rfl⟩ := List.mem_map.1 hv
    exact .inl h
theorem cubesL_len {n : Nat} (hn : n ≤ 4) : (cubesL n).length ≤ 256 := by
  have := cubesU_len hn (p2_16 hn)
  have := p2_16 hn
  rw [← cubesU_all]
  omega
theorem c_primesS (hS : SortC) (x : Tsk) (hx : x.Ok) : Pure Tryz.prog GL 107 [x.av] (.p (.lst 2 ((primesL x).map Cube.enc))) := by
  have hC := c_implicant_cubes x.n
  refine Pure.of_walk (N := 38) Tryz.func107 rfl rfl rfl (by simp) rfl ?_
  simp
  refine xcall_pure hC ?_
  simp
  refine XRange.intro [1, 3] Tryz.func141 rfl rfl fun l0 fn => ?_
  refine ⟨_, _, _, _, none, g_cubes1 (i := ⟨l0, 38, fn, #[9], _, _⟩) (X0 := tskB x) (p := primF x) hx.n
    ?_ ?_ (fun _ => rfl) _ _ 0 1 2 (by simp) (by simp) rfl rfl rfl, rfl, ?_⟩
  · intro l c s nx b0 b1 b2 lam hok hp hnd hlt g0 g1 g2 g3
    have hnd2 : [b0, b1, b2].Nodup := (List.nodup_cons.1 hnd).2
    have hlt2 : ∀ b ∈ [b0, b1, b2], b < nx := fun b hb => hlt b (List.mem_cons_of_mem _ hb)
    refine GivesY.of_walkA (σ := [b0, b1, b2]) (t0 := prT 0 1) (args := [c.av]) (free := []) (m := 3) (x := 0) (j := none)
      (s0 := [(0, some (tskB x)), (1, some (outB 2 l)), (2, accB 2 (l.map Cube.row))])
      (s1 := [])
      (fun _ => []) rfl ⟨?_, ?_, hnd2, hlt2, rfl⟩ g3 (List.nodup_cons.1 hnd).1 (hlt lam (by simp)) rfl rfl (by simp) (by simp) rfl ?_
    · exact lends_pr g0 g1 g2
    · exact lend_all g2
    · obtain ⟨hc1, hc2⟩ := cube_small hok hx.n
      have hP := c_implicant_points x.n c hx.n (by omega)
      have hI := c_implicant_implies x c hx (by omega)
      have hG := c_implicant_grows x c hx hok
      simp [-renB, roundSlots, prT, tskB]
      refine XDraw.intro (by kernel_rfl) ?_
      simp [-renB]
      refine xcall_pure hP ?_
      simp [-renB]
      refine ⟨bit_u64 (ptsN_lt hx.n) hx.on, ?_⟩
      rw [hits_cond]
      unfold primF at hp
      cases h1 : hitsB x c with
      | false =>
        simp [-renB]
        refine ⟨.of (by kernel_rfl), XEndYL.of ⟨rfl, ?_⟩⟩
        exact out_same rfl
      | true =>
        simp [-renB]
        refine xcall_pure hI ?_
        cases h2 : impB x c with
        | false =>
          simp [-renB]
          refine ⟨.of (by kernel_rfl), XEndYL.of ⟨rfl, ?_⟩⟩
          exact out_same rfl
        | true =>
          simp [-renB]
          refine xcall_pure hG ?_
          cases h3 : growsB x c with
          | false => rw [h1, h2, h3] at hp; cases hp
          | true =>
            simp [-renB]
            refine ⟨.of (by kernel_rfl), XEndYL.of ⟨rfl, ?_⟩⟩
            exact out_same rfl
  · intro l c s nx b0 b1 b2 lam hok hp hlen hnd hlt g0 g1 g2 g3
    have hnd2 : [b0, b1, b2].Nodup := (List.nodup_cons.1 hnd).2
    have hlt2 : ∀ b ∈ [b0, b1, b2], b < nx := fun b hb => hlt b (List.mem_cons_of_mem _ hb)
    refine GivesY.of_walkA (σ := [b0, b1, b2]) (t0 := prT 0 1) (args := [c.av]) (free := [2]) (m := 3) (x := 1) (j := none)
      (s0 := [(0, some (tskB x)), (1, some (outB 2 l)), (2, accB 2 (l.map Cube.row))])
      (s1 := [(1, some (outB 3 (l ++ [c]))), (3, accB 2 ((l ++ [c]).map Cube.row))])
      (fun st => [cellNm 1 st]) rfl ⟨lends_pr g0 g1 g2, lend_all g2, hnd2, hlt2, rfl⟩ g3 (List.nodup_cons.1 hnd).1 (hlt lam (by simp)) rfl rfl (by simp) (by simp) renS_out ?_
    obtain ⟨hc1, hc2⟩ := cube_small hok hx.n
    have hP := c_implicant_points x.n c hx.n (by omega)
    have hI := c_implicant_implies x c hx (by omega)
    have hG := c_implicant_grows x c hx hok
    unfold primF at hp
    simp only [Bool.and_eq_true, Bool.not_eq_true'] at hp
    obtain ⟨⟨h1, h2⟩, h3⟩ := hp
    rw [h2] at hI
    rw [h3] at hG
    simp [-renB, roundSlots, prT, tskB]
    refine XDraw.intro (by kernel_rfl) ?_
    simp [-renB]
    refine xcall_pure hP ?_
    simp [-renB]
    refine ⟨bit_u64 (ptsN_lt hx.n) hx.on, ?_⟩
    rw [hits_cond, h1]
    simp [-renB]
    refine xcall_pure hI ?_
    simp [-renB]
    refine xcall_pure hG ?_
    simp [-renB, outB]
    refine ⟨.of (by kernel_rfl), ?_⟩
    refine ⟨by omega, XEndYL.of ⟨rfl, ?_⟩⟩
    have em : List.map Cube.row l ++ [[AV.p (PV.int IntKind.u64 ↑c.care), AV.p (PV.int IntKind.u64 ↑c.value)]] = (l ++ [c]).map Cube.row := by simp
    rw [em]
    have ea : accB 2 ((l ++ [c]).map Cube.row) = some (.cells 2 ((l ++ [c]).map Cube.row)) := by simp [accB]
    rw [ea]
    have e0 : renB [0, 1, 2, 5] (tskB x) = some (tskB x) := rfl
    have e1 : renB [0, 1, 2, 5] (.cells 1 [[.acc 3 2 (l.length + 1)]]) = some (.cells 1 [[.acc 5 2 (l.length + 1)]]) := rfl
    have e3 : renB [0, 1, 2, 5] (.cells 2 ((l ++ [c]).map Cube.row)) = some (.cells 2 ((l ++ [c]).map Cube.row)) := by show (renR _ _).map _ = _; rw [renR_map fun x => rfl]; rfl
    refine ⟨?_, show [0, 1, 2, 5].Nodup by decide, show [0, 1, 2, 5].length ≤ 4 by decide⟩
    show outOk [0, 1, 2, 5] _ _ _
    have et : (some (ABlk.cells 4 [[AV.p (PV.int .i64 x.n), .p (.int .u64 x.on), .p (.int .i64 x.n), .p (.int .u64 x.free)]])) = some (tskB x) := rfl
    rw [et]
    simp [-renB, e0, e1, e3, -List.map_append]
  · have hlen := List.length_filter_le (primF x) (cubesL x.n)
    have hl2 := cubesL_len hx.n
    have hasc : ((cubesL x.n).filter (primF x)).Pairwise fun a c => a.care < c.care ∨ a.care = c.care ∧ a.value < c.value := cubes_asc.filter _
    simp [afterJump, outB]
    refine xcall_gives (hS _ _ _ 3 ?_ (by omega) (by omega) hasc) ?_
    · simp
    simp [XEndT, primF_all]
end Go.Am
