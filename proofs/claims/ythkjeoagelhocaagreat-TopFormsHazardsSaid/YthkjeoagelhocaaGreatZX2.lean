/- Lemmas and contracts for the proof of a statement of this seat. -/
import Derived.Test.YthkjeoagelhocaaGreatZC1
import Derived.Test.YthkjeoagelhocaaGreatZX1
import Derived.Test.YthkjeoagelhocaaGreatZA7
set_option linter.unusedVariables false
set_option linter.unusedSimpArgs false
/- Contracts: bits, cubes and tables of the reference; chapters 4 and 6. -/
namespace Go.Am
open Go Go.Proofs Go.Pn

@[simp] def Cube.enc (c : Cube) : List PV := [.int .u64 c.care, .int .u64 c.value]
@[simp] def Cube.row (c : Cube) : List AV := [.p (.int .u64 c.care), .p (.int .u64 c.value)]
@[simp] def Cube.av (c : Cube) : AV := .agg [.p (.int .u64 c.care), .p (.int .u64 c.value)]
@[simp] def Tsk.av (x : Tsk) : AV := .agg [.p (.int .i64 x.n), .p (.int .u64 x.on), .p (.int .i64 x.n), .p (.int .u64 x.free)]
structure Tsk.Ok (x : Tsk) : Prop where
  n : x.n ≤ 4
  on : x.on < 2 ^ 64
  free : x.free < 2 ^ 64

theorem bit_u64 {a b : Nat} (ha : a < 2 ^ 64) (hb : b < 2 ^ 64) : bitR .u64 (a : Int) (b : Int) :=
  ⟨by omega, by omega, by have := @wrap_u64 (a : Int) (by omega) (by omega); exact of_eq_true this, by have := @wrap_u64 (b : Int) (by omega) (by omega); exact of_eq_true this⟩
theorem bit_i64 {a b : Nat} (ha : a < 2 ^ 62) (hb : b < 2 ^ 62) : bitR .i64 (a : Int) (b : Int) :=
  ⟨by omega, by omega, wrap_i64 (by omega) (by omega), wrap_i64 (by omega) (by omega)⟩
def shrN (a k : Nat) : Nat := a / 2 ^ k
def p2 (n : Nat) : Nat := 2 ^ n
theorem p2_le {n m : Nat} (h : n ≤ m) : p2 n ≤ p2 m := Nat.pow_le_pow_right (by decide) h
theorem p2_pos {n : Nat} : 0 < p2 n := Nat.two_pow_pos n
theorem p2_16 {n : Nat} (h : n ≤ 4) : p2 n ≤ 16 := p2_le h
theorem p2_64 {n : Nat} (h : n ≤ 6) : p2 n ≤ 64 := p2_le h
@[simp] theorem shlN_one {n : Nat} : shlN 1 n = p2 n := by unfold shlN p2; simp
@[simp] theorem fdiv_nat {a k : Nat} : ((a : Nat) : Int).fdiv (2 ^ k) = ((shrN a k : Nat) : Int) := by
  have h : (2 : Int) ^ k = ((2 ^ k : Nat) : Int) := by simp
  rw [h, Int.fdiv_eq_ediv_of_nonneg _ (Int.natCast_nonneg _)]; rfl
@[simp] theorem and_one {a k : Nat} : decide (((shrN a k : Nat) : Int) % 2 = 1) = a.testBit k := by
  unfold shrN
  rw [Nat.testBit_eq_decide_div_mod_eq]
  exact decide_eq_decide.2 (by omega)
theorem shr_lt {b k : Nat} (hb : b < 2 ^ 64) : shrN b k < 2 ^ 64 := Nat.lt_of_le_of_lt (Nat.div_le_self ..) hb
@[simp] theorem bits_i64 : IntKind.i64.bits = 64 := rfl
@[simp] theorem bits_u64 : IntKind.u64.bits = 64 := rfl
theorem bit_one {a : Nat} (ha : a < 2 ^ 64) : bitR .u64 (a : Int) 1 := bit_u64 (b := 1) ha (by decide)
theorem wrap_n {n : Nat} (h : n < 2 ^ 62) : IntKind.i64.wrap (n : Int) = n := wrap_i64 (by omega) (by omega)
theorem wrapu_n {n : Nat} (h : n < 2 ^ 64) : IntKind.u64.wrap (n : Int) = n := of_eq_true (wrap_u64 (by omega) (by omega))

theorem c_pneumaticref04_Size (n : Nat) (hn : n ≤ 6) : Pure Tryz.prog GL 9 [.p (.int .i64 n)] (.p (.int .i64 (p2 n : Nat))) := by
  refine Pure.of_walk (N := 5) Tryz.func9 rfl rfl rfl (by simp) (by first | (simp; done) | simp [*]) ?_
  have h := p2_64 hn
  simp
  exact ⟨⟨by omega, wrap_n (by omega)⟩, by simp [XEndT]⟩
theorem c_pneumaticref04_At (n b k : Nat) (hb : b < 2 ^ 64) (hk : k < 64) : Pure Tryz.prog GL 102 [.agg [.p (.int .i64 n), .p (.int .u64 b)], .p (.int .i64 k)] (.p (.bool (b.testBit k))) := by
  refine Pure.of_walk (N := 11) Tryz.func102 rfl rfl rfl (by simp) (by first | (simp; done) | simp [*]) ?_
  simp
  refine ⟨by omega, bit_one (shr_lt hb), ?_⟩
  simp [XEndT]

def tabE (n : Int) (b : Nat) : Int := if n < 0 ∨ 6 < n then 2 else if p2 (p2 n.toNat) ≤ b then 3 else 0
theorem tabE_zero {n : Int} {b : Nat} (h : tabE n b = 0) : ∃ m : Nat, n = m ∧ m ≤ 6 ∧ b < p2 (p2 m) := by
  unfold tabE at h
  split at h
  · cases h
  · split at h
    · cases h
    · exact ⟨n.toNat, by omega, by omega, by omega⟩
theorem c_pneumaticref04_Check (n : Int) (b : Nat) (hb : b < 2 ^ 64) : Pure Tryz.prog GL 14 [.agg [.p (.int .i64 n), .p (.int .u64 b)]] (.p (.int .i64 (tabE n b))) := by
  refine Pure.of_walk (N := 25) Tryz.func14 rfl rfl rfl (by simp) (by first | (simp; done) | simp [*]) ?_
  by_cases h0 : n < 0 ∨ 6 < n
  · have e : tabE n b = 2 := by unfold tabE; rw [if_pos h0]
    rw [e]
    by_cases h1 : n < 0
    · simp [h1, XEndT]
    · have h2 : (6 : Int) < n := by omega
      simp [h1, h2, XEndT]
  · obtain ⟨m, rfl⟩ : ∃ m : Nat, n = m := ⟨n.toNat, by omega⟩
    have h1 : ¬ (m : Int) < 0 := by omega
    have h2 : ¬ (6 : Int) < m := by omega
    have h3 := p2_64 (n := m) (by omega)
    simp [h1, h2]
    refine xcall_pure (c_pneumaticref04_Size m (by omega)) ?_
    simp
    refine XLoop.go [1] [0] 0 [] (fun _ => []) (fun _ (k : Nat) => [(3, .p (.int .i64 k))]) (fun _ _ => []) (fun k => p2 m ≤ k ∧ k ≤ 64 ∧ ∀ j, p2 m ≤ j → j < k → b.testBit j = false) (fun k => 64 - k) (p2 m) ⟨Nat.le_refl _, h3, fun j a c => by omega⟩ ?_ ?_
    · simp
    rintro k ⟨hk1, hk2, hk3⟩
    simp
    refine xif_split (fun h4 => ?_) (fun h4 => ?_)
    · simp at h4
      simp
      refine ⟨by omega, bit_one (shr_lt hb), ?_⟩
      cases hbk : b.testBit k with
      | true =>
        have h5 : p2 k ≤ b := Nat.ge_two_pow_of_testBit hbk
        have h6 := p2_le hk1
        have e : tabE (m : Int) b = 3 := by unfold tabE; rw [if_neg h0, Int.toNat_natCast, if_pos (by omega)]
        rw [e]
        simp [XEndT]
      | false =>
        simp
        refine ⟨wrap_i64 (by omega) (by omega), k + 1, ⟨by omega, by omega, fun j a c => ?_⟩, by omega, by omega⟩
        by_cases hjk : j = k
        · subst hjk; exact hbk
        · exact hk3 j a (by omega)
    · simp at h4
      have hk : k = 64 := by omega
      subst hk
      have h5 : b < p2 (p2 m) := lt_bits fun i hi => by
        apply Classical.byContradiction
        intro hn
        by_cases h64 : i < 64
        · rw [hk3 i (by omega) h64] at hi; cases hi
        · rw [Nat.testBit_lt_two_pow (Nat.lt_of_lt_of_le hb (Nat.pow_le_pow_right (by decide) (by omega)))] at hi; cases hi
      have e : tabE (m : Int) b = 0 := by unfold tabE; rw [if_neg h0, Int.toNat_natCast, if_neg (by omega)]
      rw [e]
      simp [XEndT]
theorem c_pneumaticref06_In (c : Cube) (k : Nat) (hk : k < 2 ^ 62) (h1 : c.care < 2 ^ 64) (h2 : c.value < 2 ^ 64) : Pure Tryz.prog GL 101 [c.av, .p (.int .i64 k)] (.p (.bool (c.has k))) := by
  refine Pure.of_walk (N := 13) Tryz.func101 rfl rfl rfl (by simp) (by first | (simp; done) | simp [*]) ?_
  simp
  refine ⟨wrapu_n (by omega), bit_u64 (by omega) h1, ?_⟩
  simp [XEndT, Cube.has]
  exact Int.ofNat_inj
end Go.Am
/- Contracts: prime implicants of the reference; chapter 6. -/
namespace Go.Am
open Go Go.Proofs Go.Pn

def NoneF (p : Nat → Bool) (k : Nat) : Prop := ∀ j, j < k → p j = false
theorem noneF_zero {p : Nat → Bool} : NoneF p 0 := fun j h => by omega
theorem noneF_next {p : Nat → Bool} {k : Nat} (h : NoneF p k) (hk : p k = false) : NoneF p (k + 1) := fun j hj => by
  by_cases e : j = k
  · subst e; exact hk
  · exact h j (by omega)
def touchF (x : Tsk) (c : Cube) (j : Nat) : Bool := c.has j && x.on.testBit j
def goodF (x : Tsk) (c : Cube) (j : Nat) : Bool := c.has j && !x.on.testBit j && !x.free.testBit j
def growF (x : Tsk) (c : Cube) (j : Nat) : Bool := c.care.testBit j && goodB x (dropV c j)
theorem touch_true {x : Tsk} {c : Cube} {k : Nat} (h1 : k < p2 x.n) (h2 : touchF x c k = true) : touchB x c = true :=
  List.any_eq_true.2 ⟨k, List.mem_range.2 h1, h2⟩
theorem touch_false {x : Tsk} {c : Cube} (h : NoneF (touchF x c) (p2 x.n)) : touchB x c = false := by
  rw [Bool.eq_false_iff]
  intro ht
  obtain ⟨j, hj, h2⟩ := List.any_eq_true.1 ht
  have := h j (List.mem_range.1 hj)
  unfold touchF at this
  rw [this] at h2; cases h2
theorem good_false {x : Tsk} {c : Cube} {k : Nat} (h1 : k < p2 x.n) (h2 : goodF x c k = true) : goodB x c = false := by
  rw [Bool.eq_false_iff]
  intro ht
  have := List.all_eq_true.1 ht k (List.mem_range.2 h1)
  unfold goodF at h2
  rw [h2] at this; cases this
theorem good_true {x : Tsk} {c : Cube} (h : NoneF (goodF x c) (p2 x.n)) : goodB x c = true :=
  List.all_eq_true.2 fun j hj => by
    have := h j (List.mem_range.1 hj)
    unfold goodF at this
    rw [this]; rfl
theorem grow_true {x : Tsk} {c : Cube} {i : Nat} (h1 : i < x.n) (h2 : growF x c i = true) : growB2 x c = true :=
  List.any_eq_true.2 ⟨i, List.mem_range.2 h1, h2⟩
theorem grow_false {x : Tsk} {c : Cube} (h : NoneF (growF x c) x.n) : growB2 x c = false := by
  rw [Bool.eq_false_iff]
  intro ht
  obtain ⟨j, hj, h2⟩ := List.any_eq_true.1 ht
  have := h j (List.mem_range.1 hj)
  unfold growF at this
  rw [this] at h2; cases h2
theorem pow_mono {n : Nat} (h : n ≤ 4) : 2 ^ n ≤ 16 := Nat.pow_le_pow_right (by decide) h
theorem cube_small {n : Nat} {c : Cube} (h : c.Ok n) (hn : n ≤ 4) : c.care < 16 ∧ c.value < 16 := by
  have h1 := pow_mono hn
  have h2 := lt_bits (n := n) fun i hi => bit_lt h.care (h.value i hi)
  have := h.care
  omega

theorem c_pneumaticref06_touches (x : Tsk) (c : Cube) (hx : x.Ok) (hc : c.Ok x.n) : Pure Tryz.prog GL 63 [x.av, c.av] (.p (.bool (touchB x c))) := by
  refine Pure.of_walk (N := 23) Tryz.func63 rfl rfl rfl (by simp) (by first | (simp; done) | simp [*]) ?_
  have hn := hx.n
  have h16 := p2_16 hn
  obtain ⟨hc1, hc2⟩ := cube_small hc hn
  have hS := c_pneumaticref04_Size x.n (by omega)
  simp
  refine XLoop.go [2, 3] [0, 1] 0 [] (fun _ => []) (fun _ (k : Nat) => [(5, .p (.int .i64 k))]) (fun _ _ => []) (fun k => k ≤ p2 x.n ∧ NoneF (touchF x c) k) (fun k => p2 x.n - k) 0 ⟨by omega, noneF_zero⟩ ?_ ?_
  · simp
    try decide
  rintro k ⟨hk, hq⟩
  simp
  refine xcall_pure hS ?_
  simp
  refine xif_split (fun h => ?_) (fun h => ?_)
  · simp at h
    have hI := c_pneumaticref06_In c k (by omega) (by omega) (by omega)
    have hA := c_pneumaticref04_At x.n x.on k hx.on (by omega)
    simp
    refine xcall_pure hI ?_
    cases h1 : c.has k with
    | false =>
      simp
      exact ⟨wrap_i64 (by omega) (by omega), k + 1, ⟨by omega, noneF_next hq (by unfold touchF; rw [h1]; rfl)⟩, by omega, by omega, by decide⟩
    | true =>
      simp
      refine xcall_pure hA ?_
      cases h2 : x.on.testBit k with
      | false =>
        simp
        exact ⟨wrap_i64 (by omega) (by omega), k + 1, ⟨by omega, noneF_next hq (by unfold touchF; rw [h1, h2]; rfl)⟩, by omega, by omega, by decide⟩
      | true =>
        rw [touch_true (k := k) (by omega) (by unfold touchF; rw [h1, h2]; rfl)]
        simp [XEndT]
  · simp at h
    have hkn : k = p2 x.n := by omega
    subst hkn
    rw [touch_false hq]
    simp [XEndT]

theorem c_pneumaticref06_Good (x : Tsk) (c : Cube) (hx : x.Ok) (hc : c.Ok x.n) : Pure Tryz.prog GL 64 [x.av, c.av] (.p (.bool (goodB x c))) := by
  refine Pure.of_walk (N := 31) Tryz.func64 rfl rfl rfl (by simp) (by first | (simp; done) | simp [*]) ?_
  have hn := hx.n
  have h16 := p2_16 hn
  obtain ⟨hc1, hc2⟩ := cube_small hc hn
  have hS := c_pneumaticref04_Size x.n (by omega)
  simp
  refine XLoop.go [2, 3] [0, 1] 0 [] (fun _ => []) (fun _ (k : Nat) => [(5, .p (.int .i64 k))]) (fun _ _ => []) (fun k => k ≤ p2 x.n ∧ NoneF (goodF x c) k) (fun k => p2 x.n - k) 0 ⟨by omega, noneF_zero⟩ ?_ ?_
  · simp
    try decide
  rintro k ⟨hk, hq⟩
  simp
  refine xcall_pure hS ?_
  simp
  refine xif_split (fun h => ?_) (fun h => ?_)
  · simp at h
    have hI := c_pneumaticref06_In c k (by omega) (by omega) (by omega)
    have hA := c_pneumaticref04_At x.n x.on k hx.on (by omega)
    have hB := c_pneumaticref04_At x.n x.free k hx.free (by omega)
    simp
    refine xcall_pure hI ?_
    cases h1 : c.has k with
    | false =>
      simp
      exact ⟨wrap_i64 (by omega) (by omega), k + 1, ⟨by omega, noneF_next hq (by unfold goodF; rw [h1]; rfl)⟩, by omega, by omega, by decide⟩
    | true =>
      simp
      refine xcall_pure hA ?_
      cases h2 : x.on.testBit k with
      | true =>
        simp
        exact ⟨wrap_i64 (by omega) (by omega), k + 1, ⟨by omega, noneF_next hq (by unfold goodF; rw [h1, h2]; rfl)⟩, by omega, by omega, by decide⟩
      | false =>
        simp
        refine xcall_pure hB ?_
        cases h3 : x.free.testBit k with
        | true =>
          simp
          exact ⟨wrap_i64 (by omega) (by omega), k + 1, ⟨by omega, noneF_next hq (by unfold goodF; rw [h1, h2, h3]; rfl)⟩, by omega, by omega, by decide⟩
        | false =>
          rw [good_false (k := k) (by omega) (by unfold goodF; rw [h1, h2, h3]; rfl)]
          simp [XEndT]
  · simp at h
    have hkn : k = p2 x.n := by omega
    subst hkn
    rw [good_true hq]
    simp [XEndT]

theorem dropV_is {c : Cube} {i : Nat} : dropV c i = ⟨andN c.care (p2 i), andN c.value (p2 i)⟩ := rfl
theorem c_joined1 (c : Cube) (i : Nat) (hi : i < 63) (h1 : c.care < 2 ^ 64) (h2 : c.value < 2 ^ 64) : Pure Tryz.prog GL 103 [c.av, c.av, .p (.lst 1 [[.int .i64 i]])] (dropV c i).av := by
  refine Pure.of_walk (N := 45) Tryz.func103 rfl rfl rfl (by simp) rfl ?_
  have hp : p2 i < 2 ^ 64 := Nat.pow_lt_pow_right (by decide) (by omega)
  simp
  refine ⟨bit_u64 h1 h1, bit_u64 h2 h2, ?_⟩
  refine XLoop.gor [2, 6, 7] [] [0, 1, 2, 3] (fun _ => [0, 1, 2, 3]) (fun (k : Nat) => [(8, .p (.int .i64 k))]) (fun k => [(2, some (.cells 2 [[.p (.int .u64 0), .p (.int .u64 0)]])), (3, some (.cells 2 [if k = 0 then c.row else (dropV c i).row]))]) (fun k => k ≤ 1) (fun k => 1 - k) 0 (by omega) ?_ ?_
  · simp
    try decide
  intro k hk
  simp
  refine xif_split (fun h => ?_) (fun h => ?_)
  · simp at h
    have hk0 : k = 0 := by omega
    subst hk0
    simp
    refine XDraw.intro (by kernel_rfl) ?_
    simp
    refine ⟨⟨by omega, wrapu_n hp⟩, bit_u64 h1 hp, .of (by kernel_rfl), ?_⟩
    refine XDraw.intro (by kernel_rfl) ?_
    simp
    refine ⟨⟨by omega, wrapu_n hp⟩, bit_u64 h2 hp, .of (by kernel_rfl), 1, by omega, by omega, rfl, ?_⟩
    simp [dropV_is]
  · simp at h
    have hk1 : k = 1 := by omega
    subst hk1
    simp [XEndT]

theorem c_pneumaticref06_grows (x : Tsk) (c : Cube) (hx : x.Ok) (hc : c.Ok x.n) : Pure Tryz.prog GL 65 [x.av, c.av] (.p (.bool (growB2 x c))) := by
  refine Pure.of_walk (N := 28) Tryz.func65 rfl rfl rfl (by simp) (by first | (simp; done) | simp [*]) ?_
  have hn := hx.n
  obtain ⟨hc1, hc2⟩ := cube_small hc hn
  simp
  refine XLoop.go [2, 3] [0, 1] 0 [] (fun _ => []) (fun _ (k : Nat) => [(5, .p (.int .i64 k))]) (fun _ _ => []) (fun k => k ≤ x.n ∧ NoneF (growF x c) k) (fun k => x.n - k) 0 ⟨by omega, noneF_zero⟩ ?_ ?_
  · simp
    try decide
  rintro k ⟨hk, hq⟩
  simp
  refine xif_split (fun h => ?_) (fun h => ?_)
  · simp at h
    have hJ := c_joined1 c k (by omega) (by omega) (by omega)
    have hG := c_pneumaticref06_Good x (dropV c k) hx (dropV_ok hc)
    simp
    refine XDraw.intro (by kernel_rfl) ?_
    simp
    refine ⟨by omega, bit_one (shr_lt (by omega)), ?_⟩
    cases h1 : c.care.testBit k with
    | false =>
      simp
      exact ⟨.of (by kernel_rfl), wrap_i64 (by omega) (by omega), k + 1, ⟨by omega, noneF_next hq (by unfold growF; rw [h1]; rfl)⟩, by omega, by omega, by decide⟩
    | true =>
      simp
      refine xcall_given ?_
      simp
      refine ⟨_, hJ, ?_⟩
      refine xcall_pure hG ?_
      cases h2 : goodB x (dropV c k) with
      | false =>
        simp
        exact ⟨.of (by kernel_rfl), wrap_i64 (by omega) (by omega), k + 1, ⟨by omega, noneF_next hq (by unfold growF; rw [h1, h2]; rfl)⟩, by omega, by omega, by decide⟩
      | true =>
        rw [grow_true (i := k) h (by unfold growF; rw [h1, h2]; rfl)]
        simp
        refine ⟨.of (by kernel_rfl), ?_⟩
        simp [XEndT]
  · simp at h
    have hkn : k = x.n := by omega
    subst hkn
    rw [grow_false hq]
    simp [XEndT]

theorem acc_ok {ρ : List Nat} {s' : Store} {b k : Nat} {α : Type} {f : α → List AV} (hf : ∀ x, pureL (f x) = true) {D E : List α} (h : (ρ[b]?).bind (get s') = accB k (D.map f ++ E.map f)) : blkOk ρ s' b (accB k (D.map f ++ E.map f)) := by
  rw [← List.map_append] at h ⊢
  exact of_eq_true (blkOk_acc h (renR_map hf))
theorem acc_ok1 {ρ : List Nat} {s' : Store} {b k : Nat} {α : Type} {f : α → List AV} (hf : ∀ x, pureL (f x) = true) {D : List α} (h : (ρ[b]?).bind (get s') = accB k (D.map f)) : blkOk ρ s' b (accB k (D.map f)) :=
  of_eq_true (blkOk_acc h (renR_map hf))
def cubesR (n care k : Nat) : List Cube := ((List.range k).filter fun value => decide (andN value care = 0)).map fun value => ⟨care, value⟩
def cubesT (k : Nat) : List Cube := (List.range k).flatMap fun care => cubesR 0 care (care + 1)
theorem cubesR_snoc {n care k : Nat} : cubesR n care (k + 1) = cubesR n care k ++ (if andN k care = 0 then [⟨care, k⟩] else []) := by
  unfold cubesR
  rw [List.range_succ, List.filter_append, List.map_append]
  by_cases h : andN k care = 0 <;> simp [h]
theorem cubesT_snoc {k : Nat} : cubesT (k + 1) = cubesT k ++ cubesR 0 k (k + 1) := by unfold cubesT; rw [List.range_succ, List.flatMap_append]; simp
theorem cubesT_all {n : Nat} : cubesT (p2 n) = refCubes n := rfl
theorem cubesR_len {n care k : Nat} : (cubesR n care k).length ≤ k := by
  unfold cubesR
  rw [List.length_map]
  have := List.length_filter_le (fun value => decide (andN value care = 0)) (List.range k)
  simpa using this
theorem cubesT_len : ∀ {k : Nat}, k ≤ 16 → (cubesT k).length ≤ k * 16
  | 0, _ => by simp [cubesT]
  | k + 1, h => by
    have ih := @cubesT_len k (by omega)
    have := @cubesR_len 0 k (k + 1)
    rw [cubesT_snoc, List.length_append]
    omega

theorem c_pneumaticref06_Cubes (n : Nat) (hn : n ≤ 4) : Pure Tryz.prog GL 62 [.p (.int .i64 n)] (.p (.lst 2 ((refCubes n).map Cube.enc))) := by
  refine Pure.of_walk (N := 30) Tryz.func62 rfl rfl rfl (by simp) (by first | (simp; done) | simp [*]) ?_
  have h16 := p2_16 hn
  have hS := c_pneumaticref04_Size n (by omega)
  simp
  refine XLoop.go [0] [] 1 [0] (nms [3]) (fun nx (k : Nat) => [(3, .acc nx 2 (cubesT k).length), (4, .p (.int .i64 k))]) (fun nx k => [(nx, accB 2 ((cubesT k).map Cube.row))]) (fun k => k ≤ p2 n) (fun k => p2 n - k) 0 (by omega) ?_ ?_
  · simp [cubesT]
    try decide
  intro care hk
  have hl1 := @cubesT_len care (by omega)
  simp
  refine xcall_pure hS ?_
  simp
  refine xif_split (fun h => ?_) (fun h => ?_)
  · simp at h
    simp
    refine XLoop.gor [0, 4] [] [0] (fun st => [nameOf (slot st.t 3)]) (fun (j : Nat) => [(3, .acc 0 2 (cubesT care ++ cubesR 0 care j).length), (5, .p (.int .i64 j))]) (fun j => [(0, accB 2 ((cubesT care ++ cubesR 0 care j).map Cube.row))]) (fun j => j ≤ care + 1) (fun j => care + 1 - j) 0 (by omega) ?_ ?_
    · simp [cubesR]
      try decide
    intro j hj
    have hl2 := @cubesR_len 0 care j
    have hsn := @cubesR_snoc 0 care j
    simp
    refine xif_split (fun h2 => ?_) (fun h2 => ?_)
    · simp at h2
      simp
      refine ⟨bit_i64 (by omega) (by omega), ?_⟩
      by_cases h3 : andN j care = 0
      · rw [if_pos h3] at hsn
        simp [h3]
        refine ⟨wrapu_n (by omega), wrapu_n (by omega), by omega, wrap_i64 (by omega) (by omega), j + 1, by omega, by omega, ⟨by rw [hsn]; simp; omega, by omega⟩, acc_ok (fun _ => rfl) ?_⟩
        rw [hsn]
        simp
      · rw [if_neg h3] at hsn
        simp [h3]
        refine ⟨wrap_i64 (by omega) (by omega), j + 1, by omega, by omega, ⟨by rw [hsn]; simp, by omega⟩, acc_ok (fun _ => rfl) ?_⟩
        rw [hsn]
        simp
    · simp at h2
      have hj1 : j = care + 1 := by omega
      subst hj1
      have hcs := @cubesT_snoc care
      simp
      refine ⟨wrap_i64 (by omega) (by omega), care + 1, by omega, by omega, ?_⟩
      rw [hcs]
      exact ⟨⟨by simp, by omega⟩, acc_ok1 (fun _ => rfl) (by simp)⟩
  · simp at h
    have hcn : care = p2 n := by omega
    subst hcn
    rw [← cubesT_all]
    simp [XEndT]

def primB (x : Tsk) (c : Cube) : Bool := touchB x c && goodB x c && !growB2 x c
def primT (x : Tsk) (k : Nat) : List Cube := ((refCubes x.n).take k).filter (primB x)
theorem primT_snoc {x : Tsk} {k : Nat} {c : Cube} (e : (refCubes x.n)[k]? = some c) : primT x (k + 1) = primT x k ++ (if primB x c then [c] else []) := by
  unfold primT
  rw [take_snoc e, List.filter_append]
  cases h : primB x c <;> simp [h]
theorem primT_all {x : Tsk} : primT x (refCubes x.n).length = primesL x := by
  unfold primT
  rw [List.take_length]
  exact refPrimes_eq
theorem primT_len {x : Tsk} {k : Nat} : (primT x k).length ≤ k := by
  have h1 := List.length_filter_le (primB x) ((refCubes x.n).take k)
  have h2 := List.length_take_le k (refCubes x.n)
  unfold primT
  omega

theorem c_pneumaticref06_All (x : Tsk) (hx : x.Ok) : Pure Tryz.prog GL 31 [x.av] (.p (.lst 2 ((primesL x).map Cube.enc))) := by
  refine Pure.of_walk (N := 40) Tryz.func31 rfl rfl rfl (by simp) (by first | (simp; done) | simp [*]) ?_
  have hn := hx.n
  have h16 := p2_16 hn
  have hC := c_pneumaticref06_Cubes x.n hn
  have hcl : (refCubes x.n).length ≤ 256 := by
    rw [← cubesT_all]
    have := @cubesT_len (p2 x.n) h16
    omega
  have hall := @primT_all x
  simp
  refine xcall_pure hC ?_
  simp
  refine XLoop.go [1, 3] [0] 1 [1] (nms [4]) (fun nx (k : Nat) => [(4, .acc nx 2 (primT x k).length), (5, .p (.int .i64 k))]) (fun nx k => [(nx, accB 2 ((primT x k).map Cube.row))]) (fun k => k ≤ (refCubes x.n).length) (fun k => (refCubes x.n).length - k) 0 (by omega) ?_ ?_
  · simp [primT]
    try decide
  intro k hk
  have hpl := @primT_len x k
  simp
  refine xif_split (fun h => ?_) (fun h => ?_)
  · simp at h
    obtain ⟨c, e⟩ := get_lt h
    have hok : c.Ok x.n := cubesL_mem.1 (refCubes_eq ▸ List.mem_of_getElem? e)
    have hsn := primT_snoc e
    have hT := c_pneumaticref06_touches x c hx hok
    have hG := c_pneumaticref06_Good x c hx hok
    have hW := c_pneumaticref06_grows x c hx hok
    simp [h, e, -getElem?_pos, List.getElem?_cons_zero, List.getElem?_cons_succ]
    refine xcall_pure hT ?_
    cases h1 : touchB x c with
    | false =>
      have hp : primB x c = false := by unfold primB; rw [h1]; rfl
      rw [hp] at hsn
      simp
      exact ⟨wrap_i64 (by omega) (by omega), k + 1, by omega, by omega, ⟨by rw [hsn]; simp, by omega⟩, acc_ok1 (fun _ => rfl) (by rw [hsn]; simp)⟩
    | true =>
      simp
      refine xcall_pure hG ?_
      cases h2 : goodB x c with
      | false =>
        have hp : primB x c = false := by unfold primB; rw [h1, h2]; rfl
        rw [hp] at hsn
        simp
        exact ⟨wrap_i64 (by omega) (by omega), k + 1, by omega, by omega, ⟨by rw [hsn]; simp, by omega⟩, acc_ok1 (fun _ => rfl) (by rw [hsn]; simp)⟩
      | true =>
        simp
        refine xcall_pure hW ?_
        cases h3 : growB2 x c with
        | true =>
          have hp : primB x c = false := by unfold primB; rw [h1, h2, h3]; rfl
          rw [hp] at hsn
          simp
          exact ⟨wrap_i64 (by omega) (by omega), k + 1, by omega, by omega, ⟨by rw [hsn]; simp, by omega⟩, acc_ok1 (fun _ => rfl) (by rw [hsn]; simp)⟩
        | false =>
          have hp : primB x c = true := by unfold primB; rw [h1, h2, h3]; rfl
          rw [hp] at hsn
          simp
          exact ⟨by omega, wrap_i64 (by omega) (by omega), k + 1, by omega, by omega, ⟨by rw [hsn]; simp, by omega⟩, acc_ok1 (fun _ => rfl) (by rw [hsn]; simp)⟩
  · simp at h
    have hkn : k = (refCubes x.n).length := by omega
    subst hkn
    rw [← hall]
    simp [XEndT]

theorem c_pneumaticref08_Primes (n b : Nat) (hn : n ≤ 4) (hb : b < 2 ^ 64) : Pure Tryz.prog GL 15 [.agg [.p (.int .i64 n), .p (.int .u64 b)]] (.p (.lst 2 ((primesL ⟨n, b, 0⟩).map Cube.enc))) := by
  refine Pure.of_walk (N := 9) Tryz.func15 rfl rfl rfl (by simp) (by first | (simp; done) | simp [*]) ?_
  have hA := c_pneumaticref06_All ⟨n, b, 0⟩ ⟨hn, hb, Nat.two_pow_pos 64⟩
  simp
  refine xcall_pure hA ?_
  simp [XEndT]
end Go.Am
/- Contracts: tables and their cofactors; chapter 4. -/
namespace Go.Am
open Go Go.Proofs Go.Pn

theorem c_truth_sized (n : Int) : Pure Tryz.prog GL 66 [.p (.int .i64 n)] (.p (.bool (decide (0 ≤ n) && decide (n ≤ 6)))) := by
  refine Pure.of_walk (N := 9) Tryz.func66 rfl rfl rfl (by simp) (by first | (simp; done) | simp [*]) ?_
  by_cases h : 0 ≤ n
  · simp [h, XEndT]
  · simp [h, XEndT]
def whole (n : Nat) : Nat := p2 (p2 n) - 1
theorem p2p2 {n : Nat} (h : n ≤ 4) : 0 < p2 (p2 n) ∧ p2 (p2 n) ≤ 65536 := ⟨p2_pos, p2_le (p2_16 h)⟩
theorem andN_whole {b n : Nat} (h : b < p2 (p2 n)) : andN b (whole n) = 0 := andN_zero.2 fun i hi => by
  have := bit_lt h hi
  unfold whole
  rw [show p2 (p2 n) = 2 ^ p2 n from rfl, Nat.testBit_two_pow_sub_one]
  simpa using this
theorem c_truth_whole (n : Nat) (hn : n ≤ 4) : Pure Tryz.prog GL 67 [.p (.int .i64 n)] (.p (.int .u64 (whole n : Nat))) := by
  refine Pure.of_walk (N := 9) Tryz.func67 rfl rfl rfl (by simp) (by first | (simp; done) | simp [*]) ?_
  have h16 := p2_16 hn
  obtain ⟨h1, h2⟩ := p2p2 hn
  have h6 : ¬ (n : Int) = 6 := by omega
  have e : ((p2 (p2 n) : Nat) : Int) - 1 = ((whole n : Nat) : Int) := by unfold whole; omega
  simp [h6]
  refine ⟨⟨by omega, wrapu_n (by omega)⟩, ⟨by omega, wrapu_n (by omega)⟩, by rw [e]; exact wrapu_n (by unfold whole; omega), ?_⟩
  simp [XEndT, e]
theorem c_truth_Check (n b : Nat) (hn : n ≤ 4) (hb : b < p2 (p2 n)) : Pure Tryz.prog GL 32 [.agg [.p (.int .i64 n), .p (.int .u64 b)]] (.p (.int .i64 0)) := by
  refine Pure.of_walk (N := 16) Tryz.func32 rfl rfl rfl (by simp) (by first | (simp; done) | simp [*]) ?_
  have h1 := c_truth_sized (n : Int)
  have h2 := c_truth_whole n hn
  obtain ⟨h3, h4⟩ := p2p2 hn
  have e1 : (decide ((0 : Int) ≤ n) && decide ((n : Int) ≤ 6)) = true := by simp; omega
  rw [e1] at h1
  simp
  refine xcall_pure h1 ?_
  simp
  refine XDraw.intro (by kernel_rfl) ?_
  simp
  refine xcall_pure h2 ?_
  simp
  refine ⟨bit_u64 (by omega) (by unfold whole; omega), .of (by kernel_rfl), ?_⟩
  simp [andN_whole hb, XEndT]
theorem c_truth_points (n : Nat) : Pure Tryz.prog GL 127 [.p (.int .i64 n)] (.fn (.func 140) [.iptr 1 [[.int .i64 n]] 0 0]) := by
  refine Pure.of_walk (N := 4) Tryz.func127 rfl rfl rfl (by simp) (by first | (simp; done) | simp [*]) ?_
  simp [XEndT]

def stepB (p : Nat → Bool) (o k : Nat) : Nat := if p k then o ||| p2 k else o
def foldB (p : Nat → Bool) (k : Nat) : Nat := (List.range k).foldl (stepB p) 0
theorem foldB_zero {p : Nat → Bool} : foldB p 0 = 0 := rfl
theorem foldB_snoc {p : Nat → Bool} {k : Nat} : foldB p (k + 1) = stepB p (foldB p k) k := by unfold foldB; rw [List.range_succ, List.foldl_append]; rfl
theorem foldB_lt {p : Nat → Bool} : ∀ {k : Nat}, k ≤ 64 → foldB p k < 2 ^ 64
  | 0, _ => by rw [foldB_zero]; exact Nat.two_pow_pos 64
  | k + 1, h => by
    rw [foldB_snoc]
    unfold stepB
    split
    · exact Nat.or_lt_two_pow (foldB_lt (by omega)) (Nat.pow_lt_pow_right (by decide) (by omega))
    · exact foldB_lt (by omega)
def tabC (n o : Nat) : ABlk := .cells 2 [[.p (.int .i64 n), .p (.int .u64 o)]]
@[simp] theorem tabC_ren {ρ : List Nat} {n o : Nat} : renB ρ (tabC n o) = some (tabC n o) := rfl
def mdT (b0 b1 b2 : Nat) : Slots := [(3, .ptr b0 1 0 0), (4, .ptr b1 2 0 0), (5, .ptr b2 2 0 0)]
def RoundTm (i : LoopI) (X0 : ABlk) (n : Nat) (p : Nat → Bool) : Prop :=
  ∀ (o k : Nat) (s : Store) (nx b0 b1 b2 lam : Nat), k < p2 n → o < 2 ^ 64 → [lam, b0, b1, b2].Nodup → (∀ b ∈ [lam, b0, b1, b2], b < nx) → get s b0 = some X0 → get s b1 = some (tabC 0 0) → get s b2 = some (tabC n o) → get s lam = some (.loop i (mdT b0 b1 b2) none) →
    GivesY Tryz.prog GL i.l [.p (.int .i64 k)] s nx (.p (.bool true)) [lam, b0, b1, b2] [(lam, some (.loop i (mdT b0 b1 b2) none)), (b2, some (tabC n (stepB p o k)))] nx

theorem g_points1 {i : LoopI} {X0 : ABlk} {n : Nat} {p : Nat → Bool} (hn : n ≤ 4) (hY : RoundTm i X0 n p) (r0 : ∀ ρ, renB ρ X0 = some X0) (s : Store) (nx b0 b1 b2 lam : Nat) (hnd : [b0, b1, b2, lam].Nodup) (hlt : ∀ b ∈ [b0, b1, b2, lam], b < nx)
    (g0 : get s b0 = some X0) (g1 : get s b1 = some (tabC 0 0)) (g2 : get s b2 = some (tabC n 0)) (g3 : get s lam = some (.loop i (mdT b0 b1 b2) none)) :
    Gives Tryz.prog GL 140 [.fn (.yield i.l) [], .iptr 1 [[.int .i64 n]] 0 0] s nx (.tup []) [b0, b1, b2, lam] [(b2, some (tabC n (foldB p (p2 n))))] nx := by
  have h16 := p2_16 hn
  have hl0 : renB [b0, b1, b2, lam] (.loop i (mdT 0 1 2) none) = some (.loop i (mdT b0 b1 b2) none) := rfl
  have r9 : renB (List.range 4) (.loop i (mdT 0 1 2) none) = some (.loop i (mdT 0 1 2) none) := rfl
  have hL : LendsX [b0, b1, b2, lam] nx [(0, some X0), (1, some (tabC 0 0)), (2, some (tabC n 0)), (3, some (.loop i (mdT 0 1 2) none))] s [.fn (.yield i.l) [], .iptr 1 [[.int .i64 n]] 0 0] [.fn (.yield i.l) [], .iptr 1 [[.int .i64 n]] 0 0] := by
    refine ⟨?_, rfl, hnd, hlt, rfl⟩
    simp [-renB, g0, g1, g2, g3, r0, hl0]
  refine Gives.mk_walkK (N := 14) (args := [.fn (.yield i.l) [], .iptr 1 [[.int .i64 n]] 0 0]) [b0, b1, b2, lam] []
    [(0, some X0), (1, some (tabC 0 0)), (2, some (tabC n 0)), (3, some (.loop i (mdT 0 1 2) none))] [(2, some (tabC n (foldB p (p2 n))))] 4 0 (.tup []) (fun _ => []) (up1 := [(b2, some (tabC n (foldB p (p2 n))))]) Tryz.func140 rfl rfl rfl (by simp) rfl
    hL (by simp) rfl rfl (by simp) rfl ?_
  simp [-renB]
  refine ⟨⟨by omega, wrap_n (by omega)⟩, ?_⟩
  refine XLoop.go [0, 5] [0, 1] 0 [] (fun _ => []) (fun _ (k : Nat) => [(6, .p (.int .i64 k))]) (fun _ k => [(2, some (tabC n (foldB p k))), (3, some (.loop i (mdT 0 1 2) none))]) (fun k => k ≤ p2 n) (fun k => p2 n - k) 0 (by omega) ?_ ?_
  · simp [-renB, r0, r9, foldB_zero]
    try decide
  intro k hk
  have hlt := @foldB_lt p k (by omega)
  simp [-renB]
  refine xif_split (fun h => ?_) (fun h => ?_)
  · simp at h
    simp [-renB]
    refine xycall_gives (hY (foldB p k) k _ _ 0 1 2 3 h hlt (by simp) (by simp) rfl rfl rfl rfl) ?_
    simp [-renB]
    refine ⟨wrap_i64 (by omega) (by omega), k + 1, by omega, by omega, by omega, ⟨by rw [foldB_snoc]; simp, ?_⟩, by decide⟩
    simp [-renB, r0, r9]
  · simp at h
    have hkn : k = p2 n := by omega
    subst hkn
    simp [-renB, r0, r9]
    decide

theorem p2_u64 {k : Nat} (h : k < 64) : p2 k < 2 ^ 64 := Nat.pow_lt_pow_right (by decide) h
end Go.Am
/- Contracts: cubes of package implicant; chapter 6. -/
namespace Go.Am
open Go Go.Proofs Go.Pn

theorem c_implicant_all (n : Nat) (hn : n ≤ 4) : Pure Tryz.prog GL 112 [.p (.int .i64 n)] (.p (.int .u64 ((p2 n : Nat) - 1))) := by
  refine Pure.of_walk (N := 6) Tryz.func112 rfl rfl rfl (by simp) (by first | (simp; done) | simp [*]) ?_
  have h16 := p2_16 hn
  have hp := @p2_pos n
  simp
  refine ⟨⟨by omega, wrapu_n (by omega)⟩, ?_⟩
  have e : ((p2 n : Nat) : Int) - 1 = ((p2 n - 1 : Nat) : Int) := by omega
  refine ⟨by rw [e]; exact wrapu_n (by omega), ?_⟩
  simp [XEndT]
theorem c_implicant_has (c : Cube) (k : Nat) (hk : k < 2 ^ 62) (h1 : c.care < 2 ^ 64) : Pure Tryz.prog GL 142 [c.av, .p (.int .i64 k)] (.p (.bool (c.has k))) := by
  refine Pure.of_walk (N := 13) Tryz.func142 rfl rfl rfl (by simp) (by first | (simp; done) | simp [*]) ?_
  simp
  refine ⟨wrapu_n (by omega), bit_u64 (by omega) h1, ?_⟩
  simp [XEndT, Cube.has]
  exact Int.ofNat_inj
theorem ptsN_fold {n : Nat} {c : Cube} : foldB c.has (p2 n) = ptsN n c := rfl
theorem ptsN_lt {n : Nat} {c : Cube} (hn : n ≤ 4) : ptsN n c < 2 ^ 64 := by
  have h16 := p2_16 hn
  rw [← ptsN_fold]
  exact foldB_lt (by omega)
theorem c_implicant_points (n : Nat) (c : Cube) (hn : n ≤ 4) (h1 : c.care < 2 ^ 64) : Pure Tryz.prog GL 129 [.p (.int .i64 n), c.av] (.p (.int .u64 (ptsN n c))) := by
  refine Pure.of_walk (N := 21) Tryz.func129 rfl rfl rfl (by simp) (by first | (simp; done) | simp [*]) ?_
  have h16 := p2_16 hn
  simp
  refine ⟨⟨by omega, wrap_n (by omega)⟩, ?_⟩
  refine XLoop.go [3, 8] [0] 0 [] (fun _ => []) (fun _ (k : Nat) => [(9, .p (.int .i64 k)), (5, .p (.int .u64 (foldB c.has k)))]) (fun _ _ => []) (fun k => k ≤ p2 n) (fun k => p2 n - k) 0 (by omega) ?_ ?_
  · simp [foldB_zero]
    try decide
  intro k hk
  have hlt := @foldB_lt c.has k (by omega)
  have hsn := @foldB_snoc c.has k
  simp
  refine xif_split (fun h => ?_) (fun h => ?_)
  · simp at h
    have hH := c_implicant_has c k (by omega) h1
    simp
    refine xcall_pure hH ?_
    cases hv : c.has k with
    | false =>
      have e : foldB c.has (k + 1) = foldB c.has k := by rw [hsn]; unfold stepB; rw [if_neg (by rw [hv]; exact Bool.false_ne_true)]
      simp
      refine ⟨wrap_i64 (by omega) (by omega), k + 1, by omega, by omega, by omega, by rw [e]⟩
    | true =>
      have e : foldB c.has (k + 1) = foldB c.has k ||| p2 k := by rw [hsn]; unfold stepB; rw [if_pos hv]
      simp
      refine ⟨⟨by omega, wrapu_n (p2_u64 (by omega))⟩, bit_u64 hlt (p2_u64 (by omega)), wrap_i64 (by omega) (by omega), k + 1, by omega, by omega, by omega, by rw [e]⟩
  · simp at h
    have hkn : k = p2 n := by omega
    subst hkn
    rw [ptsN_fold]
    simp [XEndT]
theorem or_u64 {a b : Nat} (ha : a < 2 ^ 64) (hb : b < 2 ^ 64) : a ||| b < 2 ^ 64 := Nat.or_lt_two_pow ha hb
theorem c_implicant_implies (x : Tsk) (c : Cube) (hx : x.Ok) (h1 : c.care < 2 ^ 64) : Pure Tryz.prog GL 130 [x.av, c.av] (.p (.bool (impB x c))) := by
  refine Pure.of_walk (N := 19) Tryz.func130 rfl rfl rfl (by simp) (by first | (simp; done) | simp [*]) ?_
  have hP := c_implicant_points x.n c hx.n h1
  have hp := @ptsN_lt x.n c hx.n
  simp
  refine XDraw.intro (by kernel_rfl) ?_
  simp
  refine xcall_pure hP ?_
  simp
  refine ⟨bit_u64 hx.on hx.free, bit_u64 hp (or_u64 hx.on hx.free), .of (by kernel_rfl), ?_⟩
  simp [XEndT, impB]
def widerF (x : Tsk) (c : Cube) (i : Nat) : Bool := !decide (dropV c i = c) && impB x (dropV c i)
theorem wider_true {x : Tsk} {c : Cube} {i : Nat} (h1 : i < x.n) (h2 : widerF x c i = true) : growsB x c = true :=
  List.any_eq_true.2 ⟨i, List.mem_range.2 h1, h2⟩
theorem wider_false {x : Tsk} {c : Cube} (h : NoneF (widerF x c) x.n) : growsB x c = false := by
  rw [Bool.eq_false_iff]
  intro ht
  obtain ⟨j, hj, h2⟩ := List.any_eq_true.1 ht
  have := h j (List.mem_range.1 hj)
  unfold widerF at this
  rw [this] at h2; cases h2
theorem drop_cond {c : Cube} {k : Nat} : (!decide (((andN c.care (p2 k) : Nat) : Int) = c.care) || !decide (((andN c.value (p2 k) : Nat) : Int) = c.value)) = !decide (dropV c k = c) := by
  rw [dropV_is]
  obtain ⟨a, b⟩ := c
  by_cases h1 : andN a (p2 k) = a <;> by_cases h2 : andN b (p2 k) = b <;> simp [h1, h2, Int.ofNat_inj]
theorem c_implicant_grows (x : Tsk) (c : Cube) (hx : x.Ok) (hc : c.Ok x.n) : Pure Tryz.prog GL 131 [x.av, c.av] (.p (.bool (growsB x c))) := by
  refine Pure.of_walk (N := 33) Tryz.func131 rfl rfl rfl (by simp) (by first | (simp; done) | simp [*]) ?_
  have hn := hx.n
  obtain ⟨hc1, hc2⟩ := cube_small hc hn
  simp
  refine XLoop.go [2, 3, 9] [0, 1] 0 [] (fun _ => []) (fun _ (k : Nat) => [(10, .p (.int .i64 k))]) (fun _ _ => []) (fun k => k ≤ x.n ∧ NoneF (widerF x c) k) (fun k => x.n - k) 0 ⟨by omega, noneF_zero⟩ ?_ ?_
  · simp
    try decide
  rintro k ⟨hk, hq⟩
  simp
  refine xif_split (fun h => ?_) (fun h => ?_)
  · simp at h
    have hp : p2 k < 2 ^ 64 := p2_u64 (by omega)
    have hd := dropV_ok (i := k) hc
    obtain ⟨hd1, hd2⟩ := cube_small hd hn
    have hI := c_implicant_implies x (dropV c k) hx (by omega)
    simp
    refine XDraw.intro (by kernel_rfl) ?_
    simp
    refine ⟨⟨by omega, wrapu_n hp⟩, bit_u64 (by omega) hp, ⟨by omega, wrapu_n hp⟩, bit_u64 (by omega) hp, .of (by kernel_rfl), ?_⟩
    rw [drop_cond]
    cases h1 : decide (dropV c k = c) with
    | true =>
      simp
      exact ⟨wrap_i64 (by omega) (by omega), k + 1, ⟨by omega, noneF_next hq (by unfold widerF; rw [h1]; rfl)⟩, by omega, by omega, by decide⟩
    | false =>
      simp
      refine xcall_pure hI ?_
      cases h2 : impB x (dropV c k) with
      | false =>
        simp
        exact ⟨wrap_i64 (by omega) (by omega), k + 1, ⟨by omega, noneF_next hq (by unfold widerF; rw [h1, h2]; rfl)⟩, by omega, by omega, by decide⟩
      | true =>
        rw [wider_true (i := k) h (by unfold widerF; rw [h1, h2]; rfl)]
        simp [XEndT]
  · simp at h
    have hkn : k = x.n := by omega
    subst hkn
    rw [wider_false hq]
    simp [XEndT]
theorem c_implicant_cubes (n : Nat) : Pure Tryz.prog GL 128 [.p (.int .i64 n)] (.fn (.func 141) [.iptr 1 [[.int .i64 n]] 0 0]) := by
  refine Pure.of_walk (N := 4) Tryz.func128 rfl rfl rfl (by simp) (by first | (simp; done) | simp [*]) ?_
  simp [XEndT]
end Go.Am
/- Contracts: prime implicants of package implicant; chapter 6. -/
namespace Go.Am
open Go Go.Proofs Go.Pn

def cellB : ABlk → Nat
  | .cells _ [[x]] => nameOf x
  | _ => 0
@[simp] def cellNm (b : Nat) (st : St) : Nat := match get st.s b with | some x => cellB x | none => 0
def cubesU (n care : Nat) : List Cube := (List.range care).flatMap fun c => cubesR n c (p2 n)
theorem cubesU_snoc {n k : Nat} : cubesU n (k + 1) = cubesU n k ++ cubesR n k (p2 n) := by unfold cubesU; rw [List.range_succ, List.flatMap_append]; simp
theorem cubesU_all {n : Nat} : cubesU n (p2 n) = cubesL n := rfl
theorem cubesU_len {n : Nat} (hn : n ≤ 4) : ∀ {k : Nat}, k ≤ 16 → (cubesU n k).length ≤ k * 16
  | 0, _ => by simp [cubesU]
  | k + 1, h => by
    have ih := @cubesU_len n hn k (by omega)
    have := @cubesR_len n k (p2 n)
    have := p2_16 hn
    rw [cubesU_snoc, List.length_append]
    omega
def takenU (p : Cube → Bool) (n k j : Nat) : List Cube := (cubesU n k ++ cubesR n k j).filter p
theorem takenU_zero {p : Cube → Bool} {n : Nat} : takenU p n 0 0 = [] := rfl
theorem takenU_row {p : Cube → Bool} {n k : Nat} : takenU p n (k + 1) 0 = takenU p n k (p2 n) := by
  unfold takenU
  rw [cubesU_snoc, show cubesR n (k + 1) 0 = [] from rfl, List.append_nil]
theorem takenU_all {p : Cube → Bool} {n : Nat} : takenU p n (p2 n) 0 = (cubesL n).filter p := by
  unfold takenU
  rw [cubesU_all, show cubesR n (p2 n) 0 = [] from rfl, List.append_nil]
theorem takenU_no {p : Cube → Bool} {n k j : Nat} (h : ¬ andN j k = 0) : takenU p n k (j + 1) = takenU p n k j := by
  unfold takenU
  rw [cubesR_snoc, if_neg h, List.append_nil]
theorem takenU_skip {p : Cube → Bool} {n k j : Nat} (h : andN j k = 0) (hp : p ⟨k, j⟩ = false) : takenU p n k (j + 1) = takenU p n k j := by
  unfold takenU
  rw [cubesR_snoc, if_pos h, ← List.append_assoc, List.filter_append _ [_]]
  simp [hp]
theorem takenU_take {p : Cube → Bool} {n k j : Nat} (h : andN j k = 0) (hp : p ⟨k, j⟩ = true) : takenU p n k (j + 1) = takenU p n k j ++ [⟨k, j⟩] := by
  unfold takenU
  rw [cubesR_snoc, if_pos h, ← List.append_assoc, List.filter_append _ [_]]
  simp [hp]
theorem takenU_len {p : Cube → Bool} {n k j : Nat} (hn : n ≤ 4) (hk : k ≤ 16) (hj : j ≤ 16) : (takenU p n k j).length ≤ 272 := by
  have h1 := List.length_filter_le p (cubesU n k ++ cubesR n k j)
  have h2 := cubesU_len hn hk
  have h3 := @cubesR_len n k j
  unfold takenU
  rw [List.length_append] at h1
  omega

def prT (b0 b1 : Nat) : Slots := [(1, .ptr b0 4 0 0), (3, .ptr b1 1 0 0)]
def outB (b2 : Nat) (l : List Cube) : ABlk := .cells 1 [[.acc b2 2 l.length]]
@[simp] theorem cellB_out {b : Nat} {l : List Cube} : cellB (outB b l) = b := rfl
theorem outB_nil {ρ : List Nat} {b : Nat} (h : ρ[b]? = some b) : (withSome (renB ρ (outB b [])) fun z => wknB (.cells 1 [[.nils]]) z) := by
  unfold outB
  simp [h]
theorem renS_out {b0 b1 lam nx : Nat} {L : List Cube} : renS (namesOf [b0, b1, lam] nx 1) [(1, some (outB 3 L)), (3, accB 2 (L.map Cube.row))] = some [(b1, some (outB nx L)), (nx, accB 2 (L.map Cube.row))] := by
  by_cases h : L = []
  · subst h; rfl
  · have e : accB 2 (L.map Cube.row) = some (.cells 2 (L.map Cube.row)) := by simp [accB, h]
    have e2 : ∀ ρ, renR ρ (L.map Cube.row) = some (L.map Cube.row) := fun ρ => renR_map fun x => rfl
    rw [e]
    have e3 : renB [b0, b1, lam, nx] (.cells 2 (L.map Cube.row)) = some (.cells 2 (L.map Cube.row)) := by show (renR _ _).map _ = _; rw [e2]; rfl
    have e4 : renB [b0, b1, lam, nx] (outB 3 L) = some (outB nx L) := rfl
    simp [-renB, renS, e3, e4, namesOf]
theorem acc_same {ρ : List Nat} {L : List Cube} : (match accB 2 (L.map Cube.row) with
    | some y => withSome (renB ρ y) fun y' => accB 2 (L.map Cube.row) = some y'
    | none => True) := by
  by_cases h : L = []
  · subst h; exact trivial
  · have e : accB 2 (L.map Cube.row) = some (.cells 2 (L.map Cube.row)) := by simp [accB, h]
    have e3 : renB ρ (.cells 2 (L.map Cube.row)) = some (.cells 2 (L.map Cube.row)) := by show (renR _ _).map _ = _; rw [renR_map fun x => rfl]; rfl
    rw [e]
    simp [-renB, e3]
def RoundC0 (i : LoopI) (X0 : ABlk) (n : Nat) (p : Cube → Bool) : Prop :=
  ∀ (l : List Cube) (c : Cube) (s : Store) (nx b0 b1 b2 lam : Nat), c.Ok n → p c = false → [lam, b0, b1, b2].Nodup → (∀ b ∈ [lam, b0, b1, b2], b < nx) → get s b0 = some X0 → get s b1 = some (outB b2 l) → get s b2 = accB 2 (l.map Cube.row) → get s lam = some (.loop i (prT b0 b1) none) →
    GivesY Tryz.prog GL i.l [c.av] s nx (.p (.bool true)) [lam, b0, b1, b2] [(lam, some (.loop i (prT b0 b1) none))] nx
def RoundC1 (i : LoopI) (X0 : ABlk) (n : Nat) (p : Cube → Bool) : Prop :=
  ∀ (l : List Cube) (c : Cube) (s : Store) (nx b0 b1 b2 lam : Nat), c.Ok n → p c = true → l.length ≤ 272 → [lam, b0, b1, b2].Nodup → (∀ b ∈ [lam, b0, b1, b2], b < nx) → get s b0 = some X0 → get s b1 = some (outB b2 l) → get s b2 = accB 2 (l.map Cube.row) → get s lam = some (.loop i (prT b0 b1) none) →
    GivesY Tryz.prog GL i.l [c.av] s nx (.p (.bool true)) [lam, b0, b1, b2] [(lam, some (.loop i (prT b0 b1) none)), (b1, some (outB nx (l ++ [c]))), (nx, accB 2 ((l ++ [c]).map Cube.row)), (b2, none)] (nx + 1)

theorem g_cubes1 {i : LoopI} {X0 : ABlk} {n : Nat} {p : Cube → Bool} (hn : n ≤ 4) (h0 : RoundC0 i X0 n p) (h1 : RoundC1 i X0 n p) (r0 : ∀ ρ, renB ρ X0 = some X0) (s : Store) (nx b0 b1 lam : Nat) (hnd : [b0, b1, lam].Nodup) (hlt : ∀ b ∈ [b0, b1, lam], b < nx)
    (g0 : get s b0 = some X0) (g1 : get s b1 = some (.cells 1 [[.nils]])) (g3 : get s lam = some (.loop i (prT b0 b1) none)) :
    Gives Tryz.prog GL 141 [.fn (.yield i.l) [], .iptr 1 [[.int .i64 n]] 0 0] s nx (.tup []) [b0, b1, lam] [(b1, some (outB nx ((cubesL n).filter p))), (nx, accB 2 (((cubesL n).filter p).map Cube.row))] (nx + 1) := by
  have h16 := p2_16 hn
  have hA := c_implicant_all n hn
  have hl0 : renB [b0, b1, lam] (.loop i (prT 0 1) none) = some (.loop i (prT b0 b1) none) := rfl
  have e3 : ∀ (c : Nat) (l : List Cube), renB (List.range 3 ++ [c]) (outB 3 l) = some (outB c l) := fun c l => rfl
  have e9 : ∀ c : Nat, renB (List.range 3 ++ [c]) (.loop i (prT 0 1) none) = some (.loop i (prT 0 1) none) := fun c => rfl
  have f3 : ∀ (c : Nat) (l : List Cube), renB [0, 1, 2, c] (outB 3 l) = some (outB c l) := fun c l => rfl
  have f9 : ∀ c : Nat, renB [0, 1, 2, c] (.loop i (prT 0 1) none) = some (.loop i (prT 0 1) none) := fun c => rfl
  have hL : LendsX [b0, b1, lam] nx [(0, some X0), (1, some (.cells 1 [[.nils]])), (2, some (.loop i (prT 0 1) none))] s [.fn (.yield i.l) [], .iptr 1 [[.int .i64 n]] 0 0] [.fn (.yield i.l) [], .iptr 1 [[.int .i64 n]] 0 0] := by
    refine ⟨?_, rfl, hnd, hlt, rfl⟩
    simp [-renB, g0, g1, g3, r0, hl0]
    try exact rfl
  refine Gives.mk_walkK (N := 31) (args := [.fn (.yield i.l) [], .iptr 1 [[.int .i64 n]] 0 0]) [b0, b1, lam] []
    [(0, some X0), (1, some (.cells 1 [[.nils]])), (2, some (.loop i (prT 0 1) none))] [(1, some (outB 3 ((cubesL n).filter p))), (3, accB 2 (((cubesL n).filter p).map Cube.row))] 3 1 (.tup []) (fun st => [cellNm 1 st]) (up1 := [(b1, some (outB nx ((cubesL n).filter p))), (nx, accB 2 (((cubesL n).filter p).map Cube.row))]) Tryz.func141 rfl rfl rfl (by simp) rfl
    hL (by simp) rfl ?_ (by simp) rfl ?_
  · exact renS_out
  simp [-renB]
  refine xcall_pure hA ?_
  simp [-renB]
  refine ⟨wrapu_n (by omega), ?_⟩
  refine XLoop.go [0, 1, 7] [0, 2] 1 [3] (fun st => [cellNm 1 st]) (fun _ (k : Nat) => [(8, .p (.int .u64 k))]) (fun _ k => [(1, some (outB 3 (takenU p n k 0))), (3, accB 2 ((takenU p n k 0).map Cube.row))]) (fun k => k ≤ p2 n) (fun k => p2 n - k) 0 (by omega) ?_ ?_
  · simp [-renB, r0, takenU_zero, e9]
    exact ⟨outB_nil rfl, by decide⟩
  intro k hk
  simp [-renB]
  refine xif_split (fun h => ?_) (fun h => ?_)
  · simp at h
    simp [-renB]
    refine xcall_pure hA ?_
    simp [-renB]
    refine ⟨wrapu_n (by omega), ?_⟩
    refine XLoop.gor [0, 1, 3, 7, 8, 13] [0, 2] [0, 1, 2, 3] (fun st => [0, 1, 2, cellNm 1 st]) (fun (j : Nat) => [(14, .p (.int .u64 j))]) (fun j => [(1, some (outB 3 (takenU p n k j))), (3, accB 2 ((takenU p n k j).map Cube.row))]) (fun j => j ≤ p2 n) (fun j => p2 n - j) 0 (by omega) ?_ ?_
    · simp [-renB, r0, f3, f9]
      rfl
    intro j hj
    have hlen := @takenU_len p n k j hn (by omega) (by omega)
    simp [-renB]
    refine xif_split (fun h2 => ?_) (fun h2 => ?_)
    · simp at h2
      simp [-renB]
      refine ⟨bit_u64 (by omega) (by omega), ?_⟩
      by_cases h3 : andN j k = 0
      · have hok : Cube.Ok n ⟨k, j⟩ := ⟨h, andN_zero.1 h3⟩
        simp [-renB, h3]
        cases hp : p ⟨k, j⟩ with
        | false =>
          refine xycall_gives (h0 (takenU p n k j) ⟨k, j⟩ _ _ 0 1 3 2 hok hp (by simp) (by simp) rfl rfl ?_ rfl) ?_
          · simp
          simp [-renB, r0, f3, f9]
          refine ⟨of_eq_true (wrap_u64 (by omega) (by omega)), j + 1, by omega, by omega, by omega, ⟨by rw [takenU_skip h3 hp]; simp, acc_ok1 (fun _ => rfl) (by rw [takenU_skip h3 hp]; simp)⟩, rfl⟩
        | true =>
          refine xycall_gives (h1 (takenU p n k j) ⟨k, j⟩ _ _ 0 1 3 2 hok hp hlen (by simp) (by simp) rfl rfl ?_ rfl) ?_
          · simp
          simp [-renB, r0, f3, f9]
          refine ⟨of_eq_true (wrap_u64 (by omega) (by omega)), j + 1, by omega, by omega, by omega, ⟨by rw [takenU_take h3 hp]; simp, ?_⟩, rfl⟩
          rw [show List.map Cube.row (takenU p n k j) ++ [[AV.p (PV.int IntKind.u64 ↑k), AV.p (PV.int IntKind.u64 ↑j)]] = (takenU p n k (j + 1)).map Cube.row by rw [takenU_take h3 hp]; simp]
          exact acc_ok1 (fun _ => rfl) (by simp)
      · simp [-renB, h3, r0, f3, f9]
        refine ⟨of_eq_true (wrap_u64 (by omega) (by omega)), j + 1, by omega, by omega, by omega, ⟨by rw [takenU_no h3]; simp, acc_ok1 (fun _ => rfl) (by rw [takenU_no h3]; simp)⟩, rfl⟩
    · simp at h2
      have hjn : j = p2 n := by omega
      subst hjn
      simp [-renB, r0, e3, e9]
      refine ⟨of_eq_true (wrap_u64 (by omega) (by omega)), k + 1, by omega, by omega, by omega, ⟨by rw [takenU_row]; simp, acc_ok1 (fun _ => rfl) (by rw [takenU_row]; rfl)⟩, by decide⟩
  · simp at h
    have hkn : k = p2 n := by omega
    subst hkn
    rw [← takenU_all]
    simp [-renB, r0, e3, e9]
    exact ⟨acc_same, by decide⟩
end Go.Am
/- Contracts: the prime implicants of package implicant, as a list; chapter 6. -/
namespace Go.Am
open Go Go.Proofs Go.Pn

def primF (x : Tsk) (c : Cube) : Bool := hitsB x c && impB x c && !growsB x c
theorem primF_all {x : Tsk} : (cubesL x.n).filter (primF x) = primesL x := rfl
def tskB (x : Tsk) : ABlk := .cells 4 [[.p (.int .i64 x.n), .p (.int .u64 x.on), .p (.int .i64 x.n), .p (.int .u64 x.free)]]
theorem lends_pr {x : Tsk} {s : Store} {b0 b1 b2 : Nat} {l : List Cube} (g0 : get s b0 = some (tskB x)) (g1 : get s b1 = some (outB b2 l)) (g2 : get s b2 = accB 2 (l.map Cube.row)) :
    lendsOk [b0, b1, b2] s [(0, some (tskB x)), (1, some (outB 2 l)), (2, accB 2 (l.map Cube.row))] := by
  have e0 : renB [b0, b1, b2] (tskB x) = some (tskB x) := rfl
  have e1 : renB [b0, b1, b2] (outB 2 l) = some (outB b2 l) := rfl
  by_cases h : l = []
  · subst h
    simp [-renB, g0, g1, e0, e1]
  · have e : accB 2 (l.map Cube.row) = some (.cells 2 (l.map Cube.row)) := by simp [accB, h]
    have e3 : renB [b0, b1, b2] (.cells 2 (l.map Cube.row)) = some (.cells 2 (l.map Cube.row)) := by show (renR _ _).map _ = _; rw [renR_map fun x => rfl]; rfl
    rw [e] at g2 ⊢
    simp [-renB, g0, g1, g2, e0, e1, e3]
theorem lend_all {x : Tsk} {s : Store} {b0 b1 b2 : Nat} {l : List Cube} (g2 : get s b2 = accB 2 (l.map Cube.row)) :
    ∀ b b', [b0, b1, b2][b]? = some b' → get s b' ≠ none → ∃ y, get [(0, some (tskB x)), (1, some (outB 2 l)), (2, accB 2 (l.map Cube.row))] b = some y := by
  intro b b' hb hg
  match b, hb with
  | 0, _ => exact ⟨_, rfl⟩
  | 1, _ => exact ⟨_, rfl⟩
  | 2, hb =>
    simp at hb
    subst hb
    rw [g2] at hg
    exact Option.ne_none_iff_exists'.1 hg
theorem hits_cond {x : Tsk} {c : Cube} : (!decide (ptsN x.n c &&& x.on = 0)) = hitsB x c := by
  unfold hitsB
  by_cases h : ptsN x.n c &&& x.on = 0 <;> simp [h]
theorem out_same {x : Tsk} {l : List Cube} {r0 r1 : List AV} {st : St} (h : st.s = [(3, some (.cells 2 [r0])), (3, some (.cells 2 [r1])), (0, some (tskB x)), (1, some (outB 2 l)), (2, accB 2 (l.map Cube.row))]) :
    outOk (List.range 3 ++ []) st.s [] ([] ++ ([].map (·, none) ++ [(0, some (tskB x)), (1, some (outB 2 l)), (2, accB 2 (l.map Cube.row))])) ∧ (List.range 3 ++ []).Nodup ∧ (List.range 3 ++ ([] : List Nat)).length ≤ 3 + 0 := by
  have e0 : renB [0, 1, 2] (tskB x) = some (tskB x) := rfl
  have e1 : renB [0, 1, 2] (outB 2 l) = some (outB 2 l) := rfl
  refine ⟨?_, by decide, by decide⟩
  rw [h]
  rw [show List.range 3 ++ [] = [0, 1, 2] from rfl]
  simp [-renB, e0, e1]
  exact acc_same
def SortC : Prop := ∀ (l : List Cube) (s : Store) (nx b : Nat), get s b = accB 2 (l.map Cube.row) → l.length < 1000 → b < nx → (l.Pairwise fun a c => a.care < c.care ∨ a.care = c.care ∧ a.value < c.value) → Gives Tryz.prog GL 132 [.acc b 2 l.length, .fn (.func 133) []] s nx (.tup []) [b] [(b, accB 2 (l.map Cube.row))] nx
theorem cubes_asc {n : Nat} : (cubesL n).Pairwise fun a c => a.care < c.care ∨ a.care = c.care ∧ a.value < c.value := by
  unfold cubesL
  refine List.pairwise_flatMap.2 ⟨fun care _ => ?_, ?_⟩
  · refine List.pairwise_map.2 ((List.pairwise_lt_range.filter _).imp fun h => .inr ⟨rfl, h⟩)
  · refine List.pairwise_lt_range.imp fun {a b} h u hu v hv => ?_
    obtain ⟨x, _, rfl⟩ := List.mem_map.1 hu
    obtain ⟨y, _, rfl⟩ := List.mem_map.1 hv
    exact .inl h
theorem cubesL_len {n : Nat} (hn : n ≤ 4) : (cubesL n).length ≤ 256 := by
  have := cubesU_len hn (p2_16 hn)
  have := p2_16 hn
  rw [← cubesU_all]
  omega
theorem c_primesS (hS : SortC) (x : Tsk) (hx : x.Ok) : Pure Tryz.prog GL 107 [x.av] (.p (.lst 2 ((primesL x).map Cube.enc))) := by
  have hC := c_implicant_cubes x.n
  refine Pure.of_walk (N := 38) Tryz.func107 rfl rfl rfl (by simp) rfl ?_
  simp
  refine xcall_pure hC ?_
  simp
  refine XRange.intro [1, 3] Tryz.func141 rfl rfl fun l0 fn => ?_
  refine ⟨_, _, _, _, none, g_cubes1 (i := ⟨l0, 38, fn, #[9], _, _⟩) (X0 := tskB x) (p := primF x) hx.n
    ?_ ?_ (fun _ => rfl) _ _ 0 1 2 (by simp) (by simp) rfl rfl rfl, rfl, ?_⟩
  · intro l c s nx b0 b1 b2 lam hok hp hnd hlt g0 g1 g2 g3
    have hnd2 : [b0, b1, b2].Nodup := (List.nodup_cons.1 hnd).2
    have hlt2 : ∀ b ∈ [b0, b1, b2], b < nx := fun b hb => hlt b (List.mem_cons_of_mem _ hb)
    refine GivesY.of_walkA (σ := [b0, b1, b2]) (t0 := prT 0 1) (args := [c.av]) (free := []) (m := 3) (x := 0) (j := none)
      (s0 := [(0, some (tskB x)), (1, some (outB 2 l)), (2, accB 2 (l.map Cube.row))])
      (s1 := [])
      (fun _ => []) rfl ⟨?_, ?_, hnd2, hlt2, rfl⟩ g3 (List.nodup_cons.1 hnd).1 (hlt lam (by simp)) rfl rfl (by simp) (by simp) rfl ?_
    · exact lends_pr g0 g1 g2
    · exact lend_all g2
    · obtain ⟨hc1, hc2⟩ := cube_small hok hx.n
      have hP := c_implicant_points x.n c hx.n (by omega)
      have hI := c_implicant_implies x c hx (by omega)
      have hG := c_implicant_grows x c hx hok
      simp [-renB, roundSlots, prT, tskB]
      refine XDraw.intro (by kernel_rfl) ?_
      simp [-renB]
      refine xcall_pure hP ?_
      simp [-renB]
      refine ⟨bit_u64 (ptsN_lt hx.n) hx.on, ?_⟩
      rw [hits_cond]
      unfold primF at hp
      cases h1 : hitsB x c with
      | false =>
        simp [-renB]
        refine ⟨.of (by kernel_rfl), XEndYL.of ⟨rfl, ?_⟩⟩
        exact out_same rfl
      | true =>
        simp [-renB]
        refine xcall_pure hI ?_
        cases h2 : impB x c with
        | false =>
          simp [-renB]
          refine ⟨.of (by kernel_rfl), XEndYL.of ⟨rfl, ?_⟩⟩
          exact out_same rfl
        | true =>
          simp [-renB]
          refine xcall_pure hG ?_
          cases h3 : growsB x c with
          | false => rw [h1, h2, h3] at hp; cases hp
          | true =>
            simp [-renB]
            refine ⟨.of (by kernel_rfl), XEndYL.of ⟨rfl, ?_⟩⟩
            exact out_same rfl
  · intro l c s nx b0 b1 b2 lam hok hp hlen hnd hlt g0 g1 g2 g3
    have hnd2 : [b0, b1, b2].Nodup := (List.nodup_cons.1 hnd).2
    have hlt2 : ∀ b ∈ [b0, b1, b2], b < nx := fun b hb => hlt b (List.mem_cons_of_mem _ hb)
    refine GivesY.of_walkA (σ := [b0, b1, b2]) (t0 := prT 0 1) (args := [c.av]) (free := [2]) (m := 3) (x := 1) (j := none)
      (s0 := [(0, some (tskB x)), (1, some (outB 2 l)), (2, accB 2 (l.map Cube.row))])
      (s1 := [(1, some (outB 3 (l ++ [c]))), (3, accB 2 ((l ++ [c]).map Cube.row))])
      (fun st => [cellNm 1 st]) rfl ⟨lends_pr g0 g1 g2, lend_all g2, hnd2, hlt2, rfl⟩ g3 (List.nodup_cons.1 hnd).1 (hlt lam (by simp)) rfl rfl (by simp) (by simp) renS_out ?_
    obtain ⟨hc1, hc2⟩ := cube_small hok hx.n
    have hP := c_implicant_points x.n c hx.n (by omega)
    have hI := c_implicant_implies x c hx (by omega)
    have hG := c_implicant_grows x c hx hok
    unfold primF at hp
    simp only [Bool.and_eq_true, Bool.not_eq_true'] at hp
    obtain ⟨⟨h1, h2⟩, h3⟩ := hp
    rw [h2] at hI
    rw [h3] at hG
    simp [-renB, roundSlots, prT, tskB]
    refine XDraw.intro (by kernel_rfl) ?_
    simp [-renB]
    refine xcall_pure hP ?_
    simp [-renB]
    refine ⟨bit_u64 (ptsN_lt hx.n) hx.on, ?_⟩
    rw [hits_cond, h1]
    simp [-renB]
    refine xcall_pure hI ?_
    simp [-renB]
    refine xcall_pure hG ?_
    simp [-renB, outB]
    refine ⟨.of (by kernel_rfl), ?_⟩
    refine ⟨by omega, XEndYL.of ⟨rfl, ?_⟩⟩
    have em : List.map Cube.row l ++ [[AV.p (PV.int IntKind.u64 ↑c.care), AV.p (PV.int IntKind.u64 ↑c.value)]] = (l ++ [c]).map Cube.row := by simp
    rw [em]
    have ea : accB 2 ((l ++ [c]).map Cube.row) = some (.cells 2 ((l ++ [c]).map Cube.row)) := by simp [accB]
    rw [ea]
    have e0 : renB [0, 1, 2, 5] (tskB x) = some (tskB x) := rfl
    have e1 : renB [0, 1, 2, 5] (.cells 1 [[.acc 3 2 (l.length + 1)]]) = some (.cells 1 [[.acc 5 2 (l.length + 1)]]) := rfl
    have e3 : renB [0, 1, 2, 5] (.cells 2 ((l ++ [c]).map Cube.row)) = some (.cells 2 ((l ++ [c]).map Cube.row)) := by show (renR _ _).map _ = _; rw [renR_map fun x => rfl]; rfl
    refine ⟨?_, show [0, 1, 2, 5].Nodup by decide, show [0, 1, 2, 5].length ≤ 4 by decide⟩
    show outOk [0, 1, 2, 5] _ _ _
    have et : (some (ABlk.cells 4 [[AV.p (PV.int .i64 x.n), .p (.int .u64 x.on), .p (.int .i64 x.n), .p (.int .u64 x.free)]])) = some (tskB x) := rfl
    rw [et]
    simp [-renB, e0, e1, e3, -List.map_append]
  · have hlen := List.length_filter_le (primF x) (cubesL x.n)
    have hl2 := cubesL_len hx.n
    have hasc : ((cubesL x.n).filter (primF x)).Pairwise fun a c => a.care < c.care ∨ a.care = c.care ∧ a.value < c.value := cubes_asc.filter _
    simp [afterJump, outB]
    refine xcall_gives (hS _ _ _ 3 ?_ (by omega) (by omega) hasc) ?_
    · simp
    simp [XEndT, primF_all]
end Go.Am
