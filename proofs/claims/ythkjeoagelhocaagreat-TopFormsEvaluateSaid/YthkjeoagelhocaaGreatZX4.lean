/- Lemmas and contracts for the proof of a statement of this seat. -/
import Derived.Test.YthkjeoagelhocaaGreatZX3
import Derived.Test.YthkjeoagelhocaaGreatZC1
set_option linter.unusedVariables false
set_option linter.unusedSimpArgs false
/- Contracts: package minimal, its work and small functions; chapter 7. -/
namespace Go.Am
open Go Go.Proofs Go.Pn

structure Tsk.Right (x : Tsk) : Prop where
  n : x.n ≤ 4
  on : x.on < p2 (p2 x.n)
  free : x.free < p2 (p2 x.n)
  apart : x.on &&& x.free = 0
theorem Tsk.Right.ok {x : Tsk} (h : x.Right) : x.Ok := by
  obtain ⟨h4, h5⟩ := p2p2 h.n
  have := h.on
  have := h.free
  exact ⟨h.n, by omega, by omega⟩
@[simp] def Tsk.work (x : Tsk) : AV := .iptr 5 [[.int .i64 x.n, .int .u64 x.on, .int .i64 x.n, .int .u64 x.free, .lst 2 ((primesL x).map Cube.enc)]] 0 0
theorem c_minimal_of (x : Tsk) (hx : x.Right) : Pure Tryz.prog GL 88 [x.av] (.tup [x.work, .p (.int .i64 0)]) := by
  refine Pure.of_walk (N := 24) Tryz.func88 rfl rfl rfl (by simp) (by first | (simp; done) | simp [*]) ?_
  have hA := c_implicant_CheckTask x hx.n hx.on hx.free hx.apart
  have hB := c_implicant_Primes x hx.n hx.on hx.free hx.apart
  simp
  refine xcall_pure hA ?_
  simp
  refine xcall_pure hB ?_
  simp [XEndT]
theorem c_minimal_few (x : Tsk) (hx : x.Right) : Pure Tryz.prog GL 50 [x.av] (.tup [x.work, .p (.int .i64 0)]) := by
  refine Pure.of_walk (N := 21) Tryz.func50 rfl rfl rfl (by simp) (by first | (simp; done) | simp [*]) ?_
  have hA := c_minimal_of x hx
  have hn : ¬ (4 : Int) < x.n := by have := hx.n; omega
  simp
  refine xcall_pure hA ?_
  simp [hn, XEndT]
  first | exact rfl | simp [toV]
theorem c_minimal_in (c : Cube) (k : Nat) (hk : k < 2 ^ 62) (h1 : c.care < 2 ^ 64) : Pure Tryz.prog GL 138 [c.av, .p (.int .i64 k)] (.p (.bool (c.has k))) := by
  refine Pure.of_walk (N := 13) Tryz.func138 rfl rfl rfl (by simp) (by first | (simp; done) | simp [*]) ?_
  simp
  refine ⟨wrapu_n (by omega), bit_u64 (by omega) h1, ?_⟩
  simp [XEndT, Cube.has]
  exact Int.ofNat_inj
theorem c_minimal_work_on (x : Tsk) (k : Nat) (hx : x.Right) (hk : k < p2 x.n) : Pure Tryz.prog GL 135 [x.work, .p (.int .i64 k)] (.p (.bool (x.on.testBit k))) := by
  refine Pure.of_walk (N := 30) Tryz.func135 rfl rfl rfl (by simp) (by first | (simp; done) | simp [*]) ?_
  have h16 := p2_16 hx.n
  have hn := hx.n
  have ho := hx.ok.on
  have h0 : (0 : Int) ≤ k := by omega
  simp [h0]
  refine ⟨⟨by omega, wrap_n (by omega)⟩, ?_⟩
  simp [hk]
  refine ⟨by omega, bit_one (shr_lt ho), ?_⟩
  simp [XEndT]
@[simp] def nrow (k : Nat) : List AV := [.p (.int .i64 k)]
@[simp] def nenc (k : Nat) : List PV := [.int .i64 k]
def ownT (P : List Cube) (k j : Nat) : List Nat := (List.range j).filter fun i => (atC P i).has k
theorem ownT_zero {P : List Cube} {k : Nat} : ownT P k 0 = [] := rfl
theorem ownT_snoc {P : List Cube} {k j : Nat} : ownT P k (j + 1) = ownT P k j ++ (if (atC P j).has k then [j] else []) := by
  unfold ownT
  rw [List.range_succ, List.filter_append]
  by_cases h : (atC P j).has k <;> simp [h]
theorem ownT_len {P : List Cube} {k j : Nat} : (ownT P k j).length ≤ j := by
  unfold ownT
  have := List.length_filter_le (fun i => (atC P i).has k) (List.range j)
  simpa using this
theorem primesL_len {x : Tsk} (hn : x.n ≤ 4) : (primesL x).length ≤ 256 := by
  have h1 := cubesL_len hn
  have h2 := List.length_filter_le (primF x) (cubesL x.n)
  rw [primF_all] at h2
  omega
theorem atC_eq {P : List Cube} {j : Nat} {c : Cube} (e : P[j]? = some c) : atC P j = c := by
  unfold atC; rw [List.getD_eq_getElem?_getD, e]; rfl
theorem primes_small {x : Tsk} (hn : x.n ≤ 4) {c : Cube} {j : Nat} (e : (primesL x)[j]? = some c) : c.care < 16 ∧ c.value < 16 :=
  cube_small (primesL_mem.1 (List.mem_of_getElem? e)).ok hn
theorem c_minimal_work_owners (x : Tsk) (k : Nat) (hx : x.Right) (hk : k < p2 x.n) : Pure Tryz.prog GL 119 [x.work, .p (.int .i64 k)] (.p (.lst 1 ((ownT (primesL x) k (primesL x).length).map nenc))) := by
  refine Pure.of_walk (N := 27) Tryz.func119 rfl rfl rfl (by simp) (by first | (simp; done) | simp [*]) ?_
  have h16 := p2_16 hx.n
  have hpl := primesL_len hx.n
  have hsm := @primes_small x hx.n
  simp
  generalize primesL x = P at hpl hsm
  refine XLoop.go [1, 11, 12] [] 1 [0] (nms [5]) (fun nx (j : Nat) => [(5, .acc nx 1 (ownT P k j).length), (13, .p (.int .i64 j))]) (fun nx j => [(nx, accB 1 ((ownT P k j).map nrow))]) (fun j => j ≤ P.length) (fun j => P.length - j) 0 (by omega) ?_ ?_
  · simp [ownT_zero]
    try decide
  intro j hj
  have hlen := @ownT_len P k j
  have hsn := @ownT_snoc P k j
  simp
  refine xif_split (fun h => ?_) (fun h => ?_)
  · simp at h
    obtain ⟨c, e⟩ := get_lt h
    obtain ⟨hc1, hc2⟩ := hsm e
    have hI := c_minimal_in c k (by omega) (by omega)
    rw [atC_eq e] at hsn
    simp [h, e, -getElem?_pos, List.getElem?_cons_zero, List.getElem?_cons_succ]
    refine xcall_pure hI ?_
    cases h1 : c.has k with
    | false =>
      rw [h1, if_neg Bool.false_ne_true, List.append_nil] at hsn
      simp
      refine ⟨wrap_i64 (by omega) (by omega), j + 1, by omega, by omega, ⟨by rw [hsn], by omega⟩, ?_⟩
      rw [hsn]
      exact acc_ok1 (fun _ => rfl) (by simp)
    | true =>
      rw [h1, if_pos rfl] at hsn
      simp
      refine ⟨by omega, wrap_i64 (by omega) (by omega), j + 1, by omega, by omega, ⟨by rw [hsn]; simp, by omega⟩, ?_⟩
      rw [hsn]
      exact acc_ok1 (fun _ => rfl) (by simp)
  · simp at h
    have hkn : j = P.length := by omega
    subst hkn
    simp [XEndT]
end Go.Am
/- Contracts: package minimal: open, with, literals, chosen; chapter 7. -/
namespace Go.Am
open Go Go.Proofs Go.Pn

def nav (k : Nat) : AV := .p (.int .i64 k)
@[simp] theorem pure_nav {L : List Nat} : pureL (L.map nav) = true := by
  induction L with
  | nil => rfl
  | cons a L ih => rw [List.map_cons]; unfold pureL; rw [ih]; rfl
@[simp] theorem ren_nav {ρ : List Nat} {L : List Nat} : renL ρ (L.map nav) = some (L.map nav) := renL_pure pure_nav
def openT (x : Tsk) (L : List Nat) (j : Nat) : List Nat := (List.range j).filter fun k => x.on.testBit k && decide (L.getD k 0 = 0)
theorem openT_zero {x : Tsk} {L : List Nat} : openT x L 0 = [] := rfl
theorem openT_snoc {x : Tsk} {L : List Nat} {j : Nat} : openT x L (j + 1) = openT x L j ++ (if (x.on.testBit j && decide (L.getD j 0 = 0)) then [j] else []) := by
  unfold openT
  rw [List.range_succ, List.filter_append]
  congr 1
  rw [List.filter_cons]
  rfl
theorem openT_len {x : Tsk} {L : List Nat} {j : Nat} : (openT x L j).length ≤ j := by
  unfold openT
  have := List.length_filter_le (fun k => x.on.testBit k && decide (L.getD k 0 = 0)) (List.range j)
  simpa using this
theorem c_minimal_work_open (x : Tsk) (L : List Nat) (hx : x.Right) (hL : L.length = 64) : Pure Tryz.prog GL 116 [x.work, .agg (L.map nav)] (.p (.lst 1 ((openT x L (p2 x.n)).map nenc))) := by
  refine Pure.of_walk (N := 32) Tryz.func116 rfl rfl rfl (by simp) (by first | (simp; done) | simp [*]) ?_
  have h16 := p2_16 hx.n
  have hn := hx.n
  simp [hL]
  refine ⟨⟨by omega, wrap_n (by omega)⟩, ?_⟩
  refine XLoop.go [0, 3, 13] [0] 1 [1] (nms [5]) (fun nx (j : Nat) => [(5, .acc nx 1 (openT x L j).length), (14, .p (.int .i64 j))]) (fun nx j => [(nx, accB 1 ((openT x L j).map nrow))]) (fun j => j ≤ p2 x.n) (fun j => p2 x.n - j) 0 (by omega) ?_ ?_
  · simp [openT_zero, hL]
    try decide
  intro j hj
  have hlen := @openT_len x L j
  have hsn := @openT_snoc x L j
  simp
  refine xif_split (fun h => ?_) (fun h => ?_)
  · simp at h
    have hO := c_minimal_work_on x j hx h
    have hjL : j < L.length := by omega
    have ev0 : L.getD j 0 = L[j] := by rw [List.getD_eq_getElem?_getD, List.getElem?_eq_getElem hjL]; rfl
    have hj64 : (j : Int) < 64 := by omega
    rw [ev0] at hsn
    simp
    refine xcall_pure hO ?_
    cases h1 : x.on.testBit j with
    | false =>
      rw [h1, Bool.false_and, if_neg Bool.false_ne_true, List.append_nil] at hsn
      simp
      refine ⟨wrap_i64 (by omega) (by omega), j + 1, by omega, by omega, ⟨by rw [hsn], by omega⟩, ?_⟩
      rw [hsn]
      exact acc_ok1 (fun _ => rfl) (by simp)
    | true =>
      simp [hL, hj64, nav, List.getElem?_eq_getElem hjL]
      rw [h1, Bool.true_and] at hsn
      by_cases h2 : L[j] = 0
      · rw [if_pos (by rw [h2]; rfl)] at hsn
        simp [h2]
        refine ⟨by omega, wrap_i64 (by omega) (by omega), j + 1, by omega, by omega, ⟨by rw [hsn]; simp, by omega⟩, ?_⟩
        rw [hsn]
        exact acc_ok1 (fun _ => rfl) (by simp)
      · rw [if_neg (by simpa using h2)] at hsn
        rw [List.append_nil] at hsn
        simp [h2]
        refine ⟨wrap_i64 (by omega) (by omega), j + 1, by omega, by omega, ⟨by rw [hsn], by omega⟩, ?_⟩
        rw [hsn]
        exact acc_ok1 (fun _ => rfl) (by simp)
  · simp at h
    have hkn : j = p2 x.n := by omega
    subst hkn
    simp [XEndT]
end Go.Am
/- Contracts: package minimal: with; chapter 7. -/
namespace Go.Am
open Go Go.Proofs Go.Pn

def withT (c : Cube) (L : List Nat) : Nat → List Nat
  | 0 => L
  | j + 1 => if c.has j then (withT c L j).set j ((withT c L j).getD j 0 + 1) else withT c L j
theorem withT_zero {c : Cube} {L : List Nat} : withT c L 0 = L := rfl
theorem withT_snoc {c : Cube} {L : List Nat} {j : Nat} : withT c L (j + 1) = if c.has j then (withT c L j).set j ((withT c L j).getD j 0 + 1) else withT c L j := rfl
theorem withT_len {c : Cube} {L : List Nat} : ∀ {j : Nat}, (withT c L j).length = L.length
  | 0 => rfl
  | j + 1 => by
    rw [withT_snoc]
    split
    · rw [List.length_set]; exact withT_len
    · exact withT_len
theorem withT_far {c : Cube} {L : List Nat} {i : Nat} : ∀ {j : Nat}, j ≤ i → (withT c L j).getD i 0 = L.getD i 0
  | 0, _ => rfl
  | j + 1, h => by
    rw [withT_snoc]
    split
    · rw [List.getD_eq_getElem?_getD, List.getElem?_set_ne (by omega), ← List.getD_eq_getElem?_getD]; exact withT_far (by omega)
    · exact withT_far (by omega)
theorem toL_nav {s : Store} : ∀ {L : List Nat}, toL s (L.map nav) (L.map nav)
  | [] => by simp [toL]
  | v :: L => by
    rw [List.map_cons]
    unfold toL
    exact ⟨by unfold nav; simp, toL_nav⟩
def zeros : List Nat := List.replicate 64 0
theorem zeros_len : zeros.length = 64 := rfl
theorem c_minimal_work_with (x : Tsk) (L : List Nat) (c : Cube) (hx : x.Right) (hL : L.length = 64) (hb : ∀ k, L.getD k 0 < 1000000) (h1 : c.care < 2 ^ 64) : Pure Tryz.prog GL 120 [x.work, .agg (L.map nav), c.av] (.agg ((withT c L (p2 x.n)).map nav)) := by
  refine Pure.of_walk (N := 28) Tryz.func120 rfl rfl rfl (by simp) (by first | (simp; done) | simp [*]) ?_
  have h16 := p2_16 hx.n
  have hn := hx.n
  simp [hL]
  refine ⟨⟨by omega, wrap_n (by omega)⟩, ?_⟩
  refine XLoop.go [4, 5, 6, 14] [1] 0 [] (fun _ => []) (fun _ (j : Nat) => [(15, .p (.int .i64 j))]) (fun _ j => [(0, some (.cells 64 [(withT c L j).map nav])), (2, some (.cells 64 [zeros.map nav]))]) (fun j => j ≤ p2 x.n) (fun j => p2 x.n - j) 0 (by omega) ?_ ?_
  · simp [withT_zero, hL]
    exact wknL_refl (zeros.map nav)
  intro j hj
  have hwl := @withT_len c L j
  have hfar := @withT_far c L j j (Nat.le_refl _)
  have hsn := @withT_snoc c L j
  have hbj := hb j
  rw [hL] at hwl
  simp
  refine xif_split (fun h => ?_) (fun h => ?_)
  · simp at h
    have hI := c_minimal_in c j (by omega) h1
    have hjL : j < (withT c L j).length := by omega
    have hj64 : (j : Int) < 64 := by omega
    simp
    refine xcall_pure hI ?_
    cases h1 : c.has j with
    | false =>
      rw [h1, if_neg Bool.false_ne_true] at hsn
      simp
      exact ⟨wrap_i64 (by omega) (by omega), j + 1, by omega, by omega, by omega, by rw [hsn]; exact wknL_refl _⟩
    | true =>
      rw [h1, if_pos rfl, hfar] at hsn
      have hv : (withT c L j)[j] = L.getD j 0 := by rw [← hfar, List.getD_eq_getElem?_getD, List.getElem?_eq_getElem hjL]; rfl
      simp [hwl, hj64, nav, List.getElem?_eq_getElem hjL]
      rw [hv]
      refine ⟨wrap_i64 (by omega) (by omega), by omega, wrap_i64 (by omega) (by omega), j + 1, by omega, by omega, by omega, ?_⟩
      rw [hsn, List.map_set]
      exact wknL_refl _
  · simp at h
    have hkn : j = p2 x.n := by omega
    subst hkn
    simp [XEndT, hwl]
    rw [List.take_of_length_le (by rw [List.length_map, hwl]; exact Nat.le_refl _)]
    rw [lay_whole _ _ (by rw [List.length_map, List.length_map, hwl]; rfl)]
    refine ⟨by rw [zeros_len]; exact Nat.le_refl _, fun a ha => ?_, _, ⟨rfl, by rw [List.length_map, hwl]; exact Nat.le_refl _⟩, ?_⟩
    · obtain ⟨v, _, rfl⟩ := List.mem_map.1 ha
      rfl
    · rw [List.take_of_length_le (by rw [List.length_map, hwl]; exact Nat.le_refl _)]
      simp
      exact toL_nav
end Go.Am
/- Contracts: package minimal: chosen, literals; chapter 7. -/
namespace Go.Am
open Go Go.Proofs Go.Pn

def chosenT (P : List Cube) (l : List Nat) (j : Nat) : List Cube := (l.take j).map (atC P)
theorem chosenT_zero {P : List Cube} {l : List Nat} : chosenT P l 0 = [] := rfl
theorem chosenT_snoc {P : List Cube} {l : List Nat} {j i : Nat} (e : l[j]? = some i) : chosenT P l (j + 1) = chosenT P l j ++ [atC P i] := by
  unfold chosenT
  rw [take_snoc e, List.map_append]; rfl
theorem chosenT_all {P : List Cube} {l : List Nat} : chosenT P l l.length = l.map (atC P) := by unfold chosenT; rw [List.take_length]
theorem chosenT_len {P : List Cube} {l : List Nat} {j : Nat} : (chosenT P l j).length ≤ j := by
  unfold chosenT
  rw [List.length_map]
  exact List.length_take_le ..
theorem c_minimal_work_chosen (x : Tsk) (l : List Nat) (hx : x.Right) (hl : l.length ≤ 256) (hm : ∀ i ∈ l, i < (primesL x).length) : Pure Tryz.prog GL 51 [x.work, .p (.lst 1 (l.map nenc))] (.p (.lst 2 ((l.map (atC (primesL x))).map Cube.enc))) := by
  refine Pure.of_walk (N := 26) Tryz.func51 rfl rfl rfl (by simp) (by first | (simp; done) | simp [*]) ?_
  simp
  generalize primesL x = P at hm
  refine XLoop.go [0, 8, 9] [] 1 [0] (nms [5]) (fun nx (j : Nat) => [(5, .acc nx 2 (chosenT P l j).length), (10, .p (.int .i64 j))]) (fun nx j => [(nx, accB 2 ((chosenT P l j).map Cube.row))]) (fun j => j ≤ l.length) (fun j => l.length - j) 0 (by omega) ?_ ?_
  · simp [chosenT_zero]
    try decide
  intro j hj
  have hlen := @chosenT_len P l j
  simp
  refine xif_split (fun h => ?_) (fun h => ?_)
  · simp at h
    obtain ⟨i, e⟩ := get_lt h
    have hsn := chosenT_snoc (P := P) e
    obtain ⟨c, e2⟩ := get_lt (hm i (List.mem_of_getElem? e))
    have hiP := hm i (List.mem_of_getElem? e)
    rw [atC_eq e2] at hsn
    simp [h, e, e2, hiP, -getElem?_pos, List.getElem?_cons_zero, List.getElem?_cons_succ]
    refine ⟨by omega, wrap_i64 (by omega) (by omega), j + 1, by omega, by omega, ⟨by rw [hsn]; simp, by omega⟩, ?_⟩
    rw [hsn]
    exact acc_ok1 (fun _ => rfl) (by simp)
  · simp at h
    have hkn : j = l.length := by omega
    subst hkn
    rw [← chosenT_all]
    simp [XEndT]
end Go.Am
/- Contracts: counting bits; chapter 7. -/
namespace Go.Am
open Go Go.Proofs Go.Pn

def onesN (a : Nat) : Nat := (List.range 4).countP fun i => a.testBit i
theorem c_math_bits_OnesCount64 (a : Nat) (h : a < 16) : Pure Tryz.prog GL 73 [.p (.int .u64 a)] (.p (.int .i64 (onesN a))) := by
  refine Pure.of_walk (N := 35) Tryz.func73 rfl rfl rfl (by simp) (by first | (simp; done) | simp [*]) ?_
  simp
  have hc : a = 0 ∨ a = 1 ∨ a = 2 ∨ a = 3 ∨ a = 4 ∨ a = 5 ∨ a = 6 ∨ a = 7 ∨ a = 8 ∨ a = 9 ∨ a = 10 ∨ a = 11 ∨ a = 12 ∨ a = 13 ∨ a = 14 ∨ a = 15 := by omega
  rcases hc with rfl | rfl | rfl | rfl | rfl | rfl | rfl | rfl | rfl | rfl | rfl | rfl | rfl | rfl | rfl | rfl
  all_goals repeat (refine ⟨by first | decide | (unfold bitR; decide), ?_⟩)
  all_goals simp [XEndT]
  all_goals decide
theorem c_math_bits_OnesCount (a : Nat) (h : a < 16) : Pure Tryz.prog GL 36 [.p (.int .u64 a)] (.p (.int .i64 (onesN a))) := by
  refine Pure.of_walk (N := 8) Tryz.func36 rfl rfl rfl (by simp) (by first | (simp; done) | simp [*]) ?_
  have hA := c_math_bits_OnesCount64 a h
  simp
  refine xcall_pure hA ?_
  simp [XEndT]
theorem onesN_le {a : Nat} : onesN a ≤ 4 := by
  unfold onesN
  have := List.countP_le_length (p := fun i => a.testBit i) (l := List.range 4)
  simpa using this
def litT (l : List Cube) (j : Nat) : Nat := ((l.take j).map fun c => onesN c.care).sum
theorem litT_zero {l : List Cube} : litT l 0 = 0 := rfl
theorem litT_snoc {l : List Cube} {j : Nat} {c : Cube} (e : l[j]? = some c) : litT l (j + 1) = litT l j + onesN c.care := by
  unfold litT
  rw [take_snoc e, List.map_append, List.sum_append]; rfl
theorem litT_le {l : List Cube} : ∀ {j : Nat}, litT l j ≤ j * 4
  | 0 => by rw [litT_zero]; exact Nat.zero_le _
  | j + 1 => by
    have ih := @litT_le l j
    by_cases h : j < l.length
    · rw [litT_snoc (List.getElem?_eq_getElem h)]
      have := @onesN_le l[j].care
      omega
    · have : litT l (j + 1) = litT l j := by unfold litT; rw [List.take_of_length_le (by omega), List.take_of_length_le (by omega)]
      omega
theorem c_minimal_literals (l : List Cube) (hl : l.length ≤ 1000) (hc : ∀ c ∈ l, c.care < 16) : Pure Tryz.prog GL 71 [.p (.lst 2 (l.map Cube.enc))] (.p (.int .i64 (litT l l.length))) := by
  refine Pure.of_walk (N := 19) Tryz.func71 rfl rfl rfl (by simp) (by first | (simp; done) | simp [*]) ?_
  simp
  refine XLoop.go [6, 7] [] 0 [] (fun _ => []) (fun _ (j : Nat) => [(3, .p (.int .i64 (litT l j))), (8, .p (.int .i64 j))]) (fun _ j => []) (fun j => j ≤ l.length) (fun j => l.length - j) 0 (by omega) ?_ ?_
  · simp [litT_zero]
    try decide
  intro j hj
  have hle := @litT_le l j
  simp
  refine xif_split (fun h => ?_) (fun h => ?_)
  · simp at h
    obtain ⟨c, e⟩ := get_lt h
    have hsn := litT_snoc e
    have hO := c_math_bits_OnesCount c.care (hc c (List.mem_of_getElem? e))
    have h4 := @onesN_le c.care
    simp [h, e, -getElem?_pos, List.getElem?_cons_zero, List.getElem?_cons_succ]
    refine xcall_pure hO ?_
    simp
    exact ⟨wrap_i64 (by omega) (by omega), wrap_i64 (by omega) (by omega), j + 1, by omega, by omega, by rw [hsn]; omega, by omega⟩
  · simp at h
    have hkn : j = l.length := by omega
    subst hkn
    simp [XEndT]
end Go.Am
/- Contracts: slices.Compare at ints; chapter 7. -/
namespace Go.Am
open Go Go.Proofs Go.Pn

def cmpLs : List Nat → List Nat → Int
  | [], [] => 0
  | [], _ :: _ => -1
  | _ :: _, [] => 1
  | x :: xs, y :: ys => if cmpI x y = 0 then cmpLs xs ys else cmpI x y
theorem cmpLs_step {a b : List Nat} {k : Nat} {x y : Nat} (e1 : a[k]? = some x) (e2 : b[k]? = some y) : cmpLs (a.drop k) (b.drop k) = if cmpI x y = 0 then cmpLs (a.drop (k + 1)) (b.drop (k + 1)) else cmpI x y := by
  obtain ⟨h1, rfl⟩ := List.getElem?_eq_some_iff.1 e1
  obtain ⟨h2, rfl⟩ := List.getElem?_eq_some_iff.1 e2
  rw [List.drop_eq_getElem_cons h1, List.drop_eq_getElem_cons h2]
  rfl
theorem cmpLs_longer {a b : List Nat} {k : Nat} (h1 : k < a.length) (h2 : b.length ≤ k) : cmpLs (a.drop k) (b.drop k) = 1 := by
  rw [List.drop_eq_getElem_cons h1, List.drop_of_length_le h2]
  rfl
theorem cmpLs_end {a b : List Nat} {k : Nat} (h1 : a.length ≤ k) (h2 : k ≤ b.length) (h3 : k = a.length) : cmpLs (a.drop k) (b.drop k) = if a.length < b.length then -1 else 0 := by
  rw [List.drop_of_length_le h1]
  by_cases h : a.length < b.length
  · rw [List.drop_eq_getElem_cons (by omega : k < b.length), if_pos h]; rfl
  · rw [List.drop_of_length_le (by omega), if_neg h]; rfl
theorem c_slices_Compare_int_int (a b : List Nat) (ha : a.length ≤ 1000) (hb : b.length ≤ 1000) : Pure Tryz.prog GL 114 [.p (.lst 1 (a.map nenc)), .p (.lst 1 (b.map nenc))] (.p (.int .i64 (cmpLs a b))) := by
  refine Pure.of_walk (N := 36) Tryz.func114 rfl rfl rfl (by simp) (by first | (simp; done) | simp [*]) ?_
  simp
  refine XLoop.go [0, 1, 9, 10] [] 0 [] (fun _ => []) (fun _ (j : Nat) => [(11, .p (.int .i64 j))]) (fun _ j => []) (fun j => j ≤ a.length ∧ j ≤ b.length ∧ cmpLs (a.drop j) (b.drop j) = cmpLs a b) (fun j => a.length - j) 0 ⟨by omega, by omega, rfl⟩ ?_ ?_
  · simp
    try decide
  rintro j ⟨hj, hjb, hq⟩
  simp
  refine xif_split (fun h => ?_) (fun h => ?_)
  · simp at h
    obtain ⟨x, e⟩ := get_lt h
    simp [h, e, -getElem?_pos, List.getElem?_cons_zero, List.getElem?_cons_succ]
    refine xif_split (fun h2 => ?_) (fun h2 => ?_)
    · simp at h2
      rw [← hq, cmpLs_longer h h2]
      simp [XEndT]
    · simp at h2
      obtain ⟨y, e2⟩ := get_lt h2
      have hst := cmpLs_step e e2
      have hC := c_cmp_Compare_int x y
      simp [h2, e2, -getElem?_pos, List.getElem?_cons_zero, List.getElem?_cons_succ]
      refine xcall_pure hC ?_
      by_cases h3 : cmpI x y = 0
      · rw [if_pos h3] at hst
        simp [h3]
        exact ⟨wrap_i64 (by omega) (by omega), j + 1, ⟨by omega, by omega, by rw [← hst]; exact hq⟩, by omega, by omega⟩
      · rw [if_neg h3] at hst
        rw [← hq, hst]
        simp [h3, XEndT]
  · simp at h
    have hkn : j = a.length := by omega
    have hen := cmpLs_end (a := a) (b := b) (k := j) (by omega) hjb hkn
    rw [← hq, hen]
    simp
    refine xif_split (fun h4 => ?_) (fun h4 => ?_)
    · simp at h4
      simp [XEndT, h4]
    · simp at h4
      have h5 : ¬ a.length < b.length := by omega
      simp [XEndT, h5]
end Go.Am
/- Contracts: package minimal: the better one of two covers; chapter 7. -/
namespace Go.Am
open Go Go.Proofs Go.Pn

def litI (x : Tsk) (l : List Nat) : Int := litT (l.map (atC (primesL x))) (l.map (atC (primesL x))).length
def betB (x : Tsk) (f : Bool) (l b : List Nat) : Bool := !f || decide (orI [cmpI (litI x l) (litI x b), cmpLs l b] < 0)
theorem g_better (x : Tsk) (f : Bool) (l b : List Nat) (hx : x.Right) (hl : l.length ≤ 256) (hm : ∀ i ∈ l, i < (primesL x).length) (hb : b.length ≤ 256) (hbm : ∀ i ∈ b, i < (primesL x).length)
    (s : Store) (nx bf bw bb : Nat) (hnd : [bf, bw, bb].Nodup) (hlt : ∀ b ∈ [bf, bw, bb], b < nx) (g0 : get s bf = some (.cells 1 [[.p (.bool f)]])) (g1 : get s bw = some (.cells 1 [[x.work]])) (g2 : get s bb = some (.cells 1 [[.p (.lst 1 (b.map nenc))]])) :
    Gives Tryz.prog GL 113 [.p (.lst 1 (l.map nenc)), .ptr bf 1 0 0, .ptr bw 1 0 0, .ptr bb 1 0 0] s nx (.p (.bool (betB x f l b))) [bf, bw, bb] [] nx := by
  have hL : LendsX [bf, bw, bb] nx [(0, some (.cells 1 [[.p (.bool f)]])), (1, some (.cells 1 [[x.work]])), (2, some (.cells 1 [[.p (.lst 1 (b.map nenc))]]))] s [.p (.lst 1 (l.map nenc)), .ptr 0 1 0 0, .ptr 1 1 0 0, .ptr 2 1 0 0] [.p (.lst 1 (l.map nenc)), .ptr bf 1 0 0, .ptr bw 1 0 0, .ptr bb 1 0 0] := by
    refine ⟨?_, rfl, hnd, hlt, rfl⟩
    simp [g0, g1, g2]
  refine Gives.mk_walkK (N := 25) (args := [.p (.lst 1 (l.map nenc)), .ptr 0 1 0 0, .ptr 1 1 0 0, .ptr 2 1 0 0]) [bf, bw, bb] []
    [(0, some (.cells 1 [[.p (.bool f)]])), (1, some (.cells 1 [[x.work]])), (2, some (.cells 1 [[.p (.lst 1 (b.map nenc))]]))] [] 3 0 (.p (.bool (betB x f l b))) (fun _ => []) (up1 := []) Tryz.func113 rfl rfl rfl (by simp) rfl
    hL (by simp) rfl rfl (by simp) rfl ?_
  have hc1 := c_minimal_work_chosen x l hx hl hm
  have hc2 := c_minimal_work_chosen x b hx hb hbm
  have hs := @primes_small x hx.n
  have hsm : ∀ q : List Nat, (∀ i ∈ q, i < (primesL x).length) → ∀ c ∈ q.map (atC (primesL x)), c.care < 16 := fun q hq c hc => by
    obtain ⟨i, hi, rfl⟩ := List.mem_map.1 hc
    have := hq i hi
    exact (hs (j := i) (by rw [List.getElem?_eq_getElem this]; exact congrArg some (atC_eq (List.getElem?_eq_getElem this)).symm)).1
  have hl1 := c_minimal_literals (l.map (atC (primesL x))) (by rw [List.length_map]; omega) (hsm l hm)
  have hl2 := c_minimal_literals (b.map (atC (primesL x))) (by rw [List.length_map]; omega) (hsm b hbm)
  rw [show ((litT (l.map (atC (primesL x))) (l.map (atC (primesL x))).length : Nat) : Int) = litI x l from rfl] at hl1
  rw [show ((litT (b.map (atC (primesL x))) (b.map (atC (primesL x))).length : Nat) : Int) = litI x b from rfl] at hl2
  clear hsm
  generalize l.map (atC (primesL x)) = cl at hc1 hl1
  generalize b.map (atC (primesL x)) = cb at hc2 hl2
  have hcc := c_cmp_Compare_int (litI x l) (litI x b)
  have hsc := c_slices_Compare_int_int l b (by omega) (by omega)
  have hor : Pure Tryz.prog GL 41 [.p (.lst 1 [[.int .i64 (cmpI (litI x l) (litI x b))], [.int .i64 (cmpLs l b)]])] (.p (.int .i64 (orI [cmpI (litI x l) (litI x b), cmpLs l b]))) := c_cmp_Or_int [cmpI (litI x l) (litI x b), cmpLs l b] (by simp)
  simp
  refine XDraw.intro (by kernel_rfl) ?_
  cases f with
  | false =>
    simp
    exact ⟨.of (by kernel_rfl), by unfold betB; rfl⟩
  | true =>
    simp
    refine xcall_pure hc1 ?_
    simp
    refine xcall_pure hl1 ?_
    simp
    refine xcall_pure hc2 ?_
    simp
    refine xcall_pure hl2 ?_
    simp
    refine xcall_pure hcc ?_
    simp
    refine xcall_pure hsc ?_
    simp
    refine xcall_given ?_
    simp
    refine ⟨_, hor, ?_⟩
    simp
    exact ⟨.of (by kernel_rfl), by unfold betB; rfl⟩
end Go.Am
/- Contracts: slices.Values at ints; chapter 7. -/
namespace Go.Am
open Go Go.Proofs Go.Pn

theorem c_ValsI (l : List Nat) : Pure Tryz.prog GL 118 [.p (.lst 1 (l.map nenc))] (.fn (.func 137) [.iptr 1 [[.lst 1 (l.map nenc)]] 0 0]) := by
  refine Pure.of_walk (N := 4) Tryz.func118 rfl rfl rfl (by simp) (by first | (simp; done) | simp [*]) ?_
  simp [XEndT]
end Go.Am
/- Contracts: slices.Values at ints, one by one; slices.AppendSeq; chapter 7. -/
namespace Go.Am
open Go Go.Proofs Go.Pn

def vaT (b0 : Nat) : Slots := [(2, .ptr b0 1 0 0)]
def outI (b1 : Nat) (l : List Nat) : ABlk := .cells 1 [[.acc b1 1 l.length]]
@[simp] theorem cellB_outI {b : Nat} {l : List Nat} : cellB (outI b l) = b := rfl
def RoundVals (i : LoopI) : Prop :=
  ∀ (l : List Nat) (v : Nat) (s : Store) (nx b0 b1 lam : Nat), l.length ≤ 1000 → [lam, b0, b1].Nodup → (∀ b ∈ [lam, b0, b1], b < nx) → get s b0 = some (outI b1 l) → get s b1 = accB 1 (l.map nrow) → get s lam = some (.loop i (vaT b0) none) →
    GivesY Tryz.prog GL i.l [.p (.int .i64 v)] s nx (.p (.bool true)) [lam, b0, b1] [(lam, some (.loop i (vaT b0) none)), (b0, some (outI nx (l ++ [v]))), (nx, accB 1 ((l ++ [v]).map nrow)), (b1, none)] (nx + 1)
theorem renS_outI {b0 lam nx : Nat} {L : List Nat} : renS (namesOf [b0, lam] nx 1) [(0, some (outI 2 L)), (2, accB 1 (L.map nrow))] = some [(b0, some (outI nx L)), (nx, accB 1 (L.map nrow))] := by
  by_cases h : L = []
  · subst h; rfl
  · have e : accB 1 (L.map nrow) = some (.cells 1 (L.map nrow)) := by simp [accB, h]
    have e2 : ∀ ρ, renR ρ (L.map nrow) = some (L.map nrow) := fun ρ => renR_map fun x => rfl
    rw [e]
    have e3 : renB [b0, lam, nx] (.cells 1 (L.map nrow)) = some (.cells 1 (L.map nrow)) := by show (renR _ _).map _ = _; rw [e2]; rfl
    have e4 : renB [b0, lam, nx] (outI 2 L) = some (outI nx L) := rfl
    simp [-renB, renS, e3, e4, namesOf]
theorem acc_sameI {ρ : List Nat} {L : List Nat} : (match accB 1 (L.map nrow) with
    | some y => withSome (renB ρ y) fun y' => accB 1 (L.map nrow) = some y'
    | none => True) := by
  by_cases h : L = []
  · subst h; exact trivial
  · have e : accB 1 (L.map nrow) = some (.cells 1 (L.map nrow)) := by simp [accB, h]
    have e3 : renB ρ (.cells 1 (L.map nrow)) = some (.cells 1 (L.map nrow)) := by show (renR _ _).map _ = _; rw [renR_map fun x => rfl]; rfl
    rw [e]
    simp [-renB, e3]
theorem outI_nil {ρ : List Nat} {b : Nat} (h : ρ[b]? = some b) : (withSome (renB ρ (outI b [])) fun z => wknB (.cells 1 [[.nils]]) z) := by
  unfold outI
  simp [h]
def tkN (l : List Nat) (k : Nat) : List Nat := l.take k
theorem tkN_zero {l : List Nat} : tkN l 0 = [] := rfl
theorem tkN_all {l : List Nat} : tkN l l.length = l := List.take_length
theorem tkN_len {l : List Nat} {k : Nat} : (tkN l k).length ≤ l.length := by unfold tkN; rw [List.length_take]; omega
theorem tkN_snoc {l : List Nat} {k v : Nat} (e : l[k]? = some v) : tkN l (k + 1) = tkN l k ++ [v] := take_snoc e
theorem g_vals1 {i : LoopI} (hY : RoundVals i) (l : List Nat) (hl : l.length ≤ 1000) (s : Store) (nx b0 lam : Nat) (hnd : [b0, lam].Nodup) (hlt : ∀ b ∈ [b0, lam], b < nx) (g0 : get s b0 = some (.cells 1 [[.nils]])) (g3 : get s lam = some (.loop i (vaT b0) none)) :
    Gives Tryz.prog GL 137 [.fn (.yield i.l) [], .iptr 1 [[.lst 1 (l.map nenc)]] 0 0] s nx (.tup []) [b0, lam] [(b0, some (outI nx l)), (nx, accB 1 (l.map nrow))] (nx + 1) := by
  have hl0 : renB [b0, lam] (.loop i (vaT 0) none) = some (.loop i (vaT b0) none) := rfl
  have e3 : ∀ (c : Nat) (l : List Nat), renB (List.range 2 ++ [c]) (outI 2 l) = some (outI c l) := fun c l => rfl
  have e9 : ∀ c : Nat, renB (List.range 2 ++ [c]) (.loop i (vaT 0) none) = some (.loop i (vaT 0) none) := fun c => rfl
  have hL : LendsX [b0, lam] nx [(0, some (.cells 1 [[.nils]])), (1, some (.loop i (vaT 0) none))] s [.fn (.yield i.l) [], .iptr 1 [[.lst 1 (l.map nenc)]] 0 0] [.fn (.yield i.l) [], .iptr 1 [[.lst 1 (l.map nenc)]] 0 0] := by
    refine ⟨?_, rfl, hnd, hlt, rfl⟩
    simp [-renB, g0, g3, hl0]
    try exact rfl
  refine Gives.mk_walkK (N := 16) (args := [.fn (.yield i.l) [], .iptr 1 [[.lst 1 (l.map nenc)]] 0 0]) [b0, lam] []
    [(0, some (.cells 1 [[.nils]])), (1, some (.loop i (vaT 0) none))] [(0, some (outI 2 l)), (2, accB 1 (l.map nrow))] 2 1 (.tup []) (fun st => [cellNm 0 st]) (up1 := [(b0, some (outI nx l)), (nx, accB 1 (l.map nrow))]) Tryz.func137 rfl rfl rfl (by simp) rfl
    hL (by simp) rfl renS_outI (by simp) rfl ?_
  simp [-renB]
  refine XLoop.go [0, 5, 6] [1] 1 [2] (fun st => [cellNm 0 st]) (fun _ (k : Nat) => [(7, .p (.int .i64 k))]) (fun _ k => [(0, some (outI 2 (tkN l k))), (2, accB 1 ((tkN l k).map nrow))]) (fun k => k ≤ l.length) (fun k => l.length - k) 0 (by omega) ?_ ?_
  · simp [-renB, e9, tkN_zero]
    exact ⟨outI_nil rfl, by decide⟩
  intro k hk
  simp [-renB]
  refine xif_split (fun h => ?_) (fun h => ?_)
  · simp at h
    obtain ⟨v, e⟩ := get_lt h
    have hln := @tkN_len l k
    have hsn := tkN_snoc e
    simp [h, e, -getElem?_pos, List.getElem?_cons_zero, List.getElem?_cons_succ]
    refine xycall_gives (hY (tkN l k) v _ _ 0 2 1 (by omega) (by simp) (by simp) rfl ?_ rfl) ?_
    · simp
    simp [-renB, e3, e9]
    refine ⟨wrap_i64 (by omega) (by omega), k + 1, by omega, by omega, by omega, ⟨by rw [hsn]; simp, ?_⟩, by decide⟩
    rw [show List.map nrow (tkN l k) ++ [[AV.p (PV.int IntKind.i64 ↑v)]] = (tkN l (k + 1)).map nrow by rw [hsn]; simp]
    exact acc_ok1 (fun _ => rfl) (by simp)
  · simp at h
    have hkn : k = l.length := by omega
    subst hkn
    rw [tkN_all]
    simp [-renB, e3, e9]
    exact ⟨acc_sameI, by decide⟩
end Go.Am
/- Renaming of cells and of loops' records. -/
namespace Go.Am
open Go Go.Proofs
theorem renB_cellsR {ρ : List Nat} {k : Nat} {rows : List (List AV)} : renB ρ (.cells k rows) = (renR ρ rows).map (.cells k) := rfl
end Go.Am
