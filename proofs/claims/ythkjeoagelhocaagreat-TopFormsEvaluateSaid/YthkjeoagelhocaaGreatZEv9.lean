/- TopFormsEvaluate: the program's function returns true. -/
import Derived.Test.YthkjeoagelhocaaGreatZX8
import Derived.Test.YthkjeoagelhocaaGreatZFcO
set_option linter.unusedVariables false
set_option linter.unusedSimpArgs false
namespace Go.Am
open Go Go.Proofs Go.Pn

theorem mem_ddT {l : List Int} {k : Nat} {x : Int} : x ∈ ddT l k ↔ ∃ i, i < k ∧ newAt l i = true ∧ l[i]?.getD 0 = x := by
  unfold ddT
  rw [List.mem_map]
  constructor
  · rintro ⟨i, hi, e⟩
    rw [List.mem_filter, List.mem_range] at hi
    exact ⟨i, hi.1, hi.2, e⟩
  · rintro ⟨i, h1, h2, e⟩
    exact ⟨i, List.mem_filter.2 ⟨List.mem_range.2 h1, h2⟩, e⟩
theorem mem_compI {l : List Int} {x : Int} : x ∈ compI l ↔ x ∈ l := by
  unfold compI
  rw [mem_ddT]
  constructor
  · rintro ⟨i, h1, _, e⟩
    rw [List.getElem?_eq_getElem h1] at e
    exact e ▸ List.getElem_mem h1
  · intro h
    have key : ∀ i, i < l.length → l[i]? = some x → ∃ j, j < l.length ∧ newAt l j = true ∧ l[j]?.getD 0 = x := by
      intro i
      induction i with
      | zero => exact fun h1 e => ⟨0, h1, rfl, by rw [e]; rfl⟩
      | succ i ih =>
        intro h1 e
        by_cases h2 : l[i + 1]? = l[i]?
        · exact ih (by omega) (by rw [← h2, e])
        · refine ⟨i + 1, h1, ?_, by rw [e]; rfl⟩
          unfold newAt
          rw [Nat.add_sub_cancel, decide_eq_true h2, Bool.or_true]
    obtain ⟨i, hi, e⟩ := List.getElem_of_mem h
    exact key i hi (by rw [List.getElem?_eq_getElem hi, e])
def usedN (l : List Nat) : List Nat := (compI (sortI (ints l))).map Int.toNat
theorem used_mem {l : List Nat} {v : Nat} : v ∈ usedN l ↔ v ∈ l := by
  unfold usedN
  rw [List.mem_map]
  have h : ∀ x : Int, x ∈ compI (sortI (ints l)) ↔ x ∈ ints l := fun x => by
    rw [mem_compI]
    exact (List.mergeSort_perm (ints l) (fun x y => decide (x ≤ y))).mem_iff
  constructor
  · rintro ⟨x, hx, e⟩
    obtain ⟨k, hk, rfl⟩ := List.mem_map.1 ((h x).1 hx)
    rw [← e]; exact hk
  · intro hv
    exact ⟨(v : Int), (h _).2 (List.mem_map.2 ⟨v, hv, rfl⟩), rfl⟩
theorem used_enc {l : List Nat} : (compI (sortI (ints l))).map Int.enc = (usedN l).map nenc := by
  unfold usedN
  rw [List.map_map]
  refine List.map_congr_left fun x hx => ?_
  rw [mem_compI] at hx
  obtain ⟨k, _, rfl⟩ := List.mem_map.1 ((List.mergeSort_perm (ints l) (fun x y => decide (x ≤ y))).mem_iff.1 hx)
  rfl
theorem used_len {l : List Nat} : (usedN l).length ≤ l.length := by
  unfold usedN
  rw [List.length_map]
  have h1 := @ddT_len (sortI (ints l)) (sortI (ints l)).length
  have h2 := @sortI_len (ints l)
  have h3 : (ints l).length = l.length := by unfold ints; rw [List.length_map]
  unfold compI
  omega
theorem c_tryBits_no (x : Ex) (n : Int) (hok : okX x) (h : n < 0 ∨ 3 < n ∨ chkE n x ≠ 0) : Pure Tryz.prog GL 5 [x.av, .p (.int .i64 n)] (.tup [.agg [.p (.int .i64 0), .p (.int .u64 0)], .p (.bool false)]) := by
  refine Pure.of_walk (N := 46) Tryz.func5 rfl rfl rfl (by simp) rfl ?_
  have hL := c_pneumaticref05_Light x hok
  have hC := c_pneumaticref05_Check x n hok
  by_cases h1 : n < 0
  · simp [h1, XEndT]
  by_cases h2 : 3 < n
  · simp [h1, h2, XEndT]
  have h3 : chkE n x ≠ 0 := by
    rcases h with h | h | h
    · exact absurd h h1
    · exact absurd h h2
    · exact h
  simp [h1, h2]
  refine xcall_pure hL ?_
  cases h4 : (decide (cntX 256 x ≤ 256) && deepX 16 x) with
  | false => simp [XEndT]
  | true =>
    simp
    refine xcall_pure hC ?_
    simp [h3, XEndT]
theorem c_tryBits_yes (x : Ex) (n : Nat) (hn : n ≤ 3) (hok : okX x) (h : chkE n x = 0) : Pure Tryz.prog GL 5 [x.av, .p (.int .i64 n)] (.tup [.agg [.p (.int .i64 n), .p (.int .u64 (tabX n x))], .p (.bool true)]) := by
  refine Pure.of_walk (N := 46) Tryz.func5 rfl rfl rfl (by simp) rfl ?_
  have hL := c_pneumaticref05_Light x hok
  have hC := c_pneumaticref05_Check x n hok
  have hR := chk_right hok h
  have hT := c_boolexp_Table x n (by omega) hR
  have hb : tabX n x < p2 (p2 n) := tabX_lt
  have h8 : p2 n ≤ 16 := p2_16 (by omega)
  have hb64 : tabX n x < 2 ^ 64 := Nat.lt_trans hb (p2_u64 (by omega))
  have hK := c_pneumaticref04_Check n (tabX n x) hb64
  have hE : tabE n (tabX n x) = 0 := by
    unfold tabE
    rw [if_neg (by omega), if_neg (by show ¬ p2 (p2 ((n : Int).toNat)) ≤ _; rw [show (n : Int).toNat = n from rfl]; omega)]
  have h1 : ¬ (n : Int) < 0 := by omega
  have h2 : ¬ 3 < (n : Int) := by omega
  have h4 : (decide (cntX 256 x ≤ 256) && deepX 16 x) = true := by
    cases h5 : (decide (cntX 256 x ≤ 256) && deepX 16 x) with
    | true => rfl
    | false =>
      unfold chkE at h
      rw [if_neg (by omega), h5, if_pos rfl] at h
      cases h
  rw [h4] at hL
  rw [h] at hC
  rw [hE] at hK
  simp [h1, h2]
  refine xcall_pure hL ?_
  simp
  refine xcall_pure hC ?_
  simp
  refine xcall_pure hT ?_
  simp
  refine XDraw.intro (by kernel_rfl) ?_
  simp
  refine xcall_pure hK ?_
  simp
  exact ⟨.of (by kernel_rfl), by simp [XEndT]⟩
set_option maxRecDepth 20000 in
theorem c_pneumatictop_TopFormsEvaluate (x : Ex) (n : Int) (hok : okX x) : Pure Tryz.prog GL 3 [x.av, .p (.int .i64 n)] (.p (.bool true)) := by
  refine Pure.of_walk (N := 105) Tryz.func3 rfl rfl rfl (by simp) (by first | (simp; done) | simp [*]) ?_
  have hT := c_pneumatictop_tryTwo
  by_cases h : n < 0 ∨ 3 < n ∨ chkE n x ≠ 0
  · have hB := c_tryBits_no x n hok h
    simp
    refine xcall_pure hB ?_
    simp
    refine xcall_pure hT ?_
    simp [XEndT]
  obtain ⟨m, rfl⟩ : ∃ m : Nat, n = m := ⟨n.toNat, by omega⟩
  have hm : m ≤ 3 := by omega
  have h0 : chkE m x = 0 := by
    apply Classical.byContradiction
    intro hc; exact h (.inr (.inr hc))
  clear h
  have hB := c_tryBits_yes x m hm hok h0
  have hR := chk_right hok h0
  have hb : tabX m x < p2 (p2 m) := tabX_lt
  have hf := c_pneumatictop_tryForm m (tabX m x) (by omega) hb
  have hV := c_boolexp_Variables x m (by omega) hR
  have hS := c_pneumaticref04_Size m (by omega)
  have h8 : p2 m ≤ 16 := p2_16 (by omega)
  obtain ⟨t1, t2, t3⟩ := form_least (x := ⟨m, tabX m x, 0⟩) (bet := betO ⟨m, tabX m x, 0⟩) (srt := fun l => srtN l) (show m ≤ 4 by omega) (fun _ => betO_none) (fun _ => srtN_perm)
  have hl := form_short (x := ⟨m, tabX m x, 0⟩) (by show m ≤ 4; omega)
  have hokc : ∀ c ∈ formN ⟨m, tabX m x, 0⟩, c.Ok m := fun c hc => (t1 c hc).ok
  obtain ⟨e1, e2⟩ := ev_law (L := formN ⟨m, tabX m x, 0⟩) t1 t2
  clear t1 t2 t3
  rw [used_enc] at hV
  have hul : (usedN (vrX x)).length ≤ 256 := by
    have h1 := @used_len (vrX x)
    have h2 := vrX_len x
    have h3 := hR.size
    omega
  have hum : ∀ c ∈ formN ⟨m, tabX m x, 0⟩, ∀ i, i < m → c.care.testBit i = true → i ∈ usedN (vrX x) := fun c hc i hi ht => used_mem.2 (e2 c hc i hi ht)
  clear e2
  generalize usedN (vrX x) = U at *
  generalize formN ⟨m, tabX m x, 0⟩ = L at *
  simp
  refine xcall_pure hB ?_
  simp
  refine xcall_pure hf ?_
  simp
  refine xcall_pure hV ?_
  simp
  refine xcall_pure hS ?_
  simp
  refine XLoop.go [1, 2, 7, 9, 46] [0, 1] 0 [] (fun _ => []) (fun _ (k : Nat) => [(47, .p (.int .i64 k))]) (fun _ _ => []) (fun k => k ≤ p2 m) (fun k => p2 m - k) 0 (by omega) ?_ ?_
  · simp
    try decide
  intro k hk
  simp
  refine xif_split (fun h1 => ?_) (fun h1 => ?_)
  · simp at h1
    have hP := c_pneumaticref05_Point m k (by omega) (by omega)
    have hE := c_boolexp_Eval x (pntT k m) (by rw [pntT_len]; omega) (by rw [pntT_len]; exact hR)
    rw [ev_pnt hR.nods, e1 k h1] at hE
    have hW := c_hazard_Between m k L (by omega) h1 hl hokc
    simp
    refine XDraw.intro (by kernel_rfl) ?_
    simp
    refine xcall_pure hP ?_
    simp
    refine xcall_pure hE ?_
    simp
    refine ⟨.of (by kernel_rfl), ?_⟩
    refine xcall_pure hW ?_
    cases hv : L.any fun c => c.has k with
    | false =>
      simp [bitI]
      exact ⟨wrap_i64 (by omega) (by omega), k + 1, by omega, by omega, by omega⟩
    | true =>
      simp [bitI]
      exact ⟨wrap_i64 (by omega) (by omega), k + 1, by omega, by omega, by omega⟩
  · simp at h1
    simp
    refine XLoop.go [1, 9, 80, 81] [0, 1] 0 [] (fun _ => []) (fun _ (j : Nat) => [(82, .p (.int .i64 j))]) (fun _ _ => []) (fun j => j ≤ L.length) (fun j => L.length - j) 0 (by omega) ?_ ?_
    · simp
      try decide
    intro j hj
    simp
    refine xif_split (fun h2 => ?_) (fun h2 => ?_)
    · simp at h2
      obtain ⟨c, e⟩ := get_lt h2
      have hc := List.mem_of_getElem? e
      obtain ⟨hc1, hc2⟩ := cube_small (hokc c hc) (show m ≤ 4 by omega)
      have hu := hum c hc
      simp [h2, e, -getElem?_pos, List.getElem?_cons_zero, List.getElem?_cons_succ]
      refine XLoop.go [1, 9, 17, 80, 81, 82, 86] [0, 1, 2] 0 [] (fun _ => []) (fun _ (i : Nat) => [(87, .p (.int .i64 i))]) (fun _ _ => []) (fun i => i ≤ m) (fun i => m - i) 0 (by omega) ?_ ?_
      · simp
        try decide
      intro i hi
      simp
      refine xif_split (fun h3 => ?_) (fun h3 => ?_)
      · simp at h3
        have hK := c_ConI U i (by omega)
        have hsh := shrN_le c.care i
        cases ht : c.care.testBit i with
        | false =>
          simp [h3, ht]
          refine ⟨by omega, bit_u64 (b := 1) (by omega) (by omega), ?_⟩
          exact ⟨wrap_i64 (by omega) (by omega), i + 1, by omega, by omega, by omega⟩
        | true =>
          have hin := hu i h3 ht
          rw [decide_eq_true hin] at hK
          simp [h3, ht]
          refine ⟨by omega, bit_u64 (b := 1) (by omega) (by omega), ?_⟩
          refine xcall_pure hK ?_
          simp
          exact ⟨wrap_i64 (by omega) (by omega), i + 1, by omega, by omega, by omega⟩
      · simp at h3
        simp
        exact ⟨wrap_i64 (by omega) (by omega), j + 1, by omega, by omega, by omega⟩
    · simp at h2
      simp
      refine xcall_pure hT ?_
      simp [XEndT]
end Go.Am
