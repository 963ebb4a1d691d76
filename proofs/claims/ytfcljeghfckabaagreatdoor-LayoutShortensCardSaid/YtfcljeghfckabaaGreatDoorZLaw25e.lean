/- Contracts: the law LayoutShortens. -/
import Derived.Test.YtfcljeghfckabaaGreatDoorZD8
import Derived.Test.YtfcljeghfckabaaGreatDoorZCG
import Derived.Test.YtfcljeghfckabaaGreatDoorZCJ
set_option linter.unusedVariables false
set_option linter.unusedSimpArgs false
namespace Go.Am
open Go Go.Proofs Go.Pn


set_option maxRecDepth 20000 in
theorem c_pneumaticlaw25_LayoutShortens (c : Circuit) (l : List Plc) (by' : Int) (hs : Sized c) (_hl : l.length < 4611686018427387904) (hb : 0 ≤ by' ∧ by' < 256) : Pure Go.Proofs.Tryz.prog GL 5 [c.av, .p (.lst 2 (l.map Plc.enc)), .p (.int .u8 by')] (.p (.bool true)) := by
  refine Pure.of_walk (N := 180) Go.Proofs.Tryz.func5 rfl rfl rfl (by simp) (by first | (simp; done) | simp [*]) ?_
  have haw := c_pneumaticlaw25_awake
  have hR := c_pneumaticlaw25_right c l hs
  have hd : 0 ≤ by'.tmod 5 ∧ by'.tmod 5 < 5 := by
    rw [Int.tmod_eq_emod_of_nonneg hb.1]; omega
  have w1 : IntKind.i64.wrap by' = by' := wrap_i64 (by omega) (by omega)
  simp [w1]
  generalize by'.tmod 5 = row at hd ⊢
  have hA1 := c_layout_Arrange c l row hs
  refine xcall_pure hR ?_
  simp
  cases hr : (!fewP c || !decide (l.length ≤ 70) || !decide (layE c l = 0)) with
  | true =>
    simp
    refine xcall_pure haw ?_
    simp [XEndT]
  | false =>
    simp only [Bool.or_eq_false_iff, Bool.not_eq_false', decide_eq_true_eq] at hr
    obtain ⟨⟨hf, hl70⟩, h0⟩ := hr
    obtain ⟨hc, hL⟩ := layE_zero.1 h0
    have hlen : l.length ≤ 64 := by rw [hL.len]; exact (check_parts hc).2.1
    simp
    refine xcall_pure hA1 ?_
    by_cases h5 : ¬ (partsR l row).length ≤ 5
    · have h5' : ¬ (partsN l row l.length).length ≤ 5 := h5
      have e1 : arrErr c l row = 12 := by unfold arrErr; rw [if_neg (by simpa using h0), if_neg (by omega), if_pos (by omega)]
      simp [e1]
      refine xcall_pure haw ?_
      simp [XEndT]
    simp only [Decidable.not_not] at h5
    have e1 := arr_err hc hL hd h5
    obtain ⟨t1, t2, t3, t4⟩ := arr_twice hc hL hd h5
    have hle := arr_le hc hL hd h5
    have hoth := fun {i : Nat} {p : Plc} (e : l[i]? = some p) => arr_other (row := row) hc hL hd h5 e
    have hexc := fun {i j : Nat} {p q : Plc} => arr_exch (row := row) (i := i) (j := j) (p := p) (q := q) hc hL hd h5
    generalize arrRes c l row = A at t1 t2 t3 t4 hle hoth hexc ⊢
    have hAl : A.length = l.length := by rw [t1.len, hL.len]
    have hA2 := c_layout_Arrange c A row hs
    rw [t2, t3] at hA2
    have hz := layE_zero.2 ⟨hc, t1⟩
    have hL1 := c_layout_Length c l hs
    have hL2 := c_layout_Length c A hs
    rw [h0, show lenRes c l = sumL c l from if_pos h0] at hL1
    rw [hz, show lenRes c A = sumL c A from if_pos hz] at hL2
    have hle2 : ¬ sumL c l < sumL c A := by omega
    simp [e1]
    refine xcall_pure hA2 ?_
    simp
    refine xcall_pure hL1 ?_
    simp
    refine xcall_pure hL2 ?_
    simp [hle2]
    refine xcall_pure (c_Eq_Plc A A (by omega)) ?_
    simp [hAl]
    have hpr : ∀ i : Nat, (l[i]?).map (·.row) = (A[i]?).map (·.row) := fun i => by
      cases e : l[i]? with
      | none =>
        rw [List.getElem?_eq_none_iff] at e
        rw [List.getElem?_eq_none (by omega)]
      | some p => obtain ⟨q, h1, h2, _⟩ := hoth e; rw [h1]; simp [h2]
    have hcs : sortI (colsN A row l.length) = sortI (colsN l row l.length) := by
      have := t4
      unfold colsS at this
      rwa [hAl] at this
    refine XLoop.goN [1, 3, 7, 8, 13, 88] [0] 3 (fun (k : Nat) => [(15, .acc 1 1 (colsN l row k).length), (16, .acc 2 1 (colsN A row k).length), (89, .p (.int .i64 k))]) (fun k => [(1, accB 1 ((colsN l row k).map Int.row)), (2, accB 1 ((colsN A row k).map Int.row))]) (fun k => k ≤ l.length) (fun k => l.length - k) 0 (by omega) ?_ ?_
    · refine Leads.subx (ρ := [0, 1, 2]) ?_
      simp [colsN]
    intro k hk
    have n1 : (colsN l row k).length ≤ k := by rw [colsN_len]; exact partsN_len
    have n2 : (colsN A row k).length ≤ k := by rw [colsN_len]; exact partsN_len
    simp
    refine xif_split (fun h3 => ?_) (fun h3 => ?_)
    · simp at h3
      obtain ⟨p, e⟩ := get_lt h3
      obtain ⟨q, eA, hqr, hqp⟩ := hoth e
      have h3A : k < A.length := by omega
      simp [h3, e, eA, h3A, -getElem?_pos, List.getElem?_cons_zero, List.getElem?_cons_succ]
      by_cases h4 : p.row = row
      · have s1 : colsN l row (k + 1) = colsN l row k ++ [p.col] := by simp [colsN, e, h4]
        have s2 : colsN A row (k + 1) = colsN A row k ++ [q.col] := by simp [colsN, eA, hqr, h4]
        simp [h4]
        refine XDraw.intro (by kernel_rfl) ?_
        simp [h3, e, eA, h3A, -getElem?_pos, List.getElem?_cons_zero, List.getElem?_cons_succ]
        refine ⟨by omega, by omega, .of (by kernel_rfl), ?_⟩
        refine XLoop.goN [1, 3, 7, 8, 13, 17, 88, 89, 124] [0] 3 (fun (j : Nat) => [(15, .acc 1 1 (colsN l row (k + 1)).length), (16, .acc 2 1 (colsN A row (k + 1)).length), (125, .p (.int .i64 j))]) (fun j => [(1, accB 1 ((colsN l row (k + 1)).map Int.row)), (2, accB 1 ((colsN A row (k + 1)).map Int.row))]) (fun j => j ≤ k) (fun j => k - j) 0 (by omega) ?_ ?_
        · refine Leads.subx (ρ := [0, 4, 6]) ?_
          simp [s1, s2]
        intro j hj
        simp
        refine xif_split (fun h6 => ?_) (fun h6 => ?_)
        · simp at h6
          obtain ⟨pj, ej⟩ := get_lt (show j < l.length by omega)
          obtain ⟨qj, eAj, hqjr, _⟩ := hoth ej
          have hjl : j < l.length := by omega
          have hjA : j < A.length := by omega
          simp [h6, ej, eAj, hjl, hjA, hAl, -getElem?_pos, List.getElem?_cons_zero, List.getElem?_cons_succ]
          by_cases h7 : pj.row = row
          · simp [h7]
            refine xcall_gives (g_ClonePlc A _ _ (by omega)) ?_
            simp
            refine XDraw.intro (by kernel_rfl) ?_
            have hkj : ¬ k = j := by omega
            have hAne : A ≠ [] := List.length_pos_iff.1 (by omega)
            obtain ⟨x1, x2⟩ := hexc hkj e ej h4 h7
            simp [h6, e, ej, eA, eAj, hjl, hjA, h3, h3A, hAl, hkj, hAne, -getElem?_pos, List.getElem?_cons_zero, List.getElem?_cons_succ]
            have hex : ((A.map Plc.row_).set k [.p (.int .i64 q.row), .p (.int .i64 qj.col)]).set j [.p (.int .i64 qj.row), .p (.int .i64 q.col)] = (exch A k j).map Plc.row_ := by
              rw [set_rowP, set_rowP]; simp [exch, plcAt, eA, eAj]
            have hXl : (exch A k j).length = l.length := by simp [exch, hAl]
            have hLx := c_layout_Length c (exch A k j) hs
            rw [x1, show lenRes c (exch A k j) = sumL c (exch A k j) from if_pos x1] at hLx
            rw [hex]
            generalize exch A k j = X at x2 hXl hLx ⊢
            have hXne : X ≠ [] := List.length_pos_iff.1 (by omega)
            have hac : some (ABlk.cells 2 (X.map Plc.row_)) = accB 2 (X.map Plc.row_) := by simp [accB, hXne]
            rw [hac, show AV.acc 3 2 l.length = AV.acc 3 2 X.length from by rw [hXl]]
            refine ⟨.of (by kernel_rfl), xcall_lent ?_⟩
            simp
            refine ⟨_, hLx, rfl, ?_⟩
            have hx3 : ¬ sumL c X < sumL c A := by omega
            simp [hx3]
            refine ⟨wrap_i64 (by omega) (by omega), j + 1, by omega, by omega, ?_⟩
            refine Leads.subx (ρ := [0, 1, 2]) ?_
            simp
          · simp [h7]
            refine ⟨wrap_i64 (by omega) (by omega), j + 1, by omega, by omega, ?_⟩
            refine Leads.subx (ρ := [0, 1, 2]) ?_
            simp
        · simp at h6
          have hjk : j = k := by omega
          subst hjk
          simp
          refine ⟨wrap_i64 (by omega) (by omega), j + 1, by omega, by omega, ?_⟩
          refine Leads.subx (ρ := [0, 1, 2]) ?_
          simp
      · have s1 : colsN l row (k + 1) = colsN l row k := by simp [colsN, e, h4]
        have s2 : colsN A row (k + 1) = colsN A row k := by simp [colsN, eA, hqr, h4]
        have hqp := hqp h4
        subst hqp
        simp [h4]
        refine XDraw.intro (by kernel_rfl) ?_
        simp [h3, e, eA, h3A, -getElem?_pos, List.getElem?_cons_zero, List.getElem?_cons_succ]
        refine ⟨.of (by kernel_rfl), wrap_i64 (by omega) (by omega), k + 1, by omega, by omega, ?_⟩
        refine Leads.subx (ρ := [0, 1, 2]) ?_
        simp [s1, s2]
    simp at h3
    have hkl : k = l.length := by omega
    subst hkl
    simp
    refine xcall_gives (g_SortIA (colsN l row l.length) _ _ 1 (by simp) (by omega) (by omega)) ?_
    simp
    refine xcall_gives (g_SortIA (colsN A row l.length) _ _ 2 (by simp) (by omega) (by omega)) ?_
    simp
    rw [show AV.acc 1 1 (colsN l row l.length).length = AV.acc 1 1 (sortI (colsN l row l.length)).length from by rw [sortI_len], show AV.acc 2 1 (colsN A row l.length).length = AV.acc 2 1 (sortI (colsN l row l.length)).length from by rw [← hcs, sortI_len], hcs]
    have hKl : (sortI (colsN l row l.length)).length ≤ 64 := by rw [sortI_len]; omega
    generalize sortI (colsN l row l.length) = K at hKl ⊢
    refine xcall_lent ?_
    simp
    refine ⟨_, c_Eq_Int K K (by omega), rfl, ?_⟩
    simp
    refine xcall_pure haw ?_
    simp [XEndT]
end Go.Am
