/- Contracts: the law LayoutMoves. -/
import Derived.Test.YtfcljeghfckabaaGreatDoorZD8
import Derived.Test.YtfcljeghfckabaaGreatDoorZCG
set_option linter.unusedVariables false
set_option linter.unusedSimpArgs false
namespace Go.Am
open Go Go.Proofs Go.Pn

theorem FrzB.pair {s : Store} {B : List Nat} {k : Nat} {y1 x1 y2 x2 : AV} (h1 : FrzK s (· ∈ B) y1 x1) (h2 : FrzK s (· ∈ B) y2 x2) : FrzB s B (.cells k [[y1], [y2]]) (.cells k [[x1], [x2]]) := by
  refine .inr ⟨k, _, _, rfl, rfl, fun i j row' x' e1 e2 => ?_⟩
  match i, j with
  | 0, 0 => simp at e1; subst e1; simp at e2; subst e2; exact ⟨_, _, rfl, rfl, h1⟩
  | 1, 0 => simp at e1; subst e1; simp at e2; subst e2; exact ⟨_, _, rfl, rfl, h2⟩
  | 0, j + 1 => simp at e1; subst e1; simp at e2
  | 1, j + 1 => simp at e1; subst e1; simp at e2
  | i + 2, _ => simp at e1
def mvN (φ : Int → Int) (l : List Plc) (k : Nat) : List Plc := (l.take k).map (mvP φ) ++ l.drop k
theorem mvN_zero {φ : Int → Int} {l : List Plc} : mvN φ l 0 = l := by simp [mvN]
theorem mvN_all {φ : Int → Int} {l : List Plc} : mvN φ l l.length = l.map (mvP φ) := by simp [mvN]
theorem mvN_len {φ : Int → Int} {l : List Plc} {k : Nat} : (mvN φ l k).length = l.length := by simp [mvN]; omega
theorem mvN_at {φ : Int → Int} {l : List Plc} {k : Nat} {p : Plc} (e : l[k]? = some p) : (mvN φ l k)[k]? = some p := by
  have h := (List.getElem?_eq_some_iff.1 e).1
  unfold mvN
  rw [List.getElem?_append_right (by simp; omega)]
  simp [e, Nat.min_eq_left (Nat.le_of_lt h)]
theorem mvN_snoc {φ : Int → Int} {l : List Plc} {k : Nat} {p : Plc} (e : l[k]? = some p) : mvN φ l (k + 1) = (mvN φ l k).set k ⟨p.row, φ p.col⟩ := by
  have h := (List.getElem?_eq_some_iff.1 e).1
  unfold mvN
  have hd : l.drop k = p :: l.drop (k + 1) := by
    rw [List.drop_eq_getElem_cons h]
    rw [List.getElem?_eq_getElem h] at e
    cases e; rfl
  rw [take_snoc e, hd, List.map_append, List.set_append_right _ _ (by simp; omega)]
  simp [Nat.min_eq_left (Nat.le_of_lt h), mvP]

set_option maxRecDepth 20000 in
theorem c_pneumaticlaw25_LayoutMoves (c : Circuit) (l : List Plc) (by' : Int) (hs : Sized c) (_hl : l.length < 4611686018427387904) (hb : 0 ≤ by' ∧ by' < 256) : Pure Go.Proofs.Tryz.prog GL 6 [c.av, .p (.lst 2 (l.map Plc.enc)), .p (.int .u8 by')] (.p (.bool true)) := by
  refine Pure.of_walk (N := 133) Go.Proofs.Tryz.func6 rfl rfl rfl (by simp) (by first | (simp; done) | simp [*]) ?_
  have haw := c_pneumaticlaw25_awake
  have hR := c_pneumaticlaw25_right c l hs
  have hP := c_layout_Place c hs
  simp
  refine xcall_pure hR ?_
  simp
  cases hr : (!fewP c || !decide (l.length ≤ 70) || !decide (layE c l = 0)) with
  | true =>
    simp
    refine xcall_pure haw ?_
    simp [XEndT]
  | false =>
    simp only [Bool.or_eq_false_iff, Bool.not_eq_false', decide_eq_true_eq] at hr
    obtain ⟨⟨hf, hl70⟩, h0⟩ := hr
    obtain ⟨hc, hL⟩ := layE_zero.1 h0
    have hlen : l.length ≤ 64 := by rw [hL.len]; exact (check_parts hc).2.1
    have hpe : layE c (placedL c) = 0 := layE_zero.2 ⟨hc, placedL_ok hc⟩
    have hPC := c_layout_Check c (placedL c) hs
    have hLe := c_layout_Length c l hs
    have hCr := c_layout_Crossings c l hs
    rw [hpe] at hPC
    rw [h0] at hLe hCr
    rw [if_pos hc, hc] at hP
    have eL : lenRes c l = sumL c l := if_pos h0
    have eC : crossRes c l = (crossN l c.pipes c.pipes.length : Int) := if_pos h0
    rw [eL] at hLe
    rw [eC] at hCr
    have hd : 0 ≤ by'.tmod 20 ∧ by'.tmod 20 < 20 := by
      rw [Int.tmod_eq_emod_of_nonneg hb.1]; omega
    have w1 : IntKind.i64.wrap by' = by' := wrap_i64 (by omega) (by omega)
    simp
    refine xcall_pure hP ?_
    simp
    refine xcall_pure hPC ?_
    simp
    refine xcall_gives (g_ClonePlc l _ _ (by omega)) ?_
    simp
    refine xcall_gives (g_ClonePlc l _ _ (by omega)) ?_
    simp
    refine XLoop.go [1, 2, 3, 9, 10, 44] [0] 0 [] (fun _ => []) (fun _ (k : Nat) => [(45, .p (.int .i64 k))]) (fun _ k => [(1, accB 2 ((mvN (· + by'.tmod 20) l k).map Plc.row_)), (2, accB 2 ((mvN (63 - ·) l k).map Plc.row_))]) (fun k => k ≤ l.length) (fun k => l.length - k) 0 (by omega) ?_ ?_
    · simp [mvN_zero]
      done
    intro k hk
    simp
    refine xif_split (fun h3 => ?_) (fun h3 => ?_)
    · simp at h3
      obtain ⟨p, e⟩ := get_lt h3
      have hp := hL.col p (List.mem_of_getElem? e)
      have a1 := mvN_at (φ := (· + by'.tmod 20)) e
      have a2 := mvN_at (φ := (63 - ·)) e
      have n1 := mvN_snoc (φ := (· + by'.tmod 20)) e
      have n2 := mvN_snoc (φ := (63 - ·)) e
      have l1 := @mvN_len (· + by'.tmod 20) l k
      have l2 := @mvN_len (63 - ·) l k
      generalize mvN (· + by'.tmod 20) l k = A at a1 n1 l1 ⊢
      generalize mvN (63 - ·) l k = B at a2 n2 l2 ⊢
      have hA : A ≠ [] := List.length_pos_iff.1 (by omega)
      have hB : B ≠ [] := List.length_pos_iff.1 (by omega)
      simp [h3, e, a1, a2, hA, hB, l1, l2, w1, -getElem?_pos, List.getElem?_cons_zero, List.getElem?_cons_succ]
      have hac : ∀ (M : List Plc) (q : Plc), M ≠ [] → accB 2 ((M.set k q).map Plc.row_) = some (.cells 2 ((M.set k q).map Plc.row_)) := fun M q hM => by
        rw [accB, if_neg]
        simp only [ne_eq, List.map_eq_nil_iff]
        intro h
        have := congrArg List.length h
        simp at this
        exact hM this
      refine ⟨wrap_i64 (by omega) (by omega), wrap_i64 (by omega) (by omega), wrap_i64 (by omega) (by omega), k + 1, by omega, by omega, by omega, ?_⟩
      rw [n1, n2, set_rowP, set_rowP, hac _ _ hA, hac _ _ hB]
      generalize A.set k _ = A2
      generalize B.set k _ = B2
      simp
    · simp at h3
      have hkl : k = l.length := by omega
      subst hkl
      rw [mvN_all, mvN_all]
      have q1 := shift_ok (by'.tmod 20)
      have q2 := mirror_ok
      have hA1 := mv_err (φ := (· + by'.tmod 20)) hc hL q1.2.2
      have hA2 := mv_len (φ := (· + by'.tmod 20)) hc hL.len q1.1
      have hA3 := mv_cross (φ := (· + by'.tmod 20)) hc hL.len q1.2.1 (k := c.pipes.length)
      have hB1 := mv_err (φ := (63 - ·)) hc hL q2.2.2
      have hB2 := mv_len (φ := (63 - ·)) hc hL.len q2.1
      have hB3 := mv_cross (φ := (63 - ·)) hc hL.len q2.2.1 (k := c.pipes.length)
      have hAl : (l.map (mvP (· + by'.tmod 20))).length = l.length := by simp
      have hBl : (l.map (mvP (63 - ·))).length = l.length := by simp
      generalize l.map (mvP (· + by'.tmod 20)) = A at hA1 hA2 hA3 hAl ⊢
      generalize l.map (mvP (63 - ·)) = B at hB1 hB2 hB3 hBl ⊢
      simp
      refine xcall_pure hLe ?_
      simp
      refine xcall_pure hCr ?_
      simp
      refine XLoop.goN [3, 12, 13, 88, 89] [0] 4 (fun (j : Nat) => [(90, .p (.int .i64 j))]) (fun _ => [(3, some (.cells 1 [[.p (.lst 2 (A.map Plc.enc))], [.p (.lst 2 (B.map Plc.enc))]]))]) (fun j => j ≤ 2) (fun j => 2 - j) 0 (by omega) ?_ ?_
      · refine Leads.frz_sub (B := [1, 2]) (ρ := [0, 1, 2, 3]) [] [(1, none), (2, none), (3, some (.cells 1 [[.p (.lst 2 (A.map Plc.enc))], [.p (.lst 2 (B.map Plc.enc))]]))] (Freeze.of [] _ (by simp) ?_ (by simp [keys])) ?_
        · intro p hp' x hx
          simp only [List.mem_cons, List.not_mem_nil, or_false] at hp'
          rcases hp' with rfl | rfl | rfl
          · cases hx
          · cases hx
          · simp only [Option.some.injEq] at hx
            subst hx
            refine ⟨by simp, _, rfl, FrzB.pair ?_ ?_⟩
            · exact FrzK.accRows (rows := A.map Plc.row_) (by simp) (by simp [get]) (by simp) (by simpa using hAl)
            · exact FrzK.accRows (rows := B.map Plc.row_) (by simp) (by simp [get]) (by simp) (by simpa using hBl)
        · simp
          try decide
      intro j hj
      simp
      refine xif_split (fun h4 => ?_) (fun h4 => ?_)
      · simp at h4
        obtain ⟨m, hrow, he, hsm, hcm⟩ : ∃ m : List Plc, ([[AV.p (.lst 2 (A.map Plc.enc))], [AV.p (.lst 2 (B.map Plc.enc))]] : List (List AV))[j]? = some [AV.p (.lst 2 (m.map Plc.enc))] ∧ (layE c m = 0 ∨ layE c m = 2) ∧ sumL c m = sumL c l ∧ crossN m c.pipes c.pipes.length = crossN l c.pipes c.pipes.length := by
          match j, h4 with
          | 0, _ => exact ⟨A, rfl, hA1, hA2, hA3⟩
          | 1, _ => exact ⟨B, rfl, hB1, hB2, hB3⟩
        have hLm := c_layout_Length c m hs
        have hCm := c_layout_Crossings c m hs
        unfold lenRes at hLm
        unfold crossRes at hCm
        rw [hsm] at hLm
        rw [hcm] at hCm
        simp [hrow]
        refine ⟨h4, xcall_pure hLm ?_⟩
        simp
        refine xcall_pure hCm ?_
        rcases he with he | he
        · simp [he]
          refine ⟨wrap_i64 (by omega) (by omega), j + 1, by omega, by omega, Leads.subx (ρ := [0, 1, 2, 3]) ?_⟩
          simp
          try decide
        · simp [he]
          refine ⟨wrap_i64 (by omega) (by omega), j + 1, by omega, by omega, Leads.subx (ρ := [0, 1, 2, 3]) ?_⟩
          simp
          try decide
      · simp at h4
        simp
        refine xcall_pure haw ?_
        simp [XEndT]
end Go.Am
