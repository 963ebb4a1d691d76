/- Lemmas and contracts for the proof of a statement of this seat. -/
import Derived.Test.YtfcljeghfckabaaGreatDoorZE2
import Derived.Test.YtfcljeghfckabaaGreatDoorZD3
import Derived.Test.YtfcljeghfckabaaGreatDoorZD2
set_option linter.unusedVariables false
set_option linter.unusedSimpArgs false
/- Contracts: the reference's drawing; chapter 25. -/
namespace Go.Am
open Go Go.Proofs Go.Pn

def nmT (c : Circuit) : Nat → Nat
  | 0 => 0
  | k + 1 => match c.parts[k]? with | some q => max (nmT c k) q.name.length | none => nmT c k
theorem nmT_le {c : Circuit} (h : ∀ p ∈ c.parts, p.name.length ≤ 60) : ∀ {k : Nat}, nmT c k ≤ 60
  | 0 => by simp [nmT]
  | k + 1 => by
    have ih := @nmT_le c h k
    simp only [nmT]
    cases e : c.parts[k]? with
    | none => exact ih
    | some q => have := h q (List.mem_of_getElem? e); simp only; omega
theorem nmT_wid {c : Circuit} : ∀ {k : Nat}, 0 < k → k ≤ c.parts.length → widT c k = nmT c k + 1
  | 0, h, _ => by omega
  | k + 1, _, hk => by
    obtain ⟨q, e⟩ := get_lt (show k < c.parts.length by omega)
    simp only [widT, nmT, e]
    rcases Nat.eq_zero_or_pos k with rfl | h0
    · simp [widT, nmT]
    · have ih := @nmT_wid c k h0 (by omega)
      omega

set_option maxRecDepth 20000 in
theorem c_pneumaticref25_Wide (c : Circuit) (l : List Plc) (hl : l.length = c.parts.length) (hlen : l.length ≤ 64) (hn : Near l) (hw : ∀ p ∈ c.parts, p.name.length ≤ 60) : Pure Go.Proofs.Tryz.prog GL 98 [c.av, .p (.lst 2 (l.map Plc.enc))] (.tup [.p (.int .i64 (colT l l.length)), .p (.int .i64 (nmT c c.parts.length))]) := by
  refine Pure.of_walk (N := 34) Go.Proofs.Tryz.func98 rfl rfl rfl (by simp) (by first | (simp; done) | simp [*]) ?_
  simp
  refine XLoop.go [1, 2] [0] 0 [] (fun _ => []) (fun _ (k : Nat) => [(6, .p (.int .i64 (colT l k))), (7, .p (.int .i64 (nmT c k))), (8, .p (.int .i64 k))]) (fun _ _ => []) (fun k => k ≤ l.length) (fun k => l.length - k) 0 (by omega) ?_ ?_
  · simp [colT, nmT]
  intro k hk
  simp
  refine xif_split (fun h3 => ?_) (fun h3 => ?_)
  · simp at h3
    obtain ⟨p, ep⟩ := get_lt h3
    obtain ⟨q, eq⟩ := get_lt (show k < c.parts.length by omega)
    have hq := hw q (List.mem_of_getElem? eq)
    have hp := hn p (List.mem_of_getElem? ep)
    have hcl := @colT_near l hn k
    have hnl := @nmT_le c hw k
    have hW : nmT c (k + 1) = max (nmT c k) q.name.length := by simp [nmT, eq]
    have hC : colT l (k + 1) = max (colT l k) (p.col + 1) := by simp [colT, ep]
    have hkc : k < c.parts.length := by omega
    simp
    refine XDraw.intro (by kernel_rfl) ?_
    simp [h3, eq, ep, hkc, -getElem?_pos, List.getElem?_cons_zero, List.getElem?_cons_succ]
    refine ⟨wrap_i64 (by omega) (by omega), .of (by kernel_rfl), wrap_i64 (by omega) (by omega), k + 1, by omega, by omega, ?_⟩
    simp [hW, hC]
    omega
  simp at h3
  have hkl : k = l.length := by omega
  subst hkl
  simp [XEndT, hl]

theorem cell_find {c : Circuit} {l : List Plc} (hL : LayOk c l) {k : Nat} {i j : Int} {q : Part} (e1 : l[k]? = some ⟨i, j⟩) (e2 : c.parts[k]? = some q) : cellT c l i j = q.name := cellT_at hL e1 e2
theorem cell_none {c : Circuit} {l : List Plc} (hL : LayOk c l) {i j : Int} (h : ∀ (k : Nat) p, k < l.length → l[k]? = some p → p ≠ ⟨i, j⟩) : cellT c l i j = [46] := by
  rcases cell_cases hL i j with h1 | ⟨k, q, h1, _, _⟩
  · exact h1
  · exact absurd rfl (h k _ (List.getElem?_eq_some_iff.1 h1).1 h1)

set_option maxRecDepth 20000 in
theorem c_pneumaticref25_at (c : Circuit) (l : List Plc) (i j : Int) (hL : LayOk c l) (hlen : l.length ≤ 64) : Pure Go.Proofs.Tryz.prog GL 99 [c.av, .p (.lst 2 (l.map Plc.enc)), .agg [.p (.int .i64 i), .p (.int .i64 j)]] (.p (.str (cellT c l i j))) := by
  refine Pure.of_walk (N := 26) Go.Proofs.Tryz.func99 rfl rfl rfl (by simp) (by first | (simp; done) | simp [*]) ?_
  have hl := hL.len
  simp
  refine XLoop.go [1, 3, 5] [0, 1] 0 [] (fun _ => []) (fun _ (k : Nat) => [(7, .p (.int .i64 k))]) (fun _ _ => []) (fun k => k ≤ l.length ∧ ∀ (m : Nat) p, m < k → l[m]? = some p → p ≠ ⟨i, j⟩) (fun k => l.length - k) 0 ⟨by omega, fun m p h => by omega⟩ ?_ ?_
  · simp
    try decide
  rintro k ⟨hk, hno⟩
  simp
  refine xif_split (fun h3 => ?_) (fun h3 => ?_)
  · simp at h3
    obtain ⟨p, ep⟩ := get_lt h3
    obtain ⟨q, eq⟩ := get_lt (show k < c.parts.length by omega)
    have hkc : k < c.parts.length := by omega
    simp
    refine XDraw.intro (by kernel_rfl) ?_
    simp [h3, ep, -getElem?_pos, List.getElem?_cons_zero, List.getElem?_cons_succ]
    refine ⟨.of (by kernel_rfl), ?_⟩
    by_cases h4 : p = ⟨i, j⟩
    · subst h4
      have hc := cell_find hL ep eq
      simp [eq, hkc, XEndT, hc, -getElem?_pos, List.getElem?_cons_zero, List.getElem?_cons_succ]
      done
    · have h5 : (decide (p.row = i) && decide (p.col = j)) = false := by
        rw [Bool.eq_false_iff]
        intro h6
        simp only [Bool.and_eq_true, decide_eq_true_eq] at h6
        exact h4 (by cases p; simp_all)
      rw [h5]
      simp
      refine ⟨wrap_i64 (by omega) (by omega), k + 1, ⟨by omega, fun m p' hm em => ?_⟩, by omega, ?_⟩
      · by_cases hmk : m = k
        · subst hmk; rw [ep] at em; cases em; exact h4
        · exact hno m p' (by omega) em
      · simp
        try omega
  simp at h3
  have hkl : k = l.length := by omega
  subst hkl
  have hc := cell_none hL hno
  simp [XEndT, hc]
end Go.Am
/- Contracts: the reference's Lines and Draw; chapter 25. -/
namespace Go.Am
open Go Go.Proofs Go.Pn

def padN (c : Circuit) (l : List Plc) (i : Int) (n : Nat) : Nat := if (n : Int) + 1 < colT l l.length then nmT c c.parts.length + 1 - (cellT c l i n).length else 0
def lineR (c : Circuit) (l : List Plc) (i : Int) : Nat → Txt
  | 0 => []
  | n + 1 => lineR c l i n ++ (cellT c l i n ++ Lib.repeatL [32] (padN c l i n))
theorem trim_eq {u : Txt} (h : ∀ b, u.getLast? = some b → b ≠ 32) : ∀ {r : Nat}, Lib.trimRightS (u ++ Lib.repeatL [32] r) [32] = u
  | 0 => by
    unfold Lib.trimRightS
    simp only [Lib.repeatL, List.append_nil]
    cases e : u.reverse with
    | nil => rw [List.reverse_eq_nil_iff] at e; subst e; rfl
    | cons b v =>
      have hb : b ≠ 32 := h b (by rw [List.getLast?_eq_head?_reverse, e]; rfl)
      have hd : (b :: v).dropWhile ([(32 : UInt8)].contains ·) = b :: v := by simp [List.dropWhile_cons, hb]
      rw [hd, ← e, List.reverse_reverse]
  | r + 1 => by
    have ih := @trim_eq u h r
    unfold Lib.trimRightS at ih ⊢
    rw [rep_last, ← List.append_assoc, List.reverse_append]
    have hd : ([(32 : UInt8)].reverse ++ (u ++ Lib.repeatL [32] r).reverse).dropWhile ([(32 : UInt8)].contains ·) = (u ++ Lib.repeatL [32] r).reverse.dropWhile ([(32 : UInt8)].contains ·) := by simp [List.dropWhile_cons]
    rw [hd, ih]
theorem lineR_lineN {c : Circuit} {l : List Plc} (h0 : 0 < c.parts.length) (i : Int) : ∀ {n : Nat}, (n : Int) < colT l l.length → lineR c l i n = lineN c l i n
  | 0, _ => rfl
  | n + 1, h => by
    have ih := @lineR_lineN c l h0 i n (by omega)
    have hw := nmT_wid h0 (Nat.le_refl _)
    simp only [lineR, lineN, padN, ih]
    rw [if_pos (by omega), hw]
theorem lineR_draw {c : Circuit} {l : List Plc} (h : checkP c = 0) (hL : LayOk c l) (i : Int) : lineR c l i (colT l l.length).toNat = drawRow c l i := by
  unfold drawRow
  rcases Nat.eq_zero_or_pos (colT l l.length).toNat with h0 | h0
  · rw [h0]; rfl
  · obtain ⟨m, hm⟩ : ∃ m, (colT l l.length).toNat = m + 1 := ⟨(colT l l.length).toNat - 1, by omega⟩
    have hl0 : 0 < l.length := colT_pos (l := l) (k := l.length) (by omega)
    have hok := cells_ok h hL hl0 i
    rw [hm]
    simp only [lineR, lineN]
    rw [lineR_lineN (by rw [← hL.len]; exact hl0) i (by omega)]
    have hp : padN c l i m = 0 := by unfold padN; rw [if_neg (by omega)]
    rw [hp, ← List.append_assoc, ← List.append_assoc]
    simp only [Lib.repeatL, List.append_nil]
    refine (trim_eq fun b hb => ?_).symm
    have hne := hok.ne m
    rw [List.getLast?_append] at hb
    have hbm : b ∈ cellT c l i (m : Int) := by
      cases e2 : (cellT c l i (m : Int)).getLast? with
      | none => exact absurd (List.getLast?_eq_none_iff.1 e2) hne
      | some b2 =>
        rw [e2] at hb
        simp only [Option.some_or, Option.some.injEq] at hb
        subst hb
        exact List.mem_of_getLast? e2
    intro e
    have := hok.sp m b hbm
    rw [e] at this
    exact absurd this (by decide)
theorem lineR_len {c : Circuit} {l : List Plc} {i : Int} (hw : ∀ j : Nat, (cellT c l i (j : Int)).length ≤ 60) (hn : nmT c c.parts.length ≤ 60) : ∀ {n : Nat}, (lineR c l i n).length ≤ n * 200
  | 0 => by simp [lineR]
  | n + 1 => by
    have ih := @lineR_len c l i hw hn n
    have h1 := hw n
    have h2 : padN c l i n ≤ 61 := by unfold padN; split <;> omega
    simp [lineR, Lib.repeatL_length, Nat.succ_mul]
    omega
def refLs (c : Circuit) (l : List Plc) (n : Nat) : List Txt := (List.range n).map fun (i : Nat) => lineR c l (i : Int) (colT l l.length).toNat
theorem refLs_snoc {c : Circuit} {l : List Plc} {n : Nat} : refLs c l (n + 1) = refLs c l n ++ [lineR c l n (colT l l.length).toNat] := by simp [refLs, List.range_succ]
theorem refLs_len {c : Circuit} {l : List Plc} {n : Nat} : (refLs c l n).length = n := by simp [refLs]
theorem refLs_eq {c : Circuit} {l : List Plc} (h : checkP c = 0) (hL : LayOk c l) : refLs c l 5 = drawN c l 5 := by
  unfold refLs drawN
  exact List.map_congr_left fun i _ => lineR_draw h hL i
theorem cell_le {c : Circuit} {l : List Plc} (hL : LayOk c l) (hw : ∀ p ∈ c.parts, p.name.length ≤ 60) (i j : Int) : (cellT c l i j).length ≤ 60 := by
  rcases cell_cases hL i j with h1 | ⟨k, q, _, h2, h3⟩
  · rw [h1]; simp
  · rw [h3]; exact hw q (List.mem_of_getElem? h2)

set_option maxRecDepth 20000 in
theorem c_pneumaticref25_Lines (c : Circuit) (l : List Plc) (h : checkP c = 0) (hL : LayOk c l) (hlen : l.length ≤ 64) (hw : ∀ p ∈ c.parts, p.name.length ≤ 60) : Pure Go.Proofs.Tryz.prog GL 58 [c.av, .p (.lst 2 (l.map Plc.enc))] (.p (.lst 1 ((refLs c l 5).map Txt.enc))) := by
  refine Pure.of_walk (N := 57) Go.Proofs.Tryz.func58 rfl rfl rfl (by simp) (by first | (simp; done) | simp [*]) ?_
  have hWd := c_pneumaticref25_Wide c l hL.len hlen hL.near hw
  have hC := @colT_near l hL.near l.length
  have hN := @nmT_le c hw c.parts.length
  simp
  refine xcall_pure hWd ?_
  simp
  refine XLoop.go [1, 2, 5, 6] [0] 1 [1] (nms [7]) (fun n (i : Nat) => [(7, .acc n 1 i), (8, .p (.int .i64 i))]) (fun n i => [(n, accB 1 ((refLs c l i).map Txt.row))]) (fun i => i ≤ 5) (fun i => 5 - i) 0 (by omega) ?_ ?_
  · simp [refLs]
    try decide
  intro i hi
  have hcl := fun j : Nat => cell_le hL hw i j
  simp
  refine xif_split (fun h4 => ?_) (fun h4 => ?_)
  · simp at h4
    simp
    refine XLoop.go [1, 2, 5, 6, 7, 8] [0, 1] 0 [] (fun _ => []) (fun _ (n : Nat) => [(9, .p (.str (lineR c l i n))), (10, .p (.int .i64 n))]) (fun _ _ => []) (fun n => n ≤ (colT l l.length).toNat) (fun n => (colT l l.length).toNat - n) 0 (by omega) ?_ ?_
    · simp [lineR]
      try decide
    intro n hn
    have hll := @lineR_len c l i hcl hN n
    simp
    refine xif_split (fun h5 => ?_) (fun h5 => ?_)
    · simp at h5
      simp
      refine xcall_pure (c_pneumaticref25_at c l i n hL hlen) ?_
      simp
      have hct := hcl n
      have hs : lineR c l i (n + 1) = lineR c l i n ++ (cellT c l i n ++ Lib.repeatL [32] (padN c l i n)) := rfl
      have hpd : padN c l i n = if (n : Int) + 1 < colT l l.length then nmT c c.parts.length + 1 - (cellT c l i n).length else 0 := rfl
      have hpl : padN c l i n ≤ 61 := by rw [hpd]; split <;> omega
      refine ⟨by omega, ?_⟩
      refine XLoop.go [1, 2, 5, 6, 7, 8, 10] [0, 1] 0 [] (fun _ => []) (fun _ (m : Nat) => [(9, .p (.str (lineR c l i n ++ (cellT c l i n ++ Lib.repeatL [32] m)))), (12, .p (.int .i64 ((cellT c l i n).length + m)))]) (fun _ _ => []) (fun m => m ≤ padN c l i n) (fun m => padN c l i n - m) 0 (by omega) ?_ ?_
      · simp [Lib.repeatL]
        try decide
      intro m hm
      simp
      have hrl : (Lib.repeatL [32] m).length = m := by rw [Lib.repeatL_length]; simp
      have hw1 : IntKind.i64.wrap (colT l l.length - 1) = colT l l.length - 1 := wrap_i64 (by omega) (by omega)
      have hend : m = padN c l i n → lineR c l i n ++ (cellT c l i n ++ Lib.repeatL [32] m) = lineR c l i (n + 1) := fun e => by rw [hs, e]
      by_cases h7 : ((cellT c l i n).length : Int) + m ≤ nmT c c.parts.length
      · by_cases h6 : (n : Int) < colT l l.length - 1
        · rw [if_pos (by omega)] at hpd
          simp [h7, h6, hw1]
          refine ⟨by rw [hrl]; omega, wrap_i64 (by omega) (by omega), m + 1, by omega, by omega, rep_last.symm, by omega⟩
        · rw [if_neg (by omega)] at hpd
          have hm0 : m = padN c l i n := by omega
          have he := hend hm0
          simp [h7, h6, hw1]
          exact ⟨wrap_i64 (by omega) (by omega), n + 1, by omega, by omega, he, by omega⟩
      · have hm0 : m = padN c l i n := by
          by_cases h8 : (n : Int) + 1 < colT l l.length
          · rw [if_pos h8] at hpd; omega
          · rw [if_neg h8] at hpd; omega
        have he := hend hm0
        simp [h7]
        exact ⟨wrap_i64 (by omega) (by omega), n + 1, by omega, by omega, he, by omega⟩
    simp at h5
    have hnc : n = (colT l l.length).toNat := by omega
    subst hnc
    have hsn := @refLs_snoc c l i
    simp
    refine ⟨by omega, refLs_len, wrap_i64 (by omega) (by omega), i + 1, by omega, by omega, ⟨by omega, by omega⟩, ?_⟩
    simp [hsn]
    try decide
  simp at h4
  have hi5 : i = 5 := by omega
  subst hi5
  simp [XEndT, refLs_len]

theorem c_pneumaticref25_Draw (c : Circuit) (l : List Plc) (hs : Sized c) (hw : checkP c = 0 → ∀ p ∈ c.parts, p.name.length ≤ 60) : Pure Go.Proofs.Tryz.prog GL 34 [c.av, .p (.lst 2 (l.map Plc.enc))] (.tup [.p (.lst 1 ((drawRes c l).map Txt.enc)), .p (.int .i64 (layE c l))]) := by
  refine Pure.of_walk (N := 16) Go.Proofs.Tryz.func34 rfl rfl rfl (by simp) (by first | (simp; done) | simp [*]) ?_
  simp
  refine xcall_pure (c_pneumaticref25_Check c l hs) ?_
  by_cases h : ¬ layE c l = 0
  · have e2 : drawRes c l = [] := if_pos h
    simp [h, XEndT, e2]
  simp only [Decidable.not_not] at h
  obtain ⟨hc, hL⟩ := layE_zero.1 h
  have e2 : drawRes c l = refLs c l 5 := by rw [refLs_eq hc hL]; exact if_neg (by simpa using h)
  have hlen : l.length ≤ 64 := by rw [hL.len]; exact (check_parts hc).2.1
  have hD := c_pneumaticref25_Lines c l hc hL hlen (hw hc)
  simp [h]
  refine xcall_pure hD ?_
  simp [XEndT, e2, h]
end Go.Am
/- Contracts: the reference's fields of a line; chapter 25. -/
namespace Go.Am
open Go Go.Proofs Go.Pn

def fldK (s : Txt) : Nat → List Txt × Txt
  | 0 => ([], [])
  | k + 1 => match s[k]? with
    | some b => if b ≠ 32 then ((fldK s k).1, (fldK s k).2 ++ [b]) else (if (fldK s k).2 = [] then (fldK s k).1 else (fldK s k).1 ++ [(fldK s k).2], [])
    | none => (if (fldK s k).2 = [] then (fldK s k).1 else (fldK s k).1 ++ [(fldK s k).2], [])
def fldR (s : Txt) : List Txt := (fldK s (s.length + 1)).1
theorem fldK_len {s : Txt} : ∀ {k : Nat}, (fldK s k).1.length ≤ k ∧ (fldK s k).2.length ≤ k
  | 0 => by simp [fldK]
  | k + 1 => by
    have ih := @fldK_len s k
    simp only [fldK]
    cases s[k]? with
    | none => simp only; split <;> simp <;> omega
    | some b =>
      simp only
      split
      · simp; omega
      · split <;> simp <;> omega

set_option maxRecDepth 20000 in
theorem c_pneumaticref12_Fields (s : Txt) (hl : s.length ≤ 1000) : Pure Go.Proofs.Tryz.prog GL 100 [.p (.str s)] (.p (.lst 1 ((fldR s).map Txt.enc))) := by
  refine Pure.of_walk (N := 36) Go.Proofs.Tryz.func100 rfl rfl rfl (by simp) (by first | (simp; done) | simp [*]) ?_
  simp
  refine XLoop.goN [0] [] 1 (fun (k : Nat) => [(3, .acc 0 1 (fldK s k).1.length), (4, .p (.str (fldK s k).2)), (5, .p (.int .i64 k))]) (fun k => [(0, accB 1 ((fldK s k).1.map Txt.row))]) (fun k => k ≤ s.length + 1) (fun k => s.length + 1 - k) 0 (by omega) ?_ ?_
  · refine Leads.subx (ρ := [0]) ?_
    simp [fldK]
  intro k hk
  have hkl := @fldK_len s k
  simp
  refine xif_split (fun h3 => ?_) (fun h3 => ?_)
  · simp at h3
    by_cases h4 : k < s.length
    · obtain ⟨b, e⟩ := get_lt h4
      by_cases h5 : b = 32
      · subst h5
        by_cases h6 : (fldK s k).2 = []
        · have hs : fldK s (k + 1) = ((fldK s k).1, []) := by simp [fldK, e, h6]
          simp [h4, e, h6, -getElem?_pos, List.getElem?_cons_zero, List.getElem?_cons_succ]
          refine ⟨wrap_i64 (by omega) (by omega), k + 1, by omega, by omega, ?_⟩
          rw [hs]
          refine Leads.subx (ρ := [0]) ?_
          simp
        · have hs : fldK s (k + 1) = ((fldK s k).1 ++ [(fldK s k).2], []) := by simp [fldK, e, h6]
          simp [h4, e, h6, -getElem?_pos, List.getElem?_cons_zero, List.getElem?_cons_succ]
          refine ⟨by omega, wrap_i64 (by omega) (by omega), k + 1, by omega, by omega, ?_⟩
          rw [hs]
          refine Leads.subx (ρ := [2]) ?_
          simp
      · have hs : fldK s (k + 1) = ((fldK s k).1, (fldK s k).2 ++ [b]) := by simp [fldK, e, h5]
        have h7 : ¬ ((b.toNat : Int) = 32) := fun h7 => h5 (UInt8.toNat_inj.1 (show b.toNat = 32 by omega))
        have hdt : (List.drop k s).take 1 = [b] := by rw [List.drop_eq_getElem_cons h4]; rw [List.getElem?_eq_getElem h4] at e; cases e; rfl
        have hle : (0 : Int) ≤ (k : Int) + 1 ∧ (k : Int) + 1 ≤ (s.length : Int) := by omega
        simp [h4, e, h7, -getElem?_pos, List.getElem?_cons_zero, List.getElem?_cons_succ]
        rw [if_pos hle]
        refine ⟨wrap_i64 (by omega) (by omega), ?_⟩
        simp
        rw [if_pos (by omega)]
        simp
        refine ⟨by omega, wrap_i64 (by omega) (by omega), k + 1, by omega, by omega, ?_⟩
        rw [hs]
        refine Leads.subx (ρ := [0]) ?_
        simp [hdt]
    · have hn : s[k]? = none := List.getElem?_eq_none (by omega)
      by_cases h6 : (fldK s k).2 = []
      · have hs : fldK s (k + 1) = ((fldK s k).1, []) := by simp [fldK, hn, h6]
        simp [h4, h6]
        refine ⟨wrap_i64 (by omega) (by omega), k + 1, by omega, by omega, ?_⟩
        rw [hs]
        refine Leads.subx (ρ := [0]) ?_
        simp
      · have hs : fldK s (k + 1) = ((fldK s k).1 ++ [(fldK s k).2], []) := by simp [fldK, hn, h6]
        simp [h4, h6]
        refine ⟨by omega, wrap_i64 (by omega) (by omega), k + 1, by omega, by omega, ?_⟩
        rw [hs]
        refine Leads.subx (ρ := [2]) ?_
        simp
  simp at h3
  have hke : k = s.length + 1 := by omega
  subst hke
  simp [XEndT, fldR]
end Go.Am
/- Contracts: the reference's guess of places from any lines; chapter 25 (under way). -/
namespace Go.Am
open Go Go.Proofs Go.Pn

def noteW (c : Circuit) (G : List Plc) (i j : Nat) (w : Txt) : List Plc := if idxI c.parts (fun p => decide (p.name = w)) < 0 then G else G.set (idxI c.parts fun p => decide (p.name = w)).toNat ⟨i, j⟩
def noteL (c : Circuit) (ws : List Txt) (i : Nat) (G : List Plc) : Nat → List Plc
  | 0 => G
  | j + 1 => match ws[j]? with | some w => noteW c (noteL c ws i G j) i j w | none => noteL c ws i G j
def guessK (c : Circuit) (lines : List Txt) : Nat → List Plc
  | 0 => List.replicate c.parts.length ⟨0, 0⟩
  | i + 1 => match lines[i]? with | some s => noteL c (fldR s) i (guessK c lines i) (fldR s).length | none => guessK c lines i
theorem noteW_len {c : Circuit} {G : List Plc} {i j : Nat} {w : Txt} : (noteW c G i j w).length = G.length := by unfold noteW; split <;> simp
theorem noteL_len {c : Circuit} {ws : List Txt} {i : Nat} {G : List Plc} : ∀ {j : Nat}, (noteL c ws i G j).length = G.length
  | 0 => rfl
  | j + 1 => by
    have ih := @noteL_len c ws i G j
    simp only [noteL]
    cases ws[j]? with
    | none => exact ih
    | some w => simp only [noteW_len, ih]
theorem guessK_len {c : Circuit} {lines : List Txt} : ∀ {i : Nat}, (guessK c lines i).length = c.parts.length
  | 0 => by simp [guessK]
  | i + 1 => by
    have ih := @guessK_len c lines i
    simp only [guessK]
    cases lines[i]? with
    | none => exact ih
    | some s => simp only [noteL_len, ih]

set_option maxRecDepth 20000 in
theorem c_pneumaticref25_Guess (c : Circuit) (lines : List Txt) (hs : Sized c) (hp : c.parts.length ≤ 64) (hn : lines.length ≤ 100) (hl : ∀ s ∈ lines, s.length ≤ 1000) : Pure Go.Proofs.Tryz.prog GL 59 [c.av, .p (.lst 1 (lines.map Txt.enc))] (.p (.lst 2 ((guessK c lines lines.length).map Plc.enc))) := by
  refine Pure.of_walk (N := 46) Go.Proofs.Tryz.func59 rfl rfl rfl (by simp) (by first | (simp; done) | simp [*]) ?_
  simp
  refine ⟨by omega, by omega, ?_⟩
  have hz : List.replicate c.parts.length [AV.p (PV.int IntKind.i64 0), AV.p (PV.int IntKind.i64 0)] = (guessK c lines 0).map Plc.row_ := by simp [guessK]
  rw [hz]
  refine XLoop.go [1, 2, 5] [0] 0 [] (fun _ => []) (fun _ (i : Nat) => [(6, .p (.int .i64 i))]) (fun _ i => [(1, some (.cells 2 ((guessK c lines i).map Plc.row_)))]) (fun i => i ≤ lines.length) (fun i => lines.length - i) 0 (by omega) ?_ ?_
  · simp
    try decide
  intro i hi
  simp
  refine xif_split (fun h3 => ?_) (fun h3 => ?_)
  · simp at h3
    obtain ⟨s, e⟩ := get_lt h3
    have hsl := hl s (List.mem_of_getElem? e)
    simp [h3, e, -getElem?_pos, List.getElem?_cons_zero, List.getElem?_cons_succ]
    refine xcall_pure (c_pneumaticref12_Fields s hsl) ?_
    simp
    have hgl := @guessK_len c lines i
    have hfl : (fldR s).length ≤ 1001 := by have := (@fldK_len s (s.length + 1)).1; unfold fldR; omega
    refine XLoop.go [1, 2, 5, 6, 7] [0] 0 [] (fun _ => []) (fun _ (j : Nat) => [(8, .p (.int .i64 j))]) (fun _ j => [(1, some (.cells 2 ((noteL c (fldR s) i (guessK c lines i) j).map Plc.row_)))]) (fun j => j ≤ (fldR s).length) (fun j => (fldR s).length - j) 0 (by omega) ?_ ?_
    · simp [noteL]
      try decide
    intro j hj
    have hnl := @noteL_len c (fldR s) i (guessK c lines i) j
    simp
    refine xif_split (fun h5 => ?_) (fun h5 => ?_)
    · simp at h5
      obtain ⟨w, ew⟩ := get_lt h5
      have hN : noteL c (fldR s) i (guessK c lines i) (j + 1) = noteW c (noteL c (fldR s) i (guessK c lines i) j) i j w := by simp [noteL, ew]
      generalize noteL c (fldR s) i (guessK c lines i) j = G at hnl hN ⊢
      simp
      refine XDraw.intro (by kernel_rfl) ?_
      simp [h5, ew, -getElem?_pos, List.getElem?_cons_zero, List.getElem?_cons_succ]
      refine xcall_pure (c_pneumaticref21_Index c w hs) ?_
      simp
      refine ⟨.of (by kernel_rfl), ?_⟩
      have hhi := @idxI_hi _ c.parts (fun p => decide (p.name = w))
      unfold noteW at hN
      generalize idxI c.parts (fun p => decide (p.name = w)) = x at hhi hN ⊢
      refine xif_split (fun h6 => ?_) (fun h6 => ?_)
      · simp at h6
        obtain ⟨k, rfl⟩ : ∃ k : Nat, x = k := ⟨x.toNat, by omega⟩
        rw [if_neg (by omega)] at hN
        have hk : k < c.parts.length := by omega
        obtain ⟨r, er⟩ := get_lt (show k < G.length by omega)
        simp [hk, er, hnl, hgl, -getElem?_pos, List.getElem?_cons_zero, List.getElem?_cons_succ]
        refine ⟨wrap_i64 (by omega) (by omega), j + 1, by omega, by omega, by omega, ?_⟩
        rw [hN, set_rowP]
        simp
      · simp at h6
        rw [if_pos h6] at hN
        simp
        refine ⟨wrap_i64 (by omega) (by omega), j + 1, by omega, by omega, by omega, ?_⟩
        simp [hN]
        try decide
    simp at h5
    have hjl : j = (fldR s).length := by omega
    subst hjl
    have hG : guessK c lines (i + 1) = noteL c (fldR s) i (guessK c lines i) (fldR s).length := by simp [guessK, e]
    simp
    refine ⟨wrap_i64 (by omega) (by omega), i + 1, by omega, by omega, by omega, ?_⟩
    simp [hG]
    try decide
  simp at h3
  have hil : i = lines.length := by omega
  subst hil
  have hgl := @guessK_len c lines lines.length
  simp [XEndT, hgl]
  rw [List.take_of_length_le (by simp [hgl])]
  rfl
end Go.Am
/- Contracts: the reference's Read on any lines; chapter 25. -/
namespace Go.Am
open Go Go.Proofs Go.Pn

set_option maxRecDepth 20000 in
theorem c_pneumaticref12_SameTexts (xs ys : List Txt) (hl : xs.length < 4611686018427387904) : Pure Go.Proofs.Tryz.prog GL 60 [.p (.lst 1 (xs.map Txt.enc)), .p (.lst 1 (ys.map Txt.enc))] (.p (.bool (decide (xs = ys)))) := by
  refine Pure.of_walk (N := 26) Go.Proofs.Tryz.func60 rfl rfl rfl (by simp) (by first | (simp; done) | simp [*]) ?_
  simp
  refine xif_split (fun h0 => ?_) (fun h0 => ?_)
  · simp at h0
    have hne : ¬ xs = ys := fun h => h0 (by rw [h])
    simp [XEndT, hne]
  · simp at h0
    simp
    refine XLoop.go [0, 1] [] 0 [] (fun _ => []) (fun _ (k : Nat) => [(5, .p (.int .i64 k))]) (fun _ _ => []) (fun k => k ≤ xs.length ∧ ∀ (j : Nat), j < k → xs[j]? = ys[j]?) (fun k => xs.length - k) 0 ⟨by omega, fun j h => by omega⟩ ?_ ?_
    · simp
    · rintro k ⟨hk, hp⟩
      simp
      refine xif_split (fun h => ?_) (fun h => ?_)
      · simp at h
        obtain ⟨x, e⟩ := get_lt h
        have h2 : k < ys.length := by omega
        obtain ⟨y, e2⟩ := get_lt h2
        simp
        refine XDraw.intro (by kernel_rfl) ?_
        simp [h, e, h2, e2, -getElem?_pos, List.getElem?_cons_zero, List.getElem?_cons_succ]
        refine ⟨.of (by kernel_rfl), ?_⟩
        refine xif_split (fun h3 => ?_) (fun h3 => ?_)
        · have hne : ¬ xs = ys := fun h => by subst h; rw [e] at e2; cases e2; simp at h3
          simp [XEndT, hne]
        · have hxy : x = y := by simpa using h3
          subst hxy
          simp
          refine ⟨wrap_i64 (by omega) (by omega), k + 1, ⟨by omega, fun j hj => ?_⟩, by omega, ?_⟩
          · by_cases hjk : j = k
            · subst hjk; rw [e, e2]
            · exact hp j (by omega)
          · simp
      · simp at h
        have hk2 : k = xs.length := by omega
        have hxy : xs = ys := List.ext_getElem? fun j => by
          by_cases hj : j < k
          · exact hp j hj
          · rw [List.getElem?_eq_none (by omega), List.getElem?_eq_none (by omega)]
        simp [XEndT, hxy]

def readErr (c : Circuit) (lines : List Txt) (G : List Plc) : Int := if checkP c ≠ 0 then checkP c else if layE c G = 0 ∧ drawN c G 5 = lines then 0 else 4
def readRes (c : Circuit) (lines : List Txt) (G : List Plc) : List Plc := if readErr c lines G = 0 then G else []

set_option maxRecDepth 20000 in
theorem c_pneumaticref25_Read (c : Circuit) (lines : List Txt) (hs : Sized c) (hn : lines.length ≤ 100) (hl : ∀ s ∈ lines, s.length ≤ 1000) (hw : checkP c = 0 → ∀ p ∈ c.parts, p.name.length ≤ 60) : Pure Go.Proofs.Tryz.prog GL 35 [c.av, .p (.lst 1 (lines.map Txt.enc))] (.tup [.p (.lst 2 ((readRes c lines (guessK c lines lines.length)).map Plc.enc)), .p (.int .i64 (readErr c lines (guessK c lines lines.length)))]) := by
  refine Pure.of_walk (N := 29) Go.Proofs.Tryz.func35 rfl rfl rfl (by simp) (by first | (simp; done) | simp [*]) ?_
  simp
  refine xcall_pure (c_pneumaticref21_Check c hs) ?_
  by_cases h : ¬ checkP c = 0
  · have e1 : readErr c lines (guessK c lines lines.length) = checkP c := if_pos h
    have e2 : readRes c lines (guessK c lines lines.length) = [] := if_neg (by rw [e1]; exact h)
    simp [h, XEndT, e1, e2]
  simp only [Decidable.not_not] at h
  have hp := (check_parts h).2.1
  have hG := c_pneumaticref25_Guess c lines hs hp hn hl
  have hgl := @guessK_len c lines lines.length
  generalize guessK c lines lines.length = G at hG hgl ⊢
  simp [h]
  refine xcall_pure hG ?_
  have hC := c_pneumaticref25_Check c G hs
  simp
  refine xcall_pure hC ?_
  by_cases h2 : layE c G = 0
  · obtain ⟨_, hL⟩ := layE_zero.1 h2
    have hLi := c_pneumaticref25_Lines c G h hL (by omega) (hw h)
    rw [refLs_eq h hL] at hLi
    have hS := c_pneumaticref12_SameTexts (drawN c G 5) lines (by rw [drawN_len]; omega)
    simp [h2]
    refine xcall_pure hLi ?_
    simp
    refine xcall_pure hS ?_
    by_cases h3 : drawN c G 5 = lines
    · have e1 : readErr c lines G = 0 := by unfold readErr; rw [if_neg (by simpa using h), if_pos ⟨h2, h3⟩]
      have e2 : readRes c lines G = G := if_pos e1
      simp [h3, XEndT, e1, e2]
    · have e1 : readErr c lines G = 4 := by unfold readErr; rw [if_neg (by simpa using h), if_neg (fun h4 => h3 h4.2)]
      have e2 : readRes c lines G = [] := if_neg (by rw [e1]; decide)
      simp [h3, XEndT, e1, e2]
  · have e1 : readErr c lines G = 4 := by unfold readErr; rw [if_neg (by simpa using h), if_neg (fun h4 => h2 h4.1)]
    have e2 : readRes c lines G = [] := if_neg (by rw [e1]; decide)
    simp [h2, XEndT, e1, e2]
end Go.Am
