/- Lemmas and contracts for the proof of a statement of this seat. -/
import Derived.Test.YtkofnocfackjiaaGreatDoorZF8
set_option linter.unusedVariables false
set_option linter.unusedSimpArgs false
/- Contracts: LabelNames, LabelFinds, LabelFormats, LabelOrders; chapter 26. -/
namespace Go.Am
open Go Go.Proofs Go.Pn


set_option maxRecDepth 20000 in
theorem c_LabelNames (c : Circuit) (hs : Sized c) : Pure Tryz.prog GL4 4 [c.av] (.p (.bool true)) := by
  refine Pure.of_walk (N := 57) Tryz.func4 rfl rfl rfl (by simp) (by simp) ?_
  have hF := wF (c_few0 c hs)
  have hA := wF (c_label_Groups c hs)
  have hB := wF (c_pneumaticref26_Groups c hs)
  have hX := wF (c_label_Labels c hs)
  have hY := wF (c_pneumaticref26_Labels c hs)
  have hG := @groupsL_len c
  have hL := @labelsL_len c
  have hp : checkP c = 0 → c.parts.length ≤ 64 := fun h => (check_parts h).2.1
  have hgl : (if checkP c = 0 then groupsL c else []).length ≤ 64 := by split; rw [hG]; exact hp (by assumption); simp
  have hll : (if checkP c = 0 then labelsL c else []).length ≤ 64 := by split; rw [hL]; exact hp (by assumption); simp
  generalize (if checkP c = 0 then groupsL c else []) = G at *
  generalize (if checkP c = 0 then labelsL c else []) = L at *
  have hEI := wF (c_Eq_Int G G (by omega))
  have hOw := wF (c_pneumaticlaw26_own L (by omega))
  have hSa := wF (c_pneumaticref26_Same L L (by omega))
  simp
  refine xcall_pure hF ?_
  cases hf : fewP c with
  | false =>
    simp
    refine xcall_pure c_awake26 ?_
    simp [XEndT]
  | true =>
    simp
    refine xcall_pure hA ?_
    simp
    refine xcall_pure hB ?_
    simp
    refine xcall_pure hX ?_
    simp
    refine xcall_pure hY ?_
    simp
    refine xcall_pure c_awake26 ?_
    simp
    refine xcall_pure hEI ?_
    simp
    refine xcall_pure hOw ?_
    simp
    refine xcall_pure hSa ?_
    simp [XEndT]

set_option maxRecDepth 20000 in
theorem c_LabelFinds (c : Circuit) (x : Lbl) (hs : Sized c) (hl : x.ltr.length < 4611686018427387900) : Pure Tryz.prog GL4 5 [c.av, x.av] (.p (.bool true)) := by
  refine Pure.of_walk (N := 63) Tryz.func5 rfl rfl rfl (by simp) (by simp) ?_
  have hF := wF (c_pneumaticlaw26_few c [x.ltr] hs (by simp) (by simpa using hl))
  simp
  refine xcall_lent ?_
  simp
  refine ⟨_, hF, rfl, ?_⟩
  cases hf : (fewP c && !manyTexts [x.ltr]) with
  | false =>
    simp
    refine xcall_pure c_awake26 ?_
    simp [XEndT]
  | true =>
    simp only [Bool.and_eq_true] at hf
    have hA := wF (c_label_Find c x hs (by omega))
    have hB := wF (c_pneumaticref26_Find c x hs)
    have hX := wF (c_label_Legend c hs (few_legend hf.1))
    have hY := wF (c_pneumaticref26_Legend c hs)
    have hL := @legT_len c c.parts.length
    have hp : checkP c = 0 → c.parts.length ≤ 64 := fun h => (check_parts h).2.1
    have hll : (if checkP c = 0 then legendL c else []).length ≤ 4096 := by
      split
      · rename_i h
        have := hp h
        unfold legendL
        have : c.parts.length * c.parts.length ≤ 64 * 64 := Nat.mul_le_mul (by omega) (by omega)
        omega
      · simp
    generalize (if checkP c = 0 then legendL c else []) = L at *
    have hES := wF (c_Eq_Str L L (by omega))
    simp
    refine xcall_pure hA ?_
    simp
    refine xcall_pure hB ?_
    simp
    refine xcall_pure hX ?_
    simp
    refine xcall_pure hY ?_
    simp
    refine xcall_pure c_awake26 ?_
    simp
    refine xcall_pure hES ?_
    simp [XEndT]

theorem c_LabelFormats (x y : Lbl) (hx : x.ltr.length < 4611686018427387900) (hy : y.ltr.length < 4611686018427387900) : Pure Tryz.prog GL4 8 [x.av, y.av] (.p (.bool true)) := by
  refine Pure.of_walk (N := 67) Tryz.func8 rfl rfl rfl (by simp) (by simp) ?_
  have hA := wF (c_label_Format x (by omega))
  have hB := wF (c_pneumaticref26_Format x)
  have hC := wF (c_label_Compare x y (by omega) (by omega))
  have hD := wF (c_pneumaticref26_Compare x y)
  simp
  by_cases h1 : (x.ltr.length : Int) ≤ 100
  · have h1' : ¬ 100 < (x.ltr.length : Int) := by omega
    by_cases h2 : (y.ltr.length : Int) ≤ 100
    · have h2' : ¬ 100 < (y.ltr.length : Int) := by omega
      simp [h1, h1', h2, h2']
      refine xcall_pure hA ?_
      simp
      refine xcall_pure hB ?_
      simp
      refine xcall_pure hC ?_
      simp
      refine xcall_pure hD ?_
      simp
      refine xcall_pure c_awake26 ?_
      simp [XEndT]
    · have h2' : 100 < (y.ltr.length : Int) := by omega
      simp [h1, h1', h2, h2']
      refine xcall_pure c_awake26 ?_
      simp [XEndT]
  · have h1' : 100 < (x.ltr.length : Int) := by omega
    simp [h1, h1']
    refine xcall_pure c_awake26 ?_
    simp [XEndT]

set_option maxRecDepth 20000 in
theorem c_LabelOrders (x y z : Lbl) (hx : x.ltr.length < 4611686018427387900) (hy : y.ltr.length < 4611686018427387900) (hz : z.ltr.length < 4611686018427387900) : Pure Tryz.prog GL4 6 [x.av, y.av, z.av] (.p (.bool true)) := by
  refine Pure.of_walk (N := 99) Tryz.func6 rfl rfl rfl (by simp) (by simp) ?_
  have hX := wF (c_pneumaticref26_Check x)
  have hY := wF (c_pneumaticref26_Check y)
  have hZ := wF (c_pneumaticref26_Check z)
  by_cases h1 : chkL x = 0
  · by_cases h2 : chkL y = 0
    · by_cases h3 : chkL z = 0
      · have hA := wF (c_label_Compare x y (by omega) (by omega))
        have hB := wF (c_label_Compare y x (by omega) (by omega))
        have hC := wF (c_label_Compare y z (by omega) (by omega))
        have hD := wF (c_label_Compare x z (by omega) (by omega))
        obtain ⟨l1, l2, l3, l4⟩ := order_law x y z
        simp only [cmpE, cmpR, h1, h2, h3] at hA hB hC hD
        simp at hA hB hC hD
        have hr : -1 ≤ cmpLbl y x ∧ cmpLbl y x ≤ 1 := by rw [cmpLbl_is]; split; omega; split <;> omega
        generalize cmpLbl x y = a at *
        generalize cmpLbl y x = b at *
        generalize cmpLbl y z = d at *
        generalize cmpLbl x z = e at *
        simp
        refine xcall_pure hX ?_
        simp [h1]
        refine xcall_pure hY ?_
        simp [h2]
        refine xcall_pure hZ ?_
        simp [h3]
        refine xcall_pure hA ?_
        simp
        refine xcall_pure hB ?_
        simp
        refine xcall_pure hC ?_
        simp
        refine xcall_pure hD ?_
        obtain rfl : b = -a := by omega
        have hw : IntKind.i64.wrap a = a := wrap_i64 (by omega) (by omega)
        have hnx : x.grp < y.grp → ¬ x = y := fun h e => by subst e; omega
        by_cases hg : x.grp < y.grp
        · have ha := l3 hg
          have ha0 : ¬ a = 0 := by omega
          have ha1 : ¬ 0 < a := by omega
          have hxy := hnx hg
          simp [hw, hg, hxy, ha0]
          simp [ha]
          by_cases hd : 0 < d
          · simp [hd]
            refine xcall_pure c_awake26 ?_
            simp [XEndT]
          · have he : e ≤ 0 := by omega
            simp [hd, he]
            refine xcall_pure c_awake26 ?_
            simp [XEndT]
        · by_cases hxy : x = y
          · have ha := l2.2 hxy
            subst hxy
            simp [hw, hg, ha]
            by_cases hd : 0 < d
            · simp [hd]
              refine xcall_pure c_awake26 ?_
              simp [XEndT]
            · have he : e ≤ 0 := by omega
              simp [hd, he]
              refine xcall_pure c_awake26 ?_
              simp [XEndT]
          · have ha : ¬ a = 0 := fun h => hxy (l2.1 h)
            simp [hw, hg, hxy, ha]
            by_cases ha2 : 0 < a
            · simp [ha2]
              refine xcall_pure c_awake26 ?_
              simp [XEndT]
            · by_cases hd : 0 < d
              · simp [ha2, hd]
                refine xcall_pure c_awake26 ?_
                simp [XEndT]
              · have he : e ≤ 0 := by omega
                simp [ha2, hd, he]
                refine xcall_pure c_awake26 ?_
                simp [XEndT]
      · simp
        refine xcall_pure hX ?_
        simp [h1]
        refine xcall_pure hY ?_
        simp [h2]
        refine xcall_pure hZ ?_
        simp [h3]
        refine xcall_pure c_awake26 ?_
        simp [XEndT]
    · simp
      refine xcall_pure hX ?_
      simp [h1]
      refine xcall_pure hY ?_
      simp [h2]
      refine xcall_pure c_awake26 ?_
      simp [XEndT]
  · simp
    refine xcall_pure hX ?_
    simp [h1]
    refine xcall_pure c_awake26 ?_
    simp [XEndT]
end Go.Am
/- Contracts: LabelDiffers; chapter 26. -/
namespace Go.Am
open Go Go.Proofs Go.Pn



theorem c_Idx_Lbl (xs : List Lbl) (v : Lbl) (hl : xs.length < 4611686018427387904) : Pure Tryz.prog GL 65 [.p (.lst 3 (xs.map Lbl.enc)), Lbl.av v] (.p (.int .i64 (idxI xs fun x => decide (x = v)))) := by
  refine Pure.of_walk (N := 19) Tryz.func65 rfl rfl rfl (by simp) (by first | (simp; done) | simp [*]) ?_
  simp
  refine XLoop.go [0, 3, 7] [0] 0 [] (fun _ => []) (fun _ (k : Nat) => [(8, .p (.int .i64 k))]) (fun _ _ => []) (fun k => k ≤ xs.length ∧ ∀ (j : Nat) x, j < k → xs[j]? = some x → decide (x = v) = false) (fun k => xs.length - k) 0 ⟨by omega, fun j b h => by omega⟩ ?_ ?_
  · simp
  · rintro k ⟨hk, hp⟩
    simp
    refine xif_split (fun h => ?_) (fun h => ?_)
    · simp at h
      obtain ⟨x, e⟩ := get_lt h
      simp <;> refine XDraw.intro (by kernel_rfl) ?_
      simp [h, e, -getElem?_pos, List.getElem?_cons_zero, List.getElem?_cons_succ]
      refine ⟨.of (by kernel_rfl), ?_⟩
      refine xif_split (fun h2 => ?_) (fun h2 => ?_)
      · have h3 : decide (x = v) = true := by grind
        simp [XEndT, idxI_at (q := fun x => decide (x = v)) e h3 hp]
      · have h3 : decide (x = v) = false := by grind
        simp
        refine ⟨wrap_i64 (by omega) (by omega), k + 1, ⟨by omega, ?_⟩, by omega, ?_⟩
        · simpa using below_next (P := fun x => decide (x = v) = false) hp e h3
        · simp
    · simp at h
      have hk2 : k = xs.length := by omega
      subst hk2
      simp [XEndT, idxI_none (q := fun x => decide (x = v)) (below_all hp)]


theorem c_Con_Lbl (xs : List Lbl) (v : Lbl) (hl : xs.length < 4611686018427387904) : Pure Tryz.prog GL 32 [.p (.lst 3 (xs.map Lbl.enc)), Lbl.av v] (.p (.bool (decide (v ∈ xs)))) := by
  refine Pure.of_walk (N := 9) Tryz.func32 rfl rfl rfl (by simp) (by first | (simp; done) | simp [*]) ?_
  simp
  refine xcall_pure (c_Idx_Lbl xs v hl) ?_
  simp [XEndT, idxI_nonneg]


theorem cnt_before {c : Circuit} {y : Int × Txt} {m : Nat} : ∀ {i : Nat}, m < cntG c y i → ∃ k, k < i ∧ keyG c k = y ∧ cntG c y k = m
  | 0, h => by simp [cntG] at h
  | i + 1, h => by
    rw [cntG_step] at h
    by_cases hm : m < cntG c y i
    · obtain ⟨k, h1, h2, h3⟩ := cnt_before hm
      exact ⟨k, by omega, h2, h3⟩
    · by_cases hk : keyG c i = y
      · rw [if_pos hk] at h
        exact ⟨i, by omega, hk, by omega⟩
      · rw [if_neg hk] at h; omega
theorem lbl_before {c : Circuit} {i : Nat} (h : 1 < (lblN c i).num) : (⟨(lblN c i).grp, (lblN c i).ltr, (lblN c i).num - 1⟩ : Lbl) ∈ labelsT c i := by
  have h1 : (lblN c i).num = ((cntG c (keyG c i) i : Nat) : Int) + 1 := rfl
  obtain ⟨k, h2, h3, h4⟩ := @cnt_before c (keyG c i) (cntG c (keyG c i) i - 1) i (by omega)
  refine List.mem_map.2 ⟨k, by simpa using h2, ?_⟩
  unfold lblN
  simp only [h3, h4, Lbl.mk.injEq, true_and]
  omega
theorem lbl_fresh {c : Circuit} {i : Nat} : lblN c i ∉ labelsT c i := by
  intro h
  obtain ⟨k, hk, e⟩ := List.mem_map.1 h
  rw [List.mem_range] at hk
  have := lbl_inj e
  omega
theorem lbl_take {c : Circuit} {i : Nat} (h : i ≤ c.parts.length) : (labelsL c).take i = labelsT c i := by
  unfold labelsL labelsT
  rw [← List.map_take, List.take_range, Nat.min_eq_left h]
theorem lbl_find {c : Circuit} (h : checkP c = 0) {i : Nat} (hi : i < c.parts.length) : fndE c (lblN c i) = 0 ∧ fndR c (lblN c i) = i := by
  have hok := lbl_ok h hi
  have hm : (labelsL c)[i]? = some (lblN c i) := labelsT_at hi
  have e : fndE c (lblN c i) = 0 := by
    unfold fndE
    rw [if_neg (by simpa using h), if_neg (by simpa using hok), if_pos (List.mem_of_getElem? hm)]
  refine ⟨e, ?_⟩
  unfold fndR
  rw [e, if_neg (by simp)]
  refine idxI_at (q := fun y => decide (y = lblN c i)) hm (by simp) fun j y hj ey => ?_
  have : (labelsL c)[j]? = some (lblN c j) := labelsT_at (by omega)
  rw [this] at ey; cases ey
  exact decide_eq_false fun he => by have := lbl_inj he; omega
theorem text_ascii {x : Lbl} (h : chkL x = 0) : ∀ b ∈ textL x, b.toNat < 128 := by
  obtain ⟨⟨a1, a2⟩, _, a4, a5⟩ := chkL_zero.1 h
  obtain ⟨b, e1, e2, e3, _⟩ := text_reads h
  obtain ⟨_, _, c3, _, _⟩ := @dig_val x.grp.toNat (by omega)
  obtain ⟨_, _, d3, _, _⟩ := @dig_val x.num.toNat (by omega)
  intro y hy
  rw [e3] at hy
  rcases List.mem_append.1 hy with hy | hy
  · have := digit_iff.1 (c3 y hy); omega
  · rcases List.mem_cons.1 hy with rfl | hy
    · exact asvz_small _ e2
    · have := digit_iff.1 (d3 y hy); omega

set_option maxRecDepth 40000 in
theorem c_LabelDiffers (c : Circuit) (hs : Sized c) : Pure Tryz.prog GL4 7 [c.av] (.p (.bool true)) := by
  refine Pure.of_walk (N := 143) Tryz.func7 rfl rfl rfl (by simp) (by simp) ?_
  have hF := wF (c_pneumaticlaw26_right c hs)
  simp
  refine xcall_pure hF ?_
  cases hf : (fewP c && decide (checkP c = 0)) with
  | false =>
    simp
    refine xcall_pure c_awake26 ?_
    simp [XEndT]
  | true =>
    simp only [Bool.and_eq_true, decide_eq_true_eq] at hf
    obtain ⟨hfw, h⟩ := hf
    have h2 := (check_parts h).2.1
    have hL := wF (c_label_Labels c hs)
    have hG := wF (c_label_Groups c hs)
    rw [if_pos h, h] at hL hG
    have hgl := @groupsL_len c
    have hll := @labelsL_len c
    simp
    refine xcall_pure hL ?_
    simp
    refine xcall_pure hG ?_
    simp [hgl, hll]
    refine XLoop.go [1, 3, 5, 50, 51] [0] 0 [] (fun _ => []) (fun _ (i : Nat) => [(52, .p (.int .i64 i))]) (fun _ _ => []) (fun i => i ≤ c.parts.length) (fun i => c.parts.length - i) 0 (by omega) ?_ ?_
    · simp
      try decide
    intro i hi
    simp
    refine xif_split (fun h3 => ?_) (fun h3 => ?_)
    · simp at h3
      obtain ⟨q, eq⟩ := get_lt h3
      have hok := lbl_ok h h3
      have eL : (labelsL c)[i]? = some (lblN c i) := labelsT_at h3
      obtain ⟨g, eg⟩ := get_lt (show i < (groupsL c).length by omega)
      have hgx : (lblN c i).grp = g := by
        show gAt (groupsL c) i = g
        exact gAt_nat eg
      have hlx : (lblN c i).ltr = letterN q.kind := by
        show letterN (kindAt c i) = _
        rw [kind_at eq]
      have hqk := part_kind h eq
      have hke := kindErr_ok.2 hqk
      have hLe := wF (c_part_Letter q.kind)
      have hlt : letterOf q.kind.toNat = letterN q.kind := by
        have := @letter_is q.kind.toNat (by omega)
        rw [this]; congr 1; omega
      rw [hke, if_pos rfl, hlt, ← hlx] at hLe
      rw [← hgx] at eg
      have htk : List.take i (List.map Lbl.enc (labelsL c)) = List.map Lbl.enc (labelsT c i) := by rw [← List.map_take, lbl_take (by omega)]
      have htl := @labelsT_len c i
      have hfr := @lbl_fresh c i
      have hbf := @lbl_before c i
      obtain ⟨f1, f2⟩ := lbl_find h h3
      obtain ⟨b, hb, _⟩ := ltr_one hok
      have hFi := wF (c_label_Find c (lblN c i) hs (by rw [hb]; simp))
      have hFo := wF (c_label_Format (lblN c i) (by rw [hb]; simp))
      have htx := textL_len hok
      have hPa := c_label_Parse (textL (lblN c i)) (by omega) (.inl (text_ascii hok))
      obtain ⟨p1, p2⟩ := par_of hok rfl
      rw [f1, f2] at hFi
      rw [hok, show fmtL (lblN c i) = textL (lblN c i) from if_pos hok] at hFo
      rw [p1, p2] at hPa
      have hC1 := wF (c_Con_Lbl (labelsT c i) ⟨(lblN c i).grp, (lblN c i).ltr, (lblN c i).num - 1⟩ (by omega))
      have hC2 := wF (c_Con_Lbl (labelsT c i) (lblN c i) (by omega))
      have hnr := (chkL_zero.1 hok).2.2
      generalize lblN c i = x at *
      have hwn : IntKind.i64.wrap (x.num - 1) = x.num - 1 := wrap_i64 (by omega) (by omega)
      have hil : i ≤ c.parts.length := by omega
      simp [h3, hll, eL, -getElem?_pos, List.getElem?_cons_zero, List.getElem?_cons_succ]
      refine xcall_pure hFi ?_
      simp
      refine xcall_pure hFo ?_
      simp
      refine xcall_pure hPa ?_
      simp [h3, eq, -getElem?_pos, List.getElem?_cons_zero, List.getElem?_cons_succ]
      refine xcall_pure hLe ?_
      simp
      refine XDraw.intro (by kernel_rfl) ?_
      simp [h3, hgl, eg, -getElem?_pos, List.getElem?_cons_zero, List.getElem?_cons_succ]
      refine ⟨.of (by kernel_rfl), ?_⟩
      by_cases hn : 1 < x.num
      · have hb1 := hbf hn
        refine XDraw.intro (by kernel_rfl) ?_
        simp [hn, hll, hil, hwn, htk, -getElem?_pos, List.getElem?_cons_zero, List.getElem?_cons_succ]
        refine xcall_pure hC1 ?_
        simp [hb1, hll, hil, hwn, htk, -getElem?_pos, List.getElem?_cons_zero, List.getElem?_cons_succ]
        refine xcall_pure hC2 ?_
        simp [hfr, -getElem?_pos, List.getElem?_cons_zero, List.getElem?_cons_succ]
        exact ⟨.of (by kernel_rfl), wrap_i64 (by omega) (by omega), i + 1, by omega, by omega, by omega⟩
      · refine XDraw.intro (by kernel_rfl) ?_
        simp [hn, hll, hil, hwn, htk, -getElem?_pos, List.getElem?_cons_zero, List.getElem?_cons_succ]
        refine xcall_pure hC2 ?_
        simp [hfr, -getElem?_pos, List.getElem?_cons_zero, List.getElem?_cons_succ]
        exact ⟨.of (by kernel_rfl), wrap_i64 (by omega) (by omega), i + 1, by omega, by omega, by omega⟩
    · simp at h3
      simp
      refine xcall_pure c_awake26 ?_
      simp [XEndT]
end Go.Am
