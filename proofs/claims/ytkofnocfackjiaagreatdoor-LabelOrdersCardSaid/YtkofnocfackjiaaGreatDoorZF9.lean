/- Contracts: LabelNames, LabelFinds, LabelFormats, LabelOrders; chapter 26. -/
import Derived.Test.YtkofnocfackjiaaGreatDoorZF8
set_option linter.unusedVariables false
set_option linter.unusedSimpArgs false
namespace Go.Am
open Go Go.Proofs Go.Pn


set_option maxRecDepth 20000 in
theorem c_LabelNames (c : Circuit) (hs : Sized c) : Pure Tryz.prog GL4 4 [c.av] (.p (.bool true)) := by
  refine Pure.of_walk (N := 57) Tryz.func4 rfl rfl rfl (by simp) (by simp) ?_
  have hF := wF (c_few0 c hs)
  have hA := wF (c_label_Groups c hs)
  have hB := wF (c_pneumaticref26_Groups c hs)
  have hX := wF (c_label_Labels c hs)
  have hY := wF (c_pneumaticref26_Labels c hs)
  have hG := @groupsL_len c
  have hL := @labelsL_len c
  have hp : checkP c = 0 → c.parts.length ≤ 64 := fun h => (check_parts h).2.1
  have hgl : (if checkP c = 0 then groupsL c else []).length ≤ 64 := by split; rw [hG]; exact hp (by assumption); simp
  have hll : (if checkP c = 0 then labelsL c else []).length ≤ 64 := by split; rw [hL]; exact hp (by assumption); simp
  generalize (if checkP c = 0 then groupsL c else []) = G at *
  generalize (if checkP c = 0 then labelsL c else []) = L at *
  have hEI := wF (c_Eq_Int G G (by omega))
  have hOw := wF (c_pneumaticlaw26_own L (by omega))
  have hSa := wF (c_pneumaticref26_Same L L (by omega))
  simp
  refine xcall_pure hF ?_
  cases hf : fewP c with
  | false =>
    simp
    refine xcall_pure c_awake26 ?_
    simp [XEndT]
  | true =>
    simp
    refine xcall_pure hA ?_
    simp
    refine xcall_pure hB ?_
    simp
    refine xcall_pure hX ?_
    simp
    refine xcall_pure hY ?_
    simp
    refine xcall_pure c_awake26 ?_
    simp
    refine xcall_pure hEI ?_
    simp
    refine xcall_pure hOw ?_
    simp
    refine xcall_pure hSa ?_
    simp [XEndT]

set_option maxRecDepth 20000 in
theorem c_LabelFinds (c : Circuit) (x : Lbl) (hs : Sized c) (hl : x.ltr.length < 4611686018427387900) : Pure Tryz.prog GL4 5 [c.av, x.av] (.p (.bool true)) := by
  refine Pure.of_walk (N := 63) Tryz.func5 rfl rfl rfl (by simp) (by simp) ?_
  have hF := wF (c_pneumaticlaw26_few c [x.ltr] hs (by simp) (by simpa using hl))
  simp
  refine xcall_lent ?_
  simp
  refine ⟨_, hF, rfl, ?_⟩
  cases hf : (fewP c && !manyTexts [x.ltr]) with
  | false =>
    simp
    refine xcall_pure c_awake26 ?_
    simp [XEndT]
  | true =>
    simp only [Bool.and_eq_true] at hf
    have hA := wF (c_label_Find c x hs (by omega))
    have hB := wF (c_pneumaticref26_Find c x hs)
    have hX := wF (c_label_Legend c hs (few_legend hf.1))
    have hY := wF (c_pneumaticref26_Legend c hs)
    have hL := @legT_len c c.parts.length
    have hp : checkP c = 0 → c.parts.length ≤ 64 := fun h => (check_parts h).2.1
    have hll : (if checkP c = 0 then legendL c else []).length ≤ 4096 := by
      split
      · rename_i h
        have := hp h
        unfold legendL
        have : c.parts.length * c.parts.length ≤ 64 * 64 := Nat.mul_le_mul (by omega) (by omega)
        omega
      · simp
    generalize (if checkP c = 0 then legendL c else []) = L at *
    have hES := wF (c_Eq_Str L L (by omega))
    simp
    refine xcall_pure hA ?_
    simp
    refine xcall_pure hB ?_
    simp
    refine xcall_pure hX ?_
    simp
    refine xcall_pure hY ?_
    simp
    refine xcall_pure c_awake26 ?_
    simp
    refine xcall_pure hES ?_
    simp [XEndT]

theorem c_LabelFormats (x y : Lbl) (hx : x.ltr.length < 4611686018427387900) (hy : y.ltr.length < 4611686018427387900) : Pure Tryz.prog GL4 8 [x.av, y.av] (.p (.bool true)) := by
  refine Pure.of_walk (N := 67) Tryz.func8 rfl rfl rfl (by simp) (by simp) ?_
  have hA := wF (c_label_Format x (by omega))
  have hB := wF (c_pneumaticref26_Format x)
  have hC := wF (c_label_Compare x y (by omega) (by omega))
  have hD := wF (c_pneumaticref26_Compare x y)
  simp
  by_cases h1 : (x.ltr.length : Int) ≤ 100
  · have h1' : ¬ 100 < (x.ltr.length : Int) := by omega
    by_cases h2 : (y.ltr.length : Int) ≤ 100
    · have h2' : ¬ 100 < (y.ltr.length : Int) := by omega
      simp [h1, h1', h2, h2']
      refine xcall_pure hA ?_
      simp
      refine xcall_pure hB ?_
      simp
      refine xcall_pure hC ?_
      simp
      refine xcall_pure hD ?_
      simp
      refine xcall_pure c_awake26 ?_
      simp [XEndT]
    · have h2' : 100 < (y.ltr.length : Int) := by omega
      simp [h1, h1', h2, h2']
      refine xcall_pure c_awake26 ?_
      simp [XEndT]
  · have h1' : 100 < (x.ltr.length : Int) := by omega
    simp [h1, h1']
    refine xcall_pure c_awake26 ?_
    simp [XEndT]

set_option maxRecDepth 20000 in
theorem c_LabelOrders (x y z : Lbl) (hx : x.ltr.length < 4611686018427387900) (hy : y.ltr.length < 4611686018427387900) (hz : z.ltr.length < 4611686018427387900) : Pure Tryz.prog GL4 6 [x.av, y.av, z.av] (.p (.bool true)) := by
  refine Pure.of_walk (N := 99) Tryz.func6 rfl rfl rfl (by simp) (by simp) ?_
  have hX := wF (c_pneumaticref26_Check x)
  have hY := wF (c_pneumaticref26_Check y)
  have hZ := wF (c_pneumaticref26_Check z)
  by_cases h1 : chkL x = 0
  · by_cases h2 : chkL y = 0
    · by_cases h3 : chkL z = 0
      · have hA := wF (c_label_Compare x y (by omega) (by omega))
        have hB := wF (c_label_Compare y x (by omega) (by omega))
        have hC := wF (c_label_Compare y z (by omega) (by omega))
        have hD := wF (c_label_Compare x z (by omega) (by omega))
        obtain ⟨l1, l2, l3, l4⟩ := order_law x y z
        simp only [cmpE, cmpR, h1, h2, h3] at hA hB hC hD
        simp at hA hB hC hD
        have hr : -1 ≤ cmpLbl y x ∧ cmpLbl y x ≤ 1 := by rw [cmpLbl_is]; split; omega; split <;> omega
        generalize cmpLbl x y = a at *
        generalize cmpLbl y x = b at *
        generalize cmpLbl y z = d at *
        generalize cmpLbl x z = e at *
        simp
        refine xcall_pure hX ?_
        simp [h1]
        refine xcall_pure hY ?_
        simp [h2]
        refine xcall_pure hZ ?_
        simp [h3]
        refine xcall_pure hA ?_
        simp
        refine xcall_pure hB ?_
        simp
        refine xcall_pure hC ?_
        simp
        refine xcall_pure hD ?_
        obtain rfl : b = -a := by omega
        have hw : IntKind.i64.wrap a = a := wrap_i64 (by omega) (by omega)
        have hnx : x.grp < y.grp → ¬ x = y := fun h e => by subst e; omega
        by_cases hg : x.grp < y.grp
        · have ha := l3 hg
          have ha0 : ¬ a = 0 := by omega
          have ha1 : ¬ 0 < a := by omega
          have hxy := hnx hg
          simp [hw, hg, hxy, ha0]
          simp [ha]
          by_cases hd : 0 < d
          · simp [hd]
            refine xcall_pure c_awake26 ?_
            simp [XEndT]
          · have he : e ≤ 0 := by omega
            simp [hd, he]
            refine xcall_pure c_awake26 ?_
            simp [XEndT]
        · by_cases hxy : x = y
          · have ha := l2.2 hxy
            subst hxy
            simp [hw, hg, ha]
            by_cases hd : 0 < d
            · simp [hd]
              refine xcall_pure c_awake26 ?_
              simp [XEndT]
            · have he : e ≤ 0 := by omega
              simp [hd, he]
              refine xcall_pure c_awake26 ?_
              simp [XEndT]
          · have ha : ¬ a = 0 := fun h => hxy (l2.1 h)
            simp [hw, hg, hxy, ha]
            by_cases ha2 : 0 < a
            · simp [ha2]
              refine xcall_pure c_awake26 ?_
              simp [XEndT]
            · by_cases hd : 0 < d
              · simp [ha2, hd]
                refine xcall_pure c_awake26 ?_
                simp [XEndT]
              · have he : e ≤ 0 := by omega
                simp [ha2, hd, he]
                refine xcall_pure c_awake26 ?_
                simp [XEndT]
      · simp
        refine xcall_pure hX ?_
        simp [h1]
        refine xcall_pure hY ?_
        simp [h2]
        refine xcall_pure hZ ?_
        simp [h3]
        refine xcall_pure c_awake26 ?_
        simp [XEndT]
    · simp
      refine xcall_pure hX ?_
      simp [h1]
      refine xcall_pure hY ?_
      simp [h2]
      refine xcall_pure c_awake26 ?_
      simp [XEndT]
  · simp
    refine xcall_pure hX ?_
    simp [h1]
    refine xcall_pure c_awake26 ?_
    simp [XEndT]
end Go.Am
