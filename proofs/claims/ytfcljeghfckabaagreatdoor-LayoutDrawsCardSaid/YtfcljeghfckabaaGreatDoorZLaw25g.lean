/- Contracts: the law LayoutDraws. -/
import Derived.Test.YtfcljeghfckabaaGreatDoorZE4
import Derived.Test.YtfcljeghfckabaaGreatDoorZLaw25b
set_option linter.unusedVariables false
set_option linter.unusedSimpArgs false
namespace Go.Am
open Go Go.Proofs Go.Pn


theorem c_pneumaticlaw25_LayoutDraws_1 (s : Txt) (hs : s.length < 4611686018427387904) : Pure Go.Proofs.Tryz.prog GL 33 [.p (.str s)] (.p (.bool (decide (300 < s.length)))) := by
  refine Pure.of_walk (N := 6) Go.Proofs.Tryz.func33 rfl rfl rfl (by simp) (by first | (simp; done) | simp [*]) ?_
  simp
  simp [XEndT]
  omega

theorem drawRes_len {c : Circuit} {l : List Plc} : (drawRes c l).length < 4611686018427387904 := by
  unfold drawRes
  split
  · simp
  · rw [drawN_len]; omega
theorem readRes_len {c : Circuit} {lines : List Txt} {G : List Plc} (hG : G.length = c.parts.length) : (readRes c lines G).length < 4611686018427387904 := by
  unfold readRes
  split
  · rename_i h
    rw [hG]
    by_cases hc : checkP c = 0
    · have := (check_parts hc).2.1
      omega
    · unfold readErr at h
      rw [if_pos hc] at h
      exact absurd h hc
  · simp

set_option maxRecDepth 20000 in
theorem c_pneumaticlaw25_LayoutDraws (c : Circuit) (l : List Plc) (lines : List Txt) (hs : Sized c) (_hl : l.length < 4611686018427387904) (hln : lines.length < 4611686018427387904 ∧ ∀ s ∈ lines, s.length < 4611686018427387900) : Pure Go.Proofs.Tryz.prog GL3 9 [c.av, .p (.lst 2 (l.map Plc.enc)), .p (.lst 1 (lines.map Txt.enc))] (.p (.bool true)) := by
  have haw := c_pneumaticlaw25_awake.wider GL_one_three
  have hF := (c_pneumaticlaw25_few c l hs).wider GL_one_three
  have hC := (c_ConF_Txt lines (fun s => decide (300 < s.length)) 33 [] rfl (by omega) (fun s hs => c_pneumaticlaw25_LayoutDraws_1 s (by have := hln.2 s hs; omega))).wider GL_one_three
  refine Pure.of_walk (N := 74) Go.Proofs.Tryz.func9 rfl rfl rfl (by simp) rfl ?_
  cases hf : (fewP c && decide (l.length ≤ 70)) with
  | false =>
    rw [hf] at hF
    simp
    refine xcall_pure hF ?_
    simp
    refine xcall_pure haw ?_
    simp [XEndT]
  | true =>
    rw [hf] at hF
    simp
    refine xcall_pure hF ?_
    simp
    by_cases h10 : (10 : Int) < (lines.length : Int)
    · simp [h10]
      refine xcall_pure haw ?_
      simp [XEndT]
    simp [h10]
    refine xcall_pure hC ?_
    simp
    cases hlong : (lines.any fun s => decide (300 < s.length)) with
    | true =>
      simp
      refine xcall_pure haw ?_
      simp [XEndT]
    | false =>
      have hsh : ∀ s ∈ lines, s.length ≤ 1000 := fun s hs => by
        have := List.any_eq_false.1 hlong s hs
        simp at this; omega
      simp only [Bool.and_eq_true, decide_eq_true_eq] at hf
      have hw : checkP c = 0 → ∀ p ∈ c.parts, p.name.length ≤ 60 := fun hc => few_names hf.1 hc
      have hD1 := (c_layout_Draw c l hs hw).wider GL_one_three
      have hD2 := (c_pneumaticref25_Draw c l hs hw).wider GL_one_three
      have hR1 := c_layout_Read c lines hs (by omega) hsh hw
      have hR2 := (c_pneumaticref25_Read c lines hs (by omega) hsh hw).wider GL_one_three
      obtain ⟨q1, q2⟩ := @reads_alike c lines
      rw [q1, q2] at hR1
      have hEq := (c_Eq_Str (drawRes c l) (drawRes c l) drawRes_len).wider GL_one_three
      have hRl := @readRes_len c lines (guessK c lines lines.length) guessK_len
      generalize readRes c lines (guessK c lines lines.length) = R at hR1 hR2 hRl
      generalize readErr c lines (guessK c lines lines.length) = E at hR1 hR2
      have hSm := (c_pneumaticref25_Same R R hRl).wider GL_one_three
      simp
      refine xcall_pure hD1 ?_
      simp
      refine xcall_pure hD2 ?_
      simp
      refine xcall_pure hR1 ?_
      simp
      refine xcall_pure hR2 ?_
      simp
      refine xcall_pure haw ?_
      simp
      refine xcall_pure hEq ?_
      simp
      refine xcall_pure hSm ?_
      simp [XEndT]
end Go.Am
