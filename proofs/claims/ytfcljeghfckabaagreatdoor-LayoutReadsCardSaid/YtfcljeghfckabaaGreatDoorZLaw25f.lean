/- Contracts: the law LayoutReads. -/
import Derived.Test.YtfcljeghfckabaaGreatDoorZE2
import Derived.Test.YtfcljeghfckabaaGreatDoorZD8
set_option linter.unusedVariables false
set_option linter.unusedSimpArgs false
namespace Go.Am
open Go Go.Proofs Go.Pn


set_option maxRecDepth 20000 in
theorem c_pneumaticlaw25_LayoutReads (c : Circuit) (l : List Plc) (hs : Sized c) (_hl : l.length < 4611686018427387904) : Pure Go.Proofs.Tryz.prog GL2 8 [c.av, .p (.lst 2 (l.map Plc.enc))] (.p (.bool true)) := by
  have haw := c_pneumaticlaw25_awake.wider GL_two
  have hR := (c_pneumaticlaw25_right c l hs).wider GL_two
  refine Pure.of_walk (N := 43) Go.Proofs.Tryz.func8 rfl rfl rfl (by simp) rfl ?_
  simp
  refine xcall_pure hR ?_
  simp
  cases hr : (!fewP c || !decide (l.length ≤ 70) || !decide (layE c l = 0)) with
  | true =>
    simp
    refine xcall_pure haw ?_
    simp [XEndT]
  | false =>
    simp only [Bool.or_eq_false_iff, Bool.not_eq_false', decide_eq_true_eq] at hr
    obtain ⟨⟨hf, hl70⟩, h0⟩ := hr
    obtain ⟨hc, hL⟩ := layE_zero.1 h0
    have hw := few_names hf hc
    have hD := (c_layout_Draw c l hs (fun _ => hw)).wider GL_two
    have hRd := c_readRight c l hs hc hL hw
    have hE := (c_Eq_Plc l l (by omega)).wider GL_two
    rw [h0, show drawRes c l = drawN c l 5 from if_neg (by simp [h0])] at hD
    have hDl := @drawN_len c l 5
    simp
    refine xcall_pure hD ?_
    simp
    refine xcall_pure hRd ?_
    simp [hDl]
    refine xcall_pure hE ?_
    simp
    refine xcall_pure haw ?_
    simp [XEndT]
end Go.Am
