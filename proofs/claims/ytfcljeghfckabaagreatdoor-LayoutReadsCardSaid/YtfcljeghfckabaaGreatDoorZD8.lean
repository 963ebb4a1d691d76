/- Lemmas and contracts for the proof of a statement of this seat. -/
import Derived.Test.YtfcljeghfckabaaGreatDoorZD3
set_option linter.unusedVariables false
set_option linter.unusedSimpArgs false
/- Plain: places in order are right; places moved aside or mirrored; chapter 25. -/
namespace Go.Am
open Go Go.Proofs Go.Pn

end Go.Am
/- Contracts: what is right, as the law of chapter 25 asks. -/
namespace Go.Am
open Go Go.Proofs Go.Pn

theorem c_pneumaticlaw25_right (c : Circuit) (l : List Plc) (hs : Sized c) : Pure Go.Proofs.Tryz.prog GL 19 [c.av, .p (.lst 2 (l.map Plc.enc))] (.p (.bool (fewP c && decide (l.length ≤ 70) && decide (layE c l = 0)))) := by
  refine Pure.of_walk (N := 14) Go.Proofs.Tryz.func19 rfl rfl rfl (by simp) (by first | (simp; done) | simp [*]) ?_
  have hF := c_pneumaticlaw25_few c l hs
  have hC := c_pneumaticref25_Check c l hs
  simp
  refine xcall_pure hF ?_
  simp
  cases h : (fewP c && decide (l.length ≤ 70)) with
  | true =>
    simp
    refine xcall_pure hC ?_
    simp [XEndT]
  | false => simp [XEndT]
end Go.Am
