/- Contracts: the law LayoutLengths. -/
import Derived.Test.YtfcljeghfckabaaGreatDoorZD3
set_option linter.unusedVariables false
set_option linter.unusedSimpArgs false
namespace Go.Am
open Go Go.Proofs Go.Pn

set_option maxRecDepth 20000 in
theorem c_pneumaticlaw25_LayoutLengths (c : Circuit) (l : List Plc) (hs : Sized c) (_hl : l.length < 4611686018427387904) : Pure Go.Proofs.Tryz.prog GL 3 [c.av, .p (.lst 2 (l.map Plc.enc))] (.p (.bool true)) := by
  refine Pure.of_walk (N := 63) Go.Proofs.Tryz.func3 rfl rfl rfl (by simp) (by first | (simp; done) | simp [*]) ?_
  have haw := c_pneumaticlaw25_awake
  have hF := c_pneumaticlaw25_few c l hs
  have h1 := c_layout_Length c l hs
  have h2 := c_pneumaticref25_Length c l hs
  have h3 := c_layout_Crossings c l hs
  have h4 := c_pneumaticref25_Crossings c l hs
  simp
  refine xcall_pure hF ?_
  simp
  refine xif_split (fun h => ?_) (fun h => ?_)
  · simp
    refine xcall_pure haw ?_
    simp [XEndT]
  simp
  refine xcall_pure h1 ?_
  simp
  refine xcall_pure h2 ?_
  simp
  refine xcall_pure h3 ?_
  simp
  refine xcall_pure h4 ?_
  simp
  refine xcall_pure haw ?_
  simp [XEndT]
end Go.Am
