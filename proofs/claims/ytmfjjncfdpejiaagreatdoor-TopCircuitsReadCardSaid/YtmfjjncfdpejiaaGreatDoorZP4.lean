/- Contracts: pneumatictop: runCircuit. -/
import Derived.Test.YtmfjjncfdpejiaaGreatDoorZP2
import Derived.Test.YtmfjjncfdpejiaaGreatDoorZP3
import Derived.Test.YtmfjjncfdpejiaaGreatDoorZC7
import Derived.Test.YtmfjjncfdpejiaaGreatDoorZCQ
import Derived.Test.YtmfjjncfdpejiaaGreatDoorZF6
set_option linter.unusedVariables false
set_option linter.unusedSimpArgs false
namespace Go.Am
open Go Go.Proofs Go.Pn
def Jql : Txt := [112, 105, 112, 101, 32, 65, 46, 50, 32, 86, 46, 50, 10]
def Jqm : Txt := [112, 97, 114, 116, 32, 86, 32, 118, 97, 108, 118, 101, 53, 50, 115, 10, 112, 97, 114, 116, 32, 65, 48, 32, 108, 105, 109, 105, 116, 10, 112, 97, 114, 116, 32, 65, 32, 99, 121, 108, 105, 110, 100, 101, 114, 10, 112, 97, 114, 116, 32, 83, 32, 115, 117, 112, 112, 108, 121, 10, 112, 105, 112, 101, 32, 86, 46, 50, 32, 65, 46, 50, 10, 112, 105, 112, 101, 32, 86, 46, 49, 32, 83, 46, 49, 10, 112, 105, 112, 101, 32, 86, 46, 52, 32, 65, 46, 52, 10, 112, 105, 112, 101, 32, 83, 46, 49, 32, 65, 48, 46, 49, 10]
theorem Jxx : prsE Jql = 6 /\ prsC Jql = noC := by decide +kernel
theorem Jxy : prsE Jqm = 0 /\ prsC Jqm = Jeg := by decide +kernel
theorem Jxw : Jad Jeg = 0 /\ (Jg6 Jeg).length = 2 := by decide +kernel
theorem Jxv : Jc8 Jeg [65] = 0 /\ Jdw Jeg [65] = (3, true) := by decide +kernel
set_option maxRecDepth 20000 in
theorem Ka1 (_ : Unit) : Pure Tryz.prog GL 54 [] (.p (.bool true)) := by
 refine Pure.of_walk (N := 66) Tryz.func54 rfl rfl rfl (by simp) (by first | (simp; done) | simp [*]) ?_
 have h1 := Jsl Jql (by decide)
 have h2 := Jsl Jqm (by decide)
 rw [Jxx.1, Jxx.2] at h1
 rw [Jxy.1, Jxy.2] at h2
 have hS : Sized Jeg := ⟨by decide, by decide, by decide⟩
 have hF := J0f Jeg hS
 rw [Jxw.1, if_pos rfl] at hF
 have hD := J0e Jeg [65] hS
 rw [Jxv.1, Jxv.2] at hD
 have hSm := J1k Jeg Jeg hS hS
 simp
 refine Jab h1 ?_
 simp [noC]
 refine Jab h2 ?_
 simp
 refine Jab hF ?_
 simp
 refine Jab hD ?_
 simp
 refine Jak.intro (by kernel_rfl) ?_
 simp
 refine Jab (J05) ?_
 simp
 refine Jab hSm ?_
 simp [Jxw.2]
 refine ⟨.of (by kernel_rfl), ?_⟩
 simp [Jaa]
end Go.Am
