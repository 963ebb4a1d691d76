/- Contracts: pneumatictop: runCircuit. -/
import Derived.Test.YtmfjjncfdpejiaaGreatDoorZP2
import Derived.Test.YtmfjjncfdpejiaaGreatDoorZP3
import Derived.Test.YtmfjjncfdpejiaaGreatDoorZC7
import Derived.Test.YtmfjjncfdpejiaaGreatDoorZCQ
import Derived.Test.YtmfjjncfdpejiaaGreatDoorZF6
set_option linter.unusedVariables false
set_option linter.unusedSimpArgs false
namespace Go.Am
open Go Go.Proofs Go.Pn
def Jsm : Txt := [112, 105, 112, 101, 32, 65, 46, 50, 32, 86, 46, 50, 10]
def Jsn : Txt := [112, 97, 114, 116, 32, 86, 32, 118, 97, 108, 118, 101, 53, 50, 115, 10, 112, 97, 114, 116, 32, 65, 48, 32, 108, 105, 109, 105, 116, 10, 112, 97, 114, 116, 32, 65, 32, 99, 121, 108, 105, 110, 100, 101, 114, 10, 112, 97, 114, 116, 32, 83, 32, 115, 117, 112, 112, 108, 121, 10, 112, 105, 112, 101, 32, 86, 46, 50, 32, 65, 46, 50, 10, 112, 105, 112, 101, 32, 86, 46, 49, 32, 83, 46, 49, 10, 112, 105, 112, 101, 32, 86, 46, 52, 32, 65, 46, 52, 10, 112, 105, 112, 101, 32, 83, 46, 49, 32, 65, 48, 46, 49, 10]
theorem J0b : prsE Jsm = 6 /\ prsC Jsm = noC := by decide +kernel
theorem J0c : prsE Jsn = 0 /\ prsC Jsn = Jes := by decide +kernel
theorem J0a : Jad Jes = 0 /\ (Jkj Jes).length = 2 := by decide +kernel
theorem Jz9 : Jbk Jes [65] = 0 /\ Jbv Jes [65] = (3, true) := by decide +kernel
set_option maxRecDepth 20000 in
theorem J4m (_ : Unit) : Pure Tryz.prog GL 54 [] (.p (.bool true)) := by
 refine Pure.of_walk (N := 66) Tryz.func54 rfl rfl rfl (by simp) (by first | (simp; done) | simp [*]) ?_
 have h1 := Juk Jsm (by decide)
 have h2 := Juk Jsn (by decide)
 rw [J0b.1, J0b.2] at h1
 rw [J0c.1, J0c.2] at h2
 have hS : Sized Jes := ⟨by decide, by decide, by decide⟩
 have hF := J3b Jes hS
 rw [J0a.1, if_pos rfl] at hF
 have hD := Jpj Jes [65] hS
 rw [Jz9.1, Jz9.2] at hD
 have hSm := J4h Jes Jes hS hS
 simp
 refine Jab h1 ?_
 simp [noC]
 refine Jab h2 ?_
 simp
 refine Jab hF ?_
 simp
 refine Jab hD ?_
 simp
 refine Jak.intro (by kernel_rfl) ?_
 simp
 refine Jab (J32) ?_
 simp
 refine Jab hSm ?_
 simp [J0a.2]
 refine ⟨.of (by kernel_rfl), ?_⟩
 simp [Jaa]
end Go.Am
