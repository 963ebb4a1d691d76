/- Lemmas and contracts for the proof of a statement of this seat. -/
import Derived.Test.YtmfjjncfdpejiaaGreatDoorZC6
import Derived.Test.YtmfjjncfdpejiaaGreatDoorZS2
import Derived.Test.YtmfjjncfdpejiaaGreatDoorZA5
set_option linter.unusedVariables false
set_option linter.unusedSimpArgs false
namespace Go.Am
open Go Go.Proofs Go.Pn
end Go.Am
namespace Go.Am
open Go Go.Proofs Go.Pn
end Go.Am
namespace Go.Am
open Go Go.Proofs Go.Pn
@[simp] theorem zs3 : Jdu Tryz.prog 3 = some false := by kernel_rfl
@[simp] theorem J70 {z v : AV} : hit false z (some v) = v := (rfl)
@[simp] theorem J7z {z : AV} : hit false z none = z := (rfl)
@[simp] theorem Kff {b s : Nat} {td : TD} {x : AV} : zeroV ⟨false, s, b, [x], td⟩ = x := (rfl)
end Go.Am
namespace Go.Am
open Go Go.Proofs Go.Pn
theorem Jfm (i : Int) (s : Txt) : Pure Tryz.prog GL 142 [.p (.int .i64 i), .p (.str s)] ((⟨i, s⟩ : Port).av) := by
 refine Pure.of_walk (N := 8) Tryz.func142 rfl rfl rfl (by simp) (by first | (simp; done) | simp [*]) ?_
 simp
 simp [Jaa]
def Jcn : Circuit := ⟨[⟨1, [65], 0⟩, ⟨6, [65, 48], 0⟩, ⟨0, [83], 0⟩, ⟨3, [86], 0⟩], [⟨⟨0, [50]⟩, ⟨3, [50]⟩⟩, ⟨⟨0, [52]⟩, ⟨3, [52]⟩⟩, ⟨⟨1, [49]⟩, ⟨2, [49]⟩⟩, ⟨⟨2, [49]⟩, ⟨3, [49]⟩⟩]⟩
theorem Jyg : Pure Tryz.prog GL 63 [] Jcn.av := by
 refine Pure.of_walk (N := 29) Tryz.func63 rfl rfl rfl (by simp) rfl ?_
 simp
 refine Jab (Jfm 0 [50]) ?_
 simp
 refine Jab (Jfm 3 [50]) ?_
 simp
 refine Jab (Jfm 0 [52]) ?_
 simp
 refine Jab (Jfm 3 [52]) ?_
 simp
 refine Jab (Jfm 1 [49]) ?_
 simp
 refine Jab (Jfm 2 [49]) ?_
 simp
 refine Jab (Jfm 2 [49]) ?_
 simp
 refine Jab (Jfm 3 [49]) ?_
 simp
 simp [Jaa, Jcn]
end Go.Am
namespace Go.Am
open Go Go.Proofs Go.Pn
def J0b : Circuit := J44 Jcn 3
theorem J0c : Sized Jcn /\ Sized J0b := by
 refine ⟨⟨by decide +kernel, by decide +kernel, by decide +kernel⟩, ⟨by decide +kernel, by decide +kernel, by decide +kernel⟩⟩
end Go.Am
namespace Go.Am
open Go Go.Proofs Go.Pn
end Go.Am
namespace Go.Am
open Go Go.Proofs Go.Pn
end Go.Am
