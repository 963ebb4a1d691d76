/- Lemmas and contracts for the proof of a statement of this seat. -/
import Derived.Test.YtmfjjncfdpejiaaGreatDoorZC6
import Derived.Test.YtmfjjncfdpejiaaGreatDoorZS2
import Derived.Test.YtmfjjncfdpejiaaGreatDoorZA5
set_option linter.unusedVariables false
set_option linter.unusedSimpArgs false
namespace Go.Am
open Go Go.Proofs Go.Pn
end Go.Am
namespace Go.Am
open Go Go.Proofs Go.Pn
end Go.Am
namespace Go.Am
open Go Go.Proofs Go.Pn
@[simp] theorem zs3 : Jd3 Tryz.prog 3 = some false := by kernel_rfl
@[simp] theorem J80 {z v : AV} : hit false z (some v) = v := (rfl)
@[simp] theorem J8z {z : AV} : hit false z none = z := (rfl)
@[simp] theorem Kg2 {b s : Nat} {td : TD} {x : AV} : zeroV ⟨false, s, b, [x], td⟩ = x := (rfl)
end Go.Am
namespace Go.Am
open Go Go.Proofs Go.Pn
def Jk5 (l : List Txt) : Bool := l.any fun s => decide (60 < s.length)
theorem Jfr (i : Int) (s : Txt) : Pure Tryz.prog GL 142 [.p (.int .i64 i), .p (.str s)] ((⟨i, s⟩ : Port).av) := by
 refine Pure.of_walk (N := 8) Tryz.func142 rfl rfl rfl (by simp) (by first | (simp; done) | simp [*]) ?_
 simp
 simp [Jaa]
def Jcp : Circuit := ⟨[⟨1, [65], 0⟩, ⟨6, [65, 48], 0⟩, ⟨0, [83], 0⟩, ⟨3, [86], 0⟩], [⟨⟨0, [50]⟩, ⟨3, [50]⟩⟩, ⟨⟨0, [52]⟩, ⟨3, [52]⟩⟩, ⟨⟨1, [49]⟩, ⟨2, [49]⟩⟩, ⟨⟨2, [49]⟩, ⟨3, [49]⟩⟩]⟩
theorem Jyz : Pure Tryz.prog GL 63 [] Jcp.av := by
 refine Pure.of_walk (N := 29) Tryz.func63 rfl rfl rfl (by simp) rfl ?_
 simp
 refine Jab (Jfr 0 [50]) ?_
 simp
 refine Jab (Jfr 3 [50]) ?_
 simp
 refine Jab (Jfr 0 [52]) ?_
 simp
 refine Jab (Jfr 3 [52]) ?_
 simp
 refine Jab (Jfr 1 [49]) ?_
 simp
 refine Jab (Jfr 2 [49]) ?_
 simp
 refine Jab (Jfr 2 [49]) ?_
 simp
 refine Jab (Jfr 3 [49]) ?_
 simp
 simp [Jaa, Jcp]
end Go.Am
namespace Go.Am
open Go Go.Proofs Go.Pn
def J08 : Circuit := J5u Jcp 3
theorem J09 : Sized Jcp /\ Sized J08 := by
 refine ⟨⟨by decide +kernel, by decide +kernel, by decide +kernel⟩, ⟨by decide +kernel, by decide +kernel, by decide +kernel⟩⟩
end Go.Am
namespace Go.Am
open Go Go.Proofs Go.Pn
end Go.Am
namespace Go.Am
open Go Go.Proofs Go.Pn
end Go.Am
