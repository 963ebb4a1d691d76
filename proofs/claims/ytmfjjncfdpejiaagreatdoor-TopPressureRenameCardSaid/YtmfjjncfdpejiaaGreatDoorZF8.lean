/- Lemmas and contracts for the proof of a statement of this seat. -/
import Derived.Test.YtmfjjncfdpejiaaGreatDoorZF6
import Derived.Test.YtmfjjncfdpejiaaGreatDoorZF7
import Derived.Test.YtmfjjncfdpejiaaGreatDoorZCU
set_option linter.unusedVariables false
set_option linter.unusedSimpArgs false
namespace Go.Am
open Go Go.Proofs Go.Pn Go.RowKit
end Go.Am
namespace Go.Am
open Go Go.Proofs Go.Pn
def d26 : List Txt := [[48, 90, 49, 32, 83, 32, 115, 117, 112, 112, 108, 121], [49, 65, 49, 32, 65, 32, 99, 121, 108, 105, 110, 100, 101, 114], [49, 83, 49, 32, 65, 48, 32, 108, 105, 109, 105, 116], [49, 86, 49, 32, 86, 32, 118, 97, 108, 118, 101, 53, 50, 115]]
theorem Jx1 : Jad Jek = 0 := by decide +kernel
theorem J96 : Jn1 Jek = d26 := by decide +kernel
end Go.Am
