/- Lemmas and contracts for the proof of a statement of this seat. -/
import Derived.Test.YtmfjjncfdpejiaaGreatDoorZC1
import Derived.Test.YtmfjjncfdpejiaaGreatDoorZA7
import Derived.Shelf.Strings.SlTrimAscii
import Derived.Test.YtmfjjncfdpejiaaGreatDoorZN8
import Derived.Test.YtmfjjncfdpejiaaGreatDoorZN1
import Derived.Test.YtmfjjncfdpejiaaGreatDoorZF6
set_option linter.unusedVariables false
set_option linter.unusedSimpArgs false
namespace Go.Am
open Go Go.Proofs Go.Shelf Go.RowKit
end Go.Am
namespace Go.Am
open Go Go.Proofs Go.Pn
end Go.Am
namespace Go.Am
open Go Go.Proofs Go.Pn
theorem J76 {c : Circuit} (h : Jad c = 0) : Sized c := by
 have h2 := Jf8 h
 refine ⟨by omega, by omega, fun p hp => ?_⟩
 have := (Jes (Jdk (Jdz h hp)).2.1).2.2
 omega
end Go.Am
