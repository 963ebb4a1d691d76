/- slices.AppendSeq over slices.Values at texts: walked in the world (turned from the guide's worked proofs GgSlicesIterAtTheDump and GgCollectAtTheDump). -/
import Derived.Test.YthojegdboknbbaaGreatDoorZC2
import Derived.Test.YthojegdboknbbaaGreatDoorZA5
import Derived.Shelf.SlIter.Collect
import Derived.RangeFuncLeaves
import Derived.WalkKit
import Derived.OwnWalkIn
import Derived.TacticsInMore
import Derived.LoopNIn
import Derived.LoopIn
set_option linter.unusedVariables false
set_option linter.unusedSimpArgs false
namespace Go.Am
open Go Go.Proofs Go.Pn Go.RowKit Go.Maps Go.Shelf
attribute [local go_sem] Oper.semAt_some
end Go.Am
