/- Contracts: the library's sort, at texts, for at most twelve. -/
import Derived.Test.YthkjeoagelhocaaGreatZC1
set_option linter.unusedVariables false
set_option linter.unusedSimpArgs false
namespace Go.Am
open Go Go.Proofs Go.Pn


end Go.Am
