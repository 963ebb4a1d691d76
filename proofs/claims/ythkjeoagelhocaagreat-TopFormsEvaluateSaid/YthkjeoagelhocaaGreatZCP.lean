/- Lemmas and contracts for the proof of a statement of this seat. -/
import Derived.Test.YthkjeoagelhocaaGreatZC7
set_option linter.unusedVariables false
set_option linter.unusedSimpArgs false
/- Plain laws: how many nets a circuit has, and which net a port is in. -/
namespace Go.Am
open Go Go.Proofs Go.Pn

end Go.Am
/- Plain laws: right circuits; a further pipe. -/
namespace Go.Am
open Go Go.Proofs Go.Pn

end Go.Am
