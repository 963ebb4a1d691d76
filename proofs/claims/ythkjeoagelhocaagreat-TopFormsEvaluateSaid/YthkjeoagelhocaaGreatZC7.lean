/- Lemmas and contracts for the proof of a statement of this seat. -/
import Derived.Test.YthkjeoagelhocaaGreatZC6
import Derived.Test.YthkjeoagelhocaaGreatZS2
import Derived.Test.YthkjeoagelhocaaGreatZA5
set_option linter.unusedVariables false
set_option linter.unusedSimpArgs false
/- The plain law: the nets by roots are the nets of the reference. -/
namespace Go.Am
open Go Go.Proofs Go.Pn

end Go.Am
/- Contracts: package circuit: the first port of a net (nets$1). -/
namespace Go.Am
open Go Go.Proofs Go.Pn

end Go.Am
/- Contracts: package circuit: nets. -/
namespace Go.Am
open Go Go.Proofs Go.Pn

end Go.Am
/- Contracts: package circuit: Nets, Net; the law's few and Four. -/
namespace Go.Am
open Go Go.Proofs Go.Pn


end Go.Am
/- Contracts: the law's awake. -/
namespace Go.Am
open Go Go.Proofs Go.Pn


end Go.Am
/- Contracts: the laws CircuitChecks and CircuitChanges. -/
namespace Go.Am
open Go Go.Proofs Go.Pn


end Go.Am
/- Contracts: package circuit: Net; the law CircuitNets. -/
namespace Go.Am
open Go Go.Proofs Go.Pn


end Go.Am
