/- Lemmas and contracts for the proof of a statement of this seat. -/
import Derived.Test.YthkjeoagelhocaaGreatZC3
set_option linter.unusedVariables false
set_option linter.unusedSimpArgs false
/- Contracts: slices.Sorted(slices.Values(l)) at texts; the ports of a part. -/
namespace Go.Am
open Go Go.Proofs Go.Pn


end Go.Am
/- Contracts: package circuit: Check and what stands on it. -/
namespace Go.Am
open Go Go.Proofs Go.Pn

end Go.Am
/- Contracts: package circuit: Find, all, Ports, Same, moved. -/
namespace Go.Am
open Go Go.Proofs Go.Pn


def allUp (c : Circuit) : Nat → List Port
  | 0 => []
  | k + 1 => allUp c k ++ match c.parts[k]? with
    | some p => (portsOf p).map fun s => ⟨k, s⟩
    | none => []
def allP (c : Circuit) : List Port := allUp c c.parts.length

end Go.Am
/- Contracts: the reference of chapter 21: the checks. -/
namespace Go.Am
open Go Go.Proofs Go.Pn

end Go.Am
/- Contracts: the reference of chapter 21: parts, port, pipe, Check. -/
namespace Go.Am
open Go Go.Proofs Go.Pn

end Go.Am
/- Contracts: the reference of chapter 21: pipe, Check, Find, All, Ports, Has, Limits. -/
namespace Go.Am
open Go Go.Proofs Go.Pn

end Go.Am
/- Contracts: the reference of chapter 21: All, Ports, Has, Which, given, Same, SameNets; the program's Ports. -/
namespace Go.Am
open Go Go.Proofs Go.Pn

@[simp] theorem ports_row {l : List Port} : Ports.enc l = [.lst 2 (l.map Port.enc)] := rfl

end Go.Am
/- The plain law: nets of a circuit as the reference finds them. -/
namespace Go.Am
open Go Go.Proofs Go.Pn

def arStep (a : List Port × Bool) (x : Pipe) : List Port × Bool :=
  let a := if x.fr ∈ a.1 ∧ ¬ x.to ∈ a.1 then (a.1 ++ [x.to], true) else a
  if x.to ∈ a.1 ∧ ¬ x.fr ∈ a.1 then (a.1 ++ [x.fr], true) else a
def arRound (c : Circuit) (l : List Port) : List Port × Bool := c.pipes.foldl arStep (l, false)
def arIter (c : Circuit) (l : List Port) : Nat → List Port
  | 0 => l
  | n + 1 => (arRound c (arIter c l n)).1
def closure (c : Circuit) (p : Port) : List Port := arIter c [p] (2 * c.pipes.length + 2)
def around (c : Circuit) (p : Port) : List Port := (allP c).filter fun q => decide (q ∈ closure c p)

end Go.Am
