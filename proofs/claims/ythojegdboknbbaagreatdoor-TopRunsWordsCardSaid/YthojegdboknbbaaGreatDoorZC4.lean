/- Lemmas and contracts for the proof of a statement of this seat. -/
import Derived.Test.YthojegdboknbbaaGreatDoorZC3
set_option linter.unusedVariables false
set_option linter.unusedSimpArgs false
namespace Go.Am
open Go Go.Proofs Go.Pn
end Go.Am
namespace Go.Am
open Go Go.Proofs Go.Pn
end Go.Am
namespace Go.Am
open Go Go.Proofs Go.Pn
def Jnu (c : Circuit) : Nat -> List Port
 | 0 => []
 | k + 1 => Jnu c k ++ match c.parts[k]? with
   | some p => (J1f p).map fun s => ⟨k, s⟩
   | none => []
def allP (c : Circuit) : List Port := Jnu c c.parts.length
end Go.Am
namespace Go.Am
open Go Go.Proofs Go.Pn
end Go.Am
namespace Go.Am
open Go Go.Proofs Go.Pn
end Go.Am
namespace Go.Am
open Go Go.Proofs Go.Pn
end Go.Am
namespace Go.Am
open Go Go.Proofs Go.Pn
@[simp] theorem J4n {l : List Port} : Ports.enc l = [.lst 2 (l.map Port.enc)] := rfl
end Go.Am
namespace Go.Am
open Go Go.Proofs Go.Pn
def Jt4 (a : List Port × Bool) (x : Pipe) : List Port × Bool :=
 let a := if x.fr ∈ a.1 /\ ¬ x.to ∈ a.1 then (a.1 ++ [x.to], true) else a
 if x.to ∈ a.1 /\ ¬ x.fr ∈ a.1 then (a.1 ++ [x.fr], true) else a
def Jt3 (c : Circuit) (l : List Port) : List Port × Bool := c.pipes.foldl Jt4 (l, false)
def Jnw (c : Circuit) (l : List Port) : Nat -> List Port
 | 0 => l
 | n + 1 => (Jt3 c (Jnw c l n)).1
def closure (c : Circuit) (p : Port) : List Port := Jnw c [p] (2 * c.pipes.length + 2)
def around (c : Circuit) (p : Port) : List Port := (allP c).filter fun q => decide (q ∈ closure c p)
end Go.Am
