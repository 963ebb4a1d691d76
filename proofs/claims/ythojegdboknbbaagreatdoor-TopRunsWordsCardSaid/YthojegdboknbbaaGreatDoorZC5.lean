/- Lemmas and contracts for the proof of a statement of this seat. -/
import Derived.Test.YthojegdboknbbaaGreatDoorZC4
set_option linter.unusedVariables false
set_option linter.unusedSimpArgs false
namespace Go.Am
open Go Go.Proofs Go.Pn
end Go.Am
namespace Go.Am
open Go Go.Proofs Go.Pn
def Jp7 (c : Circuit) (p : Port) : Prop := (around c p)[0]? = some p
instance (c : Circuit) (p : Port) : Decidable (Jp7 c p) := inferInstanceAs (Decidable ((around c p)[0]? = some p))
def Jzh (c : Circuit) (l : List Port) : List (List Port) := (l.filter fun p => decide (Jp7 c p)).map (around c)
def nets (c : Circuit) : List (List Port) := Jzh c (allP c)
@[simp] def Ports.row (l : List Port) : List AV := [.p (.lst 2 (l.map Port.enc))]
def netP (c : Circuit) (p : Port) : Int := idxI (nets c) fun l => decide (p ∈ l)
end Go.Am
namespace Go.Am
open Go Go.Proofs Go.Pn
end Go.Am
namespace Go.Am
open Go Go.Proofs Go.Pn
end Go.Am
namespace Go.Am
open Go Go.Proofs Go.Pn
def Jg3 (c : Circuit) (k : Int) : Int := (c.parts[k.toNat]?.map (·.kind)).getD 0
end Go.Am
namespace Go.Am
open Go Go.Proofs Go.Pn
@[simp] theorem J5d {α β : Type} {f : α -> β} {l : List α} : List.take l.length (l.map f) = l.map f := List.take_of_length_le (by simp)
end Go.Am
namespace Go.Am
open Go Go.Proofs Go.Pn
end Go.Am
namespace Go.Am
open Go Go.Proofs Go.Pn
end Go.Am
namespace Go.Am
open Go Go.Proofs Go.Pn
def Jpf (c : Circuit) : Prop := (c.parts.length <= 12 \/ 64 < c.parts.length /\ c.parts.length < 128) /\ (c.pipes.length <= 24 \/ 256 < c.pipes.length /\ c.pipes.length < 512)
instance (c : Circuit) : Decidable (Jpf c) := by unfold Jpf; infer_instance
end Go.Am
