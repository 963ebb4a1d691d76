/- Lemmas and contracts for the proof of a statement of this seat. -/
import Derived.Test.YthkjeoagelhocaaGreatZC4
set_option linter.unusedVariables false
set_option linter.unusedSimpArgs false
/- Contracts: the reference of chapter 21: Around, Joined, Nets, Net. -/
namespace Go.Am
open Go Go.Proofs Go.Pn

end Go.Am
/- Contracts: the reference of chapter 21: Joined, Nets, Net. -/
namespace Go.Am
open Go Go.Proofs Go.Pn

def isFirst (c : Circuit) (p : Port) : Prop := (around c p)[0]? = some p
instance (c : Circuit) (p : Port) : Decidable (isFirst c p) := inferInstanceAs (Decidable ((around c p)[0]? = some p))
def netsIn (c : Circuit) (l : List Port) : List (List Port) := (l.filter fun p => decide (isFirst c p)).map (around c)
def nets (c : Circuit) : List (List Port) := netsIn c (allP c)
@[simp] def Ports.row (l : List Port) : List AV := [.p (.lst 2 (l.map Port.enc))]
def netP (c : Circuit) (p : Port) : Int := idxI (nets c) fun l => decide (p ∈ l)

end Go.Am
/- Contracts: the reference of chapter 21: moved, piped, Join, Add, Remove. -/
namespace Go.Am
open Go Go.Proofs Go.Pn

end Go.Am
/- Contracts: the reference of chapter 21: Join. -/
namespace Go.Am
open Go Go.Proofs Go.Pn

end Go.Am
/- Contracts: the reference of chapter 21: switches, Add, Remove. -/
namespace Go.Am
open Go Go.Proofs Go.Pn

def kindAt (c : Circuit) (k : Int) : Int := (c.parts[k.toNat]?.map (·.kind)).getD 0
end Go.Am
/- Contracts: the reference of chapter 21: Add. -/
namespace Go.Am
open Go Go.Proofs Go.Pn

@[simp] theorem takeL_map {α β : Type} {f : α → β} {l : List α} : List.take l.length (l.map f) = l.map f := List.take_of_length_le (by simp)
end Go.Am
/- Contracts: the reference of chapter 21: Limits, Remove. -/
namespace Go.Am
open Go Go.Proofs Go.Pn

end Go.Am
/- Contracts: the reference of chapter 21: Same, SameNets, Few. -/
namespace Go.Am
open Go Go.Proofs Go.Pn

end Go.Am
/- Contracts: the reference of chapter 21: Few. -/
namespace Go.Am
open Go Go.Proofs Go.Pn

def fewLens (c : Circuit) : Prop := (c.parts.length ≤ 12 ∨ 64 < c.parts.length ∧ c.parts.length < 128) ∧ (c.pipes.length ≤ 24 ∨ 256 < c.pipes.length ∧ c.pipes.length < 512)
instance (c : Circuit) : Decidable (fewLens c) := by unfold fewLens; infer_instance
end Go.Am
