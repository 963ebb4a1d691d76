/- Lemmas and contracts for the proof of a statement of this seat. -/
import Derived.Test.YtkofnocfackjiaaGreatDoorZC4
set_option linter.unusedVariables false
set_option linter.unusedSimpArgs false
/- Contracts: the reference of chapter 21: Around, Joined, Nets, Net. -/
namespace Go.Am
open Go Go.Proofs Go.Pn

theorem allP_len {c : Circuit} (hk : kindsOk c) (hn : c.parts.length ≤ 100) : (allP c).length ≤ 1200 := by
  have := allUp_len hk (k := c.parts.length)
  unfold allP
  omega

theorem filter_snoc {α : Type} {p : α → Bool} {xs : List α} {k : Nat} {x : α} (e : xs[k]? = some x) : (xs.take (k + 1)).filter p = (xs.take k).filter p ++ (if p x then [x] else []) := by
  rw [take_snoc e, List.filter_append]
  congr 1
  simp [List.filter_cons]
end Go.Am
/- Contracts: the reference of chapter 21: Joined, Nets, Net. -/
namespace Go.Am
open Go Go.Proofs Go.Pn

theorem around_len {c : Circuit} {p : Port} : (around c p).length ≤ (allP c).length := List.length_filter_le ..

def isFirst (c : Circuit) (p : Port) : Prop := (around c p)[0]? = some p
instance (c : Circuit) (p : Port) : Decidable (isFirst c p) := inferInstanceAs (Decidable ((around c p)[0]? = some p))
def netsIn (c : Circuit) (l : List Port) : List (List Port) := (l.filter fun p => decide (isFirst c p)).map (around c)
def nets (c : Circuit) : List (List Port) := netsIn c (allP c)
@[simp] def Ports.row (l : List Port) : List AV := [.p (.lst 2 (l.map Port.enc))]
theorem netsL {c : Circuit} (h : checkP c = 0) : (nets c).length ≤ 1200 ∧ ∀ l ∈ nets c, l.length ≤ 1200 := by
  have h2 := check_parts h
  have hal := allP_len h2.1 (by omega)
  refine ⟨?_, fun l hl => ?_⟩
  · unfold nets netsIn
    rw [List.length_map]
    exact Nat.le_trans (List.length_filter_le ..) hal
  · unfold nets netsIn at hl
    obtain ⟨p, _, rfl⟩ := List.mem_map.1 hl
    exact Nat.le_trans around_len hal

def givenErr (c : Circuit) (p : Port) : Int := if rangeErr c p ≠ 0 then rangeErr c p else nameErr c p
def netP (c : Circuit) (p : Port) : Int := idxI (nets c) fun l => decide (p ∈ l)

end Go.Am
/- Contracts: the reference of chapter 21: moved, piped, Join, Add, Remove. -/
namespace Go.Am
open Go Go.Proofs Go.Pn

def mvPort (f b : Int) (p : Port) : Port := if f ≤ p.part then ⟨p.part + b, p.name⟩ else p
def mvPipe (f b : Int) (x : Pipe) : Pipe := ⟨mvPort f b x.fr, mvPort f b x.to⟩
def movedP (f b : Int) (l : List Pipe) : List Pipe := l.map (mvPipe f b)
end Go.Am
/- Contracts: the reference of chapter 21: Join. -/
namespace Go.Am
open Go Go.Proofs Go.Pn

end Go.Am
/- Contracts: the reference of chapter 21: switches, Add, Remove. -/
namespace Go.Am
open Go Go.Proofs Go.Pn

def kindAt (c : Circuit) (k : Int) : Int := (c.parts[k.toNat]?.map (·.kind)).getD 0
def partI (c : Circuit) (s : Txt) : Int := idxI c.parts fun p => decide (p.name = s)
def swK (c : Circuit) (k : Int) : Int := if 0 ≤ k ∧ kindAt c k ≠ 6 then -1 else k
theorem partI_cases (c : Circuit) (s : Txt) : partI c s = -1 ∨ ∃ (i : Nat) (x : Part), partI c s = i ∧ c.parts[i]? = some x ∧ x.name = s := by
  rcases idxI_cases c.parts (fun p => decide (p.name = s)) with ⟨_, h⟩ | ⟨i, x, _, h1, h2, h3⟩
  · exact .inl h
  · exact .inr ⟨i, x, h1, h2, by simpa using h3⟩
def swAt (c : Circuit) (s : Txt) : Int := swK c (partI c s)


end Go.Am
/- Contracts: the reference of chapter 21: Add. -/
namespace Go.Am
open Go Go.Proofs Go.Pn

@[simp] theorem takeL_map {α β : Type} {f : α → β} {l : List α} : List.take l.length (l.map f) = l.map f := List.take_of_length_le (by simp)
end Go.Am
/- Contracts: the reference of chapter 21: Limits, Remove. -/
namespace Go.Am
open Go Go.Proofs Go.Pn

def limErr (c : Circuit) (s : Txt) : Int := if checkP c ≠ 0 then checkP c else if partI c s < 0 then 6 else if kindAt c (partI c s) ≠ 1 then 1 else 0
def limAt (c : Circuit) (s : Txt) (d : UInt8) : Int := if limErr c s ≠ 0 then 0 else swAt c (s ++ [d])

def restIn (k : Nat) (l : List Pipe) : List Pipe := l.filter fun x => !decide (x.fr.part = k) && !decide (x.to.part = k)
def remOut (c : Circuit) (k : Nat) : Circuit := ⟨c.parts.take k ++ c.parts.drop (k + 1), movedP k (-1) (restIn k c.pipes)⟩
end Go.Am
/- Contracts: the reference of chapter 21: Same, SameNets, Few. -/
namespace Go.Am
open Go Go.Proofs Go.Pn

end Go.Am
/- Contracts: the reference of chapter 21: Few. -/
namespace Go.Am
open Go Go.Proofs Go.Pn

def fewLens (c : Circuit) : Prop := (c.parts.length ≤ 12 ∨ 64 < c.parts.length ∧ c.parts.length < 128) ∧ (c.pipes.length ≤ 24 ∨ 256 < c.pipes.length ∧ c.pipes.length < 512)
instance (c : Circuit) : Decidable (fewLens c) := by unfold fewLens; infer_instance
end Go.Am
