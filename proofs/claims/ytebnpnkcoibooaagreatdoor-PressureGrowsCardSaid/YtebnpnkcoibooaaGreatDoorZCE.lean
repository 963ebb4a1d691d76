/- Lemmas and contracts for the proof of a statement of this seat. -/
import Derived.Test.YtebnpnkcoibooaaGreatDoorZCB
set_option linter.unusedVariables false
set_option linter.unusedSimpArgs false
/- Contracts: chapter 24, the reference: Once, Step, Flow. -/
namespace Go.Am
open Go Go.Proofs Go.Pn

/-- The position of a part behind a step, and whether its pilots contradict each other. -/
def stepAt (c : Circuit) (l : List Int) (i : Nat) : Int × Bool :=
  movedOf (kindAt c i).toNat (posOf l i) (actsB c (underL c l) i (pilotsOf (kindAt c i).toNat).1) (actsB c (underL c l) i (pilotsOf (kindAt c i).toNat).2)
def onT (c : Circuit) (l : List Int) (k : Nat) : List Int := (List.range k).map fun (i : Nat) => (stepAt c l i).1
def badT (c : Circuit) (l : List Int) (k : Nat) : List Int := ((List.range k).filter fun (i : Nat) => (stepAt c l i).2).map fun (i : Nat) => (i : Int)
def onceL (c : Circuit) (l : List Int) : List Int := onT c l c.parts.length
def badL (c : Circuit) (l : List Int) : List Int := badT c l c.parts.length
theorem onT_snoc {c : Circuit} {l : List Int} {k : Nat} : onT c l (k + 1) = onT c l k ++ [(stepAt c l k).1] := by simp [onT, List.range_succ]
theorem onT_len {c : Circuit} {l : List Int} {k : Nat} : (onT c l k).length = k := by simp [onT]
theorem badT_snoc {c : Circuit} {l : List Int} {k : Nat} : badT c l (k + 1) = badT c l k ++ if (stepAt c l k).2 then [(k : Int)] else [] := by
  unfold badT
  rw [List.range_succ, List.filter_append, List.map_append]
  congr 1
  cases h : (stepAt c l k).2 <;> simp [h]
theorem badT_len {c : Circuit} {l : List Int} {k : Nat} : (badT c l k).length ≤ k := by
  unfold badT
  rw [List.length_map]
  exact Nat.le_trans (List.length_filter_le ..) (by simp)
theorem pilot_ports {k : Nat} (h : k < 14) : ((pilotsOf k).1 ≠ [] → (pilotsOf k).1 ∈ kindPorts k) ∧ ((pilotsOf k).2 ≠ [] → (pilotsOf k).2 ∈ kindPorts k) :=
  (by decide +kernel : ∀ k, k < 14 → ((pilotsOf k).1 ≠ [] → (pilotsOf k).1 ∈ kindPorts k) ∧ ((pilotsOf k).2 ≠ [] → (pilotsOf k).2 ∈ kindPorts k)) k h

end Go.Am
/- Contracts: chapter 24, the reference: Flow. -/
namespace Go.Am
open Go Go.Proofs Go.Pn

/-- Pressure flows through a part. -/
def flowB (c : Circuit) (l : List Int) (i : Nat) : Bool := (passAt c l i).any fun y => flowsB (prs c l).contains ⟨i, netN c i y.to, y.fr.map (netN c i), y.all⟩
def flowT (c : Circuit) (l : List Int) (k : Nat) : List Int := ((List.range k).filter (flowB c l)).map fun (i : Nat) => (i : Int)
def flowL (c : Circuit) (l : List Int) : List Int := flowT c l c.parts.length
theorem flowT_snoc {c : Circuit} {l : List Int} {k : Nat} : flowT c l (k + 1) = flowT c l k ++ if flowB c l k then [(k : Int)] else [] := by
  unfold flowT
  rw [List.range_succ, List.filter_append, List.map_append]
  congr 1
  cases h : flowB c l k <;> simp [h]
theorem pass_cases (c : Circuit) (l : List Int) (i : Int) : passAt c l i = [] ∨ ∃ y, passAt c l i = [y] := by
  have := @passed_len (kindAt c i).toNat (decide (posOf l i = 1))
  unfold passAt
  generalize passedOf (kindAt c i).toNat (decide (posOf l i = 1)) = L at this
  match L, this with
  | [], _ => exact .inl rfl
  | [y], _ => exact .inr ⟨y, rfl⟩
  | _ :: _ :: _, h => simp at h

end Go.Am
/- Contracts: chapter 24, the reference: Rest. -/
namespace Go.Am
open Go Go.Proofs Go.Pn

theorem moved_ok {k : Nat} (h : k < 14) (b : Bool) (x y : Bool) (hp : placedErr k (posI b) = 0) : placedErr k (movedOf k (posI b) x y).1 = 0 := by
  have t1 := (by decide +kernel : ∀ k : Nat, k < 14 → placedErr k 1 = 0 → placedErr k (movedOf k 1 true true).1 = 0 ∧ placedErr k (movedOf k 1 true false).1 = 0 ∧ placedErr k (movedOf k 1 false true).1 = 0 ∧ placedErr k (movedOf k 1 false false).1 = 0) k h
  have t0 := (by decide +kernel : ∀ k : Nat, k < 14 → placedErr k 0 = 0 → placedErr k (movedOf k 0 true true).1 = 0 ∧ placedErr k (movedOf k 0 true false).1 = 0 ∧ placedErr k (movedOf k 0 false true).1 = 0 ∧ placedErr k (movedOf k 0 false false).1 = 0) k h
  cases b
  · obtain ⟨a1, a2, a3, a4⟩ := t0 hp
    cases x <;> cases y <;> assumption
  · obtain ⟨a1, a2, a3, a4⟩ := t1 hp
    cases x <;> cases y <;> assumption

theorem onceL_len {c : Circuit} {l : List Int} : (onceL c l).length = c.parts.length := onT_len
theorem onceL_at {c : Circuit} {l : List Int} {i : Nat} (h : i < c.parts.length) : (onceL c l)[i]? = some (stepAt c l i).1 := by simp [onceL, onT, h]
theorem onceL_ok {c : Circuit} {l : List Int} (h : checkQ c l = 0) : checkQ c (onceL c l) = 0 := by
  obtain ⟨h1, h2, _⟩ := checkQ_zero h
  unfold checkQ
  rw [if_neg (by simpa using h1), if_neg (by simpa using onceL_len), firstErr_iff]
  intro i hi
  rw [onceL_len] at hi
  obtain ⟨q, e⟩ := get_lt hi
  obtain ⟨a, F⟩ := part_facts h e
  have hk := F.kind
  have hkk : ((q.kind.toNat : Nat) : Int) = q.kind := by omega
  obtain ⟨_, b, hb⟩ := placed_ok F.placed
  have hpo : posOf l (i : Int) = a := by rw [posOf, Int.toNat_natCast, F.pos]; rfl
  have hm := moved_ok (k := q.kind.toNat) (by omega) b (actsB c (underL c l) i (pilotsOf q.kind.toNat).1) (actsB c (underL c l) i (pilotsOf q.kind.toNat).2) (by rw [hkk, ← hb]; exact F.placed)
  have hs : (stepAt c l i).1 = (movedOf q.kind.toNat (posI b) (actsB c (underL c l) i (pilotsOf q.kind.toNat).1) (actsB c (underL c l) i (pilotsOf q.kind.toNat).2)).1 := by
    rw [stepAt, F.kat, hpo, hb]
  rw [← hs, hkk] at hm
  simp only [posAt, e, onceL_at hi]
  unfold placedErr at hm
  rw [kindErr_ok.2 hk] at hm
  simpa using hm

/-- The positions behind n steps. -/
def posN (c : Circuit) (l : List Int) : Nat → List Int
  | 0 => l
  | n + 1 => onceL c (posN c l n)
theorem posN_ok {c : Circuit} {l : List Int} (h : checkQ c l = 0) : ∀ {n : Nat}, checkQ c (posN c l n) = 0
  | 0 => h
  | n + 1 => onceL_ok (posN_ok h)
def sawB (c : Circuit) (l : List Int) (n j : Nat) (i : Nat) : Bool := ((List.range n).any fun m => (badL c (posN c l m)).contains (i : Int)) || ((badL c (posN c l n)).take j).contains (i : Int)
theorem bad_mem {c : Circuit} {l : List Int} {j : Nat} {x : Int} (e : (badL c l)[j]? = some x) : ∃ b : Nat, x = b ∧ b < c.parts.length := by
  have := List.mem_of_getElem? e
  unfold badL badT at this
  obtain ⟨b, hb, rfl⟩ := List.mem_map.1 this
  exact ⟨b, rfl, List.mem_range.1 (List.mem_filter.1 hb).1⟩
def allT (c : Circuit) (l : List Int) (n k : Nat) : List Int := ((List.range k).filter (sawB c l (n + 1) 0)).map fun (i : Nat) => (i : Int)
/-- The number of steps behind which positions remain. -/
def restIx (c : Circuit) (l : List Int) : Option Nat := (List.range 65).find? fun n => decide (onceL c (posN c l n) = posN c l n)
def restErr (c : Circuit) (l : List Int) : Int := if checkQ c l ≠ 0 then checkQ c l else match restIx c l with | some _ => 0 | none => 21
def restPos (c : Circuit) (l : List Int) : List Int := if checkQ c l ≠ 0 then [] else match restIx c l with | some n => posN c l n | none => []
def restBad (c : Circuit) (l : List Int) : List Int := if checkQ c l ≠ 0 then [] else match restIx c l with | some n => allT c l n c.parts.length | none => []
theorem restIx_at {c : Circuit} {l : List Int} {n : Nat} (hn : n < 65) (h : onceL c (posN c l n) = posN c l n) (hb : ∀ m, m < n → onceL c (posN c l m) ≠ posN c l m) : restIx c l = some n := by
  unfold restIx
  rw [List.find?_range_eq_some]
  refine ⟨by simpa using h, by simpa using hn, fun j hj => by simpa using hb j hj⟩
theorem restIx_none {c : Circuit} {l : List Int} (hb : ∀ m, m < 65 → onceL c (posN c l m) ≠ posN c l m) : restIx c l = none := by
  unfold restIx
  rw [List.find?_eq_none]
  intro x hx
  simpa using hb x (List.mem_range.1 hx)

end Go.Am
