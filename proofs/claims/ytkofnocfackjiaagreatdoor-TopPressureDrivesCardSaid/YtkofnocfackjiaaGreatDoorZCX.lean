/- Lemmas and contracts for the proof of a statement of this seat. -/
import Derived.Test.YtkofnocfackjiaaGreatDoorZCW
set_option linter.unusedVariables false
set_option linter.unusedSimpArgs false
/- Plain facts: the driver of a cylinder, as the reference finds it; the rows of parts. -/
namespace Go.Am
open Go Go.Proofs Go.Pn

structure Plc where
  row : Int
  col : Int
  deriving DecidableEq
@[simp] def Plc.enc (p : Plc) : List PV := [.int .i64 p.row, .int .i64 p.col]
@[simp] def Plc.row_ (p : Plc) : List AV := [.p (.int .i64 p.row), .p (.int .i64 p.col)]
@[simp] def Plc.av (p : Plc) : AV := .agg [.p (.int .i64 p.row), .p (.int .i64 p.col)]

def baseOf (k : Int) : Int := if k = 1 then 0 else if k = 0 then 4 else if k = 6 ∨ k = 7 then 3 else 2
end Go.Am
/- Contracts: the reference of chapter 22: the driver of a cylinder. -/
namespace Go.Am
open Go Go.Proofs Go.Pn

end Go.Am
/- Contracts: the rows of parts; chapter 25's reference and program. -/
namespace Go.Am
open Go Go.Proofs Go.Pn

def letterOf (k : Nat) : Txt := (refWords[k]?.getD ([], [])).2
theorem letter_facts {k : Nat} (h : k < 14) : (catRow k)[1]? = some (.p (.str (letterOf k))) ∧ (refRow k)[1]? = some (.str (letterOf k)) ∧ (refRow k).length = 7 := by
  rcases (by omega : k = 0 ∨ k = 1 ∨ k = 2 ∨ k = 3 ∨ k = 4 ∨ k = 5 ∨ k = 6 ∨ k = 7 ∨ k = 8 ∨ k = 9 ∨ k = 10 ∨ k = 11 ∨ k = 12 ∨ k = 13) with rfl|rfl|rfl|rfl|rfl|rfl|rfl|rfl|rfl|rfl|rfl|rfl|rfl|rfl <;> exact ⟨rfl, rfl, rfl⟩
theorem letter_s {k : Nat} (h : k < 14) : letterOf k = [83] ↔ k = 6 ∨ k = 7 := (by decide +kernel : ∀ k, k < 14 → (letterOf k = [83] ↔ k = 6 ∨ k = 7)) k h
theorem base_letter {k : Int} (h : 0 ≤ k ∧ k < 14) : baseOf k = if k = 1 then 0 else if k = 0 then 4 else if letterOf k.toNat = [83] then 3 else 2 := by
  unfold baseOf
  have := letter_s (k := k.toNat) (by omega)
  by_cases h1 : letterOf k.toNat = [83]
  · rw [if_pos h1]
    have h2 := this.1 h1
    rw [if_pos (show k = 6 ∨ k = 7 by omega)]
  · rw [if_neg h1]
    have h2 : ¬ (k = 6 ∨ k = 7) := fun hh => h1 (this.2 (by omega))
    rw [if_neg h2]

theorem c_part_Letter (k : Int) : Pure Tryz.prog GL 31 [.p (.int .i64 k)] (.tup [.p (.str (if kindErr k = 0 then letterOf k.toNat else [])), .p (.int .i64 (kindErr k))]) := by
  refine Pure.of_walk (N := 14) Tryz.func31 rfl rfl rfl (by simp) (by first | (simp; done) | simp [*]) ?_
  simp
  refine xcall_pure (c_part_find k) ?_
  by_cases hk : 0 ≤ k ∧ k < 14
  · have h3 : kindErr k = 0 := kindErr_ok.2 hk
    have hl := catRow_len (k := k.toNat)
    have h6 := catRow_one (k := k.toNat)
    obtain ⟨f1, f2, f3⟩ := letter_facts (k := k.toNat) (by omega)
    simp [h3, hl, lay_whole]
    refine ⟨by simpa using h6, ?_⟩
    obtain ⟨g1, g2⟩ := List.getElem?_eq_some_iff.1 f1
    simp [XEndT, h3, g2]
  · have h3 : kindErr k = 1 := kindErr_bad hk
    simp [h3, catRow, lay]
    simp [XEndT, h3]

end Go.Am
