/- Lemmas and contracts for the proof of a statement of this seat. -/
import Derived.Test.YtfcljeghfckabaaGreatDoorZD3
import Derived.Test.YtfcljeghfckabaaGreatDoorZCG
import Derived.Test.YtfcljeghfckabaaGreatDoorZA8
set_option linter.unusedVariables false
set_option linter.unusedSimpArgs false
/- Contracts: the reference's orders and columns. -/
namespace Go.Am
open Go Go.Proofs Go.Pn

def Ints.row1 (o : List Int) : List AV := [.p (.lst 1 (o.map Int.enc))]
def Ints.enc1 (o : List Int) : List PV := [.lst 1 (o.map Int.enc)]
@[simp] theorem unpR_Ints1 {l : List (List Int)} : unpR (l.map Ints.row1) = some (l.map Ints.enc1) := unpR_map (f := Ints.row1) (g := Ints.enc1) (fun _ => rfl) l

@[simp] theorem row1_pure {o : List Int} : pureL (Ints.row1 o) = true := rfl
@[simp] theorem renL_row1 {ρ : List Nat} {o : List Int} : renL ρ (Ints.row1 o) = some (Ints.row1 o) := renL_pure rfl
@[simp] theorem renR_row1 {ρ : List Nat} {L : List (List Int)} : renR ρ (L.map Ints.row1) = some (L.map Ints.row1) := renR_map fun _ => rfl
end Go.Am
/- Contracts: the reference's columns. -/
namespace Go.Am
open Go Go.Proofs Go.Pn

end Go.Am
/- Contracts: the reference's Arrange. -/
namespace Go.Am
open Go Go.Proofs Go.Pn

theorem sumL_near {c : Circuit} {l : List Plc} (h : Near l) : 0 ≤ sumL c l := (lenT_near h).1
theorem colsN_parts {l : List Plc} {row : Int} : ∀ {k : Nat}, k ≤ l.length → (partsN l row k).map (fun x => (plcAt l x).col) = colsN l row k
  | 0, _ => rfl
  | k + 1, h => by
    obtain ⟨p, e⟩ := get_lt (show k < l.length by omega)
    have ih := @colsN_parts l row k (by omega)
    simp only [partsN, colsN, e]
    split
    · rw [List.map_append, ih]; simp [plcAt, e]
    · exact ih


end Go.Am
