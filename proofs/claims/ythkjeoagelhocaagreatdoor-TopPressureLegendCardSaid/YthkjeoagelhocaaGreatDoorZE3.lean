/- Contracts: the reference's fields of a line; chapter 25. -/
import Derived.Test.YthkjeoagelhocaaGreatDoorZCX
set_option linter.unusedVariables false
set_option linter.unusedSimpArgs false
namespace Go.Am
open Go Go.Proofs Go.Pn
def fldK (s : Txt) : Nat -> List Txt × Txt
 | 0 => ([], [])
 | k + 1 => match s[k]? with
   | some b => if b ≠ 32 then ((fldK s k).1, (fldK s k).2 ++ [b]) else (if (fldK s k).2 = [] then (fldK s k).1 else (fldK s k).1 ++ [(fldK s k).2], [])
   | none => (if (fldK s k).2 = [] then (fldK s k).1 else (fldK s k).1 ++ [(fldK s k).2], [])
def fldR (s : Txt) : List Txt := (fldK s (s.length + 1)).1
end Go.Am
