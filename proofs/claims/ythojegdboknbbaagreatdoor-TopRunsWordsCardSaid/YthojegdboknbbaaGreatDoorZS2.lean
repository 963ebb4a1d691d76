/- Lemmas and contracts for the proof of a statement of this seat. -/
import Derived.Lib.Bytealg
set_option linter.unusedVariables false
set_option linter.unusedSimpArgs false
namespace Go.Pn
open Go
abbrev Txt := List UInt8
structure Part where
 kind : Int
 name : Txt
 delay : Int
 deriving DecidableEq
structure Port where
 part : Int
 name : Txt
 deriving DecidableEq
structure Pipe where
 fr : Port
 to : Port
 deriving DecidableEq
structure Circuit where
 parts : List Part
 pipes : List Pipe
 deriving DecidableEq
def t1 : Txt := [49]
def t2 : Txt := [50]
def t3 : Txt := [51]
def t4 : Txt := [52]
def t5 : Txt := [53]
def t10 : Txt := [49, 48]
def t11 : Txt := [49, 49]
def t12 : Txt := [49, 50]
def t14 : Txt := [49, 52]
def Jr0 : Nat -> List (List Txt)
 | 0 => [[], [t1], [], [], []]
 | 1 => [[], [], [], [], [t2, t4]]
 | 2 => [[t1], [t2, t4], [t3, t5], [t12, t14], []]
 | 3 => [[t1], [t2, t4], [t3, t5], [t14], []]
 | 4 => [[t1], [t2], [t3], [t12], []]
 | 5 => [[t1], [t2], [t3], [t10], []]
 | 6 => [[t1], [t2], [t3], [], []]
 | 7 => [[t1], [t2], [t3], [], []]
 | 8 => [[t1, t11], [t2], [], [], []]
 | 9 => [[t1, t11], [t2], [], [], []]
 | 10 => [[t1], [t2], [t3], [], []]
 | 11 => [[t1], [t2], [], [], []]
 | 12 => [[t1], [t2], [t3], [t12], []]
 | 13 => [[t1], [t2], [t3], [t12], []]
 | _ => []
def Jqf : Nat -> List Txt
 | 0 => [t1]
 | 1 => [t2, t4]
 | 2 => [t1, t12, t14, t2, t3, t4, t5]
 | 3 => [t1, t14, t2, t3, t4, t5]
 | 4 => [t1, t12, t2, t3]
 | 5 => [t1, t10, t2, t3]
 | 6 => [t1, t2, t3]
 | 7 => [t1, t2, t3]
 | 8 => [t1, t11, t2]
 | 9 => [t1, t11, t2]
 | 10 => [t1, t2, t3]
 | 11 => [t1, t2]
 | 12 => [t1, t12, t2, t3]
 | 13 => [t1, t12, t2, t3]
 | _ => []
def J1f (p : Part) : List Txt := Jqf p.kind.toNat
end Go.Pn
namespace Go.Pn
open Go
end Go.Pn
namespace Go.Pn
open Go
structure Pass where
 to : Txt
 fr : List Txt
 all : Bool
 deriving DecidableEq
def Ji0 : Nat -> Bool -> Txt × Txt
 | 2, b => if b then (t4, t2) else (t2, t4)
 | 3, b => if b then (t4, t2) else (t2, t4)
 | 4, b => if b then (t2, []) else ([], t2)
 | 5, b => if b then ([], t2) else (t2, [])
 | 6, b => if b then (t2, []) else ([], t2)
 | 7, b => if b then (t2, []) else ([], t2)
 | 8, _ => (t2, [])
 | 9, _ => (t2, [])
 | 10, _ => (t2, [])
 | 11, _ => (t2, [])
 | 12, b => if b then (t2, []) else ([], t2)
 | 13, b => if b then (t2, []) else ([], t2)
 | _, _ => ([], [])
def insOf (k : Nat) : List Txt := ((Jr0 k)[0]?).getD []
def J1e (k : Nat) (b : Bool) : List Pass := if (Ji0 k b).1 = [] then [] else [⟨(Ji0 k b).1, insOf k, decide (k = 9)⟩]
def J3i (k : Nat) (b : Bool) : List Txt := if (Ji0 k b).2 = [] then [] else [(Ji0 k b).2]
end Go.Pn
