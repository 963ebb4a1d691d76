/- Lemmas and contracts for the proof of a statement of this seat. -/
import Derived.Test.YthojegdboknbbaaGreatDoorZA1
set_option linter.unusedVariables false
set_option linter.unusedSimpArgs false
namespace Go.Am
structure Cube where
 care : Nat
 value : Nat
deriving DecidableEq
def Cube.has (c : Cube) (k : Nat) : Bool := decide (k &&& c.care = c.value)
structure Tsk where
 n : Nat
 on : Nat
 free : Nat
def Jo2 (c : Cube) (i : Nat) : Cube := ⟨andN c.care (2 ^ i), andN c.value (2 ^ i)⟩
def ptsN (n : Nat) (c : Cube) : Nat := (List.range (2 ^ n)).foldl (fun o k => if c.has k then o ||| 2 ^ k else o) 0
def impB (x : Tsk) (c : Cube) : Bool := decide (andN (ptsN x.n c) (x.on ||| x.free) = 0)
def Jyd (x : Tsk) (c : Cube) : Bool := decide (ptsN x.n c &&& x.on ≠ 0)
def Jyb (x : Tsk) (c : Cube) : Bool := (List.range x.n).any fun i => !decide (Jo2 c i = c) && impB x (Jo2 c i)
def Jwh (n : Nat) : List Cube := (List.range (2 ^ n)).flatMap fun care => ((List.range (2 ^ n)).filter fun value => decide (andN value care = 0)).map fun value => ⟨care, value⟩
def J1h (x : Tsk) : List Cube := (Jwh x.n).filter fun c => Jyd x c && impB x c && !Jyb x c
section
variable (x : Tsk) (P : List Cube) (bet : List Nat -> Option (List Nat) -> Bool) (srt : List Nat -> List Nat) (most : Nat)
end
section
variable {x : Tsk} {P : List Cube} {bet : List Nat -> Option (List Nat) -> Bool} {srt : List Nat -> List Nat} {most : Nat}
end
section
variable (x : Tsk) (P : List Cube) (bet : List Nat -> Option (List Nat) -> Bool) (srt : List Nat -> List Nat)
end
section
variable {x : Tsk} {P : List Cube} {bet : List Nat -> Option (List Nat) -> Bool} {srt : List Nat -> List Nat}
end
section
variable {x : Tsk} {bet : List Nat -> Option (List Nat) -> Bool} {srt : List Nat -> List Nat}
end
end Go.Am
namespace Go.Am
section
variable {n b i : Nat} {v : Bool}
end
section
variable {bet : List Nat -> Option (List Nat) -> Bool} {srt : List Nat -> List Nat}
end
end Go.Am
namespace Go.Am
end Go.Am
