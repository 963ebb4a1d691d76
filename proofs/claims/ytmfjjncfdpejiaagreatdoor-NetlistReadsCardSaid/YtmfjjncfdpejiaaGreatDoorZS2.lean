/- Lemmas and contracts for the proof of a statement of this seat. -/
import Derived.Lib.Bytealg
set_option linter.unusedVariables false
set_option linter.unusedSimpArgs false
namespace Go.Pn
open Go
abbrev Txt := List UInt8
structure Part where
 kind : Int
 name : Txt
 delay : Int
 deriving DecidableEq
structure Port where
 part : Int
 name : Txt
 deriving DecidableEq
structure Pipe where
 fr : Port
 to : Port
 deriving DecidableEq
structure Circuit where
 parts : List Part
 pipes : List Pipe
 deriving DecidableEq
def Jel (b : UInt8) : Bool := (65 <= b && b <= 90) || (97 <= b && b <= 122)
def isDigit (b : UInt8) : Bool := 48 <= b && b <= 57
def Jcg (b : UInt8) : Bool := Jel b || isDigit b || b == 95
def Jcm (s : Txt) : Int :=
 match s with
 | [] => 3
 | b :: _ => if !Jel b then 3 else if !s.all Jcg then 3 else if s.length > 24 then 17 else 0
def cmpI (a b : Int) : Int := if a < b then -1 else if b < a then 1 else 0
def orI : List Int -> Int
 | [] => 0
 | x :: xs => if x = 0 then orI xs else x
def Jco (a b : Port) : Int := orI [cmpI a.part b.part, Lib.compareBytes a.name b.name]
def Jev (a b : Pipe) : Int := orI [Jco a.fr b.fr, Jco a.to b.to]
theorem Jhz {a b : UInt8} : a < b ↔ a.toNat < b.toNat := UInt8.lt_iff_toNat_lt
theorem Jeg : ∀ (a : Txt), Op.bytesLess a a = false
 | [] => rfl
 | a :: x => by simp [Op.bytesLess, Jeg x, Jhz]
theorem Jjy : ∀ {a b : Txt}, Op.bytesLess a b = true -> Op.bytesLess b a = false
 | _, [], h => by simp [Op.bytesLess] at h
 | [], _ :: _, _ => rfl
 | a :: x, b :: y, h => by
   simp only [Op.bytesLess, Bool.or_eq_true, Bool.and_eq_true, decide_eq_true_eq, beq_iff_eq, Bool.or_eq_false_iff, Bool.and_eq_false_iff, decide_eq_false_iff_not, Jhz, <- UInt8.toNat_inj] at h ⊢
   rcases h with h | ⟨h1, h2⟩
   . refine ⟨by omega, .inl ?_⟩
     simp; rw [<- UInt8.toNat_inj]; omega
   . exact ⟨by omega, .inr (Jjy h2)⟩
theorem Jge : ∀ {a b : Txt}, Op.bytesLess a b = false -> Op.bytesLess b a = false -> a = b
 | [], [], _, _ => rfl
 | [], _ :: _, h, _ => by simp [Op.bytesLess] at h
 | _ :: _, [], _, h => by simp [Op.bytesLess] at h
 | a :: x, b :: y, h1, h2 => by
   simp only [Op.bytesLess, Bool.or_eq_false_iff, Bool.and_eq_false_iff, decide_eq_false_iff_not, Jhz] at h1 h2
   have e : a = b := by rw [<- UInt8.toNat_inj]; omega
   subst e
   simp at h1 h2
   rw [Jge h1 h2]
theorem Jg1 : ∀ {a b c : Txt}, Op.bytesLess a b = true -> Op.bytesLess b c = true -> Op.bytesLess a c = true
 | _, _, [], _, h => by simp [Op.bytesLess] at h
 | _, [], _ :: _, h, _ => by simp [Op.bytesLess] at h
 | [], _ :: _, _ :: _, _, _ => rfl
 | a :: x, b :: y, c :: z, h1, h2 => by
   simp only [Op.bytesLess, Bool.or_eq_true, Bool.and_eq_true, decide_eq_true_eq, beq_iff_eq, Jhz] at h1 h2 ⊢
   rcases h1 with h1 | ⟨rfl, h1⟩ <;> rcases h2 with h2 | ⟨rfl, h2⟩
   . exact .inl (by omega)
   . exact .inl h1
   . exact .inl h2
   . exact .inr ⟨rfl, Jg1 h1 h2⟩
theorem Jjz {a b : Txt} : (Op.bytesLess a b || decide (a = b)) = !Op.bytesLess b a := by
 cases h : Op.bytesLess a b with
 | true => simp [Jjy h]
 | false =>
   cases h2 : Op.bytesLess b a with
   | true =>
     have : a ≠ b := by rintro rfl; rw [Jeg] at h2; cases h2
     simp [this]
   | false => simp [Jge h h2]
theorem Jj6 : ∀ {a b : Txt}, Lib.compareBytes a b < 0 ↔ Op.bytesLess a b = true
 | [], [] => by simp [Lib.compareBytes, Op.bytesLess]
 | [], _ :: _ => by simp [Lib.compareBytes, Op.bytesLess]
 | _ :: _, [] => by simp [Lib.compareBytes, Op.bytesLess]
 | a :: x, b :: y => by
   simp only [Lib.compareBytes, Op.bytesLess, Bool.or_eq_true, Bool.and_eq_true, decide_eq_true_eq, beq_iff_eq, Jhz]
   split
   . rename_i h; simp [h]
   . rename_i h
     split
     . rename_i h2
       have : a ≠ b := by rintro rfl; omega
       simp [h, this]
     . rename_i h2
       have e : a = b := by rw [<- UInt8.toNat_inj]; omega
       subst e
       simp [Jj6]
theorem Jdx : ∀ {a b : Txt}, Lib.compareBytes a b = 0 ↔ a = b
 | [], [] => by simp [Lib.compareBytes]
 | [], _ :: _ => by simp [Lib.compareBytes]
 | _ :: _, [] => by simp [Lib.compareBytes]
 | a :: x, b :: y => by
   simp only [Lib.compareBytes, Jhz]
   split
   . rename_i h
     have : a ≠ b := by rintro rfl; omega
     simp [this]
   . rename_i h
     split
     . rename_i h2
       have : a ≠ b := by rintro rfl; omega
       simp [this]
     . have e : a = b := by rw [<- UInt8.toNat_inj]; omega
       subst e
       simp [Jdx]
def Jbj (a b : Port) : Bool := if a.part = b.part then Op.bytesLess a.name b.name else decide (a.part < b.part)
def Jbu (a b : Pipe) : Bool := if a.fr = b.fr then Jbj a.to b.to else Jbj a.fr b.fr
def t1 : Txt := [49]
def t2 : Txt := [50]
def t3 : Txt := [51]
def t4 : Txt := [52]
def t5 : Txt := [53]
def t10 : Txt := [49, 48]
def t11 : Txt := [49, 49]
def t12 : Txt := [49, 50]
def t14 : Txt := [49, 52]
def Jbo : Nat -> List (List Txt)
 | 0 => [[], [t1], [], [], []]
 | 1 => [[], [], [], [], [t2, t4]]
 | 2 => [[t1], [t2, t4], [t3, t5], [t12, t14], []]
 | 3 => [[t1], [t2, t4], [t3, t5], [t14], []]
 | 4 => [[t1], [t2], [t3], [t12], []]
 | 5 => [[t1], [t2], [t3], [t10], []]
 | 6 => [[t1], [t2], [t3], [], []]
 | 7 => [[t1], [t2], [t3], [], []]
 | 8 => [[t1, t11], [t2], [], [], []]
 | 9 => [[t1, t11], [t2], [], [], []]
 | 10 => [[t1], [t2], [t3], [], []]
 | 11 => [[t1], [t2], [], [], []]
 | 12 => [[t1], [t2], [t3], [t12], []]
 | 13 => [[t1], [t2], [t3], [t12], []]
 | _ => []
def Jbr : Nat -> List Txt
 | 0 => [t1]
 | 1 => [t2, t4]
 | 2 => [t1, t12, t14, t2, t3, t4, t5]
 | 3 => [t1, t14, t2, t3, t4, t5]
 | 4 => [t1, t12, t2, t3]
 | 5 => [t1, t10, t2, t3]
 | 6 => [t1, t2, t3]
 | 7 => [t1, t2, t3]
 | 8 => [t1, t11, t2]
 | 9 => [t1, t11, t2]
 | 10 => [t1, t2, t3]
 | 11 => [t1, t2]
 | 12 => [t1, t12, t2, t3]
 | 13 => [t1, t12, t2, t3]
 | _ => []
def Jbf (k : Int) : Int := if k < 0 \/ 14 <= k then 1 else 0
def Jbg (p : Part) : List Txt := Jbr p.kind.toNat
def Ja0 (p : Part) : Int :=
 if Jbf p.kind ≠ 0 then Jbf p.kind else if Jcm p.name ≠ 0 then Jcm p.name else
 if (p.kind = 12 /\ (p.delay < 1 \/ p.delay > 1000000)) \/ (p.kind ≠ 12 /\ p.delay ≠ 0) then 2 else 0
end Go.Pn
namespace Go.Pn
open Go
theorem Jua (a : Port) : Jbj a a = false := by simp [Jbj, Jeg]
theorem J5h {a b : Port} (h : Jbj a b = true) : Jbj b a = false := by
 unfold Jbj at *
 by_cases e : a.part = b.part
 . rw [if_pos e] at h; rw [if_pos e.symm]; exact Jjy h
 . rw [if_neg e] at h; rw [if_neg (Ne.symm e)]; simp at h ⊢; omega
theorem Juc {a b c : Port} (h : Jbj a b = true) (k : Jbj b c = true) : Jbj a c = true := by
 unfold Jbj at *
 by_cases e : a.part = b.part
 . rw [if_pos e] at h
   by_cases e2 : b.part = c.part
   . rw [if_pos e2] at k; rw [if_pos (e.trans e2)]; exact Jg1 h k
   . rw [if_neg e2] at k; rw [if_neg (fun x => e2 (e.symm.trans x))]; simp at k ⊢; omega
 . rw [if_neg e] at h
   simp at h
   by_cases e2 : b.part = c.part
   . rw [if_neg (fun x => e (x.trans e2.symm))]; simp; omega
   . rw [if_neg e2] at k; simp at k; rw [if_neg (by omega)]; simp; omega
theorem Jub {a b : Port} (h : Jbj a b = false) (k : Jbj b a = false) : a = b := by
 unfold Jbj at *
 by_cases e : a.part = b.part
 . rw [if_pos e] at h; rw [if_pos e.symm] at k
   have := Jge h k
   cases a; cases b; simp_all
 . rw [if_neg e] at h; rw [if_neg (Ne.symm e)] at k; simp at h k; omega
def J51 (f : Port -> Port) (l : List Port) : List Port := l.foldl (fun ks p => if f p ∈ ks then ks else ks ++ [f p]) []
def groups (f : Port -> Port) (l : List Port) : List (List Port) := (J51 f l).map fun r => l.filter fun p => decide (f p = r)
end Go.Pn
namespace Go.Pn
open Go
structure Pass where
 to : Txt
 fr : List Txt
 all : Bool
 deriving DecidableEq
def Jlb : Nat -> Bool -> Txt × Txt
 | 2, b => if b then (t4, t2) else (t2, t4)
 | 3, b => if b then (t4, t2) else (t2, t4)
 | 4, b => if b then (t2, []) else ([], t2)
 | 5, b => if b then ([], t2) else (t2, [])
 | 6, b => if b then (t2, []) else ([], t2)
 | 7, b => if b then (t2, []) else ([], t2)
 | 8, _ => (t2, [])
 | 9, _ => (t2, [])
 | 10, _ => (t2, [])
 | 11, _ => (t2, [])
 | 12, b => if b then (t2, []) else ([], t2)
 | 13, b => if b then (t2, []) else ([], t2)
 | _, _ => ([], [])
def insOf (k : Nat) : List Txt := ((Jbo k)[0]?).getD []
def J42 (k : Nat) (b : Bool) : List Pass := if (Jlb k b).1 = [] then [] else [⟨(Jlb k b).1, insOf k, decide (k = 9)⟩]
def J7t (k : Nat) (b : Bool) : List Txt := if (Jlb k b).2 = [] then [] else [(Jlb k b).2]
def J2r (k : Nat) : Nat := if ((Jbo k)[2]?).getD [] = [] \/ k = 10 then 1 else 2
def Jt4 : Nat -> Txt × Txt
 | 2 => (t14, t12)
 | 3 => (t14, [])
 | 4 => (t12, [])
 | 5 => (t10, [])
 | 12 => (t12, [])
 | 13 => (t12, [])
 | _ => ([], [])
end Go.Pn
