/- Lemmas and contracts for the proof of a statement of this seat. -/
import Derived.Test.YtmfjjncfdpejiaaGreatDoorZC1
import Derived.Test.YtmfjjncfdpejiaaGreatDoorZCQ
import Derived.Test.YtmfjjncfdpejiaaGreatDoorZCP
import Derived.Lib.AtoiAll
import Derived.Lib.IndexAny
import Derived.Lib.ItoaNum
import Derived.Test.YtmfjjncfdpejiaaGreatDoorZCA
import Derived.Test.YtmfjjncfdpejiaaGreatDoorZA5
import Derived.Test.YtmfjjncfdpejiaaGreatDoorZCX
import Derived.Test.YtmfjjncfdpejiaaGreatDoorZC7
import Derived.Test.YtmfjjncfdpejiaaGreatDoorZA7
set_option linter.unusedVariables false
set_option linter.unusedSimpArgs false
namespace Go.Am
open Go Go.Proofs Go.Pn
end Go.Am
namespace Go.Am
open Go Go.Proofs Go.Pn
def cylN (c : Circuit) (k : Nat) : Int := ((c.parts.take k).countP fun p => decide (p.kind = 1) : Nat)
def Ju6 (c : Circuit) (s : Txt) : Int := Jb8 c s.dropLast
def grpK (c : Circuit) (k : Nat) (i : Nat) : Int := match c.parts[i]? with
 | none => -1
 | some p => if p.kind = 1 then (if i < k then cylN c (i + 1) else -1) else if p.kind = 0 then (if i < k then 0 else -1)
     else if p.kind = 6 then (if Ju6 c p.name < k then cylN c ((Ju6 c p.name).toNat + 1) else -1) else -1
end Go.Am
namespace Go.Am
open Go Go.Proofs Go.Pn
end Go.Am
namespace Go.Am
open Go Go.Proofs Go.Pn
theorem Jqz {c : Circuit} {i x : Int} : x ∈ dirL c i ↔ (x ∈ limL c i /\ 0 <= x) \/ ∃ p ∈ allP c, p.part = i /\ Jcz c p = true /\ ∃ q ∈ Ja1 c (around c p) false, q.part = x := by
 unfold dirL
 rw [Jxe, Jxc]
 simp only [List.not_mem_nil, false_or]
 constructor
 . rintro (h | h)
   . exact .inr h
   . exact .inl h
 . rintro (h | h)
   . exact .inr h
   . exact .inl h
end Go.Am
namespace Go.Am
open Go Go.Proofs Go.Pn
structure Lbl where
 grp : Int
 ltr : Txt
 num : Int
deriving DecidableEq
@[simp] def Lbl.av (x : Lbl) : AV := .agg [.p (.int .i64 x.grp), .p (.str x.ltr), .p (.int .i64 x.num)]
@[simp] def Lbl.enc (x : Lbl) : List PV := [.int .i64 x.grp, .str x.ltr, .int .i64 x.num]
@[simp] def Lbl.row_ (x : Lbl) : List AV := [.p (.int .i64 x.grp), .p (.str x.ltr), .p (.int .i64 x.num)]
end Go.Am
namespace Go.Am
open Go Go.Proofs Go.Pn
def Jcl (s : Txt) : Int := if s = [] \/ (1 < s.length /\ s.head? = some 48) then 3 else if s.all isDigit = false then 3 else if 7 < s.length then 17 else 0
def Jlq (s : Txt) : Int := s.foldl (fun n b => 10 * n + ((b.toNat : Int) - 48)) 0
def signed (s : Txt) : Bool := decide (s.head? = some 45)
def Jdd (s : Txt) : Int := if signed s /\ s.tail = [48] then 3 else Jcl (if signed s then s.tail else s)
def valOf (s : Txt) : Int := if Jdd s ≠ 0 then 0 else if signed s then -Jlq s.tail else Jlq s
theorem Jmo {b : UInt8} : isDigit b = true ↔ 48 <= b.toNat /\ b.toNat <= 57 := by
 have h : ∀ n : Nat, n < 256 -> (isDigit (UInt8.ofNat n) = true ↔ 48 <= n /\ n <= 57) := by decide +kernel
 have := h b.toNat b.toNat_lt
 rwa [UInt8.ofNat_toNat] at this
end Go.Am
namespace Go.Am
open Go Go.Proofs Go.Pn
end Go.Am
namespace Go.Am
open Go Go.Proofs Go.Pn
end Go.Am
namespace Go.Am
open Go Go.Proofs Go.Pn
end Go.Am
namespace Go.Am
open Go Go.Proofs Go.Pn
end Go.Am
namespace Go.Am
open Go Go.Proofs Go.Pn
end Go.Am
namespace Go.Am
open Go Go.Proofs Go.Pn
end Go.Am
namespace Go.Am
open Go Go.Proofs Go.Pn
def g1 (c : Circuit) (k i : Nat) : Int := if i < k then (match c.parts[i]? with
 | some p => if p.kind = 1 then cylN c (i + 1) else if p.kind = 0 then 0 else -1
 | none => -1) else 0
def g2 (c : Circuit) (k i : Nat) : Int := if i < k then grpK c c.parts.length i else g1 c c.parts.length i
end Go.Am
namespace Go.Am
open Go Go.Proofs Go.Pn
end Go.Am
namespace Go.Am
open Go Go.Proofs Go.Pn
def Jjy (k : Nat) : Txt := (Jrs[k]?.getD ([], [])).1
end Go.Am
namespace Go.Am
open Go Go.Proofs Go.Pn
end Go.Am
namespace Go.Am
open Go Go.Proofs Go.Pn
end Go.Am
namespace Go.Am
open Go Go.Proofs Go.Pn
end Go.Am
namespace Go.Am
open Go Go.Proofs Go.Pn
def zeros : List AV := List.replicate 64 (.p (.int .i64 0))
end Go.Am
namespace Go.Am
open Go Go.Proofs Go.Pn
open Classical in
theorem Jmb {x v y : AV} : ∀ {es : List (AV × AV)}, Jam (setA es x v) y = if x = y then some v else Jam es y
 | [] => by
   rw [setA, Jd5]
 | (k, u) :: es => by
   rw [setA]
   by_cases h : k = x
   . rw [if_pos h, Jd5, Jd5]
     by_cases h2 : x = y
     . rw [if_pos h2, if_pos h2]
     . rw [if_neg h2, if_neg h2, if_neg (fun h3 => h2 (h.symm.trans h3))]
   . rw [if_neg h, Jd5, Jd5, Jmb]
     by_cases h2 : k = y
     . rw [if_pos h2, if_pos h2, if_neg (fun h3 => h (h2.trans h3.symm))]
     . rw [if_neg h2, if_neg h2]
theorem Jzm {K : AV -> Prop} {x v : AV} (hx : K x) : ∀ {es : List (AV × AV)}, (∀ e ∈ es, K e.1) -> ∀ e ∈ setA es x v, K e.1
 | [], _, e, he => by
   rw [setA, List.mem_singleton] at he
   subst he; exact hx
 | (k, u) :: es, h, e, he => by
   rw [setA] at he
   split at he
   . rcases List.mem_cons.1 he with rfl | he
     . exact hx
     . exact h e (List.mem_cons_of_mem _ he)
   . rcases List.mem_cons.1 he with rfl | he
     . exact h (k, u) (by simp)
     . exact Jzm hx (fun e he => h e (List.mem_cons_of_mem _ he)) e he
theorem J18 {es : List (AV × AV)} {x z : AV} (h : Jam es x = none) : Jam (es ++ [(x, z)]) x = some z := by
 induction es with
 | nil => rw [List.nil_append, Jd5, if_pos rfl]
 | cons e es ih =>
   rw [Jd5] at h
   rw [List.cons_append, Jd5]
   by_cases he : e.1 = x
   . rw [if_pos he] at h; cases h
   . rw [if_neg he] at h
     rw [if_neg he, ih h]
theorem Ju9 {es : List (AV × AV)} {x z : AV} : Jam (entA es x z) x = some ((Jam es x).getD z) := by
 unfold entA
 cases h : Jam es x with
 | none => exact J18 h
 | some v => exact h
theorem J57 {K : AV -> Prop} {es : List (AV × AV)} {x z : AV} (h : ∀ e ∈ es, K e.1) (hx : K x) : ∀ e ∈ entA es x z, K e.1 := by
 intro e he
 unfold entA at he
 split at he
 . exact h e he
 . rcases List.mem_append.1 he with he | he
   . exact h e he
   . rw [List.mem_singleton] at he; subst he; exact hx
theorem Jzl {K : AV × AV -> Prop} {x v : AV} (hx : K (x, v)) : ∀ {es : List (AV × AV)}, (∀ e ∈ es, K e) -> ∀ e ∈ setA es x v, K e
 | [], _, e, he => by
   rw [setA, List.mem_singleton] at he
   subst he; exact hx
 | (k, u) :: es, h, e, he => by
   rw [setA] at he
   split at he
   . rcases List.mem_cons.1 he with rfl | he
     . exact hx
     . exact h e (List.mem_cons_of_mem _ he)
   . rcases List.mem_cons.1 he with rfl | he
     . exact h (k, u) (by simp)
     . exact Jzl hx (fun e he => h e (List.mem_cons_of_mem _ he)) e he
theorem Jk1 {ρ : List Nat} : ∀ {es : List (AV × AV)}, (∀ e ∈ es, Jaq e.1 = true /\ Jaq e.2 = true) -> renE ρ es = some es
 | [], _ => rfl
 | e :: es, h => by
   obtain ⟨h1, h2⟩ := h e (by simp)
   rw [renE, Jec.1 _ h1, Jec.1 _ h2, Jk1 fun e he => h e (List.mem_cons_of_mem _ he)]
   rfl
end Go.Am
