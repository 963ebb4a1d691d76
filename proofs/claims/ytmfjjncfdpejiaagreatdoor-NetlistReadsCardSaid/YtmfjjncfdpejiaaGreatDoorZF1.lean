/- Lemmas and contracts for the proof of a statement of this seat. -/
import Derived.Test.YtmfjjncfdpejiaaGreatDoorZC1
import Derived.Test.YtmfjjncfdpejiaaGreatDoorZCQ
import Derived.Test.YtmfjjncfdpejiaaGreatDoorZCP
import Derived.Lib.AtoiAll
import Derived.Lib.IndexAny
import Derived.Lib.ItoaNum
import Derived.Test.YtmfjjncfdpejiaaGreatDoorZCA
import Derived.Test.YtmfjjncfdpejiaaGreatDoorZA5
import Derived.Test.YtmfjjncfdpejiaaGreatDoorZCX
import Derived.Test.YtmfjjncfdpejiaaGreatDoorZC7
import Derived.Test.YtmfjjncfdpejiaaGreatDoorZA7
set_option linter.unusedVariables false
set_option linter.unusedSimpArgs false
namespace Go.Am
open Go Go.Proofs Go.Pn
end Go.Am
namespace Go.Am
open Go Go.Proofs Go.Pn
def cylN (c : Circuit) (k : Nat) : Int := ((c.parts.take k).countP fun p => decide (p.kind = 1) : Nat)
def Jq3 (c : Circuit) (s : Txt) : Int := Jc8 c s.dropLast
def grpK (c : Circuit) (k : Nat) (i : Nat) : Int := match c.parts[i]? with
 | none => -1
 | some p => if p.kind = 1 then (if i < k then cylN c (i + 1) else -1) else if p.kind = 0 then (if i < k then 0 else -1)
     else if p.kind = 6 then (if Jq3 c p.name < k then cylN c ((Jq3 c p.name).toNat + 1) else -1) else -1
end Go.Am
namespace Go.Am
open Go Go.Proofs Go.Pn
end Go.Am
namespace Go.Am
open Go Go.Proofs Go.Pn
end Go.Am
namespace Go.Am
open Go Go.Proofs Go.Pn
structure Lbl where
 grp : Int
 ltr : Txt
 num : Int
deriving DecidableEq
@[simp] def Lbl.av (x : Lbl) : AV := .agg [.p (.int .i64 x.grp), .p (.str x.ltr), .p (.int .i64 x.num)]
@[simp] def Lbl.enc (x : Lbl) : List PV := [.int .i64 x.grp, .str x.ltr, .int .i64 x.num]
@[simp] def Lbl.row_ (x : Lbl) : List AV := [.p (.int .i64 x.grp), .p (.str x.ltr), .p (.int .i64 x.num)]
end Go.Am
namespace Go.Am
open Go Go.Proofs Go.Pn
def Jb4 (s : Txt) : Int := if s = [] \/ (1 < s.length /\ s.head? = some 48) then 3 else if s.all isDigit = false then 3 else if 7 < s.length then 17 else 0
def Jgb (s : Txt) : Int := s.foldl (fun n b => 10 * n + ((b.toNat : Int) - 48)) 0
def signed (s : Txt) : Bool := decide (s.head? = some 45)
def Jcj (s : Txt) : Int := if signed s /\ s.tail = [48] then 3 else Jb4 (if signed s then s.tail else s)
def valOf (s : Txt) : Int := if Jcj s ≠ 0 then 0 else if signed s then -Jgb s.tail else Jgb s
theorem Jfv {b : UInt8} : isDigit b = true ↔ 48 <= b.toNat /\ b.toNat <= 57 := by
 have h : ∀ n : Nat, n < 256 -> (isDigit (UInt8.ofNat n) = true ↔ 48 <= n /\ n <= 57) := by decide +kernel
 have := h b.toNat b.toNat_lt
 rwa [UInt8.ofNat_toNat] at this
end Go.Am
namespace Go.Am
open Go Go.Proofs Go.Pn
end Go.Am
namespace Go.Am
open Go Go.Proofs Go.Pn
end Go.Am
namespace Go.Am
open Go Go.Proofs Go.Pn
end Go.Am
namespace Go.Am
open Go Go.Proofs Go.Pn
end Go.Am
namespace Go.Am
open Go Go.Proofs Go.Pn
end Go.Am
namespace Go.Am
open Go Go.Proofs Go.Pn
end Go.Am
namespace Go.Am
open Go Go.Proofs Go.Pn
def g1 (c : Circuit) (k i : Nat) : Int := if i < k then (match c.parts[i]? with
 | some p => if p.kind = 1 then cylN c (i + 1) else if p.kind = 0 then 0 else -1
 | none => -1) else 0
def g2 (c : Circuit) (k i : Nat) : Int := if i < k then grpK c c.parts.length i else g1 c c.parts.length i
end Go.Am
namespace Go.Am
open Go Go.Proofs Go.Pn
end Go.Am
namespace Go.Am
open Go Go.Proofs Go.Pn
def Jbl (k : Nat) : Txt := (Joj[k]?.getD ([], [])).1
end Go.Am
namespace Go.Am
open Go Go.Proofs Go.Pn
end Go.Am
namespace Go.Am
open Go Go.Proofs Go.Pn
end Go.Am
namespace Go.Am
open Go Go.Proofs Go.Pn
end Go.Am
namespace Go.Am
open Go Go.Proofs Go.Pn
def zeros : List AV := List.replicate 64 (.p (.int .i64 0))
end Go.Am
namespace Go.Am
open Go Go.Proofs Go.Pn
open Classical in
theorem Jie {x v y : AV} : ∀ {es : List (AV × AV)}, Jao (setA es x v) y = if x = y then some v else Jao es y
 | [] => by
   rw [setA, Jd4]
 | (k, u) :: es => by
   rw [setA]
   by_cases h : k = x
   . rw [if_pos h, Jd4, Jd4]
     by_cases h2 : x = y
     . rw [if_pos h2, if_pos h2]
     . rw [if_neg h2, if_neg h2, if_neg (fun h3 => h2 (h.symm.trans h3))]
   . rw [if_neg h, Jd4, Jd4, Jie]
     by_cases h2 : k = y
     . rw [if_pos h2, if_pos h2, if_neg (fun h3 => h (h2.trans h3.symm))]
     . rw [if_neg h2, if_neg h2]
theorem Jvb {K : AV × AV -> Prop} {x v : AV} (hx : K (x, v)) : ∀ {es : List (AV × AV)}, (∀ e ∈ es, K e) -> ∀ e ∈ setA es x v, K e
 | [], _, e, he => by
   rw [setA, List.mem_singleton] at he
   subst he; exact hx
 | (k, u) :: es, h, e, he => by
   rw [setA] at he
   split at he
   . rcases List.mem_cons.1 he with rfl | he
     . exact hx
     . exact h e (List.mem_cons_of_mem _ he)
   . rcases List.mem_cons.1 he with rfl | he
     . exact h (k, u) (by simp)
     . exact Jvb hx (fun e he => h e (List.mem_cons_of_mem _ he)) e he
theorem Ji5 {ρ : List Nat} : ∀ {es : List (AV × AV)}, (∀ e ∈ es, Jan e.1 = true /\ Jan e.2 = true) -> renE ρ es = some es
 | [], _ => rfl
 | e :: es, h => by
   obtain ⟨h1, h2⟩ := h e (by simp)
   rw [renE, Jf4.1 _ h1, Jf4.1 _ h2, Ji5 fun e he => h e (List.mem_cons_of_mem _ he)]
   rfl
end Go.Am
