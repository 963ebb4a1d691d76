/- Lemmas and contracts for the proof of a statement of this seat. -/
import Derived.Test.YtmfjjncfdpejiaaGreatDoorZC1
import Derived.Test.YtmfjjncfdpejiaaGreatDoorZCQ
import Derived.Test.YtmfjjncfdpejiaaGreatDoorZCP
import Derived.Lib.AtoiAll
import Derived.Lib.IndexAny
import Derived.Lib.ItoaNum
import Derived.Test.YtmfjjncfdpejiaaGreatDoorZCA
import Derived.Test.YtmfjjncfdpejiaaGreatDoorZA5
import Derived.Test.YtmfjjncfdpejiaaGreatDoorZCX
import Derived.Test.YtmfjjncfdpejiaaGreatDoorZC7
import Derived.Test.YtmfjjncfdpejiaaGreatDoorZA7
set_option linter.unusedVariables false
set_option linter.unusedSimpArgs false
namespace Go.Am
open Go Go.Proofs Go.Pn
end Go.Am
namespace Go.Am
open Go Go.Proofs Go.Pn
def cylN (c : Circuit) (k : Nat) : Int := ((c.parts.take k).countP fun p => decide (p.kind = 1) : Nat)
def Jq0 (c : Circuit) (s : Txt) : Int := Jea c s.dropLast
def grpK (c : Circuit) (k : Nat) (i : Nat) : Int := match c.parts[i]? with
 | none => -1
 | some p => if p.kind = 1 then (if i < k then cylN c (i + 1) else -1) else if p.kind = 0 then (if i < k then 0 else -1)
     else if p.kind = 6 then (if Jq0 c p.name < k then cylN c ((Jq0 c p.name).toNat + 1) else -1) else -1
end Go.Am
namespace Go.Am
open Go Go.Proofs Go.Pn
end Go.Am
namespace Go.Am
open Go Go.Proofs Go.Pn
end Go.Am
namespace Go.Am
open Go Go.Proofs Go.Pn
structure Lbl where
 grp : Int
 ltr : Txt
 num : Int
deriving DecidableEq
@[simp] def Lbl.av (x : Lbl) : AV := .agg [.p (.int .i64 x.grp), .p (.str x.ltr), .p (.int .i64 x.num)]
@[simp] def Lbl.enc (x : Lbl) : List PV := [.int .i64 x.grp, .str x.ltr, .int .i64 x.num]
@[simp] def Lbl.row_ (x : Lbl) : List AV := [.p (.int .i64 x.grp), .p (.str x.ltr), .p (.int .i64 x.num)]
end Go.Am
namespace Go.Am
open Go Go.Proofs Go.Pn
def Jaz (s : Txt) : Int := if s = [] \/ (1 < s.length /\ s.head? = some 48) then 3 else if s.all isDigit = false then 3 else if 7 < s.length then 17 else 0
def Jcp (s : Txt) : Int := s.foldl (fun n b => 10 * n + ((b.toNat : Int) - 48)) 0
def signed (s : Txt) : Bool := decide (s.head? = some 45)
def Jbr (s : Txt) : Int := if signed s /\ s.tail = [48] then 3 else Jaz (if signed s then s.tail else s)
def valOf (s : Txt) : Int := if Jbr s ≠ 0 then 0 else if signed s then -Jcp s.tail else Jcp s
theorem Jg3 {b : UInt8} : isDigit b = true ↔ 48 <= b.toNat /\ b.toNat <= 57 := by
 have h : ∀ n : Nat, n < 256 -> (isDigit (UInt8.ofNat n) = true ↔ 48 <= n /\ n <= 57) := by decide +kernel
 have := h b.toNat b.toNat_lt
 rwa [UInt8.ofNat_toNat] at this
end Go.Am
namespace Go.Am
open Go Go.Proofs Go.Pn
end Go.Am
namespace Go.Am
open Go Go.Proofs Go.Pn
end Go.Am
namespace Go.Am
open Go Go.Proofs Go.Pn
end Go.Am
namespace Go.Am
open Go Go.Proofs Go.Pn
end Go.Am
namespace Go.Am
open Go Go.Proofs Go.Pn
theorem Jrw {s : Txt} {b : UInt8} : s.head? = some b ↔ s[0]? = some b := by cases s <;> simp
theorem Jvu {b : UInt8} {n : Nat} (h : n < 256) : ((b.toNat : Int) = (n : Int)) ↔ b = UInt8.ofNat n := by
 rw [<- UInt8.toNat_inj]
 simp
 omega
theorem Jpi {s : Txt} (h : ∀ b ∈ s, isDigit b = true) : 0 <= Jcp s /\ Jcp s < 10 ^ s.length := by
 have key : ∀ (s : Txt) (n : Int), (∀ b ∈ s, isDigit b = true) -> 0 <= n -> 0 <= s.foldl (fun n b => 10 * n + ((b.toNat : Int) - 48)) n /\ s.foldl (fun n b => 10 * n + ((b.toNat : Int) - 48)) n < (n + 1) * 10 ^ s.length := by
   intro s
   induction s with
   | nil => intro n _ h0; simp; omega
   | cons b s ih =>
     intro n hd h0
     have hb := Jg3.1 (hd b (by simp))
     obtain ⟨h1, h2⟩ := ih (10 * n + ((b.toNat : Int) - 48)) (fun x hx => hd x (by simp [hx])) (by omega)
     rw [List.foldl_cons]
     refine ⟨h1, Int.lt_of_lt_of_le h2 ?_⟩
     rw [List.length_cons, Int.pow_succ]
     have h3 : 0 <= (10 : Int) ^ s.length := Int.pow_nonneg (by omega)
     have h4 : (n + 1) * (10 ^ s.length * 10) = (10 * (n + 1)) * 10 ^ s.length := by rw [Int.mul_comm (10 ^ s.length) 10, <- Int.mul_assoc, Int.mul_comm (n + 1) 10]
     rw [h4]
     exact Int.mul_le_mul_of_nonneg_right (by omega) h3
 have := key s 0 h (by omega)
 simpa [Jcp] using this
theorem J7a {s : Txt} {k : Nat} {b : UInt8} (e : s[k]? = some b) : Jcp (s.take (k + 1)) = 10 * Jcp (s.take k) + ((b.toNat : Int) - 48) := by
 rw [take_snoc e]
 unfold Jcp
 rw [List.foldl_append]
 rfl
theorem Joc {k : Nat} (h : k <= 7) : (10 : Int) ^ k <= 10000000 := (by decide : ∀ k, k <= 7 -> (10 : Int) ^ k <= 10000000) k h
theorem Jqj (s : Txt) (hs : s.length <= 7) (hd : ∀ b ∈ s, isDigit b = true) : Pure Tryz.prog GL 307 [.p (.str s)] (.p (.int .i64 (Jcp s))) := by
 refine Pure.of_walk (N := 20) Tryz.func307 rfl rfl rfl (by simp) (by first | (simp; done) | simp [*]) ?_
 simp
 refine Jah.go [0] [] 0 [] (fun _ => []) (fun _ (k : Nat) => [(3, .p (.int .i64 (Jcp (s.take k)))), (4, .p (.int .i64 k))]) (fun _ _ => []) (fun k => k <= s.length) (fun k => s.length - k) 0 (by omega) ?_ ?_
 . simp [Jcp]
 intro k hk
 have hb := @Jpi (s.take k) fun b hb => hd b (List.mem_of_mem_take hb)
 have hp := @Joc (s.take k).length (by simp; omega)
 have hsn := fun {b} (e : s[k]? = some b) => J7a e
 have hend : k = s.length -> Jcp (s.take k) = Jcp s := fun h => by rw [h, List.take_length]
 generalize Jcp (s.take k) = n at hb hsn hend
 simp
 refine Jac (fun h3 => ?_) (fun h3 => ?_)
 . simp at h3
   obtain ⟨b, e⟩ := Jag h3
   have hbd := Jg3.1 (hd b (List.mem_of_getElem? e))
   have hs2 := hsn e
   simp [h3, e, -getElem?_pos, List.getElem?_cons_zero, List.getElem?_cons_succ]
   refine ⟨wrap_i64 (by omega) (by omega), by simp [IntKind.wrap, IntKind.bits, IntKind.signed]; omega, wrap_i64 (by omega) (by omega), wrap_i64 (by omega) (by omega), wrap_i64 (by omega) (by omega), k + 1, by omega, by omega, ?_⟩
   simp [hs2]
 . simp at h3
   have hk2 : k = s.length := by omega
   simp [Jaa, hend hk2]
end Go.Am
namespace Go.Am
open Go Go.Proofs Go.Pn
end Go.Am
namespace Go.Am
open Go Go.Proofs Go.Pn
def g1 (c : Circuit) (k i : Nat) : Int := if i < k then (match c.parts[i]? with
 | some p => if p.kind = 1 then cylN c (i + 1) else if p.kind = 0 then 0 else -1
 | none => -1) else 0
def g2 (c : Circuit) (k i : Nat) : Int := if i < k then grpK c c.parts.length i else g1 c c.parts.length i
end Go.Am
namespace Go.Am
open Go Go.Proofs Go.Pn
end Go.Am
namespace Go.Am
open Go Go.Proofs Go.Pn
def Jcu (k : Nat) : Txt := (Joi[k]?.getD ([], [])).1
theorem J49 {k : Nat} : (Ji1 k)[0]? = some (.str (Jcu k)) := rfl
end Go.Am
namespace Go.Am
open Go Go.Proofs Go.Pn
end Go.Am
namespace Go.Am
open Go Go.Proofs Go.Pn
end Go.Am
namespace Go.Am
open Go Go.Proofs Go.Pn
end Go.Am
namespace Go.Am
open Go Go.Proofs Go.Pn
def zeros : List AV := List.replicate 64 (.p (.int .i64 0))
end Go.Am
namespace Go.Am
open Go Go.Proofs Go.Pn
open Classical in
theorem Jh9 {x v y : AV} : ∀ {es : List (AV × AV)}, Jat (setA es x v) y = if x = y then some v else Jat es y
 | [] => by
   rw [setA, Jdv]
 | (k, u) :: es => by
   rw [setA]
   by_cases h : k = x
   . rw [if_pos h, Jdv, Jdv]
     by_cases h2 : x = y
     . rw [if_pos h2, if_pos h2]
     . rw [if_neg h2, if_neg h2, if_neg (fun h3 => h2 (h.symm.trans h3))]
   . rw [if_neg h, Jdv, Jdv, Jh9]
     by_cases h2 : k = y
     . rw [if_pos h2, if_pos h2, if_neg (fun h3 => h (h2.trans h3.symm))]
     . rw [if_neg h2, if_neg h2]
theorem Ju2 {K : AV × AV -> Prop} {x v : AV} (hx : K (x, v)) : ∀ {es : List (AV × AV)}, (∀ e ∈ es, K e) -> ∀ e ∈ setA es x v, K e
 | [], _, e, he => by
   rw [setA, List.mem_singleton] at he
   subst he; exact hx
 | (k, u) :: es, h, e, he => by
   rw [setA] at he
   split at he
   . rcases List.mem_cons.1 he with rfl | he
     . exact hx
     . exact h e (List.mem_cons_of_mem _ he)
   . rcases List.mem_cons.1 he with rfl | he
     . exact h (k, u) (by simp)
     . exact Ju2 hx (fun e he => h e (List.mem_cons_of_mem _ he)) e he
theorem Ji2 {ρ : List Nat} : ∀ {es : List (AV × AV)}, (∀ e ∈ es, Jao e.1 = true /\ Jao e.2 = true) -> renE ρ es = some es
 | [], _ => rfl
 | e :: es, h => by
   obtain ⟨h1, h2⟩ := h e (by simp)
   rw [renE, Jgf.1 _ h1, Jgf.1 _ h2, Ji2 fun e he => h e (List.mem_cons_of_mem _ he)]
   rfl
end Go.Am
