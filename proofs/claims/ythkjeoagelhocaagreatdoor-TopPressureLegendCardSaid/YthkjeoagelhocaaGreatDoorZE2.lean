/- Lemmas and contracts for the proof of a statement of this seat. -/
import Derived.Test.YthkjeoagelhocaaGreatDoorZD3
import Derived.Shelf.Strings.Fields
import Derived.Test.YthkjeoagelhocaaGreatDoorZD8
import Derived.Test.YthkjeoagelhocaaGreatDoorZA5
import Derived.Test.YthkjeoagelhocaaGreatDoorZCA
import Derived.Test.YthkjeoagelhocaaGreatDoorZA7
set_option linter.unusedVariables false
set_option linter.unusedSimpArgs false
namespace Go.Am
open Go Go.Proofs Go.Shelf Go.RowKit
end Go.Am
namespace Go.Am
open Go Go.Proofs Go.Pn
theorem rep_succ {n : Nat} : Lib.repeatL [32] (n + 1) = 32 :: Lib.repeatL [32] n := rfl
theorem J06 {n : Nat} : Lib.repeatL [32] (n + 1) = Lib.repeatL [32] n ++ [32] := by
 induction n with
 | zero => rfl
 | succ n ih =>
   rw [rep_succ, ih, show (32 : UInt8) :: (Lib.repeatL [32] n ++ [32]) = (32 :: Lib.repeatL [32] n) ++ [32] from rfl, <- rep_succ, ih]
theorem J15 (s : Txt) : ∃ n, s = Lib.trimRightS s [32] ++ Lib.repeatL [32] n := by
 unfold Lib.trimRightS
 have h : ∀ (r : Txt), ∃ n, r.reverse = (r.dropWhile ([(32 : UInt8)].contains ·)).reverse ++ Lib.repeatL [32] n := by
   intro r
   induction r with
   | nil => exact ⟨0, rfl⟩
   | cons b r ih =>
     obtain ⟨n, hn⟩ := ih
     by_cases hb : b = 32
     . subst hb
       refine ⟨n + 1, ?_⟩
       have hd : (32 :: r).dropWhile ([(32 : UInt8)].contains ·) = r.dropWhile ([(32 : UInt8)].contains ·) := by simp [List.dropWhile_cons]
       rw [hd, List.reverse_cons, hn, J06, List.append_assoc]
     . refine ⟨0, ?_⟩
       have hd : (b :: r).dropWhile ([(32 : UInt8)].contains ·) = b :: r := by simp [List.dropWhile_cons, hb]
       rw [hd]; simp [Lib.repeatL]
 obtain ⟨n, hn⟩ := h s.reverse
 exact ⟨n, by rw [List.reverse_reverse] at hn; exact hn⟩
theorem Kho {s : Txt} : (Lib.trimRightS s [32]).length <= s.length := by
 obtain ⟨n, hn⟩ := J15 s
 conv => rhs; rw [hn]
 simp
structure CellsOk (c : Circuit) (l : List Plc) (i : Int) : Prop where
 ne : ∀ j, cellT c l i j ≠ []
 sp : ∀ j, ∀ b ∈ cellT c l i j, Lib.isSp b = false
 small : ∀ j, ∀ b ∈ cellT c l i j, b.toNat < 128
 wide : ∀ j, (cellT c l i j).length < widT c c.parts.length
end Go.Am
namespace Go.Am
open Go Go.Proofs Go.Pn
theorem J0f {c : Circuit} (h : Jac c = 0) {k : Nat} (hk : k < c.parts.length) : partAt c k = 0 := by
 have hp : Jaq (partAt c) c.parts.length = 0 := by unfold Jac at h; grind
 exact Jfu hp hk
theorem Jhy {c : Circuit} (h : Jac c = 0) {k : Nat} {q : Part} (e : c.parts[k]? = some q) : Jbt q.name = 0 := by
 have h1 := J0f h (gsI.1 e).1
 unfold partAt at h1
 rw [e] at h1
 simp only at h1
 have h2 : Jbb q = 0 := by
   by_cases h2 : Jbb q = 0
   . exact h2
   . rw [if_pos h2] at h1; exact absurd h1 h2
 unfold Jbb at h2
 by_cases h3 : Jas q.kind ≠ 0
 . rw [if_pos h3] at h2; exact absurd h2 h3
 . rw [if_neg h3] at h2
   by_cases h4 : Jbt q.name = 0
   . exact h4
   . rw [if_pos h4] at h2; exact h2
theorem J0h {c : Circuit} (h : Jac c = 0) {k : Nat} {p q : Part} (e1 : c.parts[k]? = some p) (e2 : c.parts[k + 1]? = some q) : Op.bytesLess p.name q.name = true := by
 have h1 := J0f h (gsI.1 e2).1
 unfold partAt at h1
 rw [e2] at h1
 simp only [Nat.add_sub_cancel, e1, Option.map_some, Option.getD_some] at h1
 by_cases h2 : Jbb q ≠ 0
 . rw [if_pos h2] at h1; exact absurd h1 h2
 . rw [if_neg h2] at h1
   by_cases h3 : Op.bytesLess p.name q.name = true
   . exact h3
   . rw [if_pos ⟨by omega, h3⟩] at h1; simp at h1
theorem Jrr {c : Circuit} (h : Jac c = 0) : ∀ {j i : Nat} {p q : Part}, i < j -> c.parts[i]? = some p -> c.parts[j]? = some q -> Op.bytesLess p.name q.name = true
 | 0, i, _, _, hij, _, _ => by omega
 | j + 1, i, p, q, hij, e1, e2 => by
   by_cases hi : i = j
   . subst hi; exact J0h h e1 e2
   . obtain ⟨r, er⟩ := Jae (show j < c.parts.length by have := (gsI.1 e2).1; omega)
     exact Jil (Jrr h (j := j) (i := i) (by omega) e1 er) (J0h h er e2)
theorem Kcj {c : Circuit} (h : Jac c = 0) {i j : Nat} {p q : Part} (e1 : c.parts[i]? = some p) (e2 : c.parts[j]? = some q) (hn : p.name = q.name) : i = j := by
 rcases Nat.lt_trichotomy i j with h1 | h1 | h1
 . have := Jrr h h1 e1 e2
   rw [hn, Jdu] at this; cases this
 . exact h1
 . have := Jrr h h1 e2 e1
   rw [hn, Jdu] at this; cases this
theorem Jxj {b : UInt8} (h : Jbu b = true) : b.toNat < 128 /\ Lib.isSp b = false := by
 have h2 : (∀ n : Nat, n < 256 -> (Jbu (UInt8.ofNat n) = true -> n < 128 /\ Lib.isSp (UInt8.ofNat n) = false)) := by decide +kernel
 have h3 := h2 b.toNat b.toNat_lt
 rw [UInt8.ofNat_toNat] at h3
 exact h3 h
theorem Jif {s : Txt} (h : Jbt s = 0) : s ≠ [] /\ s ≠ [46] /\ (∀ b ∈ s, Lib.isSp b = false) /\ ∀ b ∈ s, b.toNat < 128 := by
 cases s with
 | nil => simp [Jbt] at h
 | cons b r =>
   unfold Jbt at h
   simp only at h
   by_cases h1 : (!Je0 b) = true
   . rw [if_pos h1] at h; simp at h
   . rw [if_neg h1] at h
     by_cases h2 : (!(b :: r).all Jbu) = true
     . rw [if_pos h2] at h; simp at h
     . have hall : ∀ x ∈ b :: r, Jbu x = true := by
         simp only [Bool.not_eq_true', Bool.not_eq_false] at h2
         exact List.all_eq_true.1 h2
       refine ⟨by simp, ?_, fun x hx => (Jxj (hall x hx)).2, fun x hx => (Jxj (hall x hx)).1⟩
       intro e
       cases e
       exact h1 (by decide)
theorem Jy3 : ∀ {l : List Plc} {ns : List Txt} {k : Nat} {p : Plc} {s : Txt}, l.Nodup -> l[k]? = some p -> ns[k]? = some s -> Jd0 (l.zip ns) p = some s
 | [], _, k, _, _, _, h, _ => by simp at h
 | _ :: _, [], k, _, _, _, _, h => by simp at h
 | a :: l, n :: ns, 0, p, s, _, h1, h2 => by
   simp at h1 h2; subst h1; subst h2; simp [Jd0]
 | a :: l, n :: ns, k + 1, p, s, hnd, h1, h2 => by
   have h3 : l[k]? = some p := by simpa using h1
   have h4 : ns[k]? = some s := by simpa using h2
   have hne : ¬ a = p := fun e => (List.nodup_cons.1 hnd).1 (e ▸ List.mem_of_getElem? h3)
   have ih := Jy3 (List.nodup_cons.1 hnd).2 h3 h4
   unfold Jd0 at ih ⊢
   rw [List.zip_cons_cons, List.find?_cons_of_neg (by simpa using hne)]
   exact ih
theorem Jy1 {c : Circuit} {l : List Plc} (hl : l.length = c.parts.length) : namL c l l.length = l.zip (c.parts.map (·.name)) := by
 unfold namL; rw [List.take_length, hl, List.take_length]
theorem Jvn {c : Circuit} {l : List Plc} (hL : LayOk c l) {k : Nat} {p : Plc} {q : Part} (e1 : l[k]? = some p) (e2 : c.parts[k]? = some q) : cellT c l p.row p.col = q.name := by
 unfold cellT
 rw [Jy1 hL.len, Jy3 hL.nd e1 (by rw [List.getElem?_map, e2]; rfl)]
 rfl
theorem Jgt {c : Circuit} {l : List Plc} (hL : LayOk c l) (i j : Int) : cellT c l i j = [46] \/ ∃ (k : Nat) (q : Part), l[k]? = some ⟨i, j⟩ /\ c.parts[k]? = some q /\ cellT c l i j = q.name := by
 unfold cellT
 rw [Jy1 hL.len]
 cases h : Jd0 (l.zip (c.parts.map (·.name))) ⟨i, j⟩ with
 | none => exact .inl rfl
 | some s =>
   obtain ⟨k, hk⟩ := List.mem_iff_getElem?.1 (Jy2 h)
   rw [List.getElem?_zip_eq_some] at hk
   obtain ⟨h1, h2⟩ := hk
   rw [List.getElem?_map, Option.map_eq_some_iff] at h2
   obtain ⟨q, h3, h4⟩ := h2
   exact .inr ⟨k, q, h1, h3, h4.symm⟩
theorem J6l {c : Circuit} {l : List Plc} (h : Jac c = 0) (hL : LayOk c l) {k : Nat} {p : Plc} {q : Part} (e1 : l[k]? = some p) (e2 : c.parts[k]? = some q) (i j : Int) : cellT c l i j = q.name ↔ p = ⟨i, j⟩ := by
 constructor
 . intro hc
   rcases Jgt hL i j with h1 | ⟨k', q', h1, h2, h3⟩
   . rw [h1] at hc
     exact absurd hc.symm (Jif (Jhy h e2)).2.1
   . rw [h3] at hc
     have := Kcj h h2 e2 hc
     subst this
     rw [e1] at h1
     simpa using h1
 . rintro rfl
   exact Jvn hL e1 e2
theorem cells_ok {c : Circuit} {l : List Plc} (h : Jac c = 0) (hL : LayOk c l) (h0 : 0 < l.length) (i : Int) : CellsOk c l i := by
 have hl := hL.len
 have hW : 1 < widT c c.parts.length := by
   obtain ⟨q, e⟩ := Jae (show 0 < c.parts.length by omega)
   have h1 := Jlu (c := c) (k := c.parts.length) (by omega) e
   have h2 := List.length_pos_iff.2 (Jif (Jhy h e)).1
   omega
 refine ⟨fun j => ?_, fun j => ?_, fun j => ?_, fun j => ?_⟩
 . rcases Jgt hL i j with h1 | ⟨k, q, _, h2, h3⟩
   . rw [h1]; simp
   . rw [h3]; exact (Jif (Jhy h h2)).1
 . rcases Jgt hL i j with h1 | ⟨k, q, _, h2, h3⟩
   . rw [h1]; decide
   . rw [h3]; exact (Jif (Jhy h h2)).2.2.1
 . rcases Jgt hL i j with h1 | ⟨k, q, _, h2, h3⟩
   . rw [h1]; decide
   . rw [h3]; exact (Jif (Jhy h h2)).2.2.2
 . rcases Jgt hL i j with h1 | ⟨k, q, _, h2, h3⟩
   . rw [h1]; simpa using hW
   . rw [h3]
     have := Jlu (c := c) (k := c.parts.length) (gsI.1 h2).1 h2
     omega
end Go.Am
namespace Go.Am
open Go Go.Proofs Go.Pn
theorem Jv6 {l : List Plc} : ∀ {n k : Nat} {p : Plc}, k < n -> l[k]? = some p -> p.col < colT l n
 | 0, k, p, h, _ => by omega
 | n + 1, k, p, h, e => by
   simp only [colT]
   by_cases hk : k = n
   . subst hk; rw [e]; simp only; omega
   . have ih := @Jv6 l n k p (by omega) e
     cases l[n]? with
     | none => exact ih
     | some q => simp only; omega
end Go.Am
namespace Go.Am
open Go Go.Proofs Go.Pn
def Jcc (c : Circuit) (l : List Plc) (i : Int) : List Txt := (List.range (colT l l.length).toNat).map fun (j : Nat) => cellT c l i (j : Int)
theorem J6m {c : Circuit} {l : List Plc} {i : Int} : (Jcc c l i).length = (colT l l.length).toNat := by simp [Jcc]
theorem J7b {c : Circuit} {l : List Plc} {k : Nat} (h : k < 5) : (Jdv c l 5)[k]? = some (Jfs c l k) := by simp [Jdv, h]
end Go.Am
