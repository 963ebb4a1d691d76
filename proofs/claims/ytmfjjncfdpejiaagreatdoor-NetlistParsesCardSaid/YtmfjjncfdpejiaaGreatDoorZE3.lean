/- Contracts: the reference's fields of a line; chapter 25. -/
import Derived.Test.YtmfjjncfdpejiaaGreatDoorZCX
set_option linter.unusedVariables false
set_option linter.unusedSimpArgs false
namespace Go.Am
open Go Go.Proofs Go.Pn
def fldK (s : Txt) : Nat -> List Txt × Txt
 | 0 => ([], [])
 | k + 1 => match s[k]? with
   | some b => if b ≠ 32 then ((fldK s k).1, (fldK s k).2 ++ [b]) else (if (fldK s k).2 = [] then (fldK s k).1 else (fldK s k).1 ++ [(fldK s k).2], [])
   | none => (if (fldK s k).2 = [] then (fldK s k).1 else (fldK s k).1 ++ [(fldK s k).2], [])
def fldR (s : Txt) : List Txt := (fldK s (s.length + 1)).1
theorem Jrg {s : Txt} : ∀ {k : Nat}, (fldK s k).1.length <= k /\ (fldK s k).2.length <= k
 | 0 => by simp [fldK]
 | k + 1 => by
   have ih := @Jrg s k
   simp only [fldK]
   cases s[k]? with
   | none => simp only; split <;> simp <;> omega
   | some b =>
     simp only
     split
     . simp; omega
     . split <;> simp <;> omega
set_option maxRecDepth 20000 in
theorem Jm2 (s : Txt) (hl : s.length <= 20000) : Pure Tryz.prog GL 158 [.p (.str s)] (.p (.lst 1 ((fldR s).map Txt.enc))) := by
 refine Pure.of_walk (N := 36) Tryz.func158 rfl rfl rfl (by simp) (by first | (simp; done) | simp [*]) ?_
 simp
 refine Jah.goN [0] [] 1 (fun (k : Nat) => [(3, .acc 0 1 (fldK s k).1.length), (4, .p (.str (fldK s k).2)), (5, .p (.int .i64 k))]) (fun k => [(0, accB 1 ((fldK s k).1.map Txt.row))]) (fun k => k <= s.length + 1) (fun k => s.length + 1 - k) 0 (by omega) ?_ ?_
 . refine Leads.subx (ρ := [0]) ?_
   simp [fldK]
 intro k hk
 have hkl := @Jrg s k
 simp
 refine Jac (fun h3 => ?_) (fun h3 => ?_)
 . simp at h3
   by_cases h4 : k < s.length
   . obtain ⟨b, e⟩ := Jag h4
     by_cases h5 : b = 32
     . subst h5
       by_cases h6 : (fldK s k).2 = []
       . have hs : fldK s (k + 1) = ((fldK s k).1, []) := by simp [fldK, e, h6]
         simp [h4, e, h6, -getElem?_pos, List.getElem?_cons_zero, List.getElem?_cons_succ]
         refine ⟨wrap_i64 (by omega) (by omega), k + 1, by omega, by omega, ?_⟩
         rw [hs]
         refine Leads.subx (ρ := [0]) ?_
         simp
       . have hs : fldK s (k + 1) = ((fldK s k).1 ++ [(fldK s k).2], []) := by simp [fldK, e, h6]
         simp [h4, e, h6, -getElem?_pos, List.getElem?_cons_zero, List.getElem?_cons_succ]
         refine ⟨by omega, wrap_i64 (by omega) (by omega), k + 1, by omega, by omega, ?_⟩
         rw [hs]
         refine Leads.subx (ρ := [2]) ?_
         simp
     . have hs : fldK s (k + 1) = ((fldK s k).1, (fldK s k).2 ++ [b]) := by simp [fldK, e, h5]
       have h7 : ¬ ((b.toNat : Int) = 32) := fun h7 => h5 (UInt8.toNat_inj.1 (show b.toNat = 32 by omega))
       have hdt : (List.drop k s).take 1 = [b] := by rw [List.drop_eq_getElem_cons h4]; rw [List.getElem?_eq_getElem h4] at e; cases e; rfl
       have hle : (0 : Int) <= (k : Int) + 1 /\ (k : Int) + 1 <= (s.length : Int) := by omega
       simp [h4, e, h7, -getElem?_pos, List.getElem?_cons_zero, List.getElem?_cons_succ]
       rw [if_pos hle]
       refine ⟨wrap_i64 (by omega) (by omega), ?_⟩
       simp
       rw [if_pos (by omega)]
       simp
       refine ⟨by omega, wrap_i64 (by omega) (by omega), k + 1, by omega, by omega, ?_⟩
       rw [hs]
       refine Leads.subx (ρ := [0]) ?_
       simp [hdt]
   . have hn : s[k]? = none := List.getElem?_eq_none (by omega)
     by_cases h6 : (fldK s k).2 = []
     . have hs : fldK s (k + 1) = ((fldK s k).1, []) := by simp [fldK, hn, h6]
       simp [h4, h6]
       refine ⟨wrap_i64 (by omega) (by omega), k + 1, by omega, by omega, ?_⟩
       rw [hs]
       refine Leads.subx (ρ := [0]) ?_
       simp
     . have hs : fldK s (k + 1) = ((fldK s k).1 ++ [(fldK s k).2], []) := by simp [fldK, hn, h6]
       simp [h4, h6]
       refine ⟨by omega, wrap_i64 (by omega) (by omega), k + 1, by omega, by omega, ?_⟩
       rw [hs]
       refine Leads.subx (ρ := [2]) ?_
       simp
 simp at h3
 have hke : k = s.length + 1 := by omega
 subst hke
 simp [Jaa, fldR]
end Go.Am
