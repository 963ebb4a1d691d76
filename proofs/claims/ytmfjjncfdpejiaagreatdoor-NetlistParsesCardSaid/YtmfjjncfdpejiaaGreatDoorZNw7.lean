/- Contracts: NetlistParses; chapter 23. -/
import Derived.Test.YtmfjjncfdpejiaaGreatDoorZW1
import Derived.Test.YtmfjjncfdpejiaaGreatDoorZW3
set_option linter.unusedVariables false
set_option linter.unusedSimpArgs false
namespace Go.Am
open Go Go.Proofs Go.Pn
theorem Kf5 {t : Txt} : Sized (prsC t) := by
 by_cases h : prsE t = 0
 . unfold prsC; rw [if_pos h]; exact Joz (Jop Jiu) (Joq Jiv) (Joo Jit)
 . unfold prsC; rw [if_neg h]; exact ⟨by decide, by decide, by decide⟩
def Kgb (t : Txt) : Bool := decide (t.length <= 1500) || (decide (16384 < t.length) && decide (t.length < 32768))
theorem Kfk (t : Txt) : Pure Tryz.prog GL 15 [.p (.str t)] (.p (.bool (Kgb t))) := by
 refine Pure.of_walk (N := 16) Tryz.func15 rfl rfl rfl (by simp) (by first | (simp; done) | simp [*]) ?_
 unfold Kgb
 by_cases h1 : t.length <= 1500
 . have h1' : (t.length : Int) <= 1500 := by omega
   simp [h1, h1', Jaa]
 . have h1' : ¬ (t.length : Int) <= 1500 := by omega
   by_cases h2 : 16384 < t.length
   . have h2' : (16384 : Int) < (t.length : Int) := by omega
     by_cases h3 : t.length < 32768
     . have h3' : (t.length : Int) < 32768 := by omega
       simp [h1, h1', h2, h2', h3, h3', Jaa]
     . have h3' : ¬ (t.length : Int) < 32768 := by omega
       simp [h1, h1', h2, h2', h3, h3', Jaa]
   . have h2' : ¬ (16384 : Int) < (t.length : Int) := by omega
     simp [h1, h1', h2, h2', Jaa]
set_option maxRecDepth 40000 in
theorem Kfj (t : Txt) (hl : t.length < 4611686018427387900) : Pure Tryz.prog GL5 3 [.p (.str t)] (.p (.bool true)) := by
 refine Pure.of_walk (N := 41) Tryz.func3 rfl rfl rfl (by simp) rfl ?_
 have hA := J7u
 have hw := w5 (Kfk t)
 simp
 refine Jab hw ?_
 cases hs : Kgb t with
 | false =>
   simp
   refine Jab hA ?_
   simp [Jaa]
 | true =>
   have h1 := w5 (Jqf t (by omega))
   have h2 := w5 (J7v t (by omega))
   have h3 := w5 (Jyp (prsC t) (prsC t) Kf5 Kf5)
   generalize prsC t = d at *
   simp
   refine Jab h1 ?_
   simp
   refine Jab h2 ?_
   simp
   refine Jab hA ?_
   simp
   refine Jab h3 ?_
   simp [Jaa]
end Go.Am
