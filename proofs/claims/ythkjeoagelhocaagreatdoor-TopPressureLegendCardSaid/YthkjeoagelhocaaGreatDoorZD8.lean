/- Plain: places in order are right; places moved aside or mirrored; chapter 25. -/
import Derived.Test.YthkjeoagelhocaaGreatDoorZD3
set_option linter.unusedVariables false
set_option linter.unusedSimpArgs false
namespace Go.Am
open Go Go.Proofs Go.Pn
theorem Jv5 {c : Circuit} {r : Int} {i : Nat} : ∀ {j : Nat}, i <= j -> cntT c r i <= cntT c r j
 | 0, h => by rw [show i = 0 by omega]; exact Nat.le_refl _
 | j + 1, h => by
   rcases Nat.lt_or_ge i (j + 1) with h1 | h1
   . have ih := @Jv5 c r i j (by omega)
     rw [Jmn]; omega
   . rw [show i = j + 1 by omega]; exact Nat.le_refl _
theorem Jk4 {c : Circuit} {k i : Nat} (h : i < k) : (Jdh c k)[i]? = some ⟨Jba c i, cntT c (Jba c i) i⟩ := by simp [Jdh, h]
theorem Ke7 {c : Circuit} (h : Jac c = 0) : LayOk c (Ja5 c) := by
 have h2 := (Ja8 h).2.1
 refine ⟨Jhz, fun i p hp => ?_, fun p hp => ?_, ?_⟩
 . have hi : i < c.parts.length := by
     have := (gsI.1 hp).1
     rwa [show (Ja5 c).length = c.parts.length from Jhz] at this
   have hp2 : (Jdh c c.parts.length)[i]? = some p := hp
   rw [Jk4 hi] at hp2
   cases hp2; rfl
 . obtain ⟨i, hi⟩ := List.mem_iff_getElem?.1 hp
   have hil : i < c.parts.length := by
     have := (gsI.1 hi).1
     rwa [show (Ja5 c).length = c.parts.length from Jhz] at this
   have hp2 : (Jdh c c.parts.length)[i]? = some p := hi
   rw [Jk4 hil] at hp2
   cases hp2
   have := @Jp6 c (Jba c i) i
   simp only
   omega
 . rw [List.Nodup, List.pairwise_iff_getElem]
   intro i j hi hj hij e
   have hil : i < c.parts.length := by rwa [show (Ja5 c).length = c.parts.length from Jhz] at hi
   have hjl : j < c.parts.length := by rwa [show (Ja5 c).length = c.parts.length from Jhz] at hj
   have e1 : (Jdh c c.parts.length)[i]? = some (Ja5 c)[i] := List.getElem?_eq_getElem hi
   have e2 : (Jdh c c.parts.length)[j]? = some (Ja5 c)[j] := List.getElem?_eq_getElem hj
   rw [Jk4 hil] at e1
   rw [Jk4 hjl, <- e] at e2
   rw [<- e1] at e2
   simp only [Option.some.injEq, Plc.mk.injEq] at e2
   obtain ⟨e3, e4⟩ := e2
   have h1 := @Jv5 c (Jba c i) (i + 1) j (by omega)
   rw [Jmn, if_pos rfl] at h1
   rw [e3] at e4
   omega
end Go.Am
