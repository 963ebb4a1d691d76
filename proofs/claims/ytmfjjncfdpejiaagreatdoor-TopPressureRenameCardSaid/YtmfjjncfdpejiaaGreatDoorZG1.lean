/- Lemmas and contracts for the proof of a statement of this seat. -/
import Derived.Test.YtmfjjncfdpejiaaGreatDoorZF1
import Derived.Test.YtmfjjncfdpejiaaGreatDoorZCU
import Derived.Test.YtmfjjncfdpejiaaGreatDoorZF3
import Derived.Test.YtmfjjncfdpejiaaGreatDoorZCJ
import Derived.Test.YtmfjjncfdpejiaaGreatDoorZCG
import Derived.Test.YtmfjjncfdpejiaaGreatDoorZF8
set_option linter.unusedVariables false
set_option linter.unusedSimpArgs false
namespace Go.Am
open Go Go.Proofs Go.Pn
end Go.Am
namespace Go.Am
open Go Go.Proofs Go.Pn
end Go.Am
namespace Go.Am
open Go Go.Proofs Go.Pn
theorem J57 (c : Circuit) (hs : Sized c) : Pure Tryz.prog GL 47 [c.av] (.p (.bool (fewP c && decide (Jad c = 0)))) := by
 refine Pure.of_walk (N := 10) Tryz.func47 rfl rfl rfl (by simp) (by first | (simp; done) | simp [*]) ?_
 have hF := J5z c hs
 have hC := Jvx c hs
 simp
 refine Jab hF ?_
 cases h : fewP c with
 | true =>
   simp
   refine Jab hC ?_
   simp [Jaa]
 | false => simp [Jaa]
theorem kT_p : Jhs Jek [0, 0, 0, 0] [65] = -1 /\ Jij Jek [0, 0, 0, 0] [65] = 0 /\ Jhs Jek [0, 0, 0, 1] [65] = 1 /\ Jij Jek [0, 0, 0, 1] [65] = 0 := by decide +kernel
set_option maxRecDepth 40000 in
theorem J56 (_ : Unit) : Pure Tryz.prog GL 49 [] (.p (.bool true)) := by
 refine Pure.of_walk (N := 51) Tryz.func49 rfl rfl rfl (by simp) (by first | (simp; done) | simp [*]) ?_
 obtain ⟨hs, _⟩ := J76
 have hFo := J5o
 have hA := Jv2 Jek [0, 0, 0, 0] [65] hs (by decide)
 have hB := Jv2 Jek [0, 0, 0, 1] [65] hs (by decide)
 have hD := J41 Jek hs fun _ => by decide +kernel
 rw [kT_p.1, kT_p.2.1] at hA
 rw [kT_p.2.2.1, kT_p.2.2.2] at hB
 rw [if_pos Jx1, Jx1, J96] at hD
 simp
 refine Jab hFo ?_
 simp
 refine Jcv ?_
 simp
 refine ⟨_, hA, rfl, ?_⟩
 simp
 refine Jcv ?_
 simp
 refine ⟨_, hB, rfl, ?_⟩
 simp
 refine Jab hD ?_
 simp [d26]
 simp [Jaa]
end Go.Am
