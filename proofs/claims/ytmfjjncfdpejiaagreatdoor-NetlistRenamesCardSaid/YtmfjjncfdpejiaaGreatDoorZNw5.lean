/- Contracts: NetlistRenames; chapter 23. -/
import Derived.Test.YtmfjjncfdpejiaaGreatDoorZW1
import Derived.Test.YtmfjjncfdpejiaaGreatDoorZW2
import Derived.Test.YtmfjjncfdpejiaaGreatDoorZNT
set_option linter.unusedVariables false
set_option linter.unusedSimpArgs false
namespace Go.Am
open Go Go.Proofs Go.Pn
theorem Kfk {c : Circuit} {old new : Txt} : Sized (rnmC c old new) := by
 by_cases h : rnmE c old new = 0
 . obtain ⟨_, _, _, b4, b5⟩ := J75 h
   rw [b5]; exact J76 b4
 . unfold rnmC; rw [if_neg h]; exact ⟨by decide, by decide, by decide⟩
set_option maxRecDepth 40000 in
theorem Kej (c : Circuit) (old new : Txt) (hs : Sized c) (ho : old.length < 4611686018427387900) (hn : new.length < 4611686018427387900) : Pure Tryz.prog GL5 4 [c.av, .p (.str old), .p (.str new)] (.p (.bool true)) := by
 refine Pure.of_walk (N := 44) Tryz.func4 rfl rfl rfl (by simp) rfl ?_
 have hA := J6r
 have hw := J6s c [old, new] hs (by simp) (J7a ho hn)
 simp
 refine Jcb ?_
 simp
 refine ⟨_, hw, rfl, ?_⟩
 simp
 cases hf : fewP c with
 | false =>
   simp
   refine Jab hA ?_
   simp [Jaa]
 | true =>
   cases hm : Jgf [old, new] with
   | true =>
     simp
     refine Jab hA ?_
     simp [Jaa]
   | false =>
     obtain ⟨m1, m2⟩ := J69 hm
     have h1 := w5 (Jp2 c old new hs (by omega) (by omega))
     have h2 := w5 (J6t c old new hs (by omega) (by omega))
     have h3 := w5 (Jx6 (rnmC c old new) (rnmC c old new) Kfk Kfk)
     generalize rnmC c old new = d at *
     simp
     refine Jab h1 ?_
     simp
     refine Jab h2 ?_
     simp
     refine Jab hA ?_
     simp
     refine Jab h3 ?_
     simp [Jaa]
end Go.Am
