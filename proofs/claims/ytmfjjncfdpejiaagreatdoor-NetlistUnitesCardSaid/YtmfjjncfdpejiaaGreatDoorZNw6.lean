/- Contracts: NetlistUnites; chapter 23. -/
import Derived.Test.YtmfjjncfdpejiaaGreatDoorZW1
import Derived.Test.YtmfjjncfdpejiaaGreatDoorZW2
set_option linter.unusedVariables false
set_option linter.unusedSimpArgs false
namespace Go.Am
open Go Go.Proofs Go.Pn
theorem Kfc (a b : Circuit) (ha : Sized a) (hb : Sized b) : Pure Tryz.prog GL5 20 [.p (.lst 2 [Circuit.enc a, Circuit.enc b]), .nils] (.p (.bool (fewP a && fewP b))) := by
 have h0 := J7m [a, b] [] (fun x hx => by
   rcases List.mem_cons.1 hx with rfl | hx
   . exact ha
   . rw [List.mem_singleton.1 hx]; exact hb) (by simp) (by simp) (fun s hs => by cases hs)
 have e : (!([a, b].any fun c => !fewP c) && !Jsk []) = (fewP a && fewP b) := by rw [show Jsk [] = false from rfl]; simp
 rw [e] at h0
 exact (Pure.nilsA (i := 1) (k := 1) h0 (by simp)).wider Jpk
theorem Kgd {a b : Circuit} : Sized (uniC a b) := by
 by_cases h : uniE a b = 0
 . exact J46 (J6q h)
 . unfold uniC; rw [if_neg h]; exact ⟨by decide, by decide, by decide⟩
set_option maxRecDepth 40000 in
theorem Kfd (a b : Circuit) (ha : Sized a) (hb : Sized b) : Pure Tryz.prog GL5 6 [a.av, b.av] (.p (.bool true)) := by
 refine Pure.of_walk (N := 38) Tryz.func6 rfl rfl rfl (by simp) rfl ?_
 have hA := J7k
 have hw := Kfc a b ha hb
 have h1 := w5 (J7l a b ha hb)
 have h2 := w5 (J7n a b ha hb)
 have h3 := w5 (Jyr (uniC a b) (uniC a b) Kgd Kgd)
 generalize uniC a b = d at *
 simp
 refine Jcw ?_
 simp
 refine ⟨_, hw, rfl, ?_⟩
 simp
 cases hf : fewP a with
 | false =>
   simp
   refine Jab hA ?_
   simp [Jaa]
 | true =>
 cases hf2 : fewP b with
 | false =>
   simp
   refine Jab hA ?_
   simp [Jaa]
 | true =>
   simp
   refine Jab h1 ?_
   simp
   refine Jab h2 ?_
   simp
   refine Jab hA ?_
   simp
   refine Jab h3 ?_
   simp [Jaa]
end Go.Am
