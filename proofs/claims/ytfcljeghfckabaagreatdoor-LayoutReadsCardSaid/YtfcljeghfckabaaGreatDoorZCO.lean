/- Contracts: the law PressureGrows. -/
import Derived.Test.YtfcljeghfckabaaGreatDoorZCM
import Derived.Test.YtfcljeghfckabaaGreatDoorZCR
set_option linter.unusedVariables false
set_option linter.unusedSimpArgs false
namespace Go.Am
open Go Go.Proofs Go.Pn

/-- More pipes between the same parts. -/
structure Wider (c m : Circuit) : Prop where
  parts : m.parts = c.parts
  pipes : ∀ x ∈ c.pipes, x ∈ m.pipes
theorem Wider.all {c m : Circuit} (w : Wider c m) : allP m = allP c := by
  have hu : ∀ k, allUp m k = allUp c k := fun k => by
    induction k with
    | zero => rfl
    | succ k ih => simp only [allUp, ih, w.parts]
  unfold allP
  rw [w.parts, hu]
theorem Wider.kind {c m : Circuit} (w : Wider c m) (i : Int) : kindAt m i = kindAt c i := by unfold kindAt; rw [w.parts]
theorem Wider.pass {c m : Circuit} (w : Wider c m) (l : List Int) (i : Int) : passAt m l i = passAt c l i := by unfold passAt; rw [w.kind]
theorem Wider.net {c m : Circuit} (w : Wider c m) (hc : checkP c = 0) (hm : checkP m = 0) {p q : Port} (hp : p ∈ allP c) (hq : q ∈ allP c) (h : netN c p.part p.name = netN c q.part q.name) : netN m p.part p.name = netN m q.part q.name := by
  have h1 : netP c p = netP c q := by rw [(netN_at hc hp).1, (netN_at hc hq).1, h]
  have h2 := (netP_same hc hp hq).1 h1
  have h3 := (netP_same hm (w.all ▸ hp) (w.all ▸ hq)).2 (h2.mono w.pipes)
  rw [(netN_at hm (w.all ▸ hp)).1, (netN_at hm (w.all ▸ hq)).1] at h3
  omega

end Go.Am
