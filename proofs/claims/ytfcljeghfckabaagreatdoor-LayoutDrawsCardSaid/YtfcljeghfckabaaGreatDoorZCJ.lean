/- Lemmas and contracts for the proof of a statement of this seat. -/
import Derived.Test.YtfcljeghfckabaaGreatDoorZCH
import Derived.Test.YtfcljeghfckabaaGreatDoorZC7
import Derived.Test.YtfcljeghfckabaaGreatDoorZCR
set_option linter.unusedVariables false
set_option linter.unusedSimpArgs false
/- Contracts: slices.Compact, slices.Clone at int. -/
namespace Go.Am
open Go Go.Proofs Go.Pn


end Go.Am
/- Contracts: package pressure: Rest. -/
namespace Go.Am
open Go Go.Proofs Go.Pn


theorem Gives.res {P : Program} {G : Globs} {f : Nat} {args : List AV} {s : Store} {nx : Nat} {v v1 : AV} {rd : List Nat} {up : Store} {nx' : Nat} (h : Gives P G f args s nx v rd up nx') (hv : ∀ φ own w u, VR φ own w v u → VR φ own w v1 u) : Gives P G f args s nx v1 rd up nx' :=
  ⟨h.le, fun F φ s1 w vs hag hs hf hl hx => (h.calls F φ s1 w vs hag hs hf hl hx).mono fun _ _ hp => post_congr hp (fun _ => rfl) (Nat.le_refl _) fun _ _ => hv _ _ _ _⟩
end Go.Am
/- Contracts: the awake examples of chapter 24. -/
namespace Go.Am
open Go Go.Proofs Go.Pn


section
variable {P : Program} {G : Globs} {N n0 : Nat}
@[simp] theorem thenQ_normal {K : St → Prop} {Q : Exit → St → Prop} {st : St} : thenQ K Q .normal st = K st := rfl
end

end Go.Am
/- Contracts: the laws PressureNets, PressurePorts, PressureSteps. -/
namespace Go.Am
open Go Go.Proofs Go.Pn


end Go.Am
/- Contracts: the laws PressurePorts, PressureSteps. -/
namespace Go.Am
open Go Go.Proofs Go.Pn


structure AskedV where
  port : Port
  nm : Txt
@[simp] def AskedV.av (x : AskedV) : AV := .agg [.p (.int .i64 x.port.part), .p (.str x.port.name), .p (.str x.nm)]

end Go.Am
/- Plain facts for the laws PressureCauses, PressureRests. -/
namespace Go.Am
open Go Go.Proofs Go.Pn

end Go.Am
/- Plain facts for the law PressureCauses. -/
namespace Go.Am
open Go Go.Proofs Go.Pn

end Go.Am
/- Contracts: the law PressureRests. -/
namespace Go.Am
open Go Go.Proofs Go.Pn


end Go.Am
/- Contracts: the law PressureGrows. -/
namespace Go.Am
open Go Go.Proofs Go.Pn

structure Wider (c m : Circuit) : Prop where
  parts : m.parts = c.parts
  pipes : ∀ x ∈ c.pipes, x ∈ m.pipes
theorem Wider.all {c m : Circuit} (w : Wider c m) : allP m = allP c := by
  have hu : ∀ k, allUp m k = allUp c k := fun k => by
    induction k with
    | zero => rfl
    | succ k ih => simp only [allUp, ih, w.parts]
  unfold allP
  rw [w.parts, hu]
theorem Wider.kind {c m : Circuit} (w : Wider c m) (i : Int) : kindAt m i = kindAt c i := by unfold kindAt; rw [w.parts]
theorem Wider.pass {c m : Circuit} (w : Wider c m) (l : List Int) (i : Int) : passAt m l i = passAt c l i := by unfold passAt; rw [w.kind]
theorem Wider.net {c m : Circuit} (w : Wider c m) (hc : checkP c = 0) (hm : checkP m = 0) {p q : Port} (hp : p ∈ allP c) (hq : q ∈ allP c) (h : netN c p.part p.name = netN c q.part q.name) : netN m p.part p.name = netN m q.part q.name := by
  have h1 : netP c p = netP c q := by rw [(netN_at hc hp).1, (netN_at hc hq).1, h]
  have h2 := (netP_same hc hp hq).1 h1
  have h3 := (netP_same hm (w.all ▸ hp) (w.all ▸ hq)).2 (h2.mono w.pipes)
  rw [(netN_at hm (w.all ▸ hp)).1, (netN_at hm (w.all ▸ hq)).1] at h3
  omega

end Go.Am
