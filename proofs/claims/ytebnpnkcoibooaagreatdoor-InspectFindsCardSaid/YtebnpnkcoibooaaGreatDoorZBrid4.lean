/- The bridge: a finding. -/
import Derived.Test.YtebnpnkcoibooaaGreatDoorZBrid
import Derived.Test.YtebnpnkcoibooaaGreatDoorZCU
set_option linter.unusedVariables false
set_option linter.unusedSimpArgs false
namespace Go.Am
open Go Go.Proofs Go.Pn

section
variable {H : Type} {enc : TypeId × Value → H} {W : World} {own : Nat → Prop}
theorem cells74 : (Go.Proofs.Tryz.prog).cellsOf 74 = 3 := by kernel_rfl
set_option maxRecDepth 100000 in
theorem read_fnd {base : Nat} {v : Value} {d : DataW H} {ps : List MemPlace} (hval : Value.okWide Go.Proofs.Tryz.prog W .any base 74 v) (h : DataW.Trod enc Go.Proofs.Tryz.prog W 0 (fun _ => true) true 74 v d ps) :
    ∃ x : Fnd, VR (fun _ => none) own W x.av v ∧ ((∀ n ∈ d.weights Go.Proofs.Tryz.prog 74, n ≤ reachBytes) → x.at_.name.length < 4611686018427387900) := by
  unfold Value.okWide at hval
  rw [Tryz.underlying74] at hval
  obtain ⟨cs, rfl, _, _⟩ := hval
  obtain ⟨fuel, h⟩ := h
  obtain ⟨cs⟩ := cs
  obtain ⟨xs, m, _, hx, hl, hn, hf⟩ := DataW.trod_struct Tryz.underlying74 h
  rw [cells74] at hl
  simp only [Value.cells] at hl hf
  obtain ⟨a, b, c, rfl⟩ := list3_of hl
  obtain ⟨x0, x1, rfl⟩ := list2_of (l := xs) (by rw [hn]; rfl)
  have h0 : DataW.trod enc Go.Proofs.Tryz.prog W 0 (fun _ => true) true m 3 [a] = some x0 := by simpa [cells3] using hf 0 ⟨"Kind", 3, 0, false, "", "", 0⟩ rfl
  have h1 : DataW.trod enc Go.Proofs.Tryz.prog W 0 (fun _ => true) true m 28 [b, c] = some x1 := by simpa [cells28] using hf 1 ⟨"At", 28, 1, false, "", "", 8⟩ rfl
  obtain ⟨k, e0⟩ := read_int (x := x0) h0
  obtain ⟨p, e1, w1⟩ := read_port (x := x1) h1
  simp at e0 e1
  subst e0
  obtain ⟨rfl, rfl⟩ := e1
  refine ⟨⟨k, p⟩, .agg _ _ rfl (fun i c v hc hv => ?_), fun hw => ?_⟩
  · match i with
    | 0 => simp at hc hv; subst hc; subst hv; exact .p _ _ (.int ..)
    | 1 => simp at hc hv; subst hc; subst hv; exact .p _ _ (.int ..)
    | 2 => simp at hc hv; subst hc; subst hv; exact .p _ _ (.str ..)
    | i + 3 => simp at hc
  · have hd : d = .agg [x0.1, x1.1] := by
      have := congrArg Prod.fst hx
      simpa using this
    subst hd
    have hreach : reachBytes = 140737488351232 := rfl
    have a1 := hw p.name.length (by simp [DataW.weights, Tryz.underlying74, DataW.weightsEach, w1])
    dsimp only; omega
end
end Go.Am
