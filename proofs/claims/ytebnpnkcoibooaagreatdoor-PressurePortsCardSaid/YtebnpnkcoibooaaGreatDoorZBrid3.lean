/- The bridge: a port and a name. -/
import Derived.Test.YtebnpnkcoibooaaGreatDoorZBrid2
import Derived.Test.YtebnpnkcoibooaaGreatDoorZCL
set_option linter.unusedVariables false
set_option linter.unusedSimpArgs false
namespace Go.Am
open Go Go.Proofs Go.Pn

section
variable {H : Type} {enc : TypeId × Value → H} {W : World} {own : Nat → Prop}
theorem cells30 : (Go.Proofs.Tryz.prog).cellsOf 30 = 3 := by kernel_rfl
set_option maxRecDepth 100000 in
theorem read_asked {base : Nat} {v : Value} {d : DataW H} {ps : List MemPlace} (hval : Value.okWide Go.Proofs.Tryz.prog W .any base 30 v) (h : DataW.Trod enc Go.Proofs.Tryz.prog W 0 (fun _ => true) true 30 v d ps) :
    ∃ x : AskedV, VR (fun _ => none) own W x.av v ∧ ((∀ n ∈ d.weights Go.Proofs.Tryz.prog 30, n ≤ reachBytes) → x.port.name.length < 4611686018427387900 ∧ x.nm.length < 4611686018427387900) := by
  unfold Value.okWide at hval
  rw [Tryz.underlying30] at hval
  obtain ⟨cs, rfl, _, _⟩ := hval
  obtain ⟨fuel, h⟩ := h
  obtain ⟨cs⟩ := cs
  obtain ⟨xs, m, _, hx, hl, hn, hf⟩ := DataW.trod_struct Tryz.underlying30 h
  rw [cells30] at hl
  simp only [Value.cells] at hl hf
  obtain ⟨a, b, c, rfl⟩ := list3_of hl
  obtain ⟨x0, x1, rfl⟩ := list2_of (l := xs) (by rw [hn]; rfl)
  have h0 : DataW.trod enc Go.Proofs.Tryz.prog W 0 (fun _ => true) true m 28 [a, b] = some x0 := by simpa [cells28] using hf 0 ⟨"Port", 28, 0, false, "", "", 0⟩ rfl
  have h1 : DataW.trod enc Go.Proofs.Tryz.prog W 0 (fun _ => true) true m 9 [c] = some x1 := by simpa [cells9] using hf 1 ⟨"Name", 9, 2, false, "", "", 24⟩ rfl
  obtain ⟨p, e0, w0⟩ := read_port (x := x0) h0
  obtain ⟨s, e1, e4⟩ := read_str (x := x1) h1
  simp at e0 e1
  obtain ⟨rfl, rfl⟩ := e0
  subst e1
  refine ⟨⟨p, s⟩, .agg _ _ rfl (fun i c v hc hv => ?_), fun hw => ?_⟩
  · match i with
    | 0 => simp at hc hv; subst hc; subst hv; exact .p _ _ (.int ..)
    | 1 => simp at hc hv; subst hc; subst hv; exact .p _ _ (.str ..)
    | 2 => simp at hc hv; subst hc; subst hv; exact .p _ _ (.str ..)
    | i + 3 => simp at hc
  · have hd : d = .agg [x0.1, x1.1] := by
      have := congrArg Prod.fst hx
      simpa using this
    subst hd
    have hreach : reachBytes = 140737488351232 := rfl
    have a1 := hw p.name.length (by simp [DataW.weights, Tryz.underlying30, DataW.weightsEach, w0])
    have a2 := hw s.length (by rw [e4]; simp [DataW.weights, Tryz.underlying30, Tryz.underlying9, DataW.weightsEach])
    exact ⟨by dsimp only; omega, by dsimp only; omega⟩
end
end Go.Am
