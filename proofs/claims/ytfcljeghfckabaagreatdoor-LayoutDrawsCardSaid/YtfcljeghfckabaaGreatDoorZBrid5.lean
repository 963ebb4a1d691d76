/- The bridge of chapter 25: places, numbers, lines. -/
import Derived.Test.YtfcljeghfckabaaGreatDoorZBrid
import Derived.Test.YtfcljeghfckabaaGreatDoorZCX
set_option linter.unusedVariables false
set_option linter.unusedSimpArgs false
namespace Go.Am
open Go Go.Proofs Go.Pn

section
variable {H : Type} {enc : TypeId × Value → H} {W : World} {own : Nat → Prop}

theorem cellsPlc : (Go.Proofs.Tryz.prog).cellsOf 41 = 2 := by kernel_rfl
theorem read_plc {n : Nat} {cs : List Value} {x : DataW H × List MemPlace} (h : DataW.trod enc Go.Proofs.Tryz.prog W 0 (fun _ => true) true n 41 cs = some x) : ∃ p : Plc, RowVR own W p.enc cs := by
  obtain ⟨xs, m, _, hx, hl, hn, hf⟩ := DataW.trod_struct Tryz.underlying41 h
  rw [cellsPlc] at hl
  obtain ⟨a, b, rfl⟩ := list2_of hl
  obtain ⟨x0, x1, rfl⟩ := list2_of (l := xs) (by rw [hn]; rfl)
  have h0 : DataW.trod enc Go.Proofs.Tryz.prog W 0 (fun _ => true) true m 3 [a] = some x0 := by simpa [cells3] using hf 0 ⟨"Row", 3, 0, false, "", "", 0⟩ rfl
  have h1 : DataW.trod enc Go.Proofs.Tryz.prog W 0 (fun _ => true) true m 3 [b] = some x1 := by simpa [cells3] using hf 1 ⟨"Col", 3, 1, false, "", "", 8⟩ rfl
  obtain ⟨i, e0⟩ := read_int (x := x0) h0
  obtain ⟨j, e1⟩ := read_int (x := x1) h1
  simp at e0 e1
  subst e0; subst e1
  refine ⟨⟨i, j⟩, rfl, fun k y v hy hv => ?_⟩
  match k with
  | 0 => simp at hy hv; subst hy; subst hv; exact .int ..
  | 1 => simp at hy hv; subst hy; subst hv; exact .int ..
  | k + 2 => simp at hy

set_option maxRecDepth 100000 in
theorem read_places {base : Nat} {v : Value} {d : DataW H} {ps : List MemPlace} (hown : ∀ β, ¬ own β) (hval : Value.okWide Go.Proofs.Tryz.prog W .any base 26 v) (h : DataW.Trod enc Go.Proofs.Tryz.prog W 0 (fun _ => true) true 26 v d ps) :
    ∃ l : List Plc, VR (fun _ => none) own W (.p (.lst 2 (l.map Plc.enc))) v ∧ ((∀ n ∈ d.weights Go.Proofs.Tryz.prog 26, n ≤ reachBytes) → l.length < 4611686018427387904) := by
  obtain ⟨fuel, h⟩ := h
  obtain ⟨l0, v0, e0, r0, g0⟩ := read_slice (row := Plc.enc) (Good := fun _ _ => True) cellsPlc (by omega) Tryz.underlying26 hown (fun n cs x hx => by obtain ⟨p, hp⟩ := read_plc hx; exact ⟨p, hp, trivial⟩) (fun _ => rfl) h
  unfold Value.okWide at hval
  rw [Tryz.underlying26] at hval
  have hv : v = v0 := by
    cases v
    case agg cs =>
      exfalso
      simp [Cell.okWide, Cell.ok, Tryz.underlying26] at hval
    all_goals simpa [Value.cells] using e0
  subst hv
  refine ⟨l0, .p _ _ r0, fun hw => ?_⟩
  have b3 : (Go.Proofs.Tryz.prog).bytesOf 41 = 16 := by kernel_rfl
  have hreach : reachBytes = 140737488351232 := rfl
  rcases g0 with ⟨rfl, _⟩ | ⟨elems, rest, hx0, hle, _⟩
  · simp
  · have hx1 : d = .slice elems rest := hx0
    rw [hx1] at hw
    have := hw ((elems.length + rest.length) * 16) (by simp [DataW.weights, Tryz.underlying26, b3])
    omega

end
end Go.Am
