/- The bridge of chapter 25: lists of texts. -/
import Derived.Test.YtfcljeghfckabaaGreatDoorZBrid6
set_option linter.unusedVariables false
set_option linter.unusedSimpArgs false
namespace Go.Am
open Go Go.Proofs Go.Pn

section
variable {H : Type} {enc : TypeId × Value → H} {W : World} {own : Nat → Prop}
set_option maxRecDepth 100000 in
theorem read_lines {base : Nat} {v : Value} {d : DataW H} {ps : List MemPlace} (hown : ∀ β, ¬ own β) (hval : Value.okWide Go.Proofs.Tryz.prog W .any base 55 v) (h : DataW.Trod enc Go.Proofs.Tryz.prog W 0 (fun _ => true) true 55 v d ps) :
    ∃ l : List Txt, VR (fun _ => none) own W (.p (.lst 1 (l.map Txt.enc))) v ∧ ((∀ n ∈ d.weights Go.Proofs.Tryz.prog 55, n ≤ reachBytes) → l.length < 4611686018427387904 ∧ ∀ s ∈ l, s.length < 4611686018427387900) := by
  obtain ⟨fuel, h⟩ := h
  obtain ⟨l0, v0, e0, r0, g0⟩ := read_slice (row := Txt.enc) (Good := fun s d => s.length ∈ d.weights Go.Proofs.Tryz.prog 9) cells9 (by omega) Tryz.underlying55 hown (fun n cs x hx => by
    obtain ⟨s, rfl, h2⟩ := read_str hx
    refine ⟨s, ⟨rfl, fun k y v hy hv => ?_⟩, by rw [h2]; simp [DataW.weights]⟩
    match k with
    | 0 => simp [Txt.enc] at hy hv; subst hy; subst hv; exact .str ..
    | k + 1 => simp [Txt.enc] at hy) (fun _ => rfl) h
  unfold Value.okWide at hval
  rw [Tryz.underlying55] at hval
  have hv : v = v0 := by
    cases v
    case agg cs =>
      exfalso
      simp [Cell.okWide, Cell.ok, Tryz.underlying55] at hval
    all_goals simpa [Value.cells] using e0
  subst hv
  refine ⟨l0, .p _ _ r0, fun hw => ?_⟩
  have b3 : (Go.Proofs.Tryz.prog).bytesOf 9 = 16 := by kernel_rfl
  have hreach : reachBytes = 140737488351232 := rfl
  rcases g0 with ⟨rfl, _⟩ | ⟨elems, rest, hx0, hle, hg⟩
  · simp
  · have hx1 : d = .slice elems rest := hx0
    rw [hx1] at hw
    refine ⟨?_, fun s hs => ?_⟩
    · have := hw ((elems.length + rest.length) * 16) (by simp [DataW.weights, Tryz.underlying55, b3])
      omega
    · obtain ⟨i, hi, e⟩ := List.getElem_of_mem hs
      obtain ⟨y, hy, hgy⟩ := hg i s (by rw [List.getElem?_eq_getElem hi]; exact congrArg some e)
      have := hw s.length (by
        have := weightsAll_mem (P := Go.Proofs.Tryz.prog) (e := 9) hy hgy
        simp [DataW.weights, Tryz.underlying55, this])
      omega
end
end Go.Am
