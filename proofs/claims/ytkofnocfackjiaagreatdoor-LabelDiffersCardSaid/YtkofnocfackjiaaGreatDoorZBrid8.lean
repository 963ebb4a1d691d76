/- The bridge of chapter 26: designations. -/
import Derived.Test.YtkofnocfackjiaaGreatDoorZBrid4
import Derived.Test.YtkofnocfackjiaaGreatDoorZF1
set_option linter.unusedVariables false
set_option linter.unusedSimpArgs false
namespace Go.Am
open Go Go.Proofs Go.Pn

section
variable {H : Type} {enc : TypeId × Value → H} {W : World} {own : Nat → Prop}

theorem cellsLbl : (Tryz.prog).cellsOf 24 = 3 := by kernel_rfl
set_option maxRecDepth 100000 in
theorem read_lbl {base : Nat} {v : Value} {d : DataW H} {ps : List MemPlace} (hval : Value.okWide Tryz.prog W .any base 24 v) (h : DataW.Trod enc Tryz.prog W 0 (fun _ => true) true 24 v d ps) :
    ∃ x : Lbl, VR (fun _ => none) own W x.av v ∧ ((∀ n ∈ d.weights Tryz.prog 24, n ≤ reachBytes) → x.ltr.length < 4611686018427387900) := by
  unfold Value.okWide at hval
  rw [Tryz.underlying24] at hval
  obtain ⟨cs, rfl, _, _⟩ := hval
  obtain ⟨fuel, h⟩ := h
  obtain ⟨cs⟩ := cs
  obtain ⟨xs, m, _, hx, hl, hn, hf⟩ := DataW.trod_struct Tryz.underlying24 h
  rw [cellsLbl] at hl
  simp only [Value.cells] at hl hf
  obtain ⟨a, b, c, rfl⟩ := list3_of hl
  obtain ⟨x0, x1, x2, rfl⟩ := list3_of (l := xs) (by rw [hn]; rfl)
  have h0 : DataW.trod enc Tryz.prog W 0 (fun _ => true) true m 3 [a] = some x0 := by simpa [cells3] using hf 0 ⟨ "Group", 3, 0, false, "", "", 0⟩ rfl
  have h1 : DataW.trod enc Tryz.prog W 0 (fun _ => true) true m 9 [b] = some x1 := by simpa [cells9] using hf 1 ⟨ "Letter", 9, 1, false, "", "", 8⟩ rfl
  have h2 : DataW.trod enc Tryz.prog W 0 (fun _ => true) true m 3 [c] = some x2 := by simpa [cells3] using hf 2 ⟨ "Number", 3, 2, false, "", "", 24⟩ rfl
  obtain ⟨g, e0⟩ := read_int (x := x0) h0
  obtain ⟨l, e1, e4⟩ := read_str (x := x1) h1
  obtain ⟨n, e2⟩ := read_int (x := x2) h2
  simp at e0 e1 e2
  subst e0; subst e1; subst e2
  refine ⟨⟨g, l, n⟩, .agg _ _ rfl (fun i c v hc hv => ?_), fun hw => ?_⟩
  · match i with
    | 0 => simp at hc hv; subst hc; subst hv; exact .p _ _ (.int ..)
    | 1 => simp at hc hv; subst hc; subst hv; exact .p _ _ (.str ..)
    | 2 => simp at hc hv; subst hc; subst hv; exact .p _ _ (.int ..)
    | i + 3 => simp at hc
  · have hd : d = .agg [x0.1, x1.1, x2.1] := by
      have := congrArg Prod.fst hx
      simpa using this
    subst hd
    have hreach : reachBytes = 140737488351232 := rfl
    have a1 := hw l.length (by simp [DataW.weights, DataW.weightsEach, Tryz.underlying24, e4])
    show List.length l < _
    omega
end
end Go.Am
