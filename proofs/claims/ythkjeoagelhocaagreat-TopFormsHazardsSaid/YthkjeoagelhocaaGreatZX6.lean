/- The bridge of the forms: tables and bytes. -/
import Derived.Test.YthkjeoagelhocaaGreatZX2
import Derived.ProofKit
import Derived.OpenShut
import Derived.Carry
import Derived.SizedLaws
import Derived.ChangeShapes
set_option linter.unusedVariables false
set_option linter.unusedSimpArgs false
namespace Go.Am
open Go Go.Proofs Go.Pn

section
variable {H : Type} {enc : TypeId × Value → H} {W : World} {own : Nat → Prop}
theorem cells27 : (Tryz.prog).cellsOf 27 = 2 := by kernel_rfl
theorem cells3 : (Tryz.prog).cellsOf 3 = 1 := by kernel_rfl
theorem cells25 : (Tryz.prog).cellsOf 25 = 1 := by kernel_rfl
theorem list2_of {α : Type} {l : List α} (h : l.length = 2) : ∃ a b, l = [a, b] := by
  match l, h with
  | [a, b], _ => exact ⟨a, b, rfl⟩
set_option maxRecDepth 100000 in
theorem read_tableArg {base : Nat} {v : Value} {d : DataW H} {ps : List MemPlace} (hval : Value.okWide Tryz.prog W .any base 27 v) (h : DataW.Trod enc Tryz.prog W 0 (fun _ => true) true 27 v d ps) :
    ∃ (n : Int) (b : Nat), b < 2 ^ 64 ∧ VR (fun _ => none) own W (.agg [.p (.int .i64 n), .p (.int .u64 b)]) v := by
  unfold Value.okWide at hval
  rw [Tryz.underlying27] at hval
  obtain ⟨cs, rfl, _, _⟩ := hval
  obtain ⟨fuel, h⟩ := h
  obtain ⟨cs⟩ := cs
  obtain ⟨xs, m, _, hx, hl, hn, hf⟩ := DataW.trod_struct Tryz.underlying27 h
  rw [cells27] at hl
  simp only [Value.cells] at hl hf
  obtain ⟨a, b, rfl⟩ := list2_of hl
  obtain ⟨x0, x1, rfl⟩ := list2_of (l := xs) (by rw [hn]; rfl)
  have h0 : DataW.trod enc Tryz.prog W 0 (fun _ => true) true m 3 [a] = some x0 := by simpa [cells3] using hf 0 ⟨ "N", 3, 0, false, "", "", 0⟩ rfl
  have h1 : DataW.trod enc Tryz.prog W 0 (fun _ => true) true m 25 [b] = some x1 := by simpa [cells25] using hf 1 ⟨ "Bits", 25, 1, false, "", "", 8⟩ rfl
  obtain ⟨k, e0, _, _⟩ := DataW.trod_int Tryz.underlying3 h0
  obtain ⟨j, e1, _, hw⟩ := DataW.trod_int Tryz.underlying25 h1
  simp [Lit.wf, IntKind.has, IntKind.min, IntKind.max, IntKind.bits, IntKind.signed] at hw
  obtain ⟨w, rfl⟩ : ∃ w : Nat, j = w := ⟨j.toNat, by omega⟩
  simp at e0 e1
  subst e0; subst e1
  refine ⟨k, w, by omega, .agg _ _ rfl (fun i c v hc hv => ?_)⟩
  match i with
  | 0 => simp at hc hv; subst hc; subst hv; exact .p _ _ (.int ..)
  | 1 => simp at hc hv; subst hc; subst hv; exact .p _ _ (.int ..)
  | i + 2 => simp at hc
end
end Go.Am
