/- The bridge of the forms: tables and bytes. -/
import Derived.Test.YthkjeoagelhocaaZX2
import Derived.ProofKit
import Derived.OpenShut
import Derived.Carry
import Derived.SizedLaws
import Derived.ChangeShapes
set_option linter.unusedVariables false
set_option linter.unusedSimpArgs false
namespace Go.Am
open Go Go.Proofs Go.Pn

section
variable {H : Type} {enc : TypeId × Value → H} {W : World} {own : Nat → Prop}
theorem cells24 : (Go.Proofs.Try.prog).cellsOf 24 = 2 := by kernel_rfl
theorem cells3 : (Go.Proofs.Try.prog).cellsOf 3 = 1 := by kernel_rfl
theorem cells22 : (Go.Proofs.Try.prog).cellsOf 22 = 1 := by kernel_rfl
theorem list2_of {α : Type} {l : List α} (h : l.length = 2) : ∃ a b, l = [a, b] := by
  match l, h with
  | [a, b], _ => exact ⟨a, b, rfl⟩
set_option maxRecDepth 100000 in
theorem read_tableArg {base : Nat} {v : Value} {d : DataW H} {ps : List MemPlace} (hval : Value.okWide Go.Proofs.Try.prog W .any base 24 v) (h : DataW.Trod enc Go.Proofs.Try.prog W 0 (fun _ => true) true 24 v d ps) :
    ∃ (n : Int) (b : Nat), b < 2 ^ 64 ∧ VR (fun _ => none) own W (.agg [.p (.int .i64 n), .p (.int .u64 b)]) v := by
  unfold Value.okWide at hval
  rw [Try.underlying24] at hval
  obtain ⟨cs, rfl, _, _⟩ := hval
  obtain ⟨fuel, h⟩ := h
  obtain ⟨cs⟩ := cs
  obtain ⟨xs, m, _, hx, hl, hn, hf⟩ := DataW.trod_struct Try.underlying24 h
  rw [cells24] at hl
  simp only [Value.cells] at hl hf
  obtain ⟨a, b, rfl⟩ := list2_of hl
  obtain ⟨x0, x1, rfl⟩ := list2_of (l := xs) (by rw [hn]; rfl)
  have h0 : DataW.trod enc Go.Proofs.Try.prog W 0 (fun _ => true) true m 3 [a] = some x0 := by simpa [cells3] using hf 0 ⟨ "N", 3, 0, false, "", "", 0⟩ rfl
  have h1 : DataW.trod enc Go.Proofs.Try.prog W 0 (fun _ => true) true m 22 [b] = some x1 := by simpa [cells22] using hf 1 ⟨ "Bits", 22, 1, false, "", "", 8⟩ rfl
  obtain ⟨k, e0, _, _⟩ := DataW.trod_int Try.underlying3 h0
  obtain ⟨j, e1, _, hw⟩ := DataW.trod_int Try.underlying22 h1
  simp [Lit.wf, IntKind.has, IntKind.min, IntKind.max, IntKind.bits, IntKind.signed] at hw
  obtain ⟨w, rfl⟩ : ∃ w : Nat, j = w := ⟨j.toNat, by omega⟩
  simp at e0 e1
  subst e0; subst e1
  refine ⟨k, w, by omega, .agg _ _ rfl (fun i c v hc hv => ?_)⟩
  match i with
  | 0 => simp at hc hv; subst hc; subst hv; exact .p _ _ (.int ..)
  | 1 => simp at hc hv; subst hc; subst hv; exact .p _ _ (.int ..)
  | i + 2 => simp at hc
set_option maxRecDepth 100000 in
theorem read_u8F {base : Nat} {v : Value} {d : DataW H} {ps : List MemPlace} (hval : Value.okWide Go.Proofs.Try.prog W .any base 5 v) (h : DataW.Trod enc Go.Proofs.Try.prog W 0 (fun _ => true) true 5 v d ps) :
    ∃ n : Nat, n < 256 ∧ VR (fun _ => none) own W (.p (.int .u8 n)) v := by
  obtain ⟨n, rfl, _, _, hw⟩ := Go.ChangeShapes.open_int Try.underlying5 hval h
  simp [Lit.wf, IntKind.has, IntKind.min, IntKind.max, IntKind.bits, IntKind.signed] at hw
  obtain ⟨w, rfl⟩ : ∃ w : Nat, n = w := ⟨n.toNat, by omega⟩
  exact ⟨w, by omega, .p _ _ (.int ..)⟩
end
end Go.Am
