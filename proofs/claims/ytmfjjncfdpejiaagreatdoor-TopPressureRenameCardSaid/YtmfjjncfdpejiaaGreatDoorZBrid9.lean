/- The bridge of round 5: two texts in a row. -/
import Derived.Test.YtmfjjncfdpejiaaGreatDoorZBrid4
import Derived.OpenShut
set_option linter.unusedVariables false
set_option linter.unusedSimpArgs false
namespace Go.Am
open Go Go.Proofs Go.Pn
section
variable {H : Type} {enc : TypeId × Value -> H} {W : World} {own : Nat -> Prop}
theorem J6i : (Tryz.prog).cellsOf 86 = 2 := by kernel_rfl
set_option maxRecDepth 100000 in
theorem Ke7 {base : Nat} {v : Value} {d : DataW H} {ps : List MemPlace} (hval : Value.okWide Tryz.prog W .any base 86 v) (h : DataW.Trod enc Tryz.prog W 0 (fun _ => true) true 86 v d ps) :
   ∃ a b : Txt, VR (fun _ => none) own W (.agg [.p (.str a), .p (.str b)]) v := by
 unfold Value.okWide at hval
 rw [Tryz.underlying86] at hval
 obtain ⟨cs, rfl, _, _⟩ := hval
 obtain ⟨fuel, h⟩ := h
 obtain ⟨cs⟩ := cs
 obtain ⟨xs, m, _, hx, hl, hn, hf⟩ := DataW.trod_array Tryz.underlying86 h
 rw [J6i] at hl
 simp only [Value.cells] at hl hf
 obtain ⟨a, b, rfl⟩ := Jic hl
 obtain ⟨x0, x1, rfl⟩ := Jic hn
 have h0 : DataW.trod enc Tryz.prog W 0 (fun _ => true) true m 9 [a] = some x0 := by simpa [cells9] using hf 0 (by omega)
 have h1 : DataW.trod enc Tryz.prog W 0 (fun _ => true) true m 9 [b] = some x1 := by simpa [cells9] using hf 1 (by omega)
 obtain ⟨s, e1, _⟩ := Jow (x := x0) h0
 obtain ⟨t, e2, _⟩ := Jow (x := x1) h1
 simp at e1 e2
 subst e1; subst e2
 refine ⟨s, t, .agg _ _ rfl (fun i c v hc hv => ?_)⟩
 match i with
 | 0 => simp at hc hv; subst hc; subst hv; exact .p _ _ (.str ..)
 | 1 => simp at hc hv; subst hc; subst hv; exact .p _ _ (.str ..)
 | i + 2 => simp at hc
end
end Go.Am
