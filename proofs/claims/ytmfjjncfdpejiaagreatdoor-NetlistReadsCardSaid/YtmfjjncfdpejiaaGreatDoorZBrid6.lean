/- The bridge of chapter 25: bytes. -/
import Derived.Test.YtmfjjncfdpejiaaGreatDoorZBrid5
import Derived.ChangeShapes
set_option linter.unusedVariables false
set_option linter.unusedSimpArgs false
namespace Go.Am
open Go Go.Proofs Go.Pn
section
variable {H : Type} {enc : TypeId × Value -> H} {W : World} {own : Nat -> Prop}
set_option maxRecDepth 100000 in
theorem Kii {base : Nat} {v : Value} {d : DataW H} {ps : List MemPlace} (hval : Value.okWide Tryz.prog W .any base 5 v) (h : DataW.Trod enc Tryz.prog W 0 (fun _ => true) true 5 v d ps) :
   ∃ n : Int, VR (fun _ => none) own W (.p (.int .u8 n)) v /\ ((∀ n ∈ d.weights Tryz.prog 5, n <= reachBytes) -> 0 <= n /\ n < 256) := by
 obtain ⟨n, rfl, _, _, hw⟩ := Go.ChangeShapes.open_int Tryz.underlying5 hval h
 refine ⟨n, .p _ _ (.int ..), fun _ => ?_⟩
 simp [Lit.wf, IntKind.has, IntKind.min, IntKind.max, IntKind.bits, IntKind.signed] at hw
 omega
end
end Go.Am
