/- The bridge: lists of numbers. -/
import Derived.Test.YtmfjjncfdpejiaaGreatDoorZBrid
import Derived.Test.YtmfjjncfdpejiaaGreatDoorZCJ
set_option linter.unusedVariables false
set_option linter.unusedSimpArgs false
namespace Go.Am
open Go Go.Proofs Go.Pn
section
variable {H : Type} {enc : TypeId × Value -> H} {W : World} {own : Nat -> Prop}
set_option maxRecDepth 100000 in
theorem Ke6 {base : Nat} {v : Value} {d : DataW H} {ps : List MemPlace} (hown : ∀ β, ¬ own β) (hval : Value.okWide Tryz.prog W .any base 45 v) (h : DataW.Trod enc Tryz.prog W 0 (fun _ => true) true 45 v d ps) :
   ∃ l : List Int, VR (fun _ => none) own W (Ints.av l) v /\ ((∀ n ∈ d.weights Tryz.prog 45, n <= reachBytes) -> l.length < 4611686018427387904) := by
 obtain ⟨fuel, h⟩ := h
 obtain ⟨l0, v0, e0, r0, g0⟩ := Jsh (row := Int.enc) (Good := fun _ _ => True) cells3 (by omega) Tryz.underlying45 hown (fun n cs x hx => by
   obtain ⟨m, rfl⟩ := Jov hx
   exact ⟨m, ⟨rfl, fun j y v hy hv => by
     match j with
     | 0 => simp at hy hv; subst hy; subst hv; exact .int ..
     | j + 1 => simp at hy⟩, trivial⟩) (fun _ => rfl) h
 unfold Value.okWide at hval
 rw [Tryz.underlying45] at hval
 have hv : v = v0 := by
   cases v
   case agg cs =>
     exfalso
     simp [Cell.okWide, Cell.ok, Tryz.underlying45] at hval
   all_goals simpa [Value.cells] using e0
 subst hv
 refine ⟨l0, .p _ _ r0, fun hw => ?_⟩
 have b3 : (Tryz.prog).bytesOf 3 = 8 := by kernel_rfl
 have hreach : reachBytes = 140737488351232 := rfl
 rcases g0 with ⟨rfl, _⟩ | ⟨elems, rest, hx0, hle, _⟩
 . simp
 . have hx1 : d = .slice elems rest := hx0
   rw [hx1] at hw
   have := hw ((elems.length + rest.length) * 8) (by simp [DataW.weights, Tryz.underlying45, b3])
   omega
end
end Go.Am
