/- For every input TopFormsEvaluate returns true, and its arguments read afterwards as before. -/
import Derived.Test.YthkjeoagelhocaaGreatZLawF
import Derived.Test.YthkjeoagelhocaaGreatZBridE
set_option linter.unusedVariables false
set_option linter.unusedSimpArgs false
namespace Go.Proofs.YthkjeoagelhocaaGreat
open Go Go.Am Go.Pn Go.ChangeShapes Go.WideShapes Go.ChangeAt Go.RowKit

theorem topFormsEvaluate_k9 : Tryz.prog.funcNamed "pneumatic/pneumatictop.TopFormsEvaluate" = some 3 := by kernel_rfl
theorem topFormsEvaluate_k10 : Tryz.prog.inPlace 3 = Rows.topFormsEvaluateRow.inPlace := by kernel_rfl
theorem topFormsEvaluate_k11 : Tryz.prog.unfollowed 3 = Rows.topFormsEvaluateRow.unfollowed := by kernel_rfl
theorem topFormsEvaluate_k12 : Tryz.prog.recurses 3 = Rows.topFormsEvaluateRow.recurses := by kernel_rfl
theorem topFormsEvaluate_k13 : Tryz.prog.varsNamed 3 = Rows.topFormsEvaluateRow.named := by kernel_rfl

set_option maxRecDepth 100000 in
theorem topFormsEvaluate_lifted (os : Os) (started : os.Started) (H : Type) (enc : TypeId × Value → H) :
    ReturnsInHanded {} Tryz.checked os 3 .any (Rows.topFormsEvaluateSpec.pre6 enc Tryz.prog Tryz.f3 Rows.topFormsEvaluateRow.domain false) (Rows.topFormsEvaluateSpec.post enc Tryz.prog Tryz.f3 false true false false) := by
  refine returnsHanded_sized (C := Tryz.checked) ownK started (by kernel_rfl) Go.Proofs.Tryz.func3
    (ChangeSpec.witness6 (enc := enc) (C := Tryz.checked) false ⟨#[], #[.agg #[.int .i64 0, .int .i64 0, .slice none 0 0], .int .i64 0], []⟩ 8 (by kernel_rfl) (by kernel_rfl) (by kernel_rfl) (by kernel_rfl)) ?_
  intro W base args ds gs before hval0 hW hsz
  have hval : ∀ (j : Nat) t v, Tryz.f3.params[j]? = some t → args[j]? = some v → Value.okWide Tryz.prog W .any base t v := hval0
  have hW' := hW
  obtain ⟨p, q, hA0, hV, rfl, _, _⟩ := hW
  have hA : DataW.TrodAll enc Tryz.prog W 0 (fun _ => true) true [24, 3] args.toList ds p := hA0
  obtain ⟨v0, v1, d0, d1, p0, p1, rfl, rfl, rfl, h0, h1⟩ := trodAll_two hA
  obtain ⟨rfl, rfl⟩ := trodVars_none hV
  have hwt : ∀ n ∈ d0.weights Tryz.prog 24, n ≤ reachBytes := fun n hn => by
    have h := List.all_eq_true.1 hsz n (DataW.weights_mem_each (j := 0) (t := 24) (d := d0) rfl rfl n hn)
    simpa using h
  obtain ⟨x, r0, hx⟩ := read_exprArg (own := fun _ => False) (fun _ h => h) (hval 0 24 v0 rfl rfl) h0
  obtain ⟨n, r1⟩ := read_intE (own := fun _ => False) (hval 1 3 v1 rfl rfl) h1
  refine law_calls (avs := [x.av, .p (.int .i64 n)]) (c_pneumatictop_TopFormsEvaluate x n (hx hwt)) Go.Proofs.Tryz.func3 rfl rfl (fun g k rows hm => by cases hm) rfl (fun i x v hx hv => ?_) hW' laidOutP (by kernel_rfl) (by kernel_rfl) rfl Tryz.underlying4 rfl
  match i with
  | 0 => cases hx; cases hv; exact r0
  | 1 => cases hx; cases hv; exact r1
  | i + 2 => cases hx

theorem topFormsEvaluate_joined : joinedFacts Tryz.prog 3 Tryz.f3 Rows.topFormsEvaluateSpec Rows.topFormsEvaluateRow = true :=
  joined_of laidOutP rowedP topFormsEvaluate_k10 topFormsEvaluate_k11 topFormsEvaluate_k12 topFormsEvaluate_k13 plainKeysP heardP mayEnterP liftsP makeP (by kernel_rfl) (by kernel_rfl) (by kernel_rfl)

theorem topFormsEvaluate_holds : Rows.TopFormsEvaluateSaid :=
  OpenClaim.holds_of_wide 3 Tryz.f3 rfl rfl rfl rfl rfl rfl rfl ⟨rfl, rfl, rfl, rfl, rfl⟩ rfl rfl rfl rfl rfl topFormsEvaluate_k9 Go.Proofs.Tryz.func3 topFormsEvaluate_joined
    (of_decide_eq_true (by kernel_rfl)) (by unfold Func.isWrapper; first | (rw [if_pos (by decide +kernel)]; kernel_rfl) | (rw [if_neg (by decide +kernel)]; exact ⟨rfl, rfl⟩))
    (fun os started H enc _ => topFormsEvaluate_lifted os started H enc)
#print axioms topFormsEvaluate_holds
end Go.Proofs.YthkjeoagelhocaaGreat
