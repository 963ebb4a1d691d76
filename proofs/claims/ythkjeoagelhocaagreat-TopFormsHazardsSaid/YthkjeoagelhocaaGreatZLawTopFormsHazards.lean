/- For every input TopFormsHazards returns true, and its arguments read afterwards as before. -/
import Derived.Test.YthkjeoagelhocaaGreatZLawF
import Derived.Test.YthkjeoagelhocaaGreatZHz8
set_option linter.unusedVariables false
set_option linter.unusedSimpArgs false
namespace Go.Proofs.YthkjeoagelhocaaGreat
open Go Go.Am Go.Pn Go.ChangeShapes Go.WideShapes Go.ChangeAt Go.RowKit

theorem topFormsHazards_k9 : Tryz.prog.funcNamed "pneumatic/pneumatictop.TopFormsHazards" = some 4 := by kernel_rfl
theorem topFormsHazards_k10 : Tryz.prog.inPlace 4 = Rows.topFormsHazardsRow.inPlace := by kernel_rfl
theorem topFormsHazards_k11 : Tryz.prog.unfollowed 4 = Rows.topFormsHazardsRow.unfollowed := by kernel_rfl
theorem topFormsHazards_k12 : Tryz.prog.recurses 4 = Rows.topFormsHazardsRow.recurses := by kernel_rfl
theorem topFormsHazards_k13 : Tryz.prog.varsNamed 4 = Rows.topFormsHazardsRow.named := by kernel_rfl

set_option maxRecDepth 100000 in
theorem topFormsHazards_lifted (os : Os) (started : os.Started) (H : Type) (enc : TypeId × Value → H) :
    ReturnsInHanded {} Tryz.checked os 4 .any (Rows.topFormsHazardsSpec.pre6 enc Tryz.prog Tryz.f4 Rows.topFormsHazardsRow.domain false) (Rows.topFormsHazardsSpec.post enc Tryz.prog Tryz.f4 false true false false) := by
  refine returnsInHanded_of_change (C := Tryz.checked) ownK started (by kernel_rfl) Go.Proofs.Tryz.func4
    (ChangeSpec.witness6 (enc := enc) (C := Tryz.checked) false ⟨#[], #[.agg #[.int .i64 0, .int .u64 0]], []⟩ 8 (by kernel_rfl) (by kernel_rfl) (by kernel_rfl) (by kernel_rfl)) ?_
  intro W base args ds gs before hval0 hW hcnd _
  have hval : ∀ (j : Nat) t v, Tryz.f4.params[j]? = some t → args[j]? = some v → Value.okWide Tryz.prog W .any base t v := hval0
  have hW' := hW
  obtain ⟨p, q, hA0, hV, rfl, _, _⟩ := hW
  have hA : DataW.TrodAll enc Tryz.prog W 0 (fun _ => true) true [27] args.toList ds p := hA0
  obtain ⟨v0, d0, rfl, rfl, h0⟩ := trodAll_one hA
  obtain ⟨rfl, rfl⟩ := trodVars_none hV
  obtain ⟨n, b, hb, r0⟩ := read_tableArg (own := fun _ => False) (hval 0 27 v0 rfl rfl) h0
  refine law_calls (avs := [.agg [.p (.int .i64 n), .p (.int .u64 b)]]) (c_pneumatictop_TopFormsHazards n b hb) Go.Proofs.Tryz.func4 rfl rfl (fun g k rows hm => by cases hm) rfl (fun i x v hx hv => ?_) hW' laidOutP (by kernel_rfl) (by kernel_rfl) rfl Tryz.underlying4 rfl
  match i with
  | 0 => cases hx; cases hv; exact r0
  | i + 1 => cases hx

theorem topFormsHazards_joined : joinedFacts Tryz.prog 4 Tryz.f4 Rows.topFormsHazardsSpec Rows.topFormsHazardsRow = true :=
  joined_of laidOutP rowedP topFormsHazards_k10 topFormsHazards_k11 topFormsHazards_k12 topFormsHazards_k13 plainKeysP heardP mayEnterP liftsP makeP (by kernel_rfl) (by kernel_rfl) (by kernel_rfl)

theorem topFormsHazards_holds : Rows.TopFormsHazardsSaid :=
  OpenClaim.holds_of_wide 4 Tryz.f4 rfl rfl rfl rfl rfl rfl rfl ⟨rfl, rfl, rfl, rfl, rfl⟩ rfl rfl rfl rfl rfl topFormsHazards_k9 Go.Proofs.Tryz.func4 topFormsHazards_joined
    (of_decide_eq_true (by kernel_rfl)) (by unfold Func.isWrapper; first | (rw [if_pos (by decide +kernel)]; kernel_rfl) | (rw [if_neg (by decide +kernel)]; exact ⟨rfl, rfl⟩))
    (fun os started H enc _ => topFormsHazards_lifted os started H enc)
#print axioms topFormsHazards_holds
end Go.Proofs.YthkjeoagelhocaaGreat
