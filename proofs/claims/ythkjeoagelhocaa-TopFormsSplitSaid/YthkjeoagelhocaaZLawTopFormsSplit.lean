/- For every input TopFormsSplit returns true, and its arguments read afterwards as before. -/
import Derived.Test.YthkjeoagelhocaaZLawF
import Derived.Test.YthkjeoagelhocaaZFcO
set_option linter.unusedVariables false
set_option linter.unusedSimpArgs false
namespace Go.Proofs.Ythkjeoagelhocaa
open Go Go.Am Go.Pn Go.ChangeShapes Go.WideShapes Go.ChangeAt Go.RowKit

theorem topFormsSplit_k9 : Try.prog.funcNamed "pneumatic/pneumatictop.TopFormsSplit" = some 3 := by kernel_rfl
theorem topFormsSplit_k10 : Try.prog.inPlace 3 = Rows.topFormsSplitRow.inPlace := by kernel_rfl
theorem topFormsSplit_k11 : Try.prog.unfollowed 3 = Rows.topFormsSplitRow.unfollowed := by kernel_rfl
theorem topFormsSplit_k12 : Try.prog.recurses 3 = Rows.topFormsSplitRow.recurses := by kernel_rfl
theorem topFormsSplit_k13 : Try.prog.varsNamed 3 = Rows.topFormsSplitRow.named := by kernel_rfl

set_option maxRecDepth 100000 in
theorem topFormsSplit_lifted (os : Os) (started : os.Started) (H : Type) (enc : TypeId × Value → H) :
    ReturnsInHanded {} Try.checked os 3 .any (Rows.topFormsSplitSpec.pre6 enc Try.prog Try.f3 Rows.topFormsSplitRow.domain false) (Rows.topFormsSplitSpec.post enc Try.prog Try.f3 false true false false) := by
  refine returnsInHanded_of_change (C := Try.checked) ownK started (by kernel_rfl) Go.Proofs.Try.func3
    (ChangeSpec.witness6 (enc := enc) (C := Try.checked) false ⟨#[], #[.agg #[.int .i64 0, .int .u64 0], .int .u8 0], []⟩ 8 (by kernel_rfl) (by kernel_rfl) (by kernel_rfl) (by kernel_rfl)) ?_
  intro W base args ds gs before hval0 hW hcnd _
  have hval : ∀ (j : Nat) t v, Try.f3.params[j]? = some t → args[j]? = some v → Value.okWide Try.prog W .any base t v := hval0
  have hW' := hW
  obtain ⟨p, q, hA0, hV, rfl, _, _⟩ := hW
  have hA : DataW.TrodAll enc Try.prog W 0 (fun _ => true) true [24, 5] args.toList ds p := hA0
  obtain ⟨v0, v1, d0, d1, p0, p1, rfl, rfl, rfl, h0, h1⟩ := trodAll_two hA
  obtain ⟨rfl, rfl⟩ := trodVars_none hV
  obtain ⟨n, b, hb, r0⟩ := read_tableArg (own := fun _ => False) (hval 0 24 v0 rfl rfl) h0
  obtain ⟨k, hk, r1⟩ := read_u8F (own := fun _ => False) (hval 1 5 v1 rfl rfl) h1
  refine law_calls (avs := [.agg [.p (.int .i64 n), .p (.int .u64 b)], .p (.int .u8 k)]) (c_pneumatictop_TopFormsSplit n b k hb hk) Go.Proofs.Try.func3 rfl rfl (fun g k rows hm => by cases hm) rfl (fun i x v hx hv => ?_) hW' laidOutP (by kernel_rfl) (by kernel_rfl) rfl Try.underlying4 rfl
  match i with
  | 0 => cases hx; cases hv; exact r0
  | 1 => cases hx; cases hv; exact r1
  | i + 2 => cases hx

theorem topFormsSplit_joined : joinedFacts Try.prog 3 Try.f3 Rows.topFormsSplitSpec Rows.topFormsSplitRow = true :=
  joined_of laidOutP rowedP topFormsSplit_k10 topFormsSplit_k11 topFormsSplit_k12 topFormsSplit_k13 plainKeysP heardP mayEnterP liftsP makeP (by kernel_rfl) (by kernel_rfl) (by kernel_rfl)

theorem topFormsSplit_holds : Rows.TopFormsSplitSaid :=
  OpenClaim.holds_of_wide 3 Try.f3 rfl rfl rfl rfl rfl rfl rfl ⟨rfl, rfl, rfl, rfl, rfl⟩ rfl rfl rfl rfl rfl topFormsSplit_k9 Go.Proofs.Try.func3 topFormsSplit_joined
    (of_decide_eq_true (by kernel_rfl)) (by unfold Func.isWrapper; first | (rw [if_pos (by decide +kernel)]; kernel_rfl) | (rw [if_neg (by decide +kernel)]; exact ⟨rfl, rfl⟩))
    (fun os started H enc _ => topFormsSplit_lifted os started H enc)
#print axioms topFormsSplit_holds
end Go.Proofs.Ythkjeoagelhocaa
