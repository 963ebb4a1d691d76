/- For every input LabelOrders returns true, and its arguments read afterwards as before; the one condition is that the listed variables hold what the row lists. -/
import Derived.Test.YtkofnocfackjiaaGreatDoorZCard26
import Derived.Test.YtkofnocfackjiaaGreatDoorZF9
set_option linter.unusedVariables false
set_option linter.unusedSimpArgs false
namespace Go.Proofs.YtkofnocfackjiaaGreatDoor
open Go Go.Am Go.Pn Go.ChangeShapes Go.WideShapes Go.ChangeAt Go.RowKit

theorem labelOrders_k9 : Tryz.prog.funcNamed "pneumatic/pneumaticlaw26.LabelOrders" = some 6 := by kernel_rfl
theorem labelOrders_k10 : Tryz.prog.inPlace 6 = Rows.labelOrdersRow.inPlace := by kernel_rfl
theorem labelOrders_k11 : Tryz.prog.unfollowed 6 = Rows.labelOrdersRow.unfollowed := by kernel_rfl
theorem labelOrders_k12 : Tryz.prog.recurses 6 = Rows.labelOrdersRow.recurses := by kernel_rfl
theorem labelOrders_k13 : Tryz.prog.varsNamed 6 = Rows.labelOrdersRow.named := by kernel_rfl
theorem labelOrders_goes : false = Rows.labelOrdersRow.goesBy Tryz.prog := by kernel_rfl

set_option maxRecDepth 100000 in
theorem labelOrders_lifted (os : Os) (started : os.Started) (H : Type) (enc : TypeId × Value → H) :
    ReturnsInHanded {} Tryz.checked os 6 .any (fun w args => (Rows.labelOrdersSpec.pre enc Tryz.prog Tryz.f6 [] false w args ∧ laidMetH Tryz.prog laidL w) ∧ sizedMet enc Tryz.prog Tryz.f6 (OpenSpec.ofChange Rows.labelOrdersSpec) false w args)
      (Rows.labelOrdersSpec.post enc Tryz.prog Tryz.f6 false true false false) := by
  refine returnsInHanded_of_change_and (C := Tryz.checked) (X := fun w _ => laidMetH Tryz.prog laidL w) (fun _ _ _ hh h => h.of_heap hh) ownK started (by kernel_rfl) Go.Proofs.Tryz.func6
    (ChangeSpec.witness_shaped (enc := enc) (C := Tryz.checked) (os := os) (X := fun w _ => laidMetH Tryz.prog laidL w) false (World.laidAll Tryz.prog os laidL) #[.agg #[.int .i64 0, .string ⟨#[]⟩, .int .i64 0], .agg #[.int .i64 0, .string ⟨#[]⟩, .int .i64 0], .agg #[.int .i64 0, .string ⟨#[]⟩, .int .i64 0]] 8 (World.laidAll_os _ _ _) (World.shaped_of_ZipB (by kernel_rfl) (by kernel_rfl)) (by kernel_rfl) (by kernel_rfl) (by kernel_rfl) (door_met os _)) ?_
  intro W base args ds gs before hval0 hW _ hreach hL _
  have hval : ∀ (j : Nat) t v, Tryz.f6.params[j]? = some t → args[j]? = some v → Value.okWide Tryz.prog W .any base t v := hval0
  have hW' := hW
  obtain ⟨p, q, hA0, hV, rfl, _, _⟩ := hW
  have hA : DataW.TrodAll enc Tryz.prog W 0 (fun _ => true) true [24, 24, 24] args.toList ds p := hA0
  obtain ⟨v0, v1, v2, d0, d1, d2, p0, p1, p2, rfl, rfl, rfl, h0, h1, h2⟩ := trodAll_three hA
  obtain ⟨rfl, rfl⟩ := trodVars_none hV
  obtain ⟨w0, w1, w2⟩ := each_three (t := 24) (t' := 24) (t'' := 24) hreach
  obtain ⟨b0, r0, z0⟩ := read_lbl (own := fun _ => False) (hval 0 24 v0 rfl rfl) h0
  obtain ⟨b1, r1, z1⟩ := read_lbl (own := fun _ => False) (hval 1 24 v1 rfl rfl) h1
  obtain ⟨b2, r2, z2⟩ := read_lbl (own := fun _ => False) (hval 2 24 v2 rfl rfl) h2
  refine law_calls (avs := [b0.av, b1.av, b2.av]) (c_LabelOrders b0 b1 b2 (z0 w0) (z1 w1) (z2 w2)) Go.Proofs.Tryz.func6 rfl rfl (globP hL) rfl (fun i x v hx hv => ?_) hW' laidOutP (by kernel_rfl) (by kernel_rfl) rfl Tryz.underlying4 rfl
  match i with
  | 0 => cases hx; cases hv; exact r0
  | 1 => cases hx; cases hv; exact r1
  | 2 => cases hx; cases hv; exact r2
  | i + 3 => cases hx

theorem labelOrders_joined : joinedFacts Tryz.prog 6 Tryz.f6 Rows.labelOrdersSpec Rows.labelOrdersRow = true :=
  joined_of laidOutP rowedP labelOrders_k10 labelOrders_k11 labelOrders_k12 labelOrders_k13 plainKeysP heardP mayEnterP liftsP makeP (by kernel_rfl) (by kernel_rfl) (by kernel_rfl)

theorem labelOrders_holds : Rows.LabelOrdersSaid :=
  OpenClaim.holds_of_wide 6 Tryz.f6 rfl rfl rfl rfl rfl rfl rfl ⟨rfl, rfl, rfl, rfl, rfl⟩ rfl rfl rfl rfl rfl labelOrders_k9 Go.Proofs.Tryz.func6 labelOrders_joined
    (of_decide_eq_true (by kernel_rfl)) (by unfold Func.isWrapper; first | (rw [if_pos (by decide +kernel)]; kernel_rfl) | (rw [if_neg (by decide +kernel)]; exact ⟨rfl, rfl⟩))
    (fun os started H enc _ => labelOrders_lifted os started H enc)

theorem labelOrders_card : Rows.LabelOrdersCardSaid :=
  Claim7.holds_tied_plain_at .later [] [.data, .data, .data, .sentinel, .sentinel, .data] true (true, "5e0eefb4a316c12276683b4a6595c2c71170ef9619c018063a3f2e44f7681f25") true
    labelOrders_holds (fun _ h => by cases h) (by kernel_rfl) (fun _ h => by cases h) labelOrders_row_tie rfl ⟨rfl, rfl⟩ mainIsP rfl
    (fun f fn hf hfn => by
      obtain rfl : f = 6 := Option.some.inj (labelOrders_k9.symm.trans hf) |>.symm
      obtain rfl : fn = Tryz.f6 := (Option.some.inj (Go.Proofs.Tryz.func6.symm.trans hfn)).symm
      exact ⟨looksP.symm, fun j t ht => by
        have hm : t ∈ [24, 24, 24] := by simpa using Array.mem_of_getElem? (show (#[24, 24, 24] : Array TypeId)[j]? = some t from ht)
        have hall : ([24, 24, 24].all fun u => !Tryz.prog.wantsStandIn u) = true := by kernel_rfl
        exact (show Tryz.prog.wantsStandIn t = false by simpa using List.all_eq_true.1 hall t hm)⟩)
    labelOrders_goes
#print axioms labelOrders_card
end Go.Proofs.YtkofnocfackjiaaGreatDoor
