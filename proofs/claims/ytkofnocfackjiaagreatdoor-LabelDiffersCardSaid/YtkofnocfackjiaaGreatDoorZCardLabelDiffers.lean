/- For every input LabelDiffers returns true, and its arguments read afterwards as before; the one condition is that the listed variables hold what the row lists. -/
import Derived.Test.YtkofnocfackjiaaGreatDoorZCard26
import Derived.Test.YtkofnocfackjiaaGreatDoorZF9
set_option linter.unusedVariables false
set_option linter.unusedSimpArgs false
namespace Go.Proofs.YtkofnocfackjiaaGreatDoor
open Go Go.Am Go.Pn Go.ChangeShapes Go.WideShapes Go.ChangeAt Go.RowKit

theorem labelDiffers_k9 : Tryz.prog.funcNamed "pneumatic/pneumaticlaw26.LabelDiffers" = some 7 := by kernel_rfl
theorem labelDiffers_k10 : Tryz.prog.inPlace 7 = Rows.labelDiffersRow.inPlace := by kernel_rfl
theorem labelDiffers_k11 : Tryz.prog.unfollowed 7 = Rows.labelDiffersRow.unfollowed := by kernel_rfl
theorem labelDiffers_k12 : Tryz.prog.recurses 7 = Rows.labelDiffersRow.recurses := by kernel_rfl
theorem labelDiffers_k13 : Tryz.prog.varsNamed 7 = Rows.labelDiffersRow.named := by kernel_rfl
theorem labelDiffers_goes : false = Rows.labelDiffersRow.goesBy Tryz.prog := by kernel_rfl

set_option maxRecDepth 100000 in
theorem labelDiffers_lifted (os : Os) (started : os.Started) (H : Type) (enc : TypeId × Value → H) :
    ReturnsInHanded {} Tryz.checked os 7 .any (fun w args => (Rows.labelDiffersSpec.pre enc Tryz.prog Tryz.f7 [] false w args ∧ laidMetH Tryz.prog laidL w) ∧ sizedMet enc Tryz.prog Tryz.f7 (OpenSpec.ofChange Rows.labelDiffersSpec) false w args)
      (Rows.labelDiffersSpec.post enc Tryz.prog Tryz.f7 false true false false) := by
  refine returnsInHanded_of_change_and (C := Tryz.checked) (X := fun w _ => laidMetH Tryz.prog laidL w) (fun _ _ _ hh h => h.of_heap hh) ownK started (by kernel_rfl) Go.Proofs.Tryz.func7
    (ChangeSpec.witness_shaped (enc := enc) (C := Tryz.checked) (os := os) (X := fun w _ => laidMetH Tryz.prog laidL w) false (World.laidAll Tryz.prog os laidL) #[.agg #[.slice none 0 0, .slice none 0 0]] 8 (World.laidAll_os _ _ _) (World.shaped_of_ZipB (by kernel_rfl) (by kernel_rfl)) (by kernel_rfl) (by kernel_rfl) (by kernel_rfl) (door_met os _)) ?_
  intro W base args ds gs before hval0 hW _ hreach hL _
  have hval : ∀ (j : Nat) t v, Tryz.f7.params[j]? = some t → args[j]? = some v → Value.okWide Tryz.prog W .any base t v := hval0
  have hW' := hW
  obtain ⟨p, q, hA0, hV, rfl, _, _⟩ := hW
  have hA : DataW.TrodAll enc Tryz.prog W 0 (fun _ => true) true [35] args.toList ds p := hA0
  obtain ⟨v0, d0, rfl, rfl, h0⟩ := trodAll_one hA
  obtain ⟨rfl, rfl⟩ := trodVars_none hV
  have w0 := each_one (t := 35) hreach
  obtain ⟨c0, r0, z0⟩ := read_circuit (own := fun _ => False) (fun _ h => h) (hval 0 35 v0 rfl rfl) h0
  refine law_calls (avs := [c0.av]) (c_LabelDiffers c0 (z0 w0)) Go.Proofs.Tryz.func7 rfl rfl (globP hL) rfl (fun i x v hx hv => ?_) hW' laidOutP (by kernel_rfl) (by kernel_rfl) rfl Tryz.underlying4 rfl
  match i with
  | 0 => cases hx; cases hv; exact r0
  | i + 1 => cases hx

theorem labelDiffers_joined : joinedFacts Tryz.prog 7 Tryz.f7 Rows.labelDiffersSpec Rows.labelDiffersRow = true :=
  joined_of laidOutP rowedP labelDiffers_k10 labelDiffers_k11 labelDiffers_k12 labelDiffers_k13 plainKeysP heardP mayEnterP liftsP makeP (by kernel_rfl) (by kernel_rfl) (by kernel_rfl)

theorem labelDiffers_holds : Rows.LabelDiffersSaid :=
  OpenClaim.holds_of_wide 7 Tryz.f7 rfl rfl rfl rfl rfl rfl rfl ⟨rfl, rfl, rfl, rfl, rfl⟩ rfl rfl rfl rfl rfl labelDiffers_k9 Go.Proofs.Tryz.func7 labelDiffers_joined
    (of_decide_eq_true (by kernel_rfl)) (by unfold Func.isWrapper; first | (rw [if_pos (by decide +kernel)]; kernel_rfl) | (rw [if_neg (by decide +kernel)]; exact ⟨rfl, rfl⟩))
    (fun os started H enc _ => labelDiffers_lifted os started H enc)

theorem labelDiffers_card : Rows.LabelDiffersCardSaid :=
  Claim7.holds_tied_plain_at .later [] [.data, .data, .data, .sentinel, .sentinel, .data] true (true, "5e0eefb4a316c12276683b4a6595c2c71170ef9619c018063a3f2e44f7681f25") true
    labelDiffers_holds (fun _ h => by cases h) (by kernel_rfl) (fun _ h => by cases h) labelDiffers_row_tie rfl ⟨rfl, rfl⟩ mainIsP rfl
    (fun f fn hf hfn => by
      obtain rfl : f = 7 := Option.some.inj (labelDiffers_k9.symm.trans hf) |>.symm
      obtain rfl : fn = Tryz.f7 := (Option.some.inj (Go.Proofs.Tryz.func7.symm.trans hfn)).symm
      exact ⟨looksP.symm, fun j t ht => by
        have hm : t ∈ [35] := by simpa using Array.mem_of_getElem? (show (#[35] : Array TypeId)[j]? = some t from ht)
        have hall : ([35].all fun u => !Tryz.prog.wantsStandIn u) = true := by kernel_rfl
        exact (show Tryz.prog.wantsStandIn t = false by simpa using List.all_eq_true.1 hall t hm)⟩)
    labelDiffers_goes
#print axioms labelDiffers_card
end Go.Proofs.YtkofnocfackjiaaGreatDoor
