/- For every input LabelBelongs returns true, and its arguments read afterwards as before; the one condition is that the listed variables hold what the row lists. -/
import Derived.Test.YtkofnocfackjiaaGreatDoorZCard26
import Derived.Test.YtkofnocfackjiaaGreatDoorZG1
set_option linter.unusedVariables false
set_option linter.unusedSimpArgs false
namespace Go.Proofs.YtkofnocfackjiaaGreatDoor
open Go Go.Am Go.Pn Go.ChangeShapes Go.WideShapes Go.ChangeAt Go.RowKit

theorem labelBelongs_k9 : Tryz.prog.funcNamed "pneumatic/pneumaticlaw26.LabelBelongs" = some 9 := by kernel_rfl
theorem labelBelongs_k10 : Tryz.prog.inPlace 9 = Rows.labelBelongsRow.inPlace := by kernel_rfl
theorem labelBelongs_k11 : Tryz.prog.unfollowed 9 = Rows.labelBelongsRow.unfollowed := by kernel_rfl
theorem labelBelongs_k12 : Tryz.prog.recurses 9 = Rows.labelBelongsRow.recurses := by kernel_rfl
theorem labelBelongs_k13 : Tryz.prog.varsNamed 9 = Rows.labelBelongsRow.named := by kernel_rfl
theorem labelBelongs_goes : false = Rows.labelBelongsRow.goesBy Tryz.prog := by kernel_rfl

set_option maxRecDepth 100000 in
theorem labelBelongs_lifted (os : Os) (started : os.Started) (H : Type) (enc : TypeId × Value → H) :
    ReturnsInHanded {} Tryz.checked os 9 .any (fun w args => (Rows.labelBelongsSpec.pre enc Tryz.prog Tryz.f9 [] false w args ∧ laidMetH Tryz.prog laidL w) ∧ sizedMet enc Tryz.prog Tryz.f9 (OpenSpec.ofChange Rows.labelBelongsSpec) false w args)
      (Rows.labelBelongsSpec.post enc Tryz.prog Tryz.f9 false true false false) := by
  refine returnsInHanded_of_change_and (C := Tryz.checked) (X := fun w _ => laidMetH Tryz.prog laidL w) (fun _ _ _ hh h => h.of_heap hh) ownK started (by kernel_rfl) Go.Proofs.Tryz.func9
    (ChangeSpec.witness_shaped (enc := enc) (C := Tryz.checked) (os := os) (X := fun w _ => laidMetH Tryz.prog laidL w) false (World.laidAll Tryz.prog os laidL) #[.agg #[.slice none 0 0, .slice none 0 0]] 8 (World.laidAll_os _ _ _) (World.shaped_of_ZipB (by kernel_rfl) (by kernel_rfl)) (by kernel_rfl) (by kernel_rfl) (by kernel_rfl) (door_met os _)) ?_
  intro W base args ds gs before hval0 hW _ hreach hL _
  have hval : ∀ (j : Nat) t v, Tryz.f9.params[j]? = some t → args[j]? = some v → Value.okWide Tryz.prog W .any base t v := hval0
  have hW' := hW
  obtain ⟨p, q, hA0, hV, rfl, _, _⟩ := hW
  have hA : DataW.TrodAll enc Tryz.prog W 0 (fun _ => true) true [35] args.toList ds p := hA0
  obtain ⟨v0, d0, rfl, rfl, h0⟩ := trodAll_one hA
  obtain ⟨rfl, rfl⟩ := trodVars_none hV
  have w0 := each_one (t := 35) hreach
  obtain ⟨c0, r0, z0⟩ := read_circuit (own := fun _ => False) (fun _ h => h) (hval 0 35 v0 rfl rfl) h0
  refine law_calls (avs := [c0.av]) (c_LabelBelongs c0 (z0 w0)) Go.Proofs.Tryz.func9 rfl rfl (globP hL) rfl (fun i x v hx hv => ?_) hW' laidOutP (by kernel_rfl) (by kernel_rfl) rfl Tryz.underlying4 rfl
  match i with
  | 0 => cases hx; cases hv; exact r0
  | i + 1 => cases hx

theorem labelBelongs_joined : joinedFacts Tryz.prog 9 Tryz.f9 Rows.labelBelongsSpec Rows.labelBelongsRow = true :=
  joined_of laidOutP rowedP labelBelongs_k10 labelBelongs_k11 labelBelongs_k12 labelBelongs_k13 plainKeysP heardP mayEnterP liftsP makeP (by kernel_rfl) (by kernel_rfl) (by kernel_rfl)

theorem labelBelongs_holds : Rows.LabelBelongsSaid :=
  OpenClaim.holds_of_wide 9 Tryz.f9 rfl rfl rfl rfl rfl rfl rfl ⟨rfl, rfl, rfl, rfl, rfl⟩ rfl rfl rfl rfl rfl labelBelongs_k9 Go.Proofs.Tryz.func9 labelBelongs_joined
    (of_decide_eq_true (by kernel_rfl)) (by unfold Func.isWrapper; first | (rw [if_pos (by decide +kernel)]; kernel_rfl) | (rw [if_neg (by decide +kernel)]; exact ⟨rfl, rfl⟩))
    (fun os started H enc _ => labelBelongs_lifted os started H enc)

theorem labelBelongs_card : Rows.LabelBelongsCardSaid :=
  Claim7.holds_tied_plain_at .later [] [.data, .data, .data, .sentinel, .sentinel, .data] true (true, "5e0eefb4a316c12276683b4a6595c2c71170ef9619c018063a3f2e44f7681f25") true
    labelBelongs_holds (fun _ h => by cases h) (by kernel_rfl) (fun _ h => by cases h) labelBelongs_row_tie rfl ⟨rfl, rfl⟩ mainIsP rfl
    (fun f fn hf hfn => by
      obtain rfl : f = 9 := Option.some.inj (labelBelongs_k9.symm.trans hf) |>.symm
      obtain rfl : fn = Tryz.f9 := (Option.some.inj (Go.Proofs.Tryz.func9.symm.trans hfn)).symm
      exact ⟨looksP.symm, fun j t ht => by
        have hm : t ∈ [35] := by simpa using Array.mem_of_getElem? (show (#[35] : Array TypeId)[j]? = some t from ht)
        have hall : ([35].all fun u => !Tryz.prog.wantsStandIn u) = true := by kernel_rfl
        exact (show Tryz.prog.wantsStandIn t = false by simpa using List.all_eq_true.1 hall t hm)⟩)
    labelBelongs_goes
#print axioms labelBelongs_card
end Go.Proofs.YtkofnocfackjiaaGreatDoor
