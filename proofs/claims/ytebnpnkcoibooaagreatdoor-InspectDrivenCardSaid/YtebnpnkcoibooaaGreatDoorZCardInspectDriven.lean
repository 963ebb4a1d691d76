/- For every input InspectDriven returns true, and its arguments read afterwards as before; the one condition is that the package variable holds what the program's text lays. -/
import Derived.Test.YtebnpnkcoibooaaGreatDoorZCard
import Derived.Test.YtebnpnkcoibooaaGreatDoorZBrid
import Derived.Test.YtebnpnkcoibooaaGreatDoorZCW
set_option linter.unusedVariables false
set_option linter.unusedSimpArgs false
namespace Go.Proofs.YtebnpnkcoibooaaGreatDoor
open Go Go.Am Go.Pn Go.ChangeShapes Go.WideShapes Go.ChangeAt Go.RowKit

theorem inspectDriven_k9 : Tryz.prog.funcNamed "pneumatic/pneumaticlaw22.InspectDriven" = some 8 := by kernel_rfl
theorem inspectDriven_k10 : Tryz.prog.inPlace 8 = Rows.inspectDrivenRow.inPlace := by kernel_rfl
theorem inspectDriven_k11 : Tryz.prog.unfollowed 8 = Rows.inspectDrivenRow.unfollowed := by kernel_rfl
theorem inspectDriven_k12 : Tryz.prog.recurses 8 = Rows.inspectDrivenRow.recurses := by kernel_rfl
theorem inspectDriven_k13 : Tryz.prog.varsNamed 8 = Rows.inspectDrivenRow.named := by kernel_rfl
theorem inspectDriven_goes : false = Rows.inspectDrivenRow.goesBy Tryz.prog := by kernel_rfl

set_option maxRecDepth 100000 in
theorem inspectDriven_lifted (os : Os) (started : os.Started) (H : Type) (enc : TypeId × Value → H) :
    ReturnsInHanded {} Tryz.checked os 8 .any (fun w args => (Rows.inspectDrivenSpec.pre enc Tryz.prog Tryz.f8 [] false w args ∧ laidMetH Tryz.prog laidL w) ∧ sizedMet enc Tryz.prog Tryz.f8 (OpenSpec.ofChange Rows.inspectDrivenSpec) false w args)
      (Rows.inspectDrivenSpec.post enc Tryz.prog Tryz.f8 false true false false) := by
  refine returnsInHanded_of_change_and (C := Tryz.checked) (X := fun w _ => laidMetH Tryz.prog laidL w) (fun _ _ _ hh h => h.of_heap hh) ownK started (by kernel_rfl) Go.Proofs.Tryz.func8
    (ChangeSpec.witness_shaped (enc := enc) (C := Tryz.checked) (os := os) (X := fun w _ => laidMetH Tryz.prog laidL w) false (World.doorLaid Tryz.prog 20 os) #[.agg #[.slice none 0 0, .slice none 0 0]] 8 rfl (World.shaped_of_RefB (by kernel_rfl) (by kernel_rfl)) (by kernel_rfl) (by kernel_rfl) (by kernel_rfl) (door_met os _)) ?_
  intro W base args ds gs before hval0 hW _ hreach hL _
  have hval : ∀ (j : Nat) t v, Tryz.f8.params[j]? = some t → args[j]? = some v → Value.okWide Tryz.prog W .any base t v := hval0
  have hW' := hW
  obtain ⟨p, q, hA0, hV, rfl, _, _⟩ := hW
  have hA : DataW.TrodAll enc Tryz.prog W 0 (fun _ => true) true [25] args.toList ds p := hA0
  obtain ⟨v0, d0, rfl, rfl, h0⟩ := trodAll_one hA
  obtain ⟨rfl, rfl⟩ := trodVars_none hV
  have w0 := each_one (t := 25) hreach
  obtain ⟨c0, r0, z0⟩ := read_circuit (own := fun _ => False) (fun _ h => h) (hval 0 25 v0 rfl rfl) h0
  refine law_calls (avs := [c0.av]) (c_pneumaticlaw22_InspectDriven c0 (z0 w0)) Go.Proofs.Tryz.func8 rfl rfl (glob_of hL) rfl (fun i x v hx hv => ?_) hW' laidOutP (by kernel_rfl) (by kernel_rfl) rfl Tryz.underlying4 rfl
  match i with
  | 0 => cases hx; cases hv; exact r0
  | i + 1 => cases hx

theorem inspectDriven_joined : joinedFacts Tryz.prog 8 Tryz.f8 Rows.inspectDrivenSpec Rows.inspectDrivenRow = true :=
  joined_of laidOutP rowedP inspectDriven_k10 inspectDriven_k11 inspectDriven_k12 inspectDriven_k13 plainKeysP heardP mayEnterP liftsP makeP (by kernel_rfl) (by kernel_rfl) (by kernel_rfl)

theorem inspectDriven_holds : Rows.InspectDrivenSaid :=
  OpenClaim.holds_of_wide 8 Tryz.f8 rfl rfl rfl rfl rfl rfl rfl ⟨rfl, rfl, rfl, rfl, rfl⟩ rfl rfl rfl rfl rfl inspectDriven_k9 Go.Proofs.Tryz.func8 inspectDriven_joined
    (of_decide_eq_true (by kernel_rfl)) (by unfold Func.isWrapper; first | (rw [if_pos (by decide +kernel)]; kernel_rfl) | (rw [if_neg (by decide +kernel)]; exact ⟨rfl, rfl⟩))
    (fun os started H enc _ => inspectDriven_lifted os started H enc)

theorem inspectDriven_card : Rows.InspectDrivenCardSaid :=
  Claim7.holds_tied_plain_at .later [] [.data] true (true, "83f069099d8588fc8fe9e33e4fc94e43d0b46e9b51dec15e10f758937bee3e13") false
    inspectDriven_holds (fun _ h => by cases h) (by kernel_rfl) (fun _ h => by cases h) inspectDriven_row_tie rfl ⟨rfl, rfl⟩ mainIsP rfl
    (fun f fn hf hfn => by
      obtain rfl : f = 8 := Option.some.inj (inspectDriven_k9.symm.trans hf) |>.symm
      obtain rfl : fn = Tryz.f8 := (Option.some.inj (Go.Proofs.Tryz.func8.symm.trans hfn)).symm
      exact ⟨looksP.symm, fun j t ht => by
        have hm : t ∈ [25] := by simpa using Array.mem_of_getElem? (show (#[25] : Array TypeId)[j]? = some t from ht)
        have hall : ([25].all fun u => !Tryz.prog.wantsStandIn u) = true := by kernel_rfl
        exact (show Tryz.prog.wantsStandIn t = false by simpa using List.all_eq_true.1 hall t hm)⟩)
    inspectDriven_goes
#print axioms inspectDriven_card
end Go.Proofs.YtebnpnkcoibooaaGreatDoor
