/- For every input InspectSides returns true, and its arguments read afterwards as before; the one condition is that the package variable holds what the program's text lays. -/
import Derived.Test.YtebnpnkcoibooaaGreatDoorZCard
import Derived.Test.YtebnpnkcoibooaaGreatDoorZBrid
import Derived.Test.YtebnpnkcoibooaaGreatDoorZCU
set_option linter.unusedVariables false
set_option linter.unusedSimpArgs false
namespace Go.Proofs.YtebnpnkcoibooaaGreatDoor
open Go Go.Am Go.Pn Go.ChangeShapes Go.WideShapes Go.ChangeAt Go.RowKit

theorem inspectSides_k9 : Tryz.prog.funcNamed "pneumatic/pneumaticlaw22.InspectSides" = some 9 := by kernel_rfl
theorem inspectSides_k10 : Tryz.prog.inPlace 9 = Rows.inspectSidesRow.inPlace := by kernel_rfl
theorem inspectSides_k11 : Tryz.prog.unfollowed 9 = Rows.inspectSidesRow.unfollowed := by kernel_rfl
theorem inspectSides_k12 : Tryz.prog.recurses 9 = Rows.inspectSidesRow.recurses := by kernel_rfl
theorem inspectSides_k13 : Tryz.prog.varsNamed 9 = Rows.inspectSidesRow.named := by kernel_rfl
theorem inspectSides_goes : false = Rows.inspectSidesRow.goesBy Tryz.prog := by kernel_rfl

set_option maxRecDepth 100000 in
theorem inspectSides_lifted (os : Os) (started : os.Started) (H : Type) (enc : TypeId × Value → H) :
    ReturnsInHanded {} Tryz.checked os 9 .any (fun w args => (Rows.inspectSidesSpec.pre enc Tryz.prog Tryz.f9 [] false w args ∧ laidMetH Tryz.prog laidL w) ∧ sizedMet enc Tryz.prog Tryz.f9 (OpenSpec.ofChange Rows.inspectSidesSpec) false w args)
      (Rows.inspectSidesSpec.post enc Tryz.prog Tryz.f9 false true false false) := by
  refine returnsInHanded_of_change_and (C := Tryz.checked) (X := fun w _ => laidMetH Tryz.prog laidL w) (fun _ _ _ hh h => h.of_heap hh) ownK started (by kernel_rfl) Go.Proofs.Tryz.func9
    (ChangeSpec.witness_shaped (enc := enc) (C := Tryz.checked) (os := os) (X := fun w _ => laidMetH Tryz.prog laidL w) false (World.doorLaid Tryz.prog 20 os) #[.agg #[.slice none 0 0, .slice none 0 0], .agg #[.int .i64 0, .string ⟨#[]⟩]] 8 rfl (World.shaped_of_RefB (by kernel_rfl) (by kernel_rfl)) (by kernel_rfl) (by kernel_rfl) (by kernel_rfl) (door_met os _)) ?_
  intro W base args ds gs before hval0 hW _ hreach hL _
  have hval : ∀ (j : Nat) t v, Tryz.f9.params[j]? = some t → args[j]? = some v → Value.okWide Tryz.prog W .any base t v := hval0
  have hW' := hW
  obtain ⟨p, q, hA0, hV, rfl, _, _⟩ := hW
  have hA : DataW.TrodAll enc Tryz.prog W 0 (fun _ => true) true [25, 28] args.toList ds p := hA0
  obtain ⟨v0, v1, d0, d1, p0, p1, rfl, rfl, rfl, h0, h1⟩ := trodAll_two hA
  obtain ⟨rfl, rfl⟩ := trodVars_none hV
  obtain ⟨w0, w1⟩ := each_two (t := 25) (t' := 28) hreach
  obtain ⟨c0, r0, z0⟩ := read_circuit (own := fun _ => False) (fun _ h => h) (hval 0 25 v0 rfl rfl) h0
  obtain ⟨x1, r1, z1⟩ := read_portArg (own := fun _ => False) (hval 1 28 v1 rfl rfl) h1
  refine law_calls (avs := [c0.av, x1.av]) (c_pneumaticlaw22_InspectSides c0 x1 (z0 w0) (z1 w1)) Go.Proofs.Tryz.func9 rfl rfl (glob_of hL) rfl (fun i x v hx hv => ?_) hW' laidOutP (by kernel_rfl) (by kernel_rfl) rfl Tryz.underlying4 rfl
  match i with
  | 0 => cases hx; cases hv; exact r0
  | 1 => cases hx; cases hv; exact r1
  | i + 2 => cases hx

theorem inspectSides_joined : joinedFacts Tryz.prog 9 Tryz.f9 Rows.inspectSidesSpec Rows.inspectSidesRow = true :=
  joined_of laidOutP rowedP inspectSides_k10 inspectSides_k11 inspectSides_k12 inspectSides_k13 plainKeysP heardP mayEnterP liftsP makeP (by kernel_rfl) (by kernel_rfl) (by kernel_rfl)

theorem inspectSides_holds : Rows.InspectSidesSaid :=
  OpenClaim.holds_of_wide 9 Tryz.f9 rfl rfl rfl rfl rfl rfl rfl ⟨rfl, rfl, rfl, rfl, rfl⟩ rfl rfl rfl rfl rfl inspectSides_k9 Go.Proofs.Tryz.func9 inspectSides_joined
    (of_decide_eq_true (by kernel_rfl)) (by unfold Func.isWrapper; first | (rw [if_pos (by decide +kernel)]; kernel_rfl) | (rw [if_neg (by decide +kernel)]; exact ⟨rfl, rfl⟩))
    (fun os started H enc _ => inspectSides_lifted os started H enc)

theorem inspectSides_card : Rows.InspectSidesCardSaid :=
  Claim7.holds_tied_plain_at .later [] [.data] true (true, "83f069099d8588fc8fe9e33e4fc94e43d0b46e9b51dec15e10f758937bee3e13") false
    inspectSides_holds (fun _ h => by cases h) (by kernel_rfl) (fun _ h => by cases h) inspectSides_row_tie rfl ⟨rfl, rfl⟩ mainIsP rfl
    (fun f fn hf hfn => by
      obtain rfl : f = 9 := Option.some.inj (inspectSides_k9.symm.trans hf) |>.symm
      obtain rfl : fn = Tryz.f9 := (Option.some.inj (Go.Proofs.Tryz.func9.symm.trans hfn)).symm
      exact ⟨looksP.symm, fun j t ht => by
        have hm : t ∈ [25, 28] := by simpa using Array.mem_of_getElem? (show (#[25, 28] : Array TypeId)[j]? = some t from ht)
        have hall : ([25, 28].all fun u => !Tryz.prog.wantsStandIn u) = true := by kernel_rfl
        exact (show Tryz.prog.wantsStandIn t = false by simpa using List.all_eq_true.1 hall t hm)⟩)
    inspectSides_goes
#print axioms inspectSides_card
end Go.Proofs.YtebnpnkcoibooaaGreatDoor
