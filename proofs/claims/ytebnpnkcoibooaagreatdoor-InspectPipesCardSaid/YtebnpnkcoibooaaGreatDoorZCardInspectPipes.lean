/- For every input InspectPipes returns true, and its arguments read afterwards as before; the one condition is that the package variable holds what the program's text lays. -/
import Derived.Test.YtebnpnkcoibooaaGreatDoorZCard
import Derived.Test.YtebnpnkcoibooaaGreatDoorZBrid
import Derived.Test.YtebnpnkcoibooaaGreatDoorZCW
set_option linter.unusedVariables false
set_option linter.unusedSimpArgs false
namespace Go.Proofs.YtebnpnkcoibooaaGreatDoor
open Go Go.Am Go.Pn Go.ChangeShapes Go.WideShapes Go.ChangeAt Go.RowKit

theorem inspectPipes_k9 : Tryz.prog.funcNamed "pneumatic/pneumaticlaw22.InspectPipes" = some 10 := by kernel_rfl
theorem inspectPipes_k10 : Tryz.prog.inPlace 10 = Rows.inspectPipesRow.inPlace := by kernel_rfl
theorem inspectPipes_k11 : Tryz.prog.unfollowed 10 = Rows.inspectPipesRow.unfollowed := by kernel_rfl
theorem inspectPipes_k12 : Tryz.prog.recurses 10 = Rows.inspectPipesRow.recurses := by kernel_rfl
theorem inspectPipes_k13 : Tryz.prog.varsNamed 10 = Rows.inspectPipesRow.named := by kernel_rfl
theorem inspectPipes_goes : false = Rows.inspectPipesRow.goesBy Tryz.prog := by kernel_rfl

set_option maxRecDepth 100000 in
theorem inspectPipes_lifted (os : Os) (started : os.Started) (H : Type) (enc : TypeId × Value → H) :
    ReturnsInHanded {} Tryz.checked os 10 .any (fun w args => (Rows.inspectPipesSpec.pre enc Tryz.prog Tryz.f10 [] false w args ∧ laidMetH Tryz.prog laidL w) ∧ sizedMet enc Tryz.prog Tryz.f10 (OpenSpec.ofChange Rows.inspectPipesSpec) false w args)
      (Rows.inspectPipesSpec.post enc Tryz.prog Tryz.f10 false true false false) := by
  refine returnsInHanded_of_change_and (C := Tryz.checked) (X := fun w _ => laidMetH Tryz.prog laidL w) (fun _ _ _ hh h => h.of_heap hh) ownK started (by kernel_rfl) Go.Proofs.Tryz.func10
    (ChangeSpec.witness_shaped (enc := enc) (C := Tryz.checked) (os := os) (X := fun w _ => laidMetH Tryz.prog laidL w) false (World.doorLaid Tryz.prog 20 os) #[.agg #[.slice none 0 0, .slice none 0 0], .agg #[.int .i64 0, .string ⟨#[]⟩, .int .i64 0, .string ⟨#[]⟩]] 8 rfl (World.shaped_of_RefB (by kernel_rfl) (by kernel_rfl)) (by kernel_rfl) (by kernel_rfl) (by kernel_rfl) (door_met os _)) ?_
  intro W base args ds gs before hval0 hW _ hreach hL _
  have hval : ∀ (j : Nat) t v, Tryz.f10.params[j]? = some t → args[j]? = some v → Value.okWide Tryz.prog W .any base t v := hval0
  have hW' := hW
  obtain ⟨p, q, hA0, hV, rfl, _, _⟩ := hW
  have hA : DataW.TrodAll enc Tryz.prog W 0 (fun _ => true) true [25, 103] args.toList ds p := hA0
  obtain ⟨v0, v1, d0, d1, p0, p1, rfl, rfl, rfl, h0, h1⟩ := trodAll_two hA
  obtain ⟨rfl, rfl⟩ := trodVars_none hV
  obtain ⟨w0, w1⟩ := each_two (t := 25) (t' := 103) hreach
  obtain ⟨c0, r0, z0⟩ := read_circuit (own := fun _ => False) (fun _ h => h) (hval 0 25 v0 rfl rfl) h0
  obtain ⟨y1, r1, z1⟩ := read_pipeArg (own := fun _ => False) (hval 1 103 v1 rfl rfl) h1
  refine law_calls (avs := [c0.av, y1.av]) (c_pneumaticlaw22_InspectPipes c0 y1 (z0 w0) (z1 w1)) Go.Proofs.Tryz.func10 rfl rfl (glob_of hL) rfl (fun i x v hx hv => ?_) hW' laidOutP (by kernel_rfl) (by kernel_rfl) rfl Tryz.underlying4 rfl
  match i with
  | 0 => cases hx; cases hv; exact r0
  | 1 => cases hx; cases hv; exact r1
  | i + 2 => cases hx

theorem inspectPipes_joined : joinedFacts Tryz.prog 10 Tryz.f10 Rows.inspectPipesSpec Rows.inspectPipesRow = true :=
  joined_of laidOutP rowedP inspectPipes_k10 inspectPipes_k11 inspectPipes_k12 inspectPipes_k13 plainKeysP heardP mayEnterP liftsP makeP (by kernel_rfl) (by kernel_rfl) (by kernel_rfl)

theorem inspectPipes_holds : Rows.InspectPipesSaid :=
  OpenClaim.holds_of_wide 10 Tryz.f10 rfl rfl rfl rfl rfl rfl rfl ⟨rfl, rfl, rfl, rfl, rfl⟩ rfl rfl rfl rfl rfl inspectPipes_k9 Go.Proofs.Tryz.func10 inspectPipes_joined
    (of_decide_eq_true (by kernel_rfl)) (by unfold Func.isWrapper; first | (rw [if_pos (by decide +kernel)]; kernel_rfl) | (rw [if_neg (by decide +kernel)]; exact ⟨rfl, rfl⟩))
    (fun os started H enc _ => inspectPipes_lifted os started H enc)

theorem inspectPipes_card : Rows.InspectPipesCardSaid :=
  Claim7.holds_tied_plain_at .later [] [.data] true (true, "83f069099d8588fc8fe9e33e4fc94e43d0b46e9b51dec15e10f758937bee3e13") false
    inspectPipes_holds (fun _ h => by cases h) (by kernel_rfl) (fun _ h => by cases h) inspectPipes_row_tie rfl ⟨rfl, rfl⟩ mainIsP rfl
    (fun f fn hf hfn => by
      obtain rfl : f = 10 := Option.some.inj (inspectPipes_k9.symm.trans hf) |>.symm
      obtain rfl : fn = Tryz.f10 := (Option.some.inj (Go.Proofs.Tryz.func10.symm.trans hfn)).symm
      exact ⟨looksP.symm, fun j t ht => by
        have hm : t ∈ [25, 103] := by simpa using Array.mem_of_getElem? (show (#[25, 103] : Array TypeId)[j]? = some t from ht)
        have hall : ([25, 103].all fun u => !Tryz.prog.wantsStandIn u) = true := by kernel_rfl
        exact (show Tryz.prog.wantsStandIn t = false by simpa using List.all_eq_true.1 hall t hm)⟩)
    inspectPipes_goes
#print axioms inspectPipes_card
end Go.Proofs.YtebnpnkcoibooaaGreatDoor
