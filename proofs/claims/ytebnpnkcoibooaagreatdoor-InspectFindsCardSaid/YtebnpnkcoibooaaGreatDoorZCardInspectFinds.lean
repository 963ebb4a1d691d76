/- For every input InspectFinds returns true, and its arguments read afterwards as before; the one condition is that the package variable holds what the program's text lays. -/
import Derived.Test.YtebnpnkcoibooaaGreatDoorZCard
import Derived.Test.YtebnpnkcoibooaaGreatDoorZBrid4
set_option linter.unusedVariables false
set_option linter.unusedSimpArgs false
namespace Go.Proofs.YtebnpnkcoibooaaGreatDoor
open Go Go.Am Go.Pn Go.ChangeShapes Go.WideShapes Go.ChangeAt Go.RowKit

theorem inspectFinds_k9 : Tryz.prog.funcNamed "pneumatic/pneumaticlaw22.InspectFinds" = some 7 := by kernel_rfl
theorem inspectFinds_k10 : Tryz.prog.inPlace 7 = Rows.inspectFindsRow.inPlace := by kernel_rfl
theorem inspectFinds_k11 : Tryz.prog.unfollowed 7 = Rows.inspectFindsRow.unfollowed := by kernel_rfl
theorem inspectFinds_k12 : Tryz.prog.recurses 7 = Rows.inspectFindsRow.recurses := by kernel_rfl
theorem inspectFinds_k13 : Tryz.prog.varsNamed 7 = Rows.inspectFindsRow.named := by kernel_rfl
theorem inspectFinds_goes : false = Rows.inspectFindsRow.goesBy Tryz.prog := by kernel_rfl

set_option maxRecDepth 100000 in
theorem inspectFinds_lifted (os : Os) (started : os.Started) (H : Type) (enc : TypeId × Value → H) :
    ReturnsInHanded {} Tryz.checked os 7 .any (fun w args => (Rows.inspectFindsSpec.pre enc Tryz.prog Tryz.f7 [] false w args ∧ laidMetH Tryz.prog laidL w) ∧ sizedMet enc Tryz.prog Tryz.f7 (OpenSpec.ofChange Rows.inspectFindsSpec) false w args)
      (Rows.inspectFindsSpec.post enc Tryz.prog Tryz.f7 false true false false) := by
  refine returnsInHanded_of_change_and (C := Tryz.checked) (X := fun w _ => laidMetH Tryz.prog laidL w) (fun _ _ _ hh h => h.of_heap hh) ownK started (by kernel_rfl) Go.Proofs.Tryz.func7
    (ChangeSpec.witness_shaped (enc := enc) (C := Tryz.checked) (os := os) (X := fun w _ => laidMetH Tryz.prog laidL w) false (World.doorLaid Tryz.prog 20 os) #[.agg #[.slice none 0 0, .slice none 0 0], .agg #[.int .i64 0, .int .i64 0, .string ⟨#[]⟩]] 8 rfl (World.shaped_of_RefB (by kernel_rfl) (by kernel_rfl)) (by kernel_rfl) (by kernel_rfl) (by kernel_rfl) (door_met os _)) ?_
  intro W base args ds gs before hval0 hW _ hreach hL _
  have hval : ∀ (j : Nat) t v, Tryz.f7.params[j]? = some t → args[j]? = some v → Value.okWide Tryz.prog W .any base t v := hval0
  have hW' := hW
  obtain ⟨p, q, hA0, hV, rfl, _, _⟩ := hW
  have hA : DataW.TrodAll enc Tryz.prog W 0 (fun _ => true) true [25, 74] args.toList ds p := hA0
  obtain ⟨v0, v1, d0, d1, p0, p1, rfl, rfl, rfl, h0, h1⟩ := trodAll_two hA
  obtain ⟨rfl, rfl⟩ := trodVars_none hV
  obtain ⟨w0, w1⟩ := each_two (t := 25) (t' := 74) hreach
  obtain ⟨c0, r0, z0⟩ := read_circuit (own := fun _ => False) (fun _ h => h) (hval 0 25 v0 rfl rfl) h0
  obtain ⟨n1, r1, z1⟩ := read_fnd (own := fun _ => False) (hval 1 74 v1 rfl rfl) h1
  refine law_calls (avs := [c0.av, n1.av]) (c_pneumaticlaw22_InspectFinds c0 n1 (z0 w0) (z1 w1)) Go.Proofs.Tryz.func7 rfl rfl (glob_of hL) rfl (fun i x v hx hv => ?_) hW' laidOutP (by kernel_rfl) (by kernel_rfl) rfl Tryz.underlying4 rfl
  match i with
  | 0 => cases hx; cases hv; exact r0
  | 1 => cases hx; cases hv; exact r1
  | i + 2 => cases hx

theorem inspectFinds_joined : joinedFacts Tryz.prog 7 Tryz.f7 Rows.inspectFindsSpec Rows.inspectFindsRow = true :=
  joined_of laidOutP rowedP inspectFinds_k10 inspectFinds_k11 inspectFinds_k12 inspectFinds_k13 plainKeysP heardP mayEnterP liftsP makeP (by kernel_rfl) (by kernel_rfl) (by kernel_rfl)

theorem inspectFinds_holds : Rows.InspectFindsSaid :=
  OpenClaim.holds_of_wide 7 Tryz.f7 rfl rfl rfl rfl rfl rfl rfl ⟨rfl, rfl, rfl, rfl, rfl⟩ rfl rfl rfl rfl rfl inspectFinds_k9 Go.Proofs.Tryz.func7 inspectFinds_joined
    (of_decide_eq_true (by kernel_rfl)) (by unfold Func.isWrapper; first | (rw [if_pos (by decide +kernel)]; kernel_rfl) | (rw [if_neg (by decide +kernel)]; exact ⟨rfl, rfl⟩))
    (fun os started H enc _ => inspectFinds_lifted os started H enc)

theorem inspectFinds_card : Rows.InspectFindsCardSaid :=
  Claim7.holds_tied_plain_at .later [] [.data] true (true, "83f069099d8588fc8fe9e33e4fc94e43d0b46e9b51dec15e10f758937bee3e13") false
    inspectFinds_holds (fun _ h => by cases h) (by kernel_rfl) (fun _ h => by cases h) inspectFinds_row_tie rfl ⟨rfl, rfl⟩ mainIsP rfl
    (fun f fn hf hfn => by
      obtain rfl : f = 7 := Option.some.inj (inspectFinds_k9.symm.trans hf) |>.symm
      obtain rfl : fn = Tryz.f7 := (Option.some.inj (Go.Proofs.Tryz.func7.symm.trans hfn)).symm
      exact ⟨looksP.symm, fun j t ht => by
        have hm : t ∈ [25, 74] := by simpa using Array.mem_of_getElem? (show (#[25, 74] : Array TypeId)[j]? = some t from ht)
        have hall : ([25, 74].all fun u => !Tryz.prog.wantsStandIn u) = true := by kernel_rfl
        exact (show Tryz.prog.wantsStandIn t = false by simpa using List.all_eq_true.1 hall t hm)⟩)
    inspectFinds_goes
#print axioms inspectFinds_card
end Go.Proofs.YtebnpnkcoibooaaGreatDoor
