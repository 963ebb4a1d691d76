/- For every input TopPressureDrives returns true, and its arguments read afterwards as before; the one condition is that the listed variables hold what the row lists. -/
import Derived.Test.YtkofnocfackjiaaGreatDoorZCard26t
import Derived.Test.YtkofnocfackjiaaGreatDoorZBrid2
import Derived.Test.YtkofnocfackjiaaGreatDoorZG2
set_option linter.unusedVariables false
set_option linter.unusedSimpArgs false
namespace Go.Proofs.YtkofnocfackjiaaGreatDoor
open Go Go.Am Go.Pn Go.ChangeShapes Go.WideShapes Go.ChangeAt Go.RowKit

theorem topPressureDrives_k9 : Tryz.prog.funcNamed "pneumatic/pneumatictop.TopPressureDrives" = some 10 := by kernel_rfl
theorem topPressureDrives_k10 : Tryz.prog.inPlace 10 = Rows.topPressureDrivesRow.inPlace := by kernel_rfl
theorem topPressureDrives_k11 : Tryz.prog.unfollowed 10 = Rows.topPressureDrivesRow.unfollowed := by kernel_rfl
theorem topPressureDrives_k12 : Tryz.prog.recurses 10 = Rows.topPressureDrivesRow.recurses := by kernel_rfl
theorem topPressureDrives_k13 : Tryz.prog.varsNamed 10 = Rows.topPressureDrivesRow.named := by kernel_rfl
theorem topPressureDrives_goes : false = Rows.topPressureDrivesRow.goesBy Tryz.prog := by kernel_rfl

set_option maxRecDepth 100000 in
theorem topPressureDrives_lifted (os : Os) (started : os.Started) (H : Type) (enc : TypeId × Value → H) :
    ReturnsInHanded {} Tryz.checked os 10 .any (fun w args => (Rows.topPressureDrivesSpec.pre enc Tryz.prog Tryz.f10 [] false w args ∧ laidMetH Tryz.prog laidL w) ∧ sizedMet enc Tryz.prog Tryz.f10 (OpenSpec.ofChange Rows.topPressureDrivesSpec) false w args)
      (Rows.topPressureDrivesSpec.post enc Tryz.prog Tryz.f10 false true false false) := by
  refine returnsInHanded_of_change_and (C := Tryz.checked) (X := fun w _ => laidMetH Tryz.prog laidL w) (fun _ _ _ hh h => h.of_heap hh) ownK started (by kernel_rfl) Go.Proofs.Tryz.func10
    (ChangeSpec.witness_shaped (enc := enc) (C := Tryz.checked) (os := os) (X := fun w _ => laidMetH Tryz.prog laidL w) false (World.laidAll Tryz.prog os laidL) #[.agg #[.slice none 0 0, .slice none 0 0], .slice none 0 0] 8 (World.laidAll_os _ _ _) (World.shaped_of_ZipB (by kernel_rfl) (by kernel_rfl)) (by kernel_rfl) (by kernel_rfl) (by kernel_rfl) (door_met os _)) ?_
  intro W base args ds gs before hval0 hW _ hreach hL _
  have hval : ∀ (j : Nat) t v, Tryz.f10.params[j]? = some t → args[j]? = some v → Value.okWide Tryz.prog W .any base t v := hval0
  have hW' := hW
  obtain ⟨p, q, hA0, hV, rfl, _, _⟩ := hW
  have hA : DataW.TrodAll enc Tryz.prog W 0 (fun _ => true) true [35, 37] args.toList ds p := hA0
  obtain ⟨v0, v1, d0, d1, p0, p1, rfl, rfl, rfl, h0, h1⟩ := trodAll_two hA
  obtain ⟨rfl, rfl⟩ := trodVars_none hV
  obtain ⟨w0, w1⟩ := each_two (t := 35) (t' := 37) hreach
  obtain ⟨c0, r0, z0⟩ := read_circuit (own := fun _ => False) (fun _ h => h) (hval 0 35 v0 rfl rfl) h0
  obtain ⟨l1, r1, z1⟩ := read_ints (own := fun _ => False) (fun _ h => h) (hval 1 37 v1 rfl rfl) h1
  refine law_calls (avs := [c0.av, (Ints.av l1)]) (c_pneumatictop_TopPressureDrives c0 l1 (z0 w0) (z1 w1)) Go.Proofs.Tryz.func10 rfl rfl (globP hL) rfl (fun i x v hx hv => ?_) hW' laidOutP (by kernel_rfl) (by kernel_rfl) rfl Tryz.underlying4 rfl
  match i with
  | 0 => cases hx; cases hv; exact r0
  | 1 => cases hx; cases hv; exact r1
  | i + 2 => cases hx

theorem topPressureDrives_joined : joinedFacts Tryz.prog 10 Tryz.f10 Rows.topPressureDrivesSpec Rows.topPressureDrivesRow = true :=
  joined_of laidOutP rowedP topPressureDrives_k10 topPressureDrives_k11 topPressureDrives_k12 topPressureDrives_k13 plainKeysP heardP mayEnterP liftsP makeP (by kernel_rfl) (by kernel_rfl) (by kernel_rfl)

theorem topPressureDrives_holds : Rows.TopPressureDrivesSaid :=
  OpenClaim.holds_of_wide 10 Tryz.f10 rfl rfl rfl rfl rfl rfl rfl ⟨rfl, rfl, rfl, rfl, rfl⟩ rfl rfl rfl rfl rfl topPressureDrives_k9 Go.Proofs.Tryz.func10 topPressureDrives_joined
    (of_decide_eq_true (by kernel_rfl)) (by unfold Func.isWrapper; first | (rw [if_pos (by decide +kernel)]; kernel_rfl) | (rw [if_neg (by decide +kernel)]; exact ⟨rfl, rfl⟩))
    (fun os started H enc _ => topPressureDrives_lifted os started H enc)

theorem topPressureDrives_card : Rows.TopPressureDrivesCardSaid :=
  Claim7.holds_tied_plain_at .later [] [.data, .data, .data, .data] true (true, "5e0eefb4a316c12276683b4a6595c2c71170ef9619c018063a3f2e44f7681f25") true
    topPressureDrives_holds (fun _ h => by cases h) (by kernel_rfl) (fun _ h => by cases h) topPressureDrives_row_tie rfl ⟨rfl, rfl⟩ mainIsP rfl
    (fun f fn hf hfn => by
      obtain rfl : f = 10 := Option.some.inj (topPressureDrives_k9.symm.trans hf) |>.symm
      obtain rfl : fn = Tryz.f10 := (Option.some.inj (Go.Proofs.Tryz.func10.symm.trans hfn)).symm
      exact ⟨looksP.symm, fun j t ht => by
        have hm : t ∈ [35, 37] := by simpa using Array.mem_of_getElem? (show (#[35, 37] : Array TypeId)[j]? = some t from ht)
        have hall : ([35, 37].all fun u => !Tryz.prog.wantsStandIn u) = true := by kernel_rfl
        exact (show Tryz.prog.wantsStandIn t = false by simpa using List.all_eq_true.1 hall t hm)⟩)
    topPressureDrives_goes
#print axioms topPressureDrives_card
end Go.Proofs.YtkofnocfackjiaaGreatDoor
