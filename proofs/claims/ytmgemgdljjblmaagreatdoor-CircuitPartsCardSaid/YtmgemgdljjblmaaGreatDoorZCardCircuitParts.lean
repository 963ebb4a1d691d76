/- For every input CircuitParts returns true, and its arguments read afterwards as before; the one condition is that the package variable holds what the program's text lays. -/
import Derived.Test.YtmgemgdljjblmaaGreatDoorZCard
import Derived.Test.YtmgemgdljjblmaaGreatDoorZCR
set_option linter.unusedVariables false
set_option linter.unusedSimpArgs false
namespace Go.Proofs.YtmgemgdljjblmaaGreatDoor
open Go Go.Am Go.Pn Go.ChangeShapes Go.WideShapes Go.ChangeAt Go.RowKit

theorem circuitParts_k9 : Tryz.prog.funcNamed "pneumatic/pneumaticlaw21.CircuitParts" = some 6 := by kernel_rfl
theorem circuitParts_k10 : Tryz.prog.inPlace 6 = Rows.circuitPartsRow.inPlace := by kernel_rfl
theorem circuitParts_k11 : Tryz.prog.unfollowed 6 = Rows.circuitPartsRow.unfollowed := by kernel_rfl
theorem circuitParts_k12 : Tryz.prog.recurses 6 = Rows.circuitPartsRow.recurses := by kernel_rfl
theorem circuitParts_k13 : Tryz.prog.varsNamed 6 = Rows.circuitPartsRow.named := by kernel_rfl
theorem circuitParts_goes : false = Rows.circuitPartsRow.goesBy Tryz.prog := by kernel_rfl

set_option maxRecDepth 100000 in
theorem circuitParts_lifted (os : Os) (started : os.Started) (H : Type) (enc : TypeId × Value → H) :
    ReturnsInHanded {} Tryz.checked os 6 .any (fun w args => (Rows.circuitPartsSpec.pre enc Tryz.prog Tryz.f6 [] false w args ∧ laidMetH Tryz.prog laidL w) ∧ sizedMet enc Tryz.prog Tryz.f6 (OpenSpec.ofChange Rows.circuitPartsSpec) false w args)
      (Rows.circuitPartsSpec.post enc Tryz.prog Tryz.f6 false true false false) := by
  refine returnsInHanded_of_change_and (C := Tryz.checked) (X := fun w _ => laidMetH Tryz.prog laidL w) (fun _ _ _ hh h => h.of_heap hh) ownK started (by kernel_rfl) Go.Proofs.Tryz.func6
    (ChangeSpec.witness_shaped (enc := enc) (C := Tryz.checked) (os := os) (X := fun w _ => laidMetH Tryz.prog laidL w) false (World.doorLaid Tryz.prog 20 os) #[.agg #[.slice none 0 0, .slice none 0 0]] 8 rfl (World.shaped_of_RefB (by kernel_rfl) (by kernel_rfl)) (by kernel_rfl) (by kernel_rfl) (by kernel_rfl) (door_met os _)) ?_
  intro W base args ds gs before hval0 hW _ hreach hL _
  have hval : ∀ (j : Nat) t v, Tryz.f6.params[j]? = some t → args[j]? = some v → Value.okWide Tryz.prog W .any base t v := hval0
  have hW' := hW
  obtain ⟨p, q, hA0, hV, rfl, _, _⟩ := hW
  have hA : DataW.TrodAll enc Tryz.prog W 0 (fun _ => true) true [25] args.toList ds p := hA0
  obtain ⟨v0, d0, rfl, rfl, h0⟩ := trodAll_one hA
  obtain ⟨rfl, rfl⟩ := trodVars_none hV
  have w0 := each_one (t := 25) hreach
  obtain ⟨c0, r0, z0⟩ := read_circuit (own := fun _ => False) (fun _ h => h) (hval 0 25 v0 rfl rfl) h0
  refine law_calls (avs := [c0.av]) (c_pneumaticlaw21_CircuitParts c0 (z0 w0)) Go.Proofs.Tryz.func6 rfl rfl (glob_of hL) rfl (fun i x v hx hv => ?_) hW' laidOutP (by kernel_rfl) (by kernel_rfl) rfl Tryz.underlying4 rfl
  match i with
  | 0 => cases hx; cases hv; exact r0
  | i + 1 => cases hx

theorem circuitParts_joined : joinedFacts Tryz.prog 6 Tryz.f6 Rows.circuitPartsSpec Rows.circuitPartsRow = true :=
  joined_of laidOutP rowedP circuitParts_k10 circuitParts_k11 circuitParts_k12 circuitParts_k13 plainKeysP heardP mayEnterP liftsP makeP (by kernel_rfl) (by kernel_rfl) (by kernel_rfl)

theorem circuitParts_holds : Rows.CircuitPartsSaid :=
  OpenClaim.holds_of_wide 6 Tryz.f6 rfl rfl rfl rfl rfl rfl rfl ⟨rfl, rfl, rfl, rfl, rfl⟩ rfl rfl rfl rfl rfl circuitParts_k9 Go.Proofs.Tryz.func6 circuitParts_joined
    (of_decide_eq_true (by kernel_rfl)) (by unfold Func.isWrapper; first | (rw [if_pos (by decide +kernel)]; kernel_rfl) | (rw [if_neg (by decide +kernel)]; exact ⟨rfl, rfl⟩))
    (fun os started H enc _ => circuitParts_lifted os started H enc)

theorem circuitParts_card : Rows.CircuitPartsCardSaid :=
  Claim7.holds_tied_plain_at .later [] [.data] true (true, "68ed87adc379870c474784a90b92b1b9f2437e88e51b69d71db7e933d799f8bd") false
    circuitParts_holds (fun _ h => by cases h) (by kernel_rfl) (fun _ h => by cases h) circuitParts_row_tie rfl ⟨rfl, rfl⟩ mainIsP rfl
    (fun f fn hf hfn => by
      obtain rfl : f = 6 := Option.some.inj (circuitParts_k9.symm.trans hf) |>.symm
      obtain rfl : fn = Tryz.f6 := (Option.some.inj (Go.Proofs.Tryz.func6.symm.trans hfn)).symm
      exact ⟨looksP.symm, fun j t ht => by
        have hm : t ∈ [25] := by simpa using Array.mem_of_getElem? (show (#[25] : Array TypeId)[j]? = some t from ht)
        have hall : ([25].all fun u => !Tryz.prog.wantsStandIn u) = true := by kernel_rfl
        exact (show Tryz.prog.wantsStandIn t = false by simpa using List.all_eq_true.1 hall t hm)⟩)
    circuitParts_goes
#print axioms circuitParts_card
end Go.Proofs.YtmgemgdljjblmaaGreatDoor
