/- For every input CircuitChecks returns true, and its arguments read afterwards as before; the one condition is that the package variable holds what the program's text lays. -/
import Derived.Test.YtmgemgdljjblmaaGreatDoorZCard
import Derived.Test.YtmgemgdljjblmaaGreatDoorZC8
namespace Go.Proofs.YtmgemgdljjblmaaGreatDoor
open Go Go.Am Go.Pn Go.ChangeShapes Go.WideShapes Go.ChangeAt Go.RowKit

theorem circuitChecks_k9 : Tryz.prog.funcNamed "pneumatic/pneumaticlaw21.CircuitChecks" = some 4 := by kernel_rfl
theorem circuitChecks_k10 : Tryz.prog.inPlace 4 = Rows.circuitChecksRow.inPlace := by kernel_rfl
theorem circuitChecks_k11 : Tryz.prog.unfollowed 4 = Rows.circuitChecksRow.unfollowed := by kernel_rfl
theorem circuitChecks_k12 : Tryz.prog.recurses 4 = Rows.circuitChecksRow.recurses := by kernel_rfl
theorem circuitChecks_k13 : Tryz.prog.varsNamed 4 = Rows.circuitChecksRow.named := by kernel_rfl
theorem circuitChecks_goes : false = Rows.circuitChecksRow.goesBy Tryz.prog := by kernel_rfl

set_option maxRecDepth 100000 in
theorem circuitChecks_lifted (os : Os) (started : os.Started) (H : Type) (enc : TypeId × Value → H) :
    ReturnsInHanded {} Tryz.checked os 4 .any (fun w args => (Rows.circuitChecksSpec.pre enc Tryz.prog Tryz.f4 [] false w args ∧ laidMetH Tryz.prog laidL w) ∧ sizedMet enc Tryz.prog Tryz.f4 (OpenSpec.ofChange Rows.circuitChecksSpec) false w args)
      (Rows.circuitChecksSpec.post enc Tryz.prog Tryz.f4 false true false false) := by
  refine returnsInHanded_of_change_and (C := Tryz.checked) (X := fun w _ => laidMetH Tryz.prog laidL w) (fun _ _ _ hh h => h.of_heap hh) ownK started (by kernel_rfl) Go.Proofs.Tryz.func4
    (ChangeSpec.witness_shaped (enc := enc) (C := Tryz.checked) (os := os) (X := fun w _ => laidMetH Tryz.prog laidL w) false (World.doorLaid Tryz.prog 20 os) #[.agg #[.slice none 0 0, .slice none 0 0], .string ⟨#[]⟩] 8 rfl (World.shaped_of_RefB (by kernel_rfl) (by kernel_rfl)) (by kernel_rfl) (by kernel_rfl) (by kernel_rfl) (door_met os _)) ?_
  intro W base args ds gs before hval0 hW _ hreach hL _
  have hval : ∀ (j : Nat) t v, Tryz.f4.params[j]? = some t → args[j]? = some v → Value.okWide Tryz.prog W .any base t v := hval0
  have hW' := hW
  obtain ⟨p, q, hA0, hV, rfl, _, _⟩ := hW
  have hA : DataW.TrodAll enc Tryz.prog W 0 (fun _ => true) true [25, 9] args.toList ds p := hA0
  obtain ⟨v0, v1, d0, d1, p0, p1, rfl, rfl, rfl, h0, h1⟩ := trodAll_two hA
  obtain ⟨rfl, rfl⟩ := trodVars_none hV
  obtain ⟨w0, w1⟩ := each_two (t := 25) (t' := 9) hreach
  obtain ⟨c0, r0, z0⟩ := read_circuit (own := fun _ => False) (fun _ h => h) (hval 0 25 v0 rfl rfl) h0
  obtain ⟨s1, r1, z1⟩ := read_text (own := fun _ => False) (hval 1 9 v1 rfl rfl) h1
  refine law_calls (avs := [c0.av, .p (.str s1)]) (c_pneumaticlaw21_CircuitChecks c0 s1 (z0 w0) (z1 w1)) Go.Proofs.Tryz.func4 rfl rfl (glob_of hL) rfl (fun i x v hx hv => ?_) hW' laidOutP (by kernel_rfl) (by kernel_rfl) rfl Tryz.underlying4 rfl
  match i with
  | 0 => cases hx; cases hv; exact r0
  | 1 => cases hx; cases hv; exact r1
  | i + 2 => cases hx

theorem circuitChecks_joined : joinedFacts Tryz.prog 4 Tryz.f4 Rows.circuitChecksSpec Rows.circuitChecksRow = true :=
  joined_of laidOutP rowedP circuitChecks_k10 circuitChecks_k11 circuitChecks_k12 circuitChecks_k13 plainKeysP heardP mayEnterP liftsP makeP (by kernel_rfl) (by kernel_rfl) (by kernel_rfl)

theorem circuitChecks_holds : Rows.CircuitChecksSaid :=
  OpenClaim.holds_of_wide 4 Tryz.f4 rfl rfl rfl rfl rfl rfl rfl ⟨rfl, rfl, rfl, rfl, rfl⟩ rfl rfl rfl rfl rfl circuitChecks_k9 Go.Proofs.Tryz.func4 circuitChecks_joined
    (of_decide_eq_true (by kernel_rfl)) (by unfold Func.isWrapper; first | (rw [if_pos (by decide +kernel)]; kernel_rfl) | (rw [if_neg (by decide +kernel)]; exact ⟨rfl, rfl⟩))
    (fun os started H enc _ => circuitChecks_lifted os started H enc)

theorem circuitChecks_card : Rows.CircuitChecksCardSaid :=
  Claim7.holds_tied_plain_at .later [] [.data] true (true, "68ed87adc379870c474784a90b92b1b9f2437e88e51b69d71db7e933d799f8bd") false
    circuitChecks_holds (fun _ h => by cases h) (by kernel_rfl) (fun _ h => by cases h) circuitChecks_row_tie rfl ⟨rfl, rfl⟩ mainIsP rfl
    (fun f fn hf hfn => by
      obtain rfl : f = 4 := Option.some.inj (circuitChecks_k9.symm.trans hf) |>.symm
      obtain rfl : fn = Tryz.f4 := (Option.some.inj (Go.Proofs.Tryz.func4.symm.trans hfn)).symm
      exact ⟨looksP.symm, fun j t ht => by
        have hm : t ∈ [25, 9] := by simpa using Array.mem_of_getElem? (show (#[25, 9] : Array TypeId)[j]? = some t from ht)
        have hall : ([25, 9].all fun u => !Tryz.prog.wantsStandIn u) = true := by kernel_rfl
        exact (show Tryz.prog.wantsStandIn t = false by simpa using List.all_eq_true.1 hall t hm)⟩)
    circuitChecks_goes
#print axioms circuitChecks_card
end Go.Proofs.YtmgemgdljjblmaaGreatDoor
