/- For every input LabelParses returns true, and its arguments read afterwards as before; the one condition is that the listed variables hold what the row lists. -/
import Derived.Test.YtkofnocfackjiaaGreatDoorZCard26
import Derived.Test.YtkofnocfackjiaaGreatDoorZG3
set_option linter.unusedVariables false
set_option linter.unusedSimpArgs false
namespace Go.Proofs.YtkofnocfackjiaaGreatDoor
open Go Go.Am Go.Pn Go.ChangeShapes Go.WideShapes Go.ChangeAt Go.RowKit

theorem labelParses_k9 : Tryz.prog.funcNamed "pneumatic/pneumaticlaw26.LabelParses" = some 3 := by kernel_rfl
theorem labelParses_k10 : Tryz.prog.inPlace 3 = Rows.labelParsesRow.inPlace := by kernel_rfl
theorem labelParses_k11 : Tryz.prog.unfollowed 3 = Rows.labelParsesRow.unfollowed := by kernel_rfl
theorem labelParses_k12 : Tryz.prog.recurses 3 = Rows.labelParsesRow.recurses := by kernel_rfl
theorem labelParses_k13 : Tryz.prog.varsNamed 3 = Rows.labelParsesRow.named := by kernel_rfl
theorem labelParses_goes : false = Rows.labelParsesRow.goesBy Tryz.prog := by kernel_rfl

set_option maxRecDepth 100000 in
theorem labelParses_lifted (os : Os) (started : os.Started) (H : Type) (enc : TypeId × Value → H) :
    ReturnsInHanded {} Tryz.checked os 3 .any (fun w args => (Rows.labelParsesSpec.pre enc Tryz.prog Tryz.f3 [] false w args ∧ laidMetH Tryz.prog laidL w) ∧ sizedMet enc Tryz.prog Tryz.f3 (OpenSpec.ofChange Rows.labelParsesSpec) false w args)
      (Rows.labelParsesSpec.post enc Tryz.prog Tryz.f3 false true false false) := by
  refine returnsInHanded_of_change_and (C := Tryz.checked) (X := fun w _ => laidMetH Tryz.prog laidL w) (fun _ _ _ hh h => h.of_heap hh) ownK started (by kernel_rfl) Go.Proofs.Tryz.func3
    (ChangeSpec.witness_shaped (enc := enc) (C := Tryz.checked) (os := os) (X := fun w _ => laidMetH Tryz.prog laidL w) false (World.laidAll Tryz.prog os laidL) #[.string ⟨#[]⟩] 8 (World.laidAll_os _ _ _) (World.shaped_of_ZipB (by kernel_rfl) (by kernel_rfl)) (by kernel_rfl) (by kernel_rfl) (by kernel_rfl) (door_met os _)) ?_
  intro W base args ds gs before hval0 hW _ hreach hL _
  have hval : ∀ (j : Nat) t v, Tryz.f3.params[j]? = some t → args[j]? = some v → Value.okWide Tryz.prog W .any base t v := hval0
  have hW' := hW
  obtain ⟨p, q, hA0, hV, rfl, _, _⟩ := hW
  have hA : DataW.TrodAll enc Tryz.prog W 0 (fun _ => true) true [9] args.toList ds p := hA0
  obtain ⟨v0, d0, rfl, rfl, h0⟩ := trodAll_one hA
  obtain ⟨rfl, rfl⟩ := trodVars_none hV
  have w0 := each_one (t := 9) hreach
  obtain ⟨s0, r0, z0⟩ := read_text (own := fun _ => False) (hval 0 9 v0 rfl rfl) h0
  refine law_calls (avs := [.p (.str s0)]) (c_LabelParses s0 (z0 w0)) Go.Proofs.Tryz.func3 rfl rfl (globP hL) rfl (fun i x v hx hv => ?_) hW' laidOutP (by kernel_rfl) (by kernel_rfl) rfl Tryz.underlying4 rfl
  match i with
  | 0 => cases hx; cases hv; exact r0
  | i + 1 => cases hx

theorem labelParses_joined : joinedFacts Tryz.prog 3 Tryz.f3 Rows.labelParsesSpec Rows.labelParsesRow = true :=
  joined_of laidOutP rowedP labelParses_k10 labelParses_k11 labelParses_k12 labelParses_k13 plainKeysP heardP mayEnterP liftsP makeP (by kernel_rfl) (by kernel_rfl) (by kernel_rfl)

theorem labelParses_holds : Rows.LabelParsesSaid :=
  OpenClaim.holds_of_wide 3 Tryz.f3 rfl rfl rfl rfl rfl rfl rfl ⟨rfl, rfl, rfl, rfl, rfl⟩ rfl rfl rfl rfl rfl labelParses_k9 Go.Proofs.Tryz.func3 labelParses_joined
    (of_decide_eq_true (by kernel_rfl)) (by unfold Func.isWrapper; first | (rw [if_pos (by decide +kernel)]; kernel_rfl) | (rw [if_neg (by decide +kernel)]; exact ⟨rfl, rfl⟩))
    (fun os started H enc _ => labelParses_lifted os started H enc)

theorem labelParses_card : Rows.LabelParsesCardSaid :=
  Claim7.holds_tied_plain_at .later [] [.data, .data, .data, .sentinel, .sentinel, .data] true (true, "5e0eefb4a316c12276683b4a6595c2c71170ef9619c018063a3f2e44f7681f25") true
    labelParses_holds (fun _ h => by cases h) (by kernel_rfl) (fun _ h => by cases h) labelParses_row_tie rfl ⟨rfl, rfl⟩ mainIsP rfl
    (fun f fn hf hfn => by
      obtain rfl : f = 3 := Option.some.inj (labelParses_k9.symm.trans hf) |>.symm
      obtain rfl : fn = Tryz.f3 := (Option.some.inj (Go.Proofs.Tryz.func3.symm.trans hfn)).symm
      exact ⟨looksP.symm, fun j t ht => by
        have hm : t ∈ [9] := by simpa using Array.mem_of_getElem? (show (#[9] : Array TypeId)[j]? = some t from ht)
        have hall : ([9].all fun u => !Tryz.prog.wantsStandIn u) = true := by kernel_rfl
        exact (show Tryz.prog.wantsStandIn t = false by simpa using List.all_eq_true.1 hall t hm)⟩)
    labelParses_goes
#print axioms labelParses_card
end Go.Proofs.YtkofnocfackjiaaGreatDoor
