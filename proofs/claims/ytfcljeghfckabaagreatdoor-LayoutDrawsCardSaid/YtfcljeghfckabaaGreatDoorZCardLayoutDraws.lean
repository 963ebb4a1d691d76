/- For every input LayoutDraws returns true, and its arguments read afterwards as before; the one condition is that the listed variables hold what the row lists. -/
import Derived.Test.YtfcljeghfckabaaGreatDoorZCard25c
import Derived.Test.YtfcljeghfckabaaGreatDoorZLaw25g
set_option linter.unusedVariables false
set_option linter.unusedSimpArgs false
namespace Go.Proofs.YtfcljeghfckabaaGreatDoor
open Go Go.Am Go.Pn Go.ChangeShapes Go.WideShapes Go.ChangeAt Go.RowKit

theorem layoutDraws_k9 : Tryz.prog.funcNamed "pneumatic/pneumaticlaw25.LayoutDraws" = some 9 := by kernel_rfl
theorem layoutDraws_k10 : Tryz.prog.inPlace 9 = Rows.layoutDrawsRow.inPlace := by kernel_rfl
theorem layoutDraws_k11 : Tryz.prog.unfollowed 9 = Rows.layoutDrawsRow.unfollowed := by kernel_rfl
theorem layoutDraws_k12 : Tryz.prog.recurses 9 = Rows.layoutDrawsRow.recurses := by kernel_rfl
theorem layoutDraws_k13 : Tryz.prog.varsNamed 9 = Rows.layoutDrawsRow.named := by kernel_rfl
theorem layoutDraws_goes : false = Rows.layoutDrawsRow.goesBy Tryz.prog := by kernel_rfl

set_option maxRecDepth 100000 in
theorem layoutDraws_lifted (os : Os) (started : os.Started) (H : Type) (enc : TypeId × Value → H) :
    ReturnsInHanded {} Tryz.checked os 9 .any (fun w args => (Rows.layoutDrawsSpec.pre enc Tryz.prog Tryz.f9 [] false w args ∧ laidMetH Tryz.prog laidL w) ∧ sizedMet enc Tryz.prog Tryz.f9 (OpenSpec.ofChange Rows.layoutDrawsSpec) false w args)
      (Rows.layoutDrawsSpec.post enc Tryz.prog Tryz.f9 false true false false) := by
  refine returnsInHanded_of_change_and (C := Tryz.checked) (X := fun w _ => laidMetH Tryz.prog laidL w) (fun _ _ _ hh h => h.of_heap hh) ownK started (by kernel_rfl) Go.Proofs.Tryz.func9
    (ChangeSpec.witness_shaped (enc := enc) (C := Tryz.checked) (os := os) (X := fun w _ => laidMetH Tryz.prog laidL w) false (World.laidAll Tryz.prog os laidL) #[.agg #[.slice none 0 0, .slice none 0 0], .slice none 0 0, .slice none 0 0] 8 (World.laidAll_os _ _ _) (World.shaped_of_ZipB (by kernel_rfl) (by kernel_rfl)) (by kernel_rfl) (by kernel_rfl) (by kernel_rfl) (door_met os _)) ?_
  intro W base args ds gs before hval0 hW _ hreach hL _
  have hval : ∀ (j : Nat) t v, Tryz.f9.params[j]? = some t → args[j]? = some v → Value.okWide Tryz.prog W .any base t v := hval0
  have hW' := hW
  obtain ⟨p, q, hA0, hV, rfl, _, _⟩ := hW
  have hA : DataW.TrodAll enc Tryz.prog W 0 (fun _ => true) true [25, 26, 55] args.toList ds p := hA0
  obtain ⟨v0, v1, v2, d0, d1, d2, p0, p1, p2, rfl, rfl, rfl, h0, h1, h2⟩ := trodAll_three hA
  obtain ⟨rfl, rfl⟩ := trodVars_none hV
  obtain ⟨w0, w1, w2⟩ := each_three (t := 25) (t' := 26) (t'' := 55) hreach
  obtain ⟨c0, r0, z0⟩ := read_circuit (own := fun _ => False) (fun _ h => h) (hval 0 25 v0 rfl rfl) h0
  obtain ⟨l1, r1, z1⟩ := read_places (own := fun _ => False) (fun _ h => h) (hval 1 26 v1 rfl rfl) h1
  obtain ⟨t2, r2, z2⟩ := read_lines (own := fun _ => False) (fun _ h => h) (hval 2 55 v2 rfl rfl) h2
  refine law_calls (avs := [c0.av, (.p (.lst 2 (l1.map Plc.enc))), (.p (.lst 1 (t2.map Txt.enc)))]) (c_pneumaticlaw25_LayoutDraws c0 l1 t2 (z0 w0) (z1 w1) (z2 w2)) Go.Proofs.Tryz.func9 rfl rfl (globP3 hL) rfl (fun i x v hx hv => ?_) hW' laidOutP (by kernel_rfl) (by kernel_rfl) rfl Tryz.underlying4 rfl
  match i with
  | 0 => cases hx; cases hv; exact r0
  | 1 => cases hx; cases hv; exact r1
  | 2 => cases hx; cases hv; exact r2
  | i + 3 => cases hx

theorem layoutDraws_joined : joinedFacts Tryz.prog 9 Tryz.f9 Rows.layoutDrawsSpec Rows.layoutDrawsRow = true :=
  joined_of laidOutP rowedP layoutDraws_k10 layoutDraws_k11 layoutDraws_k12 layoutDraws_k13 plainKeysP heardP mayEnterP liftsP makeP (by kernel_rfl) (by kernel_rfl) (by kernel_rfl)

theorem layoutDraws_holds : Rows.LayoutDrawsSaid :=
  OpenClaim.holds_of_wide 9 Tryz.f9 rfl rfl rfl rfl rfl rfl rfl ⟨rfl, rfl, rfl, rfl, rfl⟩ rfl rfl rfl rfl rfl layoutDraws_k9 Go.Proofs.Tryz.func9 layoutDraws_joined
    (of_decide_eq_true (by kernel_rfl)) (by unfold Func.isWrapper; first | (rw [if_pos (by decide +kernel)]; kernel_rfl) | (rw [if_neg (by decide +kernel)]; exact ⟨rfl, rfl⟩))
    (fun os started H enc _ => layoutDraws_lifted os started H enc)

theorem layoutDraws_card : Rows.LayoutDrawsCardSaid :=
  Claim7.holds_tied_plain_at .later [] [.data, .listed, .data, .data, .pinned] true (true, "492bca6397630fa383ad1f4abe2d5e1dcaad43cc81c6449b378c0fb129101a3b") false
    layoutDraws_holds (fun _ h => by cases h) (by kernel_rfl) (fun _ h => by cases h) layoutDraws_row_tie rfl ⟨rfl, rfl⟩ mainIsP rfl
    (fun f fn hf hfn => by
      obtain rfl : f = 9 := Option.some.inj (layoutDraws_k9.symm.trans hf) |>.symm
      obtain rfl : fn = Tryz.f9 := (Option.some.inj (Go.Proofs.Tryz.func9.symm.trans hfn)).symm
      exact ⟨looksP.symm, fun j t ht => by
        have hm : t ∈ [25, 26, 55] := by simpa using Array.mem_of_getElem? (show (#[25, 26, 55] : Array TypeId)[j]? = some t from ht)
        have hall : ([25, 26, 55].all fun u => !Tryz.prog.wantsStandIn u) = true := by kernel_rfl
        exact (show Tryz.prog.wantsStandIn t = false by simpa using List.all_eq_true.1 hall t hm)⟩)
    layoutDraws_goes
#print axioms layoutDraws_card
end Go.Proofs.YtfcljeghfckabaaGreatDoor
