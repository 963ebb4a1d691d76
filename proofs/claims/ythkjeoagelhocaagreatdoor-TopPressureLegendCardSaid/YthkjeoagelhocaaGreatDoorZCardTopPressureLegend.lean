/- For every input TopPressureLegend returns true, and its arguments read afterwards as before; the one condition is that the listed variables hold what the row lists. -/
import Derived.Test.YthkjeoagelhocaaGreatDoorZCard6
import Derived.Test.YthkjeoagelhocaaGreatDoorZBrid2
import Derived.Test.YthkjeoagelhocaaGreatDoorZL1
set_option linter.unusedVariables false
set_option linter.unusedSimpArgs false
namespace Go.Proofs.YthkjeoagelhocaaGreatDoor
open Go Go.Am Go.Pn Go.ChangeShapes Go.WideShapes Go.ChangeAt Go.RowKit
theorem topPressureLegend_k9 : Tryz.prog.funcNamed "pneumatic/pneumatictop.TopPressureLegend" = some 3 := by kernel_rfl
theorem topPressureLegend_k10 : Tryz.prog.inPlace 3 = Rows.topPressureLegendRow.inPlace := by kernel_rfl
theorem topPressureLegend_k11 : Tryz.prog.unfollowed 3 = Rows.topPressureLegendRow.unfollowed := by kernel_rfl
theorem topPressureLegend_k12 : Tryz.prog.recurses 3 = Rows.topPressureLegendRow.recurses := by kernel_rfl
theorem topPressureLegend_k13 : Tryz.prog.varsNamed 3 = Rows.topPressureLegendRow.named := by kernel_rfl
theorem topPressureLegend_goes : false = Rows.topPressureLegendRow.goesBy Tryz.prog := by kernel_rfl
set_option maxRecDepth 100000 in
theorem topPressureLegend_lifted (os : Os) (started : os.Started) (H : Type) (enc : TypeId × Value -> H) :
   ReturnsInHanded {} Tryz.checked os 3 .any (fun w args => (Rows.topPressureLegendSpec.pre enc Tryz.prog Tryz.f3 [] false w args /\ laidMetH Tryz.prog Krm w) /\ sizedMet enc Tryz.prog Tryz.f3 (OpenSpec.ofChange Rows.topPressureLegendSpec) false w args)
     (Rows.topPressureLegendSpec.post enc Tryz.prog Tryz.f3 false true false false) := by
 refine returnsInHanded_of_change_and (C := Tryz.checked) (X := fun w _ => laidMetH Tryz.prog Krm w) (fun _ _ _ hh h => h.of_heap hh) ownK started (by kernel_rfl) Go.Proofs.Tryz.func3
   (ChangeSpec.witness_shaped (enc := enc) (C := Tryz.checked) (os := os) (X := fun w _ => laidMetH Tryz.prog Krm w) false (World.laidAll Tryz.prog os Krm) #[.agg #[.slice none 0 0, .slice none 0 0]] 8 (World.laidAll_os _ _ _) (World.shaped_of_ZipB (by kernel_rfl) (by kernel_rfl)) (by kernel_rfl) (by kernel_rfl) (by kernel_rfl) (door_met os _)) ?_
 intro W base args ds gs before hval0 hW _ hreach hL _
 have hval : ∀ (j : Nat) t v, Tryz.f3.params[j]? = some t -> args[j]? = some v -> Value.okWide Tryz.prog W .any base t v := hval0
 have hW' := hW
 obtain ⟨p, q, hA0, hV, rfl, _, _⟩ := hW
 have hA : DataW.TrodAll enc Tryz.prog W 0 (fun _ => true) true [25] args.toList ds p := hA0
 obtain ⟨v0, d0, rfl, rfl, h0⟩ := trodAll_one hA
 obtain ⟨rfl, rfl⟩ := trodVars_none hV
 have w0 := Krf (t := 25) hreach
 obtain ⟨c0, r0, z0⟩ := Krx (own := fun _ => False) (fun _ h => h) (hval 0 25 v0 rfl rfl) h0
 refine Kjv (avs := [c0.av]) (Kji c0 (z0 w0)) Go.Proofs.Tryz.func3 rfl rfl (Krh hL) rfl (fun i x v hx hv => ?_) hW' laidOutP (by kernel_rfl) (by kernel_rfl) rfl Tryz.underlying4 rfl
 match i with
 | 0 => cases hx; cases hv; exact r0
 | i + 1 => cases hx
theorem topPressureLegend_joined : joinedFacts Tryz.prog 3 Tryz.f3 Rows.topPressureLegendSpec Rows.topPressureLegendRow = true :=
 Krl laidOutP Kr6 topPressureLegend_k10 topPressureLegend_k11 topPressureLegend_k12 topPressureLegend_k13 Krw Krk Krv Kro Kru (by kernel_rfl) (by kernel_rfl) (by kernel_rfl)
theorem topPressureLegend_holds : Rows.TopPressureLegendSaid :=
 OpenClaim.holds_of_wide 3 Tryz.f3 rfl rfl rfl rfl rfl rfl rfl ⟨rfl, rfl, rfl, rfl, rfl⟩ rfl rfl rfl rfl rfl topPressureLegend_k9 Go.Proofs.Tryz.func3 topPressureLegend_joined
   (of_decide_eq_true (by kernel_rfl)) (by unfold Func.isWrapper; first | (rw [if_pos (by decide +kernel)]; kernel_rfl) | (rw [if_neg (by decide +kernel)]; exact ⟨rfl, rfl⟩))
   (fun os started H enc _ => topPressureLegend_lifted os started H enc)
theorem topPressureLegend_card : Rows.TopPressureLegendCardSaid :=
 Claim7.holds_tied_plain_at .later [] [.data, .data, .data, .data, .sentinel, .sentinel, .data, .pinned] true (true, "c7414661c559602cec66dbfa3eba74e7d728c5a1d83bfdc81187772e773527ff") true
   topPressureLegend_holds (fun _ h => by cases h) (by kernel_rfl) (fun _ h => by cases h) topPressureLegend_row_tie rfl ⟨rfl, rfl⟩ Krt rfl
   (fun f fn hf hfn => by
     obtain rfl : f = 3 := Option.some.inj (topPressureLegend_k9.symm.trans hf) |>.symm
     obtain rfl : fn = Tryz.f3 := (Option.some.inj (Go.Proofs.Tryz.func3.symm.trans hfn)).symm
     exact ⟨Krs.symm, fun j t ht => by
       have hm : t ∈ [25] := by simpa using Array.mem_of_getElem? (show (#[25] : Array TypeId)[j]? = some t from ht)
       have hall : ([25].all fun u => !Tryz.prog.wantsStandIn u) = true := by kernel_rfl
       exact (show Tryz.prog.wantsStandIn t = false by simpa using List.all_eq_true.1 hall t hm)⟩)
   topPressureLegend_goes
#print axioms topPressureLegend_card
end Go.Proofs.YthkjeoagelhocaaGreatDoor
