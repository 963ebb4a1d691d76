/- For every input TopRunsWords returns true, and its arguments read afterwards as before; the one condition is that the listed variables hold what the row lists. -/
import Derived.Test.YthojegdboknbbaaGreatDoorZCard7
set_option linter.unusedVariables false
set_option linter.unusedSimpArgs false
namespace Go.Proofs.YthojegdboknbbaaGreatDoor
open Go Go.Am Go.Pn Go.ChangeShapes Go.WideShapes Go.ChangeAt Go.RowKit
theorem topRunsWords_k9 : Tryz.prog.funcNamed "pneumatic/pneumatictop.TopRunsWords" = some 3 := by kernel_rfl
theorem topRunsWords_k10 : Tryz.prog.inPlace 3 = Rows.topRunsWordsRow.inPlace := by kernel_rfl
theorem topRunsWords_k11 : Tryz.prog.unfollowed 3 = Rows.topRunsWordsRow.unfollowed := by kernel_rfl
theorem topRunsWords_k12 : Tryz.prog.recurses 3 = Rows.topRunsWordsRow.recurses := by kernel_rfl
theorem topRunsWords_k13 : Tryz.prog.varsNamed 3 = Rows.topRunsWordsRow.named := by kernel_rfl
theorem topRunsWords_goes : false = Rows.topRunsWordsRow.goesBy Tryz.prog := by kernel_rfl
set_option maxRecDepth 100000 in
theorem topRunsWords_lifted (os : Os) (started : os.Started) (H : Type) (enc : TypeId × Value -> H) :
   ReturnsInHanded {} Tryz.checked os 3 .any (fun w args => (Rows.topRunsWordsSpec.pre enc Tryz.prog Tryz.f3 [] false w args /\ laidMetH Tryz.prog Kbf w) /\ sizedMet enc Tryz.prog Tryz.f3 (OpenSpec.ofChange Rows.topRunsWordsSpec) false w args)
     (Rows.topRunsWordsSpec.post enc Tryz.prog Tryz.f3 false true false false) := by
 refine returnsInHanded_of_change_and (C := Tryz.checked) (X := fun w _ => laidMetH Tryz.prog Kbf w) (fun _ _ _ hh h => h.of_heap hh) ownK started (by kernel_rfl) Go.Proofs.Tryz.func3
   (ChangeSpec.witness_shaped (enc := enc) (C := Tryz.checked) (os := os) (X := fun w _ => laidMetH Tryz.prog Kbf w) false (World.laidAll Tryz.prog os Kbf) #[.agg #[.int .i64 0, .slice none 0 0, .slice none 0 0, .slice none 0 0, .slice none 0 0], .slice none 0 0] 8 (World.laidAll_os _ _ _) (World.shaped_of_ZipB (by kernel_rfl) (by kernel_rfl)) (by kernel_rfl) (by kernel_rfl) (by kernel_rfl) (door_met os _)) ?_
 intro W base args ds gs before hval0 hW _ hreach hL _
 have hval : ∀ (j : Nat) t v, Tryz.f3.params[j]? = some t -> args[j]? = some v -> Value.okWide Tryz.prog W .any base t v := hval0
 have hW' := hW
 obtain ⟨p, q, hA0, hV, rfl, _, _⟩ := hW
 have hA : DataW.TrodAll enc Tryz.prog W 0 (fun _ => true) true [26, 27] args.toList ds p := hA0
 obtain ⟨v0, v1, d0, d1, p0, p1, rfl, rfl, rfl, h0, h1⟩ := trodAll_two hA
 obtain ⟨rfl, rfl⟩ := trodVars_none hV
 obtain ⟨w0, w1⟩ := Kbb (t := 26) (t' := 27) hreach
 obtain ⟨c0, r0, z0⟩ := Kbr (own := fun _ => False) (fun _ h => h) (hval 0 26 v0 rfl rfl) h0
 obtain ⟨l1, r1⟩ := Kbs (own := fun _ => False) (fun _ h => h) (hval 1 27 v1 rfl rfl) h1
 refine J4j (avs := [c0.av, .p (.lst 3 (l1.map Evt.enc))]) (J39 c0 l1 (z0 w0)) Go.Proofs.Tryz.func3 rfl rfl Kbc rfl (fun i x v hx hv => ?_) hW' laidOutP (by kernel_rfl) (by kernel_rfl) rfl Tryz.underlying4 rfl
 match i with
 | 0 => cases hx; cases hv; exact r0
 | 1 => cases hx; cases hv; exact r1
 | i + 2 => cases hx
theorem topRunsWords_joined : joinedFacts Tryz.prog 3 Tryz.f3 Rows.topRunsWordsSpec Rows.topRunsWordsRow = true :=
 Kbe laidOutP Kbw topRunsWords_k10 topRunsWords_k11 topRunsWords_k12 topRunsWords_k13 Kbq Kbd Kbo Kbg Kbn (by kernel_rfl) (by kernel_rfl) (by kernel_rfl)
theorem topRunsWords_holds : Rows.TopRunsWordsSaid :=
 OpenClaim.holds_of_wide 3 Tryz.f3 rfl rfl rfl rfl rfl rfl rfl ⟨rfl, rfl, rfl, rfl, rfl⟩ rfl rfl rfl rfl rfl topRunsWords_k9 Go.Proofs.Tryz.func3 topRunsWords_joined
   (of_decide_eq_true (by kernel_rfl)) (by unfold Func.isWrapper; first | (rw [if_pos (by decide +kernel)]; kernel_rfl) | (rw [if_neg (by decide +kernel)]; exact ⟨rfl, rfl⟩))
   (fun os started H enc _ => topRunsWords_lifted os started H enc)
theorem topRunsWords_card : Rows.TopRunsWordsCardSaid :=
 Claim7.holds_tied_plain_at .later [] [.data, .data, .data] true (true, "34bdde82e88dd1481853784e6092e463142c9cb1df05c417dc301f770997572a") false
   topRunsWords_holds (fun _ h => by cases h) (by kernel_rfl) (fun _ h => by cases h) topRunsWords_row_tie rfl ⟨rfl, rfl⟩ Kbm rfl
   (fun f fn hf hfn => by
     obtain rfl : f = 3 := Option.some.inj (topRunsWords_k9.symm.trans hf) |>.symm
     obtain rfl : fn = Tryz.f3 := (Option.some.inj (Go.Proofs.Tryz.func3.symm.trans hfn)).symm
     exact ⟨Kbl.symm, fun j t ht => by
       have hm : t ∈ [26, 27] := by simpa using Array.mem_of_getElem? (show (#[26, 27] : Array TypeId)[j]? = some t from ht)
       have hall : ([26, 27].all fun u => !Tryz.prog.wantsStandIn u) = true := by kernel_rfl
       exact (show Tryz.prog.wantsStandIn t = false by simpa using List.all_eq_true.1 hall t hm)⟩)
   topRunsWords_goes
#print axioms topRunsWords_card
end Go.Proofs.YthojegdboknbbaaGreatDoor
