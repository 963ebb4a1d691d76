/- For every input TopCircuitsPrune returns true, and its arguments read afterwards as before; the one condition is that the listed variables hold what the row lists. -/
import Derived.Test.YtmfjjncfdpejiaaGreatDoorZCard5p
import Derived.Test.YtmfjjncfdpejiaaGreatDoorZBrid2
import Derived.Test.YtmfjjncfdpejiaaGreatDoorZBrid6
import Derived.Test.YtmfjjncfdpejiaaGreatDoorZNt6
set_option linter.unusedVariables false
set_option linter.unusedSimpArgs false
namespace Go.Proofs.YtmfjjncfdpejiaaGreatDoor
open Go Go.Am Go.Pn Go.ChangeShapes Go.WideShapes Go.ChangeAt Go.RowKit
theorem topCircuitsPrune_k9 : Tryz.prog.funcNamed "pneumatic/pneumatictop.TopCircuitsPrune" = some 13 := by kernel_rfl
theorem topCircuitsPrune_k10 : Tryz.prog.inPlace 13 = Rows.topCircuitsPruneRow.inPlace := by kernel_rfl
theorem topCircuitsPrune_k11 : Tryz.prog.unfollowed 13 = Rows.topCircuitsPruneRow.unfollowed := by kernel_rfl
theorem topCircuitsPrune_k12 : Tryz.prog.recurses 13 = Rows.topCircuitsPruneRow.recurses := by kernel_rfl
theorem topCircuitsPrune_k13 : Tryz.prog.varsNamed 13 = Rows.topCircuitsPruneRow.named := by kernel_rfl
theorem topCircuitsPrune_goes : false = Rows.topCircuitsPruneRow.goesBy Tryz.prog := by kernel_rfl
set_option maxRecDepth 100000 in
theorem topCircuitsPrune_lifted (os : Os) (started : os.Started) (H : Type) (enc : TypeId × Value -> H) :
   ReturnsInHanded {} Tryz.checked os 13 .any (fun w args => (Rows.topCircuitsPruneSpec.pre enc Tryz.prog Tryz.f13 [] false w args /\ laidMetH Tryz.prog Jgw w) /\ sizedMet enc Tryz.prog Tryz.f13 (OpenSpec.ofChange Rows.topCircuitsPruneSpec) false w args)
     (Rows.topCircuitsPruneSpec.post enc Tryz.prog Tryz.f13 false true false false) := by
 refine returnsInHanded_of_change_and (C := Tryz.checked) (X := fun w _ => laidMetH Tryz.prog Jgw w) (fun _ _ _ hh h => h.of_heap hh) ownK started (by kernel_rfl) Go.Proofs.Tryz.func13
   (ChangeSpec.witness_shaped (enc := enc) (C := Tryz.checked) (os := os) (X := fun w _ => laidMetH Tryz.prog Jgw w) false (World.laidAll Tryz.prog os Jgw) #[.agg #[.slice none 0 0, .slice none 0 0], .int .u8 0] 8 (World.laidAll_os _ _ _) (World.shaped_of_ZipB (by kernel_rfl) (by kernel_rfl)) (by kernel_rfl) (by kernel_rfl) (by kernel_rfl) (door_met os _)) ?_
 intro W base args ds gs before hval0 hW _ hreach hL _
 have hval : ∀ (j : Nat) t v, Tryz.f13.params[j]? = some t -> args[j]? = some v -> Value.okWide Tryz.prog W .any base t v := hval0
 have hW' := hW
 obtain ⟨p, q, hA0, hV, rfl, _, _⟩ := hW
 have hA : DataW.TrodAll enc Tryz.prog W 0 (fun _ => true) true [27, 5] args.toList ds p := hA0
 obtain ⟨v0, v1, d0, d1, p0, p1, rfl, rfl, rfl, h0, h1⟩ := trodAll_two hA
 obtain ⟨rfl, rfl⟩ := trodVars_none hV
 obtain ⟨w0, w1⟩ := J53 (t := 27) (t' := 5) hreach
 obtain ⟨c0, r0, z0⟩ := Kbw (own := fun _ => False) (fun _ h => h) (hval 0 27 v0 rfl rfl) h0
 obtain ⟨u1, r1, z1⟩ := Kbz (own := fun _ => False) (hval 1 5 v1 rfl rfl) h1
 refine J76 (avs := [c0.av, (.p (.int .u8 u1))]) (J2u c0 u1 (z0 w0) (z1 w1)) Go.Proofs.Tryz.func13 rfl rfl (J64 hL) rfl (fun i x v hx hv => ?_) hW' laidOutP (by kernel_rfl) (by kernel_rfl) rfl Tryz.underlying4 rfl
 match i with
 | 0 => cases hx; cases hv; exact r0
 | 1 => cases hx; cases hv; exact r1
 | i + 2 => cases hx
theorem topCircuitsPrune_joined : joinedFacts Tryz.prog 13 Tryz.f13 Rows.topCircuitsPruneSpec Rows.topCircuitsPruneRow = true :=
 J7u laidOutP Kca topCircuitsPrune_k10 topCircuitsPrune_k11 topCircuitsPrune_k12 topCircuitsPrune_k13 Kbc J7d J8i J79 J8e (by kernel_rfl) (by kernel_rfl) (by kernel_rfl)
theorem topCircuitsPrune_holds : Rows.TopCircuitsPruneSaid :=
 OpenClaim.holds_of_wide 13 Tryz.f13 rfl rfl rfl rfl rfl rfl rfl ⟨rfl, rfl, rfl, rfl, rfl⟩ rfl rfl rfl rfl rfl topCircuitsPrune_k9 Go.Proofs.Tryz.func13 topCircuitsPrune_joined
   (of_decide_eq_true (by kernel_rfl)) (by unfold Func.isWrapper; first | (rw [if_pos (by decide +kernel)]; kernel_rfl) | (rw [if_neg (by decide +kernel)]; exact ⟨rfl, rfl⟩))
   (fun os started H enc _ => topCircuitsPrune_lifted os started H enc)
theorem topCircuitsPrune_card : Rows.TopCircuitsPruneCardSaid :=
 Claim7.holds_tied_plain_at .later [] [.data, .data, .data, .sentinel, .sentinel, .data] true (true, "d706d9b092086e3714bce1edafacee044936f05f64434f028ef86f1ab378c0e0") true
   topCircuitsPrune_holds (fun _ h => by cases h) (by kernel_rfl) (fun _ h => by cases h) topCircuitsPrune_row_tie rfl ⟨rfl, rfl⟩ J8d rfl
   (fun f fn hf hfn => by
     obtain rfl : f = 13 := Option.some.inj (topCircuitsPrune_k9.symm.trans hf) |>.symm
     obtain rfl : fn = Tryz.f13 := (Option.some.inj (Go.Proofs.Tryz.func13.symm.trans hfn)).symm
     exact ⟨J8c.symm, fun j t ht => by
       have hm : t ∈ [27, 5] := by simpa using Array.mem_of_getElem? (show (#[27, 5] : Array TypeId)[j]? = some t from ht)
       have hall : ([27, 5].all fun u => !Tryz.prog.wantsStandIn u) = true := by kernel_rfl
       exact (show Tryz.prog.wantsStandIn t = false by simpa using List.all_eq_true.1 hall t hm)⟩)
   topCircuitsPrune_goes
#print axioms topCircuitsPrune_card
end Go.Proofs.YtmfjjncfdpejiaaGreatDoor
