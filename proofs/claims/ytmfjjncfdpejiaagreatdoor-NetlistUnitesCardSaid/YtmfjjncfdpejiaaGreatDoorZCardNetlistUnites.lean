/- For every input NetlistUnites returns true, and its arguments read afterwards as before; the one condition is that the listed variables hold what the row lists. -/
import Derived.Test.YtmfjjncfdpejiaaGreatDoorZCard5f
import Derived.Test.YtmfjjncfdpejiaaGreatDoorZBrid2
import Derived.Test.YtmfjjncfdpejiaaGreatDoorZNw6
set_option linter.unusedVariables false
set_option linter.unusedSimpArgs false
namespace Go.Proofs.YtmfjjncfdpejiaaGreatDoor
open Go Go.Am Go.Pn Go.ChangeShapes Go.WideShapes Go.ChangeAt Go.RowKit
theorem netlistUnites_k9 : Tryz.prog.funcNamed "pneumatic/pneumaticlaw23.NetlistUnites" = some 6 := by kernel_rfl
theorem netlistUnites_k10 : Tryz.prog.inPlace 6 = Rows.netlistUnitesRow.inPlace := by kernel_rfl
theorem netlistUnites_k11 : Tryz.prog.unfollowed 6 = Rows.netlistUnitesRow.unfollowed := by kernel_rfl
theorem netlistUnites_k12 : Tryz.prog.recurses 6 = Rows.netlistUnitesRow.recurses := by kernel_rfl
theorem netlistUnites_k13 : Tryz.prog.varsNamed 6 = Rows.netlistUnitesRow.named := by kernel_rfl
theorem netlistUnites_goes : false = Rows.netlistUnitesRow.goesBy Tryz.prog := by kernel_rfl
set_option maxRecDepth 100000 in
theorem netlistUnites_lifted (os : Os) (started : os.Started) (H : Type) (enc : TypeId × Value -> H) :
   ReturnsInHanded {} Tryz.checked os 6 .any (fun w args => (Rows.netlistUnitesSpec.pre enc Tryz.prog Tryz.f6 [] false w args /\ laidMetH Tryz.prog Kfq w) /\ sizedMet enc Tryz.prog Tryz.f6 (OpenSpec.ofChange Rows.netlistUnitesSpec) false w args)
     (Rows.netlistUnitesSpec.post enc Tryz.prog Tryz.f6 false true false false) := by
 refine returnsInHanded_of_change_and (C := Tryz.checked) (X := fun w _ => laidMetH Tryz.prog Kfq w) (fun _ _ _ hh h => h.of_heap hh) ownK started (by kernel_rfl) Go.Proofs.Tryz.func6
   (ChangeSpec.witness_shaped (enc := enc) (C := Tryz.checked) (os := os) (X := fun w _ => laidMetH Tryz.prog Kfq w) false (World.laidAll Tryz.prog os Kfq) #[.agg #[.slice none 0 0, .slice none 0 0], .agg #[.slice none 0 0, .slice none 0 0]] 8 (World.laidAll_os _ _ _) (World.shaped_of_ZipB (by kernel_rfl) (by kernel_rfl)) (by kernel_rfl) (by kernel_rfl) (by kernel_rfl) (door_met os _)) ?_
 intro W base args ds gs before hval0 hW _ hreach hL _
 have hval : ∀ (j : Nat) t v, Tryz.f6.params[j]? = some t -> args[j]? = some v -> Value.okWide Tryz.prog W .any base t v := hval0
 have hW' := hW
 obtain ⟨p, q, hA0, hV, rfl, _, _⟩ := hW
 have hA : DataW.TrodAll enc Tryz.prog W 0 (fun _ => true) true [27, 27] args.toList ds p := hA0
 obtain ⟨v0, v1, d0, d1, p0, p1, rfl, rfl, rfl, h0, h1⟩ := trodAll_two hA
 obtain ⟨rfl, rfl⟩ := trodVars_none hV
 obtain ⟨w0, w1⟩ := Kfk (t := 27) (t' := 27) hreach
 obtain ⟨c0, r0, z0⟩ := Kf2 (own := fun _ => False) (fun _ h => h) (hval 0 27 v0 rfl rfl) h0
 obtain ⟨c1, r1, z1⟩ := Kf2 (own := fun _ => False) (fun _ h => h) (hval 1 27 v1 rfl rfl) h1
 refine J7y (avs := [c0.av, c1.av]) (Kfd c0 c1 (z0 w0) (z1 w1)) Go.Proofs.Tryz.func6 rfl rfl (Kfm hL) rfl (fun i x v hx hv => ?_) hW' laidOutP (by kernel_rfl) (by kernel_rfl) rfl Tryz.underlying4 rfl
 match i with
 | 0 => cases hx; cases hv; exact r0
 | 1 => cases hx; cases hv; exact r1
 | i + 2 => cases hx
theorem netlistUnites_joined : joinedFacts Tryz.prog 6 Tryz.f6 Rows.netlistUnitesSpec Rows.netlistUnitesRow = true :=
 Kfp laidOutP Kgc netlistUnites_k10 netlistUnites_k11 netlistUnites_k12 netlistUnites_k13 Kf0 Kfo Kfz Kfs Kfy (by kernel_rfl) (by kernel_rfl) (by kernel_rfl)
theorem netlistUnites_holds : Rows.NetlistUnitesSaid :=
 OpenClaim.holds_of_wide 6 Tryz.f6 rfl rfl rfl rfl rfl rfl rfl ⟨rfl, rfl, rfl, rfl, rfl⟩ rfl rfl rfl rfl rfl netlistUnites_k9 Go.Proofs.Tryz.func6 netlistUnites_joined
   (of_decide_eq_true (by kernel_rfl)) (by unfold Func.isWrapper; first | (rw [if_pos (by decide +kernel)]; kernel_rfl) | (rw [if_neg (by decide +kernel)]; exact ⟨rfl, rfl⟩))
   (fun os started H enc _ => netlistUnites_lifted os started H enc)
theorem netlistUnites_card : Rows.NetlistUnitesCardSaid :=
 Claim7.holds_tied_plain_at .later [] [.data, .data, .data, .sentinel, .sentinel, .data] true (true, "d706d9b092086e3714bce1edafacee044936f05f64434f028ef86f1ab378c0e0") true
   netlistUnites_holds (fun _ h => by cases h) (by kernel_rfl) (fun _ h => by cases h) netlistUnites_row_tie rfl ⟨rfl, rfl⟩ Kfx rfl
   (fun f fn hf hfn => by
     obtain rfl : f = 6 := Option.some.inj (netlistUnites_k9.symm.trans hf) |>.symm
     obtain rfl : fn = Tryz.f6 := (Option.some.inj (Go.Proofs.Tryz.func6.symm.trans hfn)).symm
     exact ⟨Kfw.symm, fun j t ht => by
       have hm : t ∈ [27, 27] := by simpa using Array.mem_of_getElem? (show (#[27, 27] : Array TypeId)[j]? = some t from ht)
       have hall : ([27, 27].all fun u => !Tryz.prog.wantsStandIn u) = true := by kernel_rfl
       exact (show Tryz.prog.wantsStandIn t = false by simpa using List.all_eq_true.1 hall t hm)⟩)
   netlistUnites_goes
#print axioms netlistUnites_card
end Go.Proofs.YtmfjjncfdpejiaaGreatDoor
