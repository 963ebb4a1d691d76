/- For every input NetlistParses returns true, and its arguments read afterwards as before; the one condition is that the listed variables hold what the row lists. -/
import Derived.Test.YtmfjjncfdpejiaaGreatDoorZCard5f
import Derived.Test.YtmfjjncfdpejiaaGreatDoorZBrid2
import Derived.Test.YtmfjjncfdpejiaaGreatDoorZNw7
set_option linter.unusedVariables false
set_option linter.unusedSimpArgs false
namespace Go.Proofs.YtmfjjncfdpejiaaGreatDoor
open Go Go.Am Go.Pn Go.ChangeShapes Go.WideShapes Go.ChangeAt Go.RowKit
theorem netlistParses_k9 : Tryz.prog.funcNamed "pneumatic/pneumaticlaw23.NetlistParses" = some 3 := by kernel_rfl
theorem netlistParses_k10 : Tryz.prog.inPlace 3 = Rows.netlistParsesRow.inPlace := by kernel_rfl
theorem netlistParses_k11 : Tryz.prog.unfollowed 3 = Rows.netlistParsesRow.unfollowed := by kernel_rfl
theorem netlistParses_k12 : Tryz.prog.recurses 3 = Rows.netlistParsesRow.recurses := by kernel_rfl
theorem netlistParses_k13 : Tryz.prog.varsNamed 3 = Rows.netlistParsesRow.named := by kernel_rfl
theorem netlistParses_goes : false = Rows.netlistParsesRow.goesBy Tryz.prog := by kernel_rfl
set_option maxRecDepth 100000 in
theorem netlistParses_lifted (os : Os) (started : os.Started) (H : Type) (enc : TypeId × Value -> H) :
   ReturnsInHanded {} Tryz.checked os 3 .any (fun w args => (Rows.netlistParsesSpec.pre enc Tryz.prog Tryz.f3 [] false w args /\ laidMetH Tryz.prog Kfv w) /\ sizedMet enc Tryz.prog Tryz.f3 (OpenSpec.ofChange Rows.netlistParsesSpec) false w args)
     (Rows.netlistParsesSpec.post enc Tryz.prog Tryz.f3 false true false false) := by
 refine returnsInHanded_of_change_and (C := Tryz.checked) (X := fun w _ => laidMetH Tryz.prog Kfv w) (fun _ _ _ hh h => h.of_heap hh) ownK started (by kernel_rfl) Go.Proofs.Tryz.func3
   (ChangeSpec.witness_shaped (enc := enc) (C := Tryz.checked) (os := os) (X := fun w _ => laidMetH Tryz.prog Kfv w) false (World.laidAll Tryz.prog os Kfv) #[.string ⟨#[]⟩] 8 (World.laidAll_os _ _ _) (World.shaped_of_ZipB (by kernel_rfl) (by kernel_rfl)) (by kernel_rfl) (by kernel_rfl) (by kernel_rfl) (door_met os _)) ?_
 intro W base args ds gs before hval0 hW _ hreach hL _
 have hval : ∀ (j : Nat) t v, Tryz.f3.params[j]? = some t -> args[j]? = some v -> Value.okWide Tryz.prog W .any base t v := hval0
 have hW' := hW
 obtain ⟨p, q, hA0, hV, rfl, _, _⟩ := hW
 have hA : DataW.TrodAll enc Tryz.prog W 0 (fun _ => true) true [9] args.toList ds p := hA0
 obtain ⟨v0, d0, rfl, rfl, h0⟩ := trodAll_one hA
 obtain ⟨rfl, rfl⟩ := trodVars_none hV
 have w0 := Kfp (t := 9) hreach
 obtain ⟨s0, r0, z0⟩ := Kf6 (own := fun _ => False) (hval 0 9 v0 rfl rfl) h0
 refine J76 (avs := [.p (.str s0)]) (Kfj s0 (z0 w0)) Go.Proofs.Tryz.func3 rfl rfl (Kfr hL) rfl (fun i x v hx hv => ?_) hW' laidOutP (by kernel_rfl) (by kernel_rfl) rfl Tryz.underlying4 rfl
 match i with
 | 0 => cases hx; cases hv; exact r0
 | i + 1 => cases hx
theorem netlistParses_joined : joinedFacts Tryz.prog 3 Tryz.f3 Rows.netlistParsesSpec Rows.netlistParsesRow = true :=
 Kfu laidOutP Kga netlistParses_k10 netlistParses_k11 netlistParses_k12 netlistParses_k13 Kf3 Kft Kf2 Kfx Kf1 (by kernel_rfl) (by kernel_rfl) (by kernel_rfl)
theorem netlistParses_holds : Rows.NetlistParsesSaid :=
 OpenClaim.holds_of_wide 3 Tryz.f3 rfl rfl rfl rfl rfl rfl rfl ⟨rfl, rfl, rfl, rfl, rfl⟩ rfl rfl rfl rfl rfl netlistParses_k9 Go.Proofs.Tryz.func3 netlistParses_joined
   (of_decide_eq_true (by kernel_rfl)) (by unfold Func.isWrapper; first | (rw [if_pos (by decide +kernel)]; kernel_rfl) | (rw [if_neg (by decide +kernel)]; exact ⟨rfl, rfl⟩))
   (fun os started H enc _ => netlistParses_lifted os started H enc)
theorem netlistParses_card : Rows.NetlistParsesCardSaid :=
 Claim7.holds_tied_plain_at .later [] [.data, .data, .data, .sentinel, .sentinel, .data] true (true, "d706d9b092086e3714bce1edafacee044936f05f64434f028ef86f1ab378c0e0") true
   netlistParses_holds (fun _ h => by cases h) (by kernel_rfl) (fun _ h => by cases h) netlistParses_row_tie rfl ⟨rfl, rfl⟩ Kf0 rfl
   (fun f fn hf hfn => by
     obtain rfl : f = 3 := Option.some.inj (netlistParses_k9.symm.trans hf) |>.symm
     obtain rfl : fn = Tryz.f3 := (Option.some.inj (Go.Proofs.Tryz.func3.symm.trans hfn)).symm
     exact ⟨Kfz.symm, fun j t ht => by
       have hm : t ∈ [9] := by simpa using Array.mem_of_getElem? (show (#[9] : Array TypeId)[j]? = some t from ht)
       have hall : ([9].all fun u => !Tryz.prog.wantsStandIn u) = true := by kernel_rfl
       exact (show Tryz.prog.wantsStandIn t = false by simpa using List.all_eq_true.1 hall t hm)⟩)
   netlistParses_goes
#print axioms netlistParses_card
end Go.Proofs.YtmfjjncfdpejiaaGreatDoor
