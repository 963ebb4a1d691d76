/- For every input NetlistRenames returns true, and its arguments read afterwards as before; the one condition is that the listed variables hold what the row lists. -/
import Derived.Test.YtmfjjncfdpejiaaGreatDoorZCard5f
import Derived.Test.YtmfjjncfdpejiaaGreatDoorZBrid2
import Derived.Test.YtmfjjncfdpejiaaGreatDoorZNw5
set_option linter.unusedVariables false
set_option linter.unusedSimpArgs false
namespace Go.Proofs.YtmfjjncfdpejiaaGreatDoor
open Go Go.Am Go.Pn Go.ChangeShapes Go.WideShapes Go.ChangeAt Go.RowKit
theorem netlistRenames_k9 : Tryz.prog.funcNamed "pneumatic/pneumaticlaw23.NetlistRenames" = some 4 := by kernel_rfl
theorem netlistRenames_k10 : Tryz.prog.inPlace 4 = Rows.netlistRenamesRow.inPlace := by kernel_rfl
theorem netlistRenames_k11 : Tryz.prog.unfollowed 4 = Rows.netlistRenamesRow.unfollowed := by kernel_rfl
theorem netlistRenames_k12 : Tryz.prog.recurses 4 = Rows.netlistRenamesRow.recurses := by kernel_rfl
theorem netlistRenames_k13 : Tryz.prog.varsNamed 4 = Rows.netlistRenamesRow.named := by kernel_rfl
theorem netlistRenames_goes : false = Rows.netlistRenamesRow.goesBy Tryz.prog := by kernel_rfl
set_option maxRecDepth 100000 in
theorem netlistRenames_lifted (os : Os) (started : os.Started) (H : Type) (enc : TypeId × Value -> H) :
   ReturnsInHanded {} Tryz.checked os 4 .any (fun w args => (Rows.netlistRenamesSpec.pre enc Tryz.prog Tryz.f4 [] false w args /\ laidMetH Tryz.prog Kew w) /\ sizedMet enc Tryz.prog Tryz.f4 (OpenSpec.ofChange Rows.netlistRenamesSpec) false w args)
     (Rows.netlistRenamesSpec.post enc Tryz.prog Tryz.f4 false true false false) := by
 refine returnsInHanded_of_change_and (C := Tryz.checked) (X := fun w _ => laidMetH Tryz.prog Kew w) (fun _ _ _ hh h => h.of_heap hh) ownK started (by kernel_rfl) Go.Proofs.Tryz.func4
   (ChangeSpec.witness_shaped (enc := enc) (C := Tryz.checked) (os := os) (X := fun w _ => laidMetH Tryz.prog Kew w) false (World.laidAll Tryz.prog os Kew) #[.agg #[.slice none 0 0, .slice none 0 0], .string ⟨#[]⟩, .string ⟨#[]⟩] 8 (World.laidAll_os _ _ _) (World.shaped_of_ZipB (by kernel_rfl) (by kernel_rfl)) (by kernel_rfl) (by kernel_rfl) (by kernel_rfl) (door_met os _)) ?_
 intro W base args ds gs before hval0 hW _ hreach hL _
 have hval : ∀ (j : Nat) t v, Tryz.f4.params[j]? = some t -> args[j]? = some v -> Value.okWide Tryz.prog W .any base t v := hval0
 have hW' := hW
 obtain ⟨p, q, hA0, hV, rfl, _, _⟩ := hW
 have hA : DataW.TrodAll enc Tryz.prog W 0 (fun _ => true) true [27, 9, 9] args.toList ds p := hA0
 obtain ⟨v0, v1, v2, d0, d1, d2, p0, p1, p2, rfl, rfl, rfl, h0, h1, h2⟩ := trodAll_three hA
 obtain ⟨rfl, rfl⟩ := trodVars_none hV
 obtain ⟨w0, w1, w2⟩ := Keq (t := 27) (t' := 9) (t'' := 9) hreach
 obtain ⟨c0, r0, z0⟩ := Kfa (own := fun _ => False) (fun _ h => h) (hval 0 27 v0 rfl rfl) h0
 obtain ⟨s1, r1, z1⟩ := Kfh (own := fun _ => False) (hval 1 9 v1 rfl rfl) h1
 obtain ⟨s2, r2, z2⟩ := Kfh (own := fun _ => False) (hval 2 9 v2 rfl rfl) h2
 refine J64 (avs := [c0.av, .p (.str s1), .p (.str s2)]) (Kej c0 s1 s2 (z0 w0) (z1 w1) (z2 w2)) Go.Proofs.Tryz.func4 rfl rfl (Kes hL) rfl (fun i x v hx hv => ?_) hW' laidOutP (by kernel_rfl) (by kernel_rfl) rfl Tryz.underlying4 rfl
 match i with
 | 0 => cases hx; cases hv; exact r0
 | 1 => cases hx; cases hv; exact r1
 | 2 => cases hx; cases hv; exact r2
 | i + 3 => cases hx
theorem netlistRenames_joined : joinedFacts Tryz.prog 4 Tryz.f4 Rows.netlistRenamesSpec Rows.netlistRenamesRow = true :=
 Kev laidOutP Kfl netlistRenames_k10 netlistRenames_k11 netlistRenames_k12 netlistRenames_k13 Ke7 Keu Ke6 Kez Ke5 (by kernel_rfl) (by kernel_rfl) (by kernel_rfl)
theorem netlistRenames_holds : Rows.NetlistRenamesSaid :=
 OpenClaim.holds_of_wide 4 Tryz.f4 rfl rfl rfl rfl rfl rfl rfl ⟨rfl, rfl, rfl, rfl, rfl⟩ rfl rfl rfl rfl rfl netlistRenames_k9 Go.Proofs.Tryz.func4 netlistRenames_joined
   (of_decide_eq_true (by kernel_rfl)) (by unfold Func.isWrapper; first | (rw [if_pos (by decide +kernel)]; kernel_rfl) | (rw [if_neg (by decide +kernel)]; exact ⟨rfl, rfl⟩))
   (fun os started H enc _ => netlistRenames_lifted os started H enc)
theorem netlistRenames_card : Rows.NetlistRenamesCardSaid :=
 Claim7.holds_tied_plain_at .later [] [.data, .data, .data, .sentinel, .sentinel, .data] true (true, "d706d9b092086e3714bce1edafacee044936f05f64434f028ef86f1ab378c0e0") true
   netlistRenames_holds (fun _ h => by cases h) (by kernel_rfl) (fun _ h => by cases h) netlistRenames_row_tie rfl ⟨rfl, rfl⟩ Ke4 rfl
   (fun f fn hf hfn => by
     obtain rfl : f = 4 := Option.some.inj (netlistRenames_k9.symm.trans hf) |>.symm
     obtain rfl : fn = Tryz.f4 := (Option.some.inj (Go.Proofs.Tryz.func4.symm.trans hfn)).symm
     exact ⟨Ke3.symm, fun j t ht => by
       have hm : t ∈ [27, 9, 9] := by simpa using Array.mem_of_getElem? (show (#[27, 9, 9] : Array TypeId)[j]? = some t from ht)
       have hall : ([27, 9, 9].all fun u => !Tryz.prog.wantsStandIn u) = true := by kernel_rfl
       exact (show Tryz.prog.wantsStandIn t = false by simpa using List.all_eq_true.1 hall t hm)⟩)
   netlistRenames_goes
#print axioms netlistRenames_card
end Go.Proofs.YtmfjjncfdpejiaaGreatDoor
