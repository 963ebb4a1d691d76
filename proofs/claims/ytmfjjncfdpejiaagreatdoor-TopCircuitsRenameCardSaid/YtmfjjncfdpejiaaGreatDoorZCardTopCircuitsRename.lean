/- For every input TopCircuitsRename returns true, and its arguments read afterwards as before; the one condition is that the listed variables hold what the row lists. -/
import Derived.Test.YtmfjjncfdpejiaaGreatDoorZCard5r
import Derived.Test.YtmfjjncfdpejiaaGreatDoorZBrid2
import Derived.Test.YtmfjjncfdpejiaaGreatDoorZNt5
set_option linter.unusedVariables false
set_option linter.unusedSimpArgs false
namespace Go.Proofs.YtmfjjncfdpejiaaGreatDoor
open Go Go.Am Go.Pn Go.ChangeShapes Go.WideShapes Go.ChangeAt Go.RowKit
theorem topCircuitsRename_k9 : Tryz.prog.funcNamed "pneumatic/pneumatictop.TopCircuitsRename" = some 14 := by kernel_rfl
theorem topCircuitsRename_k10 : Tryz.prog.inPlace 14 = Rows.topCircuitsRenameRow.inPlace := by kernel_rfl
theorem topCircuitsRename_k11 : Tryz.prog.unfollowed 14 = Rows.topCircuitsRenameRow.unfollowed := by kernel_rfl
theorem topCircuitsRename_k12 : Tryz.prog.recurses 14 = Rows.topCircuitsRenameRow.recurses := by kernel_rfl
theorem topCircuitsRename_k13 : Tryz.prog.varsNamed 14 = Rows.topCircuitsRenameRow.named := by kernel_rfl
theorem topCircuitsRename_goes : false = Rows.topCircuitsRenameRow.goesBy Tryz.prog := by kernel_rfl
set_option maxRecDepth 100000 in
theorem topCircuitsRename_lifted (os : Os) (started : os.Started) (H : Type) (enc : TypeId × Value -> H) :
   ReturnsInHanded {} Tryz.checked os 14 .any (fun w args => (Rows.topCircuitsRenameSpec.pre enc Tryz.prog Tryz.f14 [] false w args /\ laidMetH Tryz.prog Kjp w) /\ sizedMet enc Tryz.prog Tryz.f14 (OpenSpec.ofChange Rows.topCircuitsRenameSpec) false w args)
     (Rows.topCircuitsRenameSpec.post enc Tryz.prog Tryz.f14 false true false false) := by
 refine returnsInHanded_of_change_and (C := Tryz.checked) (X := fun w _ => laidMetH Tryz.prog Kjp w) (fun _ _ _ hh h => h.of_heap hh) ownK started (by kernel_rfl) Go.Proofs.Tryz.func14
   (ChangeSpec.witness_shaped (enc := enc) (C := Tryz.checked) (os := os) (X := fun w _ => laidMetH Tryz.prog Kjp w) false (World.laidAll Tryz.prog os Kjp) #[.agg #[.slice none 0 0, .slice none 0 0], .string ⟨#[]⟩, .string ⟨#[]⟩] 8 (World.laidAll_os _ _ _) (World.shaped_of_ZipB (by kernel_rfl) (by kernel_rfl)) (by kernel_rfl) (by kernel_rfl) (by kernel_rfl) (door_met os _)) ?_
 intro W base args ds gs before hval0 hW _ hreach hL _
 have hval : ∀ (j : Nat) t v, Tryz.f14.params[j]? = some t -> args[j]? = some v -> Value.okWide Tryz.prog W .any base t v := hval0
 have hW' := hW
 obtain ⟨p, q, hA0, hV, rfl, _, _⟩ := hW
 have hA : DataW.TrodAll enc Tryz.prog W 0 (fun _ => true) true [27, 9, 9] args.toList ds p := hA0
 obtain ⟨v0, v1, v2, d0, d1, d2, p0, p1, p2, rfl, rfl, rfl, h0, h1, h2⟩ := trodAll_three hA
 obtain ⟨rfl, rfl⟩ := trodVars_none hV
 obtain ⟨w0, w1, w2⟩ := Kji (t := 27) (t' := 9) (t'' := 9) hreach
 obtain ⟨c0, r0, z0⟩ := Kj0 (own := fun _ => False) (fun _ h => h) (hval 0 27 v0 rfl rfl) h0
 obtain ⟨s1, r1, z1⟩ := Kj7 (own := fun _ => False) (hval 1 9 v1 rfl rfl) h1
 obtain ⟨s2, r2, z2⟩ := Kj7 (own := fun _ => False) (hval 2 9 v2 rfl rfl) h2
 refine Kbf (avs := [c0.av, .p (.str s1), .p (.str s2)]) (Kjc c0 s1 s2 (z0 w0) (z1 w1) (z2 w2)) Go.Proofs.Tryz.func14 rfl rfl (Kjk hL) rfl (fun i x v hx hv => ?_) hW' laidOutP (by kernel_rfl) (by kernel_rfl) rfl Tryz.underlying4 rfl
 match i with
 | 0 => cases hx; cases hv; exact r0
 | 1 => cases hx; cases hv; exact r1
 | 2 => cases hx; cases hv; exact r2
 | i + 3 => cases hx
theorem topCircuitsRename_joined : joinedFacts Tryz.prog 14 Tryz.f14 Rows.topCircuitsRenameSpec Rows.topCircuitsRenameRow = true :=
 Kjn laidOutP Kkb topCircuitsRename_k10 topCircuitsRename_k11 topCircuitsRename_k12 topCircuitsRename_k13 Kjz Kjm Kjy Kjr Kjx (by kernel_rfl) (by kernel_rfl) (by kernel_rfl)
theorem topCircuitsRename_holds : Rows.TopCircuitsRenameSaid :=
 OpenClaim.holds_of_wide 14 Tryz.f14 rfl rfl rfl rfl rfl rfl rfl ⟨rfl, rfl, rfl, rfl, rfl⟩ rfl rfl rfl rfl rfl topCircuitsRename_k9 Go.Proofs.Tryz.func14 topCircuitsRename_joined
   (of_decide_eq_true (by kernel_rfl)) (by unfold Func.isWrapper; first | (rw [if_pos (by decide +kernel)]; kernel_rfl) | (rw [if_neg (by decide +kernel)]; exact ⟨rfl, rfl⟩))
   (fun os started H enc _ => topCircuitsRename_lifted os started H enc)
theorem topCircuitsRename_card : Rows.TopCircuitsRenameCardSaid :=
 Claim7.holds_tied_plain_at .later [] [.data, .data, .data, .data, .sentinel, .sentinel, .data, .pinned] true (true, "d706d9b092086e3714bce1edafacee044936f05f64434f028ef86f1ab378c0e0") true
   topCircuitsRename_holds (fun _ h => by cases h) (by kernel_rfl) (fun _ h => by cases h) topCircuitsRename_row_tie rfl ⟨rfl, rfl⟩ Kjw rfl
   (fun f fn hf hfn => by
     obtain rfl : f = 14 := Option.some.inj (topCircuitsRename_k9.symm.trans hf) |>.symm
     obtain rfl : fn = Tryz.f14 := (Option.some.inj (Go.Proofs.Tryz.func14.symm.trans hfn)).symm
     exact ⟨Kjv.symm, fun j t ht => by
       have hm : t ∈ [27, 9, 9] := by simpa using Array.mem_of_getElem? (show (#[27, 9, 9] : Array TypeId)[j]? = some t from ht)
       have hall : ([27, 9, 9].all fun u => !Tryz.prog.wantsStandIn u) = true := by kernel_rfl
       exact (show Tryz.prog.wantsStandIn t = false by simpa using List.all_eq_true.1 hall t hm)⟩)
   topCircuitsRename_goes
#print axioms topCircuitsRename_card
end Go.Proofs.YtmfjjncfdpejiaaGreatDoor
