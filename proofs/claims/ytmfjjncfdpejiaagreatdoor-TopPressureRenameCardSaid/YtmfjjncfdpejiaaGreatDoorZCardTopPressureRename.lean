/- For every input TopPressureRename returns true, and its arguments read afterwards as before; the one condition is that the listed variables hold what the row lists. -/
import Derived.Test.YtmfjjncfdpejiaaGreatDoorZCard5t
import Derived.Test.YtmfjjncfdpejiaaGreatDoorZBrid2
import Derived.Test.YtmfjjncfdpejiaaGreatDoorZNT
set_option linter.unusedVariables false
set_option linter.unusedSimpArgs false
namespace Go.Proofs.YtmfjjncfdpejiaaGreatDoor
open Go Go.Am Go.Pn Go.ChangeShapes Go.WideShapes Go.ChangeAt Go.RowKit
theorem topPressureRename_k9 : Tryz.prog.funcNamed "pneumatic/pneumatictop.TopPressureRename" = some 11 := by kernel_rfl
theorem topPressureRename_k10 : Tryz.prog.inPlace 11 = Rows.topPressureRenameRow.inPlace := by kernel_rfl
theorem topPressureRename_k11 : Tryz.prog.unfollowed 11 = Rows.topPressureRenameRow.unfollowed := by kernel_rfl
theorem topPressureRename_k12 : Tryz.prog.recurses 11 = Rows.topPressureRenameRow.recurses := by kernel_rfl
theorem topPressureRename_k13 : Tryz.prog.varsNamed 11 = Rows.topPressureRenameRow.named := by kernel_rfl
theorem topPressureRename_goes : false = Rows.topPressureRenameRow.goesBy Tryz.prog := by kernel_rfl
set_option maxRecDepth 100000 in
theorem topPressureRename_lifted (os : Os) (started : os.Started) (H : Type) (enc : TypeId × Value -> H) :
   ReturnsInHanded {} Tryz.checked os 11 .any (fun w args => (Rows.topPressureRenameSpec.pre enc Tryz.prog Tryz.f11 [] false w args /\ laidMetH Tryz.prog Jhh w) /\ sizedMet enc Tryz.prog Tryz.f11 (OpenSpec.ofChange Rows.topPressureRenameSpec) false w args)
     (Rows.topPressureRenameSpec.post enc Tryz.prog Tryz.f11 false true false false) := by
 refine returnsInHanded_of_change_and (C := Tryz.checked) (X := fun w _ => laidMetH Tryz.prog Jhh w) (fun _ _ _ hh h => h.of_heap hh) ownK started (by kernel_rfl) Go.Proofs.Tryz.func11
   (ChangeSpec.witness_shaped (enc := enc) (C := Tryz.checked) (os := os) (X := fun w _ => laidMetH Tryz.prog Jhh w) false (World.laidAll Tryz.prog os Jhh) #[.agg #[.slice none 0 0, .slice none 0 0], .slice none 0 0, .agg #[.string ⟨#[]⟩, .string ⟨#[]⟩]] 8 (World.laidAll_os _ _ _) (World.shaped_of_ZipB (by kernel_rfl) (by kernel_rfl)) (by kernel_rfl) (by kernel_rfl) (by kernel_rfl) (door_met os _)) ?_
 intro W base args ds gs before hval0 hW _ hreach hL _
 have hval : ∀ (j : Nat) t v, Tryz.f11.params[j]? = some t -> args[j]? = some v -> Value.okWide Tryz.prog W .any base t v := hval0
 have hW' := hW
 obtain ⟨p, q, hA0, hV, rfl, _, _⟩ := hW
 have hA : DataW.TrodAll enc Tryz.prog W 0 (fun _ => true) true [27, 45, 86] args.toList ds p := hA0
 obtain ⟨v0, v1, v2, d0, d1, d2, p0, p1, p2, rfl, rfl, rfl, h0, h1, h2⟩ := trodAll_three hA
 obtain ⟨rfl, rfl⟩ := trodVars_none hV
 obtain ⟨w0, w1, w2⟩ := J69 (t := 27) (t' := 45) (t'' := 86) hreach
 obtain ⟨c0, r0, z0⟩ := Ke5 (own := fun _ => False) (fun _ h => h) (hval 0 27 v0 rfl rfl) h0
 obtain ⟨l1, r1, z1⟩ := Ke6 (own := fun _ => False) (fun _ h => h) (hval 1 45 v1 rfl rfl) h1
 obtain ⟨s2, t2, r2⟩ := Ke7 (own := fun _ => False) (hval 2 86 v2 rfl rfl) h2
 refine Kan (avs := [c0.av, (Ints.av l1), .agg [.p (.str s2), .p (.str t2)]]) (J54 c0 l1 s2 t2 (z0 w0) (z1 w1)) Go.Proofs.Tryz.func11 rfl rfl (J83 hL) rfl (fun i x v hx hv => ?_) hW' laidOutP (by kernel_rfl) (by kernel_rfl) rfl Tryz.underlying4 rfl
 match i with
 | 0 => cases hx; cases hv; exact r0
 | 1 => cases hx; cases hv; exact r1
 | 2 => cases hx; cases hv; exact r2
 | i + 3 => cases hx
theorem topPressureRename_joined : joinedFacts Tryz.prog 11 Tryz.f11 Rows.topPressureRenameSpec Rows.topPressureRenameRow = true :=
 J95 laidOutP Kfn topPressureRename_k10 topPressureRename_k11 topPressureRename_k12 topPressureRename_k13 Kem J9c Kbh Kaz Kbc (by kernel_rfl) (by kernel_rfl) (by kernel_rfl)
theorem topPressureRename_holds : Rows.TopPressureRenameSaid :=
 OpenClaim.holds_of_wide 11 Tryz.f11 rfl rfl rfl rfl rfl rfl rfl ⟨rfl, rfl, rfl, rfl, rfl⟩ rfl rfl rfl rfl rfl topPressureRename_k9 Go.Proofs.Tryz.func11 topPressureRename_joined
   (of_decide_eq_true (by kernel_rfl)) (by unfold Func.isWrapper; first | (rw [if_pos (by decide +kernel)]; kernel_rfl) | (rw [if_neg (by decide +kernel)]; exact ⟨rfl, rfl⟩))
   (fun os started H enc _ => topPressureRename_lifted os started H enc)
theorem topPressureRename_card : Rows.TopPressureRenameCardSaid :=
 Claim7.holds_tied_plain_at .later [] [.data, .data, .data, .data, .data, .pinned] true (true, "d706d9b092086e3714bce1edafacee044936f05f64434f028ef86f1ab378c0e0") true
   topPressureRename_holds (fun _ h => by cases h) (by kernel_rfl) (fun _ h => by cases h) topPressureRename_row_tie rfl ⟨rfl, rfl⟩ Kbb rfl
   (fun f fn hf hfn => by
     obtain rfl : f = 11 := Option.some.inj (topPressureRename_k9.symm.trans hf) |>.symm
     obtain rfl : fn = Tryz.f11 := (Option.some.inj (Go.Proofs.Tryz.func11.symm.trans hfn)).symm
     exact ⟨Ka7.symm, fun j t ht => by
       have hm : t ∈ [27, 45, 86] := by simpa using Array.mem_of_getElem? (show (#[27, 45, 86] : Array TypeId)[j]? = some t from ht)
       have hall : ([27, 45, 86].all fun u => !Tryz.prog.wantsStandIn u) = true := by kernel_rfl
       exact (show Tryz.prog.wantsStandIn t = false by simpa using List.all_eq_true.1 hall t hm)⟩)
   topPressureRename_goes
#print axioms topPressureRename_card
end Go.Proofs.YtmfjjncfdpejiaaGreatDoor
