/- For every input NetlistFormats returns true, and its arguments read afterwards as before; the one condition is that the listed variables hold what the row lists. -/
import Derived.Test.YtmfjjncfdpejiaaGreatDoorZCard5f
import Derived.Test.YtmfjjncfdpejiaaGreatDoorZBrid2
import Derived.Test.YtmfjjncfdpejiaaGreatDoorZW1
set_option linter.unusedVariables false
set_option linter.unusedSimpArgs false
namespace Go.Proofs.YtmfjjncfdpejiaaGreatDoor
open Go Go.Am Go.Pn Go.ChangeShapes Go.WideShapes Go.ChangeAt Go.RowKit
theorem netlistFormats_k9 : Tryz.prog.funcNamed "pneumatic/pneumaticlaw23.NetlistFormats" = some 5 := by kernel_rfl
theorem netlistFormats_k10 : Tryz.prog.inPlace 5 = Rows.netlistFormatsRow.inPlace := by kernel_rfl
theorem netlistFormats_k11 : Tryz.prog.unfollowed 5 = Rows.netlistFormatsRow.unfollowed := by kernel_rfl
theorem netlistFormats_k12 : Tryz.prog.recurses 5 = Rows.netlistFormatsRow.recurses := by kernel_rfl
theorem netlistFormats_k13 : Tryz.prog.varsNamed 5 = Rows.netlistFormatsRow.named := by kernel_rfl
theorem netlistFormats_goes : false = Rows.netlistFormatsRow.goesBy Tryz.prog := by kernel_rfl
set_option maxRecDepth 100000 in
theorem netlistFormats_lifted (os : Os) (started : os.Started) (H : Type) (enc : TypeId × Value -> H) :
   ReturnsInHanded {} Tryz.checked os 5 .any (fun w args => (Rows.netlistFormatsSpec.pre enc Tryz.prog Tryz.f5 [] false w args /\ laidMetH Tryz.prog Kj9 w) /\ sizedMet enc Tryz.prog Tryz.f5 (OpenSpec.ofChange Rows.netlistFormatsSpec) false w args)
     (Rows.netlistFormatsSpec.post enc Tryz.prog Tryz.f5 false true false false) := by
 refine returnsInHanded_of_change_and (C := Tryz.checked) (X := fun w _ => laidMetH Tryz.prog Kj9 w) (fun _ _ _ hh h => h.of_heap hh) ownK started (by kernel_rfl) Go.Proofs.Tryz.func5
   (ChangeSpec.witness_shaped (enc := enc) (C := Tryz.checked) (os := os) (X := fun w _ => laidMetH Tryz.prog Kj9 w) false (World.laidAll Tryz.prog os Kj9) #[.agg #[.slice none 0 0, .slice none 0 0]] 8 (World.laidAll_os _ _ _) (World.shaped_of_ZipB (by kernel_rfl) (by kernel_rfl)) (by kernel_rfl) (by kernel_rfl) (by kernel_rfl) (door_met os _)) ?_
 intro W base args ds gs before hval0 hW _ hreach hL _
 have hval : ∀ (j : Nat) t v, Tryz.f5.params[j]? = some t -> args[j]? = some v -> Value.okWide Tryz.prog W .any base t v := hval0
 have hW' := hW
 obtain ⟨p, q, hA0, hV, rfl, _, _⟩ := hW
 have hA : DataW.TrodAll enc Tryz.prog W 0 (fun _ => true) true [27] args.toList ds p := hA0
 obtain ⟨v0, d0, rfl, rfl, h0⟩ := trodAll_one hA
 obtain ⟨rfl, rfl⟩ := trodVars_none hV
 have w0 := Kj0 (t := 27) hreach
 obtain ⟨c0, r0, z0⟩ := Kkl (own := fun _ => False) (fun _ h => h) (hval 0 27 v0 rfl rfl) h0
 refine Kcd (avs := [c0.av]) (Kbv c0 (z0 w0)) Go.Proofs.Tryz.func5 rfl rfl (Kj4 hL) rfl (fun i x v hx hv => ?_) hW' laidOutP (by kernel_rfl) (by kernel_rfl) rfl Tryz.underlying4 rfl
 match i with
 | 0 => cases hx; cases hv; exact r0
 | i + 1 => cases hx
theorem netlistFormats_joined : joinedFacts Tryz.prog 5 Tryz.f5 Rows.netlistFormatsSpec Rows.netlistFormatsRow = true :=
 Kj7 laidOutP Kkw netlistFormats_k10 netlistFormats_k11 netlistFormats_k12 netlistFormats_k13 Kkj Kj6 Kki Kkb Kkh (by kernel_rfl) (by kernel_rfl) (by kernel_rfl)
theorem netlistFormats_holds : Rows.NetlistFormatsSaid :=
 OpenClaim.holds_of_wide 5 Tryz.f5 rfl rfl rfl rfl rfl rfl rfl ⟨rfl, rfl, rfl, rfl, rfl⟩ rfl rfl rfl rfl rfl netlistFormats_k9 Go.Proofs.Tryz.func5 netlistFormats_joined
   (of_decide_eq_true (by kernel_rfl)) (by unfold Func.isWrapper; first | (rw [if_pos (by decide +kernel)]; kernel_rfl) | (rw [if_neg (by decide +kernel)]; exact ⟨rfl, rfl⟩))
   (fun os started H enc _ => netlistFormats_lifted os started H enc)
theorem netlistFormats_card : Rows.NetlistFormatsCardSaid :=
 Claim7.holds_tied_plain_at .later [] [.data, .data, .data, .sentinel, .sentinel, .data] true (true, "d706d9b092086e3714bce1edafacee044936f05f64434f028ef86f1ab378c0e0") true
   netlistFormats_holds (fun _ h => by cases h) (by kernel_rfl) (fun _ h => by cases h) netlistFormats_row_tie rfl ⟨rfl, rfl⟩ Kkg rfl
   (fun f fn hf hfn => by
     obtain rfl : f = 5 := Option.some.inj (netlistFormats_k9.symm.trans hf) |>.symm
     obtain rfl : fn = Tryz.f5 := (Option.some.inj (Go.Proofs.Tryz.func5.symm.trans hfn)).symm
     exact ⟨Kkf.symm, fun j t ht => by
       have hm : t ∈ [27] := by simpa using Array.mem_of_getElem? (show (#[27] : Array TypeId)[j]? = some t from ht)
       have hall : ([27].all fun u => !Tryz.prog.wantsStandIn u) = true := by kernel_rfl
       exact (show Tryz.prog.wantsStandIn t = false by simpa using List.all_eq_true.1 hall t hm)⟩)
   netlistFormats_goes
#print axioms netlistFormats_card
end Go.Proofs.YtmfjjncfdpejiaaGreatDoor
