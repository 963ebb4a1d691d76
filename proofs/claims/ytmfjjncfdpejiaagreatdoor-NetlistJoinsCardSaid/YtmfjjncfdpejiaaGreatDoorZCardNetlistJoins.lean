/- For every input NetlistJoins returns true, and its arguments read afterwards as before; the one condition is that the listed variables hold what the row lists. -/
import Derived.Test.YtmfjjncfdpejiaaGreatDoorZCard5f
import Derived.Test.YtmfjjncfdpejiaaGreatDoorZBrid2
import Derived.Test.YtmfjjncfdpejiaaGreatDoorZW1
set_option linter.unusedVariables false
set_option linter.unusedSimpArgs false
namespace Go.Proofs.YtmfjjncfdpejiaaGreatDoor
open Go Go.Am Go.Pn Go.ChangeShapes Go.WideShapes Go.ChangeAt Go.RowKit
theorem netlistJoins_k9 : Tryz.prog.funcNamed "pneumatic/pneumaticlaw23.NetlistJoins" = some 9 := by kernel_rfl
theorem netlistJoins_k10 : Tryz.prog.inPlace 9 = Rows.netlistJoinsRow.inPlace := by kernel_rfl
theorem netlistJoins_k11 : Tryz.prog.unfollowed 9 = Rows.netlistJoinsRow.unfollowed := by kernel_rfl
theorem netlistJoins_k12 : Tryz.prog.recurses 9 = Rows.netlistJoinsRow.recurses := by kernel_rfl
theorem netlistJoins_k13 : Tryz.prog.varsNamed 9 = Rows.netlistJoinsRow.named := by kernel_rfl
theorem netlistJoins_goes : false = Rows.netlistJoinsRow.goesBy Tryz.prog := by kernel_rfl
set_option maxRecDepth 100000 in
theorem netlistJoins_lifted (os : Os) (started : os.Started) (H : Type) (enc : TypeId × Value -> H) :
   ReturnsInHanded {} Tryz.checked os 9 .any (fun w args => (Rows.netlistJoinsSpec.pre enc Tryz.prog Tryz.f9 [] false w args /\ laidMetH Tryz.prog Kj9 w) /\ sizedMet enc Tryz.prog Tryz.f9 (OpenSpec.ofChange Rows.netlistJoinsSpec) false w args)
     (Rows.netlistJoinsSpec.post enc Tryz.prog Tryz.f9 false true false false) := by
 refine returnsInHanded_of_change_and (C := Tryz.checked) (X := fun w _ => laidMetH Tryz.prog Kj9 w) (fun _ _ _ hh h => h.of_heap hh) ownK started (by kernel_rfl) Go.Proofs.Tryz.func9
   (ChangeSpec.witness_shaped (enc := enc) (C := Tryz.checked) (os := os) (X := fun w _ => laidMetH Tryz.prog Kj9 w) false (World.laidAll Tryz.prog os Kj9) #[.agg #[.slice none 0 0, .slice none 0 0], .agg #[.slice none 0 0, .slice none 0 0]] 8 (World.laidAll_os _ _ _) (World.shaped_of_ZipB (by kernel_rfl) (by kernel_rfl)) (by kernel_rfl) (by kernel_rfl) (by kernel_rfl) (door_met os _)) ?_
 intro W base args ds gs before hval0 hW _ hreach hL _
 have hval : ∀ (j : Nat) t v, Tryz.f9.params[j]? = some t -> args[j]? = some v -> Value.okWide Tryz.prog W .any base t v := hval0
 have hW' := hW
 obtain ⟨p, q, hA0, hV, rfl, _, _⟩ := hW
 have hA : DataW.TrodAll enc Tryz.prog W 0 (fun _ => true) true [27, 27] args.toList ds p := hA0
 obtain ⟨v0, v1, d0, d1, p0, p1, rfl, rfl, rfl, h0, h1⟩ := trodAll_two hA
 obtain ⟨rfl, rfl⟩ := trodVars_none hV
 obtain ⟨w0, w1⟩ := Kj2 (t := 27) (t' := 27) hreach
 obtain ⟨c0, r0, z0⟩ := Kkl (own := fun _ => False) (fun _ h => h) (hval 0 27 v0 rfl rfl) h0
 obtain ⟨c1, r1, z1⟩ := Kkl (own := fun _ => False) (fun _ h => h) (hval 1 27 v1 rfl rfl) h1
 refine Kcd (avs := [c0.av, c1.av]) (Kbw c0 c1 (z0 w0) (z1 w1)) Go.Proofs.Tryz.func9 rfl rfl (Kj4 hL) rfl (fun i x v hx hv => ?_) hW' laidOutP (by kernel_rfl) (by kernel_rfl) rfl Tryz.underlying4 rfl
 match i with
 | 0 => cases hx; cases hv; exact r0
 | 1 => cases hx; cases hv; exact r1
 | i + 2 => cases hx
theorem netlistJoins_joined : joinedFacts Tryz.prog 9 Tryz.f9 Rows.netlistJoinsSpec Rows.netlistJoinsRow = true :=
 Kj7 laidOutP Kkw netlistJoins_k10 netlistJoins_k11 netlistJoins_k12 netlistJoins_k13 Kkj Kj6 Kki Kkb Kkh (by kernel_rfl) (by kernel_rfl) (by kernel_rfl)
theorem netlistJoins_holds : Rows.NetlistJoinsSaid :=
 OpenClaim.holds_of_wide 9 Tryz.f9 rfl rfl rfl rfl rfl rfl rfl ⟨rfl, rfl, rfl, rfl, rfl⟩ rfl rfl rfl rfl rfl netlistJoins_k9 Go.Proofs.Tryz.func9 netlistJoins_joined
   (of_decide_eq_true (by kernel_rfl)) (by unfold Func.isWrapper; first | (rw [if_pos (by decide +kernel)]; kernel_rfl) | (rw [if_neg (by decide +kernel)]; exact ⟨rfl, rfl⟩))
   (fun os started H enc _ => netlistJoins_lifted os started H enc)
theorem netlistJoins_card : Rows.NetlistJoinsCardSaid :=
 Claim7.holds_tied_plain_at .later [] [.data, .data, .data, .sentinel, .sentinel, .data] true (true, "d706d9b092086e3714bce1edafacee044936f05f64434f028ef86f1ab378c0e0") true
   netlistJoins_holds (fun _ h => by cases h) (by kernel_rfl) (fun _ h => by cases h) netlistJoins_row_tie rfl ⟨rfl, rfl⟩ Kkg rfl
   (fun f fn hf hfn => by
     obtain rfl : f = 9 := Option.some.inj (netlistJoins_k9.symm.trans hf) |>.symm
     obtain rfl : fn = Tryz.f9 := (Option.some.inj (Go.Proofs.Tryz.func9.symm.trans hfn)).symm
     exact ⟨Kkf.symm, fun j t ht => by
       have hm : t ∈ [27, 27] := by simpa using Array.mem_of_getElem? (show (#[27, 27] : Array TypeId)[j]? = some t from ht)
       have hall : ([27, 27].all fun u => !Tryz.prog.wantsStandIn u) = true := by kernel_rfl
       exact (show Tryz.prog.wantsStandIn t = false by simpa using List.all_eq_true.1 hall t hm)⟩)
   netlistJoins_goes
#print axioms netlistJoins_card
end Go.Proofs.YtmfjjncfdpejiaaGreatDoor
