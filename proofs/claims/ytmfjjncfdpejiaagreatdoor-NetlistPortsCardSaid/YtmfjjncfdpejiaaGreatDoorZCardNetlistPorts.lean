/- For every input NetlistPorts returns true, and its arguments read afterwards as before; the one condition is that the listed variables hold what the row lists. -/
import Derived.Test.YtmfjjncfdpejiaaGreatDoorZCard5f
import Derived.Test.YtmfjjncfdpejiaaGreatDoorZBrid2
import Derived.Test.YtmfjjncfdpejiaaGreatDoorZW1
set_option linter.unusedVariables false
set_option linter.unusedSimpArgs false
namespace Go.Proofs.YtmfjjncfdpejiaaGreatDoor
open Go Go.Am Go.Pn Go.ChangeShapes Go.WideShapes Go.ChangeAt Go.RowKit
theorem netlistPorts_k9 : Tryz.prog.funcNamed "pneumatic/pneumaticlaw23.NetlistPorts" = some 7 := by kernel_rfl
theorem netlistPorts_k10 : Tryz.prog.inPlace 7 = Rows.netlistPortsRow.inPlace := by kernel_rfl
theorem netlistPorts_k11 : Tryz.prog.unfollowed 7 = Rows.netlistPortsRow.unfollowed := by kernel_rfl
theorem netlistPorts_k12 : Tryz.prog.recurses 7 = Rows.netlistPortsRow.recurses := by kernel_rfl
theorem netlistPorts_k13 : Tryz.prog.varsNamed 7 = Rows.netlistPortsRow.named := by kernel_rfl
theorem netlistPorts_goes : false = Rows.netlistPortsRow.goesBy Tryz.prog := by kernel_rfl
set_option maxRecDepth 100000 in
theorem netlistPorts_lifted (os : Os) (started : os.Started) (H : Type) (enc : TypeId × Value -> H) :
   ReturnsInHanded {} Tryz.checked os 7 .any (fun w args => (Rows.netlistPortsSpec.pre enc Tryz.prog Tryz.f7 [] false w args /\ laidMetH Tryz.prog Kj9 w) /\ sizedMet enc Tryz.prog Tryz.f7 (OpenSpec.ofChange Rows.netlistPortsSpec) false w args)
     (Rows.netlistPortsSpec.post enc Tryz.prog Tryz.f7 false true false false) := by
 refine returnsInHanded_of_change_and (C := Tryz.checked) (X := fun w _ => laidMetH Tryz.prog Kj9 w) (fun _ _ _ hh h => h.of_heap hh) ownK started (by kernel_rfl) Go.Proofs.Tryz.func7
   (ChangeSpec.witness_shaped (enc := enc) (C := Tryz.checked) (os := os) (X := fun w _ => laidMetH Tryz.prog Kj9 w) false (World.laidAll Tryz.prog os Kj9) #[.agg #[.slice none 0 0, .slice none 0 0], .agg #[.int .i64 0, .string ⟨#[]⟩], .string ⟨#[]⟩] 8 (World.laidAll_os _ _ _) (World.shaped_of_ZipB (by kernel_rfl) (by kernel_rfl)) (by kernel_rfl) (by kernel_rfl) (by kernel_rfl) (door_met os _)) ?_
 intro W base args ds gs before hval0 hW _ hreach hL _
 have hval : ∀ (j : Nat) t v, Tryz.f7.params[j]? = some t -> args[j]? = some v -> Value.okWide Tryz.prog W .any base t v := hval0
 have hW' := hW
 obtain ⟨p, q, hA0, hV, rfl, _, _⟩ := hW
 have hA : DataW.TrodAll enc Tryz.prog W 0 (fun _ => true) true [27, 55, 9] args.toList ds p := hA0
 obtain ⟨v0, v1, v2, d0, d1, d2, p0, p1, p2, rfl, rfl, rfl, h0, h1, h2⟩ := trodAll_three hA
 obtain ⟨rfl, rfl⟩ := trodVars_none hV
 obtain ⟨w0, w1, w2⟩ := Kj1 (t := 27) (t' := 55) (t'' := 9) hreach
 obtain ⟨c0, r0, z0⟩ := Kkl (own := fun _ => False) (fun _ h => h) (hval 0 27 v0 rfl rfl) h0
 obtain ⟨x1, r1, z1⟩ := Kkq (own := fun _ => False) (hval 1 55 v1 rfl rfl) h1
 obtain ⟨s2, r2, z2⟩ := Kkt (own := fun _ => False) (hval 2 9 v2 rfl rfl) h2
 refine Kcd (avs := [c0.av, x1.av, .p (.str s2)]) (Kbx c0 x1 s2 (z0 w0) (z1 w1) (z2 w2)) Go.Proofs.Tryz.func7 rfl rfl (Kj4 hL) rfl (fun i x v hx hv => ?_) hW' laidOutP (by kernel_rfl) (by kernel_rfl) rfl Tryz.underlying4 rfl
 match i with
 | 0 => cases hx; cases hv; exact r0
 | 1 => cases hx; cases hv; exact r1
 | 2 => cases hx; cases hv; exact r2
 | i + 3 => cases hx
theorem netlistPorts_joined : joinedFacts Tryz.prog 7 Tryz.f7 Rows.netlistPortsSpec Rows.netlistPortsRow = true :=
 Kj7 laidOutP Kkw netlistPorts_k10 netlistPorts_k11 netlistPorts_k12 netlistPorts_k13 Kkj Kj6 Kki Kkb Kkh (by kernel_rfl) (by kernel_rfl) (by kernel_rfl)
theorem netlistPorts_holds : Rows.NetlistPortsSaid :=
 OpenClaim.holds_of_wide 7 Tryz.f7 rfl rfl rfl rfl rfl rfl rfl ⟨rfl, rfl, rfl, rfl, rfl⟩ rfl rfl rfl rfl rfl netlistPorts_k9 Go.Proofs.Tryz.func7 netlistPorts_joined
   (of_decide_eq_true (by kernel_rfl)) (by unfold Func.isWrapper; first | (rw [if_pos (by decide +kernel)]; kernel_rfl) | (rw [if_neg (by decide +kernel)]; exact ⟨rfl, rfl⟩))
   (fun os started H enc _ => netlistPorts_lifted os started H enc)
theorem netlistPorts_card : Rows.NetlistPortsCardSaid :=
 Claim7.holds_tied_plain_at .later [] [.data, .data, .data, .sentinel, .sentinel, .data] true (true, "d706d9b092086e3714bce1edafacee044936f05f64434f028ef86f1ab378c0e0") true
   netlistPorts_holds (fun _ h => by cases h) (by kernel_rfl) (fun _ h => by cases h) netlistPorts_row_tie rfl ⟨rfl, rfl⟩ Kkg rfl
   (fun f fn hf hfn => by
     obtain rfl : f = 7 := Option.some.inj (netlistPorts_k9.symm.trans hf) |>.symm
     obtain rfl : fn = Tryz.f7 := (Option.some.inj (Go.Proofs.Tryz.func7.symm.trans hfn)).symm
     exact ⟨Kkf.symm, fun j t ht => by
       have hm : t ∈ [27, 55, 9] := by simpa using Array.mem_of_getElem? (show (#[27, 55, 9] : Array TypeId)[j]? = some t from ht)
       have hall : ([27, 55, 9].all fun u => !Tryz.prog.wantsStandIn u) = true := by kernel_rfl
       exact (show Tryz.prog.wantsStandIn t = false by simpa using List.all_eq_true.1 hall t hm)⟩)
   netlistPorts_goes
#print axioms netlistPorts_card
end Go.Proofs.YtmfjjncfdpejiaaGreatDoor
