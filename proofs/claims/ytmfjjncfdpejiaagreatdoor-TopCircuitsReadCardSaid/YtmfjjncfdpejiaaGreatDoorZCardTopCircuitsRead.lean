/- For every input TopCircuitsRead returns true, and its arguments read afterwards as before; the one condition is that the listed variables hold what the row lists. -/
import Derived.Test.YtmfjjncfdpejiaaGreatDoorZCard5f
import Derived.Test.YtmfjjncfdpejiaaGreatDoorZBrid2
import Derived.Test.YtmfjjncfdpejiaaGreatDoorZNt7
set_option linter.unusedVariables false
set_option linter.unusedSimpArgs false
namespace Go.Proofs.YtmfjjncfdpejiaaGreatDoor
open Go Go.Am Go.Pn Go.ChangeShapes Go.WideShapes Go.ChangeAt Go.RowKit
theorem topCircuitsRead_k9 : Tryz.prog.funcNamed "pneumatic/pneumatictop.TopCircuitsRead" = some 12 := by kernel_rfl
theorem topCircuitsRead_k10 : Tryz.prog.inPlace 12 = Rows.topCircuitsReadRow.inPlace := by kernel_rfl
theorem topCircuitsRead_k11 : Tryz.prog.unfollowed 12 = Rows.topCircuitsReadRow.unfollowed := by kernel_rfl
theorem topCircuitsRead_k12 : Tryz.prog.recurses 12 = Rows.topCircuitsReadRow.recurses := by kernel_rfl
theorem topCircuitsRead_k13 : Tryz.prog.varsNamed 12 = Rows.topCircuitsReadRow.named := by kernel_rfl
theorem topCircuitsRead_goes : false = Rows.topCircuitsReadRow.goesBy Tryz.prog := by kernel_rfl
set_option maxRecDepth 100000 in
theorem topCircuitsRead_lifted (os : Os) (started : os.Started) (H : Type) (enc : TypeId × Value -> H) :
   ReturnsInHanded {} Tryz.checked os 12 .any (fun w args => (Rows.topCircuitsReadSpec.pre enc Tryz.prog Tryz.f12 [] false w args /\ laidMetH Tryz.prog Kjs w) /\ sizedMet enc Tryz.prog Tryz.f12 (OpenSpec.ofChange Rows.topCircuitsReadSpec) false w args)
     (Rows.topCircuitsReadSpec.post enc Tryz.prog Tryz.f12 false true false false) := by
 refine returnsInHanded_of_change_and (C := Tryz.checked) (X := fun w _ => laidMetH Tryz.prog Kjs w) (fun _ _ _ hh h => h.of_heap hh) ownK started (by kernel_rfl) Go.Proofs.Tryz.func12
   (ChangeSpec.witness_shaped (enc := enc) (C := Tryz.checked) (os := os) (X := fun w _ => laidMetH Tryz.prog Kjs w) false (World.laidAll Tryz.prog os Kjs) #[.agg #[.slice none 0 0, .slice none 0 0]] 8 (World.laidAll_os _ _ _) (World.shaped_of_ZipB (by kernel_rfl) (by kernel_rfl)) (by kernel_rfl) (by kernel_rfl) (by kernel_rfl) (door_met os _)) ?_
 intro W base args ds gs before hval0 hW _ hreach hL _
 have hval : ∀ (j : Nat) t v, Tryz.f12.params[j]? = some t -> args[j]? = some v -> Value.okWide Tryz.prog W .any base t v := hval0
 have hW' := hW
 obtain ⟨p, q, hA0, hV, rfl, _, _⟩ := hW
 have hA : DataW.TrodAll enc Tryz.prog W 0 (fun _ => true) true [27] args.toList ds p := hA0
 obtain ⟨v0, d0, rfl, rfl, h0⟩ := trodAll_one hA
 obtain ⟨rfl, rfl⟩ := trodVars_none hV
 have w0 := Kjm (t := 27) hreach
 obtain ⟨c0, r0, z0⟩ := Kj4 (own := fun _ => False) (fun _ h => h) (hval 0 27 v0 rfl rfl) h0
 refine Kbm (avs := [c0.av]) (Kjd c0 (z0 w0)) Go.Proofs.Tryz.func12 rfl rfl (Kjo hL) rfl (fun i x v hx hv => ?_) hW' laidOutP (by kernel_rfl) (by kernel_rfl) rfl Tryz.underlying4 rfl
 match i with
 | 0 => cases hx; cases hv; exact r0
 | i + 1 => cases hx
theorem topCircuitsRead_joined : joinedFacts Tryz.prog 12 Tryz.f12 Rows.topCircuitsReadSpec Rows.topCircuitsReadRow = true :=
 Kjr laidOutP Kke topCircuitsRead_k10 topCircuitsRead_k11 topCircuitsRead_k12 topCircuitsRead_k13 Kj2 Kjq Kj1 Kju Kj0 (by kernel_rfl) (by kernel_rfl) (by kernel_rfl)
theorem topCircuitsRead_holds : Rows.TopCircuitsReadSaid :=
 OpenClaim.holds_of_wide 12 Tryz.f12 rfl rfl rfl rfl rfl rfl rfl ⟨rfl, rfl, rfl, rfl, rfl⟩ rfl rfl rfl rfl rfl topCircuitsRead_k9 Go.Proofs.Tryz.func12 topCircuitsRead_joined
   (of_decide_eq_true (by kernel_rfl)) (by unfold Func.isWrapper; first | (rw [if_pos (by decide +kernel)]; kernel_rfl) | (rw [if_neg (by decide +kernel)]; exact ⟨rfl, rfl⟩))
   (fun os started H enc _ => topCircuitsRead_lifted os started H enc)
theorem topCircuitsRead_card : Rows.TopCircuitsReadCardSaid :=
 Claim7.holds_tied_plain_at .later [] [.data, .data, .data, .sentinel, .sentinel, .data] true (true, "d706d9b092086e3714bce1edafacee044936f05f64434f028ef86f1ab378c0e0") true
   topCircuitsRead_holds (fun _ h => by cases h) (by kernel_rfl) (fun _ h => by cases h) topCircuitsRead_row_tie rfl ⟨rfl, rfl⟩ Kjz rfl
   (fun f fn hf hfn => by
     obtain rfl : f = 12 := Option.some.inj (topCircuitsRead_k9.symm.trans hf) |>.symm
     obtain rfl : fn = Tryz.f12 := (Option.some.inj (Go.Proofs.Tryz.func12.symm.trans hfn)).symm
     exact ⟨Kjy.symm, fun j t ht => by
       have hm : t ∈ [27] := by simpa using Array.mem_of_getElem? (show (#[27] : Array TypeId)[j]? = some t from ht)
       have hall : ([27].all fun u => !Tryz.prog.wantsStandIn u) = true := by kernel_rfl
       exact (show Tryz.prog.wantsStandIn t = false by simpa using List.all_eq_true.1 hall t hm)⟩)
   topCircuitsRead_goes
#print axioms topCircuitsRead_card
end Go.Proofs.YtmfjjncfdpejiaaGreatDoor
