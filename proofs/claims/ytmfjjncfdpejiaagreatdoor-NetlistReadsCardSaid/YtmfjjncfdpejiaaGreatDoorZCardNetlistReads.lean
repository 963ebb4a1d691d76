/- For every input NetlistReads returns true, and its arguments read afterwards as before; the one condition is that the listed variables hold what the row lists. -/
import Derived.Test.YtmfjjncfdpejiaaGreatDoorZCard5s
import Derived.Test.YtmfjjncfdpejiaaGreatDoorZBrid2
import Derived.Test.YtmfjjncfdpejiaaGreatDoorZBrid6
import Derived.Test.YtmfjjncfdpejiaaGreatDoorZNw8
set_option linter.unusedVariables false
set_option linter.unusedSimpArgs false
namespace Go.Proofs.YtmfjjncfdpejiaaGreatDoor
open Go Go.Am Go.Pn Go.ChangeShapes Go.WideShapes Go.ChangeAt Go.RowKit
theorem netlistReads_k9 : Tryz.prog.funcNamed "pneumatic/pneumaticlaw23.NetlistReads" = some 10 := by kernel_rfl
theorem netlistReads_k10 : Tryz.prog.inPlace 10 = Rows.netlistReadsRow.inPlace := by kernel_rfl
theorem netlistReads_k11 : Tryz.prog.unfollowed 10 = Rows.netlistReadsRow.unfollowed := by kernel_rfl
theorem netlistReads_k12 : Tryz.prog.recurses 10 = Rows.netlistReadsRow.recurses := by kernel_rfl
theorem netlistReads_k13 : Tryz.prog.varsNamed 10 = Rows.netlistReadsRow.named := by kernel_rfl
theorem netlistReads_goes : false = Rows.netlistReadsRow.goesBy Tryz.prog := by kernel_rfl
set_option maxRecDepth 100000 in
theorem netlistReads_lifted (os : Os) (started : os.Started) (H : Type) (enc : TypeId × Value -> H) :
   ReturnsInHanded {} Tryz.checked os 10 .any (fun w args => (Rows.netlistReadsSpec.pre enc Tryz.prog Tryz.f10 [] false w args /\ laidMetH Tryz.prog Khu w) /\ sizedMet enc Tryz.prog Tryz.f10 (OpenSpec.ofChange Rows.netlistReadsSpec) false w args)
     (Rows.netlistReadsSpec.post enc Tryz.prog Tryz.f10 false true false false) := by
 refine returnsInHanded_of_calls ownK started (by kernel_rfl) (C := Tryz.checked)
   (ChangeSpec.witness_shaped (enc := enc) (C := Tryz.checked) (os := os) (X := fun w _ => laidMetH Tryz.prog Khu w) false (World.laidAll Tryz.prog os Khu) #[.agg #[.slice none 0 0, .slice none 0 0], .int .u8 0] 8 (World.laidAll_os _ _ _) (World.shaped_of_ZipB (by kernel_rfl) (by kernel_rfl)) (by kernel_rfl) (by kernel_rfl) (by kernel_rfl) (door_met os _)) ?_
 intro w0' tape0 inp0 _ hshape _ hok0 hpre0 _
 obtain ⟨_, _, _, fn', hfn', _, _, _, _, hval1⟩ := hok0
 obtain rfl : fn' = Tryz.f10 := Option.some.inj (hfn'.symm.trans Go.Proofs.Tryz.func10)
 obtain ⟨⟨⟨ds, gs, before, hw1, _⟩, hx1⟩, hz1⟩ := hpre0
 have hreach := hz1.weights hw1
 have hW := DataW.Whole.of_heap (w' := w0'.forCall tape0 inp0) (by rfl) hw1
 have hL : laidMetH Tryz.prog Khu (w0'.forCall tape0 inp0) := hx1.of_heap (by rfl)
 suffices hcalls : Calls Tryz.prog 10 inp0.args (w0'.forCall tape0 inp0) fun e W' => ∃ v, e = .returned v /\ Rows.netlistReadsSpec.post enc Tryz.prog Tryz.f10 false true false false (w0'.forCall tape0 inp0) inp0.args v W' from
   hcalls.mono fun e W' ⟨v, he, hp⟩ => by subst he; exact ChangeSpec.post_blind hp
 have hval0 := hval1
 obtain ⟨m, hm1, hm2⟩ := Kh3 hshape
 generalize hargs : inp0.args = args at *
 generalize w0'.forCall tape0 inp0 = W at *
 have hval : ∀ (j : Nat) t v, Tryz.f10.params[j]? = some t -> args[j]? = some v -> Value.okWide Tryz.prog W .any w0'.heap.size t v := hval0
 have hW' := hW
 obtain ⟨p, q, hA0, hV, rfl, _, _⟩ := hW
 have hA : DataW.TrodAll enc Tryz.prog W 0 (fun _ => true) true [27, 5] args.toList ds p := hA0
 obtain ⟨v0, v1, d0, d1, p0, p1, rfl, rfl, rfl, h0, h1⟩ := trodAll_two hA
 obtain ⟨rfl, rfl⟩ := trodVars_none hV
 obtain ⟨w0, w1⟩ := Khi (t := 27) (t' := 5) hreach
 obtain ⟨c0, r0, z0⟩ := Kh9 (own := fun _ => False) (fun _ h => h) (hval 0 27 v0 rfl rfl) h0
 obtain ⟨u1, r1, z1⟩ := Kii (own := fun _ => False) (hval 1 5 v1 rfl rfl) h1
 refine J89 (avs := [c0.av, (.p (.int .u8 u1))]) (Khb m c0 u1 (z0 w0) (z1 w1)) Go.Proofs.Tryz.func10 rfl rfl (Khn hL hm1 hm2) rfl (fun i x v hx hv => ?_) hW' laidOutP (by kernel_rfl) (by kernel_rfl) rfl Tryz.underlying4 rfl
 match i with
 | 0 => cases hx; cases hv; exact r0
 | 1 => cases hx; cases hv; exact r1
 | i + 2 => cases hx
theorem netlistReads_joined : joinedFacts Tryz.prog 10 Tryz.f10 Rows.netlistReadsSpec Rows.netlistReadsRow = true :=
 Kht laidOutP Kik netlistReads_k10 netlistReads_k11 netlistReads_k12 netlistReads_k13 Kh5 Khp Kh4 Khw Kh2 (by kernel_rfl) (by kernel_rfl) (by kernel_rfl)
theorem netlistReads_holds : Rows.NetlistReadsSaid :=
 OpenClaim.holds_of_wide 10 Tryz.f10 rfl rfl rfl rfl rfl rfl rfl ⟨rfl, rfl, rfl, rfl, rfl⟩ rfl rfl rfl rfl rfl netlistReads_k9 Go.Proofs.Tryz.func10 netlistReads_joined
   (of_decide_eq_true (by kernel_rfl)) (by unfold Func.isWrapper; first | (rw [if_pos (by decide +kernel)]; kernel_rfl) | (rw [if_neg (by decide +kernel)]; exact ⟨rfl, rfl⟩))
   (fun os started H enc _ => netlistReads_lifted os started H enc)
theorem netlistReads_card : Rows.NetlistReadsCardSaid :=
 Claim7.holds_tied_plain_at .later [] [.data, .data, .data, .data, .sentinel, .sentinel, .data, .pinned] true (true, "d706d9b092086e3714bce1edafacee044936f05f64434f028ef86f1ab378c0e0") true
   netlistReads_holds (fun _ h => by cases h) (by kernel_rfl) (fun _ h => by cases h) netlistReads_row_tie rfl ⟨rfl, rfl⟩ Kh1 rfl
   (fun f fn hf hfn => by
     obtain rfl : f = 10 := Option.some.inj (netlistReads_k9.symm.trans hf) |>.symm
     obtain rfl : fn = Tryz.f10 := (Option.some.inj (Go.Proofs.Tryz.func10.symm.trans hfn)).symm
     exact ⟨Kh0.symm, fun j t ht => by
       have hm : t ∈ [27, 5] := by simpa using Array.mem_of_getElem? (show (#[27, 5] : Array TypeId)[j]? = some t from ht)
       have hall : ([27, 5].all fun u => !Tryz.prog.wantsStandIn u) = true := by kernel_rfl
       exact (show Tryz.prog.wantsStandIn t = false by simpa using List.all_eq_true.1 hall t hm)⟩)
   netlistReads_goes
#print axioms netlistReads_card
end Go.Proofs.YtmfjjncfdpejiaaGreatDoor
