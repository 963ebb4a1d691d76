/- slices.AppendSeq over slices.Values at texts: walked in the world (turned from the guide's worked proofs GgSlicesIterAtTheDump and GgCollectAtTheDump). -/
import Derived.Test.YthkjeoagelhocaaGreatDoorZC2
import Derived.Test.YthkjeoagelhocaaGreatDoorZA5
import Derived.Shelf.SlIter.Collect
import Derived.RangeFuncLeaves
import Derived.WalkKit
import Derived.OwnWalkIn
import Derived.TacticsInMore
import Derived.LoopNIn
import Derived.LoopIn
set_option linter.unusedVariables false
set_option linter.unusedSimpArgs false
namespace Go.Am
open Go Go.Proofs Go.Pn Go.RowKit Go.Maps Go.Shelf
attribute [local go_sem] Oper.semAt_some
def Jom : Ren := ⟨fun k => if k = 11 then 240 else k, fun k => match k with | 0 => 0 | 24 => 28 | 26 => 9 | 28 => 250 | 33 => 194 | k => k, fun g => g⟩
theorem Kgm : SlLaysZ.n11 Tryz.prog Jom where
 mixed := by kernel_rfl
 f11 := ⟨_, by kernel_rfl, Tryz.func240⟩
 t0 := by kernel_rfl
 a0 := fun w => by kernel_rfl
 z0 := fun w => by kernel_rfl
 v0 := fun w => by kernel_rfl
 t24 := by kernel_rfl
 a24 := fun w => by kernel_rfl
 z24 := fun w => by kernel_rfl
 v24 := fun w => by kernel_rfl
 t26 := by kernel_rfl
 a26 := fun w => by kernel_rfl
 z26 := fun w => by kernel_rfl
 v26 := fun w => by kernel_rfl
 t28 := by kernel_rfl
 a28 := fun w => by kernel_rfl
 z28 := fun w => by kernel_rfl
 v28 := fun w => by kernel_rfl
 i26 := by kernel_rfl
theorem Kim {zs : List Txt} {k : Nat} (h : k < zs.length) : zs.take (k + 1) = zs.take k ++ [zs[k]?.getD []] := by
 rw [List.take_add_one, List.getElem?_eq_getElem h]; rfl
set_option maxRecDepth 100000 in
set_option maxHeartbeats 2000000 in
theorem Kgp (F : Fence) (n : Nat) (hF : F.fn 223) (hro : F.round = none) (hn : 1 <= n) (l Bs Bo n₀ b off cap : Nat) (zs : List Txt) (hreach : zs.length < 100000) (hb : b < n₀) (hBn : Bs < n₀) (J : List Txt -> World -> Prop)
   (W0 W : World) (hJB : ∀ pre W', J pre W' -> Below n₀ W0 W')
   (hY : ∀ pre x W', J pre W' -> pre.length < zs.length -> YieldAt F (n - 1) Tryz.prog l #[encStr x] W' fun e W'' => e = .returned (.bool true) /\ J (pre ++ [x]) W'' /\ KeepsWalks W' W'')
   (hBs0 : W0.cell? ⟨Bs, Bo, none⟩ = some (.slice (some ⟨b, off, none⟩) zs.length cap)) (hc : ∀ j, j < zs.length -> W0.cell? ⟨b, off + j, none⟩ = some (encStr (zs[j]?.getD []))) (h0 : J [] W) :
   CallsIn F n Tryz.prog 223 #[.func (.yield l) #[] #[], .pointer (some ⟨Bs, Bo, none⟩)] W fun e W' => (∃ v, e = .returned v) /\ J zs W' := by
 have hBs := ((hJB _ _ h0).cell (p := ⟨Bs, Bo, none⟩) hBn).trans hBs0
 refine callsIn_of_wp Tryz.func223 rfl hF ?_ hro
 simp only [Tryz.ntmps223, List.size_toArray, List.length_cons, List.length_nil, Nat.reduceAdd, Nat.reduceSub, Array.replicate_succ, Array.replicate_zero, List.push_toArray, List.append_toArray, List.nil_append, List.cons_append]
 gi_wp2
 gi_loopw [7] (fun i wr => ∃ k : Nat, k <= zs.length /\ i = .int .i64 k /\ J (zs.take k) wr /\ Below n₀ W0 wr)
   (fun i _ => zs.length - (intOf i).toNat)
 case atStart => exact ⟨0, Nat.zero_le _, rfl, h0, hJB _ _ h0⟩
 case round =>
   obtain ⟨k, hk, rfl, hJs, hnx⟩ := hrel
   have hcx : k < zs.length -> wr.cell? ⟨b, off + k, none⟩ = some (encStr (zs[k]?.getD [])) := fun h => (hnx.cell (p := ⟨b, off + k, none⟩) hb).trans (hc k h)
   by_cases hlt : k < zs.length
   . have hcx' := hcx hlt
     have hup := Kim hlt
     obtain ⟨x, hx⟩ : ∃ x, x = zs[k]?.getD [] := ⟨_, rfl⟩
     rw [<- hx] at hcx' hup
     clear hcx hx
     obtain ⟨fn, tmps, assign, body, hy, hR⟩ := hY _ x wr hJs (by rw [List.length_take]; omega)
     gi_wp2
     refine hR.mono ?_
     rintro e W3 ⟨rfl, hJ3, hk3⟩
     gi_wp2
     go_roundw
     case rel => exact ⟨k + 1, by omega, by simp, by rw [hup]; exact hJ3, hJB _ _ hJ3⟩
     case measure => simp [intOf]; omega
   . obtain rfl : k = zs.length := by omega
     gi_wp2
     go_end0
     rw [List.take_length] at hJs
     exact ⟨⟨_, rfl⟩, hJs⟩
set_option maxRecDepth 100000 in
set_option maxHeartbeats 2000000 in
theorem Kgn (F : Fence) (n : Nat) (hA : F.fn 240) (hF : F.fn 223) (hro : F.round = none) (hn : 2 <= n) (Bv Bo b off cap : Nat) (zs : List Txt) (hz : zs.length < 100000) (w : World)
   (hb : b < w.heap.size) (hBn : Bv < w.heap.size) (hBs : w.cell? ⟨Bv, Bo, none⟩ = some (.slice (some ⟨b, off, none⟩) zs.length cap)) (hc : ∀ j, j < zs.length -> w.cell? ⟨b, off + j, none⟩ = some (encStr (zs[j]?.getD []))) :
   CallsIn F n Tryz.prog 240 #[.slice none 0 0, .func (.func 223) #[] #[.pointer (some ⟨Bv, Bo, none⟩)]] w fun e w' => ∃ (v : Value), e = .returned v /\ w'.ownsRow w.heap.size 9 1 v zs.length (zs.map encStr) /\ (v = .slice none 0 0 ↔ zs = []) /\ Below w.heap.size w w' := by
 have h1 : 1 <= n := by omega
 have eg : ∀ args w, (callFunc 223 args).run Tryz.prog w = .ok (.enter 223 args) w := enters_of Tryz.func223 (by kernel_rfl) rfl
 have hne : (28 : Nat) ≠ 9 := by decide
 refine callsIn_of_wp_marks Tryz.func240 rfl hA ?_ hro
 simp only [Tryz.ntmps240, List.size_toArray, List.length_cons, List.length_nil, Nat.reduceAdd, Nat.reduceSub, Array.replicate_succ, Array.replicate_zero, List.push_toArray, List.append_toArray, List.nil_append, List.cons_append]
 gi_wp2
 refine wpIn_rangeFunc ?_
 intro fn hfn
 rw [hro]
 obtain ⟨W0, hW0⟩ : ∃ W0, w.alloc (.cells #[.slice none 0 0] 28) = W0 := ⟨_, rfl⟩
 have hs0 : W0.heap.size = w.heap.size + 1 := by rw [<- hW0]; simp
 have hv0 : W0.heap[w.heap.size]? = some (.cells #[.slice none 0 0] 28 (0, 0)) := by rw [<- hW0]; exact World.alloc_heap_new w _
 have hb0 : Below w.heap.size w W0 := by rw [<- hW0]; exact (Below.refl _ w).alloc (Nat.le_refl _) _
 rw [hW0]
 obtain ⟨rec, hrec⟩ : ∃ rec, rec = AnyZ.apRec Jom fn (.func (.func 223) #[] #[.pointer (some ⟨Bv, Bo, none⟩)]) w.heap.size W0.heap.size := ⟨_, rfl⟩
 obtain ⟨W1, hW1⟩ : ∃ W1, (W0.alloc (.deferred (some []))).alloc (.loop (rec .ready none)) = W1 := ⟨_, rfl⟩
 have hold : ∀ k, k < W0.heap.size -> W1.heap[k]? = W0.heap[k]? := fun k hk => by
   rw [<- hW1]; exact (Below.heap_alloc _ _ k (by simp; omega)).trans (Below.heap_alloc _ _ k hk)
 have hb1 : Below w.heap.size w W1 := by rw [<- hW1]; exact (hb0.alloc hb0.size _).alloc (by have := hb0.size; simp; omega) _
 have hs1 : W1.heap.size = W0.heap.size + 2 := by rw [<- hW1]; simp
 have hM : AnyZ.ApAt Jom w fn (.func (.func 223) #[] #[.pointer (some ⟨Bv, Bo, none⟩)]) w.heap.size (W0.heap.size + 1) W0.heap.size [] W1 :=
   ⟨⟨_, (hold w.heap.size (by omega)).trans hv0, ⟨rfl, .inl ⟨rfl, rfl⟩⟩, by simp⟩,
    by rw [<- hrec, <- hW1]; have := World.alloc_heap_new (W0.alloc (.deferred (some []))) (.loop (rec .ready none)); rwa [World.size_alloc] at this,
    by rw [<- hW1]; exact (Below.heap_alloc _ _ _ (by simp)).trans (World.alloc_heap_new W0 _), hb1⟩
 refine ⟨W0.heap.size + 1, [{ target := .collected W0.heap.size, args := #[] }], W1, { target := .fn (.func 223) #[.pointer (some ⟨Bv, Bo, none⟩)], args := #[.func (.yield (W0.heap.size + 1)) #[] #[]] }, W1, 223,
   #[.func (.yield (W0.heap.size + 1)) #[] #[]] ++ #[.pointer (some ⟨Bv, Bo, none⟩)], W1, ?_, ?_, ?_, ?_, fun _ => h1, ?_⟩
 . rw [<- hW1, hrec]; exact run_enterLoop_outer _ _ _ _ _
 . simp [resolve, go_sem]
 . intro f' hf'; simp [Target.leads] at hf'; subst hf'; exact hF
 . simp [invoke, go_sem, eg]
 . refine (Kgp F (n - 1) hF hro (by omega) (W0.heap.size + 1) Bv Bo w.heap.size b off cap zs hz hb hBn (AnyZ.ApAt Jom w fn (.func (.func 223) #[] #[.pointer (some ⟨Bv, Bo, none⟩)]) w.heap.size (W0.heap.size + 1) W0.heap.size) w W1
     (fun pre W' h => h.below)
     (fun pre x W hJ hl => AnyZ.apYield Kgm F (n - 1 - 1) w fn hfn _ w.heap.size (W0.heap.size + 1) W0.heap.size (by omega) (by omega) (by omega) (Nat.le_refl _) (by omega) zs.length (by simp [maxLen]; omega) (by omega) pre x W hJ hl) hBs hc hM).mono ?_
   rintro e W2 ⟨⟨v0, rfl⟩, h2⟩
   obtain ⟨v, hv, hrow, hnil⟩ := h2.box
   have hL2 := h2.L
   rw [<- hrec] at hL2
   have hend := run_endLoop (P := Tryz.prog) hL2 (by simp [hrec, AnyZ.apRec])
   obtain ⟨W3, hW3⟩ : ∃ W3, W2.putObj (W0.heap.size + 1) (.loop { rec .ready none with state := .exhausted }) = W3 := ⟨_, rfl⟩
   rw [hW3] at hend
   have hg3 : W2.grownBy W3 (some (W0.heap.size + 1)) := by rw [<- hW3]; exact grownBy_putObj_a _ _ _
   have hv3 : W3.heap[w.heap.size]? = some (.cells #[v] 28 (0, 0)) := by rw [<- hW3]; exact (World.putObj_heap_other (by omega)).trans hv
   have hK3 : W3.heap[W0.heap.size]? = some (.deferred (some [])) := by rw [<- hW3]; exact (World.putObj_heap_other (by omega)).trans h2.K
   have hrow3 := hrow.kept hg3 (ownsRow_ne_a hrow hL2 (fun cur e => by cases e))
   have hb3 : Below w.heap.size w W3 := h2.below.grown hg3 h2.below.size (fun k e => by cases e; omega)
   obtain ⟨hc3, hf3⟩ := cell_of_box_a hv3
   clear hW3
   refine ⟨none, W3, by rw [hrec] at hend; exact hend, ?_⟩
   gi_wp2
   rw [<- hs0]
   refine ⟨by simp, .inl ⟨_, _, rfl, run_takeDeferred hK3, ?_⟩⟩
   exact ⟨_, results_tmp rfl _ _ _, v, rfl, hrow3.kept (grownBy_putObj_a _ _ _) (ownsRow_ne_a hrow3 hK3 (fun cur e => by cases e)), hnil, hb3.grown (grownBy_putObj_a _ _ _) hb3.size (fun k e => by cases e; omega)⟩
set_option maxRecDepth 100000 in
set_option maxHeartbeats 2000000 in
theorem Kgo (F : Fence) (n : Nat) (hC : F.fn 222) (hA : F.fn 240) (hF : F.fn 223) (hro : F.round = none) (hn : 3 <= n) (Bv Bo b off cap : Nat) (zs : List Txt) (hz : zs.length < 100000) (w : World)
   (hb : b < w.heap.size) (hBn : Bv < w.heap.size) (hBs : w.cell? ⟨Bv, Bo, none⟩ = some (.slice (some ⟨b, off, none⟩) zs.length cap)) (hc : ∀ j, j < zs.length -> w.cell? ⟨b, off + j, none⟩ = some (encStr (zs[j]?.getD []))) :
   CallsIn F n Tryz.prog 222 #[.func (.func 223) #[] #[.pointer (some ⟨Bv, Bo, none⟩)]] w fun e w' => ∃ (v : Value), e = .returned v /\ w'.ownsRow w.heap.size 9 1 v zs.length (zs.map encStr) /\ (v = .slice none 0 0 ↔ zs = []) /\ Below w.heap.size w w' := by
 have h1 : 1 <= n := by omega
 refine callsIn_of_wp Tryz.func222 rfl hC ?_ hro
 simp only [Tryz.ntmps222, List.size_toArray, List.length_cons, List.length_nil, Nat.reduceAdd, Nat.reduceSub, Array.replicate_succ, Array.replicate_zero, List.push_toArray, List.append_toArray, List.nil_append, List.cons_append]
 gi_wp2_with (gi_at_call 240; refine (Kgn F (n - 1) hA hF hro (by omega) Bv Bo b off cap zs hz _ hb hBn hBs hc).mono ?_; rintro e w' ⟨v, rfl, hrow, hnil, hbl⟩)
 go_ret
 exact ⟨_, rfl, hrow, hnil, hbl⟩
abbrev Jsi (l : List Txt) : AV := .fn (.func 223) [.iptr 1 [[.lst 1 (l.map Txt.enc)]] 0 0]
set_option maxRecDepth 100000 in
theorem J8u (l : List Txt) (s : Store) (nx : Nat) (h0 : l ≠ []) (hl : l.length < 100000) :
   Gives Tryz.prog GL 222 [Jsi l] s nx (.ref nx 1 0 l.length none) [] [(nx, some (.cells 1 (l.map Txt.row)))] (nx + 1) := by
 refine ⟨Nat.le_succ _, fun F φ s1 w vs _ hs hfr hlen hv => ?_⟩
 match vs, hlen with
 | [u], _ =>
   obtain ⟨cs, rfl, hcs⟩ := (hv 0 _ u rfl rfl).fn_inv
   obtain ⟨hl1, hc1⟩ := hcs
   match cs, hl1 with
   | [q], _ =>
     obtain ⟨β, o, hβ, hown, hrows, rfl⟩ := (hc1 0 _ q rfl rfl).iptr_inv
     obtain ⟨x, hx1, hx2⟩ := hrows 0 0 _ _ rfl rfl
     rcases hx2.lst_inv with ⟨hnil, _⟩ | ⟨b, off, cap, rfl, hcap, hb, hbo, hr⟩
     . simp [h0] at hnil
     have hcells : ∀ j, j < l.length -> w.cell? ⟨b, off + j, none⟩ = some (encStr (l[j]?.getD [])) := fun j hj => by
       obtain ⟨v, h1, h2⟩ := hr j 0 [.str l[j]] (.str l[j]) (by simp [hj]) rfl
       have e : v = encStr l[j] := by cases h2; rfl
       simp only [Nat.mul_one, Nat.add_zero] at h1
       rw [h1, e, List.getElem?_eq_getElem hj]
       rfl
     rw [List.length_map] at hx1
     have hcall := callsIn_wide.1 (Kgo Fence.wide 3 trivial trivial trivial rfl (Nat.le_refl _) β (o + 0 * 1 + 0) b off cap l hl w hb hβ hx1 hcells)
     have eC : ∀ args w, (callFunc 222 args).run Tryz.prog w = .ok (.enter 222 args) w := enters_of Tryz.func222 (by kernel_rfl) rfl
     have eC2 := eC ⟨[.func (.func 223) #[] ⟨[.pointer (some ⟨β, o + 0 * 1 + 0, none⟩)]⟩]⟩ w
     rw [eC2]
     refine Calls.mono hcall ?_
     rintro e w' ⟨v, rfl, hrow, hnil, hbl⟩
     refine ⟨v, rfl, ?_⟩
     rcases hrow.2 with ⟨rfl, _⟩ | ⟨g, cap', cur, rfl, hg1, hg2, hg3, hg4, hg5, hg6⟩
     . exact (h0 (hnil.1 rfl)).elim
     . refine Kfi hs (hfr nx (Nat.le_refl _) (Nat.lt_succ_self _)) hbl hg1 hg2 (fun φ' own' i j row x hrow hx => ?_) hg3 (by omega)
       obtain ⟨hi, rfl⟩ : ∃ hi : i < l.length, row = Txt.row l[i] := by
         obtain ⟨h1, h2⟩ := gsI.1 hrow
         rw [List.length_map] at h1
         exact ⟨h1, by rw [<- h2]; simp⟩
       match j with
       | 0 =>
         simp at hx; subst hx
         refine ⟨by omega, encStr l[i], ?_, .p _ _ (.str _)⟩
         have h3 : (cur.toList.take (l.length * 1))[i]? = some (encStr l[i]) := by rw [hg6]; simp [hi]
         rw [List.getElem?_take_of_lt (by omega)] at h3
         simpa using h3
       | j + 1 => simp at hx
end Go.Am
