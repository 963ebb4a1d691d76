/- Lemmas and contracts for the proof of a statement of this seat. -/
import Derived.Test.YtebnpnkcoibooaaGreatDoorZC5
import Derived.Test.YtebnpnkcoibooaaGreatDoorZA6
set_option linter.unusedVariables false
set_option linter.unusedSimpArgs false
/- Contracts: package circuit: Limits. -/
namespace Go.Am
open Go Go.Proofs Go.Pn

theorem c_circuit_Limits_1 (c : Circuit) (s : Txt) (hs : Sized c) : Pure Go.Proofs.Tryz.prog GL 236 [.p (.str s), .iptr 2 [[.lst 3 (c.parts.map Part.enc), .lst 4 (c.pipes.map Pipe.enc)]] 0 0] (.p (.int .i64 (swAt c s))) := by
  refine Pure.of_walk (N := 20) Go.Proofs.Tryz.func236 rfl rfl rfl (by simp) (by first | (simp; done) | simp [*]) ?_
  simp
  refine xcall_pure (c_circuit_find c s hs) ?_
  rw [← partI, swAt]
  have h0 := partI_cases c s
  generalize partI c s = k at *
  rcases h0 with hk | ⟨j, x, hk, e, _⟩
  · simp [hk]
    simp [swK, XEndT]
  · obtain ⟨hj, _⟩ := List.getElem?_eq_some_iff.1 e
    have hka : kindAt c (j : Int) = x.kind := by rw [kindAt, Int.toNat_natCast, e]; rfl
    have hk0 : 0 ≤ (j : Int) := by omega
    simp [hk, hk0]
    simp [hj, e, -getElem?_pos, List.getElem?_cons_zero, List.getElem?_cons_succ]
    by_cases h1 : x.kind = 6
    · simp [h1]
      simp [XEndT, swK, hk, hka, h1]
    · simp [h1]
      simp [XEndT, swK, hk, hka, h1, hk0]

theorem c_circuit_Limits (c : Circuit) (s : Txt) (hs : Sized c) (hl : s.length < 4611686018427387900) : Pure Go.Proofs.Tryz.prog GL 212 [c.av, .p (.str s)] (.tup [.p (.int .i64 (limAt c s 48)), .p (.int .i64 (limAt c s 49)), .p (.int .i64 (limErr c s))]) := by
  refine Pure.of_walk (N := 38) Go.Proofs.Tryz.func212 rfl rfl rfl (by simp) (by first | (simp; done) | simp [*]) ?_
  simp
  refine xcall_pure (c_circuit_Check c hs) ?_
  by_cases hc : checkP c = 0
  · simp [hc]
    refine xcall_pure (c_circuit_find c s hs) ?_
    rw [← partI]
    rcases partI_cases c s with hk | ⟨j, x, hk, e, _⟩
    · simp [hk]
      simp [limErr, limAt, hc, hk, XEndT]
    · obtain ⟨hj, _⟩ := List.getElem?_eq_some_iff.1 e
      have hka : kindAt c (j : Int) = x.kind := by rw [kindAt, Int.toNat_natCast, e]; rfl
      have hk0 : ¬ (j : Int) < 0 := by omega
      simp [hk, hk0]
      simp [hj, e, -getElem?_pos, List.getElem?_cons_zero, List.getElem?_cons_succ]
      by_cases h1 : x.kind = 1
      · simp [h1]
        refine ⟨by omega, ?_⟩
        refine xcall_lent ?_
        simp
        refine ⟨_, c_circuit_Limits_1 c (s ++ [48]) hs, rfl, ?_⟩
        refine ⟨by omega, ?_⟩
        refine xcall_lent ?_
        simp
        refine ⟨_, c_circuit_Limits_1 c (s ++ [49]) hs, rfl, ?_⟩
        simp [limErr, limAt, hc, hk, hka, h1, XEndT, hk0]
      · simp [h1]
        simp [limErr, limAt, hc, hk, hka, h1, XEndT, hk0]
  · simp [hc, XEndT, limErr, limAt]

end Go.Am
/- Contracts: package circuit: moved. -/
namespace Go.Am
open Go Go.Proofs Go.Pn

end Go.Am
/- Contracts: package circuit: the functions that Add, Remove and Net hand over. -/
namespace Go.Am
open Go Go.Proofs Go.Pn

theorem c_circuit_Net_1 (p : Port) (l : List Port) (hl : l.length < 4611686018427387904) : Pure Go.Proofs.Tryz.prog GL 121 [.p (.lst 2 (l.map Port.enc)), .iptr 2 [[.int .i64 p.part, .str p.name]] 0 0] (.p (.bool (decide (p ∈ l)))) := by
  refine Pure.of_walk (N := 7) Go.Proofs.Tryz.func121 rfl rfl rfl (by simp) (by first | (simp; done) | simp [*]) ?_
  simp
  refine xcall_pure (c_Con_Port l p hl) ?_
  simp [XEndT]

end Go.Am
/- Contracts: slices.BinarySearchFunc. -/
namespace Go.Am
open Go Go.Proofs Go.Pn


end Go.Am
/- Contracts: slices.BinarySearchFunc over pipes. -/
namespace Go.Am
open Go Go.Proofs Go.Pn


theorem c_Bin_Pipe (xs : List Pipe) (s : Pipe) (f : Pipe → Int) (r m : Nat) (hl : xs.length < 1000000) (hf : ∀ x ∈ xs, Pure Go.Proofs.Tryz.prog GL m [x.av, s.av] (.p (.int .i64 (f x)))) (hr : r ≤ xs.length) (h1 : ∀ (j : Nat) x, j < r → xs[j]? = some x → f x < 0) (h2 : ∀ (j : Nat) x, r ≤ j → xs[j]? = some x → ¬ f x < 0) : Pure Go.Proofs.Tryz.prog GL 113 [.p (.lst 4 (xs.map Pipe.enc)), s.av, .fn (.func m) []] (.tup [.p (.int .i64 r), .p (.bool (match xs[r]? with | some x => decide (f x = 0) | none => false))]) := by
  refine Pure.of_walk (N := 49) Go.Proofs.Tryz.func113 rfl rfl rfl (by simp) (by first | (simp; done) | simp [*]) ?_
  simp
  refine XLoop.go [0, 2, 4, 8] [0] 0 [] (fun _ => []) (fun _ (k : Nat × Nat) => [(9, .p (.int .i64 k.1)), (10, .p (.int .i64 k.2))]) (fun _ _ => []) (fun k => k.1 ≤ r ∧ r ≤ k.2 ∧ k.2 ≤ xs.length) (fun k => k.2 - k.1) (0, xs.length) ⟨by simp, by simpa using hr, by simp⟩ ?_ ?_
  · simp
  · rintro ⟨i, j⟩ ⟨h3, h4, h5⟩
    simp at h3 h4 h5
    simp
    refine xif_split (fun h => ?_) (fun h => ?_)
    · simp at h
      have hd : ((i : Int) + j).fdiv 2 = (((i + j) / 2 : Nat) : Int) := by rw [Int.fdiv_eq_ediv_of_nonneg _ (by omega)]; omega
      have hm1 : (i + j) / 2 < j := by omega
      have hm0 : i ≤ (i + j) / 2 := by omega
      generalize (i + j) / 2 = h0 at hd hm1 hm0
      have hm2 : h0 < xs.length := by omega
      obtain ⟨x, e⟩ := get_lt hm2
      have hq := hf x (List.mem_of_getElem? e)
      simp
      rw [hd]
      refine ⟨wrap_i64 (by omega) (by omega), by simp [IntKind.wrap, IntKind.bits]; omega, by decide, wrap_i64 (by omega) (by omega), ?_⟩
      refine XDraw.intro (by kernel_rfl) ?_
      simp [hm2, e, -getElem?_pos, List.getElem?_cons_zero, List.getElem?_cons_succ]
      refine xcall_pure hq ?_
      simp
      refine ⟨.of (by kernel_rfl), ?_⟩
      by_cases h6 : f x < 0
      · simp [h6]
        have h8 : h0 < r := Classical.byContradiction fun hh => h2 h0 x (by omega) e h6
        refine ⟨wrap_i64 (by omega) (by omega), (h0 + 1), j, ⟨by omega, h4, h5⟩, by omega, by omega, rfl⟩
      · simp [h6]
        have h8 : r ≤ h0 := Classical.byContradiction fun hh => h6 (h1 h0 x (by omega) e)
        exact ⟨i, h0, ⟨h3, h8, by omega⟩, by omega, rfl, rfl⟩
    · simp at h
      have hir : i = r := by omega
      subst hir
      by_cases h7 : i < xs.length
      · obtain ⟨x, e⟩ := get_lt h7
        have hq := hf x (List.mem_of_getElem? e)
        simp
        refine XDraw.intro (by kernel_rfl) ?_
        simp [h7, e, -getElem?_pos, List.getElem?_cons_zero, List.getElem?_cons_succ]
        refine xcall_pure hq ?_
        simp
        refine ⟨.of (by kernel_rfl), ?_⟩
        simp [XEndT]
        rw [e]
      · have hn : xs[i]? = none := List.getElem?_eq_none (by omega)
        simp
        refine XDraw.intro (by kernel_rfl) ?_
        simp [h7]
        refine ⟨.of (by kernel_rfl), ?_⟩
        simp [XEndT, hn]

end Go.Am
/- Contracts: slices.Clone. -/
namespace Go.Am
open Go Go.Proofs Go.Pn


theorem renS_acc {ρ : List Nat} {b b' k : Nat} {rows : List (List AV)} (hb : ρ[b]? = some b') (h : renR ρ rows = some rows) : renS ρ [(b, accB k rows)] = some [(b', accB k rows)] := by
  unfold accB
  by_cases e : rows = []
  · simp [renS, e, hb]
  · simp [renS, e, hb, renB, h]


theorem g_ClonePipe (l : List Pipe) (s : Store) (nx : Nat) (hn : l.length < 1000000) :
    Gives Go.Proofs.Tryz.prog GL 61 [.p (.lst 4 (l.map Pipe.enc))] s nx (.acc nx 4 l.length) [] [(nx, accB 4 (l.map Pipe.row))] (nx + 1) := by
  refine Gives.mk_walkK (N := 8) (args := [.p (.lst 4 (l.map Pipe.enc))]) [] [] [] [(0, accB 4 (l.map Pipe.row))] 0 1 (.acc 0 4 l.length) (nms [2]) (up1 := [(nx, accB 4 (l.map Pipe.row))]) Go.Proofs.Tryz.func61 rfl rfl rfl (by simp) rfl (by simp) (by simp) (by simp) (renS_acc rfl (renR_map fun _ => rfl)) (by simp) rfl ?_
  simp
  refine xdec_split (fun h => ?_) (fun h => ?_)
  · subst h
    simp
  · have h0 : 0 < l.length := List.length_pos_iff.2 h
    have hrow : (fun x => List.map AV.p x) ∘ Pipe.enc = Pipe.row := rfl
    simp [h, h0, hrow, accB, Nat.pos_iff_ne_zero]
    omega

theorem g_ClonePart (l : List Part) (s : Store) (nx : Nat) (hn : l.length < 1000000) :
    Gives Go.Proofs.Tryz.prog GL 115 [.p (.lst 3 (l.map Part.enc))] s nx (.acc nx 3 l.length) [] [(nx, accB 3 (l.map Part.row))] (nx + 1) := by
  refine Gives.mk_walkK (N := 8) (args := [.p (.lst 3 (l.map Part.enc))]) [] [] [] [(0, accB 3 (l.map Part.row))] 0 1 (.acc 0 3 l.length) (nms [2]) (up1 := [(nx, accB 3 (l.map Part.row))]) Go.Proofs.Tryz.func115 rfl rfl rfl (by simp) rfl (by simp) (by simp) (by simp) (renS_acc rfl (renR_map fun _ => rfl)) (by simp) rfl ?_
  simp
  refine xdec_split (fun h => ?_) (fun h => ?_)
  · subst h
    simp
  · have h0 : 0 < l.length := List.length_pos_iff.2 h
    have hrow : (fun x => List.map AV.p x) ∘ Part.enc = Part.row := rfl
    simp [h, h0, hrow, accB, Nat.pos_iff_ne_zero]
    omega

end Go.Am
/- Contracts: slices.Insert of one part. -/
namespace Go.Am
open Go Go.Proofs Go.Pn


end Go.Am
/- Contracts: slices.Insert of one pipe. -/
namespace Go.Am
open Go Go.Proofs Go.Pn


theorem ins_nilP (x : Pipe) (b bv : Nat) (c : Option Nat) (s : Store) (nx : Nat) (hn : bv < nx) (hv : get s bv = some (.cells 4 [x.row])) :
    Gives Go.Proofs.Tryz.prog GL 92 [.nils, .p (.int .i64 0), .ref bv 4 0 1 c] s nx (.p (.lst 4 [x.enc])) [bv] [(bv, none)] nx := by
  refine Gives.of_walkF (N := 95) (args := [.nils, .p (.int .i64 0), .ref 0 4 0 1 c]) (σ := [bv]) (s0 := [(0, some (.cells 4 [x.row]))]) (m := 1) Go.Proofs.Tryz.func92 rfl rfl rfl (by simp) rfl (by simp [hv, hn]) (by simp) rfl ?_
  simp [XEndT]

theorem prow_lenP {l : List Pipe} : ∀ r ∈ l.map Pipe.row, r.length = 4 := fun r hr => by
  obtain ⟨q, _, rfl⟩ := List.mem_map.1 hr
  rfl
theorem prow_takeP {l : List Pipe} {i : Nat} : ∀ r ∈ (l.map Pipe.row).take i, r.length = 4 := fun r hr => prow_lenP r (List.mem_of_mem_take hr)
theorem prow_oneP {l : List Pipe} {i : Nat} : ∀ r ∈ (l.map Pipe.row).drop i, ∀ c ∈ r, AV.oneCell c = true := fun r hr c hc => by
  obtain ⟨q, _, rfl⟩ := List.mem_map.1 (List.mem_of_mem_drop hr)
  simp at hc
  rcases hc with rfl | rfl | rfl | rfl <;> rfl
theorem prow_dropP {l : List Pipe} {i : Nat} : ∀ r ∈ (l.map Pipe.row).drop i, r.length = 4 := fun r hr => prow_lenP r (List.mem_of_mem_drop hr)
theorem ins_m1P {R : List (List AV)} {i n : Nat} {r z : List AV} (hn : R.length = n) (hi : i < n) (hR : ∀ x ∈ R, x.length = 4) (hr : r.length = 4) (hz : z.length = 4) :
    ∃ M, layRows (R.take i ++ List.replicate (n + 1 - i) z) i [r] = M ∧ M.length = n + 1 ∧ (∀ x ∈ M, x.length = 4) ∧ M.take (i + 1) = R.take i ++ [r] := by
  have e2 : (R.take i ++ List.replicate (n + 1 - i) z).take i = R.take i := by rw [List.take_append_of_le_length (by simp; omega), List.take_of_length_le (by simp; omega)]
  refine ⟨_, rfl, ?_, ?_, ?_⟩
  · simp [layRows, List.length_take]; omega
  · intro x hx
    simp only [layRows] at hx
    rw [e2] at hx
    rcases List.mem_append.1 hx with hx | hx
    · exact hR x (List.mem_of_mem_take hx)
    · rcases List.mem_append.1 hx with hx | hx
      · simp at hx; subst hx; exact hr
      · have := List.mem_of_mem_drop hx
        rcases List.mem_append.1 this with hx | hx
        · exact hR x (List.mem_of_mem_take hx)
        · rw [(List.mem_replicate.1 hx).2]; exact hz
  · simp only [layRows, e2]
    rw [← List.append_assoc, List.take_append_of_le_length (by simp; omega), List.take_of_length_le (by simp; omega)]
theorem ins_m2P {R M : List (List AV)} {i n : Nat} {r : List AV} (hn : R.length = n) (hi : i < n) (hM : M.length = n + 1) (hT : M.take (i + 1) = R.take i ++ [r]) :
    layRows M (i + 1) (R.drop i) = R.take i ++ r :: R.drop i := by
  have h : M.drop (i + 1 + (R.drop i).length) = [] := List.drop_of_length_le (by rw [List.length_drop]; omega)
  simp only [layRows, hT, h]
  simp

theorem ins_m3P {R : List (List AV)} {i n : Nat} {r a : List AV} (hn : R.length = n) (hi : i < n) (hR : ∀ x ∈ R, x.length = 4) :
    ∃ M, layRows (R ++ [a]) (i + 1) (R.drop i) = M ∧ M.length = n + 1 ∧ (∀ x ∈ M, x.length = 4) ∧ layRows M i [r] = R.take i ++ r :: R.drop i := by
  have e1 : (R ++ [a]).take (i + 1) = R.take (i + 1) := List.take_append_of_le_length (by omega)
  have e2 : (R ++ [a]).drop (i + 1 + (R.drop i).length) = [] := List.drop_of_length_le (by rw [List.length_append, List.length_drop, List.length_singleton]; omega)
  have e3 : layRows (R ++ [a]) (i + 1) (R.drop i) = R.take (i + 1) ++ R.drop i := by simp only [layRows, e1, e2, List.append_nil]
  refine ⟨_, rfl, ?_, ?_, ?_⟩
  · rw [e3]; simp; omega
  · rw [e3]
    intro x hx
    rcases List.mem_append.1 hx with hx | hx
    · exact hR x (List.mem_of_mem_take hx)
    · exact hR x (List.mem_of_mem_drop hx)
  · rw [e3]
    have e4 : (R.take (i + 1) ++ R.drop i).take i = R.take i := by rw [List.take_append_of_le_length (by simp; omega), List.take_take]; congr 1; omega
    have e5 : (R.take (i + 1) ++ R.drop i).drop (i + 1) = R.drop i := List.drop_left' (by simp; omega)
    simp [layRows, e4, e5]

theorem ins_endP (l : List Pipe) (x : Pipe) (b bv : Nat) (c : Option Nat) (s : Store) (nx : Nat) (hb : b < nx) (hn : bv < nx) (hne : b ≠ bv) (h0 : 0 < l.length) (hl : l.length < 100000)
    (hg : get s b = some (.cells 4 (l.map Pipe.row))) (hv : get s bv = some (.cells 4 [x.row])) :
    Gives Go.Proofs.Tryz.prog GL 92 [.ref b 4 0 l.length none, .p (.int .i64 l.length), .ref bv 4 0 1 c] s nx (.p (.lst 4 ((l ++ [x]).map Pipe.enc))) [b, bv] [(b, none), (bv, none)] nx := by
  refine Gives.of_walkF (N := 95) (args := [.ref 0 4 0 l.length none, .p (.int .i64 l.length), .ref 1 4 0 1 c]) (σ := [b, bv]) (s0 := [(0, some (.cells 4 (l.map Pipe.row))), (1, some (.cells 4 [x.row]))]) (m := 2) Go.Proofs.Tryz.func92 rfl rfl rfl (by simp) rfl (by simp [hv, hn, hg, hb, hne]; intro q hq; match q, hq with | 0, _ => simp | 1, _ => simp) (by simp) rfl ?_
  have e0 : ¬ l.length = 0 := by omega
  simp [e0]
  refine ⟨by omega, ?_⟩
  simp [XEndT]
  rw [List.take_of_length_le (by simp)]
  rfl

theorem ins_refP (l : List Pipe) (i : Nat) (x : Pipe) (b bv cp : Nat) (c : Option Nat) (s : Store) (nx : Nat) (hb : b < nx) (hn : bv < nx) (hne : b ≠ bv) (hi : i < l.length) (hl : l.length < 100000) (hcp : l.length ≤ cp)
    (hg : get s b = some (.cells 4 (l.map Pipe.row))) (hv : get s bv = some (.cells 4 [x.row])) :
    Gives Go.Proofs.Tryz.prog GL 92 [.ref b 4 0 l.length (some cp), .p (.int .i64 i), .ref bv 4 0 1 c] s nx (.p (.lst 4 ((l.take i ++ x :: l.drop i).map Pipe.enc))) [b, bv] [(b, none), (bv, none)] nx := by
  refine Gives.of_walkF (N := 95) (args := [.ref 0 4 0 l.length (some cp), .p (.int .i64 i), .ref 1 4 0 1 c]) (σ := [b, bv]) (s0 := [(0, some (.cells 4 (l.map Pipe.row))), (1, some (.cells 4 [x.row]))]) (m := 2) Go.Proofs.Tryz.func92 rfl rfl rfl (by simp) rfl (by simp [hv, hn, hg, hb, hne]; intro q hq; match q, hq with | 0, _ => simp | 1, _ => simp) (by simp) rfl ?_
  have hil : ¬ i = l.length := by omega
  have e2 : ¬ (i : Int) = l.length := by omega
  have e3 : i ≤ l.length := by omega
  have e4 : i + (l.length + 1 - i) = l.length + 1 := by omega
  have e5 : (i : Int) ≤ l.length + 1 := by omega
  have e6 : ¬ l.length < i := by omega
  have e7 : (i : Int) + ((l.length + 1 - i : Nat) : Int) = l.length + 1 := by omega
  simp [e3, hil, hi, e2]
  refine ⟨wrap_i64 (by omega) (by omega), ?_⟩
  refine xif_split (fun h => ?_) (fun h => ?_)
  · simp at h
    have h2 : cp < l.length + 1 := by omega
    have e10 : min 1 (l.length + 1 - i) = 1 := by omega
    have e11 : List.take (l.length + 1 - i) [[AV.p (PV.int IntKind.i64 x.fr.part), AV.p (PV.str x.fr.name), AV.p (PV.int IntKind.i64 x.to.part), AV.p (PV.str x.to.name)]] = [[AV.p (PV.int IntKind.i64 x.fr.part), AV.p (PV.str x.fr.name), AV.p (PV.int IntKind.i64 x.to.part), AV.p (PV.str x.to.name)]] := List.take_of_length_le (by simp; omega)
    simp [e3, hil, hi, e2, h2, e4, e5, e6, e7, e10, e11]
    refine ⟨wrap_i64 (by omega) (by omega), wrap_i64 (by omega) (by omega), by omega, ?_⟩
    have e8 : ¬ i = l.length + 1 := by omega
    simp [e8, e10, e11]
    refine ⟨by omega, prow_takeP, ?_⟩
    obtain ⟨M, hM, m1, m2, m3⟩ := ins_m1P (R := l.map Pipe.row) (n := l.length) (r := [AV.p (PV.int IntKind.i64 x.fr.part), AV.p (PV.str x.fr.name), AV.p (PV.int IntKind.i64 x.to.part), AV.p (PV.str x.to.name)]) (z := [AV.p (PV.int IntKind.i64 0), AV.p (PV.str []), AV.p (PV.int IntKind.i64 0), AV.p (PV.str [])]) (by simp) hi prow_lenP rfl rfl
    rw [hM]
    refine XDraw.intro (by kernel_rfl) ?_
    have e9 : (0 : Int) ≤ i + 1 := by omega
    simp [e3, hil, hi, e2, e4, e9]
    refine ⟨wrap_i64 (by omega) (by omega), ?_⟩
    have hD1 : List.take (l.length - i) (List.drop i (List.map Pipe.row l)) = (l.drop i).map Pipe.row := by rw [← List.map_drop, List.take_of_length_le (by simp)]
    simp [hD1]
    have hq := @prow_oneP l i
    simp at hq
    rw [if_pos hq]
    simp
    refine ⟨prow_dropP, by omega, m2, .of (by kernel_rfl), ?_⟩
    rw [show List.take (l.length - i) (List.drop i (List.map Pipe.row l)) = List.drop i (List.map Pipe.row l) from List.take_of_length_le (by simp), ins_m2P (n := l.length) (by simp) hi m1 m3]
    simp [XEndT]
    refine ⟨by omega, ?_⟩
    rw [List.take_of_length_le (by simp; omega)]
    rfl
  · simp at h
    have h2 : ¬ cp < l.length + 1 := by omega
    have h3 : l.length + 1 ≤ cp := by omega
    have h5 : (l.length : Int) < l.length + 1 := by omega
    have h6 : (l.length : Int) + 1 ≤ cp := by omega
    have h7 : (0 : Int) ≤ i + 1 := by omega
    simp [e3, hil, hi, e2, h2, h3, h5, h6, h7]
    refine ⟨wrap_i64 (by omega) (by omega), wrap_i64 (by omega) (by omega), ?_⟩
    refine xcall_gives (ext_overlaps (tS := 23) (tR := 4) (e := 103) (size := 4) Go.Proofs.Tryz.func147 (by kernel_rfl) (by kernel_rfl) (by kernel_rfl) (by kernel_rfl) (by kernel_rfl) (fun w => by kernel_rfl) (by simp [get]; rfl) (by simp [get]; rfl) (by decide) (by decide) (by omega)) ?_
    simp
    refine XDraw.intro (by kernel_rfl) ?_
    have e8 : ¬ i = l.length + 1 := by omega
    simp [e3, hil, hi, e2, h7, e5, e8]
    refine ⟨wrap_i64 (by omega) (by omega), ?_⟩
    have f1 : min (l.length + 1 - i) (l.length - i) = l.length - i := by omega
    have f2 : List.take (l.length - i) (List.drop i (List.map Pipe.row l ++ [[AV.any, AV.any, AV.any, AV.any]])) = (l.drop i).map Pipe.row := by
      rw [List.drop_append_of_le_length (by simp; omega), List.take_append_of_le_length (by simp), ← List.map_drop, List.take_of_length_le (by simp)]
    have f3 : i + (l.length + 1 - i) ≤ l.length + 1 := by omega
    simp [f1, f2, f3]
    have hq := @prow_oneP l i
    simp at hq
    rw [if_pos hq]
    simp
    refine ⟨prow_dropP, by omega, .of (by kernel_rfl), ?_⟩
    obtain ⟨M, hM, m1, m2, m3⟩ := ins_m3P (R := l.map Pipe.row) (n := l.length) (i := i) (r := [AV.p (PV.int IntKind.i64 x.fr.part), AV.p (PV.str x.fr.name), AV.p (PV.int IntKind.i64 x.to.part), AV.p (PV.str x.to.name)]) (a := [AV.any, AV.any, AV.any, AV.any]) (by simp) hi prow_lenP
    rw [show List.take (l.length - i) (List.drop i (List.map Pipe.row l)) = List.drop i (List.map Pipe.row l) from List.take_of_length_le (by simp), hM]
    have e10 : min 1 (l.length + 1 - i) = 1 := by omega
    have e11 : List.take (l.length + 1 - i) [[AV.p (PV.int IntKind.i64 x.fr.part), AV.p (PV.str x.fr.name), AV.p (PV.int IntKind.i64 x.to.part), AV.p (PV.str x.to.name)]] = [[AV.p (PV.int IntKind.i64 x.fr.part), AV.p (PV.str x.fr.name), AV.p (PV.int IntKind.i64 x.to.part), AV.p (PV.str x.to.name)]] := List.take_of_length_le (by simp; omega)
    simp [e5, e8, e10, e11]
    refine ⟨by omega, m2, ?_⟩
    rw [m3]
    simp [XEndT]
    refine ⟨by omega, ?_⟩
    rw [List.take_of_length_le (by simp; omega)]
    rfl

theorem g_InsPipe (l : List Pipe) (i : Nat) (x : Pipe) (b bv : Nat) (c : Option Nat) (s : Store) (nx : Nat) (hb : b < nx) (hn : bv < nx) (hne : b ≠ bv) (hi : i ≤ l.length) (hl : l.length < 100000)
    (hg : get s b = accB 4 (l.map Pipe.row)) (hv : get s bv = some (.cells 4 [x.row])) :
    Gives Go.Proofs.Tryz.prog GL 92 [.acc b 4 l.length, .p (.int .i64 i), .ref bv 4 0 1 c] s nx (.p (.lst 4 ((l.take i ++ x :: l.drop i).map Pipe.enc))) [b, bv] [(b, none), (bv, none)] nx := by
  refine Gives.of_acc (fun h => ?_) (fun h => ?_)
  · have hl0 : l = [] := List.length_eq_zero_iff.1 h
    subst hl0
    have hi0 : i = 0 := by simpa using hi
    subst hi0
    refine (ins_nilP x b bv c s nx hn hv).more (by simp) (fun s1 hag q => ?_)
    have hgb : get s1 b = none := by rw [hag b (by simp), hg]; simp [accB]
    by_cases e : b = q
    · subst e
      simp [get, Ne.symm hne, hgb]
    · simp [get, e]
  · have hg2 : get s b = some (.cells 4 (l.map Pipe.row)) := by
      rw [hg, accB, if_neg]
      simp
      rintro rfl
      simp at h
    by_cases hil : i = l.length
    · subst hil
      have := ins_endP l x b bv c s nx hb hn hne h hl hg2 hv
      simpa using this
    · refine Gives.capped (j := 0) rfl (fun cp hcp => ?_)
      exact ins_refP l i x b bv cp c s nx hb hn hne (by omega) hl hcp hg2 hv

end Go.Am
/- Contracts: slices.Delete of one part; slices.DeleteFunc over pipes. -/
namespace Go.Am
open Go Go.Proofs Go.Pn


theorem VR.nils_lst {φ : Places} {own : Nat → Prop} {w : World} {k : Nat} {v : Value} (h : VR φ own w .nils v) : VR φ own w (.p (.lst k [])) v := by
  obtain ⟨a, rfl⟩ := h.nils_inv
  exact .p _ _ (.lst0 ..)
end Go.Am
/- Contracts: package circuit: Add. -/
namespace Go.Am
open Go Go.Proofs Go.Pn


/-- The names of a right circuit rise. -/
theorem parts_step {c : Circuit} (h : checkP c = 0) {k : Nat} {x y : Part} (hx : c.parts[k]? = some x) (hy : c.parts[k + 1]? = some y) : Op.bytesLess x.name y.name = true := by
  have hp : firstErr (partAt c) c.parts.length = 0 := by unfold checkP at h; grind
  have hk : k + 1 < c.parts.length := (List.getElem?_eq_some_iff.1 hy).1
  have h2 := firstErr_zero hp hk
  unfold partAt at h2
  rw [hy] at h2
  simp only [Nat.add_sub_cancel, hx, Option.map_some, Option.getD_some] at h2
  split at h2
  · rename_i h3; exact (h3 h2).elim
  · split at h2
    · cases h2
    · rename_i h3
      have : ¬ ¬ Op.bytesLess x.name y.name = true := fun h4 => h3 ⟨by omega, h4⟩
      exact Decidable.not_not.1 this
theorem parts_lt {c : Circuit} (h : checkP c = 0) : ∀ {d k : Nat} {x y : Part}, c.parts[k]? = some x → c.parts[k + d + 1]? = some y → Op.bytesLess x.name y.name = true
  | 0, k, x, y, hx, hy => parts_step h hx hy
  | d + 1, k, x, y, hx, hy => by
    have hlt : k + d + 1 < c.parts.length := by
      have := (List.getElem?_eq_some_iff.1 hy).1
      omega
    obtain ⟨z, hz⟩ := get_lt hlt
    exact bl_trans (parts_lt h hx hz) (parts_step h hz hy)
theorem parts_mono {c : Circuit} (h : checkP c = 0) {i j : Nat} {x y : Part} (hij : i < j) (hx : c.parts[i]? = some x) (hy : c.parts[j]? = some y) : Op.bytesLess x.name y.name = true := by
  obtain ⟨d, rfl⟩ := Nat.exists_eq_add_of_lt hij
  exact parts_lt h hx hy

end Go.Am
/- Contracts: package circuit: Remove. -/
namespace Go.Am
open Go Go.Proofs Go.Pn


theorem parts_inj {c : Circuit} (h : checkP c = 0) {i j : Nat} {x y : Part} (hx : c.parts[i]? = some x) (hy : c.parts[j]? = some y) (hn : x.name = y.name) : i = j := by
  rcases Nat.lt_trichotomy i j with hl | hl | hl
  · have := parts_mono h hl hx hy
    rw [hn, bl_irrefl] at this; cases this
  · exact hl
  · have := parts_mono h hl hy hx
    rw [hn, bl_irrefl] at this; cases this

end Go.Am
