/- Contracts: equal places; the law of chapter 25 awake. -/
import Derived.Test.YtfcljeghfckabaaGreatDoorZD3
import Derived.Test.YtfcljeghfckabaaGreatDoorZC7
import Derived.Test.YtfcljeghfckabaaGreatDoorZC5
import Derived.Test.YtfcljeghfckabaaGreatDoorZA8
set_option linter.unusedVariables false
set_option linter.unusedSimpArgs false
namespace Go.Am
open Go Go.Proofs Go.Pn

theorem c_Eq_Plc (xs ys : List Plc) (hl : xs.length < 4611686018427387904) : Pure Go.Proofs.Tryz.prog GL 20 [.p (.lst 2 (xs.map Plc.enc)), .p (.lst 2 (ys.map Plc.enc))] (.p (.bool (decide (xs = ys)))) := by
  refine Pure.of_walk (N := 26) Go.Proofs.Tryz.func20 rfl rfl rfl (by simp) (by first | (simp; done) | simp [*]) ?_
  simp
  refine xif_split (fun h0 => ?_) (fun h0 => ?_)
  · simp at h0
    have hne : ¬ xs = ys := fun h => h0 (by rw [h])
    simp [XEndT, hne]
  · simp at h0
    simp
    refine XLoop.go [0, 1, 12] [] 0 [] (fun _ => []) (fun _ (k : Nat) => [(13, .p (.int .i64 k))]) (fun _ _ => []) (fun k => k ≤ xs.length ∧ ∀ (j : Nat), j < k → xs[j]? = ys[j]?) (fun k => xs.length - k) 0 ⟨by omega, fun j h => by omega⟩ ?_ ?_
    · simp
    · rintro k ⟨hk, hp⟩
      simp
      refine xif_split (fun h => ?_) (fun h => ?_)
      · simp at h
        obtain ⟨x, e⟩ := get_lt h
        have h2 : k < ys.length := by omega
        obtain ⟨y, e2⟩ := get_lt h2
        simp
        refine XDraw.intro (by kernel_rfl) ?_
        simp [h, e, h2, e2, -getElem?_pos, List.getElem?_cons_zero, List.getElem?_cons_succ]
        refine ⟨.of (by kernel_rfl), ?_⟩
        refine xif_split (fun h3 => ?_) (fun h3 => ?_)
        · have hne : ¬ xs = ys := fun h => by subst h; rw [e] at e2; cases e2; simp at h3
          simp [XEndT, hne]
        · have hxy : x = y := by simpa using h3
          subst hxy
          simp
          refine ⟨wrap_i64 (by omega) (by omega), k + 1, ⟨by omega, fun j hj => ?_⟩, by omega, ?_⟩
          · by_cases hjk : j = k
            · subst hjk; rw [e, e2]
            · exact hp j (by omega)
          · simp
      · simp at h
        have hk2 : k = xs.length := by omega
        have hxy : xs = ys := List.ext_getElem? fun j => by
          by_cases hj : j < k
          · exact hp j hj
          · rw [List.getElem?_eq_none (by omega), List.getElem?_eq_none (by omega)]
        simp [XEndT, hxy]

theorem c_Eq_Str (xs ys : List Txt) (hl : xs.length < 4611686018427387904) : Pure Go.Proofs.Tryz.prog GL 36 [.p (.lst 1 (xs.map Txt.enc)), .p (.lst 1 (ys.map Txt.enc))] (.p (.bool (decide (xs = ys)))) := by
  refine Pure.of_walk (N := 26) Go.Proofs.Tryz.func36 rfl rfl rfl (by simp) (by first | (simp; done) | simp [*]) ?_
  simp
  refine xif_split (fun h0 => ?_) (fun h0 => ?_)
  · simp at h0
    have hne : ¬ xs = ys := fun h => h0 (by rw [h])
    simp [XEndT, hne]
  · simp at h0
    simp
    refine XLoop.go [0, 1, 12] [] 0 [] (fun _ => []) (fun _ (k : Nat) => [(13, .p (.int .i64 k))]) (fun _ _ => []) (fun k => k ≤ xs.length ∧ ∀ (j : Nat), j < k → xs[j]? = ys[j]?) (fun k => xs.length - k) 0 ⟨by omega, fun j h => by omega⟩ ?_ ?_
    · simp
    · rintro k ⟨hk, hp⟩
      simp
      refine xif_split (fun h => ?_) (fun h => ?_)
      · simp at h
        obtain ⟨x, e⟩ := get_lt h
        have h2 : k < ys.length := by omega
        obtain ⟨y, e2⟩ := get_lt h2
        simp
        refine XDraw.intro (by kernel_rfl) ?_
        simp [h, e, h2, e2, -getElem?_pos, List.getElem?_cons_zero, List.getElem?_cons_succ]
        refine ⟨.of (by kernel_rfl), ?_⟩
        refine xif_split (fun h3 => ?_) (fun h3 => ?_)
        · have hne : ¬ xs = ys := fun h => by subst h; rw [e] at e2; cases e2; simp at h3
          simp [XEndT, hne]
        · have hxy : x = y := by simpa using h3
          subst hxy
          simp
          refine ⟨wrap_i64 (by omega) (by omega), k + 1, ⟨by omega, fun j hj => ?_⟩, by omega, ?_⟩
          · by_cases hjk : j = k
            · subst hjk; rw [e, e2]
            · exact hp j (by omega)
          · simp
      · simp at h
        have hk2 : k = xs.length := by omega
        have hxy : xs = ys := List.ext_getElem? fun j => by
          by_cases hj : j < k
          · exact hp j hj
          · rw [List.getElem?_eq_none (by omega), List.getElem?_eq_none (by omega)]
        simp [XEndT, hxy]


theorem c_pneumaticlaw25_few (c : Circuit) (l : List Plc) (hs : Sized c) : Pure Go.Proofs.Tryz.prog GL 10 [c.av, .p (.lst 2 (l.map Plc.enc))] (.p (.bool (fewP c && decide (l.length ≤ 70)))) := by
  refine Pure.of_walk (N := 12) Go.Proofs.Tryz.func10 rfl rfl rfl (by simp) (by first | (simp; done) | simp [*]) ?_
  simp
  refine xcall_pure (c_pneumaticref21_Few c hs) ?_
  cases hf : fewP c with
  | false => simp [XEndT]
  | true =>
    simp [XEndT]
    try omega

/-- The wide places of the example. -/
def wide25 : List Plc := [⟨0, 0⟩, ⟨3, 0⟩, ⟨4, 0⟩, ⟨1, 2⟩]
def tight25 : List Plc := [⟨0, 0⟩, ⟨3, 0⟩, ⟨4, 0⟩, ⟨1, 0⟩]
theorem k25_place : checkP fourC = 0 ∧ placedL fourC = tight25 := by decide +kernel
theorem k25_tight : layE fourC tight25 = 0 ∧ lenRes fourC tight25 = 6 ∧ drawRes fourC tight25 = [[65], [86], [46], [65, 48], [83]] := by decide +kernel
theorem k25_wide : layE fourC wide25 = 0 ∧ lenRes fourC wide25 = 12 ∧ crossRes fourC wide25 = 0 := by decide +kernel
theorem k25_arr : arrErr fourC wide25 1 = 0 ∧ arrRes fourC wide25 1 = wide25 := by
  have e1 : arrErr fourC wide25 1 = 0 := by decide +kernel
  have e2 : partsN wide25 1 wide25.length = [3] ∧ colsN wide25 1 wide25.length = [2] := by decide +kernel
  have e3 : sortI [2] = [2] := by simp [sortI]
  refine ⟨e1, ?_⟩
  unfold arrRes
  rw [if_neg (by simp [e1]), e2.1, e2.2, e3]
  decide +kernel
set_option maxRecDepth 20000 in
theorem c_pneumaticlaw25_awake : Pure Go.Proofs.Tryz.prog GL 11 [] (.p (.bool true)) := by
  obtain ⟨hs, _⟩ := four_sized
  obtain ⟨a1, a2⟩ := k25_place
  obtain ⟨b1, b2, b3⟩ := k25_tight
  obtain ⟨d1, d2, d3⟩ := k25_wide
  obtain ⟨e1, e2⟩ := k25_arr
  have hnm : checkP fourC = 0 → ∀ p ∈ fourC.parts, p.name.length ≤ 60 := fun _ => by decide +kernel
  have hP := c_layout_Place fourC hs
  have hL1 := c_layout_Length fourC tight25 hs
  have hD := c_layout_Draw fourC tight25 hs hnm
  have hL2 := c_layout_Length fourC wide25 hs
  have hA := c_layout_Arrange fourC wide25 1 hs
  have hC := c_layout_Crossings fourC wide25 hs
  rw [a1, if_pos rfl, a2] at hP
  rw [b1, b2] at hL1
  rw [b1, b3] at hD
  rw [d1, d2] at hL2
  rw [e1, e2] at hA
  rw [d1, d3] at hC
  refine Pure.of_aevT (N := 99) Go.Proofs.Tryz.func11 rfl rfl rfl (by simp) rfl ?_
  refine AEv.seqY ?_
  simp
  refine AEv.seqY ?_
  simp
  refine xcall_pure (c_pneumaticlaw21_Four) ?_
  simp
  refine AEv.seqY ?_
  simp
  refine xcall_pure hP ?_
  simp
  refine AEv.seqY ?_
  simp
  refine xcall_pure hL1 ?_
  simp
  refine AEv.seqY ?_
  simp
  refine xcall_pure hD ?_
  simp
  refine AEv.seqY ?_
  simp
  refine AEv.leads (st := ⟨[(8, .p (.lst 2 (wide25.map Plc.enc))), (6, .p (.lst 1 ([[65], [86], [46], [65, 48], [83]].map Txt.enc))), (7, .p (.int .i64 0)), (4, .p (.int .i64 6)), (5, .p (.int .i64 0)), (2, .p (.lst 2 (tight25.map Plc.enc))), (3, .p (.int .i64 0)), (1, .ptr 0 2 0 0)], [(0, some (.cells 2 [[.p (.lst 3 (fourC.parts.map Part.enc)), .p (.lst 4 (fourC.pipes.map Pipe.enc))]]))], 1⟩) ?_ ?_
  · refine Leads.frz_sub (B := [1]) (ρ := [0]) [(8, .p (.lst 2 (wide25.map Plc.enc)))] [(1, none)] (Freeze.of _ _ ?_ (by simp) (by simp [keys])) ?_
    · intro p hp
      simp only [List.mem_cons, List.not_mem_nil, or_false] at hp
      subst hp
      exact .frz _ _ (.one _ _ (.rows (rows := wide25.map Plc.enc) (by simp) rfl rfl rfl))
    · simp
      try decide
  refine xc_sound ?_
  simp
  refine xcall_pure hL2 ?_
  simp
  refine xcall_pure hA ?_
  simp
  refine xcall_pure hC ?_
  simp
  refine xcall_lent ?_
  simp
  refine ⟨_, c_Eq_Plc tight25 tight25 (by decide), rfl, ?_⟩
  simp
  refine xcall_lent ?_
  simp
  refine ⟨_, c_Eq_Str [[65], [86], [46], [65, 48], [83]] [[65], [86], [46], [65, 48], [83]] (by decide), rfl, ?_⟩
  simp
  refine xcall_pure (c_Eq_Plc wide25 wide25 (by decide)) ?_
  simp [XEndT]
end Go.Am
