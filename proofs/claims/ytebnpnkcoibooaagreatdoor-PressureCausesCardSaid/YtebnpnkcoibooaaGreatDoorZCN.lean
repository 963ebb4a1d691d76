/- Contracts: the law PressureCauses. -/
import Derived.Test.YtebnpnkcoibooaaGreatDoorZCM
set_option linter.unusedVariables false
set_option linter.unusedSimpArgs false
namespace Go.Am
open Go Go.Proofs Go.Pn


theorem state_two {c : Circuit} {l : List Int} {n : Nat} : decide (stateOf c l n = 2) = (prs c l).contains n := by
  unfold stateOf
  by_cases h : (prs c l).contains n = true
  · rw [if_pos h, h]; rfl
  · rw [if_neg h]
    have : (prs c l).contains n = false := by simpa using h
    rw [this]
    split <;> rfl
theorem want_any {c : Circuit} {l : List Int} (h : checkQ c l = 0) {i : Nat} (hi : i < c.parts.length) : decide ((i : Int) ∈ flowL c l) = (passAt c l i).any (wantB c l i) := by
  rw [Bool.eq_iff_iff, decide_eq_true_eq, flow_mem hi]
  unfold flowB
  rw [List.any_eq_true, List.any_eq_true]
  constructor
  · rintro ⟨y, hy, hf⟩
    exact ⟨y, hy, by rw [want_flows (pass_ports h hi hy).2.2]; exact hf⟩
  · rintro ⟨y, hy, hf⟩
    exact ⟨y, hy, by rw [← want_flows (pass_ports h hi hy).2.2]; exact hf⟩
/-- How many of the first sources are under pressure. -/
def fedT (c : Circuit) (l : List Int) (i : Nat) (y : Pass) (j : Nat) : Nat := ((y.fr.take j).filter fun s => (prs c l).contains (netN c i s)).length
theorem fedT_le {c : Circuit} {l : List Int} {i : Nat} {y : Pass} {j : Nat} : fedT c l i y j ≤ j := by
  have h1 := List.length_filter_le (fun s => (prs c l).contains (netN c i s)) (y.fr.take j)
  have h2 := List.length_take_le j y.fr
  unfold fedT; omega
theorem fedT_snoc {c : Circuit} {l : List Int} {i : Nat} {y : Pass} {j : Nat} {s : Txt} (e : y.fr[j]? = some s) : fedT c l i y (j + 1) = fedT c l i y j + (if (prs c l).contains (netN c i s) = true then 1 else 0) := by
  unfold fedT
  rw [take_snoc e, List.filter_append, List.length_append]
  by_cases h : (prs c l).contains (netN c i s) = true
  · rw [if_pos h, List.filter_cons_of_pos (p := fun s => (prs c l).contains (netN c i s)) h]; rfl
  · rw [if_neg h, List.filter_cons_of_neg (p := fun s => (prs c l).contains (netN c i s)) h]; rfl
theorem want_fedT {c : Circuit} {l : List Int} {i : Nat} {y : Pass} : wantB c l i y = (decide (fedT c l i y y.fr.length = y.fr.length) || (decide (0 < fedT c l i y y.fr.length) && !y.all)) := by
  unfold wantB fedT
  rw [List.take_length]

theorem c_pneumaticlaw24_PressureCauses_1_1 (g : List Port) (i : Int) (s : Txt) (hg : g.length < 4611686018427387904) : Pure Go.Proofs.Tryz.prog GL 24 [.p (.lst 2 (g.map Port.enc)), .iptr 1 [[.int .i64 i]] 0 0, .iptr 1 [[.str s]] 0 0] (.p (.bool (decide ((⟨i, s⟩ : Port) ∈ g)))) := by
  refine Pure.of_walk (N := 10) Go.Proofs.Tryz.func24 rfl rfl rfl (by simp) (by first | (simp; done) | simp [*]) ?_
  simp
  refine xcall_pure (c_Con_Port g ⟨i, s⟩ hg) ?_
  simp [XEndT]

theorem c_pneumaticlaw24_PressureCauses_1 (c : Circuit) (l : List Int) (h : checkQ c l = 0) (i : Nat) (s : Txt) (hp : (⟨i, s⟩ : Port) ∈ allP c) : Pure Go.Proofs.Tryz.prog GL 22 [.p (.int .i64 i), .p (.str s), .iptr 1 [[.lst 1 ((nets c).map Ports.enc)]] 0 0, .iptr 1 [[.lst 1 ((states c l).map Int.enc)]] 0 0] (.p (.bool ((prs c l).contains (netN c i s)))) := by
  refine Pure.of_walk (N := 20) Go.Proofs.Tryz.func22 rfl rfl rfl (by simp) (by first | (simp; done) | simp [*]) ?_
  have hc := (checkQ_zero h).1
  have hnl := netsL hc
  obtain ⟨k1, k2⟩ := given_net hc (allP_mem.1 hp)
  have e2 : (states c l)[netN c i s]? = some (stateOf c l (netN c i s)) := by rw [states, List.getElem?_map, List.getElem?_range k2]; rfl
  have e3 : netN c i s < (states c l).length := by rw [states_len]; exact k2
  simp
  refine xcall_lent ?_
  simp
  refine ⟨_, c_IdxF_Ports (nets c) (fun g => decide ((⟨i, s⟩ : Port) ∈ g)) 24 [.iptr 1 [[.int .i64 i]] 0 0, .iptr 1 [[.str s]] 0 0] rfl (by have := hnl.1; omega) (fun g hg => c_pneumaticlaw24_PressureCauses_1_1 g i s (by have := hnl.2 g hg; omega)), rfl, ?_⟩
  rw [← netP, k1]
  simp [e2, e3, Int.enc, state_two, -getElem?_pos, List.getElem?_cons_zero, List.getElem?_cons_succ]
  simp [XEndT]

theorem c_pneumaticlaw24_PressureCauses_2 (c : Circuit) (l : List Int) (h : checkQ c l = 0) (p : Port) (hp : p ∈ allP c) : Pure Go.Proofs.Tryz.prog GL 29 [p.av, .iptr 2 [[.lst 3 (c.parts.map Part.enc), .lst 4 (c.pipes.map Pipe.enc)]] 0 0, .iptr 1 [[.lst 1 (l.map Int.enc)]] 0 0, .iptr 1 [[.lst 1 ((flowL c l).map Int.enc)]] 0 0] (.p (.bool (causeB c l p))) := by
  refine Pure.of_walk (N := 55) Go.Proofs.Tryz.func29 rfl rfl rfl (by simp) (by first | (simp; done) | simp [*]) ?_
  have hc := (checkQ_zero h).1
  have h2 := check_parts hc
  obtain ⟨i, q, a, hi, hnm, F⟩ := port_facts h hp
  obtain ⟨pi, pn⟩ := p
  simp only at hi hnm
  subst hi
  have e := F.here
  have f2 := F.pos
  have f4 := F.ltl
  have f5 := F.lt
  have hfl : (flowL c l).length < 4611686018427387904 := by
    have := @flowT_len c l c.parts.length
    have e : flowT c l c.parts.length = flowL c l := rfl
    rw [e] at this; omega
  have hpo : posOf l (i : Int) = a := by rw [posOf, Int.toNat_natCast, f2]; rfl
  have hq14 : q.kind.toNat < 14 := by have := F.kind; omega
  have hkc : ((q.kind.toNat : Nat) : Int) = q.kind := by have := F.kind; omega
  have hop := c_pneumaticref20_Open q.kind.toNat a hq14
  rw [hkc] at hop
  have i1 : decide ((i : Int) < 0) = false := by simp
  have i3 : ¬ c.parts.length ≤ i := by omega
  have hcb : causeB c l ⟨i, pn⟩ = (decide (q.kind = 0) || (decide ((openOf q.kind.toNat (decide (a = 1))).1 = pn) && decide ((i : Int) ∈ flowL c l))) := by
    unfold causeB
    simp only
    rw [F.kat, hpo]
  rw [hcb]
  simp [i1, i3]
  refine XDraw.intro (by kernel_rfl) ?_
  simp [f2, f4, e, f5, Int.enc, Part.enc, -getElem?_pos, List.getElem?_cons_zero, List.getElem?_cons_succ]
  refine xcall_pure hop ?_
  simp
  refine ⟨.of (by kernel_rfl), ?_⟩
  simp [f2, f4, e, f5, Int.enc, Part.enc, -getElem?_pos, List.getElem?_cons_zero, List.getElem?_cons_succ]
  by_cases hk : q.kind = 0
  · simp [hk, XEndT]
  · by_cases hn : (openOf q.kind.toNat (decide (a = 1))).1 = pn
    · simp [hk, hn]
      refine xcall_pure (c_Con_Int (flowL c l) i hfl) ?_
      simp [XEndT, hk, hn]
    · simp [hk, hn, XEndT]

set_option maxRecDepth 20000 in
theorem c_pneumaticlaw24_PressureCauses (c : Circuit) (l : List Int) (hs : Sized c) (hl : l.length < 4611686018427387904) : Pure Go.Proofs.Tryz.prog GL 4 [c.av, Ints.av l] (.p (.bool true)) := by
  refine Pure.of_walk (N := 147) Go.Proofs.Tryz.func4 rfl rfl rfl (by simp) (by first | (simp; done) | simp [*]) ?_
  have haw := c_pneumaticlaw24_awake
  simp
  refine xcall_pure (c_pneumaticlaw24_right c l hs hl) ?_
  cases hf : (fewP c && decide (l.length ≤ 200) && decide (checkQ c l = 0)) with
  | false =>
    simp
    refine xcall_pure haw ?_
    simp [XEndT]
  | true =>
    have h : checkQ c l = 0 := by simp at hf; exact hf.2
    have hc := (checkQ_zero h).1
    have h2 := check_parts hc
    have hnl := netsL hc
    have hfl : (flowL c l).length < 4611686018427387904 := by
      have := @flowT_len c l c.parts.length
      have e : flowT c l c.parts.length = flowL c l := rfl
      rw [e] at this; omega
    have hN := c_circuit_Nets c hs
    have hS := c_pressure_Nets c l hs hl
    have hF := c_pressure_Flow c l hs hl
    rw [if_neg (by simpa using hc), hc] at hN
    rw [if_pos h, h] at hS hF
    simp
    refine xcall_pure hN ?_
    simp
    refine xcall_pure hS ?_
    simp
    refine xcall_pure hF ?_
    simp [states_len]
    refine XLoop.go [2, 3, 5, 7, 9, 11, 62, 63] [0, 1, 2, 3, 4] 0 [] (fun _ => []) (fun _ (k : Nat) => [(64, .p (.int .i64 k))]) (fun _ _ => []) (fun k => k ≤ c.parts.length) (fun k => c.parts.length - k) 0 (by omega) ?_ ?_
    · simp
      try decide
    · rintro k hk
      simp
      refine xif_split (fun h3 => ?_) (fun h3 => ?_)
      · simp at h3
        obtain ⟨q, e⟩ := get_lt h3
        obtain ⟨a, F⟩ := part_facts h e
        have f2 := F.pos
        have f4 := F.ltl
        have hwa := want_any h h3
        simp [h3, e, Part.enc, -getElem?_pos, List.getElem?_cons_zero, List.getElem?_cons_succ]
        refine XDraw.intro (by kernel_rfl) ?_
        simp [f2, f4, Int.enc, -getElem?_pos, List.getElem?_cons_zero, List.getElem?_cons_succ]
        refine xcall_pure (c_part_Passes q.kind a) ?_
        rw [F.passes, F.placed]
        simp [Passes.av]
        refine ⟨.of (by kernel_rfl), ?_⟩
        rcases pass_cases c l k with hp | ⟨y, hp⟩
        · rw [hp] at hwa
          simp [hp]
          refine XLoop.go [2, 3, 5, 7, 9, 11, 12, 62, 63, 64, 81, 82] [0, 1, 2, 3, 4] 0 [] (fun _ => []) (fun _ (j : Nat) => [(16, .p (.bool false)), (83, .p (.int .i64 0))]) (fun _ _ => []) (fun j => j = 0) (fun j => 1 - j) 0 rfl ?_ ?_
          · simp
            try decide
          · intro j hj
            simp
            refine xcall_lent ?_
            simp
            refine ⟨_, c_Con_Int (flowL c l) k hfl, rfl, ?_⟩
            rw [hwa]
            simp
            refine ⟨wrap_i64 (by omega) (by omega), k + 1, by omega, by omega, ?_⟩
            simp
            try decide
        · obtain ⟨hto, hfr, _⟩ := pass_ports h h3 (z := y) (by rw [hp]; simp)
          have hq14 : q.kind.toNat < 14 := by have := F.kind; omega
          have hyl : y.fr.length ≤ 2 := (by decide +kernel : ∀ k, k < 14 → ∀ b, ∀ z ∈ passedOf k b, z.fr.length ≤ 2) q.kind.toNat hq14 (decide (a = 1)) y (by rw [← F.pass, hp]; simp)
          have hwf := @want_fed c l h k h3 y (by rw [hp]; simp)
          rw [hp] at hwa
          simp only [List.any_cons, List.any_nil, Bool.or_false] at hwa
          simp [hp]
          refine XLoop.go [2, 3, 5, 7, 9, 11, 12, 62, 63, 64, 81, 82] [0, 1, 2, 3, 4] 0 [] (fun _ => []) (fun _ (j : Nat) => [(16, .p (.bool (decide (1 ≤ j) && wantB c l k y))), (83, .p (.int .i64 j))]) (fun _ _ => []) (fun j => j ≤ 1) (fun j => 1 - j) 0 (by omega) ?_ ?_
          · simp
            try decide
          · intro j hj
            obtain rfl | rfl : j = 0 ∨ j = 1 := by omega
            · simp
              refine XLoop.go [2, 3, 5, 7, 9, 11, 12, 16, 18, 62, 63, 64, 81, 82, 83, 88, 89] [0, 1, 2, 3, 4, 6] 0 [] (fun _ => []) (fun _ (j : Nat) => [(19, .p (.int .i64 (fedT c l k y j))), (90, .p (.int .i64 j))]) (fun _ _ => []) (fun j => j ≤ y.fr.length) (fun j => y.fr.length - j) 0 (by omega) ?_ ?_
              · simp [fedT]
                try decide
              · intro j hj
                have hle := @fedT_le c l k y j
                have hsn := @fedT_snoc c l k y j
                have hend : j = y.fr.length → wantB c l k y = (decide (fedT c l k y j = y.fr.length) || (decide (0 < fedT c l k y j) && !y.all)) := fun e => by rw [e]; exact want_fedT
                generalize fedT c l k y j = n at hle hsn hend
                simp
                refine xif_split (fun h4 => ?_) (fun h4 => ?_)
                · simp at h4
                  obtain ⟨t, et⟩ := get_lt h4
                  have htp := hfr t (List.mem_of_getElem? et)
                  have hsn2 := hsn et
                  simp [h4, et, Txt.enc, -getElem?_pos, List.getElem?_cons_zero, List.getElem?_cons_succ]
                  refine xcall_lent ?_
                  simp
                  refine ⟨_, c_pneumaticlaw24_PressureCauses_1 c l h k t htp, rfl, ?_⟩
                  cases hb : (prs c l).contains (netN c k t) with
                  | true =>
                    rw [hb, if_pos rfl] at hsn2
                    simp
                    refine ⟨wrap_i64 (by omega) (by omega), wrap_i64 (by omega) (by omega), j + 1, by omega, by omega, ?_⟩
                    simp [hsn2]
                    try decide
                  | false =>
                    rw [hb, if_neg (by simp)] at hsn2
                    simp
                    refine ⟨wrap_i64 (by omega) (by omega), j + 1, by omega, by omega, ?_⟩
                    simp [hsn2]
                    try decide
                · simp at h4
                  have hw := hend (by omega)
                  by_cases c1 : n = y.fr.length
                  · have hwt : wantB c l k y = true := by rw [hw]; simp [c1]
                    have c1' : ((n : Int) = (y.fr.length : Int)) := by omega
                    simp [c1']
                    have hfd := hwf hwt
                    refine xcall_lent ?_
                    simp
                    refine ⟨_, c_pneumaticlaw24_PressureCauses_1 c l h k y.to hto, rfl, ?_⟩
                    rw [hfd]
                    simp
                    refine ⟨1, by omega, by omega, ?_⟩
                    simp [hwt]
                    try decide
                  · have c1' : ¬ ((n : Int) = (y.fr.length : Int)) := by omega
                    by_cases c2 : 0 < n
                    · cases c3 : y.all with
                      | true =>
                        have hwt : wantB c l k y = false := by rw [hw]; simp [c1, c3]
                        simp [c1', c2, c3]
                        refine ⟨1, by omega, by omega, ?_⟩
                        simp [hwt]
                        try decide
                      | false =>
                        have hwt : wantB c l k y = true := by rw [hw]; simp [c2, c3]
                        simp [c1', c2, c3]
                        have hfd := hwf hwt
                        refine xcall_lent ?_
                        simp
                        refine ⟨_, c_pneumaticlaw24_PressureCauses_1 c l h k y.to hto, rfl, ?_⟩
                        rw [hfd]
                        simp
                        refine ⟨1, by omega, by omega, ?_⟩
                        simp [hwt]
                        try decide
                    · have hwt : wantB c l k y = false := by rw [hw]; simp [c1, c2]
                      simp [c1', c2]
                      refine ⟨1, by omega, by omega, ?_⟩
                      simp [hwt]
                      try decide
            · simp
              refine xcall_lent ?_
              simp
              refine ⟨_, c_Con_Int (flowL c l) k hfl, rfl, ?_⟩
              rw [hwa]
              simp
              refine ⟨wrap_i64 (by omega) (by omega), k + 1, by omega, by omega, ?_⟩
              simp
              try decide
      · simp
        refine XLoop.go [2, 3, 7, 9, 128, 129] [0, 1, 3, 4] 0 [] (fun _ => []) (fun _ (k : Nat) => [(130, .p (.int .i64 k))]) (fun _ _ => []) (fun k => k ≤ (nets c).length) (fun k => (nets c).length - k) 0 (by omega) ?_ ?_
        · simp
          try decide
        · rintro k hk
          simp
          refine xif_split (fun h4 => ?_) (fun h4 => ?_)
          · simp at h4
            obtain ⟨g, eg⟩ := get_lt h4
            have hci := cause_iff h eg
            have hgl := hnl.2 g (List.mem_of_getElem? eg)
            have e2 : (states c l)[k]? = some (stateOf c l k) := states_at h4
            have e3 : k < (states c l).length := by rw [states_len]; exact h4
            simp [h4, eg, Ports.enc, -getElem?_pos, List.getElem?_cons_zero, List.getElem?_cons_succ]
            refine xcall_lent ?_
            simp
            refine ⟨_, c_ConF_Port g (causeB c l) 29 [.iptr 2 [[.lst 3 (c.parts.map Part.enc), .lst 4 (c.pipes.map Pipe.enc)]] 0 0, .iptr 1 [[.lst 1 (l.map Int.enc)]] 0 0, .iptr 1 [[.lst 1 ((flowL c l).map Int.enc)]] 0 0] rfl (by omega) (fun p hp => c_pneumaticlaw24_PressureCauses_2 c l h p (netP_of hc eg hp).2), rfl, ?_⟩
            rw [hci]
            simp [e2, e3, Int.enc, state_two, -getElem?_pos, List.getElem?_cons_zero, List.getElem?_cons_succ]
            refine ⟨wrap_i64 (by omega) (by omega), k + 1, by omega, by omega, ?_⟩
            simp
            try decide
          · simp
            refine xcall_pure haw ?_
            simp [XEndT]

end Go.Am
