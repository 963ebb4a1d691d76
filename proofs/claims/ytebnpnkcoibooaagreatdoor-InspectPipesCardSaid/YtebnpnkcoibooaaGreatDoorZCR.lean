/- Lemmas and contracts for the proof of a statement of this seat. -/
import Derived.Test.YtebnpnkcoibooaaGreatDoorZCP
import Derived.Test.YtebnpnkcoibooaaGreatDoorZC9
set_option linter.unusedVariables false
set_option linter.unusedSimpArgs false
/- Plain laws: a part that is added, and removed again. -/
namespace Go.Am
open Go Go.Proofs Go.Pn

theorem partI_at {c : Circuit} (h : checkP c = 0) {i : Nat} {x : Part} (e : c.parts[i]? = some x) : partI c x.name = i := by
  rcases partI_cases c x.name with h1 | ⟨j, y, h1, h2, h3⟩
  · exfalso
    unfold partI idxI at h1
    cases hf : c.parts.findIdx? fun q => decide (q.name = x.name) with
    | none => have := List.findIdx?_eq_none_iff.1 hf x (List.mem_of_getElem? e); simp at this
    | some k => rw [hf] at h1; simp at h1
  · rw [h1, parts_inj h h2 e h3]

end Go.Am
/- Contracts: package circuit: Join. -/
namespace Go.Am
open Go Go.Proofs Go.Pn




theorem c_circuit_Join (c : Circuit) (a b : Port) (hs : Sized c) : Pure Go.Proofs.Tryz.prog GL 55 [c.av, a.av, b.av] (.tup [(joinP c a b).av, .p (.int .i64 (joinErr c a b))]) := by
  refine Pure.of_walk (N := 90) Go.Proofs.Tryz.func55 rfl rfl rfl (by simp) (by first | (simp; done) | simp [*]) ?_
  simp
  refine xcall_pure (c_circuit_Check c hs) ?_
  by_cases hc : checkP c = 0
  · have h2 := check_parts hc
    simp [hc]
    refine XLoop.go [3, 4, 5, 6, 24] [0, 1, 2, 3] 0 [] (fun _ => []) (fun _ (k : Nat) => [(25, .p (.int .i64 k))]) (fun _ _ => []) (fun k => k ≤ 2 ∧ (1 ≤ k → givenErr c a = 0) ∧ (2 ≤ k → givenErr c b = 0)) (fun k => 2 - k) 0 ⟨by omega, by omega, by omega⟩ ?_ ?_
    · simp
      try decide
    · rintro k ⟨hk, ha, hb⟩
      obtain rfl | rfl | rfl : k = 0 ∨ k = 1 ∨ k = 2 := by omega
      · skip
        simp
        refine xcall_lent ?_
        simp
        refine ⟨_, c_circuit_indexed c [a] hs (by simp), rfl, ?_⟩
        rw [range_one]
        by_cases hr : rangeErr c a = 0
        · simp [hr]
          refine xcall_lent ?_
          simp
          refine ⟨_, c_circuit_exists c [a] hs (by simp) h2.1 (range_ok hr), rfl, ?_⟩
          rw [name_one]
          have hg : givenErr c a = nameErr c a := by simp [givenErr, hr]
          by_cases hn : nameErr c a = 0
          · simp [hn]
            refine ⟨1, ⟨by omega, by simp_all, by simp_all⟩, by omega, ?_⟩
            simp
            try decide
          · simp [hn]
            simp_all [XEndT, joinErr, joinP]
        · have hg : givenErr c a = rangeErr c a := by simp [givenErr, hr]
          simp [hr]
          simp_all [XEndT, joinErr, joinP]
      · skip
        simp
        refine xcall_lent ?_
        simp
        refine ⟨_, c_circuit_indexed c [b] hs (by simp), rfl, ?_⟩
        rw [range_one]
        by_cases hr : rangeErr c b = 0
        · simp [hr]
          refine xcall_lent ?_
          simp
          refine ⟨_, c_circuit_exists c [b] hs (by simp) h2.1 (range_ok hr), rfl, ?_⟩
          rw [name_one]
          have hg : givenErr c b = nameErr c b := by simp [givenErr, hr]
          by_cases hn : nameErr c b = 0
          · simp [hn]
            refine ⟨2, ⟨by omega, by simp_all, by simp_all⟩, by omega, ?_⟩
            simp
            try decide
          · simp [hn]
            simp_all [XEndT, joinErr, joinP]
        · have hg : givenErr c b = rangeErr c b := by simp [givenErr, hr]
          simp [hr]
          simp_all [XEndT, joinErr, joinP]
      · have ha := ha (by omega)
        have hb := hb (by omega)
        simp
        refine xcall_pure (c_circuit_compare a b) ?_
        have hcmp := @cmpPort_gt a b
        by_cases hlt : portLt b a = true
        · have hpo : pipeOf a b = ⟨b, a⟩ := by rw [pipeOf, if_pos hlt]
          have hc2 := hcmp.2 hlt
          simp [hc2]
          by_cases hab : a = b
          · subst hab
            have hj : joinErr c a a = 7 := by simp [joinErr, hc, ha]
            simp
            simp [XEndT, joinP, hj]
          · simp [hab]
            refine xcall_pure (c_Con_Pipe c.pipes (⟨b, a⟩ : Pipe) (by omega)) ?_
            by_cases hm : (⟨b, a⟩ : Pipe) ∈ c.pipes
            · have hj : joinErr c a b = 7 := by simp [joinErr, hc, ha, hb, hpo, hm]
              simp [hm]
              simp [XEndT, joinP, hj]
            · simp [hm]
              by_cases h5 : c.pipes.length = 256
              · have hj : joinErr c a b = 5 := by simp [joinErr, hc, ha, hb, hpo, hm, hab, h5]
                simp [h5]
                simp [XEndT, joinP, hj]
              · have hj : joinErr c a b = 0 := by simp [joinErr, hc, ha, hb, hpo, hm, hab, h5]
                have h6 : ¬ ((256 : Int) ≤ c.pipes.length) := by omega
                have hasc := (checkP_zero.1 hc).2.2.2
                have hO := pipedL_at c.pipes (⟨b, a⟩ : Pipe)
                simp [h6]
                refine xcall_pure (c_Bin_Pipe c.pipes (⟨b, a⟩ : Pipe) (fun y => cmpPipe y (⟨b, a⟩ : Pipe)) (pipeIx c.pipes (⟨b, a⟩ : Pipe)) 114 (by omega) (fun y _ => c_circuit_pipes y (⟨b, a⟩ : Pipe)) pipeIx_le (fun j y hj e => cmpPipe_lt.2 (pipeIx_lo hm j y hj e)) (fun j y hj e h => by
                  have := pipeLt_asymm (pipeIx_hi hasc j y hj e)
                  rw [cmpPipe_lt.1 h] at this
                  cases this)) ?_
                simp
                refine XDraw.intro (by kernel_rfl) ?_
                simp
                refine xcall_gives (g_ClonePart c.parts _ _ (by omega)) ?_
                simp
                refine xcall_gives (g_ClonePipe c.pipes _ _ (by omega)) ?_
                simp
                refine xcall_gives (g_InsPipe c.pipes (pipeIx c.pipes (⟨b, a⟩ : Pipe)) (⟨b, a⟩ : Pipe) 6 7 (some 1) _ _ (by omega) (by omega) (by decide) pipeIx_le (by omega) (by simp [get]) (by simp [get])) ?_
                rw [hO]
                simp
                refine ⟨.of (by kernel_rfl), ?_⟩
                simp [XEndT, joinP, hj, hpo]
        · have hpo : pipeOf a b = ⟨a, b⟩ := by rw [pipeOf, if_neg hlt]
          have hc2 : ¬ 0 < cmpPort a b := fun h => hlt (hcmp.1 h)
          simp [hc2]
          by_cases hab : a = b
          · subst hab
            have hj : joinErr c a a = 7 := by simp [joinErr, hc, ha]
            simp
            simp [XEndT, joinP, hj]
          · simp [hab]
            refine xcall_pure (c_Con_Pipe c.pipes (⟨a, b⟩ : Pipe) (by omega)) ?_
            by_cases hm : (⟨a, b⟩ : Pipe) ∈ c.pipes
            · have hj : joinErr c a b = 7 := by simp [joinErr, hc, ha, hb, hpo, hm]
              simp [hm]
              simp [XEndT, joinP, hj]
            · simp [hm]
              by_cases h5 : c.pipes.length = 256
              · have hj : joinErr c a b = 5 := by simp [joinErr, hc, ha, hb, hpo, hm, hab, h5]
                simp [h5]
                simp [XEndT, joinP, hj]
              · have hj : joinErr c a b = 0 := by simp [joinErr, hc, ha, hb, hpo, hm, hab, h5]
                have h6 : ¬ ((256 : Int) ≤ c.pipes.length) := by omega
                have hasc := (checkP_zero.1 hc).2.2.2
                have hO := pipedL_at c.pipes (⟨a, b⟩ : Pipe)
                simp [h6]
                refine xcall_pure (c_Bin_Pipe c.pipes (⟨a, b⟩ : Pipe) (fun y => cmpPipe y (⟨a, b⟩ : Pipe)) (pipeIx c.pipes (⟨a, b⟩ : Pipe)) 114 (by omega) (fun y _ => c_circuit_pipes y (⟨a, b⟩ : Pipe)) pipeIx_le (fun j y hj e => cmpPipe_lt.2 (pipeIx_lo hm j y hj e)) (fun j y hj e h => by
                  have := pipeLt_asymm (pipeIx_hi hasc j y hj e)
                  rw [cmpPipe_lt.1 h] at this
                  cases this)) ?_
                simp
                refine XDraw.intro (by kernel_rfl) ?_
                simp
                refine xcall_gives (g_ClonePart c.parts _ _ (by omega)) ?_
                simp
                refine xcall_gives (g_ClonePipe c.pipes _ _ (by omega)) ?_
                simp
                refine xcall_gives (g_InsPipe c.pipes (pipeIx c.pipes (⟨a, b⟩ : Pipe)) (⟨a, b⟩ : Pipe) 6 7 (some 1) _ _ (by omega) (by omega) (by decide) pipeIx_le (by omega) (by simp [get]) (by simp [get])) ?_
                rw [hO]
                simp
                refine ⟨.of (by kernel_rfl), ?_⟩
                simp [XEndT, joinP, hj, hpo]
  · simp [hc, XEndT, joinErr, joinP]

end Go.Am
