/- Contracts: package circuit: Net; the law CircuitNets. -/
import Derived.Test.YtebnpnkcoibooaaGreatDoorZC8
set_option linter.unusedVariables false
set_option linter.unusedSimpArgs false
namespace Go.Am
open Go Go.Proofs Go.Pn


theorem range_one {c : Circuit} {a : Port} : rangeErrs c [a] = rangeErr c a := by simp [rangeErrs, firstErr, errAt]
theorem name_one {c : Circuit} {a : Port} : nameErrs c [a] = nameErr c a := by simp [nameErrs, firstErr, errAt]
theorem range_ok {c : Circuit} {a : Port} (h : rangeErr c a = 0) : ∀ p ∈ [a], 0 ≤ p.part ∧ p.part < c.parts.length := by
  intro p hp
  simp at hp; subst hp
  unfold rangeErr at h
  split at h
  · cases h
  · omega

theorem c_circuit_Net (c : Circuit) (p : Port) (hs : Sized c) : Pure Go.Proofs.Tryz.prog GL 63 [c.av, p.av] (.tup [.p (.int .i64 (if checkP c ≠ 0 then 0 else if givenErr c p ≠ 0 then 0 else netP c p)), .p (.int .i64 (if checkP c ≠ 0 then checkP c else givenErr c p))]) := by
  refine Pure.of_walk (N := 32) Go.Proofs.Tryz.func63 rfl rfl rfl (by simp) (by first | (simp; done) | simp [*]) ?_
  simp
  refine xcall_pure (c_circuit_Check c hs) ?_
  by_cases h : checkP c = 0
  · have h2 := check_parts h
    simp [h]
    refine xcall_lent ?_
    simp
    refine ⟨_, c_circuit_indexed c [p] hs (by simp), rfl, ?_⟩
    rw [range_one]
    by_cases hr : rangeErr c p = 0
    · simp [hr]
      refine xcall_lent ?_
      simp
      refine ⟨_, c_circuit_exists c [p] hs (by simp) h2.1 (range_ok hr), rfl, ?_⟩
      rw [name_one]
      by_cases hn : nameErr c p = 0
      · simp [hn]
        refine xcall_pure (c_circuit_nets c h) ?_
        simp
        refine xcall_lent ?_
        simp
        refine ⟨_, c_IdxF_Ports (nets c) (fun l => decide (p ∈ l)) 121 [.iptr 2 [[.int .i64 p.part, .str p.name]] 0 0] rfl (by have := (netsL h).1; omega) (fun l hl => c_circuit_Net_1 p l (by have := (netsL h).2 l hl; omega)), rfl, ?_⟩
        rw [← netP]
        simp [XEndT, h, givenErr, hr, hn]
      · simp [hn]
        simp [XEndT, h, givenErr, hr, hn]
    · simp [hr]
      simp [XEndT, h, givenErr, hr]
  · simp [h, XEndT]

end Go.Am
