/- TopFormsHazards: the program's function returns true. -/
import Derived.Test.YthkjeoagelhocaaGreatZX7
import Derived.Test.YthkjeoagelhocaaGreatZFcO
set_option linter.unusedVariables false
set_option linter.unusedSimpArgs false
namespace Go.Am
open Go Go.Proofs Go.Pn

theorem c_pneumatictop_TopFormsHazards (n : Int) (b : Nat) (hb : b < 2 ^ 64) : Pure Tryz.prog GL 4 [.agg [.p (.int .i64 n), .p (.int .u64 b)]] (.p (.bool true)) := by
  refine Pure.of_walk (N := 88) Tryz.func4 rfl rfl rfl (by simp) (by first | (simp; done) | simp [*]) ?_
  have hC := c_pneumaticref04_Check n b hb
  have hT := c_pneumatictop_tryTwo
  by_cases h0 : tabE n b = 0
  · obtain ⟨m, rfl, hm6, hbm⟩ := tabE_zero h0
    rw [h0] at hC
    simp
    refine xcall_pure hC ?_
    by_cases h4 : (4 : Int) < m
    · simp [h4]
      refine xcall_pure hT ?_
      simp [XEndT]
    have hm : m ≤ 4 := by omega
    have hP := c_pneumaticref08_Primes m b hm hb
    simp [h4]
    refine xcall_pure hP ?_
    simp
    refine xif_split (fun h5 => ?_) (fun h5 => ?_)
    · simp
      refine xcall_pure hT ?_
      simp [XEndT]
    simp at h5
    have hP10 : (primesL ⟨m, b, 0⟩).length ≤ 10 := by omega
    have hf := c_pneumatictop_tryForm m b hm hbm
    have hF := c_hazard_Form m b hm hbm hP10
    obtain ⟨t1, t2, t3⟩ := form_least (x := ⟨m, b, 0⟩) (bet := betO ⟨m, b, 0⟩) (srt := fun l => srtN l) hm (fun _ => betO_none) (fun _ => srtN_perm)
    have hl := form_short (x := ⟨m, b, 0⟩) hm
    have hok : ∀ c ∈ formN ⟨m, b, 0⟩, c.Ok m := fun c hc => (t1 c hc).ok
    have hM := c_hazard_Mend m (formN ⟨m, b, 0⟩) hm hl hok
    have hH := c_hazard_Hazards m (formN ⟨m, b, 0⟩) hm hl hok
    obtain ⟨s0, s1, s2, s3⟩ := hz_law (n := m) (b := b) (lit := litN) (take := takeB (primesL ⟨m, b, 0⟩)) hbm (by omega) (fun g w => take_less) (L := formN ⟨m, b, 0⟩) t1 t2 t3
    rw [← safeN_eq] at s1 s2 s3
    have hsl : (safeN m b).length ≤ 512 := by
      have : (mendL m (formN ⟨m, b, 0⟩)).length ≤ 64 := by
        unfold mendL
        have h1 := @mendT_len (primesL ⟨m, tabF m (formN ⟨m, b, 0⟩), 0⟩) (hazL m (formN ⟨m, b, 0⟩)) (hazL m (formN ⟨m, b, 0⟩)).length
        rw [mendT_all] at h1
        exact Nat.le_trans h1 (Nat.le_trans (List.length_filter_le ..) (pairs_len hm))
      omega
    have hml : (mendL m (formN ⟨m, b, 0⟩)).length ≤ 64 := by
      unfold mendL
      have h1 := @mendT_len (primesL ⟨m, tabF m (formN ⟨m, b, 0⟩), 0⟩) (hazL m (formN ⟨m, b, 0⟩)) (hazL m (formN ⟨m, b, 0⟩)).length
      rw [mendT_all] at h1
      exact Nat.le_trans h1 (Nat.le_trans (List.length_filter_le ..) (pairs_len hm))
    clear s0 t1 t2 t3 hok hP hC h5
    generalize formN ⟨m, b, 0⟩ = L at *
    generalize safeN m b = S at *
    generalize mendL m L = M at *
    generalize hazL m L = Z at *
    simp
    refine xcall_pure hf ?_
    simp
    refine xcall_pure hF ?_
    simp
    refine xcall_pure hM ?_
    simp
    refine xcall_pure hH ?_
    simp
    have s2' : (S.length : Int) ≤ (L.length : Int) + M.length := by omega
    simp [s1, s2']
    refine ⟨wrap_i64 (by omega) (by omega), ?_⟩
    by_cases hz : Z = []
    · have s4 := s3 hz
      simp [hz, s4]
      refine xcall_pure hT ?_
      simp [XEndT]
    · simp [hz]
      refine xcall_pure hT ?_
      simp [XEndT]
  · simp [h0]
    refine xcall_pure hC ?_
    simp [h0]
    refine xcall_pure hT ?_
    simp [XEndT]
end Go.Am
