/- Contracts: the laws CircuitChecks and CircuitChanges. -/
import Derived.Test.YtmgemgdljjblmaaGreatDoorZC7
set_option linter.unusedVariables false
set_option linter.unusedSimpArgs false
namespace Go.Am
open Go Go.Proofs Go.Pn


set_option maxRecDepth 20000 in
theorem c_pneumaticlaw21_CircuitChecks (c : Circuit) (s : Txt) (hs : Sized c) (hl : s.length < 4611686018427387900) : Pure Go.Proofs.Tryz.prog GL 4 [c.av, .p (.str s)] (.p (.bool true)) := by
  refine Pure.of_walk (N := 69) Go.Proofs.Tryz.func4 rfl rfl rfl (by simp) (by first | (simp; done) | simp [*]) ?_
  have haw := c_pneumaticlaw21_awake
  simp
  refine xcall_given ?_
  simp
  refine ⟨_, c_pneumaticlaw21_few c [s] hs (by simp) (by simpa using hl), ?_⟩
  simp
  refine xif_split (fun h => ?_) (fun h => ?_)
  · simp
    refine xcall_pure haw ?_
    simp [XEndT]
  · simp at h
    simp
    refine xcall_pure (c_circuit_Find c s hs) ?_
    simp
    refine xcall_pure (c_pneumaticref21_Find c s hs) ?_
    simp
    refine xcall_pure (c_circuit_Ports c hs) ?_
    simp
    refine xcall_pure (c_pneumaticref21_Ports c hs) ?_
    simp
    have hL : (if checkP c = 0 then allP c else []).length < 4611686018427387904 := by
      split
      · rename_i hc
        have h2 := check_parts hc
        have := allP_le h2.1 h2.2.1
        omega
      · simp
    generalize (if checkP c = 0 then allP c else []) = L at hL
    generalize (if checkP c = 0 then if (idxI c.parts fun p => decide (p.name = s)) < 0 then 6 else 0 else checkP c) = E
    generalize (if checkP c = 0 then if (idxI c.parts fun p => decide (p.name = s)) < 0 then 0 else idxI c.parts fun p => decide (p.name = s) else 0) = I
    refine XDraw.intro (by kernel_rfl) ?_
    simp
    refine xcall_pure haw ?_
    simp
    refine xcall_pure (c_circuit_Check c hs) ?_
    simp
    refine xcall_pure (c_pneumaticref21_Check c hs) ?_
    simp
    refine xcall_pure (c_Eq_Port L L hL) ?_
    simp
    exact ⟨.of (by kernel_rfl), by simp [XEndT]⟩

theorem empty_sized : Sized ⟨[], []⟩ := ⟨by simp, by simp, by simp⟩
theorem addP_sized {c : Circuit} {p : Part} (hs : Sized c) (hp : p.name.length < 4611686018427387900) : Sized (addP c p) := by
  unfold addP
  split
  · exact empty_sized
  · rename_i h
    have hc : checkP c = 0 := by
      apply Decidable.byContradiction
      intro hc
      apply h
      unfold addErr
      rw [if_pos hc]
      exact hc
    have h2 := check_parts hc
    exact addOut_sized hs h2.2.1 h2.2.2 hp
theorem remP_sized {c : Circuit} {s : Txt} (hs : Sized c) : Sized (remP c s) := by
  unfold remP
  split
  · exact empty_sized
  · refine ⟨?_, ?_, ?_⟩
    · have := hs.parts
      simp [remOut]; omega
    · have h1 := hs.pipes
      have h2 := @restIn_len (partI c s).toNat c.pipes
      simp [remOut, movedP]; omega
    · intro q hq
      simp [remOut] at hq
      rcases hq with hq | hq
      · exact hs.names q (List.mem_of_mem_take hq)
      · exact hs.names q (List.mem_of_mem_drop hq)

set_option maxRecDepth 20000 in
theorem c_pneumaticlaw21_CircuitChanges (c : Circuit) (p : Part) (s : Txt) (hs : Sized c) (hp : p.name.length < 4611686018427387900) (hl : s.length < 4611686018427387900) : Pure Go.Proofs.Tryz.prog GL 3 [c.av, p.av, .p (.str s)] (.p (.bool true)) := by
  refine Pure.of_walk (N := 112) Go.Proofs.Tryz.func3 rfl rfl rfl (by simp) (by first | (simp; done) | simp [*]) ?_
  have haw := c_pneumaticlaw21_awake
  simp
  refine xcall_given ?_
  simp
  refine ⟨_, c_pneumaticlaw21_few c [p.name, s] hs (by simp) (by simp; omega), ?_⟩
  simp
  refine xif_split (fun h => ?_) (fun h => ?_)
  · simp
    refine xcall_pure haw ?_
    simp [XEndT]
  · simp at h
    simp
    refine xcall_pure (c_circuit_Add c p hs hp) ?_
    simp
    refine xcall_pure (c_pneumaticref21_Add c p hs hp) ?_
    simp
    refine xcall_pure (c_circuit_Remove c s hs hl) ?_
    simp
    refine xcall_pure (c_pneumaticref21_Remove c s hs hl) ?_
    simp
    refine xcall_pure (c_circuit_Limits c s hs hl) ?_
    simp
    refine xcall_pure (c_pneumaticref21_Limits c s hs hl) ?_
    simp
    have ha := addP_sized hs hp
    have hr := @remP_sized c s hs
    generalize addP c p = A at ha ⊢
    generalize remP c s = R at hr ⊢
    refine XDraw.intro (by kernel_rfl) ?_
    simp
    refine xcall_pure haw ?_
    simp
    refine xcall_pure (c_pneumaticref21_Same A A ha ha) ?_
    simp
    refine xcall_pure (c_pneumaticref21_Same R R hr hr) ?_
    simp
    refine xcall_pure (c_circuit_Same A R ha) ?_
    simp
    refine xcall_pure (c_pneumaticref21_Same A R ha hr) ?_
    simp
    exact ⟨.of (by kernel_rfl), by simp [XEndT]⟩

end Go.Am
