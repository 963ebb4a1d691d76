/- Contracts: the laws PressurePorts, PressureSteps. -/
import Derived.Test.YtebnpnkcoibooaaGreatDoorZCK
set_option linter.unusedVariables false
set_option linter.unusedSimpArgs false
namespace Go.Am
open Go Go.Proofs Go.Pn


theorem once_small {c : Circuit} {l : List Int} : (if checkQ c l = 0 then onceL c l else []).length < 4611686018427387904 := by
  split
  · rename_i h
    have := check_parts (checkQ_zero h).1
    rw [onceL_len]; omega
  · simp
theorem bad_small {c : Circuit} {l : List Int} : (if checkQ c l = 0 then badL c l else []).length < 4611686018427387904 := by
  split
  · rename_i h
    have := check_parts (checkQ_zero h).1
    have := @badT_len c l c.parts.length
    have e : badT c l c.parts.length = badL c l := rfl
    rw [e] at this; omega
  · simp
theorem restPos_small {c : Circuit} {l : List Int} : (restPos c l).length < 4611686018427387904 := by
  unfold restPos
  split
  · simp
  · rename_i h
    simp only [ne_eq, Decidable.not_not] at h
    have h2 := check_parts (checkQ_zero h).1
    split
    · rename_i n _
      rw [(checkQ_zero (posN_ok h (n := n))).2.1]; omega
    · simp
theorem restBad_small {c : Circuit} {l : List Int} : (restBad c l).length < 4611686018427387904 := by
  unfold restBad
  split
  · simp
  · rename_i h
    simp only [ne_eq, Decidable.not_not] at h
    have h2 := check_parts (checkQ_zero h).1
    split
    · rename_i n _
      have := @allT_len c l n c.parts.length
      omega
    · simp

theorem c_pneumaticlaw24_PressureSteps (c : Circuit) (l : List Int) (hs : Sized c) (hl : l.length < 4611686018427387904) : Pure Go.Proofs.Tryz.prog GL 5 [c.av, Ints.av l] (.p (.bool true)) := by
  refine Pure.of_walk (N := 75) Go.Proofs.Tryz.func5 rfl rfl rfl (by simp) (by first | (simp; done) | simp [*]) ?_
  have haw := c_pneumaticlaw24_awake
  have hA := @once_small c l
  have hB := @bad_small c l
  have hC := @restPos_small c l
  have hD := @restBad_small c l
  simp
  refine xcall_pure (c_pneumaticref24_Few c l hs) ?_
  cases hf : (fewP c && decide (l.length ≤ 200)) with
  | false =>
    simp
    refine xcall_pure haw ?_
    simp [XEndT]
  | true =>
    simp
    refine xcall_pure (c_pressure_Step c l hs hl) ?_
    simp
    refine xcall_pure (c_pneumaticref24_Step c l hs hl) ?_
    generalize (if checkQ c l = 0 then onceL c l else []) = A at hA
    generalize (if checkQ c l = 0 then badL c l else []) = B at hB
    simp
    refine xcall_pure (c_Eq_Int A A hA) ?_
    simp
    refine xcall_pure (c_Eq_Int B B hB) ?_
    simp
    refine xcall_pure (c_pressure_Rest c l hs hl) ?_
    simp
    refine xcall_pure (c_pneumaticref24_Rest c l hs hl) ?_
    generalize restPos c l = R at hC
    generalize restBad c l = E at hD
    simp
    refine xcall_pure (c_Eq_Int R R hC) ?_
    simp
    refine xcall_pure (c_Eq_Int E E hD) ?_
    simp
    refine xcall_pure haw ?_
    simp [XEndT]

/-- A port and the name of a part. -/
structure AskedV where
  port : Port
  nm : Txt
@[simp] def AskedV.av (x : AskedV) : AV := .agg [.p (.int .i64 x.port.part), .p (.str x.port.name), .p (.str x.nm)]

theorem c_pneumaticlaw24_PressurePorts (c : Circuit) (l : List Int) (x : AskedV) (hs : Sized c) (hl : l.length < 4611686018427387904) (hx : x.port.name.length < 4611686018427387900 ∧ x.nm.length < 4611686018427387900) : Pure Go.Proofs.Tryz.prog GL 3 [c.av, Ints.av l, x.av] (.p (.bool true)) := by
  refine Pure.of_walk (N := 84) Go.Proofs.Tryz.func3 rfl rfl rfl (by simp) (by first | (simp; done) | simp [*]) ?_
  have haw := c_pneumaticlaw24_awake
  have hxa := hx.1
  have hxb := hx.2
  simp
  refine xcall_pure (c_pneumaticref24_Few c l hs) ?_
  cases hf : (fewP c && decide (l.length ≤ 200)) with
  | false =>
    simp
    refine xcall_pure haw ?_
    simp [XEndT]
  | true =>
    simp
    refine ⟨wrap_i64 (by omega) (by omega), ?_⟩
    refine xif_split (fun h => ?_) (fun h => ?_)
    · simp
      refine xcall_pure haw ?_
      simp [XEndT]
    · simp
      refine xcall_pure (c_pressure_At c l x.port hs hl) ?_
      simp
      refine xcall_pure (c_pneumaticref24_At c l x.port hs hl) ?_
      simp
      refine xcall_pure (c_pressure_Push c l x.nm hs hl) ?_
      simp
      refine xcall_pure (c_pneumaticref24_Push c l x.nm hs hl) ?_
      simp
      refine xcall_pure haw ?_
      simp [XEndT]

end Go.Am
