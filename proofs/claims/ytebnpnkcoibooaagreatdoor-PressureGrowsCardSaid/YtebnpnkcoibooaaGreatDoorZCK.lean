/- Lemmas and contracts for the proof of a statement of this seat. -/
import Derived.Test.YtebnpnkcoibooaaGreatDoorZCJ
import Derived.Test.YtebnpnkcoibooaaGreatDoorZC7
set_option linter.unusedVariables false
set_option linter.unusedSimpArgs false
/- Contracts: the awake examples of chapter 24. -/
namespace Go.Am
open Go Go.Proofs Go.Pn


def r24 : List Int := [0, 0, 0, 0]
def o24 : List Int := [0, 0, 0, 1]
def fourJ : Circuit := ⟨fourC.parts, fourC.pipes ++ [⟨⟨2, [49]⟩, ⟨3, [49, 52]⟩⟩]⟩
theorem k24_q : checkQ fourC r24 = 0 ∧ checkQ fourC o24 = 0 ∧ checkQ fourJ r24 = 0 := by decide +kernel
theorem k24_a : atErr fourC r24 ⟨0, [50]⟩ = 0 ∧ atVal fourC r24 ⟨0, [50]⟩ = 2 := by decide +kernel
theorem k24_b : atErr fourC r24 ⟨0, [52]⟩ = 0 ∧ atVal fourC r24 ⟨0, [52]⟩ = 1 := by decide +kernel
theorem k24_d : atErr fourC r24 ⟨1, [50]⟩ = 0 ∧ atVal fourC r24 ⟨1, [50]⟩ = 1 := by decide +kernel
theorem k24_p : pushErr fourC r24 [65] = 0 ∧ pushVal fourC r24 [65] = -1 := by decide +kernel
theorem k24_o : pushErr fourC o24 [65] = 0 ∧ pushVal fourC o24 [65] = 1 := by decide +kernel
theorem k24_r : restErr fourC o24 = 0 ∧ restPos fourC o24 = r24 ∧ restBad fourC o24 = [] := by decide +kernel
theorem k24_f : flowL fourC o24 = [3] := by decide +kernel
theorem k24_j : restErr fourJ r24 = 0 ∧ restPos fourJ r24 = o24 := by decide +kernel
theorem k24_s : Sized fourJ := ⟨by decide +kernel, by decide +kernel, by decide +kernel⟩

section
variable {P : Program} {G : Globs} {N n0 : Nat}
theorem AEv.seqA {a b : Code} {st : St} {Q : Exit → St → Prop} (h : AEv P G N n0 a st (thenQ (fun st' => AEv P G N n0 b st' Q) Q)) : AEv P G N n0 (.seq a b) st Q := fun F φ ac w hr => by
  refine wp_seq (wp_mono (h F φ ac w hr) fun e a' w' ha => ?_)
  cases e with
  | normal =>
    obtain ⟨st', φ', h1, h2, h3, h4⟩ := ha
    exact wp_mono (h1 F φ' a' w' h2) fun e a2 w2 h5 => After.trans h3 h4 h5
  | _ => exact ha
theorem AEv.seqX {a b : Code} {t : Slots} {s : Store} {nx : Nat} {Q : Exit → St → Prop} (h : @xc P G N n0 ⟨a⟩ t s nx ⟨thenQ (fun st' => AEv P G N n0 b st' Q) Q⟩) : AEv P G N n0 (.seq a b) ⟨t, s, nx⟩ Q := AEv.seqA (xc_sound h)
@[simp] theorem thenQ_normal {K : St → Prop} {Q : Exit → St → Prop} {st : St} : thenQ K Q .normal st = K st := rfl
theorem Pure.of_aev {f : Nat} {fn : Func} {c : Code} {args : List AV} {r : AV} (hf : P.funcs[f]? = some fn) (hb : fn.body = some c) (hname : (fn.name == "runtime.NumGoroutine") = false) (hN : fn.ntmps = N) (hargs : args.length ≤ N) (hp : pureL args = true)
    (h : AEv P G N 0 c ⟨argSlots 0 args, [], 0⟩ (XEndT P fn.results.toList r)) : Pure P G f args r :=
  Pure.of_body hf hb hname hN hargs hp (h.mono fun _ _ h => ⟨h.1, let ⟨vs, h1, h2⟩ := h.2; ⟨vs, h1, toV_ok h2⟩⟩)
end

set_option maxRecDepth 20000 in
theorem c_pneumaticlaw24_awake : Pure Go.Proofs.Tryz.prog GL 13 [] (.p (.bool true)) := by
  obtain ⟨hs, _⟩ := four_sized
  have hsj := k24_s
  obtain ⟨a1, a2⟩ := k24_a
  obtain ⟨b1, b2⟩ := k24_b
  obtain ⟨d1, d2⟩ := k24_d
  obtain ⟨p1, p2⟩ := k24_p
  obtain ⟨o1, o2⟩ := k24_o
  obtain ⟨r1, r2, r3⟩ := k24_r
  obtain ⟨j1, j2⟩ := k24_j
  obtain ⟨_, q2, _⟩ := k24_q
  have f1 := k24_f
  have hfl := c_pressure_Flow fourC o24 hs (by decide)
  have hA := c_pressure_At fourC r24 ⟨0, [50]⟩ hs (by decide)
  have hB := c_pressure_At fourC r24 ⟨0, [52]⟩ hs (by decide)
  have hD := c_pressure_At fourC r24 ⟨1, [50]⟩ hs (by decide)
  have hP := c_pressure_Push fourC r24 [65] hs (by decide)
  have hO := c_pressure_Push fourC o24 [65] hs (by decide)
  have hR := c_pressure_Rest fourC o24 hs (by decide)
  have hJ := c_pressure_Rest fourJ r24 hsj (by decide)
  rw [a1, a2] at hA
  rw [b1, b2] at hB
  rw [d1, d2] at hD
  rw [p1, p2] at hP
  rw [o1, o2] at hO
  rw [r1, r2, r3] at hR
  rw [j1, j2] at hJ
  rw [q2, if_pos rfl, f1] at hfl
  refine Pure.of_aev (N := 142) Go.Proofs.Tryz.func13 rfl rfl rfl (by simp) rfl ?_
  refine AEv.seqX ?_
  simp
  refine AEv.seqX ?_
  simp
  refine xcall_pure (c_pneumaticlaw21_Four) ?_
  simp
  refine AEv.seqX ?_
  simp
  refine AEv.leads (st := ⟨[(2, Ints.av r24), (3, Ints.av o24), (1, .ptr 0 2 0 0)], [(0, some (.cells 2 [[.p (.lst 3 (fourC.parts.map Part.enc)), .p (.lst 4 (fourC.pipes.map Pipe.enc))]]))], 1⟩) ?_ ?_
  · refine Leads.frz_sub (B := [1, 2]) (ρ := [0]) [(2, Ints.av r24), (3, Ints.av o24)] [(1, none), (2, none)] (Freeze.of _ _ ?_ (by simp) (by simp [keys])) ?_
    · intro p hp
      simp only [List.mem_cons, List.not_mem_nil, or_false] at hp
      rcases hp with rfl | rfl
      · exact FrzK.refRows (i := 0) (n := 4) (c := some 4) (rows := r24.map Int.row) (by simp) (by simp [get, r24]) rfl rfl
      · exact FrzK.refRows (i := 0) (n := 4) (c := some 4) (rows := o24.map Int.row) (by simp) (by simp [get, o24]) rfl rfl
    · simp
      try decide
  · refine xc_sound ?_
    simp
    refine xcall_pure hA ?_
    simp
    refine xcall_pure hB ?_
    simp
    refine xcall_pure hP ?_
    simp
    refine xcall_pure hO ?_
    simp
    refine xcall_pure hD ?_
    simp
    refine xcall_pure hR ?_
    simp
    refine xcall_pure hfl ?_
    simp
    refine xcall_gives (g_ClonePipe fourC.pipes _ _ (by decide)) ?_
    simp
    refine ⟨by decide, ?_⟩
    refine xcall_given ?_
    simp
    refine ⟨_, hJ, ?_⟩
    simp
    refine xcall_pure (c_Eq_Int r24 r24 (by decide)) ?_
    simp
    refine xcall_lent ?_
    simp
    refine ⟨_, c_Eq_Int [3] [3] (by decide), rfl, ?_⟩
    simp
    refine xcall_pure (c_Eq_Int o24 o24 (by decide)) ?_
    simp [XEndT]

end Go.Am
/- Contracts: the laws PressureNets, PressurePorts, PressureSteps. -/
namespace Go.Am
open Go Go.Proofs Go.Pn


end Go.Am
