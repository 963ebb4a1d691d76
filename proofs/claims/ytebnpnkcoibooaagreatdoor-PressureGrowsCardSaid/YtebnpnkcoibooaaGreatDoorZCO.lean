/- Contracts: the law PressureGrows. -/
import Derived.Test.YtebnpnkcoibooaaGreatDoorZCM
import Derived.Test.YtebnpnkcoibooaaGreatDoorZCR
set_option linter.unusedVariables false
set_option linter.unusedSimpArgs false
namespace Go.Am
open Go Go.Proofs Go.Pn

/-- More pipes between the same parts. -/
structure Wider (c m : Circuit) : Prop where
  parts : m.parts = c.parts
  pipes : ∀ x ∈ c.pipes, x ∈ m.pipes
theorem Wider.all {c m : Circuit} (w : Wider c m) : allP m = allP c := by
  have hu : ∀ k, allUp m k = allUp c k := fun k => by
    induction k with
    | zero => rfl
    | succ k ih => simp only [allUp, ih, w.parts]
  unfold allP
  rw [w.parts, hu]
theorem Wider.kind {c m : Circuit} (w : Wider c m) (i : Int) : kindAt m i = kindAt c i := by unfold kindAt; rw [w.parts]
theorem Wider.pass {c m : Circuit} (w : Wider c m) (l : List Int) (i : Int) : passAt m l i = passAt c l i := by unfold passAt; rw [w.kind]
theorem Wider.net {c m : Circuit} (w : Wider c m) (hc : checkP c = 0) (hm : checkP m = 0) {p q : Port} (hp : p ∈ allP c) (hq : q ∈ allP c) (h : netN c p.part p.name = netN c q.part q.name) : netN m p.part p.name = netN m q.part q.name := by
  have h1 : netP c p = netP c q := by rw [(netN_at hc hp).1, (netN_at hc hq).1, h]
  have h2 := (netP_same hc hp hq).1 h1
  have h3 := (netP_same hm (w.all ▸ hp) (w.all ▸ hq)).2 (h2.mono w.pipes)
  rw [(netN_at hm (w.all ▸ hp)).1, (netN_at hm (w.all ▸ hq)).1] at h3
  omega

/-- A net all of whose ports are under pressure in the wider circuit. -/
def growS (c m : Circuit) (l : List Int) (n : Nat) : Bool := (allP c).all fun p => !decide (netN c p.part p.name = n) || (prs m l).contains (netN m p.part p.name)
theorem growS_of {c m : Circuit} {l : List Int} (w : Wider c m) (hc : checkP c = 0) (hm : checkP m = 0) {q : Port} (hq : q ∈ allP c) (h : (prs m l).contains (netN m q.part q.name) = true) : growS c m l (netN c q.part q.name) = true := by
  unfold growS
  rw [List.all_eq_true]
  intro p hp
  by_cases e : netN c p.part p.name = netN c q.part q.name
  · rw [w.net hc hm hp hq e, h, Bool.or_true]
  · simp [e]
theorem growS_at {c m : Circuit} {l : List Int} {q : Port} (hq : q ∈ allP c) (h : growS c m l (netN c q.part q.name) = true) : (prs m l).contains (netN m q.part q.name) = true := by
  unfold growS at h
  rw [List.all_eq_true] at h
  have := h q hq
  simpa using this
theorem prs_grow {c m : Circuit} {l : List Int} (w : Wider c m) (hc : checkQ c l = 0) (hm : checkQ m l = 0) {p : Port} (hp : p ∈ allP c) (h : (prs c l).contains (netN c p.part p.name) = true) : (prs m l).contains (netN m p.part p.name) = true := by
  have c1 := (checkQ_zero hc).1
  have m1 := (checkQ_zero hm).1
  refine growS_at hp (lfp_least (S := growS c m l) ?_ _ (List.contains_iff_mem.1 h))
  intro y hy hf
  rcases List.mem_append.1 hy with hy | hy
  · obtain ⟨i, hi, hk, rfl⟩ := supplies_mem.1 hy
    have hpt := supply_port hc hi hk
    refine growS_of w c1 m1 hpt ?_
    exact prs_closed hm ⟨i, netN m i t1, [], true⟩ (List.mem_append_left _ (supplies_mem.2 ⟨i, by rw [w.parts]; exact hi, by rw [w.kind]; exact hk, rfl⟩)) rfl
  · obtain ⟨i, z, hi, hz, rfl⟩ := psgs_mem.1 hy
    obtain ⟨hto, hfr, _⟩ := pass_ports hc hi hz
    refine growS_of w c1 m1 hto ?_
    refine prs_closed hm ⟨i, netN m i z.to, z.fr.map (netN m i), z.all⟩ (List.mem_append_right _ (psgs_mem.2 ⟨i, z, by rw [w.parts]; exact hi, by rw [w.pass]; exact hz, rfl⟩)) ?_
    have hone : ∀ s ∈ z.fr, growS c m l (netN c i s) = true → (prs m l).contains (netN m i s) = true := fun s hs hg => growS_at (hfr s hs) hg
    unfold flowsB at hf ⊢
    cases ha : z.all with
    | true =>
      simp only [ha, if_true, List.all_map, List.all_eq_true, Function.comp] at hf ⊢
      exact fun s hs => hone s hs (hf s hs)
    | false =>
      simp only [ha, Bool.false_eq_true, if_false, List.any_map, List.any_eq_true, Function.comp] at hf ⊢
      obtain ⟨s, hs, hg⟩ := hf
      exact ⟨s, hs, hone s hs hg⟩

theorem state_is {c : Circuit} {l : List Int} {n : Nat} : decide (stateOf c l n = 2) = (prs c l).contains n := by
  unfold stateOf
  by_cases h : (prs c l).contains n = true
  · rw [if_pos h, h]; rfl
  · rw [if_neg h]
    have : (prs c l).contains n = false := by simpa using h
    rw [this]
    split <;> rfl
theorem at_ok {c : Circuit} {l : List Int} (h : checkQ c l = 0) {p : Port} (hp : p ∈ allP c) : atErr c l p = 0 ∧ atVal c l p = stateOf c l (netN c p.part p.name) := by
  have h1 : atErr c l p = 0 := by rw [atErr, if_neg (by simpa using h), allP_mem.1 hp]
  exact ⟨h1, by rw [atVal, if_neg (by simpa using h1)]⟩
theorem joined_wider {c : Circuit} {a b : Port} (h : joinErr c a b = 0) : Wider c (joinP c a b) := by
  rw [joinP_is h]
  exact ⟨rfl, fun x hx => pipedL_mem.2 (.inl hx)⟩
theorem joined_ends {c : Circuit} {a b : Port} {l : List Int} (h : joinErr c a b = 0) (hm : checkQ (joinP c a b) l = 0) :
    (atErr (joinP c a b) l a = 0 ∧ atErr (joinP c a b) l b = 0) ∧ atVal (joinP c a b) l a = atVal (joinP c a b) l b := by
  obtain ⟨c1, ga, gb, _⟩ := joinErr_zero.1 h
  have w := joined_wider h
  have ha : a ∈ allP (joinP c a b) := w.all ▸ allP_mem.2 ga
  have hb : b ∈ allP (joinP c a b) := w.all ▸ allP_mem.2 gb
  have m1 := (checkQ_zero hm).1
  obtain ⟨a1, a2⟩ := at_ok hm ha
  obtain ⟨b1, b2⟩ := at_ok hm hb
  refine ⟨⟨a1, b1⟩, ?_⟩
  have hp : pipeOf a b ∈ (joinP c a b).pipes := by rw [joinP_is h]; exact pipedL_mem.2 (.inr rfl)
  have hconn : Conn (joinP c a b).pipes a b := by
    have h1 := Conn.fwd (ps := (joinP c a b).pipes) (pipeOf a b).fr (pipeOf a b) (.refl _) hp
    unfold pipeOf at h1
    split at h1
    · exact h1.symm
    · exact h1
  have := (netP_same m1 ha hb).2 hconn
  rw [(netN_at m1 ha).1, (netN_at m1 hb).1] at this
  have hn : netN (joinP c a b) a.part a.name = netN (joinP c a b) b.part b.name := by omega
  rw [a2, b2, hn]

set_option maxRecDepth 20000 in
theorem c_pneumaticlaw24_PressureGrows (c : Circuit) (l : List Int) (x : Pipe) (hs : Sized c) (hl : l.length < 4611686018427387904) (hx : x.fr.name.length < 4611686018427387900 ∧ x.to.name.length < 4611686018427387900) : Pure Go.Proofs.Tryz.prog GL 11 [c.av, Ints.av l, x.av] (.p (.bool true)) := by
  refine Pure.of_walk (N := 113) Go.Proofs.Tryz.func11 rfl rfl rfl (by simp) (by first | (simp; done) | simp [*]) ?_
  have haw := c_pneumaticlaw24_awake
  simp
  refine xcall_pure (c_pneumaticlaw24_right c l hs hl) ?_
  cases hf : (fewP c && decide (l.length ≤ 200) && decide (checkQ c l = 0)) with
  | false =>
    simp
    refine xcall_pure haw ?_
    simp [XEndT]
  | true =>
    have h : checkQ c l = 0 := by simp at hf; exact hf.2
    have hc := (checkQ_zero h).1
    have h2 := check_parts hc
    have hal := allP_len h2.1 (by omega)
    have hms := joinP_sized (a := x.fr) (b := x.to) hs
    simp
    refine xcall_pure (c_circuit_Join c x.fr x.to hs) ?_
    by_cases hj : joinErr c x.fr x.to = 0
    · have w := joined_wider hj
      have hends := fun hm => joined_ends (l := l) hj hm
      have hgr := fun hm {p : Port} hp hh => prs_grow (p := p) w h hm hp hh
      have hall := w.all
      generalize joinP c x.fr x.to = m at *
      simp [hj]
      refine xcall_pure (c_pneumaticref24_Few m l hms) ?_
      cases hf2 : (fewP m && decide (l.length ≤ 200)) with
      | false =>
        simp
        refine xcall_pure haw ?_
        simp [XEndT]
      | true =>
        simp
        refine xcall_pure (c_pneumaticref24_Check m l hms hl) ?_
        by_cases hm : checkQ m l = 0
        · obtain ⟨⟨e1, e2⟩, e3⟩ := hends hm
          simp [hm]
          refine xcall_pure (c_pneumaticref21_All c h2.1 (by omega)) ?_
          simp
          refine XLoop.go [1, 3, 5, 7, 48, 49] [0, 1, 2] 0 [] (fun _ => []) (fun _ (k : Nat) => [(50, .p (.int .i64 k))]) (fun _ _ => []) (fun k => k ≤ (allP c).length) (fun k => (allP c).length - k) 0 (by omega) ?_ ?_
          · simp
            try decide
          · intro k hk
            simp
            refine xif_split (fun h3 => ?_) (fun h3 => ?_)
            · simp at h3
              obtain ⟨p, ep⟩ := get_lt h3
              have hp := List.mem_of_getElem? ep
              obtain ⟨a1, a2⟩ := at_ok h hp
              obtain ⟨b1, b2⟩ := at_ok hm (hall ▸ hp)
              have hA := c_pressure_At c l p hs hl
              have hB := c_pressure_At m l p hms hl
              have h22 : atVal c l p = 2 → atVal m l p = 2 := fun hv => by
                have h5 : (prs c l).contains (netN c p.part p.name) = true := by
                  rw [← state_is, ← a2]; simpa using hv
                have h6 := hgr hm hp h5
                rw [← state_is, ← b2] at h6
                simpa using h6
              rw [a1] at hA
              rw [b1] at hB
              generalize atVal c l p = u at hA h22
              generalize atVal m l p = v at hB h22
              simp [h3, ep, -getElem?_pos, List.getElem?_cons_zero, List.getElem?_cons_succ]
              refine xcall_pure hA ?_
              simp
              refine xcall_pure hB ?_
              simp
              by_cases hu : u = 2
              · have hv := h22 hu
                simp [hu, hv]
                refine ⟨wrap_i64 (by omega) (by omega), k + 1, by omega, by omega, ?_⟩
                simp
                try decide
              · simp [hu]
                refine ⟨wrap_i64 (by omega) (by omega), k + 1, by omega, by omega, ?_⟩
                simp
                try decide
            · have hX := c_pressure_At m l x.fr hms hl
              have hY := c_pressure_At m l x.to hms hl
              rw [e1] at hX
              rw [e2, ← e3] at hY
              simp
              refine xcall_pure hX ?_
              simp
              refine xcall_pure hY ?_
              simp
              refine xcall_pure haw ?_
              simp [XEndT]
        · simp [hm]
          refine xcall_pure haw ?_
          simp [XEndT]
    · simp [hj]
      refine xcall_pure haw ?_
      simp [XEndT]

end Go.Am
