/- Lemmas and contracts for the proof of a statement of this seat. -/
import Derived.Test.YtebnpnkcoibooaaGreatDoorZCK
import Derived.Test.YtebnpnkcoibooaaGreatDoorZCL
set_option linter.unusedVariables false
set_option linter.unusedSimpArgs false
/- Plain facts for the laws PressureCauses, PressureRests. -/
namespace Go.Am
open Go Go.Proofs Go.Pn

theorem rest_found {c : Circuit} {l : List Int} (h : checkQ c l = 0) (he : restErr c l = 0) : ∃ n, restPos c l = posN c l n ∧ onceL c (posN c l n) = posN c l n ∧ restBad c l = allT c l n c.parts.length := by
  unfold restErr at he
  unfold restPos restBad
  rw [if_neg (by simpa using h)] at he ⊢
  rw [if_neg (by simpa using h)]
  cases hx : restIx c l with
  | none => rw [hx] at he; simp at he
  | some n =>
    refine ⟨n, rfl, ?_, rfl⟩
    have := List.find?_some hx
    simpa using this
theorem rest_err {c : Circuit} {l : List Int} (h : checkQ c l = 0) (he : restErr c l ≠ 0) : restErr c l = 21 := by
  unfold restErr at he ⊢
  rw [if_neg (by simpa using h)] at he ⊢
  cases hx : restIx c l with
  | none => rfl
  | some n => rw [hx] at he; simp at he

theorem bad_rest {c : Circuit} {l : List Int} {n : Nat} {x : Int} (hx : x ∈ badL c (posN c l n)) : x ∈ allT c l n c.parts.length := by
  obtain ⟨j, hj⟩ := List.mem_iff_getElem?.1 hx
  obtain ⟨b, rfl, hb⟩ := bad_mem hj
  unfold allT
  refine List.mem_map.2 ⟨b, List.mem_filter.2 ⟨List.mem_range.2 hb, ?_⟩, rfl⟩
  unfold sawB
  rw [Bool.or_eq_true]
  refine .inl (List.any_eq_true.2 ⟨n, List.mem_range.2 (by omega), ?_⟩)
  simpa using hx

theorem still_pos {c : Circuit} {l : List Int} (h : checkQ c l = 0) {i : Nat} (hi : i < c.parts.length) (hp : (pilotsOf (kindAt c i).toNat).1 = []) : ∀ n, (posN c l n)[i]? = l[i]?
  | 0 => rfl
  | n + 1 => by
    have hl := (checkQ_zero (posN_ok h (n := n))).2.1
    obtain ⟨a, ha⟩ := get_lt (xs := posN c l n) (k := i) (by omega)
    show (onceL c (posN c l n))[i]? = _
    rw [onceL_at hi, ← still_pos h hi hp n, stepAt, movedOf, if_pos hp, ha]
    simp [posOf, ha, -getElem?_pos]

theorem spring_pos {c : Circuit} {m : List Int} (h : checkQ c m = 0) (hm : onceL c m = m) {i : Nat} (hi : i < c.parts.length) (hp : (pilotsOf (kindAt c i).toNat).1 ≠ []) (hn : (pilotsOf (kindAt c i).toNat).2 = []) {a : Int} (ha : m[i]? = some a) :
    stateOf c m (netN c i (pilotsOf (kindAt c i).toNat).1) = 2 ↔ a = 1 := by
  have h1 := onceL_at (c := c) (l := m) hi
  rw [hm, ha, stepAt, movedOf, if_neg hp, if_pos hn] at h1
  have h2 : a = if actsB c (underL c m) i (pilotsOf (kindAt c i).toNat).1 = true then 1 else 0 := by simpa using h1
  unfold actsB at h2
  rw [if_neg hp, under_mkd h] at h2
  unfold stateOf
  by_cases hc : (prs c m).contains (netN c i (pilotsOf (kindAt c i).toNat).1) = true
  · rw [if_pos hc] at h2 ⊢; simp [h2]
  · rw [if_neg hc] at h2 ⊢
    subst h2
    split <;> simp

end Go.Am
/- Plain facts for the law PressureCauses. -/
namespace Go.Am
open Go Go.Proofs Go.Pn

/-- What is in the least has a cause in it. -/
theorem lfp_caused {ps : List Psg} {N : Nat} (hN : ∀ y ∈ ps, y.to < N) {n : Nat} (h : n ∈ lfp ps N) : ∃ y ∈ ps, y.to = n ∧ flowsB (lfp ps N).contains y = true := by
  have := lfp_least (ps := ps) (N := N) (S := fun n => decide (∃ y ∈ ps, y.to = n ∧ flowsB (lfp ps N).contains y = true)) (fun y hy hf => ?_) n h
  · simpa using this
  · rw [decide_eq_true_eq]
    refine ⟨y, hy, rfl, flows_mono (fun m hm => ?_) hf⟩
    rw [decide_eq_true_eq] at hm
    obtain ⟨z, hz, rfl, hf2⟩ := hm
    exact lfp_closed hN z hz hf2

/-- Through a part: enough of its sources are under pressure. -/
def wantB (c : Circuit) (l : List Int) (i : Nat) (y : Pass) : Bool := decide ((y.fr.filter fun s => (prs c l).contains (netN c i s)).length = y.fr.length) || (decide (0 < (y.fr.filter fun s => (prs c l).contains (netN c i s)).length) && !y.all)
theorem want_flows {c : Circuit} {l : List Int} {i : Nat} {y : Pass} (h1 : 1 ≤ y.fr.length) : wantB c l i y = flowsB (prs c l).contains ⟨i, netN c i y.to, y.fr.map (netN c i), y.all⟩ := by
  rw [Bool.eq_iff_iff]
  unfold wantB flowsB
  cases ha : y.all with
  | true =>
    simp [List.length_filter_eq_length_iff]
  | false =>
    simp only [Bool.or_eq_true, decide_eq_true_eq, Bool.and_eq_true, Bool.not_false, and_true, Bool.false_eq_true, if_false, List.any_map, List.any_eq_true, List.length_pos_iff_exists_mem, List.mem_filter, Function.comp]
    constructor
    · rintro (h | ⟨s, hs⟩)
      · obtain ⟨s, hs⟩ := List.length_pos_iff_exists_mem.1 (by omega : 0 < (y.fr.filter fun s => (prs c l).contains (netN c i s)).length)
        exact ⟨s, List.mem_filter.1 hs⟩
      · exact ⟨s, hs⟩
    · exact fun h => .inr h

theorem flow_mem {c : Circuit} {l : List Int} {i : Nat} (hi : i < c.parts.length) : (i : Int) ∈ flowL c l ↔ flowB c l i = true := by
  unfold flowL flowT
  rw [List.mem_map]
  constructor
  · rintro ⟨j, hj, e⟩
    obtain ⟨_, h2⟩ := List.mem_filter.1 hj
    have : j = i := by have : (j : Int) = i := e; omega
    rw [← this]; exact h2
  · exact fun h => ⟨i, List.mem_filter.2 ⟨List.mem_range.2 hi, h⟩, rfl⟩
theorem want_fed {c : Circuit} {l : List Int} (h : checkQ c l = 0) {i : Nat} (hi : i < c.parts.length) {y : Pass} (hy : y ∈ passAt c l i) (hw : wantB c l i y = true) : (prs c l).contains (netN c i y.to) = true := by
  rw [want_flows (pass_ports h hi hy).2.2] at hw
  exact prs_closed h ⟨i, netN c i y.to, y.fr.map (netN c i), y.all⟩ (List.mem_append_right _ (psgs_mem.2 ⟨i, y, hi, hy, rfl⟩)) hw

/-- The cause of a net's pressure. -/
def causeB (c : Circuit) (l : List Int) (p : Port) : Bool := decide (kindAt c p.part = 0) || (decide ((openOf (kindAt c p.part).toNat (decide (posOf l p.part = 1))).1 = p.name) && decide (p.part ∈ flowL c l))

theorem to_open {c : Circuit} {l : List Int} {i : Int} {y : Pass} (hy : y ∈ passAt c l i) : (openOf (kindAt c i).toNat (decide (posOf l i = 1))).1 = y.to := by
  unfold passAt passedOf at hy
  split at hy
  · cases hy
  · simp at hy; rw [hy]
theorem supply_name {c : Circuit} {p : Port} (hp : p ∈ allP c) (hk : kindAt c p.part = 0) : p.name = t1 := by
  obtain ⟨q, h1, h2, h3⟩ := given_mem.1 (allP_mem.1 hp)
  have : q.kind = 0 := by rw [← hk, kindAt, h1]; rfl
  rw [portsOf, this] at h3
  have hports : kindPorts 0 = [t1] := by decide +kernel
  simpa [hports] using h3

/-- A net is under pressure exactly if a port of it is a cause. -/
theorem cause_iff {c : Circuit} {l : List Int} (h : checkQ c l = 0) {k : Nat} {g : List Port} (e : (nets c)[k]? = some g) : g.any (causeB c l) = (prs c l).contains k := by
  have hc := (checkQ_zero h).1
  rw [Bool.eq_iff_iff]
  constructor
  · intro ha
    obtain ⟨p, hp, hb⟩ := List.any_eq_true.1 ha
    obtain ⟨_, hall⟩ := netP_of hc e hp
    obtain ⟨q, h1, h2, h3⟩ := given_mem.1 (allP_mem.1 hall)
    have hlt : p.part.toNat < c.parts.length := (List.getElem?_eq_some_iff.1 h1).1
    obtain ⟨i, hi⟩ : ∃ i : Nat, p.part = i := ⟨p.part.toNat, by omega⟩
    obtain ⟨pi, pn⟩ := p
    simp only at hi hlt
    subst hi
    rw [Int.toNat_natCast] at hlt
    have hn : netN c i pn = k := netN_of hc e hp
    unfold causeB at hb
    simp only [Bool.or_eq_true, Bool.and_eq_true, decide_eq_true_eq] at hb
    rcases hb with hb | ⟨hb, hf⟩
    · have hnm := supply_name hall hb
      simp only at hnm
      subst hnm
      have := prs_closed h ⟨i, netN c i t1, [], true⟩ (List.mem_append_left _ (supplies_mem.2 ⟨i, hlt, hb, rfl⟩)) (by simp [flowsB])
      rw [← hn]; exact this
    · have hf2 := (flow_mem hlt).1 hf
      unfold flowB at hf2
      obtain ⟨y, hy, hfl⟩ := List.any_eq_true.1 hf2
      have hto := to_open hy
      rw [hto] at hb
      subst hb
      have := prs_closed h ⟨i, netN c i y.to, y.fr.map (netN c i), y.all⟩ (List.mem_append_right _ (psgs_mem.2 ⟨i, y, hlt, hy, rfl⟩)) hfl
      rw [← hn]; exact this
  · intro hm
    obtain ⟨y, hy, hto, hfl⟩ := lfp_caused (prs_to h) (List.contains_iff_mem.1 hm)
    rcases List.mem_append.1 hy with hy | hy
    · obtain ⟨i, hi, hk, rfl⟩ := supplies_mem.1 hy
      obtain ⟨g2, e2, hg⟩ := net_has hc (supply_port h hi hk)
      simp only at hto
      rw [hto, e] at e2
      cases e2
      refine List.any_eq_true.2 ⟨_, hg, ?_⟩
      simp [causeB, hk]
    · obtain ⟨i, z, hi, hz, rfl⟩ := psgs_mem.1 hy
      obtain ⟨g2, e2, hg⟩ := net_has hc (pass_ports h hi hz).1
      simp only at hto
      rw [hto, e] at e2
      cases e2
      refine List.any_eq_true.2 ⟨_, hg, ?_⟩
      have hF : flowB c l i = true := List.any_eq_true.2 ⟨z, hz, hfl⟩
      simp [causeB, to_open hz, flow_mem hi, hF]

end Go.Am
/- Contracts: the law PressureRests. -/
namespace Go.Am
open Go Go.Proofs Go.Pn


theorem spring_at {c : Circuit} {m : List Int} (h : checkQ c m = 0) (hm : onceL c m = m) {i : Nat} {q : Part} {a : Int} (F : PortFacts c m i q a) (hp : (pilotsOf q.kind.toNat).1 ≠ []) (hn : (pilotsOf q.kind.toNat).2 = []) :
    atErr c m ⟨i, (pilotsOf q.kind.toNat).1⟩ = 0 ∧ decide (atVal c m ⟨i, (pilotsOf q.kind.toNat).1⟩ = 2) = decide (a = 1) := by
  have hk : q.kind.toNat < 14 := by have := F.kind; omega
  have hg : givenErr c ⟨i, (pilotsOf q.kind.toNat).1⟩ = 0 := allP_mem.1 (F.mem _ ((pilot_ports hk).1 hp))
  have h1 : atErr c m ⟨i, (pilotsOf q.kind.toNat).1⟩ = 0 := by rw [atErr, if_neg (by simpa using h), hg]
  refine ⟨h1, ?_⟩
  rw [atVal, if_neg (by simpa using h1)]
  have := spring_pos h hm F.lt (by rw [F.kat]; exact hp) (by rw [F.kat]; exact hn) F.pos
  rw [F.kat] at this
  simp only
  rw [decide_eq_decide]
  exact this

theorem c_pneumaticlaw24_PressureRests_1 (x : Int) (bad : List Int) (hb : bad.length < 4611686018427387904) : Pure Go.Proofs.Tryz.prog GL 37 [.p (.int .i64 x), .iptr 1 [[.lst 1 (bad.map Int.enc)]] 0 0] (.p (.bool (!decide (x ∈ bad)))) := by
  refine Pure.of_walk (N := 8) Go.Proofs.Tryz.func37 rfl rfl rfl (by simp) (by first | (simp; done) | simp [*]) ?_
  simp
  refine xcall_pure (c_Con_Int bad x hb) ?_
  simp [XEndT]

set_option maxRecDepth 20000 in
theorem c_pneumaticlaw24_PressureRests (c : Circuit) (l : List Int) (hs : Sized c) (hl : l.length < 4611686018427387904) : Pure Go.Proofs.Tryz.prog GL 6 [c.av, Ints.av l] (.p (.bool true)) := by
  refine Pure.of_walk (N := 125) Go.Proofs.Tryz.func6 rfl rfl rfl (by simp) (by first | (simp; done) | simp [*]) ?_
  have haw := c_pneumaticlaw24_awake
  simp
  refine xcall_pure (c_pneumaticlaw24_right c l hs hl) ?_
  cases hf : (fewP c && decide (l.length ≤ 200) && decide (checkQ c l = 0)) with
  | false =>
    simp
    refine xcall_pure haw ?_
    simp [XEndT]
  | true =>
    have h : checkQ c l = 0 := by simp at hf; exact hf.2
    simp
    have hRs := c_pressure_Rest c l hs hl
    have hBs := @restBad_small c l
    by_cases he : restErr c l = 0
    · obtain ⟨n, h1, h2, h3⟩ := rest_found h he
      rw [h1, he] at hRs
      have hm : checkQ c (posN c l n) = 0 := posN_ok h
      have hstill := fun (i : Nat) (hi : i < c.parts.length) hp => still_pos h (i := i) hi hp n
      have hbad : ∀ x ∈ badL c (posN c l n), x ∈ restBad c l := fun x hx => by rw [h3]; exact bad_rest hx
      generalize posN c l n = m at *
      generalize restBad c l = B at *
      have hml := (checkQ_zero hm).2.1
      have hpl := check_parts (checkQ_zero h).1
      have hms : m.length < 4611686018427387904 := by omega
      have hbl := @bad_small c m
      rw [if_pos hm] at hbl
      have hany : (badL c m).any (fun x => !decide (x ∈ B)) = false := by
        rw [List.any_eq_false]
        intro x hx
        simp [hbad x hx]
      refine xcall_pure hRs ?_
      simp
      have hSt := c_pressure_Step c m hs hms
      rw [if_pos hm, if_pos hm, h2, hm] at hSt
      generalize badL c m = D at *
      refine xcall_pure hSt ?_
      simp [hml]
      refine xcall_pure (c_Eq_Int m m hms) ?_
      simp
      refine xcall_lent ?_
      simp
      refine ⟨_, c_ConF_Int D (fun x => !decide (x ∈ B)) 37 [.iptr 1 [[.lst 1 (B.map Int.enc)]] 0 0] rfl hbl (fun x hx => c_pneumaticlaw24_PressureRests_1 x B hBs), rfl, ?_⟩
      rw [hany]
      simp
      refine XLoop.go [1, 2, 5, 65, 66] [0] 0 [] (fun _ => []) (fun _ (k : Nat) => [(67, .p (.int .i64 k))]) (fun _ _ => []) (fun k => k ≤ c.parts.length) (fun k => c.parts.length - k) 0 (by omega) ?_ ?_
      · simp
        try decide
      · rintro k hk
        simp
        refine xif_split (fun h3 => ?_) (fun h3 => ?_)
        · simp at h3
          obtain ⟨q, e⟩ := get_lt h3
          obtain ⟨a, F⟩ := part_facts hm e
          have f2 := F.pos
          have f4 := F.ltl
          have g2 := hstill k h3
          rw [f2, F.kat] at g2
          have hk3 : kindErr q.kind = 0 := kindErr_ok.2 F.kind
          have hsp := spring_at hm h2 F
          simp [h3, e, Part.enc, -getElem?_pos, List.getElem?_cons_zero, List.getElem?_cons_succ]
          refine xcall_pure (c_part_Pilots q.kind) ?_
          by_cases hp : (pilotsOf q.kind.toNat).1 = []
          · have g4 : l[k]? = some a := (g2 hp).symm
            have g5 : k < l.length := (List.getElem?_eq_some_iff.1 g4).1
            simp [hk3, hp]
            refine XDraw.intro (by kernel_rfl) ?_
            simp [f2, f4, g4, g5, Int.enc, -getElem?_pos, List.getElem?_cons_zero, List.getElem?_cons_succ]
            refine ⟨.of (by kernel_rfl), ?_⟩
            refine ⟨wrap_i64 (by omega) (by omega), k + 1, by omega, by omega, ?_⟩
            simp
            try decide
          · simp [hk3, hp]
            refine XDraw.intro (by kernel_rfl) ?_
            simp [hp]
            refine ⟨.of (by kernel_rfl), ?_⟩
            refine xif_split (fun hn => ?_) (fun hn => ?_)
            · simp at hn
              obtain ⟨s1, s2⟩ := hsp hp hn
              have hAt := c_pressure_At c m ⟨k, (pilotsOf q.kind.toNat).1⟩ hs hms
              rw [s1] at hAt
              simp [hn]
              refine xcall_pure hAt ?_
              simp [f2, f4, Int.enc, -getElem?_pos, List.getElem?_cons_zero, List.getElem?_cons_succ]
              rw [s2]
              simp
              refine ⟨wrap_i64 (by omega) (by omega), k + 1, by omega, by omega, ?_⟩
              simp
              try decide
            · simp
              refine ⟨wrap_i64 (by omega) (by omega), k + 1, by omega, by omega, ?_⟩
              simp
              try decide
        · simp
          refine xcall_pure haw ?_
          simp [XEndT]
    · have he2 := rest_err h he
      rw [he2] at hRs
      refine xcall_pure hRs ?_
      simp
      refine xcall_pure haw ?_
      simp [XEndT]

end Go.Am
