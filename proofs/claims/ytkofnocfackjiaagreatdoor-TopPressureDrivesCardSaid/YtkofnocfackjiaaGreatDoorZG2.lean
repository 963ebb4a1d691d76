/- Lemmas and contracts for the proof of a statement of this seat. -/
import Derived.Test.YtkofnocfackjiaaGreatDoorZG1
import Derived.Test.YtkofnocfackjiaaGreatDoorZCJ
import Derived.Test.YtkofnocfackjiaaGreatDoorZCG
import Derived.Test.YtkofnocfackjiaaGreatDoorZF8
set_option linter.unusedVariables false
set_option linter.unusedSimpArgs false
/- Plain: pushing a cylinder that a valve drives; for T7. -/
namespace Go.Am
open Go Go.Proofs Go.Pn

theorem pass_valve {k : Nat} (hk : k = 2 ∨ k = 3) (b : Bool) : (∃ a, passedOf k b = [⟨if b then [52] else [50], [[49]], a⟩]) ∧ (openOf k b).1 = (if b then [52] else [50]) := by
  rcases hk with rfl | rfl <;> cases b <;> exact ⟨⟨_, rfl⟩, rfl⟩
theorem pass_gives {k : Nat} (h : k < 14) (b : Bool) : ∀ y ∈ passedOf k b, playsN k y.to = 1 := (by decide +kernel : ∀ k, k < 14 → ∀ b : Bool, ∀ y ∈ passedOf k b, playsN k y.to = 1) k h b
theorem flow_valve {c : Circuit} {l : List Int} {v : Nat} (hv : v < c.parts.length) (hk : kindAt c v = 2 ∨ kindAt c v = 3) : ((v : Int) ∈ flowL c l) ↔ (prs c l).contains (netN c v [49]) = true := by
  rw [flow_mem hv]
  have hk' : (kindAt c v).toNat = 2 ∨ (kindAt c v).toNat = 3 := by omega
  obtain ⟨⟨a, ha⟩, _⟩ := pass_valve hk' (decide (posOf l v = 1))
  unfold flowB passAt
  rw [ha]
  cases a <;> simp [flowsB]
theorem kind_one {c : Circuit} (h : checkP c = 0) {p : Port} (hp : p ∈ allP c) : ∃ (j : Nat) (r : Part), p.part = j ∧ c.parts[j]? = some r ∧ kindAt c p.part = r.kind ∧ r.kind.toNat < 14 ∧ p.name ∈ kindPorts r.kind.toNat ∧ roleP c p = playsN r.kind.toNat p.name := by
  obtain ⟨j, r, e1, e2, e3, e4, e5, e6, e7, e8⟩ := role_all (check_parts h).1 hp
  exact ⟨j, r, e1, e3, e4, by omega, e6, by rw [roleP, e4]⟩
theorem chamber_fed {c : Circuit} {l : List Int} (h : checkQ c l = 0) {i v : Nat} {X w : Txt} (hp : (⟨i, X⟩ : Port) ∈ allP c) (hv : v < c.parts.length) (hk : kindAt c v = 2 ∨ kindAt c v = 3) (hf : feedL c i X = [⟨v, w⟩]) :
    (prs c l).contains (netN c i X) = (decide ((if posOf l v = 1 then ([52] : Txt) else [50]) = w) && (prs c l).contains (netN c v [49])) := by
  have hc := (checkQ_zero h).1
  obtain ⟨g, eg, hg⟩ := net_has hc hp
  have hga := net_around hc (List.mem_of_getElem? eg) hg
  rw [← cause_iff h eg]
  obtain ⟨f1, f2, f3⟩ := feed_mem (c := c) (i := i) (s := X) (a := ⟨v, w⟩) (by rw [hf]; simp)
  have hk' : (kindAt c v).toNat = 2 ∨ (kindAt c v).toNat = 3 := by omega
  obtain ⟨_, hop⟩ := pass_valve hk' (decide (posOf l v = 1))
  have hcv : causeB c l ⟨v, w⟩ = (decide ((if posOf l v = 1 then ([52] : Txt) else [50]) = w) && (prs c l).contains (netN c v [49])) := by
    unfold causeB
    have h0 : ¬ kindAt c (v : Int) = 0 := by omega
    simp only [hop, decide_eq_true_eq]
    rw [decide_eq_false h0, Bool.false_or]
    congr 1
    rw [Bool.eq_iff_iff, decide_eq_true_eq]
    exact flow_valve hv hk
  rw [← hcv, Bool.eq_iff_iff]
  constructor
  · intro ha
    obtain ⟨p, hpg, hb⟩ := List.any_eq_true.1 ha
    rw [hga] at hpg
    have hpa : p ∈ allP c := (List.mem_filter.1 hpg).1
    obtain ⟨j, r, e1, e2, e3, e4, e5, e6⟩ := kind_one hc hpa
    have hrole : roleP c p = 1 := by
      unfold causeB at hb
      simp only [Bool.or_eq_true, Bool.and_eq_true, decide_eq_true_eq] at hb
      rcases hb with hb | ⟨hb1, hb2⟩
      · have hn := supply_name hpa hb
        rw [e6, ← e3, hb, hn]
        decide +kernel
      · rw [e1] at hb2
        have hj := (List.getElem?_eq_some_iff.1 e2).1
        rw [flow_mem hj] at hb2
        unfold flowB at hb2
        obtain ⟨y, hy, _⟩ := List.any_eq_true.1 hb2
        have ht := to_open hy
        rw [e1] at hb1
        rw [ht] at hb1
        rw [e6, ← hb1]
        have e3' : kindAt c (j : Int) = r.kind := by rw [← e1]; exact e3
        unfold passAt at hy
        rw [e3'] at hy
        exact pass_gives e4 _ y hy
    have : p ∈ feedL c i X := List.mem_filter.2 ⟨hpg, by simp [sideB, givesB, hrole]⟩
    rw [hf, List.mem_singleton] at this
    rw [← this]; exact hb
  · intro hb
    refine List.any_eq_true.2 ⟨⟨v, w⟩, ?_, hb⟩
    rw [hga]; exact f1
theorem driver_facts {c : Circuit} (h : checkP c = 0) {i : Nat} {q : Part} (e : c.parts[i]? = some q) (hd : drvErr c q.name = 0) : q.kind = 1 ∧ ∃ v : Nat, (drvRes c q.name).1 = v ∧ v < c.parts.length ∧ (kindAt c v = 2 ∨ kindAt c v = 3) ∧
    feedL c i [50] = [⟨v, if (drvRes c q.name).2 then [50] else [52]⟩] ∧ feedL c i [52] = [⟨v, if (drvRes c q.name).2 then [52] else [50]⟩] := by
  obtain ⟨hk, v, hv, hf⟩ := drv_facts h e hd
  obtain ⟨hp2, hp4⟩ := cyl_ports e hk
  obtain ⟨s2a, s2b⟩ := side_feed h hp2
  obtain ⟨s4a, s4b⟩ := side_feed h hp4
  have hki : kindAt c (i : Int) = 1 := by rw [kind_at e, hk]
  refine ⟨hk, v, hv, hf.lt, ?_, by rw [← s2b]; exact hf.two.2.1, by rw [← s4b]; exact hf.four.2.1⟩
  have hix : partIx c q.name = i := partI_at h e
  have hdr : drvRes c q.name = (drvOf c i).getD (0, false) := by unfold drvRes; rw [hd, if_neg (by simp), hix]
  cases ho : drvOf c i with
  | none =>
    unfold drvErr at hd
    rw [if_neg (by simpa using h), hix, if_neg (by omega), hki, if_neg (by simp), ho] at hd
    simp at hd
  | some r =>
    rw [hdr, ho] at hv
    simp only [Option.getD_some] at hv
    unfold drvOf at ho
    split at ho
    · split at ho
      · cases ho
      · split at ho
        · rename_i hkk
          simp only [Option.some.injEq] at ho
          rw [← ho] at hv
          simp only at hv
          rw [hv] at hkk
          exact hkk
        · cases ho
    · cases ho
theorem drives_law {c : Circuit} {l : List Int} (h : checkQ c l = 0) {i : Nat} {q : Part} (e : c.parts[i]? = some q) (hd : drvErr c q.name = 0) : ∃ (v : Nat) (a : Int), (drvRes c q.name).1 = v ∧ v < c.parts.length ∧ l[v]? = some a ∧
    atErr c l ⟨v, [49]⟩ = 0 ∧ pushErr c l q.name = 0 ∧ pushVal c l q.name = if atVal c l ⟨v, [49]⟩ = 2 then (if decide (a = 1) = (drvRes c q.name).2 then 1 else -1) else 0 := by
  obtain ⟨hc, hlen, hpos⟩ := checkQ_zero h
  obtain ⟨hk, v, hv, hvl, hkv, f2, f4⟩ := driver_facts hc e hd
  have hki : kindAt c (i : Int) = 1 := by rw [kind_at e, hk]
  obtain ⟨hp2, hp4⟩ := cyl_ports e hk
  obtain ⟨r, er⟩ := get_lt hvl
  obtain ⟨a, ea, _⟩ := hpos v r er
  have hpa : posOf l v = a := by unfold posOf; rw [Int.toNat_natCast, ea]; rfl
  have hrk : r.kind.toNat = 2 ∨ r.kind.toNat = 3 := by rw [kind_at er] at hkv; omega
  have hp1 : (⟨v, [49]⟩ : Port) ∈ allP c := by
    rw [port_mem hc er]
    rcases hrk with hh | hh <;> rw [hh] <;> decide +kernel
  have c2 := chamber_fed h hp2 hvl hkv f2
  have c4 := chamber_fed h hp4 hvl hkv f4
  rw [hpa] at c2 c4
  have hae : atErr c l ⟨v, [49]⟩ = 0 := by unfold atErr; rw [if_neg (by simpa using h), allP_mem.1 hp1]
  have hav : atVal c l ⟨v, [49]⟩ = stateOf c l (netN c v [49]) := by unfold atVal; rw [hae, if_neg (by simp)]
  have hst : atVal c l ⟨v, [49]⟩ = 2 ↔ (prs c l).contains (netN c v [49]) = true := by
    rw [hav]
    unfold stateOf
    split
    · simp_all
    · split <;> simp_all
  have hpi : partI c q.name = i := partI_at hc e
  have hpe : pushErr c l q.name = 0 := by unfold pushErr; rw [if_neg (by simpa using h), hpi, if_neg (by omega), hki, if_neg (by simp)]
  have hpv : pushVal c l q.name = pushAt ((prs c l).contains (netN c i [52])) ((prs c l).contains (netN c i [50])) := by
    unfold pushVal
    rw [hpe, if_neg (by simp), hpi]
    unfold actsB
    rw [if_neg (by decide), if_neg (by decide), under_mkd h]
    rfl
  refine ⟨v, a, hv, hvl, ea, hae, hpe, ?_⟩
  rw [hpv, c2, c4]
  generalize (drvRes c q.name).2 = b
  by_cases hs : atVal c l ⟨v, [49]⟩ = 2
  · rw [if_pos hs]
    rw [hst.1 hs]
    by_cases ha : a = 1 <;> cases b <;> simp [ha, pushAt]
  · rw [if_neg hs]
    have : (prs c l).contains (netN c v [49]) = false := by
      cases hh : (prs c l).contains (netN c v [49]) with
      | false => rfl
      | true => exact absurd (hst.2 hh) hs
    rw [this]
    simp [pushAt]
end Go.Am
/- Contracts: TopPressureDrives. -/
namespace Go.Am
open Go Go.Proofs Go.Pn

theorem c_pneumatictop_runRight (c : Circuit) (hs : Sized c) : Pure Tryz.prog GL 37 [c.av] (.p (.bool (fewP c && decide (checkP c = 0)))) := by
  refine Pure.of_walk (N := 10) Tryz.func37 rfl rfl rfl (by simp) (by first | (simp; done) | simp [*]) ?_
  have hF := c_pneumaticref21_Few c hs
  have hC := c_pneumaticref21_Check c hs
  simp
  refine xcall_pure hF ?_
  cases h : fewP c with
  | true =>
    simp
    refine xcall_pure hC ?_
    simp [XEndT]
  | false => simp [XEndT]

theorem kT_p : pushVal fourC [0, 0, 0, 0] [65] = -1 ∧ pushErr fourC [0, 0, 0, 0] [65] = 0 ∧ pushVal fourC [0, 0, 0, 1] [65] = 1 ∧ pushErr fourC [0, 0, 0, 1] [65] = 0 := by decide +kernel

set_option maxRecDepth 40000 in
theorem c_pneumatictop_runPressure (_ : Unit) : Pure Tryz.prog GL 39 [] (.p (.bool true)) := by
  refine Pure.of_walk (N := 51) Tryz.func39 rfl rfl rfl (by simp) (by first | (simp; done) | simp [*]) ?_
  obtain ⟨hs, _⟩ := four_sized
  have hFo := c_pneumaticlaw21_Four
  have hA := c_pressure_Push fourC [0, 0, 0, 0] [65] hs (by decide)
  have hB := c_pressure_Push fourC [0, 0, 0, 1] [65] hs (by decide)
  have hD := c_label_Legend fourC hs fun _ => by decide +kernel
  rw [kT_p.1, kT_p.2.1] at hA
  rw [kT_p.2.2.1, kT_p.2.2.2] at hB
  rw [if_pos k26_c, k26_c, k26_d] at hD
  simp
  refine xcall_pure hFo ?_
  simp
  refine xcall_lent ?_
  simp
  refine ⟨_, hA, rfl, ?_⟩
  simp
  refine xcall_lent ?_
  simp
  refine ⟨_, hB, rfl, ?_⟩
  simp
  refine xcall_pure hD ?_
  simp [d26]
  simp [XEndT]

set_option maxRecDepth 20000 in
theorem c_pneumatictop_TopPressureDrives (c : Circuit) (l : List Int) (hs : Sized c) (hl : l.length < 4611686018427387904) : Pure Tryz.prog GL 10 [c.av, Ints.av l] (.p (.bool true)) := by
  refine Pure.of_walk (N := 89) Tryz.func10 rfl rfl rfl (by simp) (by first | (simp; done) | simp [*]) ?_
  have hR := c_pneumatictop_runRight c hs
  have hQ := c_pneumaticref24_Check c l hs hl
  have hP := c_pneumatictop_runPressure ()
  simp [Ints.av]
  refine xcall_pure hR ?_
  cases hf : (fewP c && decide (checkP c = 0)) with
  | false =>
    simp
    refine xcall_pure hP ?_
    simp [XEndT]
  | true =>
    simp only [Bool.and_eq_true, decide_eq_true_eq] at hf
    obtain ⟨hfw, h⟩ := hf
    have h2 := (check_parts h).2.1
    by_cases h20 : 20 < (l.length : Int)
    · simp [h20]
      refine xcall_pure hP ?_
      simp [XEndT]
    · simp [h20]
      refine xcall_pure hQ ?_
      by_cases hq : checkQ c l = 0
      · simp [hq]
        refine XLoop.go [1, 2, 30, 31] [0] 0 [] (fun _ => []) (fun _ (i : Nat) => [(32, .p (.int .i64 i))]) (fun _ _ => []) (fun i => i ≤ c.parts.length) (fun i => c.parts.length - i) 0 (by omega) ?_ ?_
        · simp
          try decide
        intro i hi
        simp
        refine xif_split (fun h3 => ?_) (fun h3 => ?_)
        · simp at h3
          obtain ⟨q, eq⟩ := get_lt h3
          have hD := c_inspect_Driver c q.name hs
          simp [h3, eq, -getElem?_pos, List.getElem?_cons_zero, List.getElem?_cons_succ]
          refine xcall_pure hD ?_
          by_cases hde : drvErr c q.name = 0
          · obtain ⟨v, a, v1, v2, v3, v4, v5, v6⟩ := drives_law hq eq hde
            have hA := c_pressure_At c l ⟨v, [49]⟩ hs hl
            have hU := c_pressure_Push c l q.name hs hl
            rw [v4] at hA
            rw [v5, v6] at hU
            have w1 : ¬ (v : Int) < 0 := by omega
            have w2 : ¬ (c.parts.length : Int) ≤ (v : Int) := by omega
            have w3 := (List.getElem?_eq_some_iff.1 v3).1
            generalize (drvRes c q.name).2 = b at *
            generalize atVal c l ⟨v, [49]⟩ = f at *
            simp [hde, v1, w1, w2, -getElem?_pos, List.getElem?_cons_zero, List.getElem?_cons_succ]
            refine xcall_pure hA ?_
            simp
            refine xcall_pure hU ?_
            by_cases hf2 : f = 2
            · by_cases hab : decide (a = 1) = b
              · simp [hf2, hab, v3, w3, -getElem?_pos, List.getElem?_cons_zero, List.getElem?_cons_succ]
                exact ⟨wrap_i64 (by omega) (by omega), i + 1, by omega, by omega, by omega⟩
              · simp [hf2, hab, v3, w3, -getElem?_pos, List.getElem?_cons_zero, List.getElem?_cons_succ]
                have hab2 : (decide (a = 1) == b) = false := by cases b <;> simp_all
                simp only [hab2]
                simp [hab]
                exact ⟨wrap_i64 (by omega) (by omega), i + 1, by omega, by omega, by omega⟩
            · simp [hf2, -getElem?_pos, List.getElem?_cons_zero, List.getElem?_cons_succ]
              exact ⟨wrap_i64 (by omega) (by omega), i + 1, by omega, by omega, by omega⟩
          · simp [hde, -getElem?_pos, List.getElem?_cons_zero, List.getElem?_cons_succ]
            exact ⟨wrap_i64 (by omega) (by omega), i + 1, by omega, by omega, by omega⟩
        · simp at h3
          simp
          refine xcall_pure hP ?_
          simp [XEndT]
      · simp [hq]
        refine xcall_pure hP ?_
        simp [XEndT]
end Go.Am
