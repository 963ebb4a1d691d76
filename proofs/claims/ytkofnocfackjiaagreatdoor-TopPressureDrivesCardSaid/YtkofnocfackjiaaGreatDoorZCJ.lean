/- Lemmas and contracts for the proof of a statement of this seat. -/
import Derived.Test.YtkofnocfackjiaaGreatDoorZCH
import Derived.Test.YtkofnocfackjiaaGreatDoorZC7
import Derived.Test.YtkofnocfackjiaaGreatDoorZCR
set_option linter.unusedVariables false
set_option linter.unusedSimpArgs false
/- Contracts: slices.Compact, slices.Clone at int. -/
namespace Go.Am
open Go Go.Proofs Go.Pn


end Go.Am
/- Contracts: package pressure: Rest. -/
namespace Go.Am
open Go Go.Proofs Go.Pn


end Go.Am
/- Contracts: the awake examples of chapter 24. -/
namespace Go.Am
open Go Go.Proofs Go.Pn


section
variable {P : Program} {G : Globs} {N n0 : Nat}
@[simp] theorem thenQ_normal {K : St → Prop} {Q : Exit → St → Prop} {st : St} : thenQ K Q .normal st = K st := rfl
end

end Go.Am
/- Contracts: the laws PressureNets, PressurePorts, PressureSteps. -/
namespace Go.Am
open Go Go.Proofs Go.Pn


end Go.Am
/- Contracts: the laws PressurePorts, PressureSteps. -/
namespace Go.Am
open Go Go.Proofs Go.Pn


structure AskedV where
  port : Port
  nm : Txt
@[simp] def AskedV.av (x : AskedV) : AV := .agg [.p (.int .i64 x.port.part), .p (.str x.port.name), .p (.str x.nm)]

end Go.Am
/- Plain facts for the laws PressureCauses, PressureRests. -/
namespace Go.Am
open Go Go.Proofs Go.Pn

end Go.Am
/- Plain facts for the law PressureCauses. -/
namespace Go.Am
open Go Go.Proofs Go.Pn

theorem lfp_caused {ps : List Psg} {N : Nat} (hN : ∀ y ∈ ps, y.to < N) {n : Nat} (h : n ∈ lfp ps N) : ∃ y ∈ ps, y.to = n ∧ flowsB (lfp ps N).contains y = true := by
  have := lfp_least (ps := ps) (N := N) (S := fun n => decide (∃ y ∈ ps, y.to = n ∧ flowsB (lfp ps N).contains y = true)) (fun y hy hf => ?_) n h
  · simpa using this
  · rw [decide_eq_true_eq]
    refine ⟨y, hy, rfl, flows_mono (fun m hm => ?_) hf⟩
    rw [decide_eq_true_eq] at hm
    obtain ⟨z, hz, rfl, hf2⟩ := hm
    exact lfp_closed hN z hz hf2

theorem flow_mem {c : Circuit} {l : List Int} {i : Nat} (hi : i < c.parts.length) : (i : Int) ∈ flowL c l ↔ flowB c l i = true := by
  unfold flowL flowT
  rw [List.mem_map]
  constructor
  · rintro ⟨j, hj, e⟩
    obtain ⟨_, h2⟩ := List.mem_filter.1 hj
    have : j = i := by have : (j : Int) = i := e; omega
    rw [← this]; exact h2
  · exact fun h => ⟨i, List.mem_filter.2 ⟨List.mem_range.2 hi, h⟩, rfl⟩
def causeB (c : Circuit) (l : List Int) (p : Port) : Bool := decide (kindAt c p.part = 0) || (decide ((openOf (kindAt c p.part).toNat (decide (posOf l p.part = 1))).1 = p.name) && decide (p.part ∈ flowL c l))

theorem to_open {c : Circuit} {l : List Int} {i : Int} {y : Pass} (hy : y ∈ passAt c l i) : (openOf (kindAt c i).toNat (decide (posOf l i = 1))).1 = y.to := by
  unfold passAt passedOf at hy
  split at hy
  · cases hy
  · simp at hy; rw [hy]
theorem supply_name {c : Circuit} {p : Port} (hp : p ∈ allP c) (hk : kindAt c p.part = 0) : p.name = t1 := by
  obtain ⟨q, h1, h2, h3⟩ := given_mem.1 (allP_mem.1 hp)
  have : q.kind = 0 := by rw [← hk, kindAt, h1]; rfl
  rw [portsOf, this] at h3
  have hports : kindPorts 0 = [t1] := by decide +kernel
  simpa [hports] using h3

theorem cause_iff {c : Circuit} {l : List Int} (h : checkQ c l = 0) {k : Nat} {g : List Port} (e : (nets c)[k]? = some g) : g.any (causeB c l) = (prs c l).contains k := by
  have hc := (checkQ_zero h).1
  rw [Bool.eq_iff_iff]
  constructor
  · intro ha
    obtain ⟨p, hp, hb⟩ := List.any_eq_true.1 ha
    obtain ⟨_, hall⟩ := netP_of hc e hp
    obtain ⟨q, h1, h2, h3⟩ := given_mem.1 (allP_mem.1 hall)
    have hlt : p.part.toNat < c.parts.length := (List.getElem?_eq_some_iff.1 h1).1
    obtain ⟨i, hi⟩ : ∃ i : Nat, p.part = i := ⟨p.part.toNat, by omega⟩
    obtain ⟨pi, pn⟩ := p
    simp only at hi hlt
    subst hi
    rw [Int.toNat_natCast] at hlt
    have hn : netN c i pn = k := netN_of hc e hp
    unfold causeB at hb
    simp only [Bool.or_eq_true, Bool.and_eq_true, decide_eq_true_eq] at hb
    rcases hb with hb | ⟨hb, hf⟩
    · have hnm := supply_name hall hb
      simp only at hnm
      subst hnm
      have := prs_closed h ⟨i, netN c i t1, [], true⟩ (List.mem_append_left _ (supplies_mem.2 ⟨i, hlt, hb, rfl⟩)) (by simp [flowsB])
      rw [← hn]; exact this
    · have hf2 := (flow_mem hlt).1 hf
      unfold flowB at hf2
      obtain ⟨y, hy, hfl⟩ := List.any_eq_true.1 hf2
      have hto := to_open hy
      rw [hto] at hb
      subst hb
      have := prs_closed h ⟨i, netN c i y.to, y.fr.map (netN c i), y.all⟩ (List.mem_append_right _ (psgs_mem.2 ⟨i, y, hlt, hy, rfl⟩)) hfl
      rw [← hn]; exact this
  · intro hm
    obtain ⟨y, hy, hto, hfl⟩ := lfp_caused (prs_to h) (List.contains_iff_mem.1 hm)
    rcases List.mem_append.1 hy with hy | hy
    · obtain ⟨i, hi, hk, rfl⟩ := supplies_mem.1 hy
      obtain ⟨g2, e2, hg⟩ := net_has hc (supply_port h hi hk)
      simp only at hto
      rw [hto, e] at e2
      cases e2
      refine List.any_eq_true.2 ⟨_, hg, ?_⟩
      simp [causeB, hk]
    · obtain ⟨i, z, hi, hz, rfl⟩ := psgs_mem.1 hy
      obtain ⟨g2, e2, hg⟩ := net_has hc (pass_ports h hi hz).1
      simp only at hto
      rw [hto, e] at e2
      cases e2
      refine List.any_eq_true.2 ⟨_, hg, ?_⟩
      have hF : flowB c l i = true := List.any_eq_true.2 ⟨z, hz, hfl⟩
      simp [causeB, to_open hz, flow_mem hi, hF]

end Go.Am
/- Contracts: the law PressureRests. -/
namespace Go.Am
open Go Go.Proofs Go.Pn


end Go.Am
/- Contracts: the law PressureGrows. -/
namespace Go.Am
open Go Go.Proofs Go.Pn

end Go.Am
