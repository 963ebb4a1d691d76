/- Lemmas and contracts for the proof of a statement of this seat. -/
import Derived.Test.YtkofnocfackjiaaGreatDoorZCS
import Derived.Test.YtkofnocfackjiaaGreatDoorZCB
import Derived.Test.YtkofnocfackjiaaGreatDoorZCJ
set_option linter.unusedVariables false
set_option linter.unusedSimpArgs false
/- Contracts: package inspect: Driver. -/
namespace Go.Am
open Go Go.Proofs Go.Pn

def feedL (c : Circuit) (i : Int) (s : Txt) : List Port := onlyL c (around c ⟨i, s⟩) true
def drvOf (c : Circuit) (i : Int) : Option (Int × Bool) := match feedL c i [50], feedL c i [52] with
  | [a], [b] => if a.part ≠ b.part ∨ a.name = b.name then none else if kindAt c a.part = 2 ∨ kindAt c a.part = 3 then some (a.part, decide (b.name = [52])) else none
  | _, _ => none
def partIx (c : Circuit) (s : Txt) : Int := idxI c.parts fun p => decide (p.name = s)
def drvErr (c : Circuit) (s : Txt) : Int := if checkP c ≠ 0 then checkP c else if partIx c s < 0 then 6 else if kindAt c (partIx c s) ≠ 1 then 1 else if (drvOf c (partIx c s)).isNone then 14 else 0
def drvRes (c : Circuit) (s : Txt) : Int × Bool := if drvErr c s ≠ 0 then (0, false) else (drvOf c (partIx c s)).getD (0, false)
theorem find_of {c : Circuit} {s : Txt} (h : checkP c = 0) (hs : Sized c) : Pure Tryz.prog GL 67 [c.av, .p (.str s)] (.tup [.p (.int .i64 (if partIx c s < 0 then 0 else partIx c s)), .p (.int .i64 (if partIx c s < 0 then 6 else 0))]) := by
  have := c_circuit_Find c s hs
  have hno : ¬ checkP c ≠ 0 := by simpa using h
  rw [if_neg hno, if_neg hno] at this
  exact this
theorem partIx_at {c : Circuit} {s : Txt} (h : ¬ partIx c s < 0) : ∃ (i : Nat) (q : Part), partIx c s = i ∧ c.parts[i]? = some q ∧ i < c.parts.length ∧ q.name = s ∧ kindAt c i = q.kind := by
  rcases idxI_cases c.parts (fun p => decide (p.name = s)) with ⟨_, h2⟩ | ⟨i, q, _, h2, h3, h4⟩
  · exact absurd (show partIx c s < 0 by unfold partIx; omega) h
  · exact ⟨i, q, h2, h3, (List.getElem?_eq_some_iff.1 h3).1, by simpa using h4, by simp [kindAt, h3, -getElem?_pos]⟩
theorem cyl_ports {c : Circuit} {i : Nat} {q : Part} (e : c.parts[i]? = some q) (hk : q.kind = 1) : (⟨i, [50]⟩ : Port) ∈ allP c ∧ (⟨i, [52]⟩ : Port) ∈ allP c := by
  have h2 : ([50] : Txt) ∈ kindPorts 1 := by decide +kernel
  have h4 : ([52] : Txt) ∈ kindPorts 1 := by decide +kernel
  have hp : portsOf q = kindPorts 1 := by unfold portsOf; rw [hk]; rfl
  refine ⟨allP_mem.2 (given_mem.2 ⟨q, by simpa using e, by simp, ?_⟩), allP_mem.2 (given_mem.2 ⟨q, by simpa using e, by simp, ?_⟩)⟩
  · rw [hp]; exact h2
  · rw [hp]; exact h4

set_option maxRecDepth 20000 in
theorem c_inspect_Driver (c : Circuit) (s : Txt) (hs : Sized c) : Pure Tryz.prog GL 36 [c.av, .p (.str s)] (.tup [.p (.int .i64 (drvRes c s).1), .p (.bool (drvRes c s).2), .p (.int .i64 (drvErr c s))]) := by
  refine Pure.of_walk (N := 107) Tryz.func36 rfl rfl rfl (by simp) (by first | (simp; done) | simp [*]) ?_
  have hPl := c_inspect_planned c hs
  simp
  refine xcall_pure hPl ?_
  by_cases h : checkP c = 0
  · have h2 := check_parts h
    have hal := allP_len h2.1 (by omega)
    have hR : planR c = planAV c := if_pos h
    have hFi := find_of (s := s) h hs
    have hno : ¬ checkP c ≠ 0 := by simpa using h
    rw [hR, h]
    simp [planAV]
    refine xcall_pure hFi ?_
    by_cases hi : partIx c s < 0
    · have he : drvErr c s = 6 := by unfold drvErr; rw [if_neg hno, if_pos hi]
      have hr : drvRes c s = (0, false) := by unfold drvRes; rw [he, if_pos (by simp)]
      rw [he, hr]
      simp [hi, XEndT]
    · obtain ⟨i, q, e1, e2, e3, e4, e5⟩ := partIx_at hi
      rw [e1] at hi
      by_cases hk : q.kind = 1
      · obtain ⟨hp2, hp4⟩ := cyl_ports e2 hk
        have hl2 := look_plan h hp2
        have hl4 := look_plan h hp4
        have ha2 := @around_len c ⟨i, [50]⟩
        have ha4 := @around_len c ⟨i, [52]⟩
        have hf2 := c_filtered_gives c (around c ⟨i, [50]⟩) h2.1 (by omega) (fun q hq => (List.mem_filter.1 hq).1)
        have hf4 := c_filtered_gives c (around c ⟨i, [52]⟩) h2.1 (by omega) (fun q hq => (List.mem_filter.1 hq).1)
        have hd : drvErr c s = if (drvOf c i).isNone then 14 else 0 := by unfold drvErr; rw [if_neg hno, e1, if_neg hi, e5, if_neg (by simpa using hk)]
        have hdr : drvRes c s = if drvErr c s ≠ 0 then (0, false) else (drvOf c i).getD (0, false) := by unfold drvRes; rw [e1]
        have hdo : drvOf c i = match onlyL c (around c ⟨i, [50]⟩) true, onlyL c (around c ⟨i, [52]⟩) true with
          | [a], [b] => if a.part ≠ b.part ∨ a.name = b.name then none else if kindAt c a.part = 2 ∨ kindAt c a.part = 3 then some (a.part, decide (b.name = [52])) else none
          | _, _ => none := rfl
        have hpa : ∀ a ∈ onlyL c (around c ⟨i, [50]⟩) true, PartOk c a := fun a ha => partOk_around a (List.mem_filter.1 ha).1
        generalize onlyL c (around c ⟨i, [50]⟩) true = L at hf2 hdo hpa
        generalize onlyL c (around c ⟨i, [52]⟩) true = M at hf4 hdo
        have hnone : drvOf c i = none → drvErr c s = 14 ∧ drvRes c s = (0, false) := fun hn => by
          have : drvErr c s = 14 := by rw [hd, hn]; rfl
          exact ⟨this, by rw [hdr, this, if_pos (by simp)]⟩
        simp [e1, hi, e2, e3, Part.enc, hk, -getElem?_pos, List.getElem?_cons_zero, List.getElem?_cons_succ]
        refine XDraw.intro (by kernel_rfl) ?_
        simp [hl2, hit]
        refine xcall_pure hf2 ?_
        simp
        refine ⟨.of (by kernel_rfl), ?_⟩
        refine XDraw.intro (by kernel_rfl) ?_
        simp [hl4, hit]
        refine xcall_pure hf4 ?_
        simp
        refine ⟨.of (by kernel_rfl), ?_⟩
        refine XDraw.intro (by kernel_rfl) ?_
        by_cases hL : ∃ a, L = [a]
        · obtain ⟨a, rfl⟩ := hL
          by_cases hM : ∃ b, M = [b]
          · obtain ⟨b, rfl⟩ := hM
            obtain ⟨j, qa, k1, k2, k3, k4⟩ := partOk_at (hpa a (by simp))
            simp only at hdo
            by_cases hab : a.part = b.part
            · by_cases hnm : a.name = b.name
              · obtain ⟨r1, r2⟩ := hnone (by rw [hdo, if_pos (.inr hnm)])
                rw [r1, r2]
                simp [hab, hnm]
                refine ⟨.of (by kernel_rfl), ?_⟩
                simp [XEndT]
              · simp only [hab, ne_eq, not_true_eq_false, hnm, or_self, if_false] at hdo
                rw [← hab, k4] at hdo
                have hbk : b.part = j := by omega
                have hjb : (j : Int) = b.part := by omega
                simp [hab, hnm]
                refine ⟨.of (by kernel_rfl), ?_⟩
                refine XDraw.intro (by kernel_rfl) ?_
                simp [hbk, k1, k2, k3, Part.enc, -getElem?_pos, List.getElem?_cons_zero, List.getElem?_cons_succ]
                refine ⟨.of (by kernel_rfl), ?_⟩
                by_cases h22 : qa.kind = 2
                · rw [if_pos (.inl h22)] at hdo
                  have r1 : drvErr c s = 0 := by rw [hd, hdo]; rfl
                  have r2 : drvRes c s = (a.part, decide (b.name = [52])) := by rw [hdr, r1, if_neg (by simp), hdo]; rfl
                  rw [r1, r2]
                  simp [h22]
                  refine XDraw.intro (by kernel_rfl) ?_
                  simp
                  refine ⟨.of (by kernel_rfl), ?_⟩
                  simp [XEndT, k1]
                · by_cases h33 : qa.kind = 3
                  · rw [if_pos (.inr h33)] at hdo
                    have r1 : drvErr c s = 0 := by rw [hd, hdo]; rfl
                    have r2 : drvRes c s = (a.part, decide (b.name = [52])) := by rw [hdr, r1, if_neg (by simp), hdo]; rfl
                    rw [r1, r2]
                    simp [h33]
                    refine XDraw.intro (by kernel_rfl) ?_
                    simp
                    refine ⟨.of (by kernel_rfl), ?_⟩
                    simp [XEndT, k1]
                  · rw [if_neg (by omega)] at hdo
                    obtain ⟨r1, r2⟩ := hnone hdo
                    rw [r1, r2]
                    simp [h22, h33, XEndT]
            · obtain ⟨r1, r2⟩ := hnone (by rw [hdo, if_pos (.inl hab)])
              rw [r1, r2]
              simp [hab]
              refine ⟨.of (by kernel_rfl), ?_⟩
              simp [XEndT]
          · have hMl : ¬ ((M.length : Int) = 1) := fun hh => by
              match M, hh, hM with
              | [b], _, hM => exact hM ⟨b, rfl⟩
              | [], hh, _ => simp at hh
              | _ :: _ :: _, hh, _ => simp at hh; omega
            obtain ⟨r1, r2⟩ := hnone (by
              rw [hdo]
              match M, hM with
              | [b], hM => exact (hM ⟨b, rfl⟩).elim
              | [], _ => rfl
              | _ :: _ :: _, _ => rfl)
            rw [r1, r2]
            simp [hMl]
            refine ⟨.of (by kernel_rfl), ?_⟩
            simp [XEndT]
        · have hLl : ¬ ((L.length : Int) = 1) := fun hh => by
            match L, hh, hL with
            | [b], _, hL => exact hL ⟨b, rfl⟩
            | [], hh, _ => simp at hh
            | _ :: _ :: _, hh, _ => simp at hh; omega
          obtain ⟨r1, r2⟩ := hnone (by
            rw [hdo]
            match L, hL with
            | [b], hL => exact (hL ⟨b, rfl⟩).elim
            | [], _ => rfl
            | _ :: _ :: _, _ => rfl)
          rw [r1, r2]
          simp [hLl]
          refine ⟨.of (by kernel_rfl), ?_⟩
          simp [XEndT]
      · have he : drvErr c s = 1 := by unfold drvErr; rw [if_neg hno, e1, if_neg hi, e5, if_pos hk]
        have hr : drvRes c s = (0, false) := by unfold drvRes; rw [he, if_pos (by simp)]
        rw [he, hr]
        simp [e1, hi, e2, e3, Part.enc, hk, -getElem?_pos, List.getElem?_cons_zero, List.getElem?_cons_succ]
        simp [XEndT]
  · have hR : planR c = .agg [.p (.lst 3 []), .p (.lst 4 []), .p (.lst 2 []), .nilm] := if_neg h
    have he : drvErr c s = checkP c := by unfold drvErr; rw [if_pos h]
    have hr : drvRes c s = (0, false) := by unfold drvRes; rw [he, if_pos h]
    rw [hR, he, hr]
    simp [h]
    simp [XEndT]

end Go.Am
/- Contracts: package inspect: the parts that a part acts on directly. -/
namespace Go.Am
open Go Go.Proofs Go.Pn

def insI (ks : List Int) (k : Int) : List Int := if k ∈ ks then ks else ks ++ [k]
theorem mem_insI {ks : List Int} {k x : Int} : x ∈ insI ks k ↔ x ∈ ks ∨ x = k := by
  unfold insI
  split
  · rename_i h
    constructor
    · exact .inl
    · rintro (h1 | rfl)
      · exact h1
      · exact h
  · simp
theorem mem_insAll {l : List Int} : ∀ {ks : List Int} {x : Int}, x ∈ l.foldl insI ks ↔ x ∈ ks ∨ x ∈ l := by
  induction l with
  | nil => simp
  | cons a l ih =>
    intro ks x
    rw [List.foldl_cons, ih, mem_insI, List.mem_cons]
    constructor
    · rintro ((h | h) | h)
      · exact .inl h
      · exact .inr (.inl h)
      · exact .inr (.inr h)
    · rintro (h | h | h)
      · exact .inl (.inl h)
      · exact .inl (.inr h)
      · exact .inr h
def dirStep (c : Circuit) (i : Int) (ks : List Int) (p : Port) : List Int := if decide (p.part = i) && givesB c p then ((onlyL c (around c p) false).map (·.part)).foldl insI ks else ks
def limStep (ks : List Int) (x : Int) : List Int := if 0 ≤ x then insI ks x else ks
def limL (c : Circuit) (i : Int) : List Int := if limErr c (nameAt c i) = 0 then [limAt c (nameAt c i) 48, limAt c (nameAt c i) 49] else []
def dirL (c : Circuit) (i : Int) : List Int := (limL c i).foldl limStep ((allP c).foldl (dirStep c i) [])
theorem mem_dirFold {c : Circuit} {i : Int} {l : List Port} : ∀ {ks : List Int} {x : Int}, x ∈ l.foldl (dirStep c i) ks ↔ x ∈ ks ∨ ∃ p ∈ l, p.part = i ∧ givesB c p = true ∧ ∃ q ∈ onlyL c (around c p) false, q.part = x := by
  induction l with
  | nil => simp
  | cons a l ih =>
    intro ks x
    rw [List.foldl_cons, ih]
    have hst : x ∈ dirStep c i ks a ↔ x ∈ ks ∨ (a.part = i ∧ givesB c a = true ∧ ∃ q ∈ onlyL c (around c a) false, q.part = x) := by
      unfold dirStep
      by_cases h : (decide (a.part = i) && givesB c a) = true
      · rw [if_pos h, mem_insAll, List.mem_map]
        simp only [Bool.and_eq_true, decide_eq_true_eq] at h
        simp [h.1, h.2]
      · rw [if_neg h]
        simp only [Bool.and_eq_true, decide_eq_true_eq, not_and] at h
        constructor
        · exact .inl
        · rintro (h1 | ⟨h1, h2, _⟩)
          · exact h1
          · exact absurd h2 (h h1)
    rw [hst]
    constructor
    · rintro ((h | h) | ⟨p, hp, h⟩)
      · exact .inl h
      · exact .inr ⟨a, by simp, h⟩
      · exact .inr ⟨p, by simp [hp], h⟩
    · rintro (h | ⟨p, hp, h⟩)
      · exact .inl (.inl h)
      · rcases List.mem_cons.1 hp with rfl | hp
        · exact .inl (.inr h)
        · exact .inr ⟨p, hp, h⟩
theorem mem_limFold {l : List Int} : ∀ {ks : List Int} {x : Int}, x ∈ l.foldl limStep ks ↔ x ∈ ks ∨ (x ∈ l ∧ 0 ≤ x) := by
  induction l with
  | nil => simp
  | cons a l ih =>
    intro ks x
    rw [List.foldl_cons, ih]
    have : x ∈ limStep ks a ↔ x ∈ ks ∨ (x = a ∧ 0 ≤ x) := by
      unfold limStep
      split
      · rename_i h
        rw [mem_insI]
        constructor
        · rintro (h1 | rfl)
          · exact .inl h1
          · exact .inr ⟨rfl, h⟩
        · rintro (h1 | ⟨h1, _⟩)
          · exact .inl h1
          · exact .inr h1
      · rename_i h
        constructor
        · exact .inl
        · rintro (h1 | ⟨rfl, h2⟩)
          · exact h1
          · exact absurd h2 h
    rw [this, List.mem_cons]
    constructor
    · rintro ((h | ⟨h1, h2⟩) | ⟨h1, h2⟩)
      · exact .inl h
      · exact .inr ⟨.inl h1, h2⟩
      · exact .inr ⟨.inr h1, h2⟩
    · rintro (h | ⟨h1 | h1, h2⟩)
      · exact .inl (.inl h)
      · exact .inl (.inr ⟨h1, h2⟩)
      · exact .inr ⟨h1, h2⟩
theorem lim_range {c : Circuit} {s : Txt} {d : UInt8} : limAt c s d = -1 ∨ limAt c s d = 0 ∨ (0 ≤ limAt c s d ∧ limAt c s d < c.parts.length) := by
  unfold limAt
  split
  · exact .inr (.inl rfl)
  · unfold swAt swK
    split
    · exact .inl rfl
    · rcases partI_cases c (s ++ [d]) with h | ⟨i, x, h, e, _⟩
      · exact .inl h
      · rw [h]
        have := (List.getElem?_eq_some_iff.1 e).1
        exact .inr (.inr ⟨by omega, by omega⟩)
theorem dirL_range {c : Circuit} {i x : Int} (hi : 0 ≤ i ∧ i < c.parts.length) (h : x ∈ dirL c i) : 0 ≤ x ∧ x < c.parts.length := by
  unfold dirL at h
  rw [mem_limFold, mem_dirFold] at h
  rcases h with (h | ⟨p, _, _, _, q, hq, rfl⟩) | ⟨h1, h2⟩
  · cases h
  · have := partOk_around q (List.mem_filter.1 hq).1
    have h3 := this.1
    have h4 := this.2
    omega
  · refine ⟨h2, ?_⟩
    unfold limL at h1
    split at h1
    · rcases List.mem_cons.1 h1 with rfl | h1
      · rcases @lim_range c (nameAt c i) 48 with h | h | h <;> omega
      · simp at h1
        subst h1
        rcases @lim_range c (nameAt c i) 49 with h | h | h <;> omega
    · cases h1

end Go.Am
/- Contracts: package inspect: the parts that a part acts on. -/
namespace Go.Am
open Go Go.Proofs Go.Pn

def edgeP (c : Circuit) (i : Int) : List Psg := ((dirL c i).map fun x => ⟨0, x.toNat, [], true⟩) ++ (List.range c.parts.length).flatMap fun (a : Nat) => (dirL c a).map fun x => ⟨0, x.toNat, [a], false⟩
def reachS (c : Circuit) (i : Int) : List Nat := lfp (edgeP c i) c.parts.length
def reachK (c : Circuit) (i : Int) : List Int := ((List.range c.parts.length).filter fun n => (reachS c i).contains n).map fun (n : Nat) => (n : Int)
theorem edgeP_to {c : Circuit} {i : Int} (hi : 0 ≤ i ∧ i < c.parts.length) : ∀ y ∈ edgeP c i, y.to < c.parts.length := by
  intro y hy
  rcases List.mem_append.1 hy with hy | hy
  · obtain ⟨x, hx, rfl⟩ := List.mem_map.1 hy
    have := dirL_range hi hx
    simp only; omega
  · obtain ⟨a, ha, hy⟩ := List.mem_flatMap.1 hy
    obtain ⟨x, hx, rfl⟩ := List.mem_map.1 hy
    have := dirL_range (i := (a : Int)) ⟨by omega, by have := List.mem_range.1 ha; omega⟩ hx
    simp only; omega
theorem reachS_lt {c : Circuit} {i : Int} (hi : 0 ≤ i ∧ i < c.parts.length) : ∀ n ∈ reachS c i, n < c.parts.length := by
  have := lfp_least (ps := edgeP c i) (N := c.parts.length) (S := fun n => decide (n < c.parts.length)) (fun y hy _ => by simpa using edgeP_to hi y hy)
  intro n hn
  simpa using this n hn
theorem mem_reachK {c : Circuit} {i x : Int} (hi : 0 ≤ i ∧ i < c.parts.length) : x ∈ reachK c i ↔ 0 ≤ x ∧ x.toNat ∈ reachS c i := by
  unfold reachK
  rw [List.mem_map]
  constructor
  · rintro ⟨n, hn, rfl⟩
    exact ⟨by omega, by simpa using (List.mem_filter.1 hn).2⟩
  · rintro ⟨h0, h1⟩
    exact ⟨x.toNat, List.mem_filter.2 ⟨List.mem_range.2 (reachS_lt hi _ h1), by simpa using h1⟩, by omega⟩
theorem reach_start {c : Circuit} {i x : Int} (hi : 0 ≤ i ∧ i < c.parts.length) (h : x ∈ dirL c i) : x ∈ reachK c i := by
  have hr := dirL_range hi h
  rw [mem_reachK hi]
  refine ⟨hr.1, ?_⟩
  have := lfp_closed (edgeP_to hi) ⟨0, x.toNat, [], true⟩ (List.mem_append_left _ (List.mem_map.2 ⟨x, h, rfl⟩)) rfl
  exact List.contains_iff_mem.1 this
def nmQ (x : AV) : Nat := match x with
  | .ref b .. => b
  | _ => 2
@[simp] theorem nmQ_ref {b k i n : Nat} {c : Option Nat} : nmQ (.ref b k i n c) = b := rfl
@[simp] theorem nmQ_p {x : PV} : nmQ (.p x) = 2 := rfl
end Go.Am
/- Contracts: package inspect: Behind, Idle. -/
namespace Go.Am
open Go Go.Proofs Go.Pn

end Go.Am
