/- Lemmas and contracts for the proof of a statement of this seat. -/
import Derived.Test.YtkofnocfackjiaaGreatDoorZCS
import Derived.Test.YtkofnocfackjiaaGreatDoorZCB
import Derived.Test.YtkofnocfackjiaaGreatDoorZCJ
set_option linter.unusedVariables false
set_option linter.unusedSimpArgs false
/- Contracts: package inspect: Driver. -/
namespace Go.Am
open Go Go.Proofs Go.Pn

def feedL (c : Circuit) (i : Int) (s : Txt) : List Port := onlyL c (around c ⟨i, s⟩) true
def drvOf (c : Circuit) (i : Int) : Option (Int × Bool) := match feedL c i [50], feedL c i [52] with
  | [a], [b] => if a.part ≠ b.part ∨ a.name = b.name then none else if kindAt c a.part = 2 ∨ kindAt c a.part = 3 then some (a.part, decide (b.name = [52])) else none
  | _, _ => none
def partIx (c : Circuit) (s : Txt) : Int := idxI c.parts fun p => decide (p.name = s)
def drvErr (c : Circuit) (s : Txt) : Int := if checkP c ≠ 0 then checkP c else if partIx c s < 0 then 6 else if kindAt c (partIx c s) ≠ 1 then 1 else if (drvOf c (partIx c s)).isNone then 14 else 0
def drvRes (c : Circuit) (s : Txt) : Int × Bool := if drvErr c s ≠ 0 then (0, false) else (drvOf c (partIx c s)).getD (0, false)
theorem find_of {c : Circuit} {s : Txt} (h : checkP c = 0) (hs : Sized c) : Pure Tryz.prog GL 67 [c.av, .p (.str s)] (.tup [.p (.int .i64 (if partIx c s < 0 then 0 else partIx c s)), .p (.int .i64 (if partIx c s < 0 then 6 else 0))]) := by
  have := c_circuit_Find c s hs
  have hno : ¬ checkP c ≠ 0 := by simpa using h
  rw [if_neg hno, if_neg hno] at this
  exact this
theorem partIx_at {c : Circuit} {s : Txt} (h : ¬ partIx c s < 0) : ∃ (i : Nat) (q : Part), partIx c s = i ∧ c.parts[i]? = some q ∧ i < c.parts.length ∧ q.name = s ∧ kindAt c i = q.kind := by
  rcases idxI_cases c.parts (fun p => decide (p.name = s)) with ⟨_, h2⟩ | ⟨i, q, _, h2, h3, h4⟩
  · exact absurd (show partIx c s < 0 by unfold partIx; omega) h
  · exact ⟨i, q, h2, h3, (List.getElem?_eq_some_iff.1 h3).1, by simpa using h4, by simp [kindAt, h3, -getElem?_pos]⟩
theorem cyl_ports {c : Circuit} {i : Nat} {q : Part} (e : c.parts[i]? = some q) (hk : q.kind = 1) : (⟨i, [50]⟩ : Port) ∈ allP c ∧ (⟨i, [52]⟩ : Port) ∈ allP c := by
  have h2 : ([50] : Txt) ∈ kindPorts 1 := by decide +kernel
  have h4 : ([52] : Txt) ∈ kindPorts 1 := by decide +kernel
  have hp : portsOf q = kindPorts 1 := by unfold portsOf; rw [hk]; rfl
  refine ⟨allP_mem.2 (given_mem.2 ⟨q, by simpa using e, by simp, ?_⟩), allP_mem.2 (given_mem.2 ⟨q, by simpa using e, by simp, ?_⟩)⟩
  · rw [hp]; exact h2
  · rw [hp]; exact h4

set_option maxRecDepth 20000 in
theorem c_inspect_Driver (c : Circuit) (s : Txt) (hs : Sized c) : Pure Tryz.prog GL 36 [c.av, .p (.str s)] (.tup [.p (.int .i64 (drvRes c s).1), .p (.bool (drvRes c s).2), .p (.int .i64 (drvErr c s))]) := by
  refine Pure.of_walk (N := 107) Tryz.func36 rfl rfl rfl (by simp) (by first | (simp; done) | simp [*]) ?_
  have hPl := c_inspect_planned c hs
  simp
  refine xcall_pure hPl ?_
  by_cases h : checkP c = 0
  · have h2 := check_parts h
    have hal := allP_len h2.1 (by omega)
    have hR : planR c = planAV c := if_pos h
    have hFi := find_of (s := s) h hs
    have hno : ¬ checkP c ≠ 0 := by simpa using h
    rw [hR, h]
    simp [planAV]
    refine xcall_pure hFi ?_
    by_cases hi : partIx c s < 0
    · have he : drvErr c s = 6 := by unfold drvErr; rw [if_neg hno, if_pos hi]
      have hr : drvRes c s = (0, false) := by unfold drvRes; rw [he, if_pos (by simp)]
      rw [he, hr]
      simp [hi, XEndT]
    · obtain ⟨i, q, e1, e2, e3, e4, e5⟩ := partIx_at hi
      rw [e1] at hi
      by_cases hk : q.kind = 1
      · obtain ⟨hp2, hp4⟩ := cyl_ports e2 hk
        have hl2 := look_plan h hp2
        have hl4 := look_plan h hp4
        have ha2 := @around_len c ⟨i, [50]⟩
        have ha4 := @around_len c ⟨i, [52]⟩
        have hf2 := c_filtered_gives c (around c ⟨i, [50]⟩) h2.1 (by omega) (fun q hq => (List.mem_filter.1 hq).1)
        have hf4 := c_filtered_gives c (around c ⟨i, [52]⟩) h2.1 (by omega) (fun q hq => (List.mem_filter.1 hq).1)
        have hd : drvErr c s = if (drvOf c i).isNone then 14 else 0 := by unfold drvErr; rw [if_neg hno, e1, if_neg hi, e5, if_neg (by simpa using hk)]
        have hdr : drvRes c s = if drvErr c s ≠ 0 then (0, false) else (drvOf c i).getD (0, false) := by unfold drvRes; rw [e1]
        have hdo : drvOf c i = match onlyL c (around c ⟨i, [50]⟩) true, onlyL c (around c ⟨i, [52]⟩) true with
          | [a], [b] => if a.part ≠ b.part ∨ a.name = b.name then none else if kindAt c a.part = 2 ∨ kindAt c a.part = 3 then some (a.part, decide (b.name = [52])) else none
          | _, _ => none := rfl
        have hpa : ∀ a ∈ onlyL c (around c ⟨i, [50]⟩) true, PartOk c a := fun a ha => partOk_around a (List.mem_filter.1 ha).1
        generalize onlyL c (around c ⟨i, [50]⟩) true = L at hf2 hdo hpa
        generalize onlyL c (around c ⟨i, [52]⟩) true = M at hf4 hdo
        have hnone : drvOf c i = none → drvErr c s = 14 ∧ drvRes c s = (0, false) := fun hn => by
          have : drvErr c s = 14 := by rw [hd, hn]; rfl
          exact ⟨this, by rw [hdr, this, if_pos (by simp)]⟩
        simp [e1, hi, e2, e3, Part.enc, hk, -getElem?_pos, List.getElem?_cons_zero, List.getElem?_cons_succ]
        refine XDraw.intro (by kernel_rfl) ?_
        simp [hl2, hit]
        refine xcall_pure hf2 ?_
        simp
        refine ⟨.of (by kernel_rfl), ?_⟩
        refine XDraw.intro (by kernel_rfl) ?_
        simp [hl4, hit]
        refine xcall_pure hf4 ?_
        simp
        refine ⟨.of (by kernel_rfl), ?_⟩
        refine XDraw.intro (by kernel_rfl) ?_
        by_cases hL : ∃ a, L = [a]
        · obtain ⟨a, rfl⟩ := hL
          by_cases hM : ∃ b, M = [b]
          · obtain ⟨b, rfl⟩ := hM
            obtain ⟨j, qa, k1, k2, k3, k4⟩ := partOk_at (hpa a (by simp))
            simp only at hdo
            by_cases hab : a.part = b.part
            · by_cases hnm : a.name = b.name
              · obtain ⟨r1, r2⟩ := hnone (by rw [hdo, if_pos (.inr hnm)])
                rw [r1, r2]
                simp [hab, hnm]
                refine ⟨.of (by kernel_rfl), ?_⟩
                simp [XEndT]
              · simp only [hab, ne_eq, not_true_eq_false, hnm, or_self, if_false] at hdo
                rw [← hab, k4] at hdo
                have hbk : b.part = j := by omega
                have hjb : (j : Int) = b.part := by omega
                simp [hab, hnm]
                refine ⟨.of (by kernel_rfl), ?_⟩
                refine XDraw.intro (by kernel_rfl) ?_
                simp [hbk, k1, k2, k3, Part.enc, -getElem?_pos, List.getElem?_cons_zero, List.getElem?_cons_succ]
                refine ⟨.of (by kernel_rfl), ?_⟩
                by_cases h22 : qa.kind = 2
                · rw [if_pos (.inl h22)] at hdo
                  have r1 : drvErr c s = 0 := by rw [hd, hdo]; rfl
                  have r2 : drvRes c s = (a.part, decide (b.name = [52])) := by rw [hdr, r1, if_neg (by simp), hdo]; rfl
                  rw [r1, r2]
                  simp [h22]
                  refine XDraw.intro (by kernel_rfl) ?_
                  simp
                  refine ⟨.of (by kernel_rfl), ?_⟩
                  simp [XEndT, k1]
                · by_cases h33 : qa.kind = 3
                  · rw [if_pos (.inr h33)] at hdo
                    have r1 : drvErr c s = 0 := by rw [hd, hdo]; rfl
                    have r2 : drvRes c s = (a.part, decide (b.name = [52])) := by rw [hdr, r1, if_neg (by simp), hdo]; rfl
                    rw [r1, r2]
                    simp [h33]
                    refine XDraw.intro (by kernel_rfl) ?_
                    simp
                    refine ⟨.of (by kernel_rfl), ?_⟩
                    simp [XEndT, k1]
                  · rw [if_neg (by omega)] at hdo
                    obtain ⟨r1, r2⟩ := hnone hdo
                    rw [r1, r2]
                    simp [h22, h33, XEndT]
            · obtain ⟨r1, r2⟩ := hnone (by rw [hdo, if_pos (.inl hab)])
              rw [r1, r2]
              simp [hab]
              refine ⟨.of (by kernel_rfl), ?_⟩
              simp [XEndT]
          · have hMl : ¬ ((M.length : Int) = 1) := fun hh => by
              match M, hh, hM with
              | [b], _, hM => exact hM ⟨b, rfl⟩
              | [], hh, _ => simp at hh
              | _ :: _ :: _, hh, _ => simp at hh; omega
            obtain ⟨r1, r2⟩ := hnone (by
              rw [hdo]
              match M, hM with
              | [b], hM => exact (hM ⟨b, rfl⟩).elim
              | [], _ => rfl
              | _ :: _ :: _, _ => rfl)
            rw [r1, r2]
            simp [hMl]
            refine ⟨.of (by kernel_rfl), ?_⟩
            simp [XEndT]
        · have hLl : ¬ ((L.length : Int) = 1) := fun hh => by
            match L, hh, hL with
            | [b], _, hL => exact hL ⟨b, rfl⟩
            | [], hh, _ => simp at hh
            | _ :: _ :: _, hh, _ => simp at hh; omega
          obtain ⟨r1, r2⟩ := hnone (by
            rw [hdo]
            match L, hL with
            | [b], hL => exact (hL ⟨b, rfl⟩).elim
            | [], _ => rfl
            | _ :: _ :: _, _ => rfl)
          rw [r1, r2]
          simp [hLl]
          refine ⟨.of (by kernel_rfl), ?_⟩
          simp [XEndT]
      · have he : drvErr c s = 1 := by unfold drvErr; rw [if_neg hno, e1, if_neg hi, e5, if_pos hk]
        have hr : drvRes c s = (0, false) := by unfold drvRes; rw [he, if_pos (by simp)]
        rw [he, hr]
        simp [e1, hi, e2, e3, Part.enc, hk, -getElem?_pos, List.getElem?_cons_zero, List.getElem?_cons_succ]
        simp [XEndT]
  · have hR : planR c = .agg [.p (.lst 3 []), .p (.lst 4 []), .p (.lst 2 []), .nilm] := if_neg h
    have he : drvErr c s = checkP c := by unfold drvErr; rw [if_pos h]
    have hr : drvRes c s = (0, false) := by unfold drvRes; rw [he, if_pos h]
    rw [hR, he, hr]
    simp [h]
    simp [XEndT]

end Go.Am
/- Contracts: package inspect: the parts that a part acts on directly. -/
namespace Go.Am
open Go Go.Proofs Go.Pn

def intM (ks : List Int) : List (AV × AV) := ks.map fun k => (.p (.int .i64 k), .p (.bool true))
def insI (ks : List Int) (k : Int) : List Int := if k ∈ ks then ks else ks ++ [k]
theorem mem_insI {ks : List Int} {k x : Int} : x ∈ insI ks k ↔ x ∈ ks ∨ x = k := by
  unfold insI
  split
  · rename_i h
    constructor
    · exact .inl
    · rintro (h1 | rfl)
      · exact h1
      · exact h
  · simp
theorem nodup_insI {ks : List Int} {k : Int} (h : ks.Nodup) : (insI ks k).Nodup := by
  unfold insI
  split
  · exact h
  · rename_i hn
    rw [List.nodup_append]
    refine ⟨h, by simp, fun a ha b hb => ?_⟩
    simp at hb
    intro e
    exact hn (by rw [← hb, ← e]; exact ha)
theorem mem_insAll {l : List Int} : ∀ {ks : List Int} {x : Int}, x ∈ l.foldl insI ks ↔ x ∈ ks ∨ x ∈ l := by
  induction l with
  | nil => simp
  | cons a l ih =>
    intro ks x
    rw [List.foldl_cons, ih, mem_insI, List.mem_cons]
    constructor
    · rintro ((h | h) | h)
      · exact .inl h
      · exact .inr (.inl h)
      · exact .inr (.inr h)
    · rintro (h | h | h)
      · exact .inl (.inl h)
      · exact .inl (.inr h)
      · exact .inr h
theorem nodup_insAll {l : List Int} : ∀ {ks : List Int}, ks.Nodup → (l.foldl insI ks).Nodup := by
  induction l with
  | nil => exact fun h => h
  | cons a l ih => exact fun h => ih (nodup_insI h)
theorem numA_inj {a b : Int} (h : (AV.p (.int .i64 a)) = .p (.int .i64 b)) : a = b := by simpa using h
theorem key3 : KeyOk Tryz.prog 3 IsI := keyI (by kernel_rfl) (fun w em n => by kernel_rfl)
@[simp] theorem keys_intM {ks : List Int} {k : Int} : KeysIn Tryz.prog 3 (intM ks) (.p (.int .i64 k)) = True :=
  eq_true ⟨_, key3, ⟨k, rfl⟩, fun e he => by
    obtain ⟨a, _, rfl⟩ := List.mem_map.1 he
    exact ⟨a, rfl⟩⟩
@[simp] theorem zsBool : zeroShape Tryz.prog 4 = some false := by kernel_rfl
theorem assoc_intM {ks : List Int} {k : Int} : assocA (intM ks) (.p (.int .i64 k)) = if k ∈ ks then some (.p (.bool true)) else none := by
  induction ks with
  | nil => simp [intM, assocA]
  | cons a ks ih =>
    have e : intM (a :: ks) = (.p (.int .i64 a), .p (.bool true)) :: intM ks := rfl
    rw [e, assocA_cons]
    by_cases h : a = k
    · subst h
      rw [if_pos rfl, if_pos (by simp)]
    · rw [if_neg (fun hh => h (numA_inj hh)), ih]
      simp [Ne.symm h]
theorem set_intM {ks : List Int} {k : Int} : setA (intM ks) (.p (.int .i64 k)) (.p (.bool true)) = intM (insI ks k) := by
  induction ks with
  | nil => simp [intM, setA, insI]
  | cons a ks ih =>
    have e : ∀ l, intM (a :: l) = (.p (.int .i64 a), .p (.bool true)) :: intM l := fun _ => rfl
    rw [e]
    by_cases h : a = k
    · subst h
      have : insI (a :: ks) a = a :: ks := if_pos (by simp)
      rw [this, setA, if_pos rfl, e]
    · rw [setA, if_neg (fun hh => h (numA_inj hh)), ih]
      have : insI (a :: ks) k = a :: insI ks k := by
        unfold insI
        by_cases hk : k ∈ ks
        · simp [hk]
        · simp [hk, Ne.symm h]
      rw [this, e]
theorem intM_ren {ρ : List Nat} {ks : List Int} : renE ρ (intM ks) = some (intM ks) := by
  unfold intM
  induction ks with
  | nil => rfl
  | cons e es ih => simp only [List.map_cons, renE, ih]; rfl
theorem intM_pure {ks : List Int} : pureE (intM ks) = true := by
  rw [pureE_iff]
  intro e he
  obtain ⟨q, _, rfl⟩ := List.mem_map.1 he
  exact ⟨rfl, rfl⟩
def setV (ks : List Int) : AV := .pmap (ks.map fun k => .p (.int .i64 k)) (ks.map fun _ => .p (.bool true))
theorem set_end {ks ms : List Int} (hk : ks.Nodup) (hm : ms.Nodup) (h : ∀ x, x ∈ ks ↔ x ∈ ms) :
    pureE (intM ms) = true ∧ (ks.map fun k => AV.p (.int .i64 k)).length = (ks.map fun _ => AV.p (.bool true)).length ∧ (ks.map fun k => AV.p (.int .i64 k)).Nodup ∧ ((ks.map fun k => AV.p (.int .i64 k)).zip (ks.map fun _ => AV.p (.bool true))).Perm (intM ms) := by
  refine ⟨intM_pure, by simp, List.Pairwise.map _ (fun a b hab hh => hab (numA_inj hh)) hk, ?_⟩
  have e : (ks.map fun k => AV.p (.int .i64 k)).zip (ks.map fun _ => AV.p (.bool true)) = intM ks := by rw [List.zip_map']; rfl
  rw [e]
  exact ((List.perm_ext_iff_of_nodup hk hm).2 h).map _

def dirStep (c : Circuit) (i : Int) (ks : List Int) (p : Port) : List Int := if decide (p.part = i) && givesB c p then ((onlyL c (around c p) false).map (·.part)).foldl insI ks else ks
def limStep (ks : List Int) (x : Int) : List Int := if 0 ≤ x then insI ks x else ks
def limL (c : Circuit) (i : Int) : List Int := if limErr c (nameAt c i) = 0 then [limAt c (nameAt c i) 48, limAt c (nameAt c i) 49] else []
def dirL (c : Circuit) (i : Int) : List Int := (limL c i).foldl limStep ((allP c).foldl (dirStep c i) [])
theorem mem_dirFold {c : Circuit} {i : Int} {l : List Port} : ∀ {ks : List Int} {x : Int}, x ∈ l.foldl (dirStep c i) ks ↔ x ∈ ks ∨ ∃ p ∈ l, p.part = i ∧ givesB c p = true ∧ ∃ q ∈ onlyL c (around c p) false, q.part = x := by
  induction l with
  | nil => simp
  | cons a l ih =>
    intro ks x
    rw [List.foldl_cons, ih]
    have hst : x ∈ dirStep c i ks a ↔ x ∈ ks ∨ (a.part = i ∧ givesB c a = true ∧ ∃ q ∈ onlyL c (around c a) false, q.part = x) := by
      unfold dirStep
      by_cases h : (decide (a.part = i) && givesB c a) = true
      · rw [if_pos h, mem_insAll, List.mem_map]
        simp only [Bool.and_eq_true, decide_eq_true_eq] at h
        simp [h.1, h.2]
      · rw [if_neg h]
        simp only [Bool.and_eq_true, decide_eq_true_eq, not_and] at h
        constructor
        · exact .inl
        · rintro (h1 | ⟨h1, h2, _⟩)
          · exact h1
          · exact absurd h2 (h h1)
    rw [hst]
    constructor
    · rintro ((h | h) | ⟨p, hp, h⟩)
      · exact .inl h
      · exact .inr ⟨a, by simp, h⟩
      · exact .inr ⟨p, by simp [hp], h⟩
    · rintro (h | ⟨p, hp, h⟩)
      · exact .inl (.inl h)
      · rcases List.mem_cons.1 hp with rfl | hp
        · exact .inl (.inr h)
        · exact .inr ⟨p, hp, h⟩
theorem mem_limFold {l : List Int} : ∀ {ks : List Int} {x : Int}, x ∈ l.foldl limStep ks ↔ x ∈ ks ∨ (x ∈ l ∧ 0 ≤ x) := by
  induction l with
  | nil => simp
  | cons a l ih =>
    intro ks x
    rw [List.foldl_cons, ih]
    have : x ∈ limStep ks a ↔ x ∈ ks ∨ (x = a ∧ 0 ≤ x) := by
      unfold limStep
      split
      · rename_i h
        rw [mem_insI]
        constructor
        · rintro (h1 | rfl)
          · exact .inl h1
          · exact .inr ⟨rfl, h⟩
        · rintro (h1 | ⟨h1, _⟩)
          · exact .inl h1
          · exact .inr h1
      · rename_i h
        constructor
        · exact .inl
        · rintro (h1 | ⟨rfl, h2⟩)
          · exact h1
          · exact absurd h2 h
    rw [this, List.mem_cons]
    constructor
    · rintro ((h | ⟨h1, h2⟩) | ⟨h1, h2⟩)
      · exact .inl h
      · exact .inr ⟨.inl h1, h2⟩
      · exact .inr ⟨.inr h1, h2⟩
    · rintro (h | ⟨h1 | h1, h2⟩)
      · exact .inl (.inl h)
      · exact .inl (.inr ⟨h1, h2⟩)
      · exact .inr ⟨h1, h2⟩
theorem nodup_dirL {c : Circuit} {i : Int} : (dirL c i).Nodup := by
  have h1 : ∀ {l : List Port} {ks : List Int}, ks.Nodup → (l.foldl (dirStep c i) ks).Nodup := fun {l} => by
    induction l with
    | nil => exact fun h => h
    | cons a l ih =>
      intro ks h
      refine ih ?_
      unfold dirStep
      split
      · exact nodup_insAll h
      · exact h
  have h2 : ∀ {l : List Int} {ks : List Int}, ks.Nodup → (l.foldl limStep ks).Nodup := fun {l} => by
    induction l with
    | nil => exact fun h => h
    | cons a l ih =>
      intro ks h
      refine ih ?_
      unfold limStep
      split
      · exact nodup_insI h
      · exact h
  exact h2 (h1 List.nodup_nil)
theorem lim_range {c : Circuit} {s : Txt} {d : UInt8} : limAt c s d = -1 ∨ limAt c s d = 0 ∨ (0 ≤ limAt c s d ∧ limAt c s d < c.parts.length) := by
  unfold limAt
  split
  · exact .inr (.inl rfl)
  · unfold swAt swK
    split
    · exact .inl rfl
    · rcases partI_cases c (s ++ [d]) with h | ⟨i, x, h, e, _⟩
      · exact .inl h
      · rw [h]
        have := (List.getElem?_eq_some_iff.1 e).1
        exact .inr (.inr ⟨by omega, by omega⟩)
theorem dirL_range {c : Circuit} {i x : Int} (hi : 0 ≤ i ∧ i < c.parts.length) (h : x ∈ dirL c i) : 0 ≤ x ∧ x < c.parts.length := by
  unfold dirL at h
  rw [mem_limFold, mem_dirFold] at h
  rcases h with (h | ⟨p, _, _, _, q, hq, rfl⟩) | ⟨h1, h2⟩
  · cases h
  · have := partOk_around q (List.mem_filter.1 hq).1
    have h3 := this.1
    have h4 := this.2
    omega
  · refine ⟨h2, ?_⟩
    unfold limL at h1
    split at h1
    · rcases List.mem_cons.1 h1 with rfl | h1
      · rcases @lim_range c (nameAt c i) 48 with h | h | h <;> omega
      · simp at h1
        subst h1
        rcases @lim_range c (nameAt c i) 49 with h | h | h <;> omega
    · cases h1

def insP (ks : List Int) (T : List Port) : List Int := (T.map (·.part)).foldl insI ks
theorem insP_snoc {ks : List Int} {T : List Port} {m : Nat} {q : Port} (e : T[m]? = some q) : insP ks (T.take (m + 1)) = insI (insP ks (T.take m)) q.part := by
  unfold insP
  rw [take_snoc e, List.map_append, List.foldl_append]; rfl
def dirT (c : Circuit) (i : Int) (k : Nat) : List Int := ((allP c).take k).foldl (dirStep c i) []
def dirAll (c : Circuit) (i : Int) : List Int := (allP c).foldl (dirStep c i) []
theorem dirT_zero {c : Circuit} {i : Int} : dirT c i 0 = [] := rfl
theorem dirT_all {c : Circuit} {i : Int} : dirT c i (allP c).length = dirAll c i := by unfold dirT dirAll; rw [List.take_length]
theorem dirT_snoc {c : Circuit} {i : Int} {k : Nat} {p : Port} (e : (allP c)[k]? = some p) : dirT c i (k + 1) = if p.part = i ∧ givesB c p = true then insP (dirT c i k) (onlyL c (around c p) false) else dirT c i k := by
  unfold dirT
  rw [foldl_snoc e]
  unfold dirStep insP
  by_cases h1 : p.part = i <;> by_cases h2 : givesB c p = true <;> simp [h1, h2]

def limT (D : List Int) (u v : Int) (k : Nat) : List Int := match k with
  | 0 => D
  | 1 => limStep D u
  | _ => limStep (limStep D u) v

set_option maxRecDepth 20000 in
theorem c_inspect_direct (c : Circuit) (i : Nat) (hs : Sized c) (h : checkP c = 0) (hi : i < c.parts.length) : Pure Tryz.prog GL 108 [.agg [.p (.lst 3 (c.parts.map Part.enc)), .p (.lst 4 (c.pipes.map Pipe.enc)), .p (.lst 2 ((allP c).map Port.enc)), .pmap (planKs c) (planVs c)], .p (.int .i64 i)] (setV (dirL c i)) := by
  refine Pure.of_walk (N := 80) Tryz.func108 rfl rfl rfl (by simp) (by first | (simp; done) | simp [*]) ?_
  have h2 := check_parts h
  have hal := allP_len h2.1 (by omega)
  obtain ⟨qi, ei⟩ := get_lt hi
  have hnm : nameAt c i = qi.name := by unfold nameAt; rw [Int.toNat_natCast, ei]
  have hLi := c_circuit_Limits c qi.name hs (hs.names qi (List.mem_of_getElem? ei))
  simp
  refine XLoop.go [1, 2, 5, 17, 18] [0] 0 [] (fun _ => []) (fun _ (k : Nat) => [(19, .p (.int .i64 k))]) (fun _ k => [(1, some (.map (intM (dirT c i k))))]) (fun k => k ≤ (allP c).length) (fun k => (allP c).length - k) 0 (by omega) ?_ ?_
  · simp [intM, dirT_zero]
    try decide
  · intro k hk
    have hsn := @dirT_snoc c i k
    have hend : k = (allP c).length → dirT c i k = dirAll c i := fun e => by rw [e]; exact dirT_all
    generalize dirT c i k = A at hsn hend
    simp
    refine xif_split (fun h3 => ?_) (fun h3 => ?_)
    · simp at h3
      obtain ⟨p, ep⟩ := get_lt h3
      have hp := List.mem_of_getElem? ep
      have hsn2 := hsn ep
      have hgv := c_inspect_gives c p h2.1 hp
      have hlk := look_plan h (i := p.part) (s := p.name) hp
      have har := @around_len c p
      have hta := c_filtered_takes c (around c p) h2.1 (by omega) (fun q hq => (List.mem_filter.1 hq).1)
      have hol : (onlyL c (around c p) false).length ≤ (around c p).length := List.length_filter_le ..
      obtain ⟨pi, pn⟩ := p
      simp only at hlk hsn2
      simp [h3, ep, -getElem?_pos, List.getElem?_cons_zero, List.getElem?_cons_succ]
      by_cases hpi : pi = i
      · subst hpi
        simp
        refine xcall_pure hgv ?_
        cases hb : givesB c ⟨(i : Int), pn⟩ with
        | true =>
          rw [if_pos ⟨rfl, hb⟩] at hsn2
          simp
          refine XDraw.intro (by kernel_rfl) ?_
          simp [hlk, hit]
          refine xcall_pure hta ?_
          simp
          refine ⟨.of (by kernel_rfl), ?_⟩
          generalize onlyL c (around c ⟨(i : Int), pn⟩) false = T at *
          refine XLoop.go [1, 2, 5, 17, 18, 19, 39, 40] [0] 0 [] (fun _ => []) (fun _ (m : Nat) => [(41, .p (.int .i64 m))]) (fun _ m => [(1, some (.map (intM (insP A (T.take m)))))]) (fun m => m ≤ T.length) (fun m => T.length - m) 0 (by omega) ?_ ?_
          · simp [intM_ren, insP]
            try decide
          · intro m hm
            have hs1 := @insP_snoc A T m
            have hs2 : m = T.length → insP A (T.take m) = insP A T := fun e => by rw [e, List.take_length]
            generalize insP A (T.take m) = D at hs1 hs2
            simp
            refine xif_split (fun h4 => ?_) (fun h4 => ?_)
            · simp at h4
              obtain ⟨q, eq⟩ := get_lt h4
              have hs3 := hs1 eq
              simp [h4, eq, -getElem?_pos, List.getElem?_cons_zero, List.getElem?_cons_succ]
              refine ⟨wrap_i64 (by omega) (by omega), m + 1, by omega, by omega, ?_⟩
              simp [set_intM, hs3, intM_ren]
              try decide
            · simp at h4
              have hD := hs2 (by omega)
              subst hD
              simp
              refine ⟨wrap_i64 (by omega) (by omega), k + 1, by omega, by omega, ?_⟩
              simp [hsn2, intM_ren]
              try decide
        | false =>
          rw [if_neg (by simp [hb])] at hsn2
          simp
          refine ⟨wrap_i64 (by omega) (by omega), k + 1, by omega, by omega, ?_⟩
          simp [hsn2, intM_ren]
          try decide
      · rw [if_neg (by simp [hpi])] at hsn2
        simp [hpi]
        refine ⟨wrap_i64 (by omega) (by omega), k + 1, by omega, by omega, ?_⟩
        simp [hsn2, intM_ren]
        try decide
    · simp at h3
      have hA := hend (by omega)
      subst hA
      simp
      refine XDraw.intro (by kernel_rfl) ?_
      simp [ei, hi, Part.enc, -getElem?_pos, List.getElem?_cons_zero, List.getElem?_cons_succ]
      refine xcall_pure hLi ?_
      simp
      refine ⟨.of (by kernel_rfl), ?_⟩
      have hdl : dirL c i = (limL c i).foldl limStep (dirAll c i) := rfl
      have hll : limL c i = if limErr c qi.name = 0 then [limAt c qi.name 48, limAt c qi.name 49] else [] := by rw [limL, hnm]
      have hfin := set_end (nodup_dirL (c := c) (i := i)) nodup_dirL (fun _ => Iff.rfl)
      rw [hll] at hdl
      generalize dirL c i = R at *
      generalize dirAll c i = D at *
      by_cases hle : limErr c qi.name = 0
      · rw [if_pos hle] at hdl
        generalize limAt c qi.name 48 = u at *
        generalize limAt c qi.name 49 = v at *
        have hRl : limT D u v 2 = R := hdl.symm
        simp [hle]
        refine XLoop.go [5, 68, 69] [2] 0 [] (fun _ => []) (fun _ (k : Nat) => [(70, .p (.int .i64 k))]) (fun _ k => [(1, some (.map (intM (limT D u v k))))]) (fun k => k ≤ 2) (fun k => 2 - k) 0 (by omega) ?_ ?_
        · simp [limT, intM_ren]
          try decide
        · intro k hk
          obtain rfl | rfl | rfl : k = 0 ∨ k = 1 ∨ k = 2 := by omega
          · have h01 : limT D u v 0 = D := rfl
            have h11 : limT D u v 1 = limStep D u := rfl
            rw [h01]
            simp
            refine xif_split (fun hu => ?_) (fun hu => ?_)
            · simp at hu
              have hst : limStep D u = insI D u := if_pos hu
              simp
              refine ⟨1, by omega, by omega, ?_⟩
              simp [set_intM, h11, hst, intM_ren]
              try decide
            · simp at hu
              have hst : limStep D u = D := if_neg (by omega)
              simp
              refine ⟨1, by omega, by omega, ?_⟩
              simp [h11, hst, intM_ren]
              try decide
          · have h11 : limT D u v 1 = limStep D u := rfl
            have h21 : limT D u v 2 = limStep (limStep D u) v := rfl
            rw [h11]
            generalize limStep D u = E at *
            simp
            refine xif_split (fun hu => ?_) (fun hu => ?_)
            · simp at hu
              have hst : limStep E v = insI E v := if_pos hu
              simp
              refine ⟨2, by omega, by omega, ?_⟩
              simp [set_intM, h21, hst, intM_ren]
              try decide
            · simp at hu
              have hst : limStep E v = E := if_neg (by omega)
              simp
              refine ⟨2, by omega, by omega, ?_⟩
              simp [h21, hst, intM_ren]
              try decide
          · rw [hRl]
            simp
            simp [XEndT, setV]
            exact ⟨hfin.1, hfin.2.2⟩
      · rw [if_neg hle] at hdl
        have hRD : R = D := hdl
        subst hRD
        simp [hle]
        simp [XEndT, setV]
        exact ⟨hfin.1, hfin.2.2⟩

end Go.Am
/- Contracts: package inspect: the parts that a part acts on. -/
namespace Go.Am
open Go Go.Proofs Go.Pn

def edgeP (c : Circuit) (i : Int) : List Psg := ((dirL c i).map fun x => ⟨0, x.toNat, [], true⟩) ++ (List.range c.parts.length).flatMap fun (a : Nat) => (dirL c a).map fun x => ⟨0, x.toNat, [a], false⟩
def reachS (c : Circuit) (i : Int) : List Nat := lfp (edgeP c i) c.parts.length
def reachK (c : Circuit) (i : Int) : List Int := ((List.range c.parts.length).filter fun n => (reachS c i).contains n).map fun (n : Nat) => (n : Int)
theorem edgeP_to {c : Circuit} {i : Int} (hi : 0 ≤ i ∧ i < c.parts.length) : ∀ y ∈ edgeP c i, y.to < c.parts.length := by
  intro y hy
  rcases List.mem_append.1 hy with hy | hy
  · obtain ⟨x, hx, rfl⟩ := List.mem_map.1 hy
    have := dirL_range hi hx
    simp only; omega
  · obtain ⟨a, ha, hy⟩ := List.mem_flatMap.1 hy
    obtain ⟨x, hx, rfl⟩ := List.mem_map.1 hy
    have := dirL_range (i := (a : Int)) ⟨by omega, by have := List.mem_range.1 ha; omega⟩ hx
    simp only; omega
theorem reachS_lt {c : Circuit} {i : Int} (hi : 0 ≤ i ∧ i < c.parts.length) : ∀ n ∈ reachS c i, n < c.parts.length := by
  have := lfp_least (ps := edgeP c i) (N := c.parts.length) (S := fun n => decide (n < c.parts.length)) (fun y hy _ => by simpa using edgeP_to hi y hy)
  intro n hn
  simpa using this n hn
theorem mem_reachK {c : Circuit} {i x : Int} (hi : 0 ≤ i ∧ i < c.parts.length) : x ∈ reachK c i ↔ 0 ≤ x ∧ x.toNat ∈ reachS c i := by
  unfold reachK
  rw [List.mem_map]
  constructor
  · rintro ⟨n, hn, rfl⟩
    exact ⟨by omega, by simpa using (List.mem_filter.1 hn).2⟩
  · rintro ⟨h0, h1⟩
    exact ⟨x.toNat, List.mem_filter.2 ⟨List.mem_range.2 (reachS_lt hi _ h1), by simpa using h1⟩, by omega⟩
theorem reachK_range {c : Circuit} {i x : Int} (h : x ∈ reachK c i) : 0 ≤ x ∧ x < c.parts.length := by
  obtain ⟨n, hn, rfl⟩ := List.mem_map.1 h
  have := List.mem_range.1 (List.mem_filter.1 hn).1
  omega
theorem reachK_nodup {c : Circuit} {i : Int} : (reachK c i).Nodup :=
  List.Pairwise.map _ (fun a b hab hh => hab (by omega)) (List.nodup_range.filter _)
theorem reach_start {c : Circuit} {i x : Int} (hi : 0 ≤ i ∧ i < c.parts.length) (h : x ∈ dirL c i) : x ∈ reachK c i := by
  have hr := dirL_range hi h
  rw [mem_reachK hi]
  refine ⟨hr.1, ?_⟩
  have := lfp_closed (edgeP_to hi) ⟨0, x.toNat, [], true⟩ (List.mem_append_left _ (List.mem_map.2 ⟨x, h, rfl⟩)) rfl
  exact List.contains_iff_mem.1 this
theorem reach_step {c : Circuit} {i a x : Int} (hi : 0 ≤ i ∧ i < c.parts.length) (ha : a ∈ reachK c i) (h : x ∈ dirL c a) : x ∈ reachK c i := by
  have hra := reachK_range ha
  have hr := dirL_range hra h
  rw [mem_reachK hi] at ha ⊢
  refine ⟨hr.1, ?_⟩
  have haa : ((a.toNat : Nat) : Int) = a := by omega
  have := lfp_closed (edgeP_to hi) ⟨0, x.toNat, [a.toNat], false⟩ (List.mem_append_right _ (List.mem_flatMap.2 ⟨a.toNat, List.mem_range.2 (by omega), List.mem_map.2 ⟨x, by rw [haa]; exact h, rfl⟩⟩)) (by
    have : (lfp (edgeP c i) c.parts.length).contains a.toNat = true := List.contains_iff_mem.2 ha.2
    simp only [flowsB, Bool.false_eq_true, if_false, List.any_cons, List.any_nil, Bool.or_false]
    exact this)
  exact List.contains_iff_mem.1 this
theorem reach_least {c : Circuit} {i : Int} {ks : List Int} (hi : 0 ≤ i ∧ i < c.parts.length) (h0 : ∀ x ∈ dirL c i, x ∈ ks) (h1 : ∀ a ∈ ks, ∀ x ∈ dirL c a, x ∈ ks) : ∀ x ∈ reachK c i, x ∈ ks := by
  have := lfp_least (ps := edgeP c i) (N := c.parts.length) (S := fun n => decide ((n : Int) ∈ ks)) (fun y hy hf => by
    rcases List.mem_append.1 hy with hy | hy
    · obtain ⟨x, hx, rfl⟩ := List.mem_map.1 hy
      have hr := dirL_range hi hx
      have e : ((x.toNat : Nat) : Int) = x := by omega
      simp only [e, decide_eq_true_eq]
      exact h0 x hx
    · obtain ⟨a, ha, hy⟩ := List.mem_flatMap.1 hy
      obtain ⟨x, hx, rfl⟩ := List.mem_map.1 hy
      have hr := dirL_range (i := (a : Int)) ⟨by omega, by have := List.mem_range.1 ha; omega⟩ hx
      have e : ((x.toNat : Nat) : Int) = x := by omega
      simp only [flowsB, Bool.false_eq_true, if_false, List.any_cons, List.any_nil, Bool.or_false, decide_eq_true_eq] at hf
      simp only [e, decide_eq_true_eq]
      exact h1 a hf x hx)
  intro x hx
  rw [mem_reachK hi] at hx
  have h2 := this _ hx.2
  have e : ((x.toNat : Nat) : Int) = x := by omega
  simpa [e] using h2

structure RInv (c : Circuit) (i : Int) (ks q : List Int) : Prop where
  nd : ks.Nodup
  rng : ∀ x ∈ ks, 0 ≤ x ∧ x < c.parts.length
  qk : ∀ x ∈ q, x = i ∨ x ∈ ks
  sound : ∀ x ∈ ks, x ∈ reachK c i
  clos : ∀ a, (a = i ∨ a ∈ ks) → a ∉ q → ∀ x ∈ dirL c a, x ∈ ks
theorem RInv.init {c : Circuit} {i : Int} : RInv c i [] [i] :=
  ⟨List.nodup_nil, by simp, by simp, by simp, fun a ha hq => by simp at ha hq; exact absurd ha hq⟩
theorem RInv.push {c : Circuit} {i : Int} (hi : 0 ≤ i ∧ i < c.parts.length) {ks q : List Int} {q0 k : Int} (h : RInv c i ks q) (h0 : q0 ∈ q) (hk : k ∈ dirL c q0) (hn : k ∉ ks) : RInv c i (ks ++ [k]) (q ++ [k]) := by
  have hk2 : k ∈ reachK c i := by
    rcases h.qk q0 h0 with rfl | h1
    · exact reach_start hi hk
    · exact reach_step hi (h.sound _ h1) hk
  refine ⟨?_, ?_, ?_, ?_, ?_⟩
  · rw [List.nodup_append]
    refine ⟨h.nd, by simp, fun a ha b hb e => ?_⟩
    simp at hb
    exact hn (by rw [← hb, ← e]; exact ha)
  · intro x hx
    rcases List.mem_append.1 hx with hx | hx
    · exact h.rng x hx
    · simp at hx; subst hx; exact reachK_range hk2
  · intro x hx
    rcases List.mem_append.1 hx with hx | hx
    · rcases h.qk x hx with h1 | h1
      · exact .inl h1
      · exact .inr (List.mem_append_left _ h1)
    · exact .inr (List.mem_append_right _ hx)
  · intro x hx
    rcases List.mem_append.1 hx with hx | hx
    · exact h.sound x hx
    · simp at hx; subst hx; exact hk2
  · intro a ha hq x hx
    rw [List.mem_append, not_or] at hq
    have ha2 : a = i ∨ a ∈ ks := by
      rcases ha with ha | ha
      · exact .inl ha
      · rcases List.mem_append.1 ha with ha | ha
        · exact .inr ha
        · exact absurd ha hq.2
    exact List.mem_append_left _ (h.clos a ha2 hq.1 x hx)
theorem RInv.pop {c : Circuit} {i : Int} {ks t : List Int} {q0 : Int} (h : RInv c i ks (q0 :: t)) (hd : ∀ x ∈ dirL c q0, x ∈ ks) : RInv c i ks t := by
  refine ⟨h.nd, h.rng, fun x hx => h.qk x (List.mem_cons_of_mem _ hx), h.sound, fun a ha hq x hx => ?_⟩
  by_cases e : a = q0
  · subst e; exact hd x hx
  · exact h.clos a ha (by simp [e, hq]) x hx
theorem RInv.fin {c : Circuit} {i : Int} (hi : 0 ≤ i ∧ i < c.parts.length) {ks : List Int} (h : RInv c i ks []) (x : Int) : x ∈ reachK c i ↔ x ∈ ks :=
  ⟨reach_least hi (fun x hx => h.clos i (.inl rfl) (by simp) x hx) (fun a ha x hx => h.clos a (.inr ha) (by simp) x hx) x, h.sound x⟩
theorem RInv.small {c : Circuit} {i : Int} {ks q : List Int} (h : RInv c i ks q) : ks.length ≤ c.parts.length := by
  have h1 : (ks.map Int.toNat).Nodup := by
    refine List.pairwise_map.2 ?_
    refine List.Pairwise.imp_of_mem ?_ h.nd
    intro a b ha hb hab e
    have := h.rng a ha
    have := h.rng b hb
    exact hab (by omega)
  have := nodup_le (m := List.range c.parts.length) h1 (fun x hx => by
    obtain ⟨a, ha, rfl⟩ := List.mem_map.1 hx
    have := h.rng a ha
    exact List.mem_range.2 (by omega))
  simpa using this
theorem RInv.part {c : Circuit} {i : Int} (hi : 0 ≤ i ∧ i < c.parts.length) {ks t : List Int} {q0 : Int} (h : RInv c i ks (q0 :: t)) : ∃ j : Nat, q0 = j ∧ j < c.parts.length := by
  have : 0 ≤ q0 ∧ q0 < c.parts.length := by
    rcases h.qk q0 (by simp) with rfl | h1
    · exact hi
    · exact h.rng _ h1
  exact ⟨q0.toNat, by omega, by omega⟩

structure QSt where
  ks : List Int
  done : List Int
  q : List Int
def qV (g : QSt) : AV := match g.q with
  | [] => .p (.lst 1 [])
  | _ :: _ => .ref 2 1 g.done.length g.q.length none
def qB (g : QSt) : Store := match g.q with
  | [] => []
  | _ :: _ => [(2, some (.cells 1 ((g.done ++ g.q).map Int.row)))]
def nmQ (x : AV) : Nat := match x with
  | .ref b .. => b
  | _ => 2
@[simp] theorem nmQ_ref {b k i n : Nat} {c : Option Nat} : nmQ (.ref b k i n c) = b := rfl
@[simp] theorem nmQ_p {x : PV} : nmQ (.p x) = 2 := rfl
structure ISt where
  ks : List Int
  done : List Int
  t : List Int
  seen : List Nat

set_option maxRecDepth 20000 in
theorem c_inspect_reached (c : Circuit) (i : Nat) (hs : Sized c) (h : checkP c = 0) (hi : i < c.parts.length) : Pure Tryz.prog GL 68 [.agg [.p (.lst 3 (c.parts.map Part.enc)), .p (.lst 4 (c.pipes.map Pipe.enc)), .p (.lst 2 ((allP c).map Port.enc)), .pmap (planKs c) (planVs c)], .p (.int .i64 i)] (setV (reachK c i)) := by
  refine Pure.of_walk (N := 37) Tryz.func68 rfl rfl rfl (by simp) (by first | (simp; done) | simp [*]) ?_
  have h2 := check_parts h
  have hi2 : 0 ≤ (i : Int) ∧ (i : Int) < c.parts.length := by omega
  simp
  refine XLoop.gor [2, 5] [0] [0, 1, 2] (fun st => [0, 1, nmQ (slot st.t 6)]) (fun (g : QSt) => [(6, qV g)]) (fun g => (1, some (.map (intM g.ks))) :: qB g) (fun g => RInv c i g.ks g.q ∧ 2 * (c.parts.length - g.ks.length) + g.q.length ≤ 2 * c.parts.length + 1) (fun g => 2 * (c.parts.length - g.ks.length) + g.q.length) ⟨[], [], [(i : Int)]⟩ ⟨RInv.init, by simp⟩ ?_ ?_
  · simp [qV, qB, intM]
    try decide
  · rintro ⟨ks, done, q⟩ ⟨hI, hbq⟩
    simp only at hI hbq
    have hsm := hI.small
    cases q with
    | nil =>
      have hfin := set_end (reachK_nodup (c := c) (i := (i : Int))) hI.nd (hI.fin hi2)
      simp [qV, qB]
      simp [XEndT, setV]
      exact ⟨hfin.1, hfin.2.2⟩
    | cons q0 t =>
      obtain ⟨j, rfl, hj⟩ := hI.part hi2
      simp at hbq
      have hdir := c_inspect_direct c j hs h hj
      simp [qV, qB]
      refine XDraw.intro (by kernel_rfl) ?_
      simp
      refine xcall_pure hdir ?_
      simp [setV]
      refine ⟨.of (by kernel_rfl), ?_⟩
      have hdn := nodup_dirL (c := c) (i := (j : Int))
      generalize hD : dirL c (j : Int) = D at hdn
      refine XLoop.gor [2, 5, 21] [0] [0, 1, 2, 3] (fun st => [0, 1, nmQ (slot st.t 6), 3]) (fun (g : ISt) => [(6, .ref 2 1 g.done.length (g.t.length + 1) none)]) (fun g => [(1, some (.map (intM g.ks))), (2, some (.cells 1 ((g.done ++ (j : Int) :: g.t).map Int.row))), (3, some (.iter (D.map fun k => .p (.int .i64 k)) (D.map fun _ => .p (.bool true)) g.seen))]) (fun g => RInv c i g.ks ((j : Int) :: g.t) ∧ (∀ n ∈ g.seen, ∀ x, D[n]? = some x → x ∈ g.ks) ∧ g.seen.Nodup ∧ (∀ n ∈ g.seen, n < D.length) ∧ 2 * (c.parts.length - g.ks.length) + g.t.length ≤ 2 * (c.parts.length - ks.length) + t.length) (fun g => D.length - g.seen.length) ⟨ks, done, t, []⟩ ⟨hI, by simp, List.nodup_nil, by simp, Nat.le_refl _⟩ ?_ ?_
      · simp [intM_ren]
        try decide
      · rintro ⟨ks2, done2, t2, seen⟩ ⟨hI2, hse, hsn, hsl, hme⟩
        simp only at hI2 hse hsn hsl hme
        have hsm2 := hI2.small
        simp
        refine xround_split (fun n kk vv hn hk hv => ?_) (fun hall => ?_)
        · rw [List.getElem?_map, Option.map_eq_some_iff] at hk
          obtain ⟨x, ex, rfl⟩ := hk
          have hxl := (List.getElem?_eq_some_iff.1 ex).1
          have hvv : vv = .p (.bool true) := by
            rw [List.getElem?_map, ex] at hv
            simpa using hv.symm
          subst hvv
          have hxm := List.mem_of_getElem? ex
          have hsn3 : (seen ++ [n]).Nodup := by
            rw [List.nodup_append]
            exact ⟨hsn, by simp, fun a ha b hb e => hn (by simp at hb; rw [← hb, ← e]; exact ha)⟩
          have hsl3 : ∀ m ∈ seen ++ [n], m < D.length := fun m hm => by
            rcases List.mem_append.1 hm with hm | hm
            · exact hsl m hm
            · simp at hm; subst hm; exact hxl
          have hse3 : ∀ (l : List Int), (∀ y ∈ ks2, y ∈ l) → x ∈ l → ∀ m ∈ seen ++ [n], ∀ y, D[m]? = some y → y ∈ l := fun l hl hx m hm y hy => by
            rcases List.mem_append.1 hm with hm | hm
            · exact hl y (hse m hm y hy)
            · simp at hm; subst hm; rw [ex] at hy; cases hy; exact hx
          have hcnt : seen.length + 1 ≤ D.length := by
            have := nodup_le (m := List.range D.length) hsn3 (fun m hm => List.mem_range.2 (hsl3 m hm))
            simpa using this
          by_cases hx : x ∈ ks2
          · simp [ex, assoc_intM, hit, zeroV, hx]
            refine ⟨⟨ks2, done2, t2, seen ++ [n]⟩, ⟨hI2, hse3 ks2 (fun _ h => h) hx, hsn3, hsl3, hme⟩, by simp; omega, ?_⟩
            simp [intM_ren]
            try decide
          · have hins : insI ks2 x = ks2 ++ [x] := if_neg hx
            have hI3 := hI2.push hi2 (q0 := (j : Int)) (by simp) (by rw [hD]; exact hxm) hx
            have hsm3 := hI3.small
            simp at hsm3
            simp [ex, assoc_intM, hit, zeroV, hx, set_intM, hins]
            refine ⟨by omega, ?_⟩
            refine ⟨⟨ks2 ++ [x], [], t2 ++ [x], seen ++ [n]⟩, ⟨hI3, hse3 _ (fun y hy => by simp [hy]) (by simp), hsn3, hsl3, by simp; omega⟩, by simp; omega, ?_⟩
            simp [intM_ren]
            try decide
        · have hall2 : ∀ y ∈ dirL c (j : Int), y ∈ ks2 := fun y hy => by
            rw [hD] at hy
            obtain ⟨m, hm⟩ := List.mem_iff_getElem?.1 hy
            exact hse m (hall m (by simpa using (List.getElem?_eq_some_iff.1 hm).1)) y hm
          have hI4 := hI2.pop hall2
          cases t2 with
          | nil =>
            simp
            refine ⟨⟨ks2, done2 ++ [(j : Int)], []⟩, ⟨hI4, by simp at hme ⊢; omega⟩, by simp at hme ⊢; omega, ?_⟩
            simp [intM_ren, qV, qB]
            try decide
          | cons u t3 =>
            have h1 : (1 : Int) ≤ (t3.length : Int) + 1 + 1 := by omega
            simp [h1]
            refine ⟨⟨ks2, done2 ++ [(j : Int)], u :: t3⟩, ⟨hI4, by simp at hme ⊢; omega⟩, by simp at hme ⊢; omega, ?_⟩
            simp [intM_ren, qV, qB]
            try decide

end Go.Am
/- Contracts: package inspect: Behind, Idle. -/
namespace Go.Am
open Go Go.Proofs Go.Pn

def behErr (c : Circuit) (s : Txt) : Int := if checkP c ≠ 0 then checkP c else if partIx c s < 0 then 6 else 0
def behL (c : Circuit) (s : Txt) : List Int := if behErr c s ≠ 0 then [] else reachK c (partIx c s)
def pickL (K : List Int) (seen : List Nat) : List Int := seen.map fun n => (K[n]?).getD 0
theorem pickL_nil {K : List Int} : pickL K [] = [] := rfl
theorem pickL_len {K : List Int} {seen : List Nat} : (pickL K seen).length = seen.length := by simp [pickL]
theorem pickL_snoc {K : List Int} {seen : List Nat} {n : Nat} {x : Int} (e : K[n]? = some x) : pickL K (seen ++ [n]) = pickL K seen ++ [x] := by simp [pickL, e, -getElem?_pos]
theorem pickL_all {K : List Int} {seen : List Nat} (hn : seen.Nodup) (hl : ∀ n ∈ seen, n < K.length) (ha : ∀ n, n < K.length → n ∈ seen) : (pickL K seen).Perm K := by
  have h1 : seen.Perm (List.range K.length) := (List.perm_ext_iff_of_nodup hn List.nodup_range).2 fun n => ⟨fun h => List.mem_range.2 (hl n h), fun h => ha n (List.mem_range.1 h)⟩
  have h2 : pickL K (List.range K.length) = K := by
    unfold pickL
    apply List.ext_getElem?
    intro j
    by_cases hj : j < K.length
    · rw [List.getElem?_map, List.getElem?_range hj, List.getElem?_eq_getElem hj]
      simp [List.getElem?_eq_getElem hj]
    · rw [List.getElem?_eq_none (by simp; omega), List.getElem?_eq_none (by omega)]
  have h3 : (pickL K seen).Perm (pickL K (List.range K.length)) := h1.map _
  rw [h2] at h3
  exact h3
theorem reachK_sorted {c : Circuit} {i : Int} : (reachK c i).Pairwise (· ≤ ·) :=
  List.Pairwise.map _ (fun a b hab => by omega) (List.pairwise_lt_range.filter _)
theorem sort_perm {l m : List Int} (hp : l.Perm m) (hm : m.Pairwise (· ≤ ·)) : sortI l = m := by
  have h1 : (sortI l).Perm m := (List.mergeSort_perm l _).trans hp
  have h2 : (sortI l).Pairwise (· ≤ ·) := by
    have := List.pairwise_mergeSort (le := fun x y : Int => decide (x ≤ y)) (fun a b c h1 h2 => by simp at *; omega) (fun a b => by simp; omega) l
    exact this.imp fun h => by simpa using h
  exact List.Perm.eq_of_pairwise (fun a b _ _ h1 h2 => by omega) h2 hm h1

set_option maxRecDepth 20000 in
theorem c_inspect_Behind (c : Circuit) (s : Txt) (hs : Sized c) : Pure Tryz.prog GL 35 [c.av, .p (.str s)] (.tup [.p (.lst 1 ((behL c s).map Int.enc)), .p (.int .i64 (behErr c s))]) := by
  refine Pure.of_walk (N := 43) Tryz.func35 rfl rfl rfl (by simp) (by first | (simp; done) | simp [*]) ?_
  have hPl := c_inspect_planned c hs
  simp
  refine xcall_pure hPl ?_
  by_cases h : checkP c = 0
  · have h2 := check_parts h
    have hR : planR c = planAV c := if_pos h
    have hFi := find_of (s := s) h hs
    have hno : ¬ checkP c ≠ 0 := by simpa using h
    rw [hR, h]
    simp [planAV]
    refine xcall_pure hFi ?_
    by_cases hi : partIx c s < 0
    · have he : behErr c s = 6 := by unfold behErr; rw [if_neg hno, if_pos hi]
      have hr : behL c s = [] := by unfold behL; rw [he, if_pos (by simp)]
      rw [he, hr]
      simp [hi, XEndT]
    · obtain ⟨i, q, e1, e2, e3, e4, e5⟩ := partIx_at hi
      have he : behErr c s = 0 := by unfold behErr; rw [if_neg hno, if_neg hi]
      have hr : behL c s = reachK c i := by unfold behL; rw [he, if_neg (by simp), e1]
      rw [e1] at hi
      have hrc := c_inspect_reached c i hs h e3
      have hsrt := reachK_sorted (c := c) (i := (i : Int))
      have hlen : (reachK c (i : Int)).length ≤ c.parts.length := by
        unfold reachK
        rw [List.length_map]
        have := List.length_filter_le (fun n => (reachS c (i : Int)).contains n) (List.range c.parts.length)
        simpa using this
      rw [he, hr]
      generalize reachK c (i : Int) = K at *
      simp [e1, hi]
      refine xcall_pure hrc ?_
      simp [setV]
      refine XLoop.go [31] [] 1 [3] (nms [9]) (fun nx (g : List Nat) => [(9, .acc nx 1 g.length)]) (fun nx g => [(nx, accB 1 ((pickL K g).map Int.row)), (2, some (.iter (K.map fun k => .p (.int .i64 k)) (K.map fun _ => .p (.bool true)) g))]) (fun g => g.Nodup ∧ ∀ n ∈ g, n < K.length) (fun g => K.length - g.length) [] ⟨List.nodup_nil, by simp⟩ ?_ ?_
      · simp [pickL_nil]
        try decide
      · intro seen ⟨hn, hl⟩
        have hpl := @pickL_len K seen
        have hcnt := nodup_le (m := List.range K.length) hn (fun m hm => List.mem_range.2 (hl m hm))
        have hper := @pickL_all K seen hn hl
        have hsnoc := @pickL_snoc K seen
        simp at hcnt
        generalize pickL K seen = A at hpl hper hsnoc
        simp
        refine xround_split (fun n kk vv hns hk hv => ?_) (fun hall => ?_)
        · rw [List.getElem?_map, Option.map_eq_some_iff] at hk
          obtain ⟨x, ex, rfl⟩ := hk
          have hxl := (List.getElem?_eq_some_iff.1 ex).1
          have hvv : vv = .p (.bool true) := by
            rw [List.getElem?_map, ex] at hv
            simpa using hv.symm
          subst hvv
          have hsn2 := hsnoc ex
          have hn3 : (seen ++ [n]).Nodup := by
            rw [List.nodup_append]
            exact ⟨hn, by simp, fun a ha b hb e => hns (by simp at hb; rw [← hb, ← e]; exact ha)⟩
          have hl3 : ∀ m ∈ seen ++ [n], m < K.length := fun m hm => by
            rcases List.mem_append.1 hm with hm | hm
            · exact hl m hm
            · simp at hm; subst hm; exact hxl
          have hcnt3 := nodup_le (m := List.range K.length) hn3 (fun m hm => List.mem_range.2 (hl3 m hm))
          simp at hcnt3
          simp [ex, hpl]
          refine ⟨by omega, seen ++ [n], ⟨hn3, hl3⟩, by simp; omega, ?_⟩
          simp [hsn2, hpl]
          try decide
        · have hA := sort_perm (hper (fun n hn => hall n (by simpa using hn))) hsrt
          by_cases hAe : A = []
          · subst hAe
            have hK : K = [] := by rw [← hA]; simp [sortI]
            have hz : seen.length = 0 := by simpa using hpl.symm
            simp [hz]
            refine xcall_gives (Gives.of_acc (rest := []) (fun _ => g_SortI0 _ _) (fun h => absurd h (by omega))) ?_
            simp [XEndT, hK, withAcc]
          · have hac : accB 1 (A.map Int.row) = some (.cells 1 (A.map Int.row)) := by simp [accB, hAe]
            have hAl : 0 < A.length := List.length_pos_iff.2 hAe
            have hsl := @sortI_len A
            rw [← hpl]
            simp [hac]
            refine xcall_gives (Gives.of_acc (rest := []) (fun h => absurd h (by omega)) (fun _ => g_SortI A _ _ 3 none (by simp) (by omega))) ?_
            rw [hA]
            rw [hA] at hsl
            have hKe : K ≠ [] := fun e => by rw [e] at hsl; simp at hsl; omega
            have hKc : accB 1 (K.map Int.row) = some (.cells 1 (K.map Int.row)) := by simp [accB, hKe]
            simp [XEndT]
            refine ⟨hsl, ?_⟩
            simp [withAcc, hKe]
  · have hR : planR c = .agg [.p (.lst 3 []), .p (.lst 4 []), .p (.lst 2 []), .nilm] := if_neg h
    have he : behErr c s = checkP c := by unfold behErr; rw [if_pos h]
    have hr : behL c s = [] := by unfold behL; rw [he, if_pos h]
    rw [hR, he, hr]
    simp [h]
    simp [XEndT]

end Go.Am
