/- Lemmas and contracts for the proof of a statement of this seat. -/
import Derived.Test.YtfcljeghfckabaaGreatDoorZCA
set_option linter.unusedVariables false
set_option linter.unusedSimpArgs false
/- Plain laws: which nets are under pressure: the least list that is closed under passages. -/
namespace Go.Am
open Go Go.Proofs Go.Pn

structure Psg where
  part : Int
  to : Nat
  fr : List Nat
  all : Bool
  deriving DecidableEq

def flowsB (S : Nat → Bool) (y : Psg) : Bool := if y.all then y.fr.all S else y.fr.any S
theorem flows_mono {S T : Nat → Bool} (h : ∀ n, S n = true → T n = true) {y : Psg} (hf : flowsB S y = true) : flowsB T y = true := by
  unfold flowsB at *
  split at hf
  · rename_i ha
    rw [if_pos ha]
    rw [List.all_eq_true] at hf ⊢
    exact fun x hx => h x (hf x hx)
  · rename_i ha
    rw [if_neg ha]
    rw [List.any_eq_true] at hf ⊢
    obtain ⟨x, hx, hs⟩ := hf
    exact ⟨x, hx, h x hs⟩

def grow (ps : List Psg) : Nat → List Nat → List Nat
  | 0, l => l
  | k + 1, l => match ps.find? fun y => !l.contains y.to && flowsB l.contains y with
    | some y => grow ps k (y.to :: l)
    | none => l
def lfp (ps : List Psg) (N : Nat) : List Nat := grow ps (N + 1) []

def ClosedB (ps : List Psg) (S : Nat → Bool) : Prop := ∀ y ∈ ps, flowsB S y = true → S y.to = true

theorem grow_closed {ps : List Psg} {N : Nat} (hN : ∀ y ∈ ps, y.to < N) : ∀ {k : Nat} {l : List Nat}, l.Nodup → (∀ n ∈ l, n < N) → N < k + l.length → ClosedB ps (grow ps k l).contains
  | 0, l, hn, hl, hk => by
    have := nodup_le (m := List.range N) hn fun x hx => List.mem_range.2 (hl x hx)
    rw [List.length_range] at this
    omega
  | k + 1, l, hn, hl, hk => by
    unfold grow
    split
    · rename_i y hy
      have h1 := List.find?_some hy
      have h2 := List.mem_of_find?_eq_some hy
      simp only [Bool.and_eq_true, Bool.not_eq_true'] at h1
      have hne : y.to ∉ l := fun h => by have := List.contains_iff_mem.2 h; rw [h1.1] at this; cases this
      refine grow_closed hN (List.nodup_cons.2 ⟨hne, hn⟩) (fun n hm => ?_) (by simp; omega)
      rcases List.mem_cons.1 hm with rfl | hm
      · exact hN y h2
      · exact hl n hm
    · rename_i hy
      intro y hm hf
      have := List.find?_eq_none.1 hy y hm
      simp only [Bool.and_eq_true, Bool.not_eq_true', not_and] at this
      cases hc : l.contains y.to with
      | true => rfl
      | false => exact absurd hf (this hc)
theorem grow_sub {ps : List Psg} {S : Nat → Bool} (hS : ClosedB ps S) : ∀ {k : Nat} {l : List Nat}, (∀ n ∈ l, S n = true) → ∀ n ∈ grow ps k l, S n = true
  | 0, l, hl => hl
  | k + 1, l, hl => by
    unfold grow
    split
    · rename_i y hy
      have h1 := List.find?_some hy
      have h2 := List.mem_of_find?_eq_some hy
      simp only [Bool.and_eq_true, Bool.not_eq_true'] at h1
      refine grow_sub hS fun n hm => ?_
      rcases List.mem_cons.1 hm with rfl | hm
      · exact hS y h2 (flows_mono (fun n hn => hl n (List.contains_iff_mem.1 hn)) h1.2)
      · exact hl n hm
    · exact hl

theorem lfp_closed {ps : List Psg} {N : Nat} (hN : ∀ y ∈ ps, y.to < N) : ClosedB ps (lfp ps N).contains := grow_closed hN List.nodup_nil (by simp) (by simp)
theorem lfp_least {ps : List Psg} {N : Nat} {S : Nat → Bool} (hS : ClosedB ps S) : ∀ n ∈ lfp ps N, S n = true := grow_sub hS (by simp)
def psgsFrom (c : Circuit) (l : List Int) (i : Nat) : List Psg := (passAt c l i).map fun y => ⟨i, netN c i y.to, y.fr.map (netN c i), y.all⟩
def psgs (c : Circuit) (l : List Int) : List Psg := (List.range c.parts.length).flatMap (psgsFrom c l)
def supplies (c : Circuit) : List Psg := ((List.range c.parts.length).filter fun (i : Nat) => decide (kindAt c (i : Int) = 0)).map fun (i : Nat) => ⟨i, netN c i t1, [], true⟩
def prs (c : Circuit) (l : List Int) : List Nat := lfp (supplies c ++ psgs c l) (nets c).length
def opens (c : Circuit) (l : List Int) (i : Nat) : List Txt := ventsOf (kindAt c i).toNat (decide (posOf l i = 1)) ++ (kindPorts (kindAt c i).toNat).filter fun s => decide (roleOf (kindAt c i).toNat s = 2)
def vented0 (c : Circuit) (l : List Int) : List Psg := (List.range c.parts.length).flatMap fun i => ((opens c l i).map (netN c i)).map fun n => ⟨i, n, [], true⟩
def ventPs (c : Circuit) (l : List Int) : List Psg := (vented0 c l ++ (psgs c l).map fun y => (⟨y.part, y.to, y.fr, false⟩ : Psg)).filter fun y => !(prs c l).contains y.to
def vts (c : Circuit) (l : List Int) : List Nat := lfp (ventPs c l) (nets c).length
def stateOf (c : Circuit) (l : List Int) (n : Nat) : Int := if (prs c l).contains n then 2 else if (vts c l).contains n then 1 else 0
def states (c : Circuit) (l : List Int) : List Int := (List.range (nets c).length).map (stateOf c l)

end Go.Am
/- Plain laws: marks of nets, as the reference sets them. -/
namespace Go.Am
open Go Go.Proofs Go.Pn

theorem nodup_at {α : Type} {l : List α} (h : l.Nodup) {i j : Nat} {x : α} (hi : l[i]? = some x) (hj : l[j]? = some x) : i = j := by
  obtain ⟨h1, e1⟩ := List.getElem?_eq_some_iff.1 hi
  obtain ⟨h2, e2⟩ := List.getElem?_eq_some_iff.1 hj
  have hp := List.pairwise_iff_getElem.1 h
  rcases Nat.lt_trichotomy i j with h3 | h3 | h3
  · exact absurd (e1.trans e2.symm) (hp i j h1 h2 h3)
  · exact h3
  · exact absurd (e2.trans e1.symm) (hp j i h2 h1 h3)

theorem netP_of {c : Circuit} (h : checkP c = 0) {i : Nat} {g : List Port} {p : Port} (e : (nets c)[i]? = some g) (hp : p ∈ g) : netP c p = i ∧ p ∈ allP c := by
  have hroot : ∀ {k : Nat} {g : List Port}, (nets c)[k]? = some g → p ∈ g → (rootsIn (rt c) (allP c))[k]? = some (rt c p) ∧ p ∈ allP c := by
    intro k g e hp
    rw [nets_rt h, List.getElem?_map, Option.map_eq_some_iff] at e
    obtain ⟨r, hr, rfl⟩ := e
    obtain ⟨h1, h2⟩ := List.mem_filter.1 hp
    have : rt c p = r := by simpa using h2
    rw [this]
    exact ⟨hr, h1⟩
  obtain ⟨r1, ha⟩ := hroot e hp
  obtain ⟨j, g2, k1, k2, k3⟩ := netP_at h ha
  obtain ⟨r2, _⟩ := hroot k2 k3
  rw [k1, nodup_at rootsIn_nodup r2 r1]
  exact ⟨rfl, ha⟩
theorem netN_of {c : Circuit} (h : checkP c = 0) {i : Nat} {g : List Port} {j : Int} {s : Txt} (e : (nets c)[i]? = some g) (hp : (⟨j, s⟩ : Port) ∈ g) : netN c j s = i := by
  unfold netN
  rw [(netP_of h e hp).1]
  omega
theorem net_has {c : Circuit} (h : checkP c = 0) {j : Int} {s : Txt} (hp : (⟨j, s⟩ : Port) ∈ allP c) : ∃ g, (nets c)[netN c j s]? = some g ∧ (⟨j, s⟩ : Port) ∈ g := by
  obtain ⟨i, g, h1, h2, h3⟩ := netP_at h hp
  refine ⟨g, ?_, h3⟩
  unfold netN
  rw [h1, Int.toNat_natCast]
  exact h2

theorem feed_flows {c : Circuit} {m : List Bool} {p : Port} {y : Pass} (h1 : 1 ≤ y.fr.length) : feed1 c m p y = (decide (y.to = p.name) && flowsB (mkd m) ⟨p.part, netN c p.part y.to, y.fr.map (netN c p.part), y.all⟩) := by
  unfold feed1 flowsB
  congr 1
  have e1 : cntIn c m p.part y.fr = y.fr.length ↔ (y.fr.map (netN c p.part)).all (mkd m) = true := by
    unfold cntIn
    rw [List.length_filter_eq_length_iff]
    simp
  have e2 : 0 < cntIn c m p.part y.fr ↔ (y.fr.map (netN c p.part)).any (mkd m) = true := by
    unfold cntIn
    rw [List.length_pos_iff_exists_mem]
    simp
  rw [Bool.eq_iff_iff]
  simp only [Bool.or_eq_true, Bool.and_eq_true, decide_eq_true_eq, Bool.not_eq_true']
  rw [e1, e2]
  cases hall : y.all with
  | true => simp
  | false =>
    simp only [and_true, Bool.false_eq_true, if_false]
    constructor
    · rintro (h | h)
      · rw [List.all_eq_true] at h
        rw [List.any_eq_true]
        obtain ⟨s, hs⟩ := List.length_pos_iff_exists_mem.1 (show 0 < (y.fr.map (netN c p.part)).length by simp; omega)
        exact ⟨s, hs, h s hs⟩
      · exact h
    · exact .inr
theorem back_flows {c : Circuit} {m : List Bool} {p : Port} {y : Pass} : back1 c m p y = (decide (y.to = p.name) && flowsB (mkd m) ⟨p.part, netN c p.part y.to, y.fr.map (netN c p.part), false⟩) := by
  unfold back1 flowsB
  congr 1
  have e2 : 0 < cntIn c m p.part y.fr ↔ (y.fr.map (netN c p.part)).any (mkd m) = true := by
    unfold cntIn
    rw [List.length_pos_iff_exists_mem]
    simp
  rw [Bool.eq_iff_iff]
  simp only [decide_eq_true_eq, Bool.false_eq_true, if_false]
  exact e2

theorem psgs_mem {c : Circuit} {l : List Int} {y : Psg} : y ∈ psgs c l ↔ ∃ (i : Nat) (z : Pass), i < c.parts.length ∧ z ∈ passAt c l i ∧ y = ⟨i, netN c i z.to, z.fr.map (netN c i), z.all⟩ := by
  unfold psgs psgsFrom
  simp only [List.mem_flatMap, List.mem_range, List.mem_map]
  constructor
  · rintro ⟨i, hi, z, hz, rfl⟩
    exact ⟨i, z, hi, hz, rfl⟩
  · rintro ⟨i, z, hi, hz, rfl⟩
    exact ⟨i, hi, z, hz, rfl⟩
theorem supplies_mem {c : Circuit} {y : Psg} : y ∈ supplies c ↔ ∃ (i : Nat), i < c.parts.length ∧ kindAt c i = 0 ∧ y = ⟨i, netN c i t1, [], true⟩ := by
  unfold supplies
  simp only [List.mem_map, List.mem_filter, List.mem_range, decide_eq_true_eq]
  constructor
  · rintro ⟨i, ⟨hi, hk⟩, rfl⟩
    exact ⟨i, hi, hk, rfl⟩
  · rintro ⟨i, hi, hk, rfl⟩
    exact ⟨i, ⟨hi, hk⟩, rfl⟩

theorem pass_ports {c : Circuit} {l : List Int} (h : checkQ c l = 0) {i : Nat} (hi : i < c.parts.length) {z : Pass} (hz : z ∈ passAt c l i) : (⟨i, z.to⟩ : Port) ∈ allP c ∧ (∀ s ∈ z.fr, (⟨i, s⟩ : Port) ∈ allP c) ∧ 1 ≤ z.fr.length := by
  obtain ⟨q, e⟩ := get_lt hi
  obtain ⟨a, F⟩ := part_facts h e
  rw [F.pass] at hz
  obtain ⟨y1, y2, y3, _⟩ := passed_facts (by have := F.kind; omega) _ z hz
  exact ⟨F.mem _ y1, fun s hs => F.mem s (y2 s hs), y3⟩
theorem supply_port {c : Circuit} {l : List Int} (h : checkQ c l = 0) {i : Nat} (hi : i < c.parts.length) (hk : kindAt c i = 0) : (⟨i, t1⟩ : Port) ∈ allP c := by
  obtain ⟨q, e⟩ := get_lt hi
  obtain ⟨a, F⟩ := part_facts h e
  refine F.mem _ ?_
  have : q.kind = 0 := by rw [← F.kat]; exact hk
  rw [this]
  decide
def markB (c : Circuit) (l : List Int) (m : List Bool) (p : Port) : Bool := decide (kindAt c p.part = 0) || feedsB c l m p
def SoundM (c : Circuit) (l : List Int) (m : List Bool) : Prop := ∀ n, mkd m n = true → n ∈ prs c l
def FullM (c : Circuit) (l : List Int) (m : List Bool) : Prop := ∀ n ∈ prs c l, mkd m n = true
def LeM (m m' : List Bool) : Prop := ∀ n, mkd m n = true → mkd m' n = true

theorem marks_full {c : Circuit} {l : List Int} (h : checkQ c l = 0) {m : List Bool} (hr : ∀ (i : Nat) g p, (nets c)[i]? = some g → p ∈ g → markB c l m p = true → mkd m i = true) : FullM c l m := by
  have hc := (checkQ_zero h).1
  refine lfp_least fun y hy hf => ?_
  rcases List.mem_append.1 hy with hy | hy
  · obtain ⟨i, hi, hk, rfl⟩ := supplies_mem.1 hy
    obtain ⟨g, e, hp⟩ := net_has hc (supply_port h hi hk)
    exact hr _ g _ e hp (by simp [markB, hk])
  · obtain ⟨i, z, hi, hz, rfl⟩ := psgs_mem.1 hy
    obtain ⟨hp, _, hl⟩ := pass_ports h hi hz
    obtain ⟨g, e, hpg⟩ := net_has hc hp
    refine hr _ g _ e hpg ?_
    unfold markB feedsB
    rw [Bool.or_eq_true, List.any_eq_true]
    refine .inr ⟨z, hz, ?_⟩
    rw [feed_flows hl]
    simpa using hf

def cntM (m : List Bool) : Nat := (m.filter id).length
theorem cntM_lt : ∀ {m m' : List Bool}, m.length = m'.length → LeM m m' → m ≠ m' → cntM m < cntM m'
  | [], [], _, _, hne => (hne rfl).elim
  | [], _ :: _, h, _, _ => by simp at h
  | _ :: _, [], h, _, _ => by simp at h
  | a :: m, b :: m', hl, hle, hne => by
    have h0 := hle 0
    have hle2 : LeM m m' := fun n hn => by
      have := hle (n + 1)
      simp only [mkd, List.getElem?_cons_succ] at this
      exact this hn
    simp only [mkd, List.getElem?_cons_zero, Option.getD_some] at h0
    by_cases e : m = m'
    · subst e
      have hab : a ≠ b := fun e => hne (by rw [e])
      cases a <;> cases b <;> simp_all [cntM]
    · have := cntM_lt (by simpa using hl) hle2 e
      cases a <;> cases b <;> simp_all [cntM] <;> omega

end Go.Am
/- Plain laws: which nets are vented, as the reference marks them. -/
namespace Go.Am
open Go Go.Proofs Go.Pn

theorem vent_facts {k : Nat} (h : k < 14) (b : Bool) : (∀ s ∈ ventsOf k b, s ∈ kindPorts k) ∧ (∀ s ∈ kindPorts k, s ≠ [] ∧ playsN k s = roleOf k s) := by
  have t1 := (by decide +kernel : ∀ k, k < 14 → (∀ s ∈ ventsOf k true, s ∈ kindPorts k)) k h
  have t2 := (by decide +kernel : ∀ k, k < 14 → (∀ s ∈ ventsOf k false, s ∈ kindPorts k)) k h
  have t3 := (by decide +kernel : ∀ k, k < 14 → ∀ s ∈ kindPorts k, s ≠ [] ∧ playsN k s = roleOf k s) k h
  cases b
  · exact ⟨t2, t3⟩
  · exact ⟨t1, t3⟩

theorem opens_eq {c : Circuit} {l : List Int} {i : Nat} {q : Part} {a : Int} (F : PortFacts c l i q a) : opens c l i = ventsOf q.kind.toNat (decide (a = 1)) ++ (kindPorts q.kind.toNat).filter fun s => decide (roleOf q.kind.toNat s = 2) := by
  have hpo : posOf l (i : Int) = a := by rw [posOf, Int.toNat_natCast, F.pos]; rfl
  rw [opens, F.kat, hpo]
theorem opens_ports {c : Circuit} {l : List Int} (h : checkQ c l = 0) {i : Nat} (hi : i < c.parts.length) : ∀ s ∈ opens c l i, (⟨i, s⟩ : Port) ∈ allP c := by
  obtain ⟨q, e⟩ := get_lt hi
  obtain ⟨a, F⟩ := part_facts h e
  have hk : q.kind.toNat < 14 := by have := F.kind; omega
  intro s hs
  rw [opens_eq F, List.mem_append] at hs
  refine F.mem s ?_
  rcases hs with hs | hs
  · exact (vent_facts hk _).1 s hs
  · exact (List.mem_filter.1 hs).1
theorem open_iff {c : Circuit} {l : List Int} (h : checkQ c l = 0) {i : Nat} {s : Txt} (hp : (⟨i, s⟩ : Port) ∈ allP c) : openB c l ⟨i, s⟩ = true ↔ s ∈ opens c l i := by
  obtain ⟨j, q, a, hj, hnm, F⟩ := port_facts h hp
  have hij : i = j := by simp at hj; omega
  subst hij
  simp only at hnm
  have hk : q.kind.toNat < 14 := by have := F.kind; omega
  obtain ⟨v1, v2⟩ := vent_facts hk (decide (a = 1))
  obtain ⟨n1, n2⟩ := v2 s hnm
  rw [opens_eq F, List.mem_append, List.mem_filter]
  unfold openB
  rw [Bool.or_eq_true, decide_eq_true_eq, decide_eq_true_eq]
  simp only
  rw [F.vent, F.kat, n2]
  constructor
  · rintro (hv | hv)
    · left
      unfold ventsOf
      rw [if_neg (by rw [hv]; exact n1), hv]
      simp
    · exact .inr ⟨hnm, by simpa using hv⟩
  · rintro (hv | hv)
    · left
      unfold ventsOf at hv
      split at hv
      · cases hv
      · simp at hv; exact hv.symm
    · exact .inr (by simpa using hv.2)

theorem vented0_mem {c : Circuit} {l : List Int} {y : Psg} : y ∈ vented0 c l ↔ ∃ (i : Nat) (s : Txt), i < c.parts.length ∧ s ∈ opens c l i ∧ y = ⟨i, netN c i s, [], true⟩ := by
  unfold vented0
  simp only [List.mem_flatMap, List.mem_range, List.mem_map]
  constructor
  · rintro ⟨i, hi, n, ⟨s, hs, rfl⟩, rfl⟩
    exact ⟨i, s, hi, hs, rfl⟩
  · rintro ⟨i, s, hi, hs, rfl⟩
    exact ⟨i, hi, _, ⟨s, hs, rfl⟩, rfl⟩
theorem ventPs_mem {c : Circuit} {l : List Int} {y : Psg} : y ∈ ventPs c l ↔ ((∃ (i : Nat) (s : Txt), i < c.parts.length ∧ s ∈ opens c l i ∧ y = ⟨i, netN c i s, [], true⟩) ∨
    ∃ (i : Nat) (z : Pass), i < c.parts.length ∧ z ∈ passAt c l i ∧ y = ⟨i, netN c i z.to, z.fr.map (netN c i), false⟩) ∧ y.to ∉ prs c l := by
  unfold ventPs
  rw [List.mem_filter, List.mem_append, vented0_mem, List.mem_map]
  have : (!(prs c l).contains y.to) = true ↔ y.to ∉ prs c l := by
    rw [Bool.not_eq_true', ← Bool.not_eq_true, List.contains_iff_mem]
  rw [this]
  constructor
  · rintro ⟨h | ⟨z, hz, rfl⟩, hn⟩
    · exact ⟨.inl h, hn⟩
    · obtain ⟨i, w, hi, hw, rfl⟩ := psgs_mem.1 hz
      exact ⟨.inr ⟨i, w, hi, hw, rfl⟩, hn⟩
  · rintro ⟨h | ⟨i, z, hi, hz, rfl⟩, hn⟩
    · exact ⟨.inl h, hn⟩
    · exact ⟨.inr ⟨_, psgs_mem.2 ⟨i, z, hi, hz, rfl⟩, rfl⟩, hn⟩
theorem ventPs_to {c : Circuit} {l : List Int} (h : checkQ c l = 0) : ∀ y ∈ ventPs c l, y.to < (nets c).length := by
  have hc := (checkQ_zero h).1
  intro y hy
  rcases (ventPs_mem.1 hy).1 with ⟨i, s, hi, hs, rfl⟩ | ⟨i, z, hi, hz, rfl⟩
  · exact (netN_at hc (opens_ports h hi s hs)).2
  · exact (netN_at hc (pass_ports h hi hz).1).2
theorem vts_closed {c : Circuit} {l : List Int} (h : checkQ c l = 0) : ClosedB (ventPs c l) (vts c l).contains := lfp_closed (ventPs_to h)
def ventB (c : Circuit) (l : List Int) (m : List Bool) (p : Port) : Bool := openB c l p || backB c l m p
def SoundV (c : Circuit) (l : List Int) (m : List Bool) : Prop := ∀ n, mkd m n = true → n ∈ vts c l
def FullV (c : Circuit) (l : List Int) (m : List Bool) : Prop := ∀ n ∈ vts c l, mkd m n = true

theorem vents_full {c : Circuit} {l : List Int} (h : checkQ c l = 0) {m : List Bool} (hr : ∀ (i : Nat) g p, (nets c)[i]? = some g → p ∈ g → i ∉ prs c l → ventB c l m p = true → mkd m i = true) : FullV c l m := by
  have hc := (checkQ_zero h).1
  refine lfp_least fun y hy hf => ?_
  obtain ⟨hy, hn⟩ := ventPs_mem.1 hy
  rcases hy with ⟨i, s, hi, hs, rfl⟩ | ⟨i, z, hi, hz, rfl⟩
  · have hp := opens_ports h hi s hs
    obtain ⟨g, e, hpg⟩ := net_has hc hp
    exact hr _ g _ e hpg hn (by unfold ventB; rw [(open_iff h hp).2 hs]; rfl)
  · obtain ⟨hp, _, _⟩ := pass_ports h hi hz
    obtain ⟨g, e, hpg⟩ := net_has hc hp
    refine hr _ g _ e hpg hn ?_
    unfold ventB backB
    rw [Bool.or_eq_true, List.any_eq_true]
    refine .inr ⟨z, hz, ?_⟩
    rw [back_flows]
    simpa using hf

end Go.Am
/- Contracts: chapter 24, the reference: Under. -/
namespace Go.Am
open Go Go.Proofs Go.Pn

@[simp] theorem unpR_Bool {l : List Bool} : unpR (l.map Bool.row) = some (l.map Bool.enc) := unpR_map (f := Bool.row) (g := Bool.enc) (fun _ => rfl) l
@[simp] theorem unpR_Int {l : List Int} : unpR (l.map Int.row) = some (l.map Int.enc) := unpR_map (f := Int.row) (g := Int.enc) (fun _ => rfl) l
theorem mk_set {m : List Bool} {i n : Nat} (hi : i < m.length) : mkd (m.set i true) n = (decide (n = i) || mkd m n) := by
  unfold mkd
  by_cases h : n = i
  · subst h; simp [hi]
  · simp [List.getElem?_set_ne (Ne.symm h), h]
theorem LeM.refl {m : List Bool} : LeM m m := fun _ h => h
theorem LeM.trans {a b d : List Bool} (h : LeM a b) (k : LeM b d) : LeM a d := fun n hn => k n (h n hn)
structure RoundM (c : Circuit) (l : List Int) (m0 m : List Bool) (i : Nat) : Prop where
  len : m.length = (nets c).length
  sound : SoundM c l m
  le : LeM m0 m
  done : ∀ (j : Nat) g p, j < i → (nets c)[j]? = some g → p ∈ g → markB c l m0 p = true → mkd m j = true
theorem RoundM.next {c : Circuit} {l : List Int} {m0 m : List Bool} {i : Nat} (h : RoundM c l m0 m i) (hi : ∀ g p, (nets c)[i]? = some g → p ∈ g → markB c l m0 p = true → mkd m i = true) : RoundM c l m0 m (i + 1) :=
  ⟨h.len, h.sound, h.le, fun j g p hj e hp hb => by
    by_cases hji : j = i
    · subst hji; exact hi g p e hp hb
    · exact h.done j g p (by omega) e hp hb⟩
theorem RoundM.mark {c : Circuit} {l : List Int} {m0 m : List Bool} {i : Nat} (hi : i < (nets c).length) (h : RoundM c l m0 m i) (hs : i ∈ prs c l) : RoundM c l m0 (m.set i true) i := by
  have hl : i < m.length := by rw [h.len]; exact hi
  refine ⟨by rw [List.length_set]; exact h.len, fun n hn => ?_, fun n hn => ?_, fun j g p hj e hp hb => ?_⟩
  · rw [mk_set hl] at hn
    simp at hn
    rcases hn with rfl | hn
    · exact hs
    · exact h.sound n hn
  · rw [mk_set hl, h.le n hn]; simp
  · rw [mk_set hl, h.done j g p hj e hp hb]; simp
theorem RoundM.end {c : Circuit} {l : List Int} (hq : checkQ c l = 0) {m0 m : List Bool} {n i : Nat} (h : RoundM c l m0 m i) (hi : (nets c).length ≤ i) (hl : m0.length = (nets c).length) (hm : FullM c l m0 ∨ n ≤ cntM m0) : FullM c l m ∨ n + 1 ≤ cntM m := by
  by_cases e : m0 = m
  · subst e
    left
    refine marks_full hq fun j g p ej hp hb => h.done j g p ?_ ej hp hb
    have := (List.getElem?_eq_some_iff.1 ej).1
    omega
  · rcases hm with hm | hm
    · exact .inl fun n hn => h.le n (hm n hn)
    · have := cntM_lt (by rw [hl, h.len]) h.le e
      exact .inr (by omega)


end Go.Am
/- Contracts: chapter 24, the reference: States. -/
namespace Go.Am
open Go Go.Proofs Go.Pn

def OffP (c : Circuit) (l : List Int) (i : Nat) : Prop := i ∉ prs c l

structure RoundV (c : Circuit) (l : List Int) (m0 m : List Bool) (i : Nat) : Prop where
  len : m.length = (nets c).length
  sound : SoundV c l m
  le : LeM m0 m
  done : ∀ (j : Nat) g p, j < i → (nets c)[j]? = some g → p ∈ g → OffP c l j → ventB c l m0 p = true → mkd m j = true
theorem RoundV.next {c : Circuit} {l : List Int} {m0 m : List Bool} {i : Nat} (h : RoundV c l m0 m i) (hi : ∀ g p, (nets c)[i]? = some g → p ∈ g → OffP c l i → ventB c l m0 p = true → mkd m i = true) : RoundV c l m0 m (i + 1) :=
  ⟨h.len, h.sound, h.le, fun j g p hj e hp hu hb => by
    by_cases hji : j = i
    · subst hji; exact hi g p e hp hu hb
    · exact h.done j g p (by omega) e hp hu hb⟩
theorem RoundV.mark {c : Circuit} {l : List Int} {m0 m : List Bool} {i : Nat} (hi : i < (nets c).length) (h : RoundV c l m0 m i) (hs : i ∈ vts c l) : RoundV c l m0 (m.set i true) i := by
  have hl : i < m.length := by rw [h.len]; exact hi
  refine ⟨by rw [List.length_set]; exact h.len, fun n hn => ?_, fun n hn => ?_, fun j g p hj e hp hu hb => ?_⟩
  · rw [mk_set hl] at hn
    simp at hn
    rcases hn with rfl | hn
    · exact hs
    · exact h.sound n hn
  · rw [mk_set hl, h.le n hn]; simp
  · rw [mk_set hl, h.done j g p hj e hp hu hb]; simp
theorem RoundV.end {c : Circuit} {l : List Int} (hq : checkQ c l = 0) {m0 m : List Bool} {n i : Nat} (h : RoundV c l m0 m i) (hi : (nets c).length ≤ i) (hl : m0.length = (nets c).length) (hm : FullV c l m0 ∨ n ≤ cntM m0) : FullV c l m ∨ n + 1 ≤ cntM m := by
  by_cases e : m0 = m
  · subst e
    left
    refine vents_full hq fun j g p ej hp hu hb => h.done j g p ?_ ej hp hu hb
    have := (List.getElem?_eq_some_iff.1 ej).1
    omega
  · rcases hm with hm | hm
    · exact .inl fun n hn => h.le n (hm n hn)
    · have := cntM_lt (by rw [hl, h.len]) h.le e
      exact .inr (by omega)


end Go.Am
/- Contracts: chapter 24, the reference: Nets, At, Push, Once, Step. -/
namespace Go.Am
open Go Go.Proofs Go.Pn

end Go.Am
