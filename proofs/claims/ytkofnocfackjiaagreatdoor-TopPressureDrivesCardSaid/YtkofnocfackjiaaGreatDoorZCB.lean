/- Lemmas and contracts for the proof of a statement of this seat. -/
import Derived.Test.YtkofnocfackjiaaGreatDoorZCA
set_option linter.unusedVariables false
set_option linter.unusedSimpArgs false
/- Plain laws: which nets are under pressure: the least list that is closed under passages. -/
namespace Go.Am
open Go Go.Proofs Go.Pn

structure Psg where
  part : Int
  to : Nat
  fr : List Nat
  all : Bool
  deriving DecidableEq

def flowsB (S : Nat → Bool) (y : Psg) : Bool := if y.all then y.fr.all S else y.fr.any S
theorem flows_mono {S T : Nat → Bool} (h : ∀ n, S n = true → T n = true) {y : Psg} (hf : flowsB S y = true) : flowsB T y = true := by
  unfold flowsB at *
  split at hf
  · rename_i ha
    rw [if_pos ha]
    rw [List.all_eq_true] at hf ⊢
    exact fun x hx => h x (hf x hx)
  · rename_i ha
    rw [if_neg ha]
    rw [List.any_eq_true] at hf ⊢
    obtain ⟨x, hx, hs⟩ := hf
    exact ⟨x, hx, h x hs⟩

def grow (ps : List Psg) : Nat → List Nat → List Nat
  | 0, l => l
  | k + 1, l => match ps.find? fun y => !l.contains y.to && flowsB l.contains y with
    | some y => grow ps k (y.to :: l)
    | none => l
def lfp (ps : List Psg) (N : Nat) : List Nat := grow ps (N + 1) []

def ClosedB (ps : List Psg) (S : Nat → Bool) : Prop := ∀ y ∈ ps, flowsB S y = true → S y.to = true

theorem grow_closed {ps : List Psg} {N : Nat} (hN : ∀ y ∈ ps, y.to < N) : ∀ {k : Nat} {l : List Nat}, l.Nodup → (∀ n ∈ l, n < N) → N < k + l.length → ClosedB ps (grow ps k l).contains
  | 0, l, hn, hl, hk => by
    have := nodup_le (m := List.range N) hn fun x hx => List.mem_range.2 (hl x hx)
    rw [List.length_range] at this
    omega
  | k + 1, l, hn, hl, hk => by
    unfold grow
    split
    · rename_i y hy
      have h1 := List.find?_some hy
      have h2 := List.mem_of_find?_eq_some hy
      simp only [Bool.and_eq_true, Bool.not_eq_true'] at h1
      have hne : y.to ∉ l := fun h => by have := List.contains_iff_mem.2 h; rw [h1.1] at this; cases this
      refine grow_closed hN (List.nodup_cons.2 ⟨hne, hn⟩) (fun n hm => ?_) (by simp; omega)
      rcases List.mem_cons.1 hm with rfl | hm
      · exact hN y h2
      · exact hl n hm
    · rename_i hy
      intro y hm hf
      have := List.find?_eq_none.1 hy y hm
      simp only [Bool.and_eq_true, Bool.not_eq_true', not_and] at this
      cases hc : l.contains y.to with
      | true => rfl
      | false => exact absurd hf (this hc)
theorem grow_sub {ps : List Psg} {S : Nat → Bool} (hS : ClosedB ps S) : ∀ {k : Nat} {l : List Nat}, (∀ n ∈ l, S n = true) → ∀ n ∈ grow ps k l, S n = true
  | 0, l, hl => hl
  | k + 1, l, hl => by
    unfold grow
    split
    · rename_i y hy
      have h1 := List.find?_some hy
      have h2 := List.mem_of_find?_eq_some hy
      simp only [Bool.and_eq_true, Bool.not_eq_true'] at h1
      refine grow_sub hS fun n hm => ?_
      rcases List.mem_cons.1 hm with rfl | hm
      · exact hS y h2 (flows_mono (fun n hn => hl n (List.contains_iff_mem.1 hn)) h1.2)
      · exact hl n hm
    · exact hl

theorem lfp_closed {ps : List Psg} {N : Nat} (hN : ∀ y ∈ ps, y.to < N) : ClosedB ps (lfp ps N).contains := grow_closed hN List.nodup_nil (by simp) (by simp)
theorem lfp_least {ps : List Psg} {N : Nat} {S : Nat → Bool} (hS : ClosedB ps S) : ∀ n ∈ lfp ps N, S n = true := grow_sub hS (by simp)
theorem lfp_eq {ps : List Psg} {N : Nat} (hN : ∀ y ∈ ps, y.to < N) {S : Nat → Bool} (hS : ClosedB ps S) (hm : ∀ n, S n = true → n ∈ lfp ps N) (n : Nat) : S n = (lfp ps N).contains n := by
  rw [Bool.eq_iff_iff, List.contains_iff_mem]
  exact ⟨hm n, lfp_least hS n⟩

def psgsFrom (c : Circuit) (l : List Int) (i : Nat) : List Psg := (passAt c l i).map fun y => ⟨i, netN c i y.to, y.fr.map (netN c i), y.all⟩
def psgs (c : Circuit) (l : List Int) : List Psg := (List.range c.parts.length).flatMap (psgsFrom c l)
def supplies (c : Circuit) : List Psg := ((List.range c.parts.length).filter fun (i : Nat) => decide (kindAt c (i : Int) = 0)).map fun (i : Nat) => ⟨i, netN c i t1, [], true⟩
def prs (c : Circuit) (l : List Int) : List Nat := lfp (supplies c ++ psgs c l) (nets c).length
def opens (c : Circuit) (l : List Int) (i : Nat) : List Txt := ventsOf (kindAt c i).toNat (decide (posOf l i = 1)) ++ (kindPorts (kindAt c i).toNat).filter fun s => decide (roleOf (kindAt c i).toNat s = 2)
def vented0 (c : Circuit) (l : List Int) : List Psg := (List.range c.parts.length).flatMap fun i => ((opens c l i).map (netN c i)).map fun n => ⟨i, n, [], true⟩
def ventPs (c : Circuit) (l : List Int) : List Psg := (vented0 c l ++ (psgs c l).map fun y => (⟨y.part, y.to, y.fr, false⟩ : Psg)).filter fun y => !(prs c l).contains y.to
def vts (c : Circuit) (l : List Int) : List Nat := lfp (ventPs c l) (nets c).length
def stateOf (c : Circuit) (l : List Int) (n : Nat) : Int := if (prs c l).contains n then 2 else if (vts c l).contains n then 1 else 0
def states (c : Circuit) (l : List Int) : List Int := (List.range (nets c).length).map (stateOf c l)

end Go.Am
/- Plain laws: marks of nets, as the reference sets them. -/
namespace Go.Am
open Go Go.Proofs Go.Pn

theorem nodup_at {α : Type} {l : List α} (h : l.Nodup) {i j : Nat} {x : α} (hi : l[i]? = some x) (hj : l[j]? = some x) : i = j := by
  obtain ⟨h1, e1⟩ := List.getElem?_eq_some_iff.1 hi
  obtain ⟨h2, e2⟩ := List.getElem?_eq_some_iff.1 hj
  have hp := List.pairwise_iff_getElem.1 h
  rcases Nat.lt_trichotomy i j with h3 | h3 | h3
  · exact absurd (e1.trans e2.symm) (hp i j h1 h2 h3)
  · exact h3
  · exact absurd (e2.trans e1.symm) (hp j i h2 h1 h3)

theorem netP_of {c : Circuit} (h : checkP c = 0) {i : Nat} {g : List Port} {p : Port} (e : (nets c)[i]? = some g) (hp : p ∈ g) : netP c p = i ∧ p ∈ allP c := by
  have hroot : ∀ {k : Nat} {g : List Port}, (nets c)[k]? = some g → p ∈ g → (rootsIn (rt c) (allP c))[k]? = some (rt c p) ∧ p ∈ allP c := by
    intro k g e hp
    rw [nets_rt h, List.getElem?_map, Option.map_eq_some_iff] at e
    obtain ⟨r, hr, rfl⟩ := e
    obtain ⟨h1, h2⟩ := List.mem_filter.1 hp
    have : rt c p = r := by simpa using h2
    rw [this]
    exact ⟨hr, h1⟩
  obtain ⟨r1, ha⟩ := hroot e hp
  obtain ⟨j, g2, k1, k2, k3⟩ := netP_at h ha
  obtain ⟨r2, _⟩ := hroot k2 k3
  rw [k1, nodup_at rootsIn_nodup r2 r1]
  exact ⟨rfl, ha⟩
theorem netN_of {c : Circuit} (h : checkP c = 0) {i : Nat} {g : List Port} {j : Int} {s : Txt} (e : (nets c)[i]? = some g) (hp : (⟨j, s⟩ : Port) ∈ g) : netN c j s = i := by
  unfold netN
  rw [(netP_of h e hp).1]
  omega
theorem net_has {c : Circuit} (h : checkP c = 0) {j : Int} {s : Txt} (hp : (⟨j, s⟩ : Port) ∈ allP c) : ∃ g, (nets c)[netN c j s]? = some g ∧ (⟨j, s⟩ : Port) ∈ g := by
  obtain ⟨i, g, h1, h2, h3⟩ := netP_at h hp
  refine ⟨g, ?_, h3⟩
  unfold netN
  rw [h1, Int.toNat_natCast]
  exact h2

theorem psgs_mem {c : Circuit} {l : List Int} {y : Psg} : y ∈ psgs c l ↔ ∃ (i : Nat) (z : Pass), i < c.parts.length ∧ z ∈ passAt c l i ∧ y = ⟨i, netN c i z.to, z.fr.map (netN c i), z.all⟩ := by
  unfold psgs psgsFrom
  simp only [List.mem_flatMap, List.mem_range, List.mem_map]
  constructor
  · rintro ⟨i, hi, z, hz, rfl⟩
    exact ⟨i, z, hi, hz, rfl⟩
  · rintro ⟨i, z, hi, hz, rfl⟩
    exact ⟨i, hi, z, hz, rfl⟩
theorem supplies_mem {c : Circuit} {y : Psg} : y ∈ supplies c ↔ ∃ (i : Nat), i < c.parts.length ∧ kindAt c i = 0 ∧ y = ⟨i, netN c i t1, [], true⟩ := by
  unfold supplies
  simp only [List.mem_map, List.mem_filter, List.mem_range, decide_eq_true_eq]
  constructor
  · rintro ⟨i, ⟨hi, hk⟩, rfl⟩
    exact ⟨i, hi, hk, rfl⟩
  · rintro ⟨i, hi, hk, rfl⟩
    exact ⟨i, ⟨hi, hk⟩, rfl⟩

theorem pass_ports {c : Circuit} {l : List Int} (h : checkQ c l = 0) {i : Nat} (hi : i < c.parts.length) {z : Pass} (hz : z ∈ passAt c l i) : (⟨i, z.to⟩ : Port) ∈ allP c ∧ (∀ s ∈ z.fr, (⟨i, s⟩ : Port) ∈ allP c) ∧ 1 ≤ z.fr.length := by
  obtain ⟨q, e⟩ := get_lt hi
  obtain ⟨a, F⟩ := part_facts h e
  rw [F.pass] at hz
  obtain ⟨y1, y2, y3, _⟩ := passed_facts (by have := F.kind; omega) _ z hz
  exact ⟨F.mem _ y1, fun s hs => F.mem s (y2 s hs), y3⟩
theorem supply_port {c : Circuit} {l : List Int} (h : checkQ c l = 0) {i : Nat} (hi : i < c.parts.length) (hk : kindAt c i = 0) : (⟨i, t1⟩ : Port) ∈ allP c := by
  obtain ⟨q, e⟩ := get_lt hi
  obtain ⟨a, F⟩ := part_facts h e
  refine F.mem _ ?_
  have : q.kind = 0 := by rw [← F.kat]; exact hk
  rw [this]
  decide
theorem prs_to {c : Circuit} {l : List Int} (h : checkQ c l = 0) : ∀ y ∈ supplies c ++ psgs c l, y.to < (nets c).length := by
  have hc := (checkQ_zero h).1
  intro y hy
  rcases List.mem_append.1 hy with hy | hy
  · obtain ⟨i, hi, hk, rfl⟩ := supplies_mem.1 hy
    exact (netN_at hc (supply_port h hi hk)).2
  · obtain ⟨i, z, hi, hz, rfl⟩ := psgs_mem.1 hy
    exact (netN_at hc (pass_ports h hi hz).1).2
theorem prs_closed {c : Circuit} {l : List Int} (h : checkQ c l = 0) : ClosedB (supplies c ++ psgs c l) (prs c l).contains := lfp_closed (prs_to h)
theorem prs_lt {c : Circuit} {l : List Int} (h : checkQ c l = 0) : ∀ n ∈ prs c l, n < (nets c).length := by
  have := lfp_least (ps := supplies c ++ psgs c l) (N := (nets c).length) (S := fun n => decide (n < (nets c).length)) (fun y hy _ => by simpa using prs_to h y hy)
  intro n hn
  simpa using this n hn

end Go.Am
/- Plain laws: which nets are vented, as the reference marks them. -/
namespace Go.Am
open Go Go.Proofs Go.Pn

theorem vent_facts {k : Nat} (h : k < 14) (b : Bool) : (∀ s ∈ ventsOf k b, s ∈ kindPorts k) ∧ (∀ s ∈ kindPorts k, s ≠ [] ∧ playsN k s = roleOf k s) := by
  have t1 := (by decide +kernel : ∀ k, k < 14 → (∀ s ∈ ventsOf k true, s ∈ kindPorts k)) k h
  have t2 := (by decide +kernel : ∀ k, k < 14 → (∀ s ∈ ventsOf k false, s ∈ kindPorts k)) k h
  have t3 := (by decide +kernel : ∀ k, k < 14 → ∀ s ∈ kindPorts k, s ≠ [] ∧ playsN k s = roleOf k s) k h
  cases b
  · exact ⟨t2, t3⟩
  · exact ⟨t1, t3⟩

theorem opens_eq {c : Circuit} {l : List Int} {i : Nat} {q : Part} {a : Int} (F : PortFacts c l i q a) : opens c l i = ventsOf q.kind.toNat (decide (a = 1)) ++ (kindPorts q.kind.toNat).filter fun s => decide (roleOf q.kind.toNat s = 2) := by
  have hpo : posOf l (i : Int) = a := by rw [posOf, Int.toNat_natCast, F.pos]; rfl
  rw [opens, F.kat, hpo]
theorem opens_ports {c : Circuit} {l : List Int} (h : checkQ c l = 0) {i : Nat} (hi : i < c.parts.length) : ∀ s ∈ opens c l i, (⟨i, s⟩ : Port) ∈ allP c := by
  obtain ⟨q, e⟩ := get_lt hi
  obtain ⟨a, F⟩ := part_facts h e
  have hk : q.kind.toNat < 14 := by have := F.kind; omega
  intro s hs
  rw [opens_eq F, List.mem_append] at hs
  refine F.mem s ?_
  rcases hs with hs | hs
  · exact (vent_facts hk _).1 s hs
  · exact (List.mem_filter.1 hs).1
theorem vented0_mem {c : Circuit} {l : List Int} {y : Psg} : y ∈ vented0 c l ↔ ∃ (i : Nat) (s : Txt), i < c.parts.length ∧ s ∈ opens c l i ∧ y = ⟨i, netN c i s, [], true⟩ := by
  unfold vented0
  simp only [List.mem_flatMap, List.mem_range, List.mem_map]
  constructor
  · rintro ⟨i, hi, n, ⟨s, hs, rfl⟩, rfl⟩
    exact ⟨i, s, hi, hs, rfl⟩
  · rintro ⟨i, s, hi, hs, rfl⟩
    exact ⟨i, hi, _, ⟨s, hs, rfl⟩, rfl⟩
theorem ventPs_mem {c : Circuit} {l : List Int} {y : Psg} : y ∈ ventPs c l ↔ ((∃ (i : Nat) (s : Txt), i < c.parts.length ∧ s ∈ opens c l i ∧ y = ⟨i, netN c i s, [], true⟩) ∨
    ∃ (i : Nat) (z : Pass), i < c.parts.length ∧ z ∈ passAt c l i ∧ y = ⟨i, netN c i z.to, z.fr.map (netN c i), false⟩) ∧ y.to ∉ prs c l := by
  unfold ventPs
  rw [List.mem_filter, List.mem_append, vented0_mem, List.mem_map]
  have : (!(prs c l).contains y.to) = true ↔ y.to ∉ prs c l := by
    rw [Bool.not_eq_true', ← Bool.not_eq_true, List.contains_iff_mem]
  rw [this]
  constructor
  · rintro ⟨h | ⟨z, hz, rfl⟩, hn⟩
    · exact ⟨.inl h, hn⟩
    · obtain ⟨i, w, hi, hw, rfl⟩ := psgs_mem.1 hz
      exact ⟨.inr ⟨i, w, hi, hw, rfl⟩, hn⟩
  · rintro ⟨h | ⟨i, z, hi, hz, rfl⟩, hn⟩
    · exact ⟨.inl h, hn⟩
    · exact ⟨.inr ⟨_, psgs_mem.2 ⟨i, z, hi, hz, rfl⟩, rfl⟩, hn⟩
theorem ventPs_to {c : Circuit} {l : List Int} (h : checkQ c l = 0) : ∀ y ∈ ventPs c l, y.to < (nets c).length := by
  have hc := (checkQ_zero h).1
  intro y hy
  rcases (ventPs_mem.1 hy).1 with ⟨i, s, hi, hs, rfl⟩ | ⟨i, z, hi, hz, rfl⟩
  · exact (netN_at hc (opens_ports h hi s hs)).2
  · exact (netN_at hc (pass_ports h hi hz).1).2
theorem vts_closed {c : Circuit} {l : List Int} (h : checkQ c l = 0) : ClosedB (ventPs c l) (vts c l).contains := lfp_closed (ventPs_to h)
def underL (c : Circuit) (l : List Int) : List Bool := (List.range (nets c).length).map fun n => (prs c l).contains n
theorem under_len {c : Circuit} {l : List Int} : (underL c l).length = (nets c).length := by simp [underL]
theorem under_mk {c : Circuit} {l : List Int} {n : Nat} (hn : n < (nets c).length) : (underL c l)[n]? = some ((prs c l).contains n) := by simp [underL, hn]
end Go.Am
/- Contracts: chapter 24, the reference: Under. -/
namespace Go.Am
open Go Go.Proofs Go.Pn

@[simp] theorem unpR_Int {l : List Int} : unpR (l.map Int.row) = some (l.map Int.enc) := unpR_map (f := Int.row) (g := Int.enc) (fun _ => rfl) l
end Go.Am
/- Contracts: chapter 24, the reference: States. -/
namespace Go.Am
open Go Go.Proofs Go.Pn

theorem states_at {c : Circuit} {l : List Int} {n : Nat} (hn : n < (nets c).length) : (states c l)[n]? = some (stateOf c l n) := by simp [states, hn]

end Go.Am
/- Contracts: chapter 24, the reference: Nets, At, Push, Once, Step. -/
namespace Go.Am
open Go Go.Proofs Go.Pn

def atErr (c : Circuit) (l : List Int) (p : Port) : Int := if checkQ c l ≠ 0 then checkQ c l else givenErr c p
def atVal (c : Circuit) (l : List Int) (p : Port) : Int := if atErr c l p ≠ 0 then 0 else stateOf c l (netN c p.part p.name)
theorem given_net {c : Circuit} (hc : checkP c = 0) {p : Port} (hg : givenErr c p = 0) : netP c p = netN c p.part p.name ∧ netN c p.part p.name < (nets c).length := by
  obtain ⟨a, s⟩ := p
  exact netN_at hc (allP_mem.2 hg)

def pushErr (c : Circuit) (l : List Int) (s : Txt) : Int := if checkQ c l ≠ 0 then checkQ c l else if partI c s < 0 then 6 else if kindAt c (partI c s) ≠ 1 then 1 else 0
def pushAt (o b : Bool) : Int := if o && !b then 1 else if b && !o then -1 else 0
def pushVal (c : Circuit) (l : List Int) (s : Txt) : Int := if pushErr c l s ≠ 0 then 0 else pushAt (actsB c (underL c l) (partI c s) t4) (actsB c (underL c l) (partI c s) t2)

end Go.Am
