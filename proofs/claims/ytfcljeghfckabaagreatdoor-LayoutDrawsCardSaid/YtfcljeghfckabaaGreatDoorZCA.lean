/- Lemmas and contracts for the proof of a statement of this seat. -/
import Derived.Test.YtfcljeghfckabaaGreatDoorZC7
import Derived.Test.YtfcljeghfckabaaGreatDoorZCP
import Derived.Test.YtfcljeghfckabaaGreatDoorZS2
set_option linter.unusedVariables false
set_option linter.unusedSimpArgs false
/- Contracts: chapter 20, positions: the reference. -/
namespace Go.Am
open Go Go.Proofs Go.Pn

@[simp] def _root_.Go.Pn.Pass.enc (p : Pass) : List PV := [.str p.to, .lst 1 (p.fr.map Txt.enc), .bool p.all]

theorem netP_at3 {c : Circuit} (h : checkP c = 0) {p : Port} (hp : p ∈ allP c) : givenErr c p = 0 ∧ ∃ (i : Nat) (g : List Port), netP c p = i ∧ i < (nets c).length ∧ (nets c)[i]? = some g ∧ p ∈ g ∧ g.length < 100000 := by
  refine ⟨allP_mem.1 hp, ?_⟩
  obtain ⟨i, g, h1, h2, h3⟩ := netP_at h hp
  exact ⟨i, g, h1, (List.getElem?_eq_some_iff.1 h2).1, h2, h3, by have := (netsL h).2 g (List.mem_of_getElem? h2); omega⟩

end Go.Am
/- Contracts: package part: positions, passes, vents, pilots, next, role. -/
namespace Go.Am
open Go Go.Proofs Go.Pn

def Passes.av (l : List Pass) : AV := .p (.lst 3 (l.map Pass.enc))

end Go.Am
/- Contracts: package part: placed, Passes, Vents, Positions, Pilots, Next, Role. -/
namespace Go.Am
open Go Go.Proofs Go.Pn


theorem catRow_facts {k : Nat} (h : k < 14) : (catRow k)[9]? = some (.p (.int .i64 (manyOf k))) ∧ (catRow k)[7]? = some (.p (.str (pilotsOf k).1)) ∧ (catRow k)[8]? = some (.p (.str (pilotsOf k).2)) ∧
    ((catRow k).drop 2).take 5 = (roles k).map (fun l => .p (.lst 1 (l.map Txt.enc))) ∧ (roles k).length = 5 := by
  rcases (by omega : k = 0 ∨ k = 1 ∨ k = 2 ∨ k = 3 ∨ k = 4 ∨ k = 5 ∨ k = 6 ∨ k = 7 ∨ k = 8 ∨ k = 9 ∨ k = 10 ∨ k = 11 ∨ k = 12 ∨ k = 13) with rfl|rfl|rfl|rfl|rfl|rfl|rfl|rfl|rfl|rfl|rfl|rfl|rfl|rfl <;> exact ⟨rfl, rfl, rfl, rfl, rfl⟩
end Go.Am
/- Contracts: package part: Passes, Vents, Next, Role. -/
namespace Go.Am
open Go Go.Proofs Go.Pn


def passedAt (k pos : Int) : List Pass := if placedErr k pos = 0 then passedOf k.toNat (decide (pos = 1)) else []
def ventsAt (k pos : Int) : List Txt := if placedErr k pos = 0 then ventsOf k.toNat (decide (pos = 1)) else []
theorem pureL_map {α : Type} {f : α → AV} (h : ∀ x, pureA (f x) = true) : ∀ {l : List α}, pureL (l.map f) = true
  | [] => rfl
  | x :: l => by simp [pureL, h x, pureL_map h (l := l)]

def roleOf (k : Nat) (s : Txt) : Int := idxI (roles k) fun l => decide (s ∈ l)

theorem c_part_Role (k : Int) (s : Txt) (hk : 0 ≤ k ∧ k < 14) : Pure Go.Proofs.Tryz.prog GL 186 [.p (.int .i64 k), .p (.str s)] (.tup [.p (.int .i64 (if roleOf k.toNat s < 0 then 0 else roleOf k.toNat s)), .p (.int .i64 (if roleOf k.toNat s < 0 then 6 else 0))]) := by
  refine Pure.of_walk (N := 29) Go.Proofs.Tryz.func186 rfl rfl rfl (by simp) (by first | (simp; done) | simp [*]) ?_
  simp
  refine xcall_pure (c_part_find k) ?_
  have h3 : kindErr k = 0 := kindErr_ok.2 hk
  have hl := catRow_len (k := k.toNat)
  have h6 := catRow_one (k := k.toNat)
  obtain ⟨f1, f2, f3, f4, f5⟩ := catRow_facts (k := k.toNat) (by omega)
  have hsh : ∀ l ∈ roles k.toNat, l.length < 100 := (by decide : ∀ k, k < 14 → ∀ l ∈ roles k, l.length < 100) k.toNat (by omega)
  simp [h3, hl, lay_whole]
  refine ⟨by simpa using h6, ?_⟩
  have hren := fun ρ => renL_pure (ρ := ρ) (pureL_map (f := fun l : List Txt => AV.p (PV.lst 1 (l.map Txt.enc))) (fun _ => rfl) (l := roles k.toNat))
  simp [f4]
  refine XLoop.go [1, 19] [] 0 [] (fun _ => []) (fun _ (r : Nat) => [(20, .p (.int .i64 r))]) (fun _ _ => []) (fun r => r ≤ 5 ∧ ∀ (j : Nat) x, j < r → (roles k.toNat)[j]? = some x → decide (s ∈ x) = false) (fun r => 5 - r) 0 ⟨by omega, fun j x h => by omega⟩ ?_ ?_
  · simp [hren]
  · rintro r ⟨hr, hp⟩
    simp
    refine xif_split (fun h => ?_) (fun h => ?_)
    · simp at h
      obtain ⟨x, e⟩ := get_lt (xs := roles k.toNat) (k := r) (by omega)
      simp [h, e, f5, -getElem?_pos, List.getElem?_cons_zero, List.getElem?_cons_succ]
      refine xcall_pure (c_Con_Txt x s (by have := hsh x (List.mem_of_getElem? e); omega)) ?_
      simp
      by_cases h2 : s ∈ x
      · have hro : roleOf k.toNat s = r := idxI_at (q := fun l => decide (s ∈ l)) e (by simpa using h2) hp
        have h0 : ¬ (r : Int) < 0 := by omega
        simp [h2]
        simp [XEndT, hro, h0]
      · simp [h2]
        refine ⟨wrap_i64 (by omega) (by omega), r + 1, ⟨by omega, ?_⟩, by omega, ?_⟩
        · simpa using below_next (P := fun l => decide (s ∈ l) = false) hp e (by simpa using h2)
        · simp [hren]
    · simp at h
      have h7 : r = (roles k.toNat).length := by omega
      subst h7
      have hro : roleOf k.toNat s = -1 := idxI_none (q := fun l => decide (s ∈ l)) (below_all hp)
      simp [XEndT, hro]

end Go.Am
/- Contracts: everyday functions of package slices, at int and at ports. -/
namespace Go.Am
open Go Go.Proofs Go.Pn


end Go.Am
/- Contracts: chapter 24: Check of both, Few; in, feeds, back of the reference. -/
namespace Go.Am
open Go Go.Proofs Go.Pn

@[simp] abbrev Ints.av (l : List Int) : AV := .p (.lst 1 (l.map Int.enc))
def Ints.enc (l : List Int) : List PV := [.lst 1 (l.map Int.enc)]

def posAt (c : Circuit) (l : List Int) (i : Nat) : Int := match c.parts[i]?, l[i]? with
  | some p, some a => if a < 0 ∨ (manyOf p.kind.toNat : Int) ≤ a then 2 else 0
  | _, _ => 0
def checkQ (c : Circuit) (l : List Int) : Int := if checkP c ≠ 0 then checkP c else if l.length ≠ c.parts.length then 8 else firstErr (posAt c l) l.length

theorem checkQ_zero {c : Circuit} {l : List Int} (h : checkQ c l = 0) : checkP c = 0 ∧ l.length = c.parts.length ∧ ∀ (i : Nat) p, c.parts[i]? = some p → ∃ a, l[i]? = some a ∧ placedErr p.kind a = 0 ∧ (0 ≤ p.kind ∧ p.kind < 14) := by
  unfold checkQ at h
  have h1 : checkP c = 0 := by
    apply Decidable.byContradiction
    intro hn
    rw [if_pos hn] at h; exact hn h
  rw [if_neg (by simpa using h1)] at h
  have h2 : l.length = c.parts.length := by
    apply Decidable.byContradiction
    intro hn
    rw [if_pos hn] at h; cases h
  rw [if_neg (by simpa using h2)] at h
  refine ⟨h1, h2, fun i p hp => ?_⟩
  have hi : i < l.length := by rw [h2]; exact (List.getElem?_eq_some_iff.1 hp).1
  obtain ⟨a, ha⟩ := get_lt hi
  have h3 := firstErr_iff.1 h i hi
  have hk := (check_parts h1).1 p (List.mem_of_getElem? hp)
  simp only [posAt, hp, ha] at h3
  refine ⟨a, ha, ?_, hk⟩
  unfold placedErr
  rw [kindErr_ok.2 hk]
  simpa using h3

end Go.Am
/- Contracts: chapter 24, the reference: in, feeds, back, open, Acts. -/
namespace Go.Am
open Go Go.Proofs Go.Pn

abbrev Bool.enc (b : Bool) : List PV := [.bool b]
abbrev Bool.row (b : Bool) : List AV := [.p (.bool b)]
abbrev Bools.av (l : List Bool) : AV := .p (.lst 1 (l.map Bool.enc))

def netN (c : Circuit) (i : Int) (s : Txt) : Nat := (netP c ⟨i, s⟩).toNat
theorem netN_at {c : Circuit} (h : checkP c = 0) {i : Int} {s : Txt} (hp : (⟨i, s⟩ : Port) ∈ allP c) : netP c ⟨i, s⟩ = netN c i s ∧ netN c i s < (nets c).length := by
  obtain ⟨_, n, g, h1, h2, _⟩ := netP_at3 h hp
  unfold netN
  rw [h1]
  exact ⟨by omega, by omega⟩

def mkd (m : List Bool) (n : Nat) : Bool := (m[n]?).getD false
def cntIn (c : Circuit) (m : List Bool) (i : Int) (ns : List Txt) : Nat := (ns.filter fun s => mkd m (netN c i s)).length

end Go.Am
/- Contracts: chapter 24, the reference: feeds, back, open, Acts. -/
namespace Go.Am
open Go Go.Proofs Go.Pn

def posOf (l : List Int) (i : Int) : Int := (l[i.toNat]?).getD 0
def passAt (c : Circuit) (l : List Int) (i : Int) : List Pass := passedOf (kindAt c i).toNat (decide (posOf l i = 1))
def feed1 (c : Circuit) (m : List Bool) (p : Port) (y : Pass) : Bool := decide (y.to = p.name) && (decide (cntIn c m p.part y.fr = y.fr.length) || (decide (0 < cntIn c m p.part y.fr) && !y.all))
def back1 (c : Circuit) (m : List Bool) (p : Port) (y : Pass) : Bool := decide (y.to = p.name) && decide (0 < cntIn c m p.part y.fr)
def feedsB (c : Circuit) (l : List Int) (m : List Bool) (p : Port) : Bool := (passAt c l p.part).any (feed1 c m p)
def backB (c : Circuit) (l : List Int) (m : List Bool) (p : Port) : Bool := (passAt c l p.part).any (back1 c m p)
def ventAt (c : Circuit) (l : List Int) (i : Int) : Txt := (openOf (kindAt c i).toNat (decide (posOf l i = 1))).2
def openB (c : Circuit) (l : List Int) (p : Port) : Bool := decide (ventAt c l p.part = p.name) || decide (playsN (kindAt c p.part).toNat p.name = 2)

theorem passed_facts {k : Nat} (h : k < 14) (b : Bool) : ∀ y ∈ passedOf k b, y.to ∈ kindPorts k ∧ (∀ s ∈ y.fr, s ∈ kindPorts k) ∧ 1 ≤ y.fr.length ∧ y.fr.length ≤ 2 := by
  have t1 := (by decide : ∀ k, k < 14 → ∀ y ∈ passedOf k true, y.to ∈ kindPorts k ∧ (∀ s ∈ y.fr, s ∈ kindPorts k) ∧ 1 ≤ y.fr.length ∧ y.fr.length ≤ 2) k h
  have t2 := (by decide : ∀ k, k < 14 → ∀ y ∈ passedOf k false, y.to ∈ kindPorts k ∧ (∀ s ∈ y.fr, s ∈ kindPorts k) ∧ 1 ≤ y.fr.length ∧ y.fr.length ≤ 2) k h
  cases b
  · exact t2
  · exact t1
structure PortFacts (c : Circuit) (l : List Int) (i : Nat) (q : Part) (a : Int) : Prop where
  here : c.parts[i]? = some q
  pos : l[i]? = some a
  lt : i < c.parts.length
  ltl : i < l.length
  kind : 0 ≤ q.kind ∧ q.kind < 14
  placed : placedErr q.kind a = 0
  pass : passAt c l i = passedOf q.kind.toNat (decide (a = 1))
  vent : ventAt c l i = (openOf q.kind.toNat (decide (a = 1))).2
  kat : kindAt c i = q.kind
  mem : ∀ s, s ∈ kindPorts q.kind.toNat → (⟨i, s⟩ : Port) ∈ allP c
  passes : passedAt q.kind a = passAt c l i
  vents : ventsAt q.kind a = ventsOf q.kind.toNat (decide (a = 1))

theorem part_facts {c : Circuit} {l : List Int} (h : checkQ c l = 0) {i : Nat} {q : Part} (e : c.parts[i]? = some q) : ∃ a, PortFacts c l i q a := by
  obtain ⟨h1, h2, h3⟩ := checkQ_zero h
  obtain ⟨a, ha, hpl, hk⟩ := h3 i q e
  have hi := (List.getElem?_eq_some_iff.1 e).1
  have hka : kindAt c (i : Int) = q.kind := by rw [kindAt, Int.toNat_natCast, e]; rfl
  have hpo : posOf l (i : Int) = a := by rw [posOf, Int.toNat_natCast, ha]; rfl
  have hpass : passAt c l i = passedOf q.kind.toNat (decide (a = 1)) := by rw [passAt, hka, hpo]
  refine ⟨a, ⟨e, ha, hi, by omega, hk, hpl, hpass, by rw [ventAt, hka, hpo], hka, fun s hs => ?_, by rw [hpass, passedAt, if_pos hpl], by rw [ventsAt, if_pos hpl]⟩⟩
  exact allP_mem.2 (given_mem.2 ⟨q, by rw [Int.toNat_natCast]; exact e, by simp, hs⟩)

theorem port_facts {c : Circuit} {l : List Int} (h : checkQ c l = 0) {p : Port} (hp : p ∈ allP c) : ∃ (i : Nat) (q : Part) (a : Int), p.part = (i : Int) ∧ p.name ∈ kindPorts q.kind.toNat ∧ PortFacts c l i q a := by
  obtain ⟨q, h1, h2, h3⟩ := given_mem.1 (allP_mem.1 hp)
  obtain ⟨a, ha⟩ := part_facts h h1
  exact ⟨p.part.toNat, q, a, by omega, h3, ha⟩


end Go.Am
