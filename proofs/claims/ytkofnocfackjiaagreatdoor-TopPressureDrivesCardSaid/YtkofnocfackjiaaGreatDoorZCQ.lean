/- Lemmas and contracts for the proof of a statement of this seat. -/
import Derived.Test.YtkofnocfackjiaaGreatDoorZCF
import Derived.Test.YtkofnocfackjiaaGreatDoorZC7
set_option linter.unusedVariables false
set_option linter.unusedSimpArgs false
/- Contracts: the reference of chapter 22: roles, findings. -/
namespace Go.Am
open Go Go.Proofs Go.Pn

def roleP (c : Circuit) (p : Port) : Int := playsN (kindAt c p.part).toNat p.name
def givesB (c : Circuit) (p : Port) : Bool := decide (roleP c p = 1)
def takesB (c : Circuit) (p : Port) : Bool := decide (roleP c p = 0) || (decide (roleP c p = 3) || decide (roleP c p = 4))
def sideB (c : Circuit) (give : Bool) (p : Port) : Bool := if give then givesB c p else takesB c p
def onlyL (c : Circuit) (l : List Port) (give : Bool) : List Port := l.filter (sideB c give)
def ruleB (c : Circuit) (k : Nat) (l : List Port) (p : Port) : Bool := match k with
  | 1 => decide (roleP c p = 3) && decide (l.length = 1)
  | 2 => decide (roleP c p = 4) && decide (l.length = 1)
  | 3 => decide (roleP c p = 0) && decide ((onlyL c l true).length = 0)
  | 4 => decide (roleP c p = 1) && !decide ((onlyL c l true).head? = some p)
  | 5 => decide (roleP c p = 1) && decide ((onlyL c l false).length = 0)
  | 6 => decide (roleP c p = 2) && decide (1 < l.length)
  | _ => decide (kindAt c p.part = 2) && (decide (p.name = [49, 52]) && decide ((⟨p.part, [49, 50]⟩ : Port) ∈ l))
def foundB (c : Circuit) (k : Nat) (p : Port) : Bool := ruleB c k (around c p) p

def PartOk (c : Circuit) (p : Port) : Prop := 0 ≤ p.part ∧ p.part.toNat < c.parts.length
theorem partOk_at {c : Circuit} {p : Port} (h : PartOk c p) : ∃ (i : Nat) (q : Part), p.part = i ∧ i < c.parts.length ∧ c.parts[i]? = some q ∧ kindAt c p.part = q.kind := by
  obtain ⟨q, e⟩ := get_lt h.2
  exact ⟨p.part.toNat, q, by have := h.1; omega, h.2, e, by rw [kindAt, e]; rfl⟩
theorem partOk_all {c : Circuit} {p : Port} (h : p ∈ allP c) : PartOk c p := by
  obtain ⟨q, h1, h2, _⟩ := given_mem.1 (allP_mem.1 h)
  exact ⟨h2, (List.getElem?_eq_some_iff.1 h1).1⟩
theorem partOk_around {c : Circuit} {p : Port} : ∀ q ∈ around c p, PartOk c q := fun _ hq => partOk_all (List.mem_filter.1 hq).1

end Go.Am
/- Contracts: the reference of chapter 22: all findings, their text, the sides of nets. -/
namespace Go.Am
open Go Go.Proofs Go.Pn

structure Fnd where
  kind : Int
  at_ : Port
  deriving DecidableEq
@[simp] def Fnd.enc (f : Fnd) : List PV := [.int .i64 f.kind, .int .i64 f.at_.part, .str f.at_.name]
@[simp] def Fnd.row (f : Fnd) : List AV := [.p (.int .i64 f.kind), .p (.int .i64 f.at_.part), .p (.str f.at_.name)]
@[simp] def Fnd.av (f : Fnd) : AV := .agg [.p (.int .i64 f.kind), .p (.int .i64 f.at_.part), .p (.str f.at_.name)]

def supB (c : Circuit) : Bool := (c.parts.any fun q => decide (q.kind = 0)) || decide (c.parts.length = 0)
def findsT (c : Circuit) (k : Nat) (l : List Port) : List Fnd := (l.filter (foundB c k)).map fun p => ⟨k, p⟩
def headF (c : Circuit) : List Fnd := if supB c then [] else [⟨0, ⟨0, []⟩⟩]
def allF (c : Circuit) : Nat → List Fnd
  | 0 => headF c
  | k + 1 => allF c k ++ findsT c (k + 1) (allP c)
def findingsL (c : Circuit) : List Fnd := allF c 7
end Go.Am
/- Contracts: the reference of chapter 22: findings, texts, sides. -/
namespace Go.Am
open Go Go.Proofs Go.Pn

def nameAt (c : Circuit) (i : Int) : Txt := match c.parts[i.toNat]? with | some q => q.name | none => []
def sideErr (c : Circuit) (p : Port) : Int := if checkP c ≠ 0 then checkP c else givenErr c p
def sideL (c : Circuit) (p : Port) (give : Bool) : List Port := if sideErr c p ≠ 0 then [] else onlyL c (around c p) give

end Go.Am
/- Contracts: package inspect: roles, and the rules of findings. -/
namespace Go.Am
open Go Go.Proofs Go.Pn


theorem role_all {c : Circuit} (hk : kindsOk c) {p : Port} (hp : p ∈ allP c) : ∃ (i : Nat) (q : Part), p.part = i ∧ i < c.parts.length ∧ c.parts[i]? = some q ∧ kindAt c p.part = q.kind ∧ (0 ≤ q.kind ∧ q.kind < 14) ∧ p.name ∈ kindPorts q.kind.toNat ∧ roleOf q.kind.toNat p.name = roleP c p ∧ 0 ≤ roleP c p := by
  obtain ⟨i, q, e1, e2, e3, e4⟩ := partOk_at (partOk_all hp)
  obtain ⟨q', g1, g2, g3⟩ := given_mem.1 (allP_mem.1 hp)
  have e5 : p.part.toNat = i := by omega
  rw [e5, e3] at g1; cases g1
  have hq := hk q (List.mem_of_getElem? e3)
  have hv := (vent_facts (k := q.kind.toNat) (by omega) true).2 p.name g3
  have hr : roleP c p = playsN q.kind.toNat p.name := by rw [roleP, e4]
  have hpl := plays_iff (k := q.kind.toNat) (s := p.name) (by omega)
  refine ⟨i, q, e1, e2, e3, e4, hq, g3, by rw [hr, hv.2], ?_⟩
  rw [hr]
  by_cases h : playsN q.kind.toNat p.name < 0
  · exact absurd g3 (hpl.1 h)
  · omega

theorem c_inspect_role (c : Circuit) (p : Port) (hk : kindsOk c) (hp : p ∈ allP c) : Pure Tryz.prog GL 110 [c.av, p.av] (.p (.int .i64 (roleP c p))) := by
  refine Pure.of_walk (N := 21) Tryz.func110 rfl rfl rfl (by simp) (by first | (simp; done) | simp [*]) ?_
  obtain ⟨i, q, e1, e2, e3, e4, e5, e6, e7, e8⟩ := role_all hk hp
  obtain ⟨pi, pn⟩ := p
  simp only at e1 e4 e6 e7
  subst e1
  have hro := c_part_Role q.kind pn e5
  rw [e7, if_neg (by omega), if_neg (by omega)] at hro
  generalize roleP c ⟨(i : Int), pn⟩ = r at *
  simp
  refine XDraw.intro (by kernel_rfl) ?_
  simp [e2, e3, Part.enc, -getElem?_pos, List.getElem?_cons_zero, List.getElem?_cons_succ]
  refine xcall_pure hro ?_
  simp
  refine ⟨.of (by kernel_rfl), ?_⟩
  simp [XEndT]

theorem c_inspect_gives (c : Circuit) (p : Port) (hk : kindsOk c) (hp : p ∈ allP c) : Pure Tryz.prog GL 71 [c.av, p.av] (.p (.bool (givesB c p))) := by
  refine Pure.of_walk (N := 9) Tryz.func71 rfl rfl rfl (by simp) (by first | (simp; done) | simp [*]) ?_
  simp
  refine xcall_pure (c_inspect_role c p hk hp) ?_
  simp [XEndT, givesB]

theorem c_inspect_takes (c : Circuit) (p : Port) (hk : kindsOk c) (hp : p ∈ allP c) : Pure Tryz.prog GL 139 [c.av, p.av] (.p (.bool (takesB c p))) := by
  refine Pure.of_walk (N := 12) Tryz.func139 rfl rfl rfl (by simp) (by first | (simp; done) | simp [*]) ?_
  simp
  refine xcall_pure (c_inspect_role c p hk hp) ?_
  have ht : takesB c p = (decide (roleP c p = 0) || (decide (roleP c p = 3) || decide (roleP c p = 4))) := rfl
  rw [ht]
  generalize roleP c p = r
  simp
  by_cases h0 : r = 0
  · simp [h0, XEndT]
  · by_cases h3 : r = 3
    · simp [h0, h3, XEndT]
    · by_cases h4 : r = 4 <;> simp [h0, h3, h4, XEndT]

theorem c_inspect_filtered (c : Circuit) (l : List Port) (q : Port → Bool) (m : Nat) (hl : l.length < 100000) (hq : ∀ p ∈ l, Pure Tryz.prog GL m [c.av, p.av] (.p (.bool (q p)))) : Pure Tryz.prog GL 70 [c.av, .p (.lst 2 (l.map Port.enc)), .fn (.func m) []] (.p (.lst 2 ((l.filter q).map Port.enc))) := by
  refine Pure.of_walk (N := 26) Tryz.func70 rfl rfl rfl (by simp) (by first | (simp; done) | simp [*]) ?_
  simp
  refine XLoop.go [2, 3, 10, 11] [0] 1 [1] (nms [7]) (fun nx (k : Nat) => [(7, .acc nx 2 ((l.take k).filter q).length), (12, .p (.int .i64 k))]) (fun nx k => [(nx, accB 2 (((l.take k).filter q).map Port.row))]) (fun k => k ≤ l.length) (fun k => l.length - k) 0 (by omega) ?_ ?_
  · simp
  · intro k hk1
    have hb : ((l.take k).filter q).length ≤ k := by
      have h1 := List.length_filter_le q (l.take k)
      have h2 := List.length_take_le k l
      omega
    have hsn := @filter_snoc _ q l k
    have hend : k = l.length → (l.take k).filter q = l.filter q := fun e => by rw [e, List.take_length]
    generalize (l.take k).filter q = A at hb hsn hend
    simp
    refine xif_split (fun h => ?_) (fun h => ?_)
    · simp at h
      obtain ⟨x, e⟩ := get_lt h
      have hx := hq x (List.mem_of_getElem? e)
      have hsn2 := hsn e
      simp [h, e, -getElem?_pos, List.getElem?_cons_zero, List.getElem?_cons_succ]
      refine xcall_pure hx ?_
      cases hb2 : q x with
      | true =>
        simp
        refine ⟨by omega, wrap_i64 (by omega) (by omega), k + 1, by omega, by omega, ?_⟩
        simp [hsn2, hb2]
      | false =>
        simp
        refine ⟨wrap_i64 (by omega) (by omega), k + 1, by omega, by omega, ?_⟩
        simp [hsn2, hb2]
    · simp at h
      have hA := hend (by omega)
      subst hA
      simp [XEndT]

theorem c_filtered_gives (c : Circuit) (l : List Port) (hk : kindsOk c) (hl : l.length < 100000) (ha : ∀ q ∈ l, q ∈ allP c) : Pure Tryz.prog GL 70 [c.av, .p (.lst 2 (l.map Port.enc)), .fn (.func 71) []] (.p (.lst 2 ((onlyL c l true).map Port.enc))) :=
  c_inspect_filtered c l (givesB c) 71 hl fun p hp => c_inspect_gives c p hk (ha p hp)
end Go.Am
