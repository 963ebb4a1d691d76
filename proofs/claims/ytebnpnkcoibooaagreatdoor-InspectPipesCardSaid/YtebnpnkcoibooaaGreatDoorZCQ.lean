/- Lemmas and contracts for the proof of a statement of this seat. -/
import Derived.Test.YtebnpnkcoibooaaGreatDoorZCF
import Derived.Test.YtebnpnkcoibooaaGreatDoorZC9
set_option linter.unusedVariables false
set_option linter.unusedSimpArgs false
/- Contracts: the reference of chapter 22: roles, findings. -/
namespace Go.Am
open Go Go.Proofs Go.Pn

/-- The role of a port, as the reference tells it. -/
def roleP (c : Circuit) (p : Port) : Int := playsN (kindAt c p.part).toNat p.name
def givesB (c : Circuit) (p : Port) : Bool := decide (roleP c p = 1)
def takesB (c : Circuit) (p : Port) : Bool := decide (roleP c p = 0) || (decide (roleP c p = 3) || decide (roleP c p = 4))
def sideB (c : Circuit) (give : Bool) (p : Port) : Bool := if give then givesB c p else takesB c p
def onlyL (c : Circuit) (l : List Port) (give : Bool) : List Port := l.filter (sideB c give)
/-- Which finding is at a port, given its net. -/
def ruleB (c : Circuit) (k : Nat) (l : List Port) (p : Port) : Bool := match k with
  | 1 => decide (roleP c p = 3) && decide (l.length = 1)
  | 2 => decide (roleP c p = 4) && decide (l.length = 1)
  | 3 => decide (roleP c p = 0) && decide ((onlyL c l true).length = 0)
  | 4 => decide (roleP c p = 1) && !decide ((onlyL c l true).head? = some p)
  | 5 => decide (roleP c p = 1) && decide ((onlyL c l false).length = 0)
  | 6 => decide (roleP c p = 2) && decide (1 < l.length)
  | _ => decide (kindAt c p.part = 2) && (decide (p.name = [49, 52]) && decide ((⟨p.part, [49, 50]⟩ : Port) ∈ l))
def foundB (c : Circuit) (k : Nat) (p : Port) : Bool := ruleB c k (around c p) p

/-- A port's part is there. -/
def PartOk (c : Circuit) (p : Port) : Prop := 0 ≤ p.part ∧ p.part.toNat < c.parts.length
theorem partOk_at {c : Circuit} {p : Port} (h : PartOk c p) : ∃ (i : Nat) (q : Part), p.part = i ∧ i < c.parts.length ∧ c.parts[i]? = some q ∧ kindAt c p.part = q.kind := by
  obtain ⟨q, e⟩ := get_lt h.2
  exact ⟨p.part.toNat, q, by have := h.1; omega, h.2, e, by rw [kindAt, e]; rfl⟩
theorem partOk_all {c : Circuit} {p : Port} (h : p ∈ allP c) : PartOk c p := by
  obtain ⟨q, h1, h2, _⟩ := given_mem.1 (allP_mem.1 h)
  exact ⟨h2, (List.getElem?_eq_some_iff.1 h1).1⟩
theorem partOk_around {c : Circuit} {p : Port} : ∀ q ∈ around c p, PartOk c q := fun _ hq => partOk_all (List.mem_filter.1 hq).1

theorem c_pneumaticref22_role (c : Circuit) (p : Port) (hk : kindsOk c) (hp : PartOk c p) : Pure Go.Proofs.Tryz.prog GL 163 [c.av, p.av] (.p (.int .i64 (roleP c p))) := by
  refine Pure.of_walk (N := 15) Go.Proofs.Tryz.func163 rfl rfl rfl (by simp) (by first | (simp; done) | simp [*]) ?_
  obtain ⟨i, q, h1, h2, e, h3⟩ := partOk_at hp
  obtain ⟨pi, pn⟩ := p
  simp only at h1 h3
  subst h1
  have hq := hk q (List.mem_of_getElem? e)
  have hkc : ((q.kind.toNat : Nat) : Int) = q.kind := by omega
  have hpl := c_pneumaticref20_Plays q.kind.toNat pn (by omega)
  rw [hkc] at hpl
  simp
  refine XDraw.intro (by kernel_rfl) ?_
  simp [e, h2, Part.enc, -getElem?_pos, List.getElem?_cons_zero, List.getElem?_cons_succ]
  refine xcall_pure hpl ?_
  simp
  refine ⟨.of (by kernel_rfl), ?_⟩
  simp [XEndT, roleP, h3]

theorem c_pneumaticref22_Gives (c : Circuit) (p : Port) (hk : kindsOk c) (hp : PartOk c p) : Pure Go.Proofs.Tryz.prog GL 165 [c.av, p.av] (.p (.bool (givesB c p))) := by
  refine Pure.of_walk (N := 9) Go.Proofs.Tryz.func165 rfl rfl rfl (by simp) (by first | (simp; done) | simp [*]) ?_
  simp
  refine xcall_pure (c_pneumaticref22_role c p hk hp) ?_
  simp [XEndT, givesB]

theorem c_pneumaticref22_Takes (c : Circuit) (p : Port) (hk : kindsOk c) (hp : PartOk c p) : Pure Go.Proofs.Tryz.prog GL 166 [c.av, p.av] (.p (.bool (takesB c p))) := by
  refine Pure.of_walk (N := 19) Go.Proofs.Tryz.func166 rfl rfl rfl (by simp) (by first | (simp; done) | simp [*]) ?_
  simp
  refine xcall_pure (c_pneumaticref22_role c p hk hp) ?_
  have ht : takesB c p = (decide (roleP c p = 0) || (decide (roleP c p = 3) || decide (roleP c p = 4))) := rfl
  rw [ht]
  generalize roleP c p = r
  simp
  by_cases h0 : r = 0
  · simp [h0, XEndT]
  · by_cases h3 : r = 3 <;> simp [h0, h3, XEndT]

theorem c_pneumaticref22_only (c : Circuit) (l : List Port) (give : Bool) (hk : kindsOk c) (hl : l.length < 100000) (hp : ∀ p ∈ l, PartOk c p) : Pure Go.Proofs.Tryz.prog GL 106 [c.av, .p (.lst 2 (l.map Port.enc)), .p (.bool give)] (.p (.lst 2 ((onlyL c l give).map Port.enc))) := by
  refine Pure.of_walk (N := 44) Go.Proofs.Tryz.func106 rfl rfl rfl (by simp) (by first | (simp; done) | simp [*]) ?_
  simp
  refine XLoop.go [1, 2, 3] [0] 1 [1] (nms [7]) (fun nx (k : Nat) => [(7, .acc nx 2 (onlyL c (l.take k) give).length), (8, .p (.int .i64 k))]) (fun nx k => [(nx, accB 2 ((onlyL c (l.take k) give).map Port.row))]) (fun k => k ≤ l.length) (fun k => l.length - k) 0 (by omega) ?_ ?_
  · simp [onlyL]
  · intro k hk1
    have hb : (onlyL c (l.take k) give).length ≤ k := by
      have h1 := List.length_filter_le (sideB c give) (l.take k)
      have h2 := List.length_take_le k l
      unfold onlyL; omega
    have hsn := @filter_snoc _ (sideB c give) l k
    have hend : k = l.length → onlyL c (l.take k) give = onlyL c l give := fun e => by rw [e, List.take_length]
    have hdef : ∀ j, onlyL c (l.take j) give = (l.take j).filter (sideB c give) := fun _ => rfl
    simp only [← hdef] at hsn
    generalize onlyL c (l.take k) give = A at hb hsn hend
    simp
    refine xif_split (fun h => ?_) (fun h => ?_)
    · simp at h
      obtain ⟨x, e⟩ := get_lt h
      have hx := hp x (List.mem_of_getElem? e)
      have hsn2 := hsn e
      simp [h, e, -getElem?_pos, List.getElem?_cons_zero, List.getElem?_cons_succ]
      refine XDraw.intro (by kernel_rfl) ?_
      cases give with
      | true =>
        simp [h, e, -getElem?_pos, List.getElem?_cons_zero, List.getElem?_cons_succ]
        refine xcall_pure (c_pneumaticref22_Gives c x hk hx) ?_
        cases hb2 : givesB c x with
        | true =>
          simp [h, e, -getElem?_pos, List.getElem?_cons_zero, List.getElem?_cons_succ]
          refine ⟨.of (by kernel_rfl), ?_⟩
          refine ⟨by omega, wrap_i64 (by omega) (by omega), k + 1, by omega, by omega, ?_⟩
          simp [hsn2, sideB, hb2]
        | false =>
          simp
          refine ⟨.of (by kernel_rfl), ?_⟩
          refine ⟨wrap_i64 (by omega) (by omega), k + 1, by omega, by omega, ?_⟩
          simp [hsn2, sideB, hb2]
      | false =>
        simp [h, e, -getElem?_pos, List.getElem?_cons_zero, List.getElem?_cons_succ]
        refine xcall_pure (c_pneumaticref22_Takes c x hk hx) ?_
        cases hb2 : takesB c x with
        | true =>
          simp [h, e, -getElem?_pos, List.getElem?_cons_zero, List.getElem?_cons_succ]
          refine ⟨.of (by kernel_rfl), ?_⟩
          refine ⟨by omega, wrap_i64 (by omega) (by omega), k + 1, by omega, by omega, ?_⟩
          simp [hsn2, sideB, hb2]
        | false =>
          simp
          refine ⟨.of (by kernel_rfl), ?_⟩
          refine ⟨wrap_i64 (by omega) (by omega), k + 1, by omega, by omega, ?_⟩
          simp [hsn2, sideB, hb2]
    · simp at h
      have hA := hend (by omega)
      subst hA
      simp [XEndT]

set_option maxRecDepth 20000 in
theorem c_pneumaticref22_found (c : Circuit) (k : Nat) (p : Port) (hk : kindsOk c) (hn : c.parts.length ≤ 64) (hm : c.pipes.length ≤ 256) (hp : p ∈ allP c) (h1 : 1 ≤ k ∧ k ≤ 7) : Pure Go.Proofs.Tryz.prog GL 162 [c.av, .p (.int .i64 k), p.av] (.p (.bool (foundB c k p))) := by
  refine Pure.of_walk (N := 98) Go.Proofs.Tryz.func162 rfl rfl rfl (by simp) (by first | (simp; done) | simp [*]) ?_
  have hal := allP_len hk (by omega)
  have har := @around_len c p
  have hpo := partOk_all hp
  obtain ⟨i, q, e1, e2, e3, e4⟩ := partOk_at hpo
  have hmem := around_self hp
  have hao := @partOk_around c p
  have hgv := c_pneumaticref22_only c (around c p) true hk (by omega) hao
  have htk := c_pneumaticref22_only c (around c p) false hk (by omega) hao
  have hHas := c_pneumaticref21_Has (around c p) ⟨p.part, [49, 50]⟩ (by omega)
  have hhead : roleP c p = 1 → ∃ x xs, onlyL c (around c p) true = x :: xs := fun hr => by
    have : p ∈ onlyL c (around c p) true := List.mem_filter.2 ⟨hmem, by simp [sideB, givesB, hr]⟩
    cases ho : onlyL c (around c p) true with
    | nil => rw [ho] at this; cases this
    | cons x xs => exact ⟨x, xs, rfl⟩
  have hdef : foundB c k p = ruleB c k (around c p) p := rfl
  rw [hdef]
  simp
  refine xcall_pure (c_pneumaticref21_Around c p hk (by omega) (by omega)) ?_
  simp
  refine xcall_pure (c_pneumaticref22_role c p hk hpo) ?_
  unfold ruleB
  generalize around c p = l at *
  generalize onlyL c l true = G at *
  generalize onlyL c l false = T at *
  generalize roleP c p = r at *
  obtain ⟨pi, pn⟩ := p
  simp only at e1 e4
  subst e1
  rw [e4]
  obtain rfl | rfl | rfl | rfl | rfl | rfl | rfl : k = 1 ∨ k = 2 ∨ k = 3 ∨ k = 4 ∨ k = 5 ∨ k = 6 ∨ k = 7 := by omega
  · by_cases hr : r = 3
    · subst hr
      simp [XEndT]
      omega
    · simp [hr, XEndT]
  · by_cases hr : r = 4
    · subst hr
      simp [XEndT]
      omega
    · simp [hr, XEndT]
  · by_cases hr : r = 0
    · subst hr
      simp
      refine xcall_pure hgv ?_
      simp [XEndT]
    · simp [hr, XEndT]
  · by_cases hr : r = 1
    · obtain ⟨x, xs, rfl⟩ := hhead hr
      subst hr
      simp
      refine XDraw.intro (by kernel_rfl) ?_
      simp
      refine xcall_pure hgv ?_
      simp
      refine ⟨.of (by kernel_rfl), ?_⟩
      simp [XEndT]
      cases x
      simp
    · simp [hr]
      refine XDraw.intro (by kernel_rfl) ?_
      simp [hr]
      refine ⟨.of (by kernel_rfl), ?_⟩
      simp [XEndT]
  · by_cases hr : r = 1
    · subst hr
      simp
      refine xcall_pure htk ?_
      simp [XEndT]
    · simp [hr, XEndT]
  · by_cases hr : r = 2
    · subst hr
      simp [XEndT]
      omega
    · simp [hr, XEndT]
  · by_cases hq : q.kind = 2
    · by_cases hn : pn = [49, 52]
      · subst hn
        simp [e2, e3, Part.enc, hq, -getElem?_pos, List.getElem?_cons_zero, List.getElem?_cons_succ]
        refine xcall_pure hHas ?_
        simp [XEndT, hq]
      · simp [e2, e3, Part.enc, hq, hn, -getElem?_pos, List.getElem?_cons_zero, List.getElem?_cons_succ]
        simp [XEndT]
    · simp [e2, e3, Part.enc, hq, -getElem?_pos, List.getElem?_cons_zero, List.getElem?_cons_succ]
      simp [XEndT]

end Go.Am
/- Contracts: the reference of chapter 22: all findings, their text, the sides of nets. -/
namespace Go.Am
open Go Go.Proofs Go.Pn

/-- A finding at a port. -/
structure Fnd where
  kind : Int
  at_ : Port
  deriving DecidableEq
@[simp] def Fnd.enc (f : Fnd) : List PV := [.int .i64 f.kind, .int .i64 f.at_.part, .str f.at_.name]
@[simp] def Fnd.row (f : Fnd) : List AV := [.p (.int .i64 f.kind), .p (.int .i64 f.at_.part), .p (.str f.at_.name)]
@[simp] def Fnd.av (f : Fnd) : AV := .agg [.p (.int .i64 f.kind), .p (.int .i64 f.at_.part), .p (.str f.at_.name)]

def supB (c : Circuit) : Bool := (c.parts.any fun q => decide (q.kind = 0)) || decide (c.parts.length = 0)
def findsT (c : Circuit) (k : Nat) (l : List Port) : List Fnd := (l.filter (foundB c k)).map fun p => ⟨k, p⟩
def headF (c : Circuit) : List Fnd := if supB c then [] else [⟨0, ⟨0, []⟩⟩]
/-- The findings of the first kinds. -/
def allF (c : Circuit) : Nat → List Fnd
  | 0 => headF c
  | k + 1 => allF c k ++ findsT c (k + 1) (allP c)
def findingsL (c : Circuit) : List Fnd := allF c 7
theorem findsT_len {c : Circuit} {k : Nat} {l : List Port} : (findsT c k l).length ≤ l.length := by
  unfold findsT; rw [List.length_map]; exact List.length_filter_le ..
theorem allF_len {c : Circuit} : ∀ {k : Nat}, (allF c k).length ≤ 1 + k * (allP c).length
  | 0 => by unfold allF headF; split <;> simp
  | k + 1 => by
    have h1 := allF_len (c := c) (k := k)
    have h2 := @findsT_len c (k + 1) (allP c)
    simp only [allF, List.length_append, Nat.succ_mul]
    omega
theorem findsT_snoc {c : Circuit} {k : Nat} {l : List Port} {j : Nat} {p : Port} (e : l[j]? = some p) : findsT c k (l.take (j + 1)) = findsT c k (l.take j) ++ (if foundB c k p then [⟨k, p⟩] else []) := by
  unfold findsT
  rw [filter_snoc e, List.map_append]
  split <;> rfl
theorem findsT_nil {c : Circuit} {k : Nat} : findsT c k [] = [] := rfl

theorem c_pneumaticref22_supplied (c : Circuit) (hn : c.parts.length ≤ 64) : Pure Go.Proofs.Tryz.prog GL 161 [c.av] (.p (.bool (supB c))) := by
  refine Pure.of_walk (N := 22) Go.Proofs.Tryz.func161 rfl rfl rfl (by simp) (by first | (simp; done) | simp [*]) ?_
  simp
  refine XLoop.go [1] [0] 0 [] (fun _ => []) (fun _ (k : Nat) => [(3, .p (.int .i64 k))]) (fun _ _ => []) (fun k => k ≤ c.parts.length ∧ ∀ (j : Nat) x, j < k → c.parts[j]? = some x → decide (x.kind = 0) = false) (fun k => c.parts.length - k) 0 ⟨by omega, fun j x h => by omega⟩ ?_ ?_
  · simp
  · rintro k ⟨hk, hp⟩
    simp
    refine xif_split (fun h => ?_) (fun h => ?_)
    · simp at h
      obtain ⟨x, e⟩ := get_lt h
      simp [h, e, Part.enc, -getElem?_pos, List.getElem?_cons_zero, List.getElem?_cons_succ]
      refine xif_split (fun h2 => ?_) (fun h2 => ?_)
      · have : supB c = true := by
          unfold supB
          rw [Bool.or_eq_true]
          exact .inl (List.any_eq_true.2 ⟨x, List.mem_of_getElem? e, h2⟩)
        simp [XEndT, this]
      · simp
        refine ⟨wrap_i64 (by omega) (by omega), k + 1, ⟨by omega, ?_⟩, by omega, ?_⟩
        · simpa using below_next (P := fun x : Part => decide (x.kind = 0) = false) hp e h2
        · simp
    · simp at h
      have hk2 : k = c.parts.length := by omega
      have hany : (c.parts.any fun q => decide (q.kind = 0)) = false := by
        rw [List.any_eq_false]
        intro x hx
        obtain ⟨j, hj⟩ := List.mem_iff_getElem?.1 hx
        have := hp j x (by have := (List.getElem?_eq_some_iff.1 hj).1; omega) hj
        simpa using this
      simp [XEndT, supB, hany]


set_option maxRecDepth 20000 in
theorem c_pneumaticref22_All (c : Circuit) (hk : kindsOk c) (hn : c.parts.length ≤ 64) (hm : c.pipes.length ≤ 256) : Pure Go.Proofs.Tryz.prog GL 98 [c.av] (.p (.lst 3 ((findingsL c).map Fnd.enc))) := by
  refine Pure.of_walk (N := 43) Go.Proofs.Tryz.func98 rfl rfl rfl (by simp) (by first | (simp; done) | simp [*]) ?_
  have hal := allP_len hk (by omega)
  simp
  refine xcall_pure (c_pneumaticref22_supplied c hn) ?_
  have hhead : headF c = if supB c then [] else [⟨0, ⟨0, []⟩⟩] := rfl
  cases hsup : supB c with
  | true =>
    rw [hsup, if_pos rfl] at hhead
    simp
    refine xcall_pure (c_pneumaticref21_All c hk (by omega)) ?_
    simp
    refine XLoop.go [1, 4] [0] 1 [1] (nms [3]) (fun nx (k : Nat) => [(3, .acc nx 3 (allF c k).length), (5, .p (.int .i64 ((k : Int) + 1)))]) (fun nx k => [(nx, accB 3 ((allF c k).map Fnd.row))]) (fun k => k ≤ 7) (fun k => 7 - k) 0 (by omega) ?_ ?_
    · simp [allF, hhead]
      try decide
    · intro k hk7
      have hlen := @allF_len c k
      have hb7 : k * (allP c).length ≤ 7 * 1200 := Nat.mul_le_mul hk7 hal
      have hsucc : allF c (k + 1) = allF c k ++ findsT c (k + 1) (allP c) := rfl
      have hend : k = 7 → allF c k = findingsL c := fun e => by rw [e]; rfl
      generalize allF c k = A at hlen hsucc hend
      simp
      refine xif_split (fun h => ?_) (fun h => ?_)
      · simp at h
        simp
        refine XLoop.gor [1, 4, 5] [0] [0, 1] (fun st => [0, nameOf (slot st.t 3)]) (fun (i : Nat) => [(3, .acc 1 3 (A ++ findsT c (k + 1) ((allP c).take i)).length), (6, .p (.int .i64 i))]) (fun i => [(1, accB 3 ((A ++ findsT c (k + 1) ((allP c).take i)).map Fnd.row))]) (fun i => i ≤ (allP c).length) (fun i => (allP c).length - i) 0 (by omega) ?_ ?_
        · simp [findsT_nil]
          try decide
        · intro i hi
          have hl2 := @findsT_len c (k + 1) ((allP c).take i)
          have hl3 := List.length_take_le i (allP c)
          have hsn := @findsT_snoc c (k + 1) (allP c) i
          have hfin : i = (allP c).length → findsT c (k + 1) ((allP c).take i) = findsT c (k + 1) (allP c) := fun e => by rw [e, List.take_length]
          generalize findsT c (k + 1) ((allP c).take i) = T at hl2 hsn hfin
          simp
          refine xif_split (fun h2 => ?_) (fun h2 => ?_)
          · simp at h2
            obtain ⟨p, ep⟩ := get_lt h2
            have hsn2 := hsn ep
            have hfd := c_pneumaticref22_found c (k + 1) p hk hn hm (List.mem_of_getElem? ep) (by omega)
            rw [show (((k + 1 : Nat) : Int)) = (k : Int) + 1 by omega] at hfd
            simp [h2, ep, -getElem?_pos, List.getElem?_cons_zero, List.getElem?_cons_succ]
            refine XDraw.intro (by kernel_rfl) ?_
            simp [h2, ep, -getElem?_pos, List.getElem?_cons_zero, List.getElem?_cons_succ]
            refine xcall_pure hfd ?_
            simp
            refine ⟨.of (by kernel_rfl), ?_⟩
            cases hb : foundB c (k + 1) p with
            | true =>
              rw [hb, if_pos rfl] at hsn2
              simp [h2, ep, -getElem?_pos, List.getElem?_cons_zero, List.getElem?_cons_succ]
              refine ⟨by omega, wrap_i64 (by omega) (by omega), i + 1, by omega, by omega, ?_⟩
              simp [hsn2]
              try omega
            | false =>
              rw [hb, if_neg (by simp)] at hsn2
              simp
              refine ⟨wrap_i64 (by omega) (by omega), i + 1, by omega, by omega, ?_⟩
              simp [hsn2]
          · simp at h2
            have hT := hfin (by omega)
            subst hT
            simp
            refine ⟨wrap_i64 (by omega) (by omega), k + 1, by omega, by omega, ?_⟩
            simp [hsucc]
            try decide
      · simp at h
        have hA := hend (by omega)
        subst hA
        simp [XEndT]
  | false =>
    rw [hsup, if_neg (by simp)] at hhead
    simp
    refine xcall_pure (c_pneumaticref21_All c hk (by omega)) ?_
    simp
    refine XLoop.gor [1, 4] [0] [0, 2] (fun st => [0, nameOf (slot st.t 3)]) (fun (k : Nat) => [(3, .acc 1 3 (allF c k).length), (5, .p (.int .i64 ((k : Int) + 1)))]) (fun k => [(1, accB 3 ((allF c k).map Fnd.row))]) (fun k => k ≤ 7) (fun k => 7 - k) 0 (by omega) ?_ ?_
    · simp [allF, hhead]
      try decide
    · intro k hk7
      have hlen := @allF_len c k
      have hb7 : k * (allP c).length ≤ 7 * 1200 := Nat.mul_le_mul hk7 hal
      have hsucc : allF c (k + 1) = allF c k ++ findsT c (k + 1) (allP c) := rfl
      have hend : k = 7 → allF c k = findingsL c := fun e => by rw [e]; rfl
      generalize allF c k = A at hlen hsucc hend
      simp
      refine xif_split (fun h => ?_) (fun h => ?_)
      · simp at h
        simp
        refine XLoop.gor [1, 4, 5] [0] [0, 1] (fun st => [0, nameOf (slot st.t 3)]) (fun (i : Nat) => [(3, .acc 1 3 (A ++ findsT c (k + 1) ((allP c).take i)).length), (6, .p (.int .i64 i))]) (fun i => [(1, accB 3 ((A ++ findsT c (k + 1) ((allP c).take i)).map Fnd.row))]) (fun i => i ≤ (allP c).length) (fun i => (allP c).length - i) 0 (by omega) ?_ ?_
        · simp [findsT_nil]
          try decide
        · intro i hi
          have hl2 := @findsT_len c (k + 1) ((allP c).take i)
          have hl3 := List.length_take_le i (allP c)
          have hsn := @findsT_snoc c (k + 1) (allP c) i
          have hfin : i = (allP c).length → findsT c (k + 1) ((allP c).take i) = findsT c (k + 1) (allP c) := fun e => by rw [e, List.take_length]
          generalize findsT c (k + 1) ((allP c).take i) = T at hl2 hsn hfin
          simp
          refine xif_split (fun h2 => ?_) (fun h2 => ?_)
          · simp at h2
            obtain ⟨p, ep⟩ := get_lt h2
            have hsn2 := hsn ep
            have hfd := c_pneumaticref22_found c (k + 1) p hk hn hm (List.mem_of_getElem? ep) (by omega)
            rw [show (((k + 1 : Nat) : Int)) = (k : Int) + 1 by omega] at hfd
            simp [h2, ep, -getElem?_pos, List.getElem?_cons_zero, List.getElem?_cons_succ]
            refine XDraw.intro (by kernel_rfl) ?_
            simp [h2, ep, -getElem?_pos, List.getElem?_cons_zero, List.getElem?_cons_succ]
            refine xcall_pure hfd ?_
            simp
            refine ⟨.of (by kernel_rfl), ?_⟩
            cases hb : foundB c (k + 1) p with
            | true =>
              rw [hb, if_pos rfl] at hsn2
              simp [h2, ep, -getElem?_pos, List.getElem?_cons_zero, List.getElem?_cons_succ]
              refine ⟨by omega, wrap_i64 (by omega) (by omega), i + 1, by omega, by omega, ?_⟩
              simp [hsn2]
              try omega
            | false =>
              rw [hb, if_neg (by simp)] at hsn2
              simp
              refine ⟨wrap_i64 (by omega) (by omega), i + 1, by omega, by omega, ?_⟩
              simp [hsn2]
          · simp at h2
            have hT := hfin (by omega)
            subst hT
            simp
            refine ⟨wrap_i64 (by omega) (by omega), k + 1, by omega, by omega, ?_⟩
            simp [hsucc]
            try decide
      · simp at h
        have hA := hend (by omega)
        subst hA
        simp [XEndT]

end Go.Am
/- Contracts: the reference of chapter 22: findings, texts, sides. -/
namespace Go.Am
open Go Go.Proofs Go.Pn

def wordsL : List Txt := [[110, 111, 32, 115, 117, 112, 112, 108, 121], [111, 112, 101, 110, 32, 112, 105, 108, 111, 116], [111, 112, 101, 110, 32, 99, 104, 97, 109, 98, 101, 114], [117, 110, 102, 101, 100],
  [106, 111, 105, 110, 101, 100, 32, 111, 117, 116, 112, 117, 116, 115], [100, 101, 97, 100, 32, 101, 110, 100], [112, 108, 117, 103, 103, 101, 100, 32, 101, 120, 104, 97, 117, 115, 116], [111, 112, 112, 111, 115, 101, 100, 32, 112, 105, 108, 111, 116, 115]]
def wordAt (k : Int) : Txt := (wordsL[k.toNat]?).getD []
theorem wordAt_at {k : Int} (h0 : 0 ≤ k) (h7 : k ≤ 7) : wordsL[k.toNat]? = some (wordAt k) := by
  have : k.toNat < wordsL.length := by show k.toNat < 8; omega
  unfold wordAt
  rw [List.getElem?_eq_getElem this]; rfl
theorem wordAt_len {k : Int} (h0 : 0 ≤ k) (h7 : k ≤ 7) : (wordAt k).length ≤ 15 := by
  have := List.mem_of_getElem? (wordAt_at h0 h7)
  exact (by decide +kernel : ∀ w ∈ wordsL, w.length ≤ 15) _ this
def nameAt (c : Circuit) (i : Int) : Txt := match c.parts[i.toNat]? with | some q => q.name | none => []
def textErr (c : Circuit) (f : Fnd) : Int := if checkP c ≠ 0 then checkP c else if f.kind < 0 ∨ 7 < f.kind then 1 else if f.kind = 0 then (if f = ⟨0, ⟨0, []⟩⟩ then 0 else 3) else givenErr c f.at_
def textP (c : Circuit) (f : Fnd) : Txt := if textErr c f ≠ 0 then [] else if f.kind = 0 then wordAt 0 else (((wordAt f.kind ++ [58, 32]) ++ nameAt c f.at_.part) ++ [46]) ++ f.at_.name
def sideErr (c : Circuit) (p : Port) : Int := if checkP c ≠ 0 then checkP c else givenErr c p
def sideL (c : Circuit) (p : Port) (give : Bool) : List Port := if sideErr c p ≠ 0 then [] else onlyL c (around c p) give

theorem c_pneumaticref22_Findings (c : Circuit) (hs : Sized c) : Pure Go.Proofs.Tryz.prog GL 42 [c.av] (.tup [.p (.lst 3 ((if checkP c = 0 then findingsL c else []).map Fnd.enc)), .p (.int .i64 (checkP c))]) := by
  refine Pure.of_walk (N := 12) Go.Proofs.Tryz.func42 rfl rfl rfl (by simp) (by first | (simp; done) | simp [*]) ?_
  simp
  refine xcall_pure (c_pneumaticref21_Check c hs) ?_
  by_cases h : checkP c = 0
  · have h2 := check_parts h
    simp [h]
    refine xcall_pure (c_pneumaticref22_All c h2.1 h2.2.1 h2.2.2) ?_
    simp [XEndT, h]
  · simp [h, XEndT]

theorem c_pneumaticref22_Port (c : Circuit) (p : Port) (h : checkP c = 0) : Pure Go.Proofs.Tryz.prog GL 99 [c.av, p.av] (.p (.int .i64 (givenErr c p))) := by
  refine Pure.of_walk (N := 20) Go.Proofs.Tryz.func99 rfl rfl rfl (by simp) (by first | (simp; done) | simp [*]) ?_
  have h2 := check_parts h
  simp
  by_cases hr : p.part < 0 ∨ (c.parts.length : Int) ≤ p.part
  · have hre : rangeErr c p = 2 := if_pos hr
    have hg : givenErr c p = 2 := by simp [givenErr, hre]
    rw [hg]
    by_cases h1 : p.part < 0
    · simp [h1, XEndT]
    · have h3 : (c.parts.length : Int) ≤ p.part := by omega
      simp [h1, h3, XEndT]
  · have hre : rangeErr c p = 0 := if_neg hr
    have h1 : ¬ p.part < 0 := by omega
    have h3 : ¬ (c.parts.length : Int) ≤ p.part := by omega
    have hpo : PartOk c p := ⟨by omega, by omega⟩
    obtain ⟨i, q, e1, e2, e3, e4⟩ := partOk_at hpo
    have hq := h2.1 q (List.mem_of_getElem? e3)
    have hpl := plays_iff (k := q.kind.toNat) (s := p.name) (by omega)
    have hro : roleP c p = playsN q.kind.toNat p.name := by rw [roleP, e4]
    have hg : givenErr c p = if roleP c p < 0 then 6 else 0 := by
      have e5 : p.part.toNat = i := by omega
      rw [givenErr, hre, if_neg (by simp), nameErr, e5, e3, hro]
      simp only
      by_cases hm : p.name ∈ portsOf q
      · have : ¬ playsN q.kind.toNat p.name < 0 := fun hh => (hpl.1 hh) hm
        rw [if_pos hm, if_neg this]
      · rw [if_neg hm, if_pos (hpl.2 hm)]
    rw [hg]
    simp [h1, h3]
    refine xcall_pure (c_pneumaticref22_role c p h2.1 hpo) ?_
    simp
    by_cases hn : roleP c p < 0 <;> simp [hn, XEndT]

theorem c_pneumaticref22_words (_ : Unit) : Pure Go.Proofs.Tryz.prog GL 100 [] (.p (.lst 1 (wordsL.map Txt.enc))) := by
  refine Pure.of_walk (N := 2) Go.Proofs.Tryz.func100 rfl rfl rfl (by simp) (by first | (simp; done) | simp [*]) ?_
  simp [XEndT, wordsL]

theorem c_pneumaticref22_Text (c : Circuit) (f : Fnd) (hs : Sized c) (hf : f.at_.name.length < 4611686018427387900) : Pure Go.Proofs.Tryz.prog GL 44 [c.av, f.av] (.tup [.p (.str (textP c f)), .p (.int .i64 (textErr c f))]) := by
  refine Pure.of_walk (N := 54) Go.Proofs.Tryz.func44 rfl rfl rfl (by simp) (by first | (simp; done) | simp [*]) ?_
  simp
  refine xcall_pure (c_pneumaticref21_Check c hs) ?_
  by_cases h : checkP c = 0
  · have h2 := check_parts h
    by_cases hr : f.kind < 0 ∨ 7 < f.kind
    · have hte : textErr c f = 1 := by unfold textErr; rw [if_neg (by simpa using h), if_pos hr]
      have htp : textP c f = [] := by unfold textP; rw [hte, if_pos (by simp)]
      rw [hte, htp]
      by_cases h1 : f.kind < 0
      · simp [h, h1, XEndT]
      · have h3 : 7 < f.kind := by omega
        simp [h, h1, h3, XEndT]
    · have h1 : ¬ f.kind < 0 := by omega
      have h3 : ¬ 7 < f.kind := by omega
      by_cases h0 : f.kind = 0
      · have hte : textErr c f = if f = ⟨0, ⟨0, []⟩⟩ then 0 else 3 := by unfold textErr; rw [if_neg (by simpa using h), if_neg hr, if_pos h0]
        by_cases hz : f = ⟨0, ⟨0, []⟩⟩
        · subst hz
          have htp : textP c ⟨0, ⟨0, []⟩⟩ = wordAt 0 := by unfold textP; rw [hte, if_pos rfl, if_neg (by simp), if_pos rfl]
          rw [hte, htp]
          simp [h, XEndT, wordAt, wordsL]
        · rw [if_neg hz] at hte
          have htp : textP c f = [] := by unfold textP; rw [hte, if_pos (by simp)]
          rw [hte, htp]
          obtain ⟨k, p, s⟩ := f
          simp at hz h0
          subst h0
          have hz2 : (!decide (p = 0) || !decide (s = [])) = true := by
            by_cases hp0 : p = 0
            · simp [hp0, hz rfl hp0]
            · simp [hp0]
          simp [h, hz2, XEndT]
      · have hte : textErr c f = givenErr c f.at_ := by unfold textErr; rw [if_neg (by simpa using h), if_neg hr, if_neg h0]
        simp [h, h1, h3, h0]
        refine xcall_pure (c_pneumaticref22_Port c f.at_ h) ?_
        by_cases hg : givenErr c f.at_ = 0
        · have htp : textP c f = (((wordAt f.kind ++ [58, 32]) ++ nameAt c f.at_.part) ++ [46]) ++ f.at_.name := by unfold textP; rw [hte, if_neg (by simpa using hg), if_neg h0]
          obtain ⟨q, g1, g2, g3⟩ := given_mem.1 hg
          have hi := (List.getElem?_eq_some_iff.1 g1).1
          have hnm : nameAt c f.at_.part = q.name := by unfold nameAt; rw [g1]
          have hw := wordAt_at (k := f.kind) (by omega) (by omega)
          have hw2 : f.kind.toNat < wordsL.length := by show f.kind.toNat < 8; omega
          have hwl := wordAt_len (k := f.kind) (by omega) (by omega)
          have hql := hs.names q (List.mem_of_getElem? g1)
          have hwd := c_pneumaticref22_words ()
          have hkq := h2.1 q (List.mem_of_getElem? g1)
          have hsl : f.at_.name.length ≤ 3 := (by decide +kernel : ∀ k, k < 14 → ∀ s ∈ kindPorts k, s.length ≤ 3) q.kind.toNat (by omega) _ g3
          rw [hte, htp, hg, hnm]
          generalize wordAt f.kind = W at *
          generalize wordsL = WL at *
          simp [hg]
          refine XDraw.intro (by kernel_rfl) ?_
          simp
          refine xcall_pure hwd ?_
          simp [hw, hw2, g1, hi, g2, Txt.enc, Part.enc, -getElem?_pos, List.getElem?_cons_zero, List.getElem?_cons_succ]
          refine ⟨by omega, by omega, by omega, by omega, by omega, by omega, by omega, .of (by kernel_rfl), ?_⟩
          simp [XEndT]
        · have htp : textP c f = [] := by unfold textP; rw [hte, if_pos hg]
          rw [hte, htp]
          simp [hg, XEndT]
  · have hte : textErr c f = checkP c := by unfold textErr; rw [if_pos h]
    have htp : textP c f = [] := by unfold textP; rw [hte, if_pos h]
    rw [hte, htp]
    simp [h, XEndT]

theorem c_pneumaticref22_Side (c : Circuit) (p : Port) (give : Bool) (hs : Sized c) : Pure Go.Proofs.Tryz.prog GL 53 [c.av, p.av, .p (.bool give)] (.tup [.p (.lst 2 ((sideL c p give).map Port.enc)), .p (.int .i64 (sideErr c p))]) := by
  refine Pure.of_walk (N := 27) Go.Proofs.Tryz.func53 rfl rfl rfl (by simp) (by first | (simp; done) | simp [*]) ?_
  simp
  refine xcall_pure (c_pneumaticref21_Check c hs) ?_
  by_cases h : checkP c = 0
  · have h2 := check_parts h
    have hse : sideErr c p = givenErr c p := by unfold sideErr; rw [if_neg (by simpa using h)]
    simp [h]
    refine xcall_pure (c_pneumaticref22_Port c p h) ?_
    by_cases hg : givenErr c p = 0
    · have hal := allP_len h2.1 (by omega)
      have har := @around_len c p
      have hsl : sideL c p give = onlyL c (around c p) give := by unfold sideL; rw [hse, if_neg (by simpa using hg)]
      rw [hse, hsl, hg]
      simp [hg]
      refine XDraw.intro (by kernel_rfl) ?_
      simp
      refine xcall_pure (c_pneumaticref21_Around c p h2.1 (by omega) (by omega)) ?_
      simp
      refine xcall_pure (c_pneumaticref22_only c (around c p) give h2.1 (by omega) partOk_around) ?_
      simp
      refine ⟨.of (by kernel_rfl), ?_⟩
      simp [XEndT]
    · have hsl : sideL c p give = [] := by unfold sideL; rw [hse, if_pos hg]
      rw [hse, hsl]
      simp [hg, XEndT]
  · have hse : sideErr c p = checkP c := by unfold sideErr; rw [if_pos h]
    have hsl : sideL c p give = [] := by unfold sideL; rw [hse, if_pos h]
    rw [hse, hsl]
    simp [h, XEndT]

theorem get_ext {α : Type} {a b : List α} {k : Nat} (hl : a.length = b.length) (hk : k = a.length) (hp : ∀ j, j < k → a[j]? = b[j]?) : a = b := by
  apply List.ext_getElem?
  intro j
  by_cases h : j < k
  · exact hp j h
  · rw [List.getElem?_eq_none (by omega), List.getElem?_eq_none (by omega)]

theorem c_pneumaticref22_Same (a b : List Fnd) (ha : a.length < 4611686018427387904) : Pure Go.Proofs.Tryz.prog GL 45 [.p (.lst 3 (a.map Fnd.enc)), .p (.lst 3 (b.map Fnd.enc))] (.p (.bool (decide (a = b)))) := by
  refine Pure.of_walk (N := 26) Go.Proofs.Tryz.func45 rfl rfl rfl (by simp) (by first | (simp; done) | simp [*]) ?_
  simp
  by_cases hl : a.length = b.length
  · simp [hl]
    refine XLoop.go [0, 1] [] 0 [] (fun _ => []) (fun _ (k : Nat) => [(5, .p (.int .i64 k))]) (fun _ _ => []) (fun k => k ≤ a.length ∧ ∀ j, j < k → a[j]? = b[j]?) (fun k => a.length - k) 0 ⟨by omega, fun j h => by omega⟩ ?_ ?_
    · simp
    · rintro k ⟨hk, hp⟩
      simp
      refine xif_split (fun h => ?_) (fun h => ?_)
      · simp [hl] at h
        obtain ⟨x, e⟩ := get_lt (xs := a) (k := k) (by omega)
        obtain ⟨y, e2⟩ := get_lt h
        have h' : k < a.length := by omega
        simp
        refine XDraw.intro (by kernel_rfl) ?_
        simp [h, h', e, e2, Fnd.enc, -getElem?_pos, List.getElem?_cons_zero, List.getElem?_cons_succ]
        refine ⟨.of (by kernel_rfl), ?_⟩
        by_cases hxy : x = y
        · subst hxy
          simp
          refine ⟨wrap_i64 (by omega) (by omega), k + 1, ⟨by omega, fun j hj => ?_⟩, by omega, ?_⟩
          · rcases (by omega : j = k ∨ j < k) with rfl | hj
            · rw [e, e2]
            · exact hp j hj
          · simp
        · have hne : a ≠ b := fun hab => by rw [hab, e2] at e; exact hxy (Option.some.inj e).symm
          have hb : (!decide (x.kind = y.kind) || !decide (x.at_ = y.at_)) = true := by
            obtain ⟨x1, x2⟩ := x
            obtain ⟨y1, y2⟩ := y
            simp at hxy ⊢
            by_cases h1 : x1 = y1
            · exact .inr (hxy h1)
            · exact .inl h1
          rw [hb]
          simp [XEndT, hne]
      · simp at h
        have := get_ext hl (by omega) hp
        simp [XEndT, this]
  · have hne : a ≠ b := fun e => hl (by rw [e])
    have hl' : ¬ ((a.length : Int) = b.length) := by omega
    simp [hl, hl', hne, XEndT]

end Go.Am
/- Contracts: package inspect: roles, and the rules of findings. -/
namespace Go.Am
open Go Go.Proofs Go.Pn


theorem role_all {c : Circuit} (hk : kindsOk c) {p : Port} (hp : p ∈ allP c) : ∃ (i : Nat) (q : Part), p.part = i ∧ i < c.parts.length ∧ c.parts[i]? = some q ∧ kindAt c p.part = q.kind ∧ (0 ≤ q.kind ∧ q.kind < 14) ∧ p.name ∈ kindPorts q.kind.toNat ∧ roleOf q.kind.toNat p.name = roleP c p ∧ 0 ≤ roleP c p := by
  obtain ⟨i, q, e1, e2, e3, e4⟩ := partOk_at (partOk_all hp)
  obtain ⟨q', g1, g2, g3⟩ := given_mem.1 (allP_mem.1 hp)
  have e5 : p.part.toNat = i := by omega
  rw [e5, e3] at g1; cases g1
  have hq := hk q (List.mem_of_getElem? e3)
  have hv := (vent_facts (k := q.kind.toNat) (by omega) true).2 p.name g3
  have hr : roleP c p = playsN q.kind.toNat p.name := by rw [roleP, e4]
  have hpl := plays_iff (k := q.kind.toNat) (s := p.name) (by omega)
  refine ⟨i, q, e1, e2, e3, e4, hq, g3, by rw [hr, hv.2], ?_⟩
  rw [hr]
  by_cases h : playsN q.kind.toNat p.name < 0
  · exact absurd g3 (hpl.1 h)
  · omega

theorem c_inspect_role (c : Circuit) (p : Port) (hk : kindsOk c) (hp : p ∈ allP c) : Pure Go.Proofs.Tryz.prog GL 153 [c.av, p.av] (.p (.int .i64 (roleP c p))) := by
  refine Pure.of_walk (N := 21) Go.Proofs.Tryz.func153 rfl rfl rfl (by simp) (by first | (simp; done) | simp [*]) ?_
  obtain ⟨i, q, e1, e2, e3, e4, e5, e6, e7, e8⟩ := role_all hk hp
  obtain ⟨pi, pn⟩ := p
  simp only at e1 e4 e6 e7
  subst e1
  have hro := c_part_Role q.kind pn e5
  rw [e7, if_neg (by omega), if_neg (by omega)] at hro
  generalize roleP c ⟨(i : Int), pn⟩ = r at *
  simp
  refine XDraw.intro (by kernel_rfl) ?_
  simp [e2, e3, Part.enc, -getElem?_pos, List.getElem?_cons_zero, List.getElem?_cons_succ]
  refine xcall_pure hro ?_
  simp
  refine ⟨.of (by kernel_rfl), ?_⟩
  simp [XEndT]

theorem c_inspect_gives (c : Circuit) (p : Port) (hk : kindsOk c) (hp : p ∈ allP c) : Pure Go.Proofs.Tryz.prog GL 102 [c.av, p.av] (.p (.bool (givesB c p))) := by
  refine Pure.of_walk (N := 9) Go.Proofs.Tryz.func102 rfl rfl rfl (by simp) (by first | (simp; done) | simp [*]) ?_
  simp
  refine xcall_pure (c_inspect_role c p hk hp) ?_
  simp [XEndT, givesB]

theorem c_inspect_takes (c : Circuit) (p : Port) (hk : kindsOk c) (hp : p ∈ allP c) : Pure Go.Proofs.Tryz.prog GL 108 [c.av, p.av] (.p (.bool (takesB c p))) := by
  refine Pure.of_walk (N := 12) Go.Proofs.Tryz.func108 rfl rfl rfl (by simp) (by first | (simp; done) | simp [*]) ?_
  simp
  refine xcall_pure (c_inspect_role c p hk hp) ?_
  have ht : takesB c p = (decide (roleP c p = 0) || (decide (roleP c p = 3) || decide (roleP c p = 4))) := rfl
  rw [ht]
  generalize roleP c p = r
  simp
  by_cases h0 : r = 0
  · simp [h0, XEndT]
  · by_cases h3 : r = 3
    · simp [h0, h3, XEndT]
    · by_cases h4 : r = 4 <;> simp [h0, h3, h4, XEndT]

theorem c_inspect_filtered (c : Circuit) (l : List Port) (q : Port → Bool) (m : Nat) (hl : l.length < 100000) (hq : ∀ p ∈ l, Pure Go.Proofs.Tryz.prog GL m [c.av, p.av] (.p (.bool (q p)))) : Pure Go.Proofs.Tryz.prog GL 101 [c.av, .p (.lst 2 (l.map Port.enc)), .fn (.func m) []] (.p (.lst 2 ((l.filter q).map Port.enc))) := by
  refine Pure.of_walk (N := 26) Go.Proofs.Tryz.func101 rfl rfl rfl (by simp) (by first | (simp; done) | simp [*]) ?_
  simp
  refine XLoop.go [2, 3, 10, 11] [0] 1 [1] (nms [7]) (fun nx (k : Nat) => [(7, .acc nx 2 ((l.take k).filter q).length), (12, .p (.int .i64 k))]) (fun nx k => [(nx, accB 2 (((l.take k).filter q).map Port.row))]) (fun k => k ≤ l.length) (fun k => l.length - k) 0 (by omega) ?_ ?_
  · simp
  · intro k hk1
    have hb : ((l.take k).filter q).length ≤ k := by
      have h1 := List.length_filter_le q (l.take k)
      have h2 := List.length_take_le k l
      omega
    have hsn := @filter_snoc _ q l k
    have hend : k = l.length → (l.take k).filter q = l.filter q := fun e => by rw [e, List.take_length]
    generalize (l.take k).filter q = A at hb hsn hend
    simp
    refine xif_split (fun h => ?_) (fun h => ?_)
    · simp at h
      obtain ⟨x, e⟩ := get_lt h
      have hx := hq x (List.mem_of_getElem? e)
      have hsn2 := hsn e
      simp [h, e, -getElem?_pos, List.getElem?_cons_zero, List.getElem?_cons_succ]
      refine xcall_pure hx ?_
      cases hb2 : q x with
      | true =>
        simp
        refine ⟨by omega, wrap_i64 (by omega) (by omega), k + 1, by omega, by omega, ?_⟩
        simp [hsn2, hb2]
      | false =>
        simp
        refine ⟨wrap_i64 (by omega) (by omega), k + 1, by omega, by omega, ?_⟩
        simp [hsn2, hb2]
    · simp at h
      have hA := hend (by omega)
      subst hA
      simp [XEndT]

theorem c_filtered_gives (c : Circuit) (l : List Port) (hk : kindsOk c) (hl : l.length < 100000) (ha : ∀ q ∈ l, q ∈ allP c) : Pure Go.Proofs.Tryz.prog GL 101 [c.av, .p (.lst 2 (l.map Port.enc)), .fn (.func 102) []] (.p (.lst 2 ((onlyL c l true).map Port.enc))) :=
  c_inspect_filtered c l (givesB c) 102 hl fun p hp => c_inspect_gives c p hk (ha p hp)
theorem c_filtered_takes (c : Circuit) (l : List Port) (hk : kindsOk c) (hl : l.length < 100000) (ha : ∀ q ∈ l, q ∈ allP c) : Pure Go.Proofs.Tryz.prog GL 101 [c.av, .p (.lst 2 (l.map Port.enc)), .fn (.func 108) []] (.p (.lst 2 ((onlyL c l false).map Port.enc))) :=
  c_inspect_filtered c l (takesB c) 108 hl fun p hp => c_inspect_takes c p hk (ha p hp)

theorem c_inspect_lonely (n : Int) : Pure Go.Proofs.Tryz.prog GL 151 [.p (.int .i64 n)] (.fn (.func 208) [.iptr 1 [[.int .i64 n]] 0 0]) := by
  refine Pure.of_walk (N := 4) Go.Proofs.Tryz.func151 rfl rfl rfl (by simp) (by first | (simp; done) | simp [*]) ?_
  simp [XEndT]

theorem c_inspect_lonely_1 (c : Circuit) (l : List Port) (p : Port) (n : Int) (hk : kindsOk c) (hl : l.length < 100000) (hp : p ∈ allP c) : Pure Go.Proofs.Tryz.prog GL 208 [c.av, .p (.lst 2 (l.map Port.enc)), p.av, .iptr 1 [[.int .i64 n]] 0 0] (.p (.bool (decide (roleP c p = n) && decide (l.length = 1)))) := by
  refine Pure.of_walk (N := 18) Go.Proofs.Tryz.func208 rfl rfl rfl (by simp) (by first | (simp; done) | simp [*]) ?_
  simp
  refine XDraw.intro (by kernel_rfl) ?_
  simp
  refine xcall_pure (c_inspect_role c p hk hp) ?_
  generalize roleP c p = r
  simp
  by_cases h : r = n
  · subst h
    simp
    refine ⟨.of (by kernel_rfl), ?_⟩
    simp [XEndT]
    omega
  · simp [h]
    refine ⟨.of (by kernel_rfl), ?_⟩
    simp [XEndT]

theorem c_inspect_kinds_1 (c : Circuit) (l : List Port) (p : Port) (hk : kindsOk c) (hl : l.length < 100000) (hp : p ∈ allP c) (ha : ∀ q ∈ l, q ∈ allP c) : Pure Go.Proofs.Tryz.prog GL 152 [c.av, .p (.lst 2 (l.map Port.enc)), p.av] (.p (.bool (ruleB c 3 l p))) := by
  refine Pure.of_walk (N := 18) Go.Proofs.Tryz.func152 rfl rfl rfl (by simp) (by first | (simp; done) | simp [*]) ?_
  have hg := c_filtered_gives c l hk hl ha
  simp
  refine xcall_pure (c_inspect_role c p hk hp) ?_
  have hr : ruleB c 3 l p = (decide (roleP c p = 0) && decide ((onlyL c l true).length = 0)) := rfl
  rw [hr]
  generalize roleP c p = r
  generalize onlyL c l true = G at *
  by_cases h : r = 0
  · simp [h]
    refine xcall_pure hg ?_
    simp [XEndT, h]
  · simp [h, XEndT]

theorem c_inspect_kinds_2 (c : Circuit) (l : List Port) (p : Port) (hk : kindsOk c) (hl : l.length < 100000) (hp : p ∈ allP c) (ha : ∀ q ∈ l, q ∈ allP c) (hm : p ∈ l) : Pure Go.Proofs.Tryz.prog GL 154 [c.av, .p (.lst 2 (l.map Port.enc)), p.av] (.p (.bool (ruleB c 4 l p))) := by
  refine Pure.of_walk (N := 13) Go.Proofs.Tryz.func154 rfl rfl rfl (by simp) (by first | (simp; done) | simp [*]) ?_
  have hg := c_filtered_gives c l hk hl ha
  have hlen : (onlyL c l true).length ≤ l.length := List.length_filter_le ..
  have hix := c_Idx_Port (onlyL c l true) p (by omega)
  have hr : ruleB c 4 l p = decide (0 < idxI (onlyL c l true) fun x => decide (x = p)) := by
    have hmem : p ∈ onlyL c l true ↔ roleP c p = 1 := by
      unfold onlyL
      rw [List.mem_filter]
      simp [sideB, givesB, hm]
    show (decide (roleP c p = 1) && !decide ((onlyL c l true).head? = some p)) = _
    rw [Bool.eq_iff_iff]
    rcases idxI_cases (onlyL c l true) (fun x => decide (x = p)) with ⟨h1, h2⟩ | ⟨i, x, h1, h2, h3, h4⟩
    · have hnot : p ∉ onlyL c l true := fun hh => by
        have := List.findIdx?_eq_none_iff.1 h1 p hh
        simp at this
      have : ¬ roleP c p = 1 := fun hh => hnot (hmem.2 hh)
      rw [h2]
      simp [this]
    · have hx : x = p := by simpa using h4
      subst hx
      have h5 : roleP c x = 1 := hmem.1 (List.mem_of_getElem? h3)
      rw [h2]
      obtain ⟨k1, k2, k3⟩ := List.findIdx?_eq_some_iff_getElem.1 h1
      cases i with
      | zero =>
        have : (onlyL c l true).head? = some x := by rw [List.head?_eq_getElem?, h3]
        simp [this]
      | succ i =>
        have hne : (onlyL c l true).head? ≠ some x := fun hh => by
          rw [List.head?_eq_getElem?] at hh
          obtain ⟨k4, k5⟩ := List.getElem?_eq_some_iff.1 hh
          have := k3 0 (by omega)
          simp [k5] at this
        simp [h5, hne]
  rw [hr]
  generalize onlyL c l true = G at *
  simp
  refine XDraw.intro (by kernel_rfl) ?_
  simp
  refine xcall_pure hg ?_
  simp
  refine xcall_pure hix ?_
  simp
  refine ⟨.of (by kernel_rfl), ?_⟩
  simp [XEndT]

theorem c_inspect_kinds_3 (c : Circuit) (l : List Port) (p : Port) (hk : kindsOk c) (hl : l.length < 100000) (hp : p ∈ allP c) (ha : ∀ q ∈ l, q ∈ allP c) : Pure Go.Proofs.Tryz.prog GL 155 [c.av, .p (.lst 2 (l.map Port.enc)), p.av] (.p (.bool (ruleB c 5 l p))) := by
  refine Pure.of_walk (N := 17) Go.Proofs.Tryz.func155 rfl rfl rfl (by simp) (by first | (simp; done) | simp [*]) ?_
  have hg := c_filtered_takes c l hk hl ha
  have hr : ruleB c 5 l p = (givesB c p && decide ((onlyL c l false).length = 0)) := rfl
  rw [hr]
  generalize onlyL c l false = G at *
  simp
  refine xcall_pure (c_inspect_gives c p hk hp) ?_
  cases h : givesB c p with
  | true =>
    simp
    refine xcall_pure hg ?_
    simp [XEndT]
  | false => simp [XEndT]

theorem c_inspect_kinds_4 (c : Circuit) (l : List Port) (p : Port) (hk : kindsOk c) (hl : l.length < 100000) (hp : p ∈ allP c) : Pure Go.Proofs.Tryz.prog GL 156 [c.av, .p (.lst 2 (l.map Port.enc)), p.av] (.p (.bool (ruleB c 6 l p))) := by
  refine Pure.of_walk (N := 16) Go.Proofs.Tryz.func156 rfl rfl rfl (by simp) (by first | (simp; done) | simp [*]) ?_
  simp
  refine xcall_pure (c_inspect_role c p hk hp) ?_
  have hr : ruleB c 6 l p = (decide (roleP c p = 2) && decide (1 < l.length)) := rfl
  rw [hr]
  generalize roleP c p = r
  by_cases h : r = 2
  · simp [h, XEndT]
    omega
  · simp [h, XEndT]

theorem c_inspect_kinds_5 (c : Circuit) (l : List Port) (p : Port) (hk : kindsOk c) (hl : l.length < 100000) (hp : p ∈ allP c) : Pure Go.Proofs.Tryz.prog GL 157 [c.av, .p (.lst 2 (l.map Port.enc)), p.av] (.p (.bool (ruleB c 7 l p))) := by
  refine Pure.of_walk (N := 27) Go.Proofs.Tryz.func157 rfl rfl rfl (by simp) (by first | (simp; done) | simp [*]) ?_
  obtain ⟨i, q, e1, e2, e3, e4, _⟩ := role_all hk hp
  have hco := c_Con_Port l ⟨p.part, [49, 50]⟩ (by omega)
  have hr : ruleB c 7 l p = (decide (kindAt c p.part = 2) && (decide (p.name = [49, 52]) && decide ((⟨p.part, [49, 50]⟩ : Port) ∈ l))) := rfl
  rw [hr, e4]
  obtain ⟨pi, pn⟩ := p
  simp only at e1
  subst e1
  by_cases hq : q.kind = 2
  · by_cases hn : pn = [49, 52]
    · subst hn
      simp [e2, e3, Part.enc, hq, -getElem?_pos, List.getElem?_cons_zero, List.getElem?_cons_succ]
      refine xcall_pure hco ?_
      simp [XEndT, hq]
    · simp [e2, e3, Part.enc, hq, hn, -getElem?_pos, List.getElem?_cons_zero, List.getElem?_cons_succ]
      simp [XEndT]
  · simp [e2, e3, Part.enc, hq, -getElem?_pos, List.getElem?_cons_zero, List.getElem?_cons_succ]
    simp [XEndT]

end Go.Am
