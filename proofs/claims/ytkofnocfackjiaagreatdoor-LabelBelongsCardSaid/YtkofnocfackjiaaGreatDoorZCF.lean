/- Lemmas and contracts for the proof of a statement of this seat. -/
import Derived.Test.YtkofnocfackjiaaGreatDoorZCE
import Derived.Test.YtkofnocfackjiaaGreatDoorZA6
set_option linter.unusedVariables false
set_option linter.unusedSimpArgs false
/- Contracts: package pressure: the net of a port, as a map. -/
namespace Go.Am
open Go Go.Proofs Go.Pn

def findP : List (Port × Nat) → Port → Option Nat
  | [], _ => none
  | (a, n) :: es, p => if a = p then some n else findP es p
theorem findP_mem {p : Port} {n : Nat} : ∀ {es : List (Port × Nat)}, findP es p = some n → (p, n) ∈ es
  | [], h => by cases h
  | (a, m) :: es, h => by
    simp only [findP] at h
    split at h
    · rename_i e; cases h; subst e; simp
    · exact List.mem_cons_of_mem _ (findP_mem h)
theorem findP_none {p : Port} {n : Nat} : ∀ {es : List (Port × Nat)}, (p, n) ∈ es → findP es p ≠ none
  | [], h => by cases h
  | (a, m) :: es, h => by
    simp only [findP]
    split
    · simp
    · rename_i e
      rcases List.mem_cons.1 h with h | h
      · cases h; exact absurd rfl e
      · exact findP_none h
def pairsUp (c : Circuit) : Nat → List (Port × Nat)
  | 0 => []
  | k + 1 => pairsUp c k ++ match (nets c)[k]? with | some g => g.map (·, k) | none => []
def pairs (c : Circuit) : List (Port × Nat) := pairsUp c (nets c).length
def pairsIn (c : Circuit) (k : Nat) (g : List Port) (j : Nat) : List (Port × Nat) := pairsUp c k ++ (g.take j).map (·, k)
theorem pairsIn_zero {c : Circuit} {k : Nat} {g : List Port} : pairsIn c k g 0 = pairsUp c k := by simp [pairsIn]
theorem pairsIn_snoc {c : Circuit} {k j : Nat} {g : List Port} {p : Port} (e : g[j]? = some p) : pairsIn c k g (j + 1) = pairsIn c k g j ++ [(p, k)] := by
  unfold pairsIn
  rw [take_snoc e]; simp
theorem pairsIn_all {c : Circuit} {k : Nat} {g : List Port} (e : (nets c)[k]? = some g) : pairsIn c k g g.length = pairsUp c (k + 1) := by
  simp only [pairsIn, pairsUp, e, List.take_length]
theorem pairsUp_mem {c : Circuit} {p : Port} {n : Nat} : ∀ {k : Nat}, (p, n) ∈ pairsUp c k ↔ n < k ∧ ∃ g, (nets c)[n]? = some g ∧ p ∈ g
  | 0 => by simp [pairsUp]
  | k + 1 => by
    simp only [pairsUp, List.mem_append]
    rw [pairsUp_mem (k := k)]
    constructor
    · rintro (⟨h1, h2⟩ | h)
      · exact ⟨by omega, h2⟩
      · split at h
        · rename_i g e
          obtain ⟨q, hq, hh⟩ := List.mem_map.1 h
          cases hh
          exact ⟨by omega, g, e, hq⟩
        · cases h
    · rintro ⟨h1, g, e, hp⟩
      by_cases hn : n = k
      · subst hn
        right
        rw [e]
        exact List.mem_map.2 ⟨p, hp, rfl⟩
      · exact .inl ⟨by omega, g, e, hp⟩
theorem nets_nodup {c : Circuit} (h : checkP c = 0) {g : List Port} (hg : g ∈ nets c) : g.Nodup := by
  rw [nets_rt h] at hg
  obtain ⟨r, _, rfl⟩ := List.mem_map.1 hg
  exact (allP_nodup (check_parts h).1).filter _
theorem pairs_fresh {c : Circuit} (h : checkP c = 0) {k j : Nat} {g : List Port} {p : Port} (eg : (nets c)[k]? = some g) (e : g[j]? = some p) : findP (pairsIn c k g j) p = none := by
  cases hf : findP (pairsIn c k g j) p with
  | none => rfl
  | some n =>
    exfalso
    have hm := findP_mem hf
    unfold pairsIn at hm
    rcases List.mem_append.1 hm with hm | hm
    · obtain ⟨hn, g', e', hp⟩ := pairsUp_mem.1 hm
      have h1 := (netP_of h e' hp).1
      have h2 := (netP_of h eg (List.mem_of_getElem? e)).1
      omega
    · obtain ⟨q, hq, hh⟩ := List.mem_map.1 hm
      cases hh
      obtain ⟨i, hi, ei⟩ := List.getElem_of_mem hq
      have hi2 : i < j := by simp at hi; omega
      have : g[i]? = some p := by
        rw [← List.getElem?_take_of_lt hi2, List.getElem?_eq_getElem hi, ei]
      have := nodup_at (nets_nodup h (List.mem_of_getElem? eg)) this e
      omega
theorem find_pairs {c : Circuit} (h : checkP c = 0) {i : Int} {s : Txt} (hp : (⟨i, s⟩ : Port) ∈ allP c) : findP (pairs c) ⟨i, s⟩ = some (netN c i s) := by
  obtain ⟨g, e, hg⟩ := net_has h hp
  have hlt := (netN_at h hp).2
  have hm : ((⟨i, s⟩ : Port), netN c i s) ∈ pairs c := pairsUp_mem.2 ⟨hlt, g, e, hg⟩
  cases hf : findP (pairs c) ⟨i, s⟩ with
  | none => exact absurd hf (findP_none hm)
  | some n =>
    obtain ⟨_, g', e', hp'⟩ := pairsUp_mem.1 (findP_mem hf)
    rw [netN_of h e' hp']

end Go.Am
/- Contracts: package pressure: flows. -/
namespace Go.Am
open Go Go.Proofs Go.Pn

def nInts (l : List Nat) : List Int := l.map fun (n : Nat) => (n : Int)
@[simp] def Psg.enc (y : Psg) : List PV := [.int .i64 y.part, .int .i64 y.to, .lst 1 ((nInts y.fr).map Int.enc), .bool y.all]
@[simp] def Psg.row (y : Psg) : List AV := [.p (.int .i64 y.part), .p (.int .i64 y.to), .p (.lst 1 ((nInts y.fr).map Int.enc)), .p (.bool y.all)]
@[simp] def Psg.av (y : Psg) : AV := .agg [.p (.int .i64 y.part), .p (.int .i64 y.to), .p (.lst 1 ((nInts y.fr).map Int.enc)), .p (.bool y.all)]
end Go.Am
/- Contracts: package pressure: closures of states, closed. -/
namespace Go.Am
open Go Go.Proofs Go.Pn


@[simp] theorem range2_0 : (List.range 2)[0]? = some 0 := rfl
@[simp] theorem range2_1 : (List.range 2)[1]? = some 1 := rfl
@[simp] theorem range3_0 : (List.range 3)[0]? = some 0 := rfl
@[simp] theorem range3_1 : (List.range 3)[1]? = some 1 := rfl
@[simp] theorem range3_2 : (List.range 3)[2]? = some 2 := rfl
@[simp] theorem range2_nodup : (List.range 2).Nodup := List.nodup_range
@[simp] theorem range3_nodup : (List.range 3).Nodup := List.nodup_range

end Go.Am
/- Contracts: package pressure: the closures of states. -/
namespace Go.Am
open Go Go.Proofs Go.Pn


end Go.Am
/- Contracts: part.Vents as owned rows; pressure.open. -/
namespace Go.Am
open Go Go.Proofs Go.Pn

end Go.Am
/- Contracts: package pressure: passages. -/
namespace Go.Am
open Go Go.Proofs Go.Pn

section
variable {P : Program} {G : Globs} {N n0 : Nat}
theorem XLoop.goN {γ : Type} {c : Cont Code} {t : Slots} {s : Store} {nx : Nat} {Q : Cont KQ} (keep keepB : List Nat) (n : Nat) (M : γ → Slots) (B : γ → Store) (I : γ → Prop) (μ : γ → Nat) (g0 : γ) (hi : I g0)
    (h0 : Leads G N n0 ⟨t, s, nx⟩ ⟨M g0 ++ pick keep t, B g0 ++ pickS keepB s, n⟩)
    (round : ∀ g, I g → @xc P G N n0 c (M g ++ pick keep t) (B g ++ pickS keepB s) n ⟨fun x st' => @xthen x st' ⟨fun st' => ∃ g', I g' ∧ μ g' < μ g ∧
      Leads G N n0 st' ⟨M g' ++ pick keep t, B g' ++ pickS keepB s, n⟩⟩ Q⟩) : @XLoop P G N n0 c ⟨t, s, nx⟩ Q :=
  XLoop.goL (fun g => ⟨M g ++ pick keep t, B g ++ pickS keepB s, n⟩) I μ g0 hi h0 round
end

@[simp] def thirdB : Option ABlk → Nat
  | some (.cells _ ([_, _, z, _] :: _)) => nameOf z
  | _ => 0

end Go.Am
