/- Lemmas and contracts for the proof of a statement of this seat. -/
import Derived.Test.YtfcljeghfckabaaGreatDoorZCE
import Derived.Test.YtfcljeghfckabaaGreatDoorZA6
set_option linter.unusedVariables false
set_option linter.unusedSimpArgs false
/- Contracts: package pressure: the net of a port, as a map. -/
namespace Go.Am
open Go Go.Proofs Go.Pn

def prA (es : List (Port × Nat)) : List (AV × AV) := es.map fun e => (e.1.av, .p (.int .i64 (e.2 : Nat)))
def findP : List (Port × Nat) → Port → Option Nat
  | [], _ => none
  | (a, n) :: es, p => if a = p then some n else findP es p
theorem findP_mem {p : Port} {n : Nat} : ∀ {es : List (Port × Nat)}, findP es p = some n → (p, n) ∈ es
  | [], h => by cases h
  | (a, m) :: es, h => by
    simp only [findP] at h
    split at h
    · rename_i e; cases h; subst e; simp
    · exact List.mem_cons_of_mem _ (findP_mem h)
theorem findP_none {p : Port} {n : Nat} : ∀ {es : List (Port × Nat)}, (p, n) ∈ es → findP es p ≠ none
  | [], h => by cases h
  | (a, m) :: es, h => by
    simp only [findP]
    split
    · simp
    · rename_i e
      rcases List.mem_cons.1 h with h | h
      · cases h; exact absurd rfl e
      · exact findP_none h
theorem assoc_prA {es : List (Port × Nat)} {p : Port} : assocA (prA es) p.av = (findP es p).map fun (n : Nat) => AV.p (.int .i64 n) := by
  induction es with
  | nil => simp [prA, assocA, findP]
  | cons e es ih =>
    obtain ⟨a, b⟩ := e
    simp only [prA, List.map_cons, findP] at ih ⊢
    by_cases h : a = p
    · subst h
      simp [assocA]
    · have hne : a.av ≠ p.av := fun h2 => h (portAv_inj h2)
      rw [if_neg h, ← ih]
      unfold assocA
      rw [List.find?_cons_of_neg (by simpa using hne)]
@[simp] theorem look_prA {es : List (Port × Nat)} {p : Port} : (assocA (prA es) (.agg [.p (.int .i64 p.part), .p (.str p.name)])) = (findP es p).map fun (n : Nat) => AV.p (.int .i64 n) := assoc_prA
@[simp] theorem keys_prA {es : List (Port × Nat)} {i : Int} {s : Txt} : KeysIn Go.Proofs.Tryz.prog 69 (prA es) (.agg [.p (.int .i64 i), .p (.str s)]) = True := eq_true (keysIn_map (f := Prod.fst) (p := ⟨i, s⟩))
def pairsUp (c : Circuit) : Nat → List (Port × Nat)
  | 0 => []
  | k + 1 => pairsUp c k ++ match (nets c)[k]? with | some g => g.map (·, k) | none => []
def pairs (c : Circuit) : List (Port × Nat) := pairsUp c (nets c).length
def pairsIn (c : Circuit) (k : Nat) (g : List Port) (j : Nat) : List (Port × Nat) := pairsUp c k ++ (g.take j).map (·, k)
theorem pairsIn_zero {c : Circuit} {k : Nat} {g : List Port} : pairsIn c k g 0 = pairsUp c k := by simp [pairsIn]
theorem pairsIn_snoc {c : Circuit} {k j : Nat} {g : List Port} {p : Port} (e : g[j]? = some p) : pairsIn c k g (j + 1) = pairsIn c k g j ++ [(p, k)] := by
  unfold pairsIn
  rw [take_snoc e]; simp
theorem pairsIn_all {c : Circuit} {k : Nat} {g : List Port} (e : (nets c)[k]? = some g) : pairsIn c k g g.length = pairsUp c (k + 1) := by
  simp only [pairsIn, pairsUp, e, List.take_length]
theorem pairsUp_mem {c : Circuit} {p : Port} {n : Nat} : ∀ {k : Nat}, (p, n) ∈ pairsUp c k ↔ n < k ∧ ∃ g, (nets c)[n]? = some g ∧ p ∈ g
  | 0 => by simp [pairsUp]
  | k + 1 => by
    simp only [pairsUp, List.mem_append]
    rw [pairsUp_mem (k := k)]
    constructor
    · rintro (⟨h1, h2⟩ | h)
      · exact ⟨by omega, h2⟩
      · split at h
        · rename_i g e
          obtain ⟨q, hq, hh⟩ := List.mem_map.1 h
          cases hh
          exact ⟨by omega, g, e, hq⟩
        · cases h
    · rintro ⟨h1, g, e, hp⟩
      by_cases hn : n = k
      · subst hn
        right
        rw [e]
        exact List.mem_map.2 ⟨p, hp, rfl⟩
      · exact .inl ⟨by omega, g, e, hp⟩
theorem nets_nodup {c : Circuit} (h : checkP c = 0) {g : List Port} (hg : g ∈ nets c) : g.Nodup := by
  rw [nets_rt h] at hg
  obtain ⟨r, _, rfl⟩ := List.mem_map.1 hg
  exact (allP_nodup (check_parts h).1).filter _
theorem pairs_fresh {c : Circuit} (h : checkP c = 0) {k j : Nat} {g : List Port} {p : Port} (eg : (nets c)[k]? = some g) (e : g[j]? = some p) : findP (pairsIn c k g j) p = none := by
  cases hf : findP (pairsIn c k g j) p with
  | none => rfl
  | some n =>
    exfalso
    have hm := findP_mem hf
    unfold pairsIn at hm
    rcases List.mem_append.1 hm with hm | hm
    · obtain ⟨hn, g', e', hp⟩ := pairsUp_mem.1 hm
      have h1 := (netP_of h e' hp).1
      have h2 := (netP_of h eg (List.mem_of_getElem? e)).1
      omega
    · obtain ⟨q, hq, hh⟩ := List.mem_map.1 hm
      cases hh
      obtain ⟨i, hi, ei⟩ := List.getElem_of_mem hq
      have hi2 : i < j := by simp at hi; omega
      have : g[i]? = some p := by
        rw [← List.getElem?_take_of_lt hi2, List.getElem?_eq_getElem hi, ei]
      have := nodup_at (nets_nodup h (List.mem_of_getElem? eg)) this e
      omega
theorem find_pairs {c : Circuit} (h : checkP c = 0) {i : Int} {s : Txt} (hp : (⟨i, s⟩ : Port) ∈ allP c) : findP (pairs c) ⟨i, s⟩ = some (netN c i s) := by
  obtain ⟨g, e, hg⟩ := net_has h hp
  have hlt := (netN_at h hp).2
  have hm : ((⟨i, s⟩ : Port), netN c i s) ∈ pairs c := pairsUp_mem.2 ⟨hlt, g, e, hg⟩
  cases hf : findP (pairs c) ⟨i, s⟩ with
  | none => exact absurd hf (findP_none hm)
  | some n =>
    obtain ⟨_, g', e', hp'⟩ := pairsUp_mem.1 (findP_mem hf)
    rw [netN_of h e' hp']

end Go.Am
/- Contracts: package pressure: flows. -/
namespace Go.Am
open Go Go.Proofs Go.Pn

abbrev Nats.enc (l : List Nat) : List (List PV) := l.map fun n => [.int .i64 (n : Nat)]
def nInts (l : List Nat) : List Int := l.map fun (n : Nat) => (n : Int)
@[simp] def Psg.enc (y : Psg) : List PV := [.int .i64 y.part, .int .i64 y.to, .lst 1 ((nInts y.fr).map Int.enc), .bool y.all]
@[simp] def Psg.row (y : Psg) : List AV := [.p (.int .i64 y.part), .p (.int .i64 y.to), .p (.lst 1 ((nInts y.fr).map Int.enc)), .p (.bool y.all)]
@[simp] def Psg.av (y : Psg) : AV := .agg [.p (.int .i64 y.part), .p (.int .i64 y.to), .p (.lst 1 ((nInts y.fr).map Int.enc)), .p (.bool y.all)]
@[simp] theorem unpR_Psg {l : List Psg} : unpR (l.map Psg.row) = some (l.map Psg.enc) := unpR_map (f := Psg.row) (g := Psg.enc) (fun _ => rfl) l

def isSt (S : List Int) (v : Int) (n : Nat) : Bool := decide (S[n]? = some v)
end Go.Am
/- Contracts: package pressure: closures of states, closed. -/
namespace Go.Am
open Go Go.Proofs Go.Pn


@[simp] theorem range2_0 : (List.range 2)[0]? = some 0 := rfl
@[simp] theorem range2_1 : (List.range 2)[1]? = some 1 := rfl
@[simp] theorem range3_0 : (List.range 3)[0]? = some 0 := rfl
@[simp] theorem range3_1 : (List.range 3)[1]? = some 1 := rfl
@[simp] theorem range3_2 : (List.range 3)[2]? = some 2 := rfl
@[simp] theorem range2_nodup : (List.range 2).Nodup := List.nodup_range
@[simp] theorem range3_nodup : (List.range 3).Nodup := List.nodup_range

def cStep (q : List Int → Psg → Bool) (v : Int) (S : List Int) (y : Psg) : List Int := if S[y.to]? = some 0 ∧ q S y = true then S.set y.to v else S
inductive CReach (q : List Int → Psg → Bool) (v : Int) (l : List Psg) (S : List Int) : List Int → Prop
  | refl : CReach q v l S S
  | step {R : List Int} {y : Psg} (h : CReach q v l S R) (hm : y ∈ l) (h0 : R[y.to]? = some 0) (hq : q R y = true) : CReach q v l S (R.set y.to v)
theorem CReach.trans {q v l S R T} (h : CReach q v l S R) (k : CReach q v l R T) : CReach q v l S T := by
  induction k with
  | refl => exact h
  | step _ hm h0 hq ih => exact .step ih hm h0 hq
theorem CReach.one {q v l S} {y : Psg} (hm : y ∈ l) : CReach q v l S (cStep q v S y) := by
  unfold cStep
  split
  · rename_i h
    exact .step .refl hm h.1 h.2
  · exact .refl
theorem CReach.len {q v l S R} (h : CReach q v l S R) : R.length = S.length := by
  induction h with
  | refl => rfl
  | step _ _ _ _ ih => simp [ih]
end Go.Am
/- Contracts: package pressure: the closures of states. -/
namespace Go.Am
open Go Go.Proofs Go.Pn


def venF (S : List Int) (y : Psg) : Bool := y.fr.any (isSt S 1)

end Go.Am
/- Contracts: part.Vents as owned rows; pressure.open. -/
namespace Go.Am
open Go Go.Proofs Go.Pn

@[simp] theorem sliceElem_acc {P : Program} {e b k n : Nat} {K : Cont Prop} : @sliceElem P (.slice e) (.acc b k n) K = (@xTy P e ⟨fun _ => True⟩ ∧ K.k) := (rfl)

end Go.Am
/- Contracts: package pressure: passages. -/
namespace Go.Am
open Go Go.Proofs Go.Pn

section
variable {P : Program} {G : Globs} {N n0 : Nat}
theorem XLoop.goN {γ : Type} {c : Cont Code} {t : Slots} {s : Store} {nx : Nat} {Q : Cont KQ} (keep keepB : List Nat) (n : Nat) (M : γ → Slots) (B : γ → Store) (I : γ → Prop) (μ : γ → Nat) (g0 : γ) (hi : I g0)
    (h0 : Leads G N n0 ⟨t, s, nx⟩ ⟨M g0 ++ pick keep t, B g0 ++ pickS keepB s, n⟩)
    (round : ∀ g, I g → @xc P G N n0 c (M g ++ pick keep t) (B g ++ pickS keepB s) n ⟨fun x st' => @xthen x st' ⟨fun st' => ∃ g', I g' ∧ μ g' < μ g ∧
      Leads G N n0 st' ⟨M g' ++ pick keep t, B g' ++ pickS keepB s, n⟩⟩ Q⟩) : @XLoop P G N n0 c ⟨t, s, nx⟩ Q :=
  XLoop.goL (fun g => ⟨M g ++ pick keep t, B g ++ pickS keepB s, n⟩) I μ g0 hi h0 round
end

theorem FrzK.accRows {s : Store} {B : List Nat} {b k n : Nat} {rows : List (List AV)} {r : List (List PV)} (hB : b ∈ B) (hg : get s b = accB k rows) (hr : unpR rows = some r) (hn : rows.length = n) : FrzK s (· ∈ B) (.acc b k n) (.p (.lst k r)) := by
  have e := unpR_eq hr
  refine .frz _ _ (.one _ _ (.accRows hB hg e ?_))
  rw [← hn, e]; simp
theorem FrzB.last {s : Store} {B : List Nat} {k : Nat} {A : List (List AV)} {a b z x d : AV} (h : FrzK s (· ∈ B) z x) : FrzB s B (.cells k (A ++ [[a, b, z, d]])) (.cells k (A ++ [[a, b, x, d]])) := by
  refine .inr ⟨k, _, _, rfl, rfl, fun i j row x' h1 h2 => ?_⟩
  by_cases hi : i < A.length
  · rw [List.getElem?_append_left hi] at h1
    exact ⟨row, x', by rw [List.getElem?_append_left hi]; exact h1, h2, .keep _⟩
  · rw [List.getElem?_append_right (by omega)] at h1
    have hz : i - A.length = 0 := by
      cases e : i - A.length with
      | zero => rfl
      | succ m => rw [e] at h1; simp at h1
    rw [hz] at h1
    simp at h1
    subst h1
    refine ⟨[a, b, z, d], ?_⟩
    match j with
    | 0 => simp at h2; subst h2; exact ⟨a, by rw [List.getElem?_append_right (by omega), hz]; rfl, rfl, .keep _⟩
    | 1 => simp at h2; subst h2; exact ⟨b, by rw [List.getElem?_append_right (by omega), hz]; rfl, rfl, .keep _⟩
    | 2 => simp at h2; subst h2; exact ⟨z, by rw [List.getElem?_append_right (by omega), hz]; rfl, rfl, h⟩
    | 3 => simp at h2; subst h2; exact ⟨d, by rw [List.getElem?_append_right (by omega), hz]; rfl, rfl, .keep _⟩
    | j + 4 => simp at h2

@[simp] def thirdB : Option ABlk → Nat
  | some (.cells _ ([_, _, z, _] :: _)) => nameOf z
  | _ => 0

end Go.Am
