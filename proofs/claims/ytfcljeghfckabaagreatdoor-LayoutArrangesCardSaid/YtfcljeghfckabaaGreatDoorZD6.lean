/- Contracts: the reference's columns. -/
import Derived.Test.YtfcljeghfckabaaGreatDoorZD5
set_option linter.unusedVariables false
set_option linter.unusedSimpArgs false
namespace Go.Am
open Go Go.Proofs Go.Pn

def colK (l : List Plc) (ps : List Int) (c : Int) : Nat → List Int
  | 0 => []
  | i + 1 => match ps[i]? with
    | some x => if (plcAt l x).col = c then colK l ps c i ++ [c] else colK l ps c i
    | none => colK l ps c i
def colsR (l : List Plc) (ps : List Int) : Nat → List Int
  | 0 => []
  | c + 1 => colsR l ps c ++ colK l ps c ps.length
theorem colK_len {l : List Plc} {ps : List Int} {c : Int} : ∀ {k : Nat}, (colK l ps c k).length ≤ k
  | 0 => by simp [colK]
  | k + 1 => by
    have ih := @colK_len l ps c k
    simp only [colK]
    cases ps[k]? with
    | none => simp only; omega
    | some p => simp only; split <;> simp <;> omega
theorem colsR_len {l : List Plc} {ps : List Int} : ∀ {c : Nat}, (colsR l ps c).length ≤ c * ps.length
  | 0 => by simp [colsR]
  | c + 1 => by
    have ih := @colsR_len l ps c
    have := @colK_len l ps c ps.length
    simp only [colsR, List.length_append, Nat.succ_mul]; omega
theorem colK_count {l : List Plc} {ps : List Int} {c y : Int} : ∀ {k : Nat}, k ≤ ps.length → (colK l ps c k).count y = if y = c then ((ps.take k).map fun x => (plcAt l x).col).count y else 0
  | 0, _ => by simp [colK]
  | k + 1, h => by
    have ih := @colK_count l ps c y k (by omega)
    obtain ⟨x, e⟩ := get_lt (show k < ps.length by omega)
    simp only [colK, e]
    rw [take_snoc e, List.map_append, List.count_append]
    by_cases h1 : (plcAt l x).col = c
    · rw [if_pos h1, List.count_append, ih]
      by_cases h2 : y = c
      · subst h2; simp [h1]
      · rw [if_neg h2, if_neg h2]
        simp [Ne.symm h2]
    · rw [if_neg h1, ih]
      by_cases h2 : y = c
      · subst h2; simp [h1]
      · rw [if_neg h2, if_neg h2]
theorem colsR_count {l : List Plc} {ps : List Int} {y : Int} : ∀ {c : Nat}, (colsR l ps c).count y = if 0 ≤ y ∧ y < c then (ps.map fun x => (plcAt l x).col).count y else 0
  | 0 => by
    rw [if_neg (by omega)]; simp [colsR]
  | c + 1 => by
    have ih := @colsR_count l ps y c
    rw [colsR, List.count_append, ih, colK_count (Nat.le_refl _), List.take_length]
    by_cases h1 : y = c
    · rw [if_neg (by omega), if_pos h1, if_pos (by omega)]; simp
    · by_cases h2 : 0 ≤ y ∧ y < c
      · rw [if_pos h2, if_neg h1, if_pos (by omega)]; simp
      · rw [if_neg h2, if_neg h1, if_neg (by omega)]
theorem colK_all {l : List Plc} {ps : List Int} {c y : Int} : ∀ {k : Nat}, y ∈ colK l ps c k → y = c
  | 0, h => by simp [colK] at h
  | k + 1, h => by
    simp only [colK] at h
    cases e : ps[k]? with
    | none => rw [e] at h; exact colK_all h
    | some x =>
      rw [e] at h
      simp only at h
      split at h
      · rcases List.mem_append.1 h with h | h
        · exact colK_all h
        · simpa using h
      · exact colK_all h
theorem pw_const {L : List Int} {c : Int} (h : ∀ y ∈ L, y = c) : L.Pairwise (· ≤ ·) := by
  rw [List.pairwise_iff_getElem]
  intro i j hi hj _
  rw [h _ (List.getElem_mem hi), h _ (List.getElem_mem hj)]
  exact Int.le_refl _
theorem colsR_lt {l : List Plc} {ps : List Int} {y : Int} : ∀ {c : Nat}, y ∈ colsR l ps c → y < c
  | 0, h => by simp [colsR] at h
  | c + 1, h => by
    rw [colsR] at h
    rcases List.mem_append.1 h with h | h
    · have := colsR_lt h; omega
    · have := colK_all h; omega
theorem colsR_sorted {l : List Plc} {ps : List Int} : ∀ {c : Nat}, (colsR l ps c).Pairwise (· ≤ ·)
  | 0 => by simp [colsR]
  | c + 1 => by
    rw [colsR, List.pairwise_append]
    refine ⟨colsR_sorted, pw_const fun y hy => colK_all hy, fun a ha b hb => ?_⟩
    have h1 := colsR_lt ha
    have h2 := colK_all hb
    omega
/-- The sorted columns of a row's parts are those that the reference counts out. -/
theorem colsR_eq {l : List Plc} {ps : List Int} {L : List Int} (hm : ps.map (fun x => (plcAt l x).col) = L) (h : ∀ y ∈ L, 0 ≤ y ∧ y < 64) : colsR l ps 64 = sortI L := by
  have hp : (colsR l ps 64).Perm L := by
    rw [List.perm_iff_count]
    intro y
    rw [colsR_count, hm]
    by_cases hy : y ∈ L
    · rw [if_pos]; have := h y hy; omega
    · rw [List.count_eq_zero_of_not_mem hy]; simp
  have hs : (sortI L).Pairwise (· ≤ ·) := by
    have := List.pairwise_mergeSort (le := fun x y : Int => decide (x ≤ y)) (by intro a b c h1 h2; simp at *; omega) (by intro a b; simp; omega) L
    simpa [sortI] using this
  exact List.Perm.eq_of_pairwise (fun a b _ _ h1 h2 => by omega) colsR_sorted hs (hp.trans (List.mergeSort_perm L _).symm)

/-- The list while a column's parts are looked at. -/
def colM (l : List Plc) (ps : List Int) (c k : Nat) : List Int := colsR l ps c ++ colK l ps c k
theorem colM_len {l : List Plc} {ps : List Int} {c k : Nat} : (colM l ps c k).length ≤ c * ps.length + k := by
  have h1 := @colsR_len l ps c
  have h2 := @colK_len l ps c k
  simp [colM]; omega

set_option maxRecDepth 20000 in
theorem c_pneumaticref25_columns (l : List Plc) (ps : List Int) (hp : ∀ x ∈ ps, ∃ i : Nat, x = i ∧ i < l.length) (hn : ps.length ≤ 100) : Pure Go.Proofs.Tryz.prog GL 44 [.p (.lst 2 (l.map Plc.enc)), .p (.lst 1 (ps.map Int.enc))] (.p (.lst 1 ((colsR l ps 64).map Int.enc))) := by
  refine Pure.of_walk (N := 33) Go.Proofs.Tryz.func44 rfl rfl rfl (by simp) (by first | (simp; done) | simp [*]) ?_
  simp
  refine XLoop.goN [0, 1] [] 1 (fun (c : Nat) => [(5, .acc 0 1 (colsR l ps c).length), (6, .p (.int .i64 c))]) (fun c => [(0, accB 1 ((colsR l ps c).map Int.row))]) (fun c => c ≤ 64) (fun c => 64 - c) 0 (by omega) ?_ ?_
  · refine Leads.subx (ρ := [0]) ?_
    simp [colsR]
  intro c hc
  simp
  refine xif_split (fun h3 => ?_) (fun h3 => ?_)
  · simp at h3
    simp
    refine XLoop.goN [0, 1, 6] [] 1 (fun (k : Nat) => [(5, .acc 0 1 (colM l ps c k).length), (7, .p (.int .i64 k))]) (fun k => [(0, accB 1 ((colM l ps c k).map Int.row))]) (fun k => k ≤ ps.length) (fun k => ps.length - k) 0 (by omega) ?_ ?_
    · refine Leads.subx (ρ := [0]) ?_
      simp [colM, colK]
    intro k hk
    simp
    refine xif_split (fun h5 => ?_) (fun h5 => ?_)
    · simp at h5
      obtain ⟨x, e⟩ := get_lt h5
      obtain ⟨i, rfl, hi⟩ := hp x (List.mem_of_getElem? e)
      obtain ⟨p, ep⟩ := get_lt hi
      have hpa : plcAt l (i : Int) = p := by simp [plcAt, ep]
      have hml := @colM_len l ps c k
      have hcc : c * ps.length ≤ 64 * 100 := Nat.mul_le_mul (by omega) (by omega)
      simp [h5, e, hi, ep, -getElem?_pos, List.getElem?_cons_zero, List.getElem?_cons_succ]
      refine xif_split (fun h6 => ?_) (fun h6 => ?_)
      · simp at h6
        have hS : colM l ps c (k + 1) = colM l ps c k ++ [(c : Int)] := by simp [colM, colK, e, hpa, h6]
        simp
        refine ⟨by omega, wrap_i64 (by omega) (by omega), k + 1, by omega, by omega, ?_⟩
        rw [hS]
        refine Leads.subx (ρ := [2]) ?_
        simp
        done
      · simp at h6
        have hS : colM l ps c (k + 1) = colM l ps c k := by simp [colM, colK, e, hpa, h6]
        simp
        refine ⟨wrap_i64 (by omega) (by omega), k + 1, by omega, by omega, ?_⟩
        rw [hS]
        refine Leads.subx (ρ := [0]) ?_
        simp
    · simp at h5
      have hkl : k = ps.length := by omega
      subst hkl
      simp
      refine ⟨wrap_i64 (by omega) (by omega), c + 1, by omega, by omega, ?_⟩
      rw [show colsR l ps (c + 1) = colM l ps c ps.length from rfl]
      refine Leads.subx (ρ := [0]) ?_
      simp
  simp at h3
  have hc64 : c = 64 := by omega
  subst hc64
  simp [XEndT]
end Go.Am
