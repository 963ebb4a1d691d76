/- Lemmas and contracts for the proof of a statement of this seat. -/
import Derived.Test.YtfcljeghfckabaaGreatDoorZD3
set_option linter.unusedVariables false
set_option linter.unusedSimpArgs false
/- Plain: places in order are right; places moved aside or mirrored; chapter 25. -/
namespace Go.Am
open Go Go.Proofs Go.Pn

theorem cntT_mono {c : Circuit} {r : Int} {i : Nat} : ∀ {j : Nat}, i ≤ j → cntT c r i ≤ cntT c r j
  | 0, h => by rw [show i = 0 by omega]; exact Nat.le_refl _
  | j + 1, h => by
    rcases Nat.lt_or_ge i (j + 1) with h1 | h1
    · have ih := @cntT_mono c r i j (by omega)
      rw [cntT_snoc]; omega
    · rw [show i = j + 1 by omega]; exact Nat.le_refl _
theorem placedT_at {c : Circuit} {k i : Nat} (h : i < k) : (placedT c k)[i]? = some ⟨levelOf c i, cntT c (levelOf c i) i⟩ := by simp [placedT, h]
theorem placedL_ok {c : Circuit} (h : checkP c = 0) : LayOk c (placedL c) := by
  have h2 := (check_parts h).2.1
  refine ⟨placedT_len, fun i p hp => ?_, fun p hp => ?_, ?_⟩
  · have hi : i < c.parts.length := by
      have := (List.getElem?_eq_some_iff.1 hp).1
      rwa [show (placedL c).length = c.parts.length from placedT_len] at this
    have hp2 : (placedT c c.parts.length)[i]? = some p := hp
    rw [placedT_at hi] at hp2
    cases hp2; rfl
  · obtain ⟨i, hi⟩ := List.mem_iff_getElem?.1 hp
    have hil : i < c.parts.length := by
      have := (List.getElem?_eq_some_iff.1 hi).1
      rwa [show (placedL c).length = c.parts.length from placedT_len] at this
    have hp2 : (placedT c c.parts.length)[i]? = some p := hi
    rw [placedT_at hil] at hp2
    cases hp2
    have := @cntT_le c (levelOf c i) i
    simp only
    omega
  · rw [List.Nodup, List.pairwise_iff_getElem]
    intro i j hi hj hij e
    have hil : i < c.parts.length := by rwa [show (placedL c).length = c.parts.length from placedT_len] at hi
    have hjl : j < c.parts.length := by rwa [show (placedL c).length = c.parts.length from placedT_len] at hj
    have e1 : (placedT c c.parts.length)[i]? = some (placedL c)[i] := List.getElem?_eq_getElem hi
    have e2 : (placedT c c.parts.length)[j]? = some (placedL c)[j] := List.getElem?_eq_getElem hj
    rw [placedT_at hil] at e1
    rw [placedT_at hjl, ← e] at e2
    rw [← e1] at e2
    simp only [Option.some.injEq, Plc.mk.injEq] at e2
    obtain ⟨e3, e4⟩ := e2
    have h1 := @cntT_mono c (levelOf c i) (i + 1) j (by omega)
    rw [cntT_snoc, if_pos rfl] at h1
    rw [e3] at e4
    omega

def mvP (φ : Int → Int) (p : Plc) : Plc := ⟨p.row, φ p.col⟩
theorem mv_at {φ : Int → Int} {l : List Plc} {i : Int} {a : Nat} {p : Plc} (hi : i = a) (e : l[a]? = some p) : plcAt (l.map (mvP φ)) i = mvP φ (plcAt l i) := by
  subst hi; simp [plcAt, e]
theorem mv_len {c : Circuit} {l : List Plc} {φ : Int → Int} (h : checkP c = 0) (hl : l.length = c.parts.length) (hφ : ∀ a b, farI (φ a) (φ b) = farI a b) : sumL c (l.map (mvP φ)) = sumL c l := by
  unfold sumL lenT
  congr 1
  refine List.map_congr_left fun x hx => ?_
  obtain ⟨a, b, p, q, h1, h2, _, _, h5, h6, _⟩ := pipe_parts h hl (List.mem_of_mem_take hx)
  unfold pipeLen
  rw [mv_at h1 h5, mv_at h2 h6]
  simp [mvP, hφ]
theorem mv_ord {c : Circuit} {l : List Plc} {φ : Int → Int} (h : checkP c = 0) (hl : l.length = c.parts.length) {x : Pipe} (hx : x ∈ c.pipes) : ordP (l.map (mvP φ)) x = (mvP φ (ordP l x).1, mvP φ (ordP l x).2) := by
  obtain ⟨a, b, p, q, h1, h2, _, _, h5, h6, _⟩ := pipe_parts h hl hx
  unfold ordP
  rw [mv_at h1 h5, mv_at h2 h6]
  have e : (mvP φ (plcAt l x.fr.part)).row = (plcAt l x.fr.part).row ∧ (mvP φ (plcAt l x.to.part)).row = (plcAt l x.to.part).row := ⟨rfl, rfl⟩
  rw [e.1, e.2]
  split <;> rfl
theorem mv_crossB {c : Circuit} {l : List Plc} {φ : Int → Int} (h : checkP c = 0) (hl : l.length = c.parts.length) (hφ : (∀ a b, φ a < φ b ↔ a < b) ∨ ∀ a b, φ a < φ b ↔ b < a) {x y : Pipe} (hx : x ∈ c.pipes) (hy : y ∈ c.pipes) : crossB (l.map (mvP φ)) x y = crossB l x y := by
  unfold crossB
  rw [mv_ord h hl hx, mv_ord h hl hy]
  rw [Bool.eq_iff_iff]
  simp only [Bool.and_eq_true, Bool.or_eq_true, decide_eq_true_eq, gt_iff_lt]
  simp only [mvP]
  rcases hφ with hφ | hφ
  · simp only [hφ]
  · simp only [hφ]
    constructor
    · rintro ⟨h1, h2 | h2⟩
      · exact ⟨h1, .inr h2⟩
      · exact ⟨h1, .inl h2⟩
    · rintro ⟨h1, h2 | h2⟩
      · exact ⟨h1, .inr h2⟩
      · exact ⟨h1, .inl h2⟩
theorem mv_cross {c : Circuit} {l : List Plc} {φ : Int → Int} (h : checkP c = 0) (hl : l.length = c.parts.length) (hφ : (∀ a b, φ a < φ b ↔ a < b) ∨ ∀ a b, φ a < φ b ↔ b < a) : ∀ {k : Nat}, crossN (l.map (mvP φ)) c.pipes k = crossN l c.pipes k
  | 0 => rfl
  | k + 1 => by
    have ih := @mv_cross c l φ h hl hφ k
    simp only [crossN, ih]
    cases e : c.pipes[k]? with
    | none => rfl
    | some x =>
      simp only
      congr 1
      unfold crossIn
      congr 1
      refine List.filter_congr fun y hy => ?_
      exact mv_crossB h hl hφ (List.mem_of_getElem? e) (List.mem_of_mem_take hy)
theorem firstE_or {f : Nat → Int} {v : Int} : ∀ {n : Nat}, (∀ i, i < n → f i = 0 ∨ f i = v) → firstE f n = 0 ∨ firstE f n = v
  | 0, _ => .inl rfl
  | n + 1, h => by
    unfold firstE
    split
    · exact firstE_or fun i hi => h i (by omega)
    · exact h n (by omega)
theorem mv_err {c : Circuit} {l : List Plc} {φ : Int → Int} (h : checkP c = 0) (hL : LayOk c l) (hφ : ∀ a b, φ a = φ b → a = b) : layE c (l.map (mvP φ)) = 0 ∨ layE c (l.map (mvP φ)) = 2 := by
  unfold layE
  rw [if_neg (by simpa using h)]
  unfold placedE
  rw [if_neg (by simpa using hL.len)]
  refine firstE_or fun i hi => ?_
  have hi2 : i < l.length := by simpa using hi
  obtain ⟨p, e⟩ := get_lt hi2
  have h1 := hL.row i p e
  have h2 := nodup_take.1 hL.nd i p e
  unfold plcErr
  rw [List.getElem?_map, e]
  simp only [Option.map_some]
  rw [if_neg (by simpa [mvP] using h1)]
  split
  · exact .inr rfl
  · rw [if_neg]
    · exact .inl rfl
    · rw [← List.map_take]
      intro hm
      obtain ⟨q, hq, e2⟩ := List.mem_map.1 hm
      simp only [mvP, Plc.mk.injEq] at e2
      have : q = p := by
        cases p; cases q
        simp only [Plc.mk.injEq] at e2 ⊢
        exact ⟨e2.1, hφ _ _ e2.2⟩
      exact h2 (this ▸ hq)
theorem shift_ok (d : Int) : (∀ a b, farI (a + d) (b + d) = farI a b) ∧ ((∀ a b : Int, a + d < b + d ↔ a < b) ∨ ∀ a b : Int, a + d < b + d ↔ b < a) ∧ ∀ a b : Int, a + d = b + d → a = b :=
  ⟨fun a b => by unfold farI; omega, .inl fun a b => by omega, fun a b h => by omega⟩
theorem mirror_ok : (∀ a b, farI (63 - a) (63 - b) = farI a b) ∧ ((∀ a b : Int, 63 - a < 63 - b ↔ a < b) ∨ ∀ a b : Int, 63 - a < 63 - b ↔ b < a) ∧ ∀ a b : Int, (63 : Int) - a = 63 - b → a = b :=
  ⟨fun a b => by unfold farI; omega, .inr fun a b => by omega, fun a b h => by omega⟩
end Go.Am
/- Contracts: what is right, as the law of chapter 25 asks. -/
namespace Go.Am
open Go Go.Proofs Go.Pn

theorem c_pneumaticlaw25_right (c : Circuit) (l : List Plc) (hs : Sized c) : Pure Go.Proofs.Tryz.prog GL 19 [c.av, .p (.lst 2 (l.map Plc.enc))] (.p (.bool (fewP c && decide (l.length ≤ 70) && decide (layE c l = 0)))) := by
  refine Pure.of_walk (N := 14) Go.Proofs.Tryz.func19 rfl rfl rfl (by simp) (by first | (simp; done) | simp [*]) ?_
  have hF := c_pneumaticlaw25_few c l hs
  have hC := c_pneumaticref25_Check c l hs
  simp
  refine xcall_pure hF ?_
  simp
  cases h : (fewP c && decide (l.length ≤ 70)) with
  | true =>
    simp
    refine xcall_pure hC ?_
    simp [XEndT]
  | false => simp [XEndT]
end Go.Am
