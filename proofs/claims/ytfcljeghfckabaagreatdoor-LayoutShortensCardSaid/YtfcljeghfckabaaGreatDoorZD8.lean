/- Lemmas and contracts for the proof of a statement of this seat. -/
import Derived.Test.YtfcljeghfckabaaGreatDoorZD3
import Derived.Test.YtfcljeghfckabaaGreatDoorZD5
set_option linter.unusedVariables false
set_option linter.unusedSimpArgs false
/- Plain: places in order are right; places moved aside or mirrored; chapter 25. -/
namespace Go.Am
open Go Go.Proofs Go.Pn

theorem cntT_mono {c : Circuit} {r : Int} {i : Nat} : ∀ {j : Nat}, i ≤ j → cntT c r i ≤ cntT c r j
  | 0, h => by rw [show i = 0 by omega]; exact Nat.le_refl _
  | j + 1, h => by
    rcases Nat.lt_or_ge i (j + 1) with h1 | h1
    · have ih := @cntT_mono c r i j (by omega)
      rw [cntT_snoc]; omega
    · rw [show i = j + 1 by omega]; exact Nat.le_refl _
theorem placedT_at {c : Circuit} {k i : Nat} (h : i < k) : (placedT c k)[i]? = some ⟨levelOf c i, cntT c (levelOf c i) i⟩ := by simp [placedT, h]
theorem placedL_ok {c : Circuit} (h : checkP c = 0) : LayOk c (placedL c) := by
  have h2 := (check_parts h).2.1
  refine ⟨placedT_len, fun i p hp => ?_, fun p hp => ?_, ?_⟩
  · have hi : i < c.parts.length := by
      have := (List.getElem?_eq_some_iff.1 hp).1
      rwa [show (placedL c).length = c.parts.length from placedT_len] at this
    have hp2 : (placedT c c.parts.length)[i]? = some p := hp
    rw [placedT_at hi] at hp2
    cases hp2; rfl
  · obtain ⟨i, hi⟩ := List.mem_iff_getElem?.1 hp
    have hil : i < c.parts.length := by
      have := (List.getElem?_eq_some_iff.1 hi).1
      rwa [show (placedL c).length = c.parts.length from placedT_len] at this
    have hp2 : (placedT c c.parts.length)[i]? = some p := hi
    rw [placedT_at hil] at hp2
    cases hp2
    have := @cntT_le c (levelOf c i) i
    simp only
    omega
  · rw [List.Nodup, List.pairwise_iff_getElem]
    intro i j hi hj hij e
    have hil : i < c.parts.length := by rwa [show (placedL c).length = c.parts.length from placedT_len] at hi
    have hjl : j < c.parts.length := by rwa [show (placedL c).length = c.parts.length from placedT_len] at hj
    have e1 : (placedT c c.parts.length)[i]? = some (placedL c)[i] := List.getElem?_eq_getElem hi
    have e2 : (placedT c c.parts.length)[j]? = some (placedL c)[j] := List.getElem?_eq_getElem hj
    rw [placedT_at hil] at e1
    rw [placedT_at hjl, ← e] at e2
    rw [← e1] at e2
    simp only [Option.some.injEq, Plc.mk.injEq] at e2
    obtain ⟨e3, e4⟩ := e2
    have h1 := @cntT_mono c (levelOf c i) (i + 1) j (by omega)
    rw [cntT_snoc, if_pos rfl] at h1
    rw [e3] at e4
    omega

def mvP (φ : Int → Int) (p : Plc) : Plc := ⟨p.row, φ p.col⟩
theorem mv_at {φ : Int → Int} {l : List Plc} {i : Int} {a : Nat} {p : Plc} (hi : i = a) (e : l[a]? = some p) : plcAt (l.map (mvP φ)) i = mvP φ (plcAt l i) := by
  subst hi; simp [plcAt, e]
theorem mv_len {c : Circuit} {l : List Plc} {φ : Int → Int} (h : checkP c = 0) (hl : l.length = c.parts.length) (hφ : ∀ a b, farI (φ a) (φ b) = farI a b) : sumL c (l.map (mvP φ)) = sumL c l := by
  unfold sumL lenT
  congr 1
  refine List.map_congr_left fun x hx => ?_
  obtain ⟨a, b, p, q, h1, h2, _, _, h5, h6, _⟩ := pipe_parts h hl (List.mem_of_mem_take hx)
  unfold pipeLen
  rw [mv_at h1 h5, mv_at h2 h6]
  simp [mvP, hφ]
theorem mv_ord {c : Circuit} {l : List Plc} {φ : Int → Int} (h : checkP c = 0) (hl : l.length = c.parts.length) {x : Pipe} (hx : x ∈ c.pipes) : ordP (l.map (mvP φ)) x = (mvP φ (ordP l x).1, mvP φ (ordP l x).2) := by
  obtain ⟨a, b, p, q, h1, h2, _, _, h5, h6, _⟩ := pipe_parts h hl hx
  unfold ordP
  rw [mv_at h1 h5, mv_at h2 h6]
  have e : (mvP φ (plcAt l x.fr.part)).row = (plcAt l x.fr.part).row ∧ (mvP φ (plcAt l x.to.part)).row = (plcAt l x.to.part).row := ⟨rfl, rfl⟩
  rw [e.1, e.2]
  split <;> rfl
theorem mv_crossB {c : Circuit} {l : List Plc} {φ : Int → Int} (h : checkP c = 0) (hl : l.length = c.parts.length) (hφ : (∀ a b, φ a < φ b ↔ a < b) ∨ ∀ a b, φ a < φ b ↔ b < a) {x y : Pipe} (hx : x ∈ c.pipes) (hy : y ∈ c.pipes) : crossB (l.map (mvP φ)) x y = crossB l x y := by
  unfold crossB
  rw [mv_ord h hl hx, mv_ord h hl hy]
  rw [Bool.eq_iff_iff]
  simp only [Bool.and_eq_true, Bool.or_eq_true, decide_eq_true_eq, gt_iff_lt]
  simp only [mvP]
  rcases hφ with hφ | hφ
  · simp only [hφ]
  · simp only [hφ]
    constructor
    · rintro ⟨h1, h2 | h2⟩
      · exact ⟨h1, .inr h2⟩
      · exact ⟨h1, .inl h2⟩
    · rintro ⟨h1, h2 | h2⟩
      · exact ⟨h1, .inr h2⟩
      · exact ⟨h1, .inl h2⟩
theorem mv_cross {c : Circuit} {l : List Plc} {φ : Int → Int} (h : checkP c = 0) (hl : l.length = c.parts.length) (hφ : (∀ a b, φ a < φ b ↔ a < b) ∨ ∀ a b, φ a < φ b ↔ b < a) : ∀ {k : Nat}, crossN (l.map (mvP φ)) c.pipes k = crossN l c.pipes k
  | 0 => rfl
  | k + 1 => by
    have ih := @mv_cross c l φ h hl hφ k
    simp only [crossN, ih]
    cases e : c.pipes[k]? with
    | none => rfl
    | some x =>
      simp only
      congr 1
      unfold crossIn
      congr 1
      refine List.filter_congr fun y hy => ?_
      exact mv_crossB h hl hφ (List.mem_of_getElem? e) (List.mem_of_mem_take hy)
theorem firstE_or {f : Nat → Int} {v : Int} : ∀ {n : Nat}, (∀ i, i < n → f i = 0 ∨ f i = v) → firstE f n = 0 ∨ firstE f n = v
  | 0, _ => .inl rfl
  | n + 1, h => by
    unfold firstE
    split
    · exact firstE_or fun i hi => h i (by omega)
    · exact h n (by omega)
theorem mv_err {c : Circuit} {l : List Plc} {φ : Int → Int} (h : checkP c = 0) (hL : LayOk c l) (hφ : ∀ a b, φ a = φ b → a = b) : layE c (l.map (mvP φ)) = 0 ∨ layE c (l.map (mvP φ)) = 2 := by
  unfold layE
  rw [if_neg (by simpa using h)]
  unfold placedE
  rw [if_neg (by simpa using hL.len)]
  refine firstE_or fun i hi => ?_
  have hi2 : i < l.length := by simpa using hi
  obtain ⟨p, e⟩ := get_lt hi2
  have h1 := hL.row i p e
  have h2 := nodup_take.1 hL.nd i p e
  unfold plcErr
  rw [List.getElem?_map, e]
  simp only [Option.map_some]
  rw [if_neg (by simpa [mvP] using h1)]
  split
  · exact .inr rfl
  · rw [if_neg]
    · exact .inl rfl
    · rw [← List.map_take]
      intro hm
      obtain ⟨q, hq, e2⟩ := List.mem_map.1 hm
      simp only [mvP, Plc.mk.injEq] at e2
      have : q = p := by
        cases p; cases q
        simp only [Plc.mk.injEq] at e2 ⊢
        exact ⟨e2.1, hφ _ _ e2.2⟩
      exact h2 (this ▸ hq)
theorem shift_ok (d : Int) : (∀ a b, farI (a + d) (b + d) = farI a b) ∧ ((∀ a b : Int, a + d < b + d ↔ a < b) ∨ ∀ a b : Int, a + d < b + d ↔ b < a) ∧ ∀ a b : Int, a + d = b + d → a = b :=
  ⟨fun a b => by unfold farI; omega, .inl fun a b => by omega, fun a b h => by omega⟩
theorem mirror_ok : (∀ a b, farI (63 - a) (63 - b) = farI a b) ∧ ((∀ a b : Int, 63 - a < 63 - b ↔ a < b) ∨ ∀ a b : Int, 63 - a < 63 - b ↔ b < a) ∧ ∀ a b : Int, (63 : Int) - a = 63 - b → a = b :=
  ⟨fun a b => by unfold farI; omega, .inr fun a b => by omega, fun a b h => by omega⟩
end Go.Am
/- Contracts: what is right, as the law of chapter 25 asks. -/
namespace Go.Am
open Go Go.Proofs Go.Pn

theorem c_pneumaticlaw25_right (c : Circuit) (l : List Plc) (hs : Sized c) : Pure Go.Proofs.Tryz.prog GL 19 [c.av, .p (.lst 2 (l.map Plc.enc))] (.p (.bool (fewP c && decide (l.length ≤ 70) && decide (layE c l = 0)))) := by
  refine Pure.of_walk (N := 14) Go.Proofs.Tryz.func19 rfl rfl rfl (by simp) (by first | (simp; done) | simp [*]) ?_
  have hF := c_pneumaticlaw25_few c l hs
  have hC := c_pneumaticref25_Check c l hs
  simp
  refine xcall_pure hF ?_
  simp
  cases h : (fewP c && decide (l.length ≤ 70)) with
  | true =>
    simp
    refine xcall_pure hC ?_
    simp [XEndT]
  | false => simp [XEndT]
end Go.Am
/- Plain: the arranged row is the least of all orders, and stays; chapter 25. -/
namespace Go.Am
open Go Go.Proofs Go.Pn

theorem strike_perm {l : List Int} {i : Nat} {x : Int} (e : l[i]? = some x) : l.Perm (x :: (l.take i ++ l.drop (i + 1))) := by
  obtain ⟨h, rfl⟩ := List.getElem?_eq_some_iff.1 e
  have h1 : l = l.take i ++ l[i] :: l.drop (i + 1) := by rw [← List.drop_eq_getElem_cons h, List.take_append_drop]
  have h2 : (l.take i ++ l[i] :: l.drop (i + 1)).Perm (l[i] :: (l.take i ++ l.drop (i + 1))) := List.perm_middle
  exact (List.Perm.of_eq h1).trans h2
theorem ordersF_perm : ∀ {n : Nat} {l o : List Int}, l.length = n → (o ∈ ordersF n l ↔ o.Perm l)
  | 0, l, o, hl => by
    have : l = [] := List.length_eq_zero_iff.1 hl
    subst this
    simp [ordersF]
  | n + 1, l, o, hl => by
    simp only [ordersF, List.mem_flatMap, List.mem_map, List.mem_range]
    constructor
    · rintro ⟨i, hi, o', ho, rfl⟩
      obtain ⟨x, e⟩ := get_lt hi
      have h1 := (ordersF_perm (strike_len hl hi)).1 ho
      rw [e]
      exact (h1.cons _).trans (strike_perm e).symm
    · intro h
      cases o with
      | nil => have := h.length_eq; simp [hl] at this
      | cons x o =>
        have hx : x ∈ l := h.mem_iff.1 (by simp)
        obtain ⟨i, e⟩ := List.mem_iff_getElem?.1 hx
        have hi := (List.getElem?_eq_some_iff.1 e).1
        refine ⟨i, hi, o, (ordersF_perm (strike_len hl hi)).2 ?_, by simp [e]⟩
        exact (List.perm_cons x).1 (h.trans (strike_perm e))

theorem idx_app {l m : List Int} {a : Int} : (l ++ m).idxOf? a = (l.idxOf? a).or ((m.idxOf? a).map (· + l.length)) := by
  simp [List.idxOf?, List.findIdx?_append]
theorem idx_one {x a : Int} : [x].idxOf? a = if x = a then some 0 else none := by
  by_cases h : x = a <;> simp [List.idxOf?, List.findIdx?_cons, h]
theorem nowN_at {l : List Plc} {cols o : List Int} (hi : ∀ x ∈ o, ∃ i : Nat, x = i ∧ i < l.length) (hnd : o.Nodup) : ∀ {k : Nat}, k ≤ o.length → ∀ (i : Nat) p, l[i]? = some p →
    (nowN l cols o k)[i]? = some (match (o.take k).idxOf? (i : Int) with | some j => ⟨p.row, cols[j]?.getD 0⟩ | none => p)
  | 0, _, i, p, e => by simp [nowN, e]
  | k + 1, hk, i, p, e => by
    have ih := fun i p e => @nowN_at l cols o hi hnd k (by omega) i p e
    obtain ⟨x, ex⟩ := get_lt (show k < o.length by omega)
    obtain ⟨a, rfl, ha⟩ := hi x (List.mem_of_getElem? ex)
    obtain ⟨q, eq⟩ := get_lt ha
    have hnot : (a : Int) ∉ o.take k := nodup_take.1 hnd k _ ex
    have hq := ih a q eq
    rw [List.idxOf?_eq_none_iff.2 hnot] at hq
    simp only at hq
    have hpa : plcAt (nowN l cols o k) (a : Int) = q := by simp [plcAt, hq]
    have hs : nowN l cols o (k + 1) = (nowN l cols o k).set a ⟨q.row, cols[k]?.getD 0⟩ := by simp [nowN, ex, hpa]
    rw [hs, List.getElem?_set]
    by_cases hai : a = i
    · subst hai
      rw [eq] at e
      cases e
      rw [if_pos rfl, if_pos (by rw [nowN_len]; exact ha), take_snoc ex, idx_app, List.idxOf?_eq_none_iff.2 hnot]
      simp [Nat.min_eq_left (show k ≤ o.length by omega)]
    · rw [if_neg hai, ih i p e, take_snoc ex, idx_app]
      have hne : ¬ (a : Int) = i := by omega
      cases h5 : (o.take k).idxOf? (i : Int) with
      | some j => simp
      | none => simp [idx_one, hne]

def nowF (l : List Plc) (cols o : List Int) : List Plc := nowN l cols o o.length
theorem nowF_at {l : List Plc} {cols o : List Int} (hi : ∀ x ∈ o, ∃ i : Nat, x = i ∧ i < l.length) (hnd : o.Nodup) {i : Nat} {p : Plc} (e : l[i]? = some p) :
    (nowF l cols o)[i]? = some (match o.idxOf? (i : Int) with | some j => ⟨p.row, cols[j]?.getD 0⟩ | none => p) := by
  have := nowN_at (cols := cols) hi hnd (Nat.le_refl _) i p e
  rwa [List.take_length] at this
theorem nowF_len {l : List Plc} {cols o : List Int} : (nowF l cols o).length = l.length := nowN_len
theorem nowF_over {l : List Plc} {cols o o2 : List Int} (hp : o.Perm o2) (hi : ∀ x ∈ o, ∃ i : Nat, x = i ∧ i < l.length) (hnd : o.Nodup) : nowF (nowF l cols o2) cols o = nowF l cols o := by
  have hi2 : ∀ x ∈ o2, ∃ i : Nat, x = i ∧ i < l.length := fun x hx => hi x (hp.mem_iff.2 hx)
  have hnd2 := hp.nodup_iff.1 hnd
  apply List.ext_getElem?
  intro i
  cases e : l[i]? with
  | none =>
    rw [List.getElem?_eq_none_iff] at e
    rw [List.getElem?_eq_none (by rw [nowF_len, nowF_len]; exact e), List.getElem?_eq_none (by rw [nowF_len]; exact e)]
  | some p =>
    have e2 := nowF_at (cols := cols) hi2 hnd2 e
    rw [nowF_at (by simpa only [nowF_len] using hi) hnd e2, nowF_at hi hnd e]
    congr 1
    cases h1 : o.idxOf? (i : Int) with
    | some j => simp only; cases o2.idxOf? (i : Int) <;> rfl
    | none =>
      have h2 : o2.idxOf? (i : Int) = none := by
        rw [List.idxOf?_eq_none_iff] at h1 ⊢
        exact fun h => h1 (hp.mem_iff.2 h)
      simp [h2]

theorem fold_best {c : Circuit} {l : List Plc} {cols : List Int} (hnn : ∀ o, 0 ≤ sumL c (nowF l cols o)) : ∀ (os : List (List Int)) (g : BSt), (g.n < 0 ∨ (g.n = sumL c g.b ∧ 0 ≤ g.n)) →
    (0 ≤ g.n ∨ os ≠ []) → 0 ≤ (os.foldl (arrStep c l cols) g).n ∧ (os.foldl (arrStep c l cols) g).n = sumL c (os.foldl (arrStep c l cols) g).b ∧ (∀ o ∈ os, (os.foldl (arrStep c l cols) g).n ≤ sumL c (nowF l cols o)) ∧
      (0 ≤ g.n → (os.foldl (arrStep c l cols) g).n ≤ g.n) ∧ ((∃ o ∈ os, (os.foldl (arrStep c l cols) g).b = nowF l cols o) ∨ (0 ≤ g.n ∧ (os.foldl (arrStep c l cols) g).b = g.b))
  | [], g, h1, h2 => by
    rcases h2 with h2 | h2
    · rcases h1 with h1 | h1
      · omega
      · exact ⟨h1.2, h1.1, by simp, fun _ => Int.le_refl _, .inr ⟨h2, rfl⟩⟩
    · exact absurd rfl h2
  | o :: os, g, h1, _ => by
    rw [List.foldl_cons]
    have hs : arrStep c l cols g o = if g.n < 0 ∨ sumL c (nowF l cols o) < g.n then ⟨nowF l cols o, sumL c (nowF l cols o)⟩ else g := rfl
    have hn := hnn o
    by_cases h3 : g.n < 0 ∨ sumL c (nowF l cols o) < g.n
    · rw [if_pos h3] at hs
      rw [hs]
      obtain ⟨a1, a2, a3, a4, a5⟩ := fold_best hnn os ⟨nowF l cols o, sumL c (nowF l cols o)⟩ (.inr ⟨rfl, hn⟩) (.inl hn)
      have a4 := a4 hn
      simp only at a4 a5
      refine ⟨a1, a2, fun o' ho' => ?_, fun h => by rcases h3 with h3 | h3 <;> omega, ?_⟩
      · rcases List.mem_cons.1 ho' with rfl | ho'
        · exact a4
        · exact a3 o' ho'
      · rcases a5 with ⟨o', h5, h6⟩ | ⟨_, h6⟩
        · exact .inl ⟨o', by simp [h5], h6⟩
        · exact .inl ⟨o, by simp, h6⟩
    · rw [if_neg h3] at hs
      rw [hs]
      have h4 : g.n = sumL c g.b ∧ 0 ≤ g.n := by rcases h1 with h1 | h1; · omega
                                                 · exact h1
      obtain ⟨a1, a2, a3, a4, a5⟩ := fold_best hnn os g h1 (.inl h4.2)
      have a4' := a4 h4.2
      refine ⟨a1, a2, fun o' ho' => ?_, a4, ?_⟩
      · rcases List.mem_cons.1 ho' with rfl | ho'
        · omega
        · exact a3 o' ho'
      · rcases a5 with ⟨o', h5, h6⟩ | h6
        · exact .inl ⟨o', by simp [h5], h6⟩
        · exact .inr h6
theorem fold_same {c : Circuit} {l l2 : List Plc} {cols : List Int} : ∀ {os : List (List Int)} {g : BSt}, (∀ o ∈ os, nowF l2 cols o = nowF l cols o) → os.foldl (arrStep c l2 cols) g = os.foldl (arrStep c l cols) g
  | [], _, _ => rfl
  | o :: os, g, h => by
    rw [List.foldl_cons, List.foldl_cons]
    have hs : arrStep c l2 cols g o = arrStep c l cols g o := by
      have h1 : nowN l2 cols o o.length = nowN l cols o o.length := h o (by simp)
      unfold arrStep
      rw [h1]
    rw [hs]
    exact fold_same fun o' ho' => h o' (by simp [ho'])
end Go.Am
/- Plain: the arranged row against the row before it; chapter 25. -/
namespace Go.Am
open Go Go.Proofs Go.Pn

theorem idx_some {o : List Int} {a : Int} {j : Nat} (h : o.idxOf? a = some j) : o[j]? = some a := by
  unfold List.idxOf? at h
  rw [List.findIdx?_eq_some_iff_getElem] at h
  obtain ⟨h1, h2, _⟩ := h
  rw [List.getElem?_eq_getElem h1]
  simpa using h2
theorem idx_of {o : List Int} {a : Int} (h : a ∈ o) : ∃ j, o.idxOf? a = some j ∧ o[j]? = some a := by
  cases e : o.idxOf? a with
  | none => exact absurd h (List.idxOf?_eq_none_iff.1 e)
  | some j => exact ⟨j, rfl, idx_some e⟩
theorem partsN_nodup {l : List Plc} {row : Int} : ∀ {k : Nat}, (partsN l row k).Nodup
  | 0 => by simp [partsN]
  | k + 1 => by
    have ih := @partsN_nodup l row k
    simp only [partsN]
    cases l[k]? with
    | none => exact ih
    | some p =>
      simp only
      split
      · rw [List.nodup_append]
        refine ⟨ih, by simp, fun a ha b hb e => ?_⟩
        obtain ⟨i, _, h1, h2, _⟩ := partsN_mem ha
        simp at hb
        omega
      · exact ih
theorem mem_partsN {l : List Plc} {row : Int} {i : Nat} {p : Plc} (e : l[i]? = some p) (h : p.row = row) : ∀ {k : Nat}, i < k → (i : Int) ∈ partsN l row k
  | 0, hk => by omega
  | k + 1, hk => by
    simp only [partsN]
    by_cases hik : i = k
    · subst hik; rw [e]; simp [h]
    · have ih := mem_partsN e h (k := k) (by omega)
      cases l[k]? with
      | none => exact ih
      | some q => simp only; split <;> simp [ih]
theorem partsN_rows {l l2 : List Plc} {row : Int} (h : ∀ i : Nat, (l[i]?).map (·.row) = (l2[i]?).map (·.row)) : ∀ {k : Nat}, partsN l row k = partsN l2 row k
  | 0 => rfl
  | k + 1 => by
    have ih := @partsN_rows l l2 row h k
    have hk := h k
    simp only [partsN, ih]
    cases e1 : l[k]? with
    | none =>
      rw [e1] at hk
      cases e2 : l2[k]? with
      | none => rfl
      | some q => rw [e2] at hk; cases hk
    | some p =>
      rw [e1] at hk
      cases e2 : l2[k]? with
      | none => rw [e2] at hk; cases hk
      | some q =>
        rw [e2] at hk
        simp only [Option.map_some, Option.some.injEq] at hk
        simp only [hk]
theorem nowF_row {l : List Plc} {cols o : List Int} (hi : ∀ x ∈ o, ∃ i : Nat, x = i ∧ i < l.length) (hnd : o.Nodup) (i : Nat) : ((nowF l cols o)[i]?).map (·.row) = (l[i]?).map (·.row) := by
  cases e : l[i]? with
  | none =>
    rw [List.getElem?_eq_none_iff] at e
    rw [List.getElem?_eq_none (by rw [nowF_len]; exact e)]
  | some p =>
    rw [nowF_at hi hnd e]
    cases o.idxOf? (i : Int) <;> rfl
theorem sortI_unique {L M : List Int} (hp : M.Perm L) (hs : M.Pairwise (· ≤ ·)) : M = sortI L := by
  have h2 : (sortI L).Pairwise (· ≤ ·) := by
    have := List.pairwise_mergeSort (le := fun x y : Int => decide (x ≤ y)) (by intro a b c h1 h2; simp at *; omega) (by intro a b; simp; omega) L
    simpa [sortI] using this
  exact List.Perm.eq_of_pairwise (fun a b _ _ h1 h2 => by omega) hs h2 (hp.trans (List.mergeSort_perm L _).symm)
theorem sortI_perm {L M : List Int} (hp : M.Perm L) : sortI M = sortI L := by
  have h2 : (sortI M).Pairwise (· ≤ ·) := by
    have := List.pairwise_mergeSort (le := fun x y : Int => decide (x ≤ y)) (by intro a b c h1 h2; simp at *; omega) (by intro a b; simp; omega) M
    simpa [sortI] using this
  exact sortI_unique ((List.mergeSort_perm M _).trans hp) h2

theorem self_order {l : List Plc} {ps : List Int} (hi : ∀ x ∈ ps, ∃ i : Nat, x = i ∧ i < l.length) (hnd : ps.Nodup) : ∃ o : List Int, o.Perm ps ∧ nowF l (sortI (ps.map fun x => (plcAt l x).col)) o = l := by
  let o := ps.mergeSort fun x y => decide ((plcAt l x).col ≤ (plcAt l y).col)
  have hp : o.Perm ps := List.mergeSort_perm _ _
  have hs : o.Pairwise fun x y => (plcAt l x).col ≤ (plcAt l y).col := by
    have := List.pairwise_mergeSort (le := fun x y : Int => decide ((plcAt l x).col ≤ (plcAt l y).col)) (by intro a b c h1 h2; simp at *; omega) (by intro a b; simp; omega) ps
    simpa using this
  have hc : (o.map fun x => (plcAt l x).col) = sortI (ps.map fun x => (plcAt l x).col) := sortI_unique (hp.map _) (by rw [List.pairwise_map]; exact hs)
  refine ⟨o, hp, ?_⟩
  have hi2 : ∀ x ∈ o, ∃ i : Nat, x = i ∧ i < l.length := fun x hx => hi x (hp.mem_iff.1 hx)
  apply List.ext_getElem?
  intro i
  cases e : l[i]? with
  | none =>
    rw [List.getElem?_eq_none_iff] at e
    rw [List.getElem?_eq_none (by rw [nowF_len]; exact e)]
  | some p =>
    rw [nowF_at hi2 (hp.nodup_iff.2 hnd) e]
    cases h : o.idxOf? (i : Int) with
    | none => rfl
    | some j =>
      have hj := idx_some h
      simp only
      rw [← hc, List.getElem?_map, hj]
      simp [plcAt, e]

def swI (a b x : Int) : Int := if x = a then b else if x = b then a else x
theorem swI_inv {a b x : Int} : swI a b (swI a b x) = x := by unfold swI; grind
theorem idx_sw {o : List Int} {a b x : Int} : (o.map (swI a b)).idxOf? x = o.idxOf? (swI a b x) := by
  induction o with
  | nil => rfl
  | cons y o ih =>
    have h1 : (swI a b y = x) ↔ (y = swI a b x) := ⟨fun h => by rw [← h, swI_inv], fun h => by rw [h, swI_inv]⟩
    simp only [List.map_cons, List.idxOf?_cons, ih, beq_iff_eq, h1]
theorem sw_perm {ps : List Int} {a b : Int} (ha : a ∈ ps) (hb : b ∈ ps) (hnd : ps.Nodup) : (ps.map (swI a b)).Perm ps := by
  have hn2 : (ps.map (swI a b)).Nodup := by
    rw [List.Nodup, List.pairwise_map]
    exact hnd.imp fun h e => h (by have := congrArg (swI a b) e; rwa [swI_inv, swI_inv] at this)
  refine (List.perm_ext_iff_of_nodup hn2 hnd).2 fun x => ?_
  rw [List.mem_map]
  have hsw : ∀ y, y ∈ ps → swI a b y ∈ ps := fun y hy => by
    unfold swI
    split
    · exact hb
    · split
      · exact ha
      · exact hy
  exact ⟨fun ⟨y, hy, e⟩ => e ▸ hsw y hy, fun hx => ⟨swI a b x, hsw x hx, swI_inv⟩⟩
end Go.Am
/- Plain: what Arrange makes of right places; chapter 25. -/
namespace Go.Am
open Go Go.Proofs Go.Pn

section
variable {c : Circuit} {l : List Plc} {row : Int}
abbrev partsR (l : List Plc) (row : Int) : List Int := partsN l row l.length
abbrev colsS (l : List Plc) (row : Int) : List Int := sortI (colsN l row l.length)

theorem partsR_at {x : Int} (h : x ∈ partsR l row) : ∃ (i : Nat) (p : Plc), x = i ∧ i < l.length ∧ l[i]? = some p ∧ p.row = row := partsN_mem h
theorem partsR_ix : ∀ x ∈ partsR l row, ∃ i : Nat, x = i ∧ i < l.length := fun x hx => by
  obtain ⟨i, p, h1, h2, _⟩ := partsR_at hx; exact ⟨i, h1, h2⟩
theorem colsS_eq : colsS l row = sortI ((partsR l row).map fun x => (plcAt l x).col) := by rw [colsN_parts (Nat.le_refl _)]
theorem colsS_len : (colsS l row).length = (partsR l row).length := by rw [colsS, sortI_len, colsN_len]
theorem col_inj (hnd : l.Nodup) {x y : Int} (hx : x ∈ partsR l row) (hy : y ∈ partsR l row) (h : (plcAt l x).col = (plcAt l y).col) : x = y := by
  obtain ⟨i, p, rfl, hi, e1, r1⟩ := partsR_at hx
  obtain ⟨j, q, rfl, hj, e2, r2⟩ := partsR_at hy
  have hpq : p = q := by
    simp [plcAt, e1, e2] at h
    cases p; cases q; simp_all
  subst hpq
  rcases Nat.lt_trichotomy i j with h3 | h3 | h3
  · exact absurd (List.mem_iff_getElem?.2 ⟨i, by rw [List.getElem?_take_of_lt h3]; exact e1⟩) (nodup_take.1 hnd j p e2)
  · rw [h3]
  · exact absurd (List.mem_iff_getElem?.2 ⟨j, by rw [List.getElem?_take_of_lt h3]; exact e2⟩) (nodup_take.1 hnd i p e1)
theorem colsS_nodup (hnd : l.Nodup) : (colsS l row).Nodup := by
  rw [colsS_eq]
  refine (List.mergeSort_perm _ _).nodup_iff.2 ?_
  rw [List.Nodup, List.pairwise_map, List.pairwise_iff_getElem]
  intro i j hi hj hij e
  have h1 := col_inj hnd (List.getElem_mem hi) (List.getElem_mem hj) e
  exact (List.pairwise_iff_getElem.1 (partsN_nodup (l := l) (row := row) (k := l.length)) i j hi hj hij) h1
theorem colsS_mem {x : Int} (h : x ∈ colsS l row) : ∃ p ∈ l, p.col = x := colsN_mem (sortI_mem.1 h)

theorem layOk_now (hL : LayOk c l) {o : List Int} (ho : o.Perm (partsR l row)) : LayOk c (nowF l (colsS l row) o) := by
  have hi : ∀ x ∈ o, ∃ i : Nat, x = i ∧ i < l.length := fun x hx => partsR_ix x (ho.mem_iff.1 hx)
  have hnd : o.Nodup := ho.nodup_iff.2 partsN_nodup
  have hlen : o.length = (colsS l row).length := by rw [colsS_len, ho.length_eq]
  have hcol : ∀ j, j < o.length → ∃ v, (colsS l row)[j]? = some v ∧ v ∈ colsS l row := fun j hj => by
    obtain ⟨v, hv⟩ := get_lt (show j < (colsS l row).length by omega)
    exact ⟨v, hv, List.mem_of_getElem? hv⟩
  refine ⟨by rw [nowF_len, hL.len], fun i p hp => ?_, fun p hp => ?_, ?_⟩
  · have h1 := nowF_row (l := l) (cols := colsS l row) hi hnd i
    rw [hp] at h1
    cases e : l[i]? with
    | none => rw [e] at h1; cases h1
    | some q =>
      rw [e] at h1
      simp only [Option.map_some, Option.some.injEq] at h1
      rw [h1, hL.row i q e]
  · obtain ⟨i, hp⟩ := List.mem_iff_getElem?.1 hp
    have hil : i < l.length := by have := (List.getElem?_eq_some_iff.1 hp).1; rwa [nowF_len] at this
    obtain ⟨q, e⟩ := get_lt hil
    rw [nowF_at hi hnd e] at hp
    cases h : o.idxOf? (i : Int) with
    | none => rw [h] at hp; cases hp; exact hL.col _ (List.mem_of_getElem? e)
    | some j =>
      rw [h] at hp
      obtain ⟨v, hv, hvm⟩ := hcol j (List.getElem?_eq_some_iff.1 (idx_some h)).1
      simp only [hv, Option.getD_some, Option.some.injEq] at hp
      obtain ⟨p2, h2, h3⟩ := colsS_mem hvm
      rw [← hp, ← h3]
      exact hL.col p2 h2
  · rw [List.Nodup, List.pairwise_iff_getElem]
    intro i j hil hjl hij e
    rw [nowF_len] at hil hjl
    obtain ⟨p, ep⟩ := get_lt hil
    obtain ⟨q, eq⟩ := get_lt hjl
    have h1 := nowF_at (cols := colsS l row) hi hnd ep
    have h2 := nowF_at (cols := colsS l row) hi hnd eq
    have e2 : (nowF l (colsS l row) o)[i]? = (nowF l (colsS l row) o)[j]? := by
      rw [List.getElem?_eq_getElem (by rw [nowF_len]; exact hil), List.getElem?_eq_getElem (by rw [nowF_len]; exact hjl), e]
    have hr : p.row = q.row := by
      have r1 := nowF_row (l := l) (cols := colsS l row) hi hnd i
      have r2 := nowF_row (l := l) (cols := colsS l row) hi hnd j
      rw [e2, r2, ep, eq] at r1
      simpa using r1.symm
    have hmem : ∀ (a : Nat) (pa : Plc), l[a]? = some pa → ((a : Int) ∈ o ↔ pa.row = row) := fun a pa ea => by
      rw [ho.mem_iff]
      constructor
      · intro h
        obtain ⟨i2, p2, h3, _, h5, h6⟩ := partsR_at h
        have : a = i2 := by omega
        subst this
        rw [ea] at h5; cases h5; exact h6
      · intro h
        exact mem_partsN ea h (List.getElem?_eq_some_iff.1 ea).1
    rw [h1, h2] at e2
    by_cases hp : p.row = row
    · obtain ⟨a, ha, ha2⟩ := idx_of ((hmem i p ep).2 hp)
      obtain ⟨b, hb, hb2⟩ := idx_of ((hmem j q eq).2 (hr ▸ hp))
      obtain ⟨v, hv, _⟩ := hcol a (List.getElem?_eq_some_iff.1 ha2).1
      obtain ⟨w, hw, _⟩ := hcol b (List.getElem?_eq_some_iff.1 hb2).1
      rw [ha, hb] at e2
      simp only [hv, hw, Option.getD_some, Option.some.injEq, Plc.mk.injEq] at e2
      have hvw : v = w := e2.2
      subst hvw
      have hab : a = b := by
        have hn := colsS_nodup (row := row) hL.nd
        rcases Nat.lt_trichotomy a b with h3 | h3 | h3
        · exact absurd (List.mem_iff_getElem?.2 ⟨a, by rw [List.getElem?_take_of_lt h3]; exact hv⟩) (nodup_take.1 hn b v hw)
        · exact h3
        · exact absurd (List.mem_iff_getElem?.2 ⟨b, by rw [List.getElem?_take_of_lt h3]; exact hw⟩) (nodup_take.1 hn a v hv)
      subst hab
      rw [ha2] at hb2
      simp only [Option.some.injEq] at hb2
      omega
    · have hn1 : o.idxOf? (i : Int) = none := List.idxOf?_eq_none_iff.2 fun h => hp ((hmem i p ep).1 h)
      have hn2 : o.idxOf? (j : Int) = none := List.idxOf?_eq_none_iff.2 fun h => hp (hr ▸ (hmem j q eq).1 h)
      rw [hn1, hn2] at e2
      simp only [Option.some.injEq] at e2
      subst e2
      exact nodup_take.1 hL.nd j p eq (List.mem_iff_getElem?.2 ⟨i, by rw [List.getElem?_take_of_lt hij]; exact ep⟩)
end
end Go.Am
/- Plain: the arranged row is least, stays, and no exchange shortens it; chapter 25. -/
namespace Go.Am
open Go Go.Proofs Go.Pn

section
variable {c : Circuit} {l : List Plc} {row : Int}
theorem fold_start {cols : List Int} {os : List (List Int)} {b b2 : List Plc} (h : os ≠ []) : os.foldl (arrStep c l cols) ⟨b, -1⟩ = os.foldl (arrStep c l cols) ⟨b2, -1⟩ := by
  cases os with
  | nil => exact absurd rfl h
  | cons o os =>
    rw [List.foldl_cons, List.foldl_cons]
    have : ∀ b : List Plc, arrStep c l cols ⟨b, -1⟩ o = ⟨nowN l cols o o.length, sumL c (nowN l cols o o.length)⟩ := fun b => by
      unfold arrStep; simp
    rw [this b, this b2]
theorem orders_ne {ps : List Int} : ordersL ps ≠ [] := fun h => by
  have := (ordersF_perm (n := ps.length) (l := ps) (o := ps) rfl).2 (List.Perm.refl _)
  unfold ordersL at h
  rw [h] at this
  cases this
theorem now_sum (hL : LayOk c l) (o : List Int) : 0 ≤ sumL c (nowF l (colsS l row) o) :=
  sumL_near (nowN_near hL.near fun x hx => by
    obtain ⟨p, hp, rfl⟩ := colsS_mem hx
    exact hL.col p hp)
theorem arr_err (hc : checkP c = 0) (hL : LayOk c l) (hr : 0 ≤ row ∧ row < 5) (h5 : (partsR l row).length ≤ 5) : arrErr c l row = 0 := by
  have h5' : (partsN l row l.length).length ≤ 5 := h5
  unfold arrErr
  rw [if_neg (by simpa using layE_zero.2 ⟨hc, hL⟩), if_neg (by omega), if_neg (by omega)]
theorem arr_fold (hc : checkP c = 0) (hL : LayOk c l) (hr : 0 ≤ row ∧ row < 5) (h5 : (partsR l row).length ≤ 5) : arrRes c l row = ((ordersL (partsR l row)).foldl (arrStep c l (colsS l row)) ⟨l, -1⟩).b :=
  if_neg (by simpa using arr_err hc hL hr h5)
theorem arr_form (hc : checkP c = 0) (hL : LayOk c l) (hr : 0 ≤ row ∧ row < 5) (h5 : (partsR l row).length ≤ 5) :
    ∃ o, o.Perm (partsR l row) ∧ arrRes c l row = nowF l (colsS l row) o ∧ ∀ o' : List Int, o'.Perm (partsR l row) → sumL c (arrRes c l row) ≤ sumL c (nowF l (colsS l row) o') := by
  obtain ⟨a1, a2, a3, _, a5⟩ := fold_best (now_sum (row := row) hL) (ordersL (partsR l row)) ⟨l, -1⟩ (.inl (by show (-1 : Int) < 0; decide)) (.inr orders_ne)
  rw [← arr_fold hc hL hr h5] at a2 a5
  rcases a5 with ⟨o, ho, hb⟩ | ⟨h, _⟩
  · refine ⟨o, (ordersF_perm rfl).1 ho, hb, fun o' ho' => ?_⟩
    rw [← a2]
    exact a3 o' ((ordersF_perm rfl).2 ho')
  · exact absurd h (by show ¬ (0 : Int) ≤ -1; decide)

theorem now_parts {o : List Int} (ho : o.Perm (partsR l row)) : partsR (nowF l (colsS l row) o) row = partsR l row := by
  have hi : ∀ x ∈ o, ∃ i : Nat, x = i ∧ i < l.length := fun x hx => partsR_ix x (ho.mem_iff.1 hx)
  unfold partsR
  rw [nowF_len]
  exact partsN_rows fun i => nowF_row hi (ho.nodup_iff.2 partsN_nodup) i
theorem now_cols {o : List Int} (ho : o.Perm (partsR l row)) : colsS (nowF l (colsS l row) o) row = colsS l row := by
  have hi : ∀ x ∈ o, ∃ i : Nat, x = i ∧ i < l.length := fun x hx => partsR_ix x (ho.mem_iff.1 hx)
  have hnd : o.Nodup := ho.nodup_iff.2 partsN_nodup
  rw [colsS_eq, now_parts ho]
  have e : o.map (fun x => (plcAt (nowF l (colsS l row) o) x).col) = colsS l row := by
    apply List.ext_getElem?
    intro j
    rw [List.getElem?_map]
    cases ej : o[j]? with
    | none =>
      rw [List.getElem?_eq_none_iff] at ej
      rw [List.getElem?_eq_none (by rw [colsS_len, ← ho.length_eq]; exact ej)]
      rfl
    | some x =>
      have hjl := (List.getElem?_eq_some_iff.1 ej).1
      obtain ⟨i, rfl, hil⟩ := hi x (List.mem_of_getElem? ej)
      obtain ⟨p, ep⟩ := get_lt hil
      obtain ⟨k, hk, hk2⟩ := idx_of (List.mem_of_getElem? ej)
      have hkj : k = j := by
        rcases Nat.lt_trichotomy k j with h3 | h3 | h3
        · exact absurd (List.mem_iff_getElem?.2 ⟨k, by rw [List.getElem?_take_of_lt h3]; exact hk2⟩) (nodup_take.1 hnd j _ ej)
        · exact h3
        · exact absurd (List.mem_iff_getElem?.2 ⟨j, by rw [List.getElem?_take_of_lt h3]; exact ej⟩) (nodup_take.1 hnd k _ hk2)
      subst hkj
      have h1 := nowF_at (cols := colsS l row) hi hnd ep
      rw [hk] at h1
      obtain ⟨v, hv⟩ := get_lt (show k < (colsS l row).length by rw [colsS_len, ← ho.length_eq]; exact hjl)
      simp only [hv, Option.getD_some] at h1
      simp [plcAt, h1, hv]
  have hp : ((partsR l row).map fun x => (plcAt (nowF l (colsS l row) o) x).col).Perm (colsN l row l.length) := by
    refine (ho.symm.map _).trans ?_
    rw [e]
    exact List.mergeSort_perm _ _
  exact sortI_perm hp
theorem arr_twice (hc : checkP c = 0) (hL : LayOk c l) (hr : 0 ≤ row ∧ row < 5) (h5 : (partsR l row).length ≤ 5) :
    LayOk c (arrRes c l row) ∧ arrErr c (arrRes c l row) row = 0 ∧ arrRes c (arrRes c l row) row = arrRes c l row ∧ colsS (arrRes c l row) row = colsS l row := by
  obtain ⟨o, ho, hA, _⟩ := arr_form hc hL hr h5
  have hL2 := layOk_now hL ho
  have hp := now_parts ho
  have hk := now_cols ho
  have h52 : (partsR (nowF l (colsS l row) o) row).length ≤ 5 := by rw [hp]; exact h5
  have hsame : ∀ o' ∈ ordersL (partsR l row), nowF (nowF l (colsS l row) o) (colsS l row) o' = nowF l (colsS l row) o' := fun o' ho' => by
    have hp' := (ordersF_perm rfl).1 ho'
    exact nowF_over (hp'.trans ho.symm) (fun x hx => partsR_ix x (hp'.mem_iff.1 hx)) (hp'.nodup_iff.2 partsN_nodup)
  have h1 : arrRes c (nowF l (colsS l row) o) row = arrRes c l row := by
    rw [arr_fold hc hL2 hr h52, hp, hk, fold_same hsame, fold_start (b2 := l) orders_ne, arr_fold hc hL hr h5]
  rw [hA]
  refine ⟨hL2, arr_err hc hL2 hr h52, ?_, hk⟩
  rw [h1, hA]
theorem arr_le (hc : checkP c = 0) (hL : LayOk c l) (hr : 0 ≤ row ∧ row < 5) (h5 : (partsR l row).length ≤ 5) : sumL c (arrRes c l row) ≤ sumL c l := by
  obtain ⟨_, _, _, hm⟩ := arr_form hc hL hr h5
  obtain ⟨o, ho, hs⟩ := self_order (l := l) (ps := partsR l row) partsR_ix partsN_nodup
  rw [← colsS_eq] at hs
  have := hm o ho
  rwa [hs] at this
end
end Go.Am
/- Plain: exchanges in the arranged row; chapter 25. -/
namespace Go.Am
open Go Go.Proofs Go.Pn

def exch (l : List Plc) (i j : Nat) : List Plc := (l.set i ⟨(plcAt l i).row, (plcAt l j).col⟩).set j ⟨(plcAt l j).row, (plcAt l i).col⟩
section
variable {c : Circuit} {l : List Plc} {row : Int}
theorem arr_other (hc : checkP c = 0) (hL : LayOk c l) (hr : 0 ≤ row ∧ row < 5) (h5 : (partsR l row).length ≤ 5) {i : Nat} {p : Plc} (e : l[i]? = some p) :
    ∃ q, (arrRes c l row)[i]? = some q ∧ q.row = p.row ∧ (p.row ≠ row → q = p) := by
  obtain ⟨o, ho, hA, _⟩ := arr_form hc hL hr h5
  have hi : ∀ x ∈ o, ∃ i : Nat, x = i ∧ i < l.length := fun x hx => partsR_ix x (ho.mem_iff.1 hx)
  have hnd : o.Nodup := ho.nodup_iff.2 partsN_nodup
  rw [hA, nowF_at hi hnd e]
  cases h : o.idxOf? (i : Int) with
  | none => exact ⟨p, rfl, rfl, fun _ => rfl⟩
  | some j =>
    refine ⟨_, rfl, rfl, fun hne => ?_⟩
    obtain ⟨i2, p2, h3, _, h5, h6⟩ := partsR_at (ho.mem_iff.1 (List.mem_of_getElem? (idx_some h)))
    have : i = i2 := by omega
    subst this
    rw [e] at h5; cases h5
    exact absurd h6 hne
theorem arr_exch (hc : checkP c = 0) (hL : LayOk c l) (hr : 0 ≤ row ∧ row < 5) (h5 : (partsR l row).length ≤ 5) {i j : Nat} {p q : Plc} (hij : i ≠ j) (ei : l[i]? = some p) (ej : l[j]? = some q) (ri : p.row = row) (rj : q.row = row) :
    layE c (exch (arrRes c l row) i j) = 0 ∧ sumL c (arrRes c l row) ≤ sumL c (exch (arrRes c l row) i j) := by
  obtain ⟨o, ho, hA, hm⟩ := arr_form hc hL hr h5
  have hi : ∀ x ∈ o, ∃ i : Nat, x = i ∧ i < l.length := fun x hx => partsR_ix x (ho.mem_iff.1 hx)
  have hnd : o.Nodup := ho.nodup_iff.2 partsN_nodup
  have hil := (List.getElem?_eq_some_iff.1 ei).1
  have hjl := (List.getElem?_eq_some_iff.1 ej).1
  have hia : (i : Int) ∈ o := ho.mem_iff.2 (mem_partsN ei ri hil)
  have hja : (j : Int) ∈ o := ho.mem_iff.2 (mem_partsN ej rj hjl)
  have ho' : (o.map (swI i j)).Perm (partsR l row) := (sw_perm hia hja hnd).trans ho
  have hi' : ∀ x ∈ o.map (swI i j), ∃ i : Nat, x = i ∧ i < l.length := fun x hx => partsR_ix x (ho'.mem_iff.1 hx)
  have hnd' : (o.map (swI i j)).Nodup := ho'.nodup_iff.2 partsN_nodup
  have e : exch (arrRes c l row) i j = nowF l (colsS l row) (o.map (swI i j)) := by
    rw [hA]
    obtain ⟨a, ha, _⟩ := idx_of hia
    obtain ⟨b, hb, _⟩ := idx_of hja
    have h1 := nowF_at (cols := colsS l row) hi hnd ei
    have h2 := nowF_at (cols := colsS l row) hi hnd ej
    rw [ha] at h1
    rw [hb] at h2
    simp only at h1 h2
    have p1 : plcAt (nowF l (colsS l row) o) i = ⟨p.row, (colsS l row)[a]?.getD 0⟩ := by simp [plcAt, h1]
    have p2 : plcAt (nowF l (colsS l row) o) j = ⟨q.row, (colsS l row)[b]?.getD 0⟩ := by simp [plcAt, h2]
    unfold exch
    rw [p1, p2]
    apply List.ext_getElem?
    intro k
    cases ek : l[k]? with
    | none =>
      rw [List.getElem?_eq_none_iff] at ek
      rw [List.getElem?_eq_none (by simpa [nowF_len] using ek), List.getElem?_eq_none (by rw [nowF_len]; exact ek)]
    | some r =>
      have hkl := (List.getElem?_eq_some_iff.1 ek).1
      rw [nowF_at hi' hnd' ek, idx_sw, List.getElem?_set, List.length_set, nowF_len, List.getElem?_set, nowF_len, nowF_at hi hnd ek]
      by_cases hkj : j = k
      · subst hkj
        rw [ej] at ek; cases ek
        have hs : swI i j (j : Int) = i := by unfold swI; rw [if_neg (by omega), if_pos rfl]
        rw [if_pos rfl, if_pos hjl, hs, ha]
      · rw [if_neg hkj]
        by_cases hki : i = k
        · subst hki
          rw [ei] at ek; cases ek
          have hs : swI i j (i : Int) = j := by unfold swI; rw [if_pos rfl]
          rw [if_pos rfl, if_pos hil, hs, hb]
        · have hs : swI i j (k : Int) = k := by unfold swI; rw [if_neg (by omega), if_neg (by omega)]
          rw [if_neg hki, hs]
  rw [e]
  exact ⟨layE_zero.2 ⟨hc, layOk_now hL ho'⟩, hm _ ho'⟩
end
end Go.Am
