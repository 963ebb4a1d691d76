/- Lemmas and contracts for the proof of a statement of this seat. -/
import Derived.Test.YtebnpnkcoibooaaGreatDoorZCU
import Derived.Test.YtebnpnkcoibooaaGreatDoorZCO
import Derived.Test.YtebnpnkcoibooaaGreatDoorZCR
set_option linter.unusedVariables false
set_option linter.unusedSimpArgs false
/- Plain facts for the laws InspectDriven, InspectPipes. -/
namespace Go.Am
open Go Go.Proofs Go.Pn

theorem mem_findsT {c : Circuit} {k : Nat} {l : List Port} {f : Fnd} : f ∈ findsT c k l ↔ f.kind = k ∧ f.at_ ∈ l ∧ foundB c k f.at_ = true := by
  unfold findsT
  rw [List.mem_map]
  constructor
  · rintro ⟨p, hp, rfl⟩
    exact ⟨rfl, List.mem_filter.1 hp⟩
  · rintro ⟨h1, h2⟩
    refine ⟨f.at_, List.mem_filter.2 h2, ?_⟩
    cases f
    simp only at h1
    rw [h1]
theorem mem_allF {c : Circuit} {f : Fnd} : ∀ {k : Nat}, f ∈ allF c k ↔ f ∈ headF c ∨ ∃ j : Nat, 1 ≤ j ∧ j ≤ k ∧ f.kind = j ∧ f.at_ ∈ allP c ∧ foundB c j f.at_ = true
  | 0 => by
    unfold allF
    constructor
    · exact .inl
    · rintro (h | ⟨j, h1, h2, _⟩)
      · exact h
      · omega
  | k + 1 => by
    rw [allF, List.mem_append, mem_allF, mem_findsT]
    constructor
    · rintro ((h | ⟨j, h1, h2, h3⟩) | ⟨h1, h2⟩)
      · exact .inl h
      · exact .inr ⟨j, h1, by omega, h3⟩
      · exact .inr ⟨k + 1, by omega, by omega, h1, h2⟩
    · rintro (h | ⟨j, h1, h2, h3⟩)
      · exact .inl (.inl h)
      · by_cases e : j = k + 1
        · subst e; exact .inr h3
        · exact .inl (.inr ⟨j, h1, by omega, h3⟩)
theorem mem_findings {c : Circuit} {f : Fnd} : f ∈ findingsL c ↔ f ∈ headF c ∨ ∃ j : Nat, 1 ≤ j ∧ j ≤ 7 ∧ f.kind = j ∧ f.at_ ∈ allP c ∧ foundB c j f.at_ = true := mem_allF
theorem mem_head {c : Circuit} {f : Fnd} : f ∈ headF c ↔ supB c = false ∧ f = ⟨0, ⟨0, []⟩⟩ := by
  unfold headF
  cases supB c <;> simp

/- ## driven cylinders -/
theorem around_sym {c : Circuit} {p q : Port} (hp : p ∈ allP c) (h : q ∈ around c p) : p ∈ around c q := by
  rw [around_rt, List.mem_filter] at h ⊢
  exact ⟨hp, by have := h.2; simp at this ⊢; exact this.symm⟩
theorem len_two {α : Type} {l : List α} {a b : α} (ha : a ∈ l) (hb : b ∈ l) (hab : a ≠ b) : 2 ≤ l.length := by
  match l, ha, hb with
  | [], ha, _ => cases ha
  | [x], ha, hb => simp at ha hb; exact absurd (ha.trans hb.symm) hab
  | _ :: _ :: _, _, _ => simp
theorem role_kind {c : Circuit} {p : Port} {k : Nat} (h : kindAt c p.part = k) : roleP c p = playsN k p.name := by
  unfold roleP; rw [h, Int.toNat_natCast]

/-- What a driven cylinder's valve is. -/
structure DrvFacts (c : Circuit) (i v : Nat) (b : Bool) : Prop where
  lt : v < c.parts.length
  two : sideErr c ⟨i, [50]⟩ = 0 ∧ sideL c ⟨i, [50]⟩ true = [⟨v, if b then [50] else [52]⟩] ∧ (⟨2, ⟨i, [50]⟩⟩ : Fnd) ∉ findingsL c
  four : sideErr c ⟨i, [52]⟩ = 0 ∧ sideL c ⟨i, [52]⟩ true = [⟨v, if b then [52] else [50]⟩] ∧ (⟨2, ⟨i, [52]⟩⟩ : Fnd) ∉ findingsL c
  acts : (i : Int) ∈ reachK c v

theorem chamber_open {c : Circuit} {i : Nat} {s : Txt} {a : Port} (hp : (⟨i, s⟩ : Port) ∈ allP c) (ha : a ∈ around c ⟨i, s⟩) (hne : a ≠ ⟨i, s⟩) : (⟨2, ⟨i, s⟩⟩ : Fnd) ∉ findingsL c := by
  intro h
  rcases mem_findings.1 h with h | ⟨j, _, _, h3, _, h5⟩
  · obtain ⟨_, h⟩ := mem_head.1 h
    simp at h
  · simp only at h3
    have : j = 2 := by omega
    subst this
    have h6 : (decide (roleP c ⟨i, s⟩ = 4) && decide ((around c ⟨i, s⟩).length = 1)) = true := h5
    have h7 : (around c ⟨i, s⟩).length = 1 := by
      simp only [Bool.and_eq_true, decide_eq_true_eq] at h6
      exact h6.2
    have := len_two ha (around_self hp) hne
    omega
theorem side_feed {c : Circuit} (h : checkP c = 0) {i : Int} {s : Txt} (hp : (⟨i, s⟩ : Port) ∈ allP c) : sideErr c ⟨i, s⟩ = 0 ∧ sideL c ⟨i, s⟩ true = feedL c i s := by
  have h1 : sideErr c ⟨i, s⟩ = 0 := by unfold sideErr; rw [if_neg (by simpa using h), allP_mem.1 hp]
  exact ⟨h1, by unfold sideL; rw [h1, if_neg (by simp)]; rfl⟩
theorem out_names {k : Nat} (hk : k = 2 ∨ k = 3) {s : Txt} (hs : s ∈ kindPorts k) (h1 : playsN k s = 1) : s = [50] ∨ s = [52] := by
  rcases hk with rfl | rfl
  · exact (by decide +kernel : ∀ s ∈ kindPorts 2, playsN 2 s = 1 → s = [50] ∨ s = [52]) s hs h1
  · exact (by decide +kernel : ∀ s ∈ kindPorts 3, playsN 3 s = 1 → s = [50] ∨ s = [52]) s hs h1
theorem feed_mem {c : Circuit} {i : Int} {s : Txt} {a : Port} (h : a ∈ feedL c i s) : a ∈ around c ⟨i, s⟩ ∧ a ∈ allP c ∧ roleP c a = 1 := by
  unfold feedL onlyL at h
  obtain ⟨h1, h2⟩ := List.mem_filter.1 h
  exact ⟨h1, (List.mem_filter.1 h1).1, by simpa [sideB, givesB] using h2⟩

theorem drv_facts {c : Circuit} (h : checkP c = 0) {i : Nat} {q : Part} (e : c.parts[i]? = some q) (hd : drvErr c q.name = 0) : q.kind = 1 ∧ ∃ v : Nat, (drvRes c q.name).1 = v ∧ DrvFacts c i v (drvRes c q.name).2 := by
  have h2 := check_parts h
  have hix : partIx c q.name = i := partI_at h e
  have hki : kindAt c (i : Int) = q.kind := by simp [kindAt, e, -getElem?_pos]
  unfold drvErr at hd
  rw [if_neg (by simpa using h), hix, if_neg (by omega), hki] at hd
  by_cases hk : q.kind = 1
  · refine ⟨hk, ?_⟩
    rw [if_neg (by simpa using hk)] at hd
    have hdr : drvRes c q.name = (drvOf c i).getD (0, false) := by
      unfold drvRes
      have : drvErr c q.name = 0 := by
        unfold drvErr
        rw [if_neg (by simpa using h), hix, if_neg (by omega), hki, if_neg (by simpa using hk), hd]
      rw [this, if_neg (by simp), hix]
    obtain ⟨hp2, hp4⟩ := cyl_ports e hk
    cases ho : drvOf c i with
    | none => rw [ho] at hd; simp at hd
    | some r =>
      obtain ⟨v, b⟩ := r
      rw [hdr, ho]
      simp only [Option.getD_some]
      unfold drvOf at ho
      split at ho
      · rename_i x y hx hy
        split at ho
        · cases ho
        · rename_i hne
          split at ho
          · rename_i hkv
            simp only [Option.some.injEq, Prod.mk.injEq] at ho
            obtain ⟨rfl, rfl⟩ := ho
            simp only [not_or, Decidable.not_not] at hne
            obtain ⟨hpart, hname⟩ := hne
            obtain ⟨fx1, fx2, fx3⟩ := feed_mem (show x ∈ feedL c i [50] by rw [hx]; simp)
            obtain ⟨fy1, fy2, fy3⟩ := feed_mem (show y ∈ feedL c i [52] by rw [hy]; simp)
            obtain ⟨j, qv, j1, j2, j3, j4, j5, j6, _⟩ := role_all h2.1 fx2
            obtain ⟨j', qv', k1, k2, k3, k4, k5, k6, _⟩ := role_all h2.1 fy2
            have hjj : j' = j := by omega
            subst hjj
            rw [j3] at k3; cases k3
            refine ⟨j', j1, ?_⟩
            have hkk : ∃ k : Nat, qv.kind = k ∧ (k = 2 ∨ k = 3) := by
              rw [j4] at hkv
              rcases hkv with hh | hh
              · exact ⟨2, hh, .inl rfl⟩
              · exact ⟨3, hh, .inr rfl⟩
            obtain ⟨k, hk1, hk2⟩ := hkk
            rw [hk1] at j6 k6 j4 k4
            rw [Int.toNat_natCast] at j6 k6
            have nx := out_names hk2 j6 (by rw [← role_kind j4]; exact fx3)
            have ny := out_names hk2 k6 (by rw [← role_kind k4]; exact fy3)
            obtain ⟨xp, xn⟩ := x
            obtain ⟨yp, yn⟩ := y
            simp only at hpart hname nx ny j1 k1
            subst hpart
            subst j1
            have hch : ∀ s : Txt, s = [50] ∨ s = [52] → roleP c ⟨(i : Int), s⟩ = 4 := fun s hs => by
              have hk' : kindAt c (⟨(i : Int), s⟩ : Port).part = ((1 : Nat) : Int) := by simp only; rw [hki, hk]; rfl
              rw [role_kind hk']
              rcases hs with rfl | rfl
              · show playsN 1 [50] = 4; decide +kernel
              · show playsN 1 [52] = 4; decide +kernel
            have hdiff : ∀ (n s : Txt), s = [50] ∨ s = [52] → roleP c ⟨(j' : Int), n⟩ = 1 → (⟨(j' : Int), n⟩ : Port) ≠ ⟨(i : Int), s⟩ := fun n s hs h1 he => by
              rw [he, hch s hs] at h1
              simp at h1
            obtain ⟨s2a, s2b⟩ := side_feed h hp2
            obtain ⟨s4a, s4b⟩ := side_feed h hp4
            have hb : decide (yn = [52]) = decide (xn = [50]) := by
              rcases nx with rfl | rfl <;> rcases ny with rfl | rfl <;> simp at hname ⊢
            refine ⟨j2, ⟨s2a, ?_, chamber_open hp2 fx1 (hdiff _ _ (.inl rfl) fx3)⟩, ⟨s4a, ?_, chamber_open hp4 fy1 (hdiff _ _ (.inr rfl) fy3)⟩, ?_⟩
            · rw [s2b, hx]
              rcases nx with rfl | rfl <;> rcases ny with rfl | rfl <;> simp at hname ⊢
            · rw [s4b, hy]
              rcases nx with rfl | rfl <;> rcases ny with rfl | rfl <;> simp at hname ⊢
            · have hjr : 0 ≤ (j' : Int) ∧ (j' : Int) < c.parts.length := by omega
              refine reach_start hjr ?_
              unfold dirL
              rw [mem_limFold, mem_dirFold]
              refine .inl (.inr ⟨⟨(j' : Int), xn⟩, fx2, rfl, by simp [givesB, fx3], ⟨(i : Int), [50]⟩, ?_, rfl⟩)
              unfold onlyL
              refine List.mem_filter.2 ⟨around_sym hp2 fx1, ?_⟩
              simp [sideB, takesB, hch [50] (.inl rfl)]
          · cases ho
      · cases ho
  · rw [if_pos hk] at hd
    cases hd

/- ## a further pipe -/
theorem filter_sub {α : Type} {p q : α → Bool} : ∀ {l : List α}, (∀ x, p x = true → q x = true) → (l.filter p).Sublist (l.filter q)
  | [], _ => .slnil
  | x :: l, h => by
    have ih := filter_sub (l := l) h
    have hx := h x
    cases hp : p x with
    | true => rw [List.filter_cons_of_pos hp, List.filter_cons_of_pos (hx hp)]; exact ih.cons_cons x
    | false =>
      rw [List.filter_cons_of_neg (by simp [hp])]
      cases hq : q x with
      | true => rw [List.filter_cons_of_pos hq]; exact ih.cons x
      | false => rw [List.filter_cons_of_neg (by simp [hq])]; exact ih
theorem Wider.role {c m : Circuit} (w : Wider c m) (p : Port) : roleP m p = roleP c p := by unfold roleP; rw [w.kind]
theorem Wider.side {c m : Circuit} (w : Wider c m) (b : Bool) (p : Port) : sideB m b p = sideB c b p := by
  unfold sideB givesB takesB; rw [w.role]
theorem Wider.around {c m : Circuit} (w : Wider c m) (p : Port) : (around c p).Sublist (around m p) := by
  rw [around_rt, around_rt, w.all]
  refine filter_sub fun q hq => ?_
  have h1 : rt c q = rt c p := by simpa using hq
  have h2 := (rt_iff.1 h1).mono w.pipes
  simpa using rt_iff.2 h2
theorem Wider.only {c m : Circuit} (w : Wider c m) (p : Port) (b : Bool) : (onlyL c (Am.around c p) b).Sublist (onlyL m (Am.around m p) b) := by
  have h1 : onlyL m (Am.around m p) b = (Am.around m p).filter (sideB c b) := by
    unfold onlyL
    exact List.filter_congr fun q _ => w.side b q
  rw [h1]
  exact (w.around p).filter _
theorem Wider.sup {c m : Circuit} (w : Wider c m) : supB m = supB c := by unfold supB; rw [w.parts]
theorem Wider.head {c m : Circuit} (w : Wider c m) : headF m = headF c := by unfold headF; rw [w.sup]
theorem head_sub {α : Type} {l m : List α} {x : α} (h : l.Sublist m) (hx : x ∈ l) (hn : m.Nodup) (hm : m.head? = some x) : l.head? = some x := by
  cases m with
  | nil => simp at hm
  | cons y m =>
    simp at hm
    subst hm
    cases h with
    | cons _ h => exact absurd (h.subset hx) (List.nodup_cons.1 hn).1
    | cons_cons _ h => rfl
/-- What grows with more pipes. -/
theorem wider_more {c m : Circuit} (w : Wider c m) (hm : kindsOk m) {j : Nat} {p : Port} (hp : p ∈ allP c) (hj : j = 4 ∨ j = 6 ∨ j = 7) (h : foundB c j p = true) : foundB m j p = true := by
  have hsub := w.around p
  rcases hj with rfl | rfl | rfl
  · have h1 : (decide (roleP c p = 1) && !decide ((onlyL c (Am.around c p) true).head? = some p)) = true := h
    show (decide (roleP m p = 1) && !decide ((onlyL m (Am.around m p) true).head? = some p)) = true
    rw [w.role]
    simp only [Bool.and_eq_true, decide_eq_true_eq, Bool.not_eq_true', decide_eq_false_iff_not] at h1 ⊢
    refine ⟨h1.1, fun hh => h1.2 ?_⟩
    refine head_sub (w.only p true) ?_ ?_ hh
    · unfold onlyL
      exact List.mem_filter.2 ⟨around_self hp, by simp [sideB, givesB, h1.1]⟩
    · unfold onlyL
      exact ((allP_nodup hm).filter _).filter _
  · have h1 : (decide (roleP c p = 2) && decide (1 < (Am.around c p).length)) = true := h
    show (decide (roleP m p = 2) && decide (1 < (Am.around m p).length)) = true
    rw [w.role]
    simp only [Bool.and_eq_true, decide_eq_true_eq] at h1 ⊢
    exact ⟨h1.1, Nat.lt_of_lt_of_le h1.2 hsub.length_le⟩
  · have h1 : (decide (kindAt c p.part = 2) && (decide (p.name = [49, 52]) && decide ((⟨p.part, [49, 50]⟩ : Port) ∈ Am.around c p))) = true := h
    show (decide (kindAt m p.part = 2) && (decide (p.name = [49, 52]) && decide ((⟨p.part, [49, 50]⟩ : Port) ∈ Am.around m p))) = true
    rw [w.kind]
    simp only [Bool.and_eq_true, decide_eq_true_eq] at h1 ⊢
    exact ⟨h1.1, h1.2.1, hsub.subset h1.2.2⟩
/-- What shrinks with more pipes. -/
theorem wider_less {c m : Circuit} (w : Wider c m) {j : Nat} {p : Port} (hp : p ∈ allP c) (hj : j = 1 ∨ j = 2 ∨ j = 3 ∨ j = 5) (h : foundB m j p = true) : foundB c j p = true := by
  have hsub := (w.around p).length_le
  have hone : (Am.around m p).length = 1 → (Am.around c p).length = 1 := fun h1 => by
    have := List.length_pos_of_mem (around_self hp)
    omega
  have hnil : ∀ b, (onlyL m (Am.around m p) b).length = 0 → (onlyL c (Am.around c p) b).length = 0 := fun b h1 => by
    have := (w.only p b).length_le
    omega
  rcases hj with rfl | rfl | rfl | rfl
  · have h1 : (decide (roleP m p = 3) && decide ((Am.around m p).length = 1)) = true := h
    show (decide (roleP c p = 3) && decide ((Am.around c p).length = 1)) = true
    rw [w.role] at h1
    simp only [Bool.and_eq_true, decide_eq_true_eq] at h1 ⊢
    exact ⟨h1.1, hone h1.2⟩
  · have h1 : (decide (roleP m p = 4) && decide ((Am.around m p).length = 1)) = true := h
    show (decide (roleP c p = 4) && decide ((Am.around c p).length = 1)) = true
    rw [w.role] at h1
    simp only [Bool.and_eq_true, decide_eq_true_eq] at h1 ⊢
    exact ⟨h1.1, hone h1.2⟩
  · have h1 : (decide (roleP m p = 0) && decide ((onlyL m (Am.around m p) true).length = 0)) = true := h
    show (decide (roleP c p = 0) && decide ((onlyL c (Am.around c p) true).length = 0)) = true
    rw [w.role] at h1
    simp only [Bool.and_eq_true, decide_eq_true_eq] at h1 ⊢
    exact ⟨h1.1, hnil _ h1.2⟩
  · have h1 : (decide (roleP m p = 1) && decide ((onlyL m (Am.around m p) false).length = 0)) = true := h
    show (decide (roleP c p = 1) && decide ((onlyL c (Am.around c p) false).length = 0)) = true
    rw [w.role] at h1
    simp only [Bool.and_eq_true, decide_eq_true_eq] at h1 ⊢
    exact ⟨h1.1, hnil _ h1.2⟩
theorem stay_or {c m : Circuit} (w : Wider c m) (hm : kindsOk m) {f : Fnd} (h : f ∈ findingsL c) : f ∈ findingsL m ∨ f.kind = 1 ∨ f.kind = 2 ∨ f.kind = 3 ∨ f.kind = 5 := by
  rcases mem_findings.1 h with h | ⟨j, h1, h2, h3, h4, h5⟩
  · exact .inl (mem_findings.2 (.inl (by rw [w.head]; exact h)))
  · by_cases hj : j = 4 ∨ j = 6 ∨ j = 7
    · exact .inl (mem_findings.2 (.inr ⟨j, h1, h2, h3, w.all ▸ h4, wider_more w hm h4 hj h5⟩))
    · exact .inr (by omega)
theorem come_or {c m : Circuit} (w : Wider c m) {f : Fnd} (h : f ∈ findingsL m) : f ∈ findingsL c ∨ f.kind = 4 ∨ f.kind = 6 ∨ f.kind = 7 := by
  rcases mem_findings.1 h with h | ⟨j, h1, h2, h3, h4, h5⟩
  · exact .inl (mem_findings.2 (.inl (by rw [← w.head]; exact h)))
  · rw [w.all] at h4
    by_cases hj : j = 1 ∨ j = 2 ∨ j = 3 ∨ j = 5
    · exact .inl (mem_findings.2 (.inr ⟨j, h1, h2, h3, h4, wider_less w h4 hj h5⟩))
    · exact .inr (by omega)
def joinedN (l : List Fnd) : Nat := (l.filter fun f => decide (f.kind = 4)).length
theorem joined_findsT {c : Circuit} {k : Nat} {l : List Port} : joinedN (findsT c k l) = if k = 4 then (l.filter (foundB c k)).length else 0 := by
  unfold joinedN findsT
  by_cases e : k = 4
  · subst e
    rw [if_pos rfl, List.filter_map, List.length_map, List.filter_eq_self.2 (fun a _ => by simp)]
  · rw [if_neg e, List.filter_map, List.length_map]
    have : (l.filter (foundB c k)).filter ((fun f : Fnd => decide (f.kind = 4)) ∘ fun p => ⟨(k : Int), p⟩) = [] := by
      rw [List.filter_eq_nil_iff]
      intro a _
      simp
      omega
    rw [this]; rfl
theorem joined_append {l m : List Fnd} : joinedN (l ++ m) = joinedN l + joinedN m := by simp [joinedN]
theorem filter_len_le {α : Type} {p q : α → Bool} : ∀ {l : List α}, (∀ x ∈ l, p x = true → q x = true) → (l.filter p).length ≤ (l.filter q).length
  | [], _ => Nat.le_refl _
  | x :: l, h => by
    have ih := filter_len_le (l := l) fun y hy => h y (List.mem_cons_of_mem _ hy)
    have hx := h x (by simp)
    cases hp : p x with
    | true => simp [hp, hx hp, ih]
    | false =>
      cases hq : q x with
      | true => simp [hp, hq]; omega
      | false => simp [hp, hq, ih]
theorem joined_le {c m : Circuit} (w : Wider c m) (hm : kindsOk m) : joinedN (findingsL c) ≤ joinedN (findingsL m) := by
  have : ∀ k, joinedN (allF c k) ≤ joinedN (allF m k) := fun k => by
    induction k with
    | zero => show joinedN (headF c) ≤ joinedN (headF m); rw [w.head]; exact Nat.le_refl _
    | succ k ih =>
      simp only [allF, joined_append, joined_findsT, w.all]
      split
      · rename_i e
        have := filter_len_le (l := allP c) (p := foundB c (k + 1)) (q := foundB m (k + 1)) fun p hp h => wider_more w hm hp (.inl e) h
        omega
      · omega
  exact this 7

end Go.Am
/- Contracts: the laws InspectDriven, InspectPipes. -/
namespace Go.Am
open Go Go.Proofs Go.Pn


theorem fnd_eq {x v : Fnd} : (decide (v.kind = x.kind) && decide (v.at_ = x.at_)) = decide (x = v) := by
  cases x; cases v
  rw [Bool.eq_iff_iff]
  simp
  constructor
  · rintro ⟨h1, h2⟩; exact ⟨h1.symm, h2.symm⟩
  · rintro ⟨h1, h2⟩; exact ⟨h1.symm, h2.symm⟩
theorem nils_at1 {P : Program} {G : Globs} {f k : Nat} {a : AV} {rest : List AV} {r : AV} (h : Pure P G f (a :: .p (.lst k []) :: rest) r) : Pure P G f (a :: .nils :: rest) r := by
  have hp := h.pure
  refine ⟨by simpa [pureL, pureA] using hp, fun own w vs x y hl hv => h.run own w vs x y hl fun i x v hx hv' => ?_⟩
  match i with
  | 0 => exact hv 0 x v (by simpa using hx) hv'
  | 1 => simp at hx; subst hx; exact (hv 1 _ v rfl hv').nils_lst
  | i + 2 => exact hv (i + 2) x v (by simpa using hx) hv'
theorem c_Idx_Fnd (xs : List Fnd) (v : Fnd) (hl : xs.length < 4611686018427387904) : Pure Go.Proofs.Tryz.prog GL 105 [.p (.lst 3 (xs.map Fnd.enc)), Fnd.av v] (.p (.int .i64 (idxI xs fun x => decide (x = v)))) := by
  refine Pure.of_walk (N := 19) Go.Proofs.Tryz.func105 rfl rfl rfl (by simp) (by first | (simp; done) | simp [*]) ?_
  simp
  refine XLoop.go [0, 3, 7] [0] 0 [] (fun _ => []) (fun _ (k : Nat) => [(8, .p (.int .i64 k))]) (fun _ _ => []) (fun k => k ≤ xs.length ∧ ∀ (j : Nat) x, j < k → xs[j]? = some x → decide (x = v) = false) (fun k => xs.length - k) 0 ⟨by omega, fun j b h => by omega⟩ ?_ ?_
  · simp
  · rintro k ⟨hk, hp⟩
    simp
    refine xif_split (fun h => ?_) (fun h => ?_)
    · simp at h
      obtain ⟨x, e⟩ := get_lt h
      simp <;> refine XDraw.intro (by kernel_rfl) ?_
      simp [h, e, -getElem?_pos, List.getElem?_cons_zero, List.getElem?_cons_succ]
      refine ⟨.of (by kernel_rfl), ?_⟩
      refine xif_split (fun h2 => ?_) (fun h2 => ?_)
      · have h3 : decide (x = v) = true := by first | grind | (rw [← fnd_eq]; exact h2)
        simp [XEndT, idxI_at (q := fun x => decide (x = v)) e h3 hp]
      · have h3 : decide (x = v) = false := by first | grind | (rw [← fnd_eq]; exact h2)
        simp
        refine ⟨wrap_i64 (by omega) (by omega), k + 1, ⟨by omega, ?_⟩, by omega, ?_⟩
        · simpa using below_next (P := fun x => decide (x = v) = false) hp e h3
        · simp
    · simp at h
      have hk2 : k = xs.length := by omega
      subst hk2
      simp [XEndT, idxI_none (q := fun x => decide (x = v)) (below_all hp)]

theorem c_Con_Fnd (xs : List Fnd) (v : Fnd) (hl : xs.length < 4611686018427387904) : Pure Go.Proofs.Tryz.prog GL 52 [.p (.lst 3 (xs.map Fnd.enc)), Fnd.av v] (.p (.bool (decide (v ∈ xs)))) := by
  refine Pure.of_walk (N := 9) Go.Proofs.Tryz.func52 rfl rfl rfl (by simp) (by first | (simp; done) | simp [*]) ?_
  simp
  refine xcall_pure (c_Idx_Fnd xs v hl) ?_
  simp [XEndT, idxI_nonneg]


theorem c_pneumaticlaw22_right (c : Circuit) (hs : Sized c) : Pure Go.Proofs.Tryz.prog GL 47 [c.av] (.p (.bool (fewP c && decide (checkP c = 0)))) := by
  refine Pure.of_walk (N := 10) Go.Proofs.Tryz.func47 rfl rfl rfl (by simp) (by first | (simp; done) | simp [*]) ?_
  simp
  refine xcall_pure (nils_at1 (c_pneumaticlaw22_few c [] hs (by simp) (by simp))) ?_
  by_cases h : fewP c = true
  · simp [h, manyNames]
    refine xcall_pure (c_pneumaticref21_Check c hs) ?_
    simp [XEndT, h]
  · simp [h]
    simp [XEndT]

theorem key9 : KeyOk Go.Proofs.Tryz.prog 9 IsS := keyS (by kernel_rfl) (fun w em n => by kernel_rfl)
@[simp] theorem keys9_nil {a : Txt} : KeysIn Go.Proofs.Tryz.prog 9 [] (.p (.str a)) = True := eq_true ⟨_, key9, ⟨a, rfl⟩, by simp⟩
@[simp] theorem keys9_one {a b : Txt} {u : AV} : KeysIn Go.Proofs.Tryz.prog 9 [(.p (.str b), u)] (.p (.str a)) = True := eq_true ⟨_, key9, ⟨a, rfl⟩, fun e he => by simp at he; subst he; exact ⟨b, rfl⟩⟩
@[simp] theorem keys9_two {a b d : Txt} {u v : AV} : KeysIn Go.Proofs.Tryz.prog 9 [(.p (.str b), u), (.p (.str d), v)] (.p (.str a)) = True := eq_true ⟨_, key9, ⟨a, rfl⟩, fun e he => by
  simp at he
  rcases he with rfl | rfl
  · exact ⟨b, rfl⟩
  · exact ⟨d, rfl⟩⟩
@[simp] theorem set_nil {x v : AV} : setA [] x v = [(x, v)] := rfl
@[simp] theorem set_swap {u v : AV} : setA [(.p (.str [50]), u)] (.p (.str [52])) v = [(.p (.str [50]), u), (.p (.str [52]), v)] := by
  rw [setA, if_neg (by simp), set_nil]
@[simp] theorem zs9 : zeroShape Go.Proofs.Tryz.prog 9 = some false := by kernel_rfl
@[simp] theorem look_swap2 {u v : AV} : assocA [(.p (.str [50]), u), (.p (.str [52]), v)] (.p (.str [50])) = some u := by
  rw [assocA_cons, if_pos rfl]
@[simp] theorem look_swap4 {u v : AV} : assocA [(.p (.str [50]), u), (.p (.str [52]), v)] (.p (.str [52])) = some v := by
  rw [assocA_cons, if_neg (by simp), assocA_cons, if_pos rfl]


set_option maxRecDepth 20000 in
theorem c_pneumaticlaw22_InspectDriven (c : Circuit) (hs : Sized c) : Pure Go.Proofs.Tryz.prog GL 8 [c.av] (.p (.bool true)) := by
  refine Pure.of_walk (N := 121) Go.Proofs.Tryz.func8 rfl rfl rfl (by simp) (by first | (simp; done) | simp [*]) ?_
  have haw := c_pneumaticlaw22_awake ()
  simp
  refine xcall_pure (c_pneumaticlaw22_right c hs) ?_
  cases hf : (fewP c && decide (checkP c = 0)) with
  | false =>
    simp
    refine xcall_pure haw ?_
    simp [XEndT]
  | true =>
    have h : checkP c = 0 := by simp at hf; exact hf.2
    have h2 := check_parts h
    have hFi := c_inspect_Findings c hs
    rw [if_pos h, h] at hFi
    have hfl := findings_len h
    simp
    refine xcall_pure hFi ?_
    simp
    refine XLoop.go [1, 3, 29, 30] [0] 0 [] (fun _ => []) (fun _ (k : Nat) => [(31, .p (.int .i64 k))]) (fun _ _ => []) (fun k => k ≤ c.parts.length) (fun k => c.parts.length - k) 0 (by omega) ?_ ?_
    · simp
      try decide
    · rintro k hk
      simp
      refine xif_split (fun h3 => ?_) (fun h3 => ?_)
      · simp at h3
        obtain ⟨q, e⟩ := get_lt h3
        have hDr := c_inspect_Driver c q.name hs
        simp [h3, e, Part.enc, -getElem?_pos, List.getElem?_cons_zero, List.getElem?_cons_succ]
        refine xcall_pure hDr ?_
        by_cases hd : drvErr c q.name = 0
        · obtain ⟨hk1, v, hv, F⟩ := drv_facts h e hd
          obtain ⟨qv, ev⟩ := get_lt F.lt
          have hvl := F.lt
          have hpv : partIx c qv.name = v := partI_at h ev
          have hbe : behErr c qv.name = 0 := by unfold behErr; rw [if_neg (by simpa using h), hpv, if_neg (by omega)]
          have hbl : behL c qv.name = reachK c v := by unfold behL; rw [hbe, if_neg (by simp), hpv]
          have hBe := c_inspect_Behind c qv.name hs
          rw [hbe, hbl] at hBe
          have hact := F.acts
          have hrl : (reachK c (v : Int)).length < 4611686018427387904 := by
            unfold reachK
            rw [List.length_map]
            have := List.length_filter_le (fun n => (reachS c (v : Int)).contains n) (List.range c.parts.length)
            rw [List.length_range] at this
            omega
          have hco := c_Con_Int (reachK c (v : Int)) k hrl
          rw [decide_eq_true hact] at hco
          rw [hv]
          generalize (drvRes c q.name).2 = b at *
          have hv0 : ¬ ((v : Int) < 0) := by omega
          have hv1 : ¬ ((c.parts.length : Int) ≤ v) := by omega
          have hv2 : ¬ (c.parts.length ≤ v) := by omega
          simp [hd, hk1, hv0, hv1, hv2]
          have hC2 := c_Con_Fnd (findingsL c) ⟨2, ⟨k, [50]⟩⟩ (by omega)
          have hC4 := c_Con_Fnd (findingsL c) ⟨2, ⟨k, [52]⟩⟩ (by omega)
          have hG2 := c_inspect_Givers c ⟨k, [50]⟩ hs
          have hG4 := c_inspect_Givers c ⟨k, [52]⟩ hs
          rw [F.two.1, F.two.2.1] at hG2
          rw [F.four.1, F.four.2.1] at hG4
          rw [decide_eq_false F.two.2.2] at hC2
          rw [decide_eq_false F.four.2.2] at hC4
          clear F
          generalize findingsL c = L at *
          generalize reachK c (v : Int) = K at *
          refine XDraw.intro (by kernel_rfl) ?_
          simp [ev, hvl, Part.enc, -getElem?_pos, List.getElem?_cons_zero, List.getElem?_cons_succ]
          refine xcall_pure hBe ?_
          simp
          refine ⟨.of (by kernel_rfl), ?_⟩
          refine xcall_pure hco ?_
          simp
          refine XLoop.go [1, 3, 5, 7, 8, 29, 30, 31, 79, 80] [0, 2] 0 [] (fun _ => []) (fun _ (m : Nat) => [(81, .p (.int .i64 m))]) (fun _ _ => []) (fun m => m ≤ 2) (fun m => 2 - m) 0 (by omega) ?_ ?_
          · simp
            try decide
          · rintro m hm
            obtain rfl | rfl | rfl : m = 0 ∨ m = 1 ∨ m = 2 := by omega
            · cases b with
              | true =>
                simp [hit]
                refine xcall_pure hG2 ?_
                simp
                refine xcall_lent ?_
                simp
                refine ⟨_, c_Eq_Port [⟨v, [50]⟩] [⟨v, [50]⟩] (by simp), rfl, ?_⟩
                simp
                refine xcall_pure hC2 ?_
                simp
                refine ⟨1, by omega, by omega, ?_⟩
                simp
                try decide
              | false =>
                simp [hit]
                refine xcall_pure hG2 ?_
                simp
                refine xcall_lent ?_
                simp
                refine ⟨_, c_Eq_Port [⟨v, [52]⟩] [⟨v, [52]⟩] (by simp), rfl, ?_⟩
                simp
                refine xcall_pure hC2 ?_
                simp
                refine ⟨1, by omega, by omega, ?_⟩
                simp
                try decide
            · cases b with
              | true =>
                simp [hit]
                refine xcall_pure hG4 ?_
                simp
                refine xcall_lent ?_
                simp
                refine ⟨_, c_Eq_Port [⟨v, [52]⟩] [⟨v, [52]⟩] (by simp), rfl, ?_⟩
                simp
                refine xcall_pure hC4 ?_
                simp
                refine ⟨2, by omega, by omega, ?_⟩
                simp
                try decide
              | false =>
                simp [hit]
                refine xcall_pure hG4 ?_
                simp
                refine xcall_lent ?_
                simp
                refine ⟨_, c_Eq_Port [⟨v, [50]⟩] [⟨v, [50]⟩] (by simp), rfl, ?_⟩
                simp
                refine xcall_pure hC4 ?_
                simp
                refine ⟨2, by omega, by omega, ?_⟩
                simp
                try decide
            · simp
              refine ⟨wrap_i64 (by omega) (by omega), k + 1, by omega, by omega, ?_⟩
              simp
              try decide
        · simp [hd]
          refine ⟨wrap_i64 (by omega) (by omega), k + 1, by omega, by omega, ?_⟩
          simp
          try decide
      · simp
        refine xcall_pure haw ?_
        simp [XEndT]

theorem c_pneumaticlaw22_InspectPipes_1 (l : List Fnd) (hl : l.length < 100000) : Pure Go.Proofs.Tryz.prog GL 56 [.p (.lst 3 (l.map Fnd.enc))] (.p (.int .i64 (joinedN l))) := by
  refine Pure.of_walk (N := 19) Go.Proofs.Tryz.func56 rfl rfl rfl (by simp) (by first | (simp; done) | simp [*]) ?_
  simp
  refine XLoop.go [6, 7] [] 0 [] (fun _ => []) (fun _ (k : Nat) => [(3, .p (.int .i64 (joinedN (takeF l k)))), (8, .p (.int .i64 k))]) (fun _ _ => []) (fun k => k ≤ l.length) (fun k => l.length - k) 0 (by omega) ?_ ?_
  · simp [takeF, joinedN]
  · intro k hk
    have hsn := fun {x} (e : l[k]? = some x) => show joinedN (takeF l (k + 1)) = joinedN (takeF l k) + (if x.kind = 4 then 1 else 0) from by
      unfold takeF
      rw [take_snoc e, joined_append]
      congr 1
      unfold joinedN
      by_cases h4 : x.kind = 4 <;> simp [h4]
    have hend : k = l.length → joinedN (takeF l k) = joinedN l := fun e => by rw [e, takeF, List.take_length]
    have hle : joinedN (takeF l k) ≤ k := by
      unfold joinedN takeF
      have h1 := List.length_filter_le (fun f : Fnd => decide (f.kind = 4)) (l.take k)
      have h2 := List.length_take_le k l
      omega
    generalize joinedN (takeF l k) = n at hsn hend hle
    simp
    refine xif_split (fun h => ?_) (fun h => ?_)
    · simp at h
      obtain ⟨x, e⟩ := get_lt h
      have hsn2 := hsn e
      simp [h, e, Fnd.enc, -getElem?_pos, List.getElem?_cons_zero, List.getElem?_cons_succ]
      by_cases h4 : x.kind = 4
      · rw [if_pos h4] at hsn2
        simp [h4]
        refine ⟨wrap_i64 (by omega) (by omega), wrap_i64 (by omega) (by omega), k + 1, by omega, by omega, ?_⟩
        simp [hsn2]
      · rw [if_neg h4] at hsn2
        simp [h4]
        refine ⟨wrap_i64 (by omega) (by omega), k + 1, by omega, by omega, ?_⟩
        simp [hsn2]
    · simp at h
      have hn := hend (by omega)
      subst hn
      simp [XEndT]

set_option maxRecDepth 20000 in
theorem c_pneumaticlaw22_InspectPipes (c : Circuit) (x : Pipe) (hs : Sized c) (hx : x.fr.name.length < 4611686018427387900 ∧ x.to.name.length < 4611686018427387900) : Pure Go.Proofs.Tryz.prog GL 10 [c.av, x.av] (.p (.bool true)) := by
  refine Pure.of_walk (N := 112) Go.Proofs.Tryz.func10 rfl rfl rfl (by simp) (by first | (simp; done) | simp [*]) ?_
  have haw := c_pneumaticlaw22_awake ()
  have hxa := hx.1
  have hxb := hx.2
  have hFe := c_pneumaticlaw22_few c [x.fr.name, x.to.name] hs (by simp) (by
    intro s hs
    simp at hs
    rcases hs with rfl | rfl
    · exact hxa
    · exact hxb)
  have hms := joinP_sized (a := x.fr) (b := x.to) hs
  simp
  refine xcall_pure (c_pneumaticlaw22_right c hs) ?_
  cases hf : (fewP c && decide (checkP c = 0)) with
  | false =>
    simp
    refine xcall_pure haw ?_
    simp [XEndT]
  | true =>
    have h : checkP c = 0 := by simp at hf; exact hf.2
    have h2 := check_parts h
    simp
    refine xcall_given ?_
    simp
    refine ⟨_, hFe, ?_⟩
    cases hfe : (fewP c && !manyNames [x.fr.name, x.to.name]) with
    | false =>
      simp
      refine xcall_pure haw ?_
      simp [XEndT]
    | true =>
      simp
      refine xcall_pure (c_circuit_Join c x.fr x.to hs) ?_
      by_cases hj : joinErr c x.fr x.to = 0
      · have w := joined_wider hj
        have hmc := joinP_check hj
        generalize joinP c x.fr x.to = m at *
        have m2 := check_parts hmc
        have hA := c_inspect_Findings c hs
        have hB := c_inspect_Findings m hms
        rw [if_pos h, h] at hA
        rw [if_pos hmc, hmc] at hB
        have hal := findings_len h
        have hbl := findings_len hmc
        have hst := fun f hh => stay_or (f := f) w m2.1 hh
        have hco := fun f hh => come_or (f := f) w hh
        have hjl := joined_le w m2.1
        have hCa := fun f => c_Con_Fnd (findingsL c) f (by omega)
        have hCb := fun f => c_Con_Fnd (findingsL m) f (by omega)
        have hNa := c_pneumaticlaw22_InspectPipes_1 (findingsL c) (by omega)
        have hNb := c_pneumaticlaw22_InspectPipes_1 (findingsL m) (by omega)
        generalize findingsL c = A at *
        generalize findingsL m = B at *
        simp [hj]
        refine xcall_pure hA ?_
        simp
        refine xcall_pure hB ?_
        simp
        refine XLoop.go [7, 8, 10, 11, 61, 62] [4, 5] 0 [] (fun _ => []) (fun _ (k : Nat) => [(63, .p (.int .i64 k))]) (fun _ _ => []) (fun k => k ≤ A.length) (fun k => A.length - k) 0 (by omega) ?_ ?_
        · simp
          try decide
        · rintro k hk
          simp
          refine xif_split (fun h3 => ?_) (fun h3 => ?_)
          · simp at h3
            obtain ⟨y, ey⟩ := get_lt h3
            have hy := hst y (List.mem_of_getElem? ey)
            have hcy := hCb y
            simp [h3, ey, Fnd.enc, -getElem?_pos, List.getElem?_cons_zero, List.getElem?_cons_succ]
            refine xcall_pure hcy ?_
            by_cases hyb : y ∈ B
            · simp [hyb]
              refine ⟨wrap_i64 (by omega) (by omega), k + 1, by omega, by omega, ?_⟩
              simp
              try decide
            · have hk4 : y.kind ∈ [1, 2, 3, 5] := by
                rcases hy with hy | hy | hy | hy | hy
                · exact absurd hy hyb
                all_goals (rw [hy]; decide)
              simp [hyb]
              refine xcall_lent ?_
              simp
              refine ⟨_, c_Con_Int [1, 2, 3, 5] y.kind (by decide), rfl, ?_⟩
              rw [decide_eq_true hk4]
              simp
              refine ⟨wrap_i64 (by omega) (by omega), k + 1, by omega, by omega, ?_⟩
              simp
              try decide
          · simp
            refine XLoop.go [7, 8, 11, 84, 85] [5] 0 [] (fun _ => []) (fun _ (k : Nat) => [(86, .p (.int .i64 k))]) (fun _ _ => []) (fun k => k ≤ B.length) (fun k => B.length - k) 0 (by omega) ?_ ?_
            · simp
              try decide
            · rintro k hk
              simp
              refine xif_split (fun h3 => ?_) (fun h3 => ?_)
              · simp at h3
                obtain ⟨y, ey⟩ := get_lt h3
                have hy := hco y (List.mem_of_getElem? ey)
                have hcy := hCa y
                simp [h3, ey, Fnd.enc, -getElem?_pos, List.getElem?_cons_zero, List.getElem?_cons_succ]
                refine xcall_pure hcy ?_
                by_cases hyb : y ∈ A
                · simp [hyb]
                  refine ⟨wrap_i64 (by omega) (by omega), k + 1, by omega, by omega, ?_⟩
                  simp
                  try decide
                · have hk4 : y.kind ∈ [4, 6, 7] := by
                    rcases hy with hy | hy | hy | hy
                    · exact absurd hy hyb
                    all_goals (rw [hy]; decide)
                  simp [hyb]
                  refine xcall_lent ?_
                  simp
                  refine ⟨_, c_Con_Int [4, 6, 7] y.kind (by decide), rfl, ?_⟩
                  rw [decide_eq_true hk4]
                  simp
                  refine ⟨wrap_i64 (by omega) (by omega), k + 1, by omega, by omega, ?_⟩
                  simp
                  try decide
              · have hge : ((joinedN A : Nat) : Int) ≤ joinedN B := by omega
                simp
                refine xcall_pure hNb ?_
                simp
                refine xcall_pure hNa ?_
                simp [hjl]
                refine xcall_pure haw ?_
                simp [XEndT]
      · simp [hj]
        refine xcall_pure haw ?_
        simp [XEndT]

end Go.Am
