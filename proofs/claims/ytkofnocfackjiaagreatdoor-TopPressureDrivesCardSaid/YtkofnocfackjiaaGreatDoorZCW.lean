/- Plain facts for the laws InspectDriven, InspectPipes. -/
import Derived.Test.YtkofnocfackjiaaGreatDoorZCU
import Derived.Test.YtkofnocfackjiaaGreatDoorZCJ
import Derived.Test.YtkofnocfackjiaaGreatDoorZCR
set_option linter.unusedVariables false
set_option linter.unusedSimpArgs false
namespace Go.Am
open Go Go.Proofs Go.Pn

theorem mem_findsT {c : Circuit} {k : Nat} {l : List Port} {f : Fnd} : f ∈ findsT c k l ↔ f.kind = k ∧ f.at_ ∈ l ∧ foundB c k f.at_ = true := by
  unfold findsT
  rw [List.mem_map]
  constructor
  · rintro ⟨p, hp, rfl⟩
    exact ⟨rfl, List.mem_filter.1 hp⟩
  · rintro ⟨h1, h2⟩
    refine ⟨f.at_, List.mem_filter.2 h2, ?_⟩
    cases f
    simp only at h1
    rw [h1]
theorem mem_allF {c : Circuit} {f : Fnd} : ∀ {k : Nat}, f ∈ allF c k ↔ f ∈ headF c ∨ ∃ j : Nat, 1 ≤ j ∧ j ≤ k ∧ f.kind = j ∧ f.at_ ∈ allP c ∧ foundB c j f.at_ = true
  | 0 => by
    unfold allF
    constructor
    · exact .inl
    · rintro (h | ⟨j, h1, h2, _⟩)
      · exact h
      · omega
  | k + 1 => by
    rw [allF, List.mem_append, mem_allF, mem_findsT]
    constructor
    · rintro ((h | ⟨j, h1, h2, h3⟩) | ⟨h1, h2⟩)
      · exact .inl h
      · exact .inr ⟨j, h1, by omega, h3⟩
      · exact .inr ⟨k + 1, by omega, by omega, h1, h2⟩
    · rintro (h | ⟨j, h1, h2, h3⟩)
      · exact .inl (.inl h)
      · by_cases e : j = k + 1
        · subst e; exact .inr h3
        · exact .inl (.inr ⟨j, h1, by omega, h3⟩)
theorem mem_findings {c : Circuit} {f : Fnd} : f ∈ findingsL c ↔ f ∈ headF c ∨ ∃ j : Nat, 1 ≤ j ∧ j ≤ 7 ∧ f.kind = j ∧ f.at_ ∈ allP c ∧ foundB c j f.at_ = true := mem_allF
theorem mem_head {c : Circuit} {f : Fnd} : f ∈ headF c ↔ supB c = false ∧ f = ⟨0, ⟨0, []⟩⟩ := by
  unfold headF
  cases supB c <;> simp

theorem around_sym {c : Circuit} {p q : Port} (hp : p ∈ allP c) (h : q ∈ around c p) : p ∈ around c q := by
  rw [around_rt, List.mem_filter] at h ⊢
  exact ⟨hp, by have := h.2; simp at this ⊢; exact this.symm⟩
theorem len_two {α : Type} {l : List α} {a b : α} (ha : a ∈ l) (hb : b ∈ l) (hab : a ≠ b) : 2 ≤ l.length := by
  match l, ha, hb with
  | [], ha, _ => cases ha
  | [x], ha, hb => simp at ha hb; exact absurd (ha.trans hb.symm) hab
  | _ :: _ :: _, _, _ => simp
theorem role_kind {c : Circuit} {p : Port} {k : Nat} (h : kindAt c p.part = k) : roleP c p = playsN k p.name := by
  unfold roleP; rw [h, Int.toNat_natCast]

structure DrvFacts (c : Circuit) (i v : Nat) (b : Bool) : Prop where
  lt : v < c.parts.length
  two : sideErr c ⟨i, [50]⟩ = 0 ∧ sideL c ⟨i, [50]⟩ true = [⟨v, if b then [50] else [52]⟩] ∧ (⟨2, ⟨i, [50]⟩⟩ : Fnd) ∉ findingsL c
  four : sideErr c ⟨i, [52]⟩ = 0 ∧ sideL c ⟨i, [52]⟩ true = [⟨v, if b then [52] else [50]⟩] ∧ (⟨2, ⟨i, [52]⟩⟩ : Fnd) ∉ findingsL c
  acts : (i : Int) ∈ reachK c v

theorem chamber_open {c : Circuit} {i : Nat} {s : Txt} {a : Port} (hp : (⟨i, s⟩ : Port) ∈ allP c) (ha : a ∈ around c ⟨i, s⟩) (hne : a ≠ ⟨i, s⟩) : (⟨2, ⟨i, s⟩⟩ : Fnd) ∉ findingsL c := by
  intro h
  rcases mem_findings.1 h with h | ⟨j, _, _, h3, _, h5⟩
  · obtain ⟨_, h⟩ := mem_head.1 h
    simp at h
  · simp only at h3
    have : j = 2 := by omega
    subst this
    have h6 : (decide (roleP c ⟨i, s⟩ = 4) && decide ((around c ⟨i, s⟩).length = 1)) = true := h5
    have h7 : (around c ⟨i, s⟩).length = 1 := by
      simp only [Bool.and_eq_true, decide_eq_true_eq] at h6
      exact h6.2
    have := len_two ha (around_self hp) hne
    omega
theorem side_feed {c : Circuit} (h : checkP c = 0) {i : Int} {s : Txt} (hp : (⟨i, s⟩ : Port) ∈ allP c) : sideErr c ⟨i, s⟩ = 0 ∧ sideL c ⟨i, s⟩ true = feedL c i s := by
  have h1 : sideErr c ⟨i, s⟩ = 0 := by unfold sideErr; rw [if_neg (by simpa using h), allP_mem.1 hp]
  exact ⟨h1, by unfold sideL; rw [h1, if_neg (by simp)]; rfl⟩
theorem out_names {k : Nat} (hk : k = 2 ∨ k = 3) {s : Txt} (hs : s ∈ kindPorts k) (h1 : playsN k s = 1) : s = [50] ∨ s = [52] := by
  rcases hk with rfl | rfl
  · exact (by decide +kernel : ∀ s ∈ kindPorts 2, playsN 2 s = 1 → s = [50] ∨ s = [52]) s hs h1
  · exact (by decide +kernel : ∀ s ∈ kindPorts 3, playsN 3 s = 1 → s = [50] ∨ s = [52]) s hs h1
theorem feed_mem {c : Circuit} {i : Int} {s : Txt} {a : Port} (h : a ∈ feedL c i s) : a ∈ around c ⟨i, s⟩ ∧ a ∈ allP c ∧ roleP c a = 1 := by
  unfold feedL onlyL at h
  obtain ⟨h1, h2⟩ := List.mem_filter.1 h
  exact ⟨h1, (List.mem_filter.1 h1).1, by simpa [sideB, givesB] using h2⟩

theorem drv_facts {c : Circuit} (h : checkP c = 0) {i : Nat} {q : Part} (e : c.parts[i]? = some q) (hd : drvErr c q.name = 0) : q.kind = 1 ∧ ∃ v : Nat, (drvRes c q.name).1 = v ∧ DrvFacts c i v (drvRes c q.name).2 := by
  have h2 := check_parts h
  have hix : partIx c q.name = i := partI_at h e
  have hki : kindAt c (i : Int) = q.kind := by simp [kindAt, e, -getElem?_pos]
  unfold drvErr at hd
  rw [if_neg (by simpa using h), hix, if_neg (by omega), hki] at hd
  by_cases hk : q.kind = 1
  · refine ⟨hk, ?_⟩
    rw [if_neg (by simpa using hk)] at hd
    have hdr : drvRes c q.name = (drvOf c i).getD (0, false) := by
      unfold drvRes
      have : drvErr c q.name = 0 := by
        unfold drvErr
        rw [if_neg (by simpa using h), hix, if_neg (by omega), hki, if_neg (by simpa using hk), hd]
      rw [this, if_neg (by simp), hix]
    obtain ⟨hp2, hp4⟩ := cyl_ports e hk
    cases ho : drvOf c i with
    | none => rw [ho] at hd; simp at hd
    | some r =>
      obtain ⟨v, b⟩ := r
      rw [hdr, ho]
      simp only [Option.getD_some]
      unfold drvOf at ho
      split at ho
      · rename_i x y hx hy
        split at ho
        · cases ho
        · rename_i hne
          split at ho
          · rename_i hkv
            simp only [Option.some.injEq, Prod.mk.injEq] at ho
            obtain ⟨rfl, rfl⟩ := ho
            simp only [not_or, Decidable.not_not] at hne
            obtain ⟨hpart, hname⟩ := hne
            obtain ⟨fx1, fx2, fx3⟩ := feed_mem (show x ∈ feedL c i [50] by rw [hx]; simp)
            obtain ⟨fy1, fy2, fy3⟩ := feed_mem (show y ∈ feedL c i [52] by rw [hy]; simp)
            obtain ⟨j, qv, j1, j2, j3, j4, j5, j6, _⟩ := role_all h2.1 fx2
            obtain ⟨j', qv', k1, k2, k3, k4, k5, k6, _⟩ := role_all h2.1 fy2
            have hjj : j' = j := by omega
            subst hjj
            rw [j3] at k3; cases k3
            refine ⟨j', j1, ?_⟩
            have hkk : ∃ k : Nat, qv.kind = k ∧ (k = 2 ∨ k = 3) := by
              rw [j4] at hkv
              rcases hkv with hh | hh
              · exact ⟨2, hh, .inl rfl⟩
              · exact ⟨3, hh, .inr rfl⟩
            obtain ⟨k, hk1, hk2⟩ := hkk
            rw [hk1] at j6 k6 j4 k4
            rw [Int.toNat_natCast] at j6 k6
            have nx := out_names hk2 j6 (by rw [← role_kind j4]; exact fx3)
            have ny := out_names hk2 k6 (by rw [← role_kind k4]; exact fy3)
            obtain ⟨xp, xn⟩ := x
            obtain ⟨yp, yn⟩ := y
            simp only at hpart hname nx ny j1 k1
            subst hpart
            subst j1
            have hch : ∀ s : Txt, s = [50] ∨ s = [52] → roleP c ⟨(i : Int), s⟩ = 4 := fun s hs => by
              have hk' : kindAt c (⟨(i : Int), s⟩ : Port).part = ((1 : Nat) : Int) := by simp only; rw [hki, hk]; rfl
              rw [role_kind hk']
              rcases hs with rfl | rfl
              · show playsN 1 [50] = 4; decide +kernel
              · show playsN 1 [52] = 4; decide +kernel
            have hdiff : ∀ (n s : Txt), s = [50] ∨ s = [52] → roleP c ⟨(j' : Int), n⟩ = 1 → (⟨(j' : Int), n⟩ : Port) ≠ ⟨(i : Int), s⟩ := fun n s hs h1 he => by
              rw [he, hch s hs] at h1
              simp at h1
            obtain ⟨s2a, s2b⟩ := side_feed h hp2
            obtain ⟨s4a, s4b⟩ := side_feed h hp4
            have hb : decide (yn = [52]) = decide (xn = [50]) := by
              rcases nx with rfl | rfl <;> rcases ny with rfl | rfl <;> simp at hname ⊢
            refine ⟨j2, ⟨s2a, ?_, chamber_open hp2 fx1 (hdiff _ _ (.inl rfl) fx3)⟩, ⟨s4a, ?_, chamber_open hp4 fy1 (hdiff _ _ (.inr rfl) fy3)⟩, ?_⟩
            · rw [s2b, hx]
              rcases nx with rfl | rfl <;> rcases ny with rfl | rfl <;> simp at hname ⊢
            · rw [s4b, hy]
              rcases nx with rfl | rfl <;> rcases ny with rfl | rfl <;> simp at hname ⊢
            · have hjr : 0 ≤ (j' : Int) ∧ (j' : Int) < c.parts.length := by omega
              refine reach_start hjr ?_
              unfold dirL
              rw [mem_limFold, mem_dirFold]
              refine .inl (.inr ⟨⟨(j' : Int), xn⟩, fx2, rfl, by simp [givesB, fx3], ⟨(i : Int), [50]⟩, ?_, rfl⟩)
              unfold onlyL
              refine List.mem_filter.2 ⟨around_sym hp2 fx1, ?_⟩
              simp [sideB, takesB, hch [50] (.inl rfl)]
          · cases ho
      · cases ho
  · rw [if_pos hk] at hd
    cases hd

end Go.Am
