/- Plain facts for the laws InspectDriven, InspectPipes. -/
import Derived.Test.YtfcljeghfckabaaGreatDoorZCU
import Derived.Test.YtfcljeghfckabaaGreatDoorZCJ
import Derived.Test.YtfcljeghfckabaaGreatDoorZCR
set_option linter.unusedVariables false
set_option linter.unusedSimpArgs false
namespace Go.Am
open Go Go.Proofs Go.Pn

theorem role_kind {c : Circuit} {p : Port} {k : Nat} (h : kindAt c p.part = k) : roleP c p = playsN k p.name := by
  unfold roleP; rw [h, Int.toNat_natCast]

theorem out_names {k : Nat} (hk : k = 2 ∨ k = 3) {s : Txt} (hs : s ∈ kindPorts k) (h1 : playsN k s = 1) : s = [50] ∨ s = [52] := by
  rcases hk with rfl | rfl
  · exact (by decide +kernel : ∀ s ∈ kindPorts 2, playsN 2 s = 1 → s = [50] ∨ s = [52]) s hs h1
  · exact (by decide +kernel : ∀ s ∈ kindPorts 3, playsN 3 s = 1 → s = [50] ∨ s = [52]) s hs h1
theorem feed_mem {c : Circuit} {i : Int} {s : Txt} {a : Port} (h : a ∈ feedL c i s) : a ∈ around c ⟨i, s⟩ ∧ a ∈ allP c ∧ roleP c a = 1 := by
  unfold feedL onlyL at h
  obtain ⟨h1, h2⟩ := List.mem_filter.1 h
  exact ⟨h1, (List.mem_filter.1 h1).1, by simpa [sideB, givesB] using h2⟩

theorem filter_sub {α : Type} {p q : α → Bool} : ∀ {l : List α}, (∀ x, p x = true → q x = true) → (l.filter p).Sublist (l.filter q)
  | [], _ => .slnil
  | x :: l, h => by
    have ih := filter_sub (l := l) h
    have hx := h x
    cases hp : p x with
    | true => rw [List.filter_cons_of_pos hp, List.filter_cons_of_pos (hx hp)]; exact ih.cons_cons x
    | false =>
      rw [List.filter_cons_of_neg (by simp [hp])]
      cases hq : q x with
      | true => rw [List.filter_cons_of_pos hq]; exact ih.cons x
      | false => rw [List.filter_cons_of_neg (by simp [hq])]; exact ih
theorem Wider.role {c m : Circuit} (w : Wider c m) (p : Port) : roleP m p = roleP c p := by unfold roleP; rw [w.kind]
theorem Wider.side {c m : Circuit} (w : Wider c m) (b : Bool) (p : Port) : sideB m b p = sideB c b p := by
  unfold sideB givesB takesB; rw [w.role]
theorem Wider.around {c m : Circuit} (w : Wider c m) (p : Port) : (around c p).Sublist (around m p) := by
  rw [around_rt, around_rt, w.all]
  refine filter_sub fun q hq => ?_
  have h1 : rt c q = rt c p := by simpa using hq
  have h2 := (rt_iff.1 h1).mono w.pipes
  simpa using rt_iff.2 h2
theorem Wider.only {c m : Circuit} (w : Wider c m) (p : Port) (b : Bool) : (onlyL c (Am.around c p) b).Sublist (onlyL m (Am.around m p) b) := by
  have h1 : onlyL m (Am.around m p) b = (Am.around m p).filter (sideB c b) := by
    unfold onlyL
    exact List.filter_congr fun q _ => w.side b q
  rw [h1]
  exact (w.around p).filter _
theorem Wider.sup {c m : Circuit} (w : Wider c m) : supB m = supB c := by unfold supB; rw [w.parts]
theorem Wider.head {c m : Circuit} (w : Wider c m) : headF m = headF c := by unfold headF; rw [w.sup]
end Go.Am
