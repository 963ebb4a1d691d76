/- Sorting by a strict order, in plain Lean; ports by names; circuits of drafts; chapter 23. -/
import Derived.Test.YthkjeoagelhocaaGreatZCP
set_option linter.unusedVariables false
set_option linter.unusedSimpArgs false
namespace Go.Am
open Go Go.Proofs Go.Pn

structure STO {α : Type} (lt : α → α → Bool) : Prop where
  irrefl : ∀ a, lt a a = false
  trans : ∀ {a b c}, lt a b = true → lt b c = true → lt a c = true
  total : ∀ {a b}, lt a b = false → lt b a = false → a = b
theorem STO.asymm {α : Type} {lt : α → α → Bool} (h : STO lt) {a b : α} (k : lt a b = true) : lt b a = false := by
  cases e : lt b a with
  | false => rfl
  | true => have := h.trans k e; rw [h.irrefl] at this; cases this

def insB {α : Type} (lt : α → α → Bool) (x : α) : List α → List α
  | [] => [x]
  | y :: ys => if lt y x then y :: insB lt x ys else x :: y :: ys
def isortB {α : Type} (lt : α → α → Bool) (l : List α) : List α := l.foldr (insB lt) []
def AscB {α : Type} (lt : α → α → Bool) (l : List α) : Prop := l.Pairwise fun a b => lt b a = false

section
variable {α : Type} {lt : α → α → Bool}
theorem insB_perm {x : α} : ∀ {l : List α}, (insB lt x l).Perm (x :: l)
  | [] => List.Perm.refl _
  | y :: ys => by
    unfold insB
    split
    · exact (List.Perm.cons y insB_perm).trans (List.Perm.swap x y ys)
    · exact List.Perm.refl _
theorem isortB_perm : ∀ {l : List α}, (isortB lt l).Perm l
  | [] => List.Perm.refl _
  | x :: l => by
    show (insB lt x (isortB lt l)).Perm (x :: l)
    exact insB_perm.trans (List.Perm.cons x isortB_perm)
theorem isortB_len {l : List α} : (isortB lt l).length = l.length := isortB_perm.length_eq
theorem insB_asc (h : STO lt) {x : α} : ∀ {l : List α}, AscB lt l → AscB lt (insB lt x l)
  | [], _ => List.pairwise_singleton _ _
  | y :: ys, hl => by
    have hy := List.pairwise_cons.1 hl
    unfold insB
    cases e : lt y x with
    | true =>
      simp only [if_true]
      refine List.pairwise_cons.2 ⟨fun z hz => ?_, insB_asc h hy.2⟩
      rcases List.mem_cons.1 (insB_perm.mem_iff.1 hz) with rfl | hz
      · exact h.asymm e
      · exact hy.1 z hz
    | false =>
      simp only [Bool.false_eq_true, if_false]
      refine List.pairwise_cons.2 ⟨fun z hz => ?_, hl⟩
      rcases List.mem_cons.1 hz with rfl | hz
      · exact e
      · have h1 := hy.1 z hz
        cases e2 : lt z x with
        | false => rfl
        | true =>
          cases e3 : lt x y with
          | true => rw [h.trans e2 e3] at h1; cases h1
          | false =>
            have := h.total e e3
            subst this
            rw [e2] at h1; cases h1
theorem isortB_asc (h : STO lt) : ∀ {l : List α}, AscB lt (isortB lt l)
  | [] => List.Pairwise.nil
  | _ :: _ => insB_asc h (isortB_asc h)
theorem ascB_unique (h : STO lt) : ∀ {l m : List α}, AscB lt l → AscB lt m → l.Perm m → l = m
  | [], m, _, _, p => (List.Perm.nil_eq p)
  | x :: l, [], _, _, p => absurd (p.length_eq) (by simp)
  | x :: l, y :: m, hl, hm, p => by
    have hx := List.pairwise_cons.1 hl
    have hy := List.pairwise_cons.1 hm
    have e : x = y := by
      have h1 : x ∈ y :: m := p.mem_iff.1 (by simp)
      have h2 : y ∈ x :: l := p.mem_iff.2 (by simp)
      rcases List.mem_cons.1 h1 with h1 | h1
      · exact h1
      · rcases List.mem_cons.1 h2 with h2 | h2
        · exact h2.symm
        · exact h.total (hy.1 x h1) (hx.1 y h2)
    subst e
    rw [ascB_unique h hx.2 hy.2 ((List.perm_cons x).1 p)]
theorem isortB_unique (h : STO lt) {l m : List α} (hm : AscB lt m) (p : m.Perm l) : m = isortB lt l := ascB_unique h hm (isortB_asc h) (p.trans isortB_perm.symm)
theorem isortB_merge (h : STO lt) {l : List α} : (l.mergeSort fun x y => !lt y x) = isortB lt l := by
  refine isortB_unique h ?_ (List.mergeSort_perm _ _)
  have := List.pairwise_mergeSort (le := fun x y => !lt y x) (fun a b c h1 h2 => ?_) (fun a b => ?_) l
  · exact this.imp fun h1 => by simpa using h1
  · simp only [Bool.not_eq_true'] at h1 h2 ⊢
    cases e : lt c a with
    | false => rfl
    | true =>
      cases e2 : lt a b with
      | true => rw [h.trans e e2] at h2; cases h2
      | false =>
        have := h.total e2 h1
        subst this
        rw [e] at h2; cases h2
  · simp only [Bool.or_eq_true, Bool.not_eq_true']
    cases e : lt a b with
    | true => exact .inl (h.asymm e)
    | false => exact .inr rfl
theorem isortB_asc_id (h : STO lt) {l : List α} (hl : AscB lt l) : isortB lt l = l := (isortB_unique h hl (List.Perm.refl _)).symm

end

structure End where
  part : Txt
  port : Txt
  deriving DecidableEq
@[simp] def End.enc (a : End) : List PV := [.str a.part, .str a.port]
@[simp] def End.row (a : End) : List AV := [.p (.str a.part), .p (.str a.port)]
@[simp] def End.av (a : End) : AV := .agg [.p (.str a.part), .p (.str a.port)]
abbrev EndP := End × End
@[simp] def EndP.enc (x : EndP) : List PV := [.str x.1.part, .str x.1.port, .str x.2.part, .str x.2.port]
@[simp] def EndP.row (x : EndP) : List AV := [.p (.str x.1.part), .p (.str x.1.port), .p (.str x.2.part), .p (.str x.2.port)]
@[simp] def EndP.av (x : EndP) : AV := .agg [.p (.str x.1.part), .p (.str x.1.port), .p (.str x.2.part), .p (.str x.2.port)]
end Go.Am
