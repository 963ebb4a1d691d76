/- Lemmas and contracts for the proof of a statement of this seat. -/
import Derived.Test.YtfcljeghfckabaaGreatDoorZCF
set_option linter.unusedVariables false
set_option linter.unusedSimpArgs false
/- Contracts: package pressure: states. -/
namespace Go.Am
open Go Go.Proofs Go.Pn


end Go.Am
/- The states as the program finds them are the states. -/
namespace Go.Am
open Go Go.Proofs Go.Pn

def Vals (ok : Int → Prop) (S : List Int) : Prop := ∀ (n : Nat) (x : Int), S[n]? = some x → ok x
theorem Vals.set {ok : Int → Prop} {S : List Int} {n : Nat} {v : Int} (h : Vals ok S) (hv : ok v) : Vals ok (S.set n v) := fun m x hx => by
  rw [List.getElem?_set] at hx
  split at hx
  · split at hx
    · cases hx; exact hv
    · cases hx
  · exact h m x hx
theorem isSt_iff {S : List Int} {v : Int} {n : Nat} : isSt S v n = true ↔ S[n]? = some v := by simp [isSt, -getElem?_pos]
theorem isSt_set {S : List Int} {n m : Nat} {v w : Int} (hn : n < S.length) : isSt (S.set n v) w m = true ↔ (n = m ∧ v = w) ∨ (n ≠ m ∧ isSt S w m = true) := by
  rw [isSt_iff, isSt_iff, List.getElem?_set]
  by_cases e : n = m
  · subst e
    rw [if_pos rfl, if_pos hn]; simp
  · rw [if_neg e]; simp [e]
theorem lt_of_get {S : List Int} {n : Nat} {x : Int} (h : S[n]? = some x) : n < S.length := (List.getElem?_eq_some_iff.1 h).1

structure VInv (c : Circuit) (l : List Int) (S : List Int) : Prop where
  len : S.length = (nets c).length
  vals : Vals (fun x => x = 0 ∨ x = 1 ∨ x = 2) S
  two : ∀ n, isSt S 2 n = (prs c l).contains n
  one : ∀ n, isSt S 1 n = true → n ∈ vts c l
theorem VInv.step {c : Circuit} {l : List Int} (h : checkQ c l = 0) {S : List Int} {y : Psg} (hS : VInv c l S) (hy : y ∈ psgs c l) (h0 : S[y.to]? = some 0) (hq : venF S y = true) : VInv c l (S.set y.to 1) := by
  refine ⟨by simp [hS.len], hS.vals.set (.inr (.inl rfl)), fun n => ?_, fun n hn => ?_⟩
  · rw [← hS.two n, Bool.eq_iff_iff, isSt_set (lt_of_get h0)]
    constructor
    · rintro (⟨_, h⟩ | ⟨_, h⟩)
      · simp at h
      · exact h
    · intro hn
      refine .inr ⟨fun e => ?_, hn⟩
      subst e
      rw [isSt_iff, h0] at hn
      simp at hn
  · rcases (isSt_set (lt_of_get h0)).1 hn with ⟨rfl, _⟩ | ⟨_, hn⟩
    · have hnp : y.to ∉ prs c l := fun hp => by
        have := List.contains_iff_mem.2 hp
        rw [← hS.two, isSt_iff, h0] at this
        simp at this
      obtain ⟨i, z, hi, hz, rfl⟩ := psgs_mem.1 hy
      refine List.contains_iff_mem.1 (vts_closed h ⟨i, netN c i z.to, z.fr.map (netN c i), false⟩ (ventPs_mem.2 ⟨.inr ⟨i, z, hi, hz, rfl⟩, hnp⟩) ?_)
      refine flows_mono (S := isSt S 1) (fun n hn => List.contains_iff_mem.2 (hS.one n hn)) ?_
      simpa [flowsB, venF] using hq
    · exact hS.one n hn
end Go.Am
/- Contracts: package pressure: Nets, At, Push. -/
namespace Go.Am
open Go Go.Proofs Go.Pn

end Go.Am
/- Contracts: package pressure: Flow. -/
namespace Go.Am
open Go Go.Proofs Go.Pn


theorem FrzK.refRows {s : Store} {B : List Nat} {b k i n : Nat} {c : Option Nat} {rows : List (List AV)} {r : List (List PV)} (hB : b ∈ B) (hg : get s b = some (.cells k rows)) (hr : (rows.drop i).take n = r.map (·.map AV.p)) (hn : r.length = n) : FrzK s (· ∈ B) (.ref b k i n c) (.p (.lst k r)) :=
  .frz _ _ (.one _ _ (.rows hB hg hr hn))

end Go.Am
/- Contracts: package pressure: step. -/
namespace Go.Am
open Go Go.Proofs Go.Pn


@[simp] theorem range6_0 : (List.range 6)[0]? = some 0 := rfl
@[simp] theorem range6_1 : (List.range 6)[1]? = some 1 := rfl
@[simp] theorem range6_2 : (List.range 6)[2]? = some 2 := rfl
@[simp] theorem range6_3 : (List.range 6)[3]? = some 3 := rfl
@[simp] theorem range6_4 : (List.range 6)[4]? = some 4 := rfl
@[simp] theorem range6_5 : (List.range 6)[5]? = some 5 := rfl
@[simp] theorem range6_nodup : (List.range 6).Nodup := List.nodup_range

end Go.Am
