/- Contracts: the law LayoutArranges. -/
import Derived.Test.YtfcljeghfckabaaGreatDoorZD5
import Derived.Test.YtfcljeghfckabaaGreatDoorZLaw25b
set_option linter.unusedVariables false
set_option linter.unusedSimpArgs false
namespace Go.Am
open Go Go.Proofs Go.Pn

theorem arrFold_len {c : Circuit} {l : List Plc} {cols : List Int} : ∀ {os : List (List Int)} {g : BSt}, g.b.length = l.length → (os.foldl (arrStep c l cols) g).b.length = l.length
  | [], _, h => h
  | o :: os, g, h => by
    rw [List.foldl_cons]
    refine arrFold_len ?_
    unfold arrStep
    simp only
    split
    · exact nowN_len
    · exact h
theorem arrRes_len {c : Circuit} {l : List Plc} {row : Int} : (arrRes c l row).length < 100000 := by
  unfold arrRes
  split
  · simp
  · rename_i h
    simp only [ne_eq, Decidable.not_not] at h
    rw [arrFold_len (g := ⟨l, -1⟩) rfl]
    have h0 : layE c l = 0 := by
      unfold arrErr at h
      by_cases h1 : layE c l ≠ 0
      · rw [if_pos h1] at h; exact h
      · simpa using h1
    obtain ⟨hc, hL⟩ := layE_zero.1 h0
    have := (check_parts hc).2.1
    rw [hL.len]; omega

set_option maxRecDepth 20000 in
theorem c_pneumaticlaw25_LayoutArranges (c : Circuit) (l : List Plc) (row : Int) (hs : Sized c) (_hl : l.length < 4611686018427387904) : Pure Go.Proofs.Tryz.prog GL 4 [c.av, .p (.lst 2 (l.map Plc.enc)), .p (.int .i64 row)] (.p (.bool true)) := by
  refine Pure.of_walk (N := 41) Go.Proofs.Tryz.func4 rfl rfl rfl (by simp) (by first | (simp; done) | simp [*]) ?_
  have haw := c_pneumaticlaw25_awake
  have hF := c_pneumaticlaw25_few c l hs
  have h1 := c_layout_Arrange c l row hs
  have h2 := c_pneumaticref25_Arrange c l row hs
  have hlen := @arrRes_len c l row
  simp
  refine xcall_pure hF ?_
  simp
  refine xif_split (fun h => ?_) (fun h => ?_)
  · simp
    refine xcall_pure haw ?_
    simp [XEndT]
  simp
  refine xcall_pure h1 ?_
  simp
  refine xcall_pure h2 ?_
  simp
  refine xcall_pure haw ?_
  simp
  refine xcall_pure (c_pneumaticref25_Same _ _ (by omega)) ?_
  simp [XEndT]
end Go.Am
