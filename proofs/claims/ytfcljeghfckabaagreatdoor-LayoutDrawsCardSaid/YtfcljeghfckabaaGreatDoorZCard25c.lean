/- What the card of LayoutDraws needs more: the table of white space. -/
import Derived.Test.YtfcljeghfckabaaGreatDoorZCard25b
import Derived.Test.YtfcljeghfckabaaGreatDoorZBrid7
import Derived.Test.YtfcljeghfckabaaGreatDoorZE4
import Derived.Lib.LaidU8
set_option linter.unusedVariables false
set_option linter.unusedSimpArgs false
namespace Go.Proofs.YtfcljeghfckabaaGreatDoor
open Go Go.Am Go.Pn Go.ChangeShapes Go.WideShapes Go.ChangeAt Go.RowKit

theorem whiteP : (Rows.laid_unicode_White_Space : DataW Unit) = Lib.whiteData := by kernel_rfl
theorem whiteX : WhiteExtra Tryz.prog fldLays_ren where
  n6 := by kernel_rfl
  y6 := by kernel_rfl
  c3 := by kernel_rfl
  c49 := by kernel_rfl
  c193 := by kernel_rfl
  c194 := by kernel_rfl
  c196 := by kernel_rfl
  c198 := by kernel_rfl
set_option maxRecDepth 100000 in
theorem globP3 {W : World} (h : laidMetH Tryz.prog laidL W) : GlobOk GL3 (fun _ => False) W := by
  have h1 : GlobOk GL2 (fun _ => False) W := globP h
  rw [MakeChecks.laidMetH_plain _ _ _ (by kernel_rfl)] at h
  have hR : Lib.VarReads Tryz.prog W "unicode.White_Space" Lib.whiteData := Lib.laidMet.reads h (by rw [← whiteP]; simp)
  have hW : Lib.WhiteTab (fldLays_ren.g 6) W := whiteTab_of_reads { fldLays with } whiteX hR
  have e0 : fldLays_ren.g 6 = 1 := by kernel_rfl
  rw [e0] at hW
  obtain ⟨T, oT, R, oR, a1, a2, a3, a4, a5⟩ := hW
  intro g k rows hmem
  rcases List.mem_append.1 hmem with hmem | hmem
  · exact h1 g k rows hmem
  · simp only [List.mem_singleton, Prod.mk.injEq] at hmem
    obtain ⟨rfl, rfl, rfl⟩ := hmem
    refine ⟨World.block_lt_of_cell? W _ a1, fun h => h, fun i j row x hrow hx => ?_⟩
    match i, j with
    | 0, 0 =>
      simp only [List.getElem?_cons_zero, Option.some.injEq] at hrow
      subst hrow
      simp only [List.getElem?_cons_zero, Option.some.injEq] at hx
      subst hx
      refine ⟨_, a1, .ptr whiteRow T oT (fun j => if j = 0 then .slice (some ⟨R, oR, none⟩) 7 7 else if j = 1 then .slice none 0 0 else .int .i64 2) (World.block_lt_of_cell? W _ a2) (fun h => h) (fun j x hj => ?_) (fun j x hj => ?_)⟩
      · match j, hj with
        | 0, _ => exact a2
        | 1, _ => exact a3
        | 2, _ => exact a4
        | j + 3, hj => simp [whiteRow] at hj
      · match j, hj with
        | 0, hj =>
          simp only [whiteRow, List.getElem?_cons_zero, Option.some.injEq] at hj
          subst hj
          refine .full 3 _ R oR 7 (fun i j => .int .u16 (Lib.whiteT.getD (3 * i + j) 0)) rfl (World.block_lt_of_cell? W _ (a5 0 (by omega))) (fun h => h) (fun i j row x hr hx => ?_) (fun i j row x hr hx => ?_)
          · rw [List.getElem?_map, Option.map_eq_some_iff] at hr
            obtain ⟨i', hi', rfl⟩ := hr
            rw [List.getElem?_map, Option.map_eq_some_iff] at hx
            obtain ⟨j', hj', rfl⟩ := hx
            have hi : i < 7 := by have := (List.getElem?_eq_some_iff.1 hi').1; simpa using this
            have hj : j < 3 := by have := (List.getElem?_eq_some_iff.1 hj').1; simpa using this
            have := a5 (3 * i + j) (by omega)
            rw [show oR + i * 3 + j = oR + (3 * i + j) by omega, this]
          · rw [List.getElem?_map, Option.map_eq_some_iff] at hr
            obtain ⟨i', hi', rfl⟩ := hr
            rw [List.getElem?_map, Option.map_eq_some_iff] at hx
            obtain ⟨j', hj', rfl⟩ := hx
            have hi : i' = i := by
              obtain ⟨h1, h2⟩ := List.getElem?_eq_some_iff.1 hi'
              rw [List.getElem_range] at h2; exact h2.symm
            have hj : j' = j := by
              obtain ⟨h1, h2⟩ := List.getElem?_eq_some_iff.1 hj'
              rw [List.getElem_range] at h2; exact h2.symm
            subst hi; subst hj
            exact .int ..
        | 1, hj =>
          simp [whiteRow] at hj
          subst hj
          exact .nilsl
        | 2, hj =>
          simp [whiteRow] at hj
          subst hj
          exact .int ..
        | j + 3, hj => simp [whiteRow] at hj
    | 0, j + 1 =>
      simp only [List.getElem?_cons_zero, Option.some.injEq] at hrow
      subst hrow
      simp at hx
    | i + 1, _ => simp at hrow
end Go.Proofs.YtfcljeghfckabaaGreatDoor
