/- Lemmas and contracts for the proof of a statement of this seat. -/
import Derived.Test.YtkofnocfackjiaaGreatDoorZCF
import Derived.Test.YtkofnocfackjiaaGreatDoorZA6
import Derived.Test.YtkofnocfackjiaaGreatDoorZF1
import Derived.Test.YtkofnocfackjiaaGreatDoorZCS
set_option linter.unusedVariables false
set_option linter.unusedSimpArgs false
/- Rows that grew in the cells of an array, seen as pure. -/
namespace Go.Am
open Go Go.Proofs Go.Pn

end Go.Am
/- Contracts: designations: check, order; the reference's; chapter 26. -/
namespace Go.Am
open Go Go.Proofs Go.Pn


theorem c_cmp_Compare_string (a b : Txt) : Pure Tryz.prog GL 102 [.p (.str a), .p (.str b)] (.p (.int .i64 (cmpS a b))) := by
  refine Pure.of_walk (N := 20) Tryz.func102 rfl rfl rfl (by simp) (by first | (simp; done) | simp [*]) ?_
  simp
  refine xcall_pure (c_cmp_isNaN_string a) ?_
  simp
  refine xcall_pure (c_cmp_isNaN_string b) ?_
  simp
  cases h1 : Op.bytesLess a b with
  | true => simp [XEndT, cmpS, h1]
  | false =>
    cases h2 : Op.bytesLess b a with
    | true =>
      have hne : ¬ a = b := fun e => by subst e; rw [bl_irrefl] at h2; cases h2
      simp [XEndT, cmpS, h1, h2, hne]
    | false =>
      obtain rfl := bl_total h1 h2
      simp [XEndT, cmpS, bl_irrefl]

def ltrL : List Txt := [[65], [83], [86], [90]]
theorem c_label_check (x : Lbl) (hl : x.ltr.length < 4611686018427387904) : Pure Tryz.prog GL 45 [x.av] (.p (.int .i64 (chkL x))) := by
  refine Pure.of_walk (N := 27) Tryz.func45 rfl rfl rfl (by simp) (by first | (simp; done) | simp [*]) ?_
  by_cases h1 : x.grp < 0
  · have e : chkL x = 2 := if_pos (.inl h1)
    simp [h1]
    simp [XEndT, e]
  by_cases h2 : 64 < x.grp
  · have e : chkL x = 2 := if_pos (.inr h2)
    simp [h1, h2]
    simp [XEndT, e]
  simp [h1, h2]
  refine xcall_lent ?_
  simp
  refine ⟨_, c_Con_Txt ltrL x.ltr (by simp [ltrL]), rfl, ?_⟩
  by_cases h3 : x.ltr ∈ ltrL
  · by_cases h4 : x.num < 1
    · have e : chkL x = 2 := by unfold chkL; rw [if_neg (by omega), if_neg (fun hn => hn h3), if_pos (.inl h4)]
      simp [h3, h4]
      simp [XEndT, e]
    by_cases h5 : 64 < x.num
    · have e : chkL x = 2 := by unfold chkL; rw [if_neg (by omega), if_neg (fun hn => hn h3), if_pos (.inr h5)]
      simp [h3, h4, h5]
      simp [XEndT, e]
    have e : chkL x = 0 := by unfold chkL; rw [if_neg (by omega), if_neg (fun hn => hn h3), if_neg (by omega)]
    simp [h3, h4, h5]
    simp [XEndT, e]
  · have e : chkL x = 1 := by unfold chkL; rw [if_neg (by omega), if_pos (show ¬ x.ltr ∈ [([65] : Txt), [83], [86], [90]] from h3)]
    simp [h3]
    simp [XEndT, e]

theorem c_label_order (a b : Lbl) : Pure Tryz.prog GL 59 [a.av, b.av] (.p (.int .i64 (cmpLbl a b))) := by
  refine Pure.of_walk (N := 22) Tryz.func59 rfl rfl rfl (by simp) (by first | (simp; done) | simp [*]) ?_
  simp
  refine XDraw.intro (by kernel_rfl) ?_
  simp
  refine xcall_pure (c_cmp_Compare_int a.grp b.grp) ?_
  simp
  refine xcall_pure (c_cmp_Compare_string a.ltr b.ltr) ?_
  simp
  refine xcall_pure (c_cmp_Compare_int a.num b.num) ?_
  simp
  refine xcall_lent ?_
  simp
  refine ⟨_, c_cmp_Or_int [cmpI a.grp b.grp, cmpS a.ltr b.ltr, cmpI a.num b.num] (by simp), rfl, ?_⟩
  simp [XEndT, cmpLbl]
  exact .of (by kernel_rfl)

end Go.Am
/- Contracts: the reference's numbers and texts of designations; chapter 26. -/
namespace Go.Am
open Go Go.Proofs Go.Pn

end Go.Am
/- Contracts: the reference: acting directly; chapter 26. -/
namespace Go.Am
open Go Go.Proofs Go.Pn

end Go.Am
/- Contracts: the reference: the groups; chapter 26. -/
namespace Go.Am
open Go Go.Proofs Go.Pn

def g1 (c : Circuit) (k i : Nat) : Int := if i < k then (match c.parts[i]? with
  | some p => if p.kind = 1 then cylN c (i + 1) else if p.kind = 0 then 0 else -1
  | none => -1) else 0
def g2 (c : Circuit) (k i : Nat) : Int := if i < k then grpK c c.parts.length i else g1 c c.parts.length i
theorem set_rowG {l : List Int} {i : Nat} {x : Int} : (l.map Int.row).set i [.p (.int .i64 x)] = (l.set i x).map Int.row := by rw [List.map_set]

end Go.Am
