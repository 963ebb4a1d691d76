/- Lemmas and contracts for the proof of a statement of this seat. -/
import Derived.Test.YtkofnocfackjiaaGreatDoorZCF
import Derived.Test.YtkofnocfackjiaaGreatDoorZA6
import Derived.Test.YtkofnocfackjiaaGreatDoorZF1
import Derived.Test.YtkofnocfackjiaaGreatDoorZCS
set_option linter.unusedVariables false
set_option linter.unusedSimpArgs false
/- Rows that grew in the cells of an array, seen as pure. -/
namespace Go.Am
open Go Go.Proofs Go.Pn

end Go.Am
/- Contracts: designations: check, order; the reference's; chapter 26. -/
namespace Go.Am
open Go Go.Proofs Go.Pn


theorem c_cmp_Compare_string (a b : Txt) : Pure Tryz.prog GL 102 [.p (.str a), .p (.str b)] (.p (.int .i64 (cmpS a b))) := by
  refine Pure.of_walk (N := 20) Tryz.func102 rfl rfl rfl (by simp) (by first | (simp; done) | simp [*]) ?_
  simp
  refine xcall_pure (c_cmp_isNaN_string a) ?_
  simp
  refine xcall_pure (c_cmp_isNaN_string b) ?_
  simp
  cases h1 : Op.bytesLess a b with
  | true => simp [XEndT, cmpS, h1]
  | false =>
    cases h2 : Op.bytesLess b a with
    | true =>
      have hne : ¬ a = b := fun e => by subst e; rw [bl_irrefl] at h2; cases h2
      simp [XEndT, cmpS, h1, h2, hne]
    | false =>
      obtain rfl := bl_total h1 h2
      simp [XEndT, cmpS, bl_irrefl]

theorem c_label_order (a b : Lbl) : Pure Tryz.prog GL 59 [a.av, b.av] (.p (.int .i64 (cmpLbl a b))) := by
  refine Pure.of_walk (N := 22) Tryz.func59 rfl rfl rfl (by simp) (by first | (simp; done) | simp [*]) ?_
  simp
  refine XDraw.intro (by kernel_rfl) ?_
  simp
  refine xcall_pure (c_cmp_Compare_int a.grp b.grp) ?_
  simp
  refine xcall_pure (c_cmp_Compare_string a.ltr b.ltr) ?_
  simp
  refine xcall_pure (c_cmp_Compare_int a.num b.num) ?_
  simp
  refine xcall_lent ?_
  simp
  refine ⟨_, c_cmp_Or_int [cmpI a.grp b.grp, cmpS a.ltr b.ltr, cmpI a.num b.num] (by simp), rfl, ?_⟩
  simp [XEndT, cmpLbl]
  exact .of (by kernel_rfl)

end Go.Am
/- Contracts: the reference's numbers and texts of designations; chapter 26. -/
namespace Go.Am
open Go Go.Proofs Go.Pn

end Go.Am
/- Contracts: the reference: acting directly; chapter 26. -/
namespace Go.Am
open Go Go.Proofs Go.Pn

end Go.Am
/- Contracts: the reference: the groups; chapter 26. -/
namespace Go.Am
open Go Go.Proofs Go.Pn

def g1 (c : Circuit) (k i : Nat) : Int := if i < k then (match c.parts[i]? with
  | some p => if p.kind = 1 then cylN c (i + 1) else if p.kind = 0 then 0 else -1
  | none => -1) else 0
def g2 (c : Circuit) (k i : Nat) : Int := if i < k then grpK c c.parts.length i else g1 c c.parts.length i
theorem set_rowG {l : List Int} {i : Nat} {x : Int} : (l.map Int.row).set i [.p (.int .i64 x)] = (l.set i x).map Int.row := by rw [List.map_set]

end Go.Am
