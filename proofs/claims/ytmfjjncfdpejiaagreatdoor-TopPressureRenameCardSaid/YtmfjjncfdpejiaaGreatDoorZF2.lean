/- Lemmas and contracts for the proof of a statement of this seat. -/
import Derived.Test.YtmfjjncfdpejiaaGreatDoorZCF
import Derived.Test.YtmfjjncfdpejiaaGreatDoorZA6
import Derived.Test.YtmfjjncfdpejiaaGreatDoorZF1
import Derived.Test.YtmfjjncfdpejiaaGreatDoorZCS
set_option linter.unusedVariables false
set_option linter.unusedSimpArgs false
namespace Go.Am
open Go Go.Proofs Go.Pn
end Go.Am
namespace Go.Am
open Go Go.Proofs Go.Pn
theorem J4m (a b : Txt) : Pure Tryz.prog GL 259 [.p (.str a), .p (.str b)] (.p (.int .i64 (cmpS a b))) := by
 refine Pure.of_walk (N := 20) Tryz.func259 rfl rfl rfl (by simp) (by first | (simp; done) | simp [*]) ?_
 simp
 refine Jab (Jqd a) ?_
 simp
 refine Jab (Jqd b) ?_
 simp
 cases h1 : Op.bytesLess a b with
 | true => simp [Jaa, cmpS, h1]
 | false =>
   cases h2 : Op.bytesLess b a with
   | true =>
     have hne : ¬ a = b := fun e => by subst e; rw [Jdm] at h2; cases h2
     simp [Jaa, cmpS, h1, h2, hne]
   | false =>
     obtain rfl := Jfz h1 h2
     simp [Jaa, cmpS, Jdm]
theorem J45 (a b : Lbl) : Pure Tryz.prog GL 195 [a.av, b.av] (.p (.int .i64 (Jcw a b))) := by
 refine Pure.of_walk (N := 22) Tryz.func195 rfl rfl rfl (by simp) (by first | (simp; done) | simp [*]) ?_
 simp
 refine Jaj.intro (by kernel_rfl) ?_
 simp
 refine Jab (Jqc a.grp b.grp) ?_
 simp
 refine Jab (J4m a.ltr b.ltr) ?_
 simp
 refine Jab (Jqc a.num b.num) ?_
 simp
 refine Jcv ?_
 simp
 refine ⟨_, Jmx [cmpI a.grp b.grp, cmpS a.ltr b.ltr, cmpI a.num b.num] (by simp), rfl, ?_⟩
 simp [Jaa, Jcw]
 exact .of (by kernel_rfl)
end Go.Am
namespace Go.Am
open Go Go.Proofs Go.Pn
end Go.Am
namespace Go.Am
open Go Go.Proofs Go.Pn
end Go.Am
namespace Go.Am
open Go Go.Proofs Go.Pn
def g1 (c : Circuit) (k i : Nat) : Int := if i < k then (match c.parts[i]? with
 | some p => if p.kind = 1 then cylN c (i + 1) else if p.kind = 0 then 0 else -1
 | none => -1) else 0
def g2 (c : Circuit) (k i : Nat) : Int := if i < k then grpK c c.parts.length i else g1 c c.parts.length i
theorem Kf1 {l : List Int} {i : Nat} {x : Int} : (l.map Int.row).set i [.p (.int .i64 x)] = (l.set i x).map Int.row := by rw [List.map_set]
end Go.Am
