/- Lemmas and contracts for the proof of a statement of this seat. -/
import Derived.Test.YtmfjjncfdpejiaaGreatDoorZF1
import Derived.Test.YtmfjjncfdpejiaaGreatDoorZN5
import Derived.Test.YtmfjjncfdpejiaaGreatDoorZA7
import Derived.Test.YtmfjjncfdpejiaaGreatDoorZC2
import Derived.Test.YtmfjjncfdpejiaaGreatDoorZCQ
import Derived.Test.YtmfjjncfdpejiaaGreatDoorZCA
set_option linter.unusedVariables false
set_option linter.unusedSimpArgs false
namespace Go.Am
open Go Go.Proofs Go.Shelf Go.RowKit
end Go.Am
namespace Go.Am
open Go Go.Proofs Go.Pn Go.RowKit
end Go.Am
namespace Go.Am
open Go Go.Proofs Go.Pn Go.RowKit
end Go.Am
namespace Go.Am
open Go Go.Proofs Go.Pn
theorem Jyg {k : Nat} (h : k < 14) : (catRow k)[0]? = some (.p (.str (Jbo k))) := by
 rcases (by omega : k = 0 \/ k = 1 \/ k = 2 \/ k = 3 \/ k = 4 \/ k = 5 \/ k = 6 \/ k = 7 \/ k = 8 \/ k = 9 \/ k = 10 \/ k = 11 \/ k = 12 \/ k = 13) with rfl|rfl|rfl|rfl|rfl|rfl|rfl|rfl|rfl|rfl|rfl|rfl|rfl|rfl <;> rfl
theorem J01 (k : Int) : Pure Tryz.prog GL 87 [.p (.int .i64 k)] (.tup [.p (.str (if Jbc k = 0 then Jbo k.toNat else [])), .p (.int .i64 (Jbc k))]) := by
 refine Pure.of_walk (N := 14) Tryz.func87 rfl rfl rfl (by simp) (by first | (simp; done) | simp [*]) ?_
 simp
 refine Jab (Jlc k) ?_
 by_cases hk : 0 <= k /\ k < 14
 . have h3 : Jbc k = 0 := Jfp.2 hk
   have hl := Jf8 (k := k.toNat)
   have h6 := Jf9 (k := k.toNat)
   have f1 := Jyg (k := k.toNat) (by omega)
   simp [h3, hl, Jfq]
   refine ⟨by simpa using h6, ?_⟩
   obtain ⟨g1, g2⟩ := gsI.1 f1
   simp [Jaa, h3, g2]
 . have h3 : Jbc k = 1 := Joz hk
   simp [h3, catRow, lay]
   simp [Jaa, h3]
end Go.Am
namespace Go.Am
open Go Go.Proofs Go.Pn
end Go.Am
namespace Go.Am
open Go Go.Proofs Go.Pn Go.RowKit
end Go.Am
namespace Go.Am
open Go Go.Proofs Go.Pn
end Go.Am
namespace Go.Am
open Go Go.Proofs Go.Pn
end Go.Am
namespace Go.Am
open Go Go.Proofs Go.Pn
end Go.Am
namespace Go.Am
open Go Go.Proofs Go.Pn
theorem Ka2 (c : Circuit) (hs : Sized c) : Pure Tryz.prog GL 47 [c.av] (.p (.bool (fewP c && decide (Jad c = 0)))) := by
 refine Pure.of_walk (N := 10) Tryz.func47 rfl rfl rfl (by simp) (by first | (simp; done) | simp [*]) ?_
 have hF := J1i c hs
 have hC := J1g c hs
 simp
 refine Jab hF ?_
 cases h : fewP c with
 | true =>
   simp
   refine Jab hC ?_
   simp [Jaa]
 | false => simp [Jaa]
end Go.Am
