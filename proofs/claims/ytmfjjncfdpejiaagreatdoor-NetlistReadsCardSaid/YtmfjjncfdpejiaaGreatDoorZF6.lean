/- Lemmas and contracts for the proof of a statement of this seat. -/
import Derived.Test.YtmfjjncfdpejiaaGreatDoorZF1
import Derived.Test.YtmfjjncfdpejiaaGreatDoorZN5
import Derived.Test.YtmfjjncfdpejiaaGreatDoorZA7
import Derived.Test.YtmfjjncfdpejiaaGreatDoorZC2
set_option linter.unusedVariables false
set_option linter.unusedSimpArgs false
namespace Go.Am
open Go Go.Proofs Go.Shelf Go.RowKit
end Go.Am
namespace Go.Am
open Go Go.Proofs Go.Pn Go.RowKit
end Go.Am
namespace Go.Am
open Go Go.Proofs Go.Pn
theorem Jwk {k : Nat} (h : k < 14) : (catRow k)[0]? = some (.p (.str (Jbl k))) := by
 rcases (by omega : k = 0 \/ k = 1 \/ k = 2 \/ k = 3 \/ k = 4 \/ k = 5 \/ k = 6 \/ k = 7 \/ k = 8 \/ k = 9 \/ k = 10 \/ k = 11 \/ k = 12 \/ k = 13) with rfl|rfl|rfl|rfl|rfl|rfl|rfl|rfl|rfl|rfl|rfl|rfl|rfl|rfl <;> rfl
theorem Jyv (k : Int) : Pure Tryz.prog GL 87 [.p (.int .i64 k)] (.tup [.p (.str (if Jbf k = 0 then Jbl k.toNat else [])), .p (.int .i64 (Jbf k))]) := by
 refine Pure.of_walk (N := 14) Tryz.func87 rfl rfl rfl (by simp) (by first | (simp; done) | simp [*]) ?_
 simp
 refine Jab (Jj4 k) ?_
 by_cases hk : 0 <= k /\ k < 14
 . have h3 : Jbf k = 0 := Jfd.2 hk
   have hl := Jft (k := k.toNat)
   have h6 := Jfu (k := k.toNat)
   have f1 := Jwk (k := k.toNat) (by omega)
   simp [h3, hl, Jfe]
   refine ⟨by simpa using h6, ?_⟩
   obtain ⟨g1, g2⟩ := gsI.1 f1
   simp [Jaa, h3, g2]
 . have h3 : Jbf k = 1 := Jnv hk
   simp [h3, catRow, lay]
   simp [Jaa, h3]
end Go.Am
