/- Lemmas and contracts for the proof of a statement of this seat. -/
import Derived.Test.YtmfjjncfdpejiaaGreatDoorZCU
import Derived.Test.YtmfjjncfdpejiaaGreatDoorZC6
set_option linter.unusedVariables false
set_option linter.unusedSimpArgs false
namespace Go.Am
open Go Go.Proofs Go.Pn
structure Plc where
 row : Int
 col : Int
 deriving DecidableEq
@[simp] def Plc.enc (p : Plc) : List PV := [.int .i64 p.row, .int .i64 p.col]
@[simp] def Plc.row_ (p : Plc) : List AV := [.p (.int .i64 p.row), .p (.int .i64 p.col)]
@[simp] def Plc.av (p : Plc) : AV := .agg [.p (.int .i64 p.row), .p (.int .i64 p.col)]
def Ju0 (k : Int) : Int := if k = 1 then 0 else if k = 0 then 4 else if k = 6 \/ k = 7 then 3 else 2
end Go.Am
namespace Go.Am
open Go Go.Proofs Go.Pn
end Go.Am
namespace Go.Am
open Go Go.Proofs Go.Pn
def Jgu (k : Nat) : Txt := (Jox[k]?.getD ([], [])).2
theorem Kav {k : Nat} (h : k < 14) : (catRow k)[1]? = some (.p (.str (Jgu k))) /\ (Jg1 k)[1]? = some (.str (Jgu k)) /\ (Jg1 k).length = 7 := by
 rcases (by omega : k = 0 \/ k = 1 \/ k = 2 \/ k = 3 \/ k = 4 \/ k = 5 \/ k = 6 \/ k = 7 \/ k = 8 \/ k = 9 \/ k = 10 \/ k = 11 \/ k = 12 \/ k = 13) with rfl|rfl|rfl|rfl|rfl|rfl|rfl|rfl|rfl|rfl|rfl|rfl|rfl|rfl <;> exact ⟨rfl, rfl, rfl⟩
theorem Kay {k : Nat} (h : k < 14) : Jgu k = [83] ↔ k = 6 \/ k = 7 := (by decide +kernel : ∀ k, k < 14 -> (Jgu k = [83] ↔ k = 6 \/ k = 7)) k h
theorem Kiv {k : Int} (h : 0 <= k /\ k < 14) : Ju0 k = if k = 1 then 0 else if k = 0 then 4 else if Jgu k.toNat = [83] then 3 else 2 := by
 unfold Ju0
 have := Kay (k := k.toNat) (by omega)
 by_cases h1 : Jgu k.toNat = [83]
 . rw [if_pos h1]
   have h2 := this.1 h1
   rw [if_pos (show k = 6 \/ k = 7 by omega)]
 . rw [if_neg h1]
   have h2 : ¬ (k = 6 \/ k = 7) := fun hh => h1 (this.2 (by omega))
   rw [if_neg h2]
theorem J5d (k : Int) : Pure Tryz.prog GL 257 [.p (.int .i64 k)] (.tup [.p (.str (if Jax k = 0 then Jgu k.toNat else [])), .p (.int .i64 (Jax k))]) := by
 refine Pure.of_walk (N := 14) Tryz.func257 rfl rfl rfl (by simp) (by first | (simp; done) | simp [*]) ?_
 simp
 refine Jab (Jh2 k) ?_
 by_cases hk : 0 <= k /\ k < 14
 . have h3 : Jax k = 0 := Jcs.2 hk
   have hl := Jfa (k := k.toNat)
   have h6 := Jfb (k := k.toNat)
   obtain ⟨f1, f2, f3⟩ := Kav (k := k.toNat) (by omega)
   simp [h3, hl, Jc0]
   refine ⟨by simpa using h6, ?_⟩
   obtain ⟨g1, g2⟩ := gsI.1 f1
   simp [Jaa, h3, g2]
 . have h3 : Jax k = 1 := Jib hk
   simp [h3, catRow, lay]
   simp [Jaa, h3]
end Go.Am
namespace Go.Am
open Go Go.Proofs Go.Pn
end Go.Am
namespace Go.Am
open Go Go.Proofs Go.Pn
end Go.Am
namespace Go.Am
open Go Go.Proofs Go.Pn
end Go.Am
namespace Go.Am
open Go Go.Proofs Go.Pn
end Go.Am
namespace Go.Am
open Go Go.Proofs Go.Pn
end Go.Am
namespace Go.Am
open Go Go.Proofs Go.Pn
end Go.Am
namespace Go.Am
open Go Go.Proofs Go.Pn
end Go.Am
