/- Lemmas and contracts for the proof of a statement of this seat. -/
import Derived.Test.YtkofnocfackjiaaGreatDoorZC5
import Derived.Test.YtkofnocfackjiaaGreatDoorZA6
set_option linter.unusedVariables false
set_option linter.unusedSimpArgs false
/- Contracts: package circuit: Limits. -/
namespace Go.Am
open Go Go.Proofs Go.Pn

theorem c_circuit_Limits_1 (c : Circuit) (s : Txt) (hs : Sized c) : Pure Tryz.prog GL 140 [.p (.str s), .iptr 2 [[.lst 3 (c.parts.map Part.enc), .lst 4 (c.pipes.map Pipe.enc)]] 0 0] (.p (.int .i64 (swAt c s))) := by
  refine Pure.of_walk (N := 20) Tryz.func140 rfl rfl rfl (by simp) (by first | (simp; done) | simp [*]) ?_
  simp
  refine xcall_pure (c_circuit_find c s hs) ?_
  rw [← partI, swAt]
  have h0 := partI_cases c s
  generalize partI c s = k at *
  rcases h0 with hk | ⟨j, x, hk, e, _⟩
  · simp [hk]
    simp [swK, XEndT]
  · obtain ⟨hj, _⟩ := List.getElem?_eq_some_iff.1 e
    have hka : kindAt c (j : Int) = x.kind := by rw [kindAt, Int.toNat_natCast, e]; rfl
    have hk0 : 0 ≤ (j : Int) := by omega
    simp [hk, hk0]
    simp [hj, e, -getElem?_pos, List.getElem?_cons_zero, List.getElem?_cons_succ]
    by_cases h1 : x.kind = 6
    · simp [h1]
      simp [XEndT, swK, hk, hka, h1]
    · simp [h1]
      simp [XEndT, swK, hk, hka, h1, hk0]

theorem c_circuit_Limits (c : Circuit) (s : Txt) (hs : Sized c) (hl : s.length < 4611686018427387900) : Pure Tryz.prog GL 92 [c.av, .p (.str s)] (.tup [.p (.int .i64 (limAt c s 48)), .p (.int .i64 (limAt c s 49)), .p (.int .i64 (limErr c s))]) := by
  refine Pure.of_walk (N := 38) Tryz.func92 rfl rfl rfl (by simp) (by first | (simp; done) | simp [*]) ?_
  simp
  refine xcall_pure (c_circuit_Check c hs) ?_
  by_cases hc : checkP c = 0
  · simp [hc]
    refine xcall_pure (c_circuit_find c s hs) ?_
    rw [← partI]
    rcases partI_cases c s with hk | ⟨j, x, hk, e, _⟩
    · simp [hk]
      simp [limErr, limAt, hc, hk, XEndT]
    · obtain ⟨hj, _⟩ := List.getElem?_eq_some_iff.1 e
      have hka : kindAt c (j : Int) = x.kind := by rw [kindAt, Int.toNat_natCast, e]; rfl
      have hk0 : ¬ (j : Int) < 0 := by omega
      simp [hk, hk0]
      simp [hj, e, -getElem?_pos, List.getElem?_cons_zero, List.getElem?_cons_succ]
      by_cases h1 : x.kind = 1
      · simp [h1]
        refine ⟨by omega, ?_⟩
        refine xcall_lent ?_
        simp
        refine ⟨_, c_circuit_Limits_1 c (s ++ [48]) hs, rfl, ?_⟩
        refine ⟨by omega, ?_⟩
        refine xcall_lent ?_
        simp
        refine ⟨_, c_circuit_Limits_1 c (s ++ [49]) hs, rfl, ?_⟩
        simp [limErr, limAt, hc, hk, hka, h1, XEndT, hk0]
      · simp [h1]
        simp [limErr, limAt, hc, hk, hka, h1, XEndT, hk0]
  · simp [hc, XEndT, limErr, limAt]

end Go.Am
/- Contracts: package circuit: moved. -/
namespace Go.Am
open Go Go.Proofs Go.Pn

end Go.Am
/- Contracts: package circuit: the functions that Add, Remove and Net hand over. -/
namespace Go.Am
open Go Go.Proofs Go.Pn

theorem c_circuit_Net_1 (p : Port) (l : List Port) (hl : l.length < 4611686018427387904) : Pure Tryz.prog GL 116 [.p (.lst 2 (l.map Port.enc)), .iptr 2 [[.int .i64 p.part, .str p.name]] 0 0] (.p (.bool (decide (p ∈ l)))) := by
  refine Pure.of_walk (N := 7) Tryz.func116 rfl rfl rfl (by simp) (by first | (simp; done) | simp [*]) ?_
  simp
  refine xcall_pure (c_Con_Port l p hl) ?_
  simp [XEndT]

end Go.Am
/- Contracts: slices.BinarySearchFunc. -/
namespace Go.Am
open Go Go.Proofs Go.Pn


end Go.Am
/- Contracts: slices.BinarySearchFunc over pipes. -/
namespace Go.Am
open Go Go.Proofs Go.Pn


end Go.Am
/- Contracts: slices.Clone. -/
namespace Go.Am
open Go Go.Proofs Go.Pn


end Go.Am
/- Contracts: slices.Insert of one part. -/
namespace Go.Am
open Go Go.Proofs Go.Pn


end Go.Am
/- Contracts: slices.Insert of one pipe. -/
namespace Go.Am
open Go Go.Proofs Go.Pn


end Go.Am
/- Contracts: slices.Delete of one part; slices.DeleteFunc over pipes. -/
namespace Go.Am
open Go Go.Proofs Go.Pn


end Go.Am
/- Contracts: package circuit: Add. -/
namespace Go.Am
open Go Go.Proofs Go.Pn


theorem parts_step {c : Circuit} (h : checkP c = 0) {k : Nat} {x y : Part} (hx : c.parts[k]? = some x) (hy : c.parts[k + 1]? = some y) : Op.bytesLess x.name y.name = true := by
  have hp : firstErr (partAt c) c.parts.length = 0 := by unfold checkP at h; grind
  have hk : k + 1 < c.parts.length := (List.getElem?_eq_some_iff.1 hy).1
  have h2 := firstErr_zero hp hk
  unfold partAt at h2
  rw [hy] at h2
  simp only [Nat.add_sub_cancel, hx, Option.map_some, Option.getD_some] at h2
  split at h2
  · rename_i h3; exact (h3 h2).elim
  · split at h2
    · cases h2
    · rename_i h3
      have : ¬ ¬ Op.bytesLess x.name y.name = true := fun h4 => h3 ⟨by omega, h4⟩
      exact Decidable.not_not.1 this
theorem parts_lt {c : Circuit} (h : checkP c = 0) : ∀ {d k : Nat} {x y : Part}, c.parts[k]? = some x → c.parts[k + d + 1]? = some y → Op.bytesLess x.name y.name = true
  | 0, k, x, y, hx, hy => parts_step h hx hy
  | d + 1, k, x, y, hx, hy => by
    have hlt : k + d + 1 < c.parts.length := by
      have := (List.getElem?_eq_some_iff.1 hy).1
      omega
    obtain ⟨z, hz⟩ := get_lt hlt
    exact bl_trans (parts_lt h hx hz) (parts_step h hz hy)
theorem parts_mono {c : Circuit} (h : checkP c = 0) {i j : Nat} {x y : Part} (hij : i < j) (hx : c.parts[i]? = some x) (hy : c.parts[j]? = some y) : Op.bytesLess x.name y.name = true := by
  obtain ⟨d, rfl⟩ := Nat.exists_eq_add_of_lt hij
  exact parts_lt h hx hy

end Go.Am
/- Contracts: package circuit: Remove. -/
namespace Go.Am
open Go Go.Proofs Go.Pn


theorem parts_inj {c : Circuit} (h : checkP c = 0) {i j : Nat} {x y : Part} (hx : c.parts[i]? = some x) (hy : c.parts[j]? = some y) (hn : x.name = y.name) : i = j := by
  rcases Nat.lt_trichotomy i j with hl | hl | hl
  · have := parts_mono h hl hx hy
    rw [hn, bl_irrefl] at this; cases this
  · exact hl
  · have := parts_mono h hl hy hx
    rw [hn, bl_irrefl] at this; cases this

end Go.Am
