/- Lemmas and contracts for the proof of a statement of this seat. -/
import Derived.Test.YtmfjjncfdpejiaaGreatDoorZC5
import Derived.Test.YtmfjjncfdpejiaaGreatDoorZA6
set_option linter.unusedVariables false
set_option linter.unusedSimpArgs false
namespace Go.Am
open Go Go.Proofs Go.Pn
theorem Jvc (c : Circuit) (s : Txt) (hs : Sized c) : Pure Tryz.prog GL 334 [.p (.str s), .iptr 2 [[.lst 3 (c.parts.map Part.enc), .lst 4 (c.pipes.map Pipe.enc)]] 0 0] (.p (.int .i64 (swAt c s))) := by
 refine Pure.of_walk (N := 20) Tryz.func334 rfl rfl rfl (by simp) (by first | (simp; done) | simp [*]) ?_
 simp
 refine Jab (Jk0 c s hs) ?_
 rw [<- Ja4, swAt]
 have h0 := Jgy c s
 generalize Ja4 c s = k at *
 rcases h0 with hk | ⟨j, x, hk, e, _⟩
 . simp [hk]
   simp [swK, Jaa]
 . obtain ⟨hj, _⟩ := gsI.1 e
   have hka : Jal c (j : Int) = x.kind := by rw [Jal, Int.toNat_natCast, e]; rfl
   have hk0 : 0 <= (j : Int) := by omega
   simp [hk, hk0]
   simp [hj, e, -getElem?_pos, List.getElem?_cons_zero, List.getElem?_cons_succ]
   by_cases h1 : x.kind = 6
   . simp [h1]
     simp [Jaa, swK, hk, hka, h1]
   . simp [h1]
     simp [Jaa, swK, hk, hka, h1, hk0]
theorem Jvb (c : Circuit) (s : Txt) (hs : Sized c) (hl : s.length < 4611686018427387900) : Pure Tryz.prog GL 270 [c.av, .p (.str s)] (.tup [.p (.int .i64 (Jc7 c s 48)), .p (.int .i64 (Jc7 c s 49)), .p (.int .i64 (Jf4 c s))]) := by
 refine Pure.of_walk (N := 38) Tryz.func270 rfl rfl rfl (by simp) (by first | (simp; done) | simp [*]) ?_
 simp
 refine Jab (Jha c hs) ?_
 by_cases hc : Jad c = 0
 . simp [hc]
   refine Jab (Jk0 c s hs) ?_
   rw [<- Ja4]
   rcases Jgy c s with hk | ⟨j, x, hk, e, _⟩
   . simp [hk]
     simp [Jf4, Jc7, hc, hk, Jaa]
   . obtain ⟨hj, _⟩ := gsI.1 e
     have hka : Jal c (j : Int) = x.kind := by rw [Jal, Int.toNat_natCast, e]; rfl
     have hk0 : ¬ (j : Int) < 0 := by omega
     simp [hk, hk0]
     simp [hj, e, -getElem?_pos, List.getElem?_cons_zero, List.getElem?_cons_succ]
     by_cases h1 : x.kind = 1
     . simp [h1]
       refine ⟨by omega, ?_⟩
       refine Jcv ?_
       simp
       refine ⟨_, Jvc c (s ++ [48]) hs, rfl, ?_⟩
       refine ⟨by omega, ?_⟩
       refine Jcv ?_
       simp
       refine ⟨_, Jvc c (s ++ [49]) hs, rfl, ?_⟩
       simp [Jf4, Jc7, hc, hk, hka, h1, Jaa, hk0]
     . simp [h1]
       simp [Jf4, Jc7, hc, hk, hka, h1, Jaa, hk0]
 . simp [hc, Jaa, Jf4, Jc7]
end Go.Am
namespace Go.Am
open Go Go.Proofs Go.Pn
end Go.Am
namespace Go.Am
open Go Go.Proofs Go.Pn
theorem J4i (p : Port) (l : List Port) (hl : l.length < 4611686018427387904) : Pure Tryz.prog GL 107 [.p (.lst 2 (l.map Port.enc)), .iptr 2 [[.int .i64 p.part, .str p.name]] 0 0] (.p (.bool (decide (p ∈ l)))) := by
 refine Pure.of_walk (N := 7) Tryz.func107 rfl rfl rfl (by simp) (by first | (simp; done) | simp [*]) ?_
 simp
 refine Jab (J37 l p hl) ?_
 simp [Jaa]
end Go.Am
namespace Go.Am
open Go Go.Proofs Go.Pn
end Go.Am
namespace Go.Am
open Go Go.Proofs Go.Pn
end Go.Am
namespace Go.Am
open Go Go.Proofs Go.Pn
end Go.Am
namespace Go.Am
open Go Go.Proofs Go.Pn
end Go.Am
namespace Go.Am
open Go Go.Proofs Go.Pn
end Go.Am
namespace Go.Am
open Go Go.Proofs Go.Pn
theorem J9i {α : Type} {xs : List α} {q : α -> Bool} (h : idxI xs q = -1) : ∀ x ∈ xs, q x = false := by
 unfold idxI at h
 cases hf : xs.findIdx? q with
 | none => exact List.findIdx?_eq_none_iff.1 hf
 | some i => rw [hf] at h; simp at h
end Go.Am
namespace Go.Am
open Go Go.Proofs Go.Pn
theorem Jz8 {c : Circuit} (h : Jad c = 0) {k : Nat} {x y : Part} (hx : c.parts[k]? = some x) (hy : c.parts[k + 1]? = some y) : Op.bytesLess x.name y.name = true := by
 have hp : Jas (partAt c) c.parts.length = 0 := by unfold Jad at h; grind
 have hk : k + 1 < c.parts.length := (gsI.1 hy).1
 have h2 := Jgn hp hk
 unfold partAt at h2
 rw [hy] at h2
 simp only [Nat.add_sub_cancel, hx, Option.map_some, Option.getD_some] at h2
 split at h2
 . rename_i h3; exact (h3 h2).elim
 . split at h2
   . cases h2
   . rename_i h3
     have : ¬ ¬ Op.bytesLess x.name y.name = true := fun h4 => h3 ⟨by omega, h4⟩
     exact Decidable.not_not.1 this
theorem Jz7 {c : Circuit} (h : Jad c = 0) : ∀ {d k : Nat} {x y : Part}, c.parts[k]? = some x -> c.parts[k + d + 1]? = some y -> Op.bytesLess x.name y.name = true
 | 0, k, x, y, hx, hy => Jz8 h hx hy
 | d + 1, k, x, y, hx, hy => by
   have hlt : k + d + 1 < c.parts.length := by
     have := (gsI.1 hy).1
     omega
   obtain ⟨z, hz⟩ := Jae hlt
   exact Jh1 (Jz7 h hx hz) (Jz8 h hz hy)
theorem Jok {c : Circuit} (h : Jad c = 0) {i j : Nat} {x y : Part} (hij : i < j) (hx : c.parts[i]? = some x) (hy : c.parts[j]? = some y) : Op.bytesLess x.name y.name = true := by
 obtain ⟨d, rfl⟩ := Nat.exists_eq_add_of_lt hij
 exact Jz7 h hx hy
end Go.Am
namespace Go.Am
open Go Go.Proofs Go.Pn
theorem Jr4 {c : Circuit} (h : Jad c = 0) {i j : Nat} {x y : Part} (hx : c.parts[i]? = some x) (hy : c.parts[j]? = some y) (hn : x.name = y.name) : i = j := by
 rcases Nat.lt_trichotomy i j with hl | hl | hl
 . have := Jok h hl hx hy
   rw [hn, Jdm] at this; cases this
 . exact hl
 . have := Jok h hl hy hx
   rw [hn, Jdm] at this; cases this
end Go.Am
