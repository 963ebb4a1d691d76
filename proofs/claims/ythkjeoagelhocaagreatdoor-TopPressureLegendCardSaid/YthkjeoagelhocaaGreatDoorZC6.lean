/- Lemmas and contracts for the proof of a statement of this seat. -/
import Derived.Test.YthkjeoagelhocaaGreatDoorZC5
import Derived.Test.YthkjeoagelhocaaGreatDoorZA5
set_option linter.unusedVariables false
set_option linter.unusedSimpArgs false
namespace Go.Am
open Go Go.Proofs Go.Pn
theorem Jul (c : Circuit) (s : Txt) (hs : Sized c) : Pure Tryz.prog GL 141 [.p (.str s), .iptr 2 [[.lst 3 (c.parts.map Part.enc), .lst 4 (c.pipes.map Pipe.enc)]] 0 0] (.p (.int .i64 (swAt c s))) := by
 refine Pure.of_walk (N := 20) Tryz.func141 rfl rfl rfl (by simp) (by first | (simp; done) | simp [*]) ?_
 simp
 refine Jab (Jki c s hs) ?_
 rw [<- Jck, swAt]
 have h0 := Jjd c s
 generalize Jck c s = k at *
 rcases h0 with hk | ⟨j, x, hk, e, _⟩
 . simp [hk]
   simp [swK, Jaa]
 . obtain ⟨hj, _⟩ := gsI.1 e
   have hka : Jaj c (j : Int) = x.kind := by rw [Jaj, Int.toNat_natCast, e]; rfl
   have hk0 : 0 <= (j : Int) := by omega
   simp [hk, hk0]
   simp [hj, e, -getElem?_pos, List.getElem?_cons_zero, List.getElem?_cons_succ]
   by_cases h1 : x.kind = 6
   . simp [h1]
     simp [Jaa, swK, hk, hka, h1]
   . simp [h1]
     simp [Jaa, swK, hk, hka, h1, hk0]
theorem Juk (c : Circuit) (s : Txt) (hs : Sized c) (hl : s.length < 4611686018427387900) : Pure Tryz.prog GL 78 [c.av, .p (.str s)] (.tup [.p (.int .i64 (Jc3 c s 48)), .p (.int .i64 (Jc3 c s 49)), .p (.int .i64 (Jfy c s))]) := by
 refine Pure.of_walk (N := 38) Tryz.func78 rfl rfl rfl (by simp) (by first | (simp; done) | simp [*]) ?_
 simp
 refine Jab (Jgr c hs) ?_
 by_cases hc : Jac c = 0
 . simp [hc]
   refine Jab (Jki c s hs) ?_
   rw [<- Jck]
   rcases Jjd c s with hk | ⟨j, x, hk, e, _⟩
   . simp [hk]
     simp [Jfy, Jc3, hc, hk, Jaa]
   . obtain ⟨hj, _⟩ := gsI.1 e
     have hka : Jaj c (j : Int) = x.kind := by rw [Jaj, Int.toNat_natCast, e]; rfl
     have hk0 : ¬ (j : Int) < 0 := by omega
     simp [hk, hk0]
     simp [hj, e, -getElem?_pos, List.getElem?_cons_zero, List.getElem?_cons_succ]
     by_cases h1 : x.kind = 1
     . simp [h1]
       refine ⟨by omega, ?_⟩
       refine Jcs ?_
       simp
       refine ⟨_, Jul c (s ++ [48]) hs, rfl, ?_⟩
       refine ⟨by omega, ?_⟩
       refine Jcs ?_
       simp
       refine ⟨_, Jul c (s ++ [49]) hs, rfl, ?_⟩
       simp [Jfy, Jc3, hc, hk, hka, h1, Jaa, hk0]
     . simp [h1]
       simp [Jfy, Jc3, hc, hk, hka, h1, Jaa, hk0]
 . simp [hc, Jaa, Jfy, Jc3]
end Go.Am
namespace Go.Am
open Go Go.Proofs Go.Pn
end Go.Am
namespace Go.Am
open Go Go.Proofs Go.Pn
theorem J4o (p : Port) (l : List Port) (hl : l.length < 4611686018427387904) : Pure Tryz.prog GL 228 [.p (.lst 2 (l.map Port.enc)), .iptr 2 [[.int .i64 p.part, .str p.name]] 0 0] (.p (.bool (decide (p ∈ l)))) := by
 refine Pure.of_walk (N := 7) Tryz.func228 rfl rfl rfl (by simp) (by first | (simp; done) | simp [*]) ?_
 simp
 refine Jab (J38 l p hl) ?_
 simp [Jaa]
end Go.Am
namespace Go.Am
open Go Go.Proofs Go.Pn
end Go.Am
namespace Go.Am
open Go Go.Proofs Go.Pn
end Go.Am
namespace Go.Am
open Go Go.Proofs Go.Pn
end Go.Am
namespace Go.Am
open Go Go.Proofs Go.Pn
end Go.Am
namespace Go.Am
open Go Go.Proofs Go.Pn
end Go.Am
namespace Go.Am
open Go Go.Proofs Go.Pn
end Go.Am
namespace Go.Am
open Go Go.Proofs Go.Pn
theorem J0i {c : Circuit} (h : Jac c = 0) {k : Nat} {x y : Part} (hx : c.parts[k]? = some x) (hy : c.parts[k + 1]? = some y) : Op.bytesLess x.name y.name = true := by
 have hp : Jaq (partAt c) c.parts.length = 0 := by unfold Jac at h; grind
 have hk : k + 1 < c.parts.length := (gsI.1 hy).1
 have h2 := Jfu hp hk
 unfold partAt at h2
 rw [hy] at h2
 simp only [Nat.add_sub_cancel, hx, Option.map_some, Option.getD_some] at h2
 split at h2
 . rename_i h3; exact (h3 h2).elim
 . split at h2
   . cases h2
   . rename_i h3
     have : ¬ ¬ Op.bytesLess x.name y.name = true := fun h4 => h3 ⟨by omega, h4⟩
     exact Decidable.not_not.1 this
theorem J0g {c : Circuit} (h : Jac c = 0) : ∀ {d k : Nat} {x y : Part}, c.parts[k]? = some x -> c.parts[k + d + 1]? = some y -> Op.bytesLess x.name y.name = true
 | 0, k, x, y, hx, hy => J0i h hx hy
 | d + 1, k, x, y, hx, hy => by
   have hlt : k + d + 1 < c.parts.length := by
     have := (gsI.1 hy).1
     omega
   obtain ⟨z, hz⟩ := Jae hlt
   exact Jil (J0g h hx hz) (J0i h hz hy)
theorem Jn4 {c : Circuit} (h : Jac c = 0) {i j : Nat} {x y : Part} (hij : i < j) (hx : c.parts[i]? = some x) (hy : c.parts[j]? = some y) : Op.bytesLess x.name y.name = true := by
 obtain ⟨d, rfl⟩ := Nat.exists_eq_add_of_lt hij
 exact J0g h hx hy
end Go.Am
namespace Go.Am
open Go Go.Proofs Go.Pn
theorem Ke2 {c : Circuit} (h : Jac c = 0) {i j : Nat} {x y : Part} (hx : c.parts[i]? = some x) (hy : c.parts[j]? = some y) (hn : x.name = y.name) : i = j := by
 rcases Nat.lt_trichotomy i j with hl | hl | hl
 . have := Jn4 h hl hx hy
   rw [hn, Jdu] at this; cases this
 . exact hl
 . have := Jn4 h hl hy hx
   rw [hn, Jdu] at this; cases this
end Go.Am
