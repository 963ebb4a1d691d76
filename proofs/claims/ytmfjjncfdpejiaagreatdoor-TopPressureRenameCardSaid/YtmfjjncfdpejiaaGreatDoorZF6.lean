/- Lemmas and contracts for the proof of a statement of this seat. -/
import Derived.Test.YtmfjjncfdpejiaaGreatDoorZF5
import Derived.Test.YtmfjjncfdpejiaaGreatDoorZN5
import Derived.Test.YtmfjjncfdpejiaaGreatDoorZA8
import Derived.Test.YtmfjjncfdpejiaaGreatDoorZF1
set_option linter.unusedVariables false
set_option linter.unusedSimpArgs false
namespace Go.Am
open Go Go.Proofs Go.Shelf Go.RowKit
abbrev J93 : Ren := Jx0
theorem J92 : Lays.n171 Tryz.prog J93 := ito5
end Go.Am
namespace Go.Am
open Go Go.Proofs Go.Pn Go.RowKit
theorem Kh6 {own : Nat -> Prop} {w : World} {n : Int} {v : Value} (h : VR (fun _ => none) own w (.p (.int .i64 n)) v) : v = .int .i64 n := h.int_inv
set_option maxRecDepth 100000 in
theorem Ju9 (n : Nat) (h : n < 100) : Pure Tryz.prog GL 89 [.p (.int .i64 n)] (.p (.str (digN n))) := by
 refine Pure.of_below Tryz.func89 (by kernel_rfl) rfl rfl fun own w vs hg hs hlen hv => ?_
 match vs, hlen with
 | [a], _ =>
   have ea := Kh6 (hv 0 _ a rfl rfl)
   subst ea
   refine Calls.mono (Any.strconv_Itoa_small J92 n h w) ?_
   rintro e w' ⟨rfl, rfl⟩
   refine ⟨_, rfl, ?_, Below.refl _ _⟩
   rw [J60 h]
   exact .p _ _ (.str _)
theorem J46 (x : Lbl) (h : chkL x = 0) : Pure Tryz.prog GL 196 [x.av] (.p (.str (Jiq x))) := by
 refine Pure.of_walk (N := 13) Tryz.func196 rfl rfl rfl (by simp) (by first | (simp; done) | simp [*]) ?_
 obtain ⟨⟨a1, a2⟩, _, a4, a5⟩ := Jqn.1 h
 obtain ⟨g, l, n⟩ := x
 simp only at a1 a2 a4 a5
 obtain ⟨g', rfl⟩ : ∃ g' : Nat, g = g' := ⟨g.toNat, by omega⟩
 obtain ⟨n', rfl⟩ : ∃ n' : Nat, n = n' := ⟨n.toNat, by omega⟩
 obtain ⟨b, hb, _⟩ := Jyp h
 simp only at hb
 subst hb
 have hd1 : (digN g').length <= 2 := by unfold digN; split <;> simp
 have hd2 : (digN n').length <= 2 := by unfold digN; split <;> simp
 have D1 := Ju9 g' (by omega)
 have D2 := Ju9 n' (by omega)
 have e : Jiq ⟨g', [b], n'⟩ = digN g' ++ (b :: digN n') := rfl
 rw [e]
 simp
 refine Jaj.intro (by kernel_rfl) ?_
 simp
 refine Jab D1 ?_
 simp
 refine ⟨by omega, ?_⟩
 refine Jab D2 ?_
 simp
 refine ⟨by omega, .of (by kernel_rfl), ?_⟩
 simp [Jaa]
end Go.Am
namespace Go.Am
open Go Go.Proofs Go.Pn Go.RowKit
end Go.Am
