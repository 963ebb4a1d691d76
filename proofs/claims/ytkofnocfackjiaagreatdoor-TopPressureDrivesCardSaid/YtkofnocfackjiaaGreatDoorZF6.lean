/- Lemmas and contracts for the proof of a statement of this seat. -/
import Derived.Test.YtkofnocfackjiaaGreatDoorZF5
import Derived.Test.YtkofnocfackjiaaGreatDoorZA8
import Derived.Shelf.Strconv.Itoa3
import Derived.Shelf.Strconv.AtoiAll
import Derived.Shelf.Strings.IndexAnyAll
import Derived.Test.YtkofnocfackjiaaGreatDoorZF1
set_option linter.unusedVariables false
set_option linter.unusedSimpArgs false
/- Contracts of the library: laid: strconv.Itoa, strconv.Atoi, strings.IndexAny; chapter 26. -/
namespace Go.Am
open Go Go.Proofs Go.Shelf Go.RowKit

def itoLays_ren : Ren := ⟨fun k => match k with | 171 => 85 | 243 => 136 | 246 => 196 | 283 => 228 | 284 => 229 | 285 => 230 | 286 => 231 | 129 => 156 | 317 => 251 | 318 => 252 | 319 => 253 | 320 => 254 | 337 => 267 | 338 => 268 | k => k, fun k => match k with | 3 => 3 | 9 => 9 | 2 => 2 | 4 => 4 | 171 => 290 | 0 => 0 | 53 => 226 | 37 => 201 | 5 => 5 | 173 => 292 | 212 => 304 | 51 => 224 | 20 => 20 | 213 => 305 | 46 => 168 | 232 => 317 | 233 => 318 | k => k, fun k => match k with | 17 => 3 | 18 => 5 | 19 => 6 | k => k⟩
set_option maxRecDepth 100000 in
theorem itoLays : Lays.n171 Tryz.prog itoLays_ren where
  mixed := by kernel_rfl
  f129 := Tryz.func156.trans (by kernel_rfl)
  f171 := Tryz.func85.trans (by kernel_rfl)
  f243 := Tryz.func136.trans (by kernel_rfl)
  f246 := Tryz.func196.trans (by kernel_rfl)
  f283 := Tryz.func228.trans (by kernel_rfl)
  f284 := Tryz.func229.trans (by kernel_rfl)
  f285 := Tryz.func230.trans (by kernel_rfl)
  f286 := Tryz.func231.trans (by kernel_rfl)
  f317 := Tryz.func251.trans (by kernel_rfl)
  f318 := Tryz.func252.trans (by kernel_rfl)
  f319 := Tryz.func253.trans (by kernel_rfl)
  f320 := Tryz.func254.trans (by kernel_rfl)
  f337 := Tryz.func267.trans (by kernel_rfl)
  f338 := Tryz.func268.trans (by kernel_rfl)
  t0 := Tryz.underlying0
  a0 := Tryz.isAgg0
  z0 := Tryz.sizeOf0
  v0 := Tryz.zeroValue0
  t2 := Tryz.underlying2
  a2 := Tryz.isAgg2
  z2 := Tryz.sizeOf2
  v2 := Tryz.zeroValue2
  t3 := Tryz.underlying3
  a3 := Tryz.isAgg3
  z3 := Tryz.sizeOf3
  v3 := Tryz.zeroValue3
  t4 := Tryz.underlying4
  a4 := Tryz.isAgg4
  z4 := Tryz.sizeOf4
  v4 := Tryz.zeroValue4
  t5 := Tryz.underlying5
  a5 := Tryz.isAgg5
  z5 := Tryz.sizeOf5
  v5 := Tryz.zeroValue5
  t9 := Tryz.underlying9
  a9 := Tryz.isAgg9
  z9 := Tryz.sizeOf9
  v9 := Tryz.zeroValue9
  t20 := Tryz.underlying20
  a20 := Tryz.isAgg20
  z20 := Tryz.sizeOf20
  v20 := Tryz.zeroValue20
  t37 := Tryz.underlying201
  a37 := Tryz.isAgg201
  z37 := Tryz.sizeOf201
  v37 := Tryz.zeroValue201
  t46 := Tryz.underlying168
  a46 := Tryz.isAgg168
  z46 := Tryz.sizeOf168
  v46 := Tryz.zeroValue168
  t51 := Tryz.underlying224
  a51 := Tryz.isAgg224
  z51 := Tryz.sizeOf224
  v51 := Tryz.zeroValue224
  t53 := Tryz.underlying226
  a53 := Tryz.isAgg226
  z53 := Tryz.sizeOf226
  v53 := Tryz.zeroValue226
  t171 := Tryz.underlying290
  a171 := Tryz.isAgg290
  z171 := Tryz.sizeOf290
  v171 := Tryz.zeroValue290
  t173 := Tryz.underlying292
  a173 := Tryz.isAgg292
  z173 := Tryz.sizeOf292
  v173 := Tryz.zeroValue292
  t212 := Tryz.underlying304
  a212 := Tryz.isAgg304
  z212 := Tryz.sizeOf304
  v212 := Tryz.zeroValue304
  t213 := Tryz.underlying305
  a213 := Tryz.isAgg305
  z213 := Tryz.sizeOf305
  t232 := Tryz.underlying317
  a232 := Tryz.isAgg317
  z232 := Tryz.sizeOf317
  v232 := Tryz.zeroValue317
  t233 := Tryz.underlying318
  a233 := Tryz.isAgg318
  z233 := Tryz.sizeOf318
  v233 := Tryz.zeroValue318
  g17 := by kernel_rfl
  g18 := by kernel_rfl
  g19 := by kernel_rfl

end Go.Am
/- Contracts: strconv.Itoa of small numbers, label.text, Format, Find; chapter 26. -/
namespace Go.Am
open Go Go.Proofs Go.Pn Go.RowKit

theorem vr_int' {own : Nat → Prop} {w : World} {n : Int} {v : Value} (h : VR (fun _ => none) own w (.p (.int .i64 n)) v) : v = .int .i64 n := h.int_inv
set_option maxRecDepth 100000 in
theorem c_Itoa (n : Nat) (h : n < 100) : Pure Tryz.prog GL 85 [.p (.int .i64 n)] (.p (.str (digN n))) := by
  refine Pure.of_below Tryz.func85 (by kernel_rfl) rfl rfl fun own w vs hg hs hlen hv => ?_
  match vs, hlen with
  | [a], _ =>
    have ea := vr_int' (hv 0 _ a rfl rfl)
    subst ea
    refine Calls.mono (Any.strconv_Itoa_small itoLays n h w) ?_
    rintro e w' ⟨rfl, rfl⟩
    refine ⟨_, rfl, ?_, Below.refl _ _⟩
    rw [dec_dig h]
    exact .p _ _ (.str _)

theorem c_label_text (x : Lbl) (h : chkL x = 0) : Pure Tryz.prog GL 46 [x.av] (.p (.str (textL x))) := by
  refine Pure.of_walk (N := 13) Tryz.func46 rfl rfl rfl (by simp) (by first | (simp; done) | simp [*]) ?_
  obtain ⟨⟨a1, a2⟩, _, a4, a5⟩ := chkL_zero.1 h
  obtain ⟨g, l, n⟩ := x
  simp only at a1 a2 a4 a5
  obtain ⟨g', rfl⟩ : ∃ g' : Nat, g = g' := ⟨g.toNat, by omega⟩
  obtain ⟨n', rfl⟩ : ∃ n' : Nat, n = n' := ⟨n.toNat, by omega⟩
  obtain ⟨b, hb, _⟩ := ltr_one h
  simp only at hb
  subst hb
  have hd1 : (digN g').length ≤ 2 := by unfold digN; split <;> simp
  have hd2 : (digN n').length ≤ 2 := by unfold digN; split <;> simp
  have D1 := c_Itoa g' (by omega)
  have D2 := c_Itoa n' (by omega)
  have e : textL ⟨g', [b], n'⟩ = digN g' ++ (b :: digN n') := rfl
  rw [e]
  simp
  refine XDraw.intro (by kernel_rfl) ?_
  simp
  refine xcall_pure D1 ?_
  simp
  refine ⟨by omega, ?_⟩
  refine xcall_pure D2 ?_
  simp
  refine ⟨by omega, .of (by kernel_rfl), ?_⟩
  simp [XEndT]

end Go.Am
/- Contracts: strconv.Atoi, strings.IndexAny; chapter 26. -/
namespace Go.Am
open Go Go.Proofs Go.Pn Go.RowKit

end Go.Am
