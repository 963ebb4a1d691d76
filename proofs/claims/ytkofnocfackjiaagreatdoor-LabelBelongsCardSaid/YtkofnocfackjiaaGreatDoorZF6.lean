/- Lemmas and contracts for the proof of a statement of this seat. -/
import Derived.Test.YtkofnocfackjiaaGreatDoorZF5
import Derived.Test.YtkofnocfackjiaaGreatDoorZA8
import Derived.Shelf.Strconv.Itoa3
import Derived.Shelf.Strconv.AtoiAll
import Derived.Shelf.Strings.IndexAnyAll
import Derived.Test.YtkofnocfackjiaaGreatDoorZF1
set_option linter.unusedVariables false
set_option linter.unusedSimpArgs false
/- Contracts of the library: laid: strconv.Itoa, strconv.Atoi, strings.IndexAny; chapter 26. -/
namespace Go.Am
open Go Go.Proofs Go.Shelf Go.RowKit

def itoLays_ren : Ren := ⟨fun k => match k with | 171 => 85 | 243 => 136 | 246 => 196 | 283 => 228 | 284 => 229 | 285 => 230 | 286 => 231 | 129 => 156 | 317 => 251 | 318 => 252 | 319 => 253 | 320 => 254 | 337 => 267 | 338 => 268 | k => k, fun k => match k with | 3 => 3 | 9 => 9 | 2 => 2 | 4 => 4 | 171 => 290 | 0 => 0 | 53 => 226 | 37 => 201 | 5 => 5 | 173 => 292 | 212 => 304 | 51 => 224 | 20 => 20 | 213 => 305 | 46 => 168 | 232 => 317 | 233 => 318 | k => k, fun k => match k with | 17 => 3 | 18 => 5 | 19 => 6 | k => k⟩
set_option maxRecDepth 100000 in
theorem itoLays : Lays.n171 Tryz.prog itoLays_ren where
  mixed := by kernel_rfl
  f129 := Tryz.func156.trans (by kernel_rfl)
  f171 := Tryz.func85.trans (by kernel_rfl)
  f243 := Tryz.func136.trans (by kernel_rfl)
  f246 := Tryz.func196.trans (by kernel_rfl)
  f283 := Tryz.func228.trans (by kernel_rfl)
  f284 := Tryz.func229.trans (by kernel_rfl)
  f285 := Tryz.func230.trans (by kernel_rfl)
  f286 := Tryz.func231.trans (by kernel_rfl)
  f317 := Tryz.func251.trans (by kernel_rfl)
  f318 := Tryz.func252.trans (by kernel_rfl)
  f319 := Tryz.func253.trans (by kernel_rfl)
  f320 := Tryz.func254.trans (by kernel_rfl)
  f337 := Tryz.func267.trans (by kernel_rfl)
  f338 := Tryz.func268.trans (by kernel_rfl)
  t0 := Tryz.underlying0
  a0 := Tryz.isAgg0
  z0 := Tryz.sizeOf0
  v0 := Tryz.zeroValue0
  t2 := Tryz.underlying2
  a2 := Tryz.isAgg2
  z2 := Tryz.sizeOf2
  v2 := Tryz.zeroValue2
  t3 := Tryz.underlying3
  a3 := Tryz.isAgg3
  z3 := Tryz.sizeOf3
  v3 := Tryz.zeroValue3
  t4 := Tryz.underlying4
  a4 := Tryz.isAgg4
  z4 := Tryz.sizeOf4
  v4 := Tryz.zeroValue4
  t5 := Tryz.underlying5
  a5 := Tryz.isAgg5
  z5 := Tryz.sizeOf5
  v5 := Tryz.zeroValue5
  t9 := Tryz.underlying9
  a9 := Tryz.isAgg9
  z9 := Tryz.sizeOf9
  v9 := Tryz.zeroValue9
  t20 := Tryz.underlying20
  a20 := Tryz.isAgg20
  z20 := Tryz.sizeOf20
  v20 := Tryz.zeroValue20
  t37 := Tryz.underlying201
  a37 := Tryz.isAgg201
  z37 := Tryz.sizeOf201
  v37 := Tryz.zeroValue201
  t46 := Tryz.underlying168
  a46 := Tryz.isAgg168
  z46 := Tryz.sizeOf168
  v46 := Tryz.zeroValue168
  t51 := Tryz.underlying224
  a51 := Tryz.isAgg224
  z51 := Tryz.sizeOf224
  v51 := Tryz.zeroValue224
  t53 := Tryz.underlying226
  a53 := Tryz.isAgg226
  z53 := Tryz.sizeOf226
  v53 := Tryz.zeroValue226
  t171 := Tryz.underlying290
  a171 := Tryz.isAgg290
  z171 := Tryz.sizeOf290
  v171 := Tryz.zeroValue290
  t173 := Tryz.underlying292
  a173 := Tryz.isAgg292
  z173 := Tryz.sizeOf292
  v173 := Tryz.zeroValue292
  t212 := Tryz.underlying304
  a212 := Tryz.isAgg304
  z212 := Tryz.sizeOf304
  v212 := Tryz.zeroValue304
  t213 := Tryz.underlying305
  a213 := Tryz.isAgg305
  z213 := Tryz.sizeOf305
  t232 := Tryz.underlying317
  a232 := Tryz.isAgg317
  z232 := Tryz.sizeOf317
  v232 := Tryz.zeroValue317
  t233 := Tryz.underlying318
  a233 := Tryz.isAgg318
  z233 := Tryz.sizeOf318
  v233 := Tryz.zeroValue318
  g17 := by kernel_rfl
  g18 := by kernel_rfl
  g19 := by kernel_rfl

def atoLays_ren : Ren := ⟨fun k => match k with | 172 => 44 | 244 => 82 | 245 => 83 | 247 => 130 | 279 => 131 | 280 => 132 | 281 => 133 | 282 => 134 | 287 => 193 | 316 => 194 | 171 => 85 | 205 => 195 | 321 => 226 | 322 => 227 | 243 => 136 | 246 => 196 | 283 => 228 | 284 => 229 | 285 => 230 | 286 => 231 | 129 => 156 | 317 => 251 | 318 => 252 | 319 => 253 | 320 => 254 | 337 => 267 | 338 => 268 | k => k, fun k => match k with | 9 => 9 | 3 => 3 | 75 => 88 | 76 => 89 | 4 => 4 | 5 => 5 | 167 => 200 | 37 => 201 | 0 => 0 | 85 => 202 | 2 => 2 | 168 => 204 | 53 => 226 | 175 => 256 | 46 => 168 | 210 => 260 | 127 => 286 | 145 => 289 | 143 => 287 | 21 => 21 | 171 => 290 | 173 => 292 | 212 => 304 | 51 => 224 | 20 => 20 | 213 => 305 | 232 => 317 | 233 => 318 | 80 => 320 | k => k, fun k => match k with | 15 => 1 | 16 => 2 | 17 => 3 | 18 => 5 | 19 => 6 | k => k⟩
set_option maxRecDepth 100000 in
theorem atoLays : LaysC.n172 Tryz.prog atoLays_ren where
  mixed := by kernel_rfl
  f129 := Tryz.func156.trans (by kernel_rfl)
  f171 := Tryz.func85.trans (by kernel_rfl)
  f172 := Tryz.func44.trans (by kernel_rfl)
  f205 := Tryz.func195.trans (by kernel_rfl)
  f243 := Tryz.func136.trans (by kernel_rfl)
  f244 := Tryz.func82.trans (by kernel_rfl)
  f245 := Tryz.func83.trans (by kernel_rfl)
  f246 := Tryz.func196.trans (by kernel_rfl)
  f247 := Tryz.func130.trans (by kernel_rfl)
  f279 := Tryz.func131.trans (by kernel_rfl)
  f280 := Tryz.func132.trans (by kernel_rfl)
  f281 := Tryz.func133.trans (by kernel_rfl)
  f282 := Tryz.func134.trans (by kernel_rfl)
  f283 := Tryz.func228.trans (by kernel_rfl)
  f284 := Tryz.func229.trans (by kernel_rfl)
  f285 := Tryz.func230.trans (by kernel_rfl)
  f286 := Tryz.func231.trans (by kernel_rfl)
  f287 := Tryz.func193.trans (by kernel_rfl)
  f316 := Tryz.func194.trans (by kernel_rfl)
  f317 := Tryz.func251.trans (by kernel_rfl)
  f318 := Tryz.func252.trans (by kernel_rfl)
  f319 := Tryz.func253.trans (by kernel_rfl)
  f320 := Tryz.func254.trans (by kernel_rfl)
  f321 := Tryz.func226.trans (by kernel_rfl)
  f322 := Tryz.func227.trans (by kernel_rfl)
  f337 := Tryz.func267.trans (by kernel_rfl)
  f338 := Tryz.func268.trans (by kernel_rfl)
  t0 := Tryz.underlying0
  a0 := Tryz.isAgg0
  z0 := Tryz.sizeOf0
  v0 := Tryz.zeroValue0
  t2 := Tryz.underlying2
  a2 := Tryz.isAgg2
  z2 := Tryz.sizeOf2
  v2 := Tryz.zeroValue2
  t3 := Tryz.underlying3
  a3 := Tryz.isAgg3
  z3 := Tryz.sizeOf3
  v3 := Tryz.zeroValue3
  t4 := Tryz.underlying4
  a4 := Tryz.isAgg4
  z4 := Tryz.sizeOf4
  v4 := Tryz.zeroValue4
  t5 := Tryz.underlying5
  a5 := Tryz.isAgg5
  z5 := Tryz.sizeOf5
  v5 := Tryz.zeroValue5
  t9 := Tryz.underlying9
  a9 := Tryz.isAgg9
  z9 := Tryz.sizeOf9
  v9 := Tryz.zeroValue9
  t20 := Tryz.underlying20
  a20 := Tryz.isAgg20
  z20 := Tryz.sizeOf20
  v20 := Tryz.zeroValue20
  t21 := Tryz.underlying21
  a21 := Tryz.isAgg21
  z21 := Tryz.sizeOf21
  v21 := Tryz.zeroValue21
  t37 := Tryz.underlying201
  a37 := Tryz.isAgg201
  z37 := Tryz.sizeOf201
  v37 := Tryz.zeroValue201
  t46 := Tryz.underlying168
  a46 := Tryz.isAgg168
  z46 := Tryz.sizeOf168
  v46 := Tryz.zeroValue168
  t51 := Tryz.underlying224
  a51 := Tryz.isAgg224
  z51 := Tryz.sizeOf224
  v51 := Tryz.zeroValue224
  t53 := Tryz.underlying226
  a53 := Tryz.isAgg226
  z53 := Tryz.sizeOf226
  v53 := Tryz.zeroValue226
  t75 := Tryz.underlying88
  a75 := Tryz.isAgg88
  z75 := Tryz.sizeOf88
  v75 := Tryz.zeroValue88
  t76 := Tryz.underlying89
  a76 := Tryz.isAgg89
  z76 := Tryz.sizeOf89
  v76 := Tryz.zeroValue89
  t85 := Tryz.underlying202
  a85 := Tryz.isAgg202
  z85 := Tryz.sizeOf202
  v85 := Tryz.zeroValue202
  t127 := Tryz.underlying286
  a127 := Tryz.isAgg286
  z127 := Tryz.sizeOf286
  v127 := Tryz.zeroValue286
  t143 := Tryz.underlying287
  a143 := Tryz.isAgg287
  z143 := Tryz.sizeOf287
  v143 := Tryz.zeroValue287
  t145 := Tryz.underlying289
  a145 := Tryz.isAgg289
  z145 := Tryz.sizeOf289
  v145 := Tryz.zeroValue289
  t167 := Tryz.underlying200
  a167 := Tryz.isAgg200
  z167 := Tryz.sizeOf200
  v167 := Tryz.zeroValue200
  t168 := Tryz.underlying204
  a168 := Tryz.isAgg204
  z168 := Tryz.sizeOf204
  v168 := Tryz.zeroValue204
  t171 := Tryz.underlying290
  a171 := Tryz.isAgg290
  z171 := Tryz.sizeOf290
  v171 := Tryz.zeroValue290
  t173 := Tryz.underlying292
  a173 := Tryz.isAgg292
  z173 := Tryz.sizeOf292
  v173 := Tryz.zeroValue292
  t175 := Tryz.underlying256
  a175 := Tryz.isAgg256
  z175 := Tryz.sizeOf256
  v175 := Tryz.zeroValue256
  t210 := Tryz.underlying260
  a210 := Tryz.isAgg260
  z210 := Tryz.sizeOf260
  v210 := Tryz.zeroValue260
  t212 := Tryz.underlying304
  a212 := Tryz.isAgg304
  z212 := Tryz.sizeOf304
  v212 := Tryz.zeroValue304
  t213 := Tryz.underlying305
  a213 := Tryz.isAgg305
  z213 := Tryz.sizeOf305
  t232 := Tryz.underlying317
  a232 := Tryz.isAgg317
  z232 := Tryz.sizeOf317
  v232 := Tryz.zeroValue317
  t233 := Tryz.underlying318
  a233 := Tryz.isAgg318
  z233 := Tryz.sizeOf318
  v233 := Tryz.zeroValue318
  t80 := Tryz.underlying320
  a80 := Tryz.isAgg320
  z80 := Tryz.sizeOf320
  v80 := Tryz.zeroValue320
  g15 := by kernel_rfl
  g16 := by kernel_rfl
  g17 := by kernel_rfl
  g18 := by kernel_rfl
  g19 := by kernel_rfl
  i0 := by kernel_rfl
  i2 := by kernel_rfl
  i3 := by kernel_rfl
  i4 := by kernel_rfl
  i5 := by kernel_rfl
  i9 := by kernel_rfl
  i20 := by kernel_rfl
  i21 := by kernel_rfl
  i37 := by kernel_rfl
  i46 := by kernel_rfl
  i51 := by kernel_rfl
  i53 := by kernel_rfl
  i75 := by kernel_rfl
  i76 := by kernel_rfl
  i80 := by kernel_rfl
  i85 := by kernel_rfl
  i127 := by kernel_rfl
  i143 := by kernel_rfl
  i145 := by kernel_rfl
  i167 := by kernel_rfl
  i168 := by kernel_rfl
  i171 := by kernel_rfl
  i173 := by kernel_rfl
  i175 := by kernel_rfl
  i210 := by kernel_rfl
  i212 := by kernel_rfl
  i232 := by kernel_rfl
  i233 := by kernel_rfl
  m15 := by kernel_rfl
  m16 := by kernel_rfl
  m17 := by kernel_rfl
  m18 := by kernel_rfl
  m19 := by kernel_rfl
  c0 := by kernel_rfl
  c2 := by kernel_rfl
  c3 := by kernel_rfl
  c4 := by kernel_rfl
  c5 := by kernel_rfl
  c9 := by kernel_rfl
  c20 := by kernel_rfl
  c21 := by kernel_rfl
  c37 := by kernel_rfl
  c46 := by kernel_rfl
  c51 := by kernel_rfl
  c53 := by kernel_rfl
  c75 := by kernel_rfl
  c76 := by kernel_rfl
  c80 := by kernel_rfl
  c85 := by kernel_rfl
  c127 := by kernel_rfl
  c143 := by kernel_rfl
  c145 := by kernel_rfl
  c167 := by kernel_rfl
  c168 := by kernel_rfl
  c171 := by kernel_rfl
  c173 := by kernel_rfl
  c175 := by kernel_rfl
  c210 := by kernel_rfl
  c212 := by kernel_rfl
  c213 := by kernel_rfl
  c232 := by kernel_rfl
  c233 := by kernel_rfl

def ixaLays_ren : Ren := ⟨fun k => match k with | 153 => 43 | 152 => 78 | 226 => 79 | 227 => 80 | 228 => 81 | 137 => 126 | 119 => 127 | 224 => 128 | 225 => 129 | 217 => 192 | 266 => 225 | k => k, fun k => match k with | 9 => 9 | 3 => 3 | 4 => 4 | 5 => 5 | 21 => 21 | 117 => 149 | 116 => 148 | 0 => 0 | 46 => 168 | 124 => 199 | k => k, fun k => k⟩
set_option maxRecDepth 100000 in
theorem ixaLays : Lays.n153 Tryz.prog ixaLays_ren where
  mixed := by kernel_rfl
  f119 := Tryz.func127.trans (by kernel_rfl)
  f137 := Tryz.func126.trans (by kernel_rfl)
  f152 := Tryz.func78.trans (by kernel_rfl)
  f153 := Tryz.func43.trans (by kernel_rfl)
  f217 := Tryz.func192.trans (by kernel_rfl)
  f224 := Tryz.func128.trans (by kernel_rfl)
  f225 := Tryz.func129.trans (by kernel_rfl)
  f226 := Tryz.func79.trans (by kernel_rfl)
  f227 := Tryz.func80.trans (by kernel_rfl)
  f228 := Tryz.func81.trans (by kernel_rfl)
  f266 := Tryz.func225.trans (by kernel_rfl)
  t0 := Tryz.underlying0
  a0 := Tryz.isAgg0
  z0 := Tryz.sizeOf0
  v0 := Tryz.zeroValue0
  t3 := Tryz.underlying3
  a3 := Tryz.isAgg3
  z3 := Tryz.sizeOf3
  v3 := Tryz.zeroValue3
  t4 := Tryz.underlying4
  a4 := Tryz.isAgg4
  z4 := Tryz.sizeOf4
  v4 := Tryz.zeroValue4
  t5 := Tryz.underlying5
  a5 := Tryz.isAgg5
  z5 := Tryz.sizeOf5
  v5 := Tryz.zeroValue5
  t9 := Tryz.underlying9
  a9 := Tryz.isAgg9
  z9 := Tryz.sizeOf9
  v9 := Tryz.zeroValue9
  t21 := Tryz.underlying21
  a21 := Tryz.isAgg21
  z21 := Tryz.sizeOf21
  v21 := Tryz.zeroValue21
  t46 := Tryz.underlying168
  a46 := Tryz.isAgg168
  z46 := Tryz.sizeOf168
  v46 := Tryz.zeroValue168
  t116 := Tryz.underlying148
  a116 := Tryz.isAgg148
  z116 := Tryz.sizeOf148
  t117 := Tryz.underlying149
  a117 := Tryz.isAgg149
  z117 := Tryz.sizeOf149
  v117 := Tryz.zeroValue149
  t124 := Tryz.underlying199
  a124 := Tryz.isAgg199
  z124 := Tryz.sizeOf199
  v124 := Tryz.zeroValue199

end Go.Am
/- Contracts: strconv.Itoa of small numbers, label.text, Format, Find; chapter 26. -/
namespace Go.Am
open Go Go.Proofs Go.Pn Go.RowKit

theorem vr_int' {own : Nat → Prop} {w : World} {n : Int} {v : Value} (h : VR (fun _ => none) own w (.p (.int .i64 n)) v) : v = .int .i64 n := h.int_inv
set_option maxRecDepth 100000 in
theorem c_Itoa (n : Nat) (h : n < 100) : Pure Tryz.prog GL 85 [.p (.int .i64 n)] (.p (.str (digN n))) := by
  refine Pure.of_below Tryz.func85 (by kernel_rfl) rfl rfl fun own w vs hg hs hlen hv => ?_
  match vs, hlen with
  | [a], _ =>
    have ea := vr_int' (hv 0 _ a rfl rfl)
    subst ea
    refine Calls.mono (Any.strconv_Itoa_small itoLays n h w) ?_
    rintro e w' ⟨rfl, rfl⟩
    refine ⟨_, rfl, ?_, Below.refl _ _⟩
    rw [dec_dig h]
    exact .p _ _ (.str _)

theorem c_label_text (x : Lbl) (h : chkL x = 0) : Pure Tryz.prog GL 46 [x.av] (.p (.str (textL x))) := by
  refine Pure.of_walk (N := 13) Tryz.func46 rfl rfl rfl (by simp) (by first | (simp; done) | simp [*]) ?_
  obtain ⟨⟨a1, a2⟩, _, a4, a5⟩ := chkL_zero.1 h
  obtain ⟨g, l, n⟩ := x
  simp only at a1 a2 a4 a5
  obtain ⟨g', rfl⟩ : ∃ g' : Nat, g = g' := ⟨g.toNat, by omega⟩
  obtain ⟨n', rfl⟩ : ∃ n' : Nat, n = n' := ⟨n.toNat, by omega⟩
  obtain ⟨b, hb, _⟩ := ltr_one h
  simp only at hb
  subst hb
  have hd1 : (digN g').length ≤ 2 := by unfold digN; split <;> simp
  have hd2 : (digN n').length ≤ 2 := by unfold digN; split <;> simp
  have D1 := c_Itoa g' (by omega)
  have D2 := c_Itoa n' (by omega)
  have e : textL ⟨g', [b], n'⟩ = digN g' ++ (b :: digN n') := rfl
  rw [e]
  simp
  refine XDraw.intro (by kernel_rfl) ?_
  simp
  refine xcall_pure D1 ?_
  simp
  refine ⟨by omega, ?_⟩
  refine xcall_pure D2 ?_
  simp
  refine ⟨by omega, .of (by kernel_rfl), ?_⟩
  simp [XEndT]

set_option maxRecDepth 20000 in
theorem c_label_Find (c : Circuit) (x : Lbl) (hs : Sized c) (hxl : x.ltr.length < 4611686018427387904) : Pure Tryz.prog GL 22 [c.av, x.av] (.tup [.p (.int .i64 (fndR c x)), .p (.int .i64 (fndE c x))]) := by
  refine Pure.of_walk (N := 36) Tryz.func22 rfl rfl rfl (by simp) (by first | (simp; done) | simp [*]) ?_
  have hL := c_label_Labels c hs
  have hC := c_label_check x hxl
  by_cases h : checkP c = 0
  · by_cases h2 : chkL x = 0
    · have hll := @labelsL_len c
      have hp := (check_parts h).2.1
      have hE : fndE c x = if x ∈ labelsL c then 0 else 6 := by unfold fndE; rw [if_neg (by simpa using h), if_neg (by simpa using h2)]
      rw [if_pos h] at hL
      rw [h] at hL
      rw [h2] at hC
      have hR : x ∈ labelsL c → fndR c x = idxI (labelsL c) fun y => decide (y = x) := fun hx => by unfold fndR; rw [hE, if_pos hx, if_neg (by simp)]
      have hR0 : x ∉ labelsL c → fndR c x = 0 := fun hx => by unfold fndR; rw [hE, if_neg hx, if_pos (by simp)]
      generalize fndE c x = E at hE
      generalize fndR c x = R at hR hR0
      generalize labelsL c = L at hL hll hE hR hR0
      simp
      refine xcall_pure hL ?_
      simp
      refine xcall_pure hC ?_
      simp
      refine XLoop.go [3, 24, 25] [1] 0 [] (fun _ => []) (fun _ (k : Nat) => [(26, .p (.int .i64 k))]) (fun _ _ => []) (fun k => k ≤ L.length ∧ ∀ (j : Nat) y, j < k → L[j]? = some y → decide (y = x) = false) (fun k => L.length - k) 0 ⟨by omega, fun j y h => by omega⟩ ?_ ?_
      · simp
        try decide
      rintro k ⟨hk, hp⟩
      simp
      refine xif_split (fun h3 => ?_) (fun h3 => ?_)
      · simp at h3
        obtain ⟨y, ey⟩ := get_lt h3
        simp [h3, ey, -getElem?_pos, List.getElem?_cons_zero, List.getElem?_cons_succ]
        by_cases hy : y = x
        · have hm : x ∈ L := by rw [← hy]; exact List.mem_of_getElem? ey
          rw [if_pos hm] at hE
          have hi : (idxI L fun y => decide (y = x)) = k := idxI_at (q := fun y => decide (y = x)) ey (by simpa using hy) hp
          simp [hy, XEndT, hE, hR hm, hi]
        · simp [hy]
          refine ⟨wrap_i64 (by omega) (by omega), k + 1, ⟨by omega, ?_⟩, by omega, ?_⟩
          · intro j z hj ez
            by_cases hjk : j = k
            · subst hjk; rw [ey] at ez; cases ez; exact hy
            · simpa using hp j z (by omega) ez
          · simp
            try decide
      · simp at h3
        have hn : x ∉ L := fun hm => by
          obtain ⟨j, ej⟩ := List.mem_iff_getElem?.1 hm
          have := hp j x (by have := (List.getElem?_eq_some_iff.1 ej).1; omega) ej
          simp at this
        rw [if_neg hn] at hE
        simp [XEndT, hE, hR0 hn]
    · have hE : fndE c x = chkL x := by unfold fndE; rw [if_neg (by simpa using h), if_pos h2]
      have hR : fndR c x = 0 := by unfold fndR; rw [hE, if_pos h2]
      rw [h] at hL
      simp
      refine xcall_pure hL ?_
      simp
      refine xcall_pure hC ?_
      simp [h2, XEndT, hE, hR]
  · have hE : fndE c x = checkP c := if_pos h
    have hR : fndR c x = 0 := by unfold fndR; rw [hE, if_pos h]
    simp
    refine xcall_pure hL ?_
    simp [h, XEndT, hE, hR]
end Go.Am
/- Contracts: strconv.Atoi, strings.IndexAny; chapter 26. -/
namespace Go.Am
open Go Go.Proofs Go.Pn Go.RowKit

def GL4 : Globs := GL ++ [(1, 1, [[.ifc]]), (2, 1, [[.ifc]])]
theorem GL_four : ∀ x ∈ GL, x ∈ GL4 := fun x hx => List.mem_append_left _ hx

def atV (s : Txt) : Int := match Lib.atoiAll s with
  | .ok v => v
  | .range => Lib.atoiSat s
  | _ => 0
def atE (s : Txt) : Bool := match Lib.atoiAll s with
  | .ok _ => false
  | _ => true
def errV (b : Bool) : PV := if b then .ifc else .nilif

theorem glob_ifc {own : Nat → Prop} {w : World} {g : Nat} (hg : GlobOk GL4 own w) (hm : (g, 1, [[PV.ifc]]) ∈ GL4) : ∃ t x, w.cell? ⟨g, 0, none⟩ = some (.iface t x) := by
  obtain ⟨v, h1, h2⟩ := (hg g 1 [[PV.ifc]] hm).2.2 0 0 _ PV.ifc rfl rfl
  cases h2 with
  | ifc t x => exact ⟨t, x, by simpa using h1⟩

set_option maxRecDepth 100000 in
theorem c_Atoi (s : Txt) (hl : s.length ≤ 1000) : Pure Tryz.prog GL4 44 [.p (.str s)] (.tup [.p (.int .i64 (atV s)), .p (errV (atE s))]) := by
  refine Pure.of_below Tryz.func44 (by kernel_rfl) rfl rfl fun own w vs hg hs hlen hv => ?_
  match vs, hlen with
  | [a], _ =>
    have ea : a = .string ⟨⟨s⟩⟩ := (hv 0 _ a rfl rfl).str_inv
    subst ea
    have e15 : atoLays_ren.g 15 = 1 := by kernel_rfl
    have e16 : atoLays_ren.g 16 = 2 := by kernel_rfl
    have hsz : (⟨⟨s⟩⟩ : ByteArray).size ≤ 1000 := by simpa [ByteArray.size] using hl
    cases h : Lib.atoiAll s with
    | ok v =>
      refine Calls.mono (Any.strconv_Atoi_ok atoLays ⟨⟨s⟩⟩ (by omega) v h w) ?_
      rintro e w' ⟨rfl, hw⟩
      refine ⟨_, rfl, ?_, ?_⟩
      · unfold atV atE errV
        rw [h]
        exact .tup _ _ rfl fun i x u hx hu => match i with
          | 0 => by simp at hx hu; subst hx; subst hu; exact .p _ _ (.int _ _)
          | 1 => by simp at hx hu; subst hx; subst hu; exact .p _ _ .nilif
          | _ + 2 => by simp at hx
      · rcases hw with rfl | ⟨t, rfl⟩
        · exact Below.refl _ _
        · exact Lib.bytesWorld_below _ _ _
    | range =>
      obtain ⟨t, x, hc⟩ := glob_ifc hg (g := 2) (List.mem_append_right _ (by simp))
      refine Calls.mono (Any.strconv_Atoi_range atoLays ⟨⟨s⟩⟩ (by omega) h (.iface t x) w (by rw [e16]; exact hc) (.inr ⟨_, _, rfl⟩)) ?_
      rintro e w' ⟨N, rfl, _, _, hw⟩
      refine ⟨_, rfl, ?_, hw⟩
      unfold atV atE errV
      rw [h]
      exact .tup _ _ rfl fun i x u hx hu => match i with
        | 0 => by simp at hx hu; subst hx; subst hu; exact .p _ _ (.int _ _)
        | 1 => by simp at hx hu; subst hx; subst hu; exact .p _ _ (.ifc _ _)
        | _ + 2 => by simp at hx

    | _ =>
      obtain ⟨t, x, hc⟩ := glob_ifc hg (g := 1) (List.mem_append_right _ (by simp))
      refine Calls.mono (Any.strconv_Atoi_syntax atoLays ⟨⟨s⟩⟩ (by omega) h (.iface t x) w (by rw [e15]; exact hc) (.inr ⟨_, _, rfl⟩)) ?_
      rintro e w' ⟨N, rfl, _, _, hw⟩
      refine ⟨_, rfl, ?_, hw⟩
      unfold atV atE errV
      rw [h]
      exact .tup _ _ rfl fun i x u hx hu => match i with
        | 0 => by simp at hx hu; subst hx; subst hu; exact .p _ _ (.int _ _)
        | 1 => by simp at hx hu; subst hx; subst hu; exact .p _ _ (.ifc _ _)
        | _ + 2 => by simp at hx
def asvz : Txt := [65, 83, 86, 90]
theorem asvz_small : ∀ b ∈ asvz, b.toNat < 128 := by decide
theorem small_at {s : Txt} (h : ∀ b ∈ s, b.toNat < 128) : ∀ (j : Nat) b, s[j]? = some b → b.toNat < 128 := fun j b e => h b (List.mem_of_getElem? e)
set_option maxRecDepth 100000 in
theorem ixa_zero : (Tryz.prog.info? (ixaLays_ren.t 116)).map (fun i => (i.zero, i.size)) = some (some (.agg (Array.replicate 256 (.bool false))), 256) := by kernel_rfl
set_option maxRecDepth 100000 in
theorem c_IndexAny (s : Txt) (hl : s.length ≤ 1000) (h : (∀ b ∈ s, b.toNat < 128) ∨ 8 < s.length) : Pure Tryz.prog GL4 43 [.p (.str s), .p (.str asvz)] (.p (.int .i64 (Lib.indexAny s asvz))) := by
  refine Pure.of_below Tryz.func43 (by kernel_rfl) rfl rfl fun own w vs hg hs hlen hv => ?_
  match vs, hlen with
  | [a, b], _ =>
    have ea : a = .string ⟨⟨s⟩⟩ := (hv 0 _ a rfl rfl).str_inv
    have eb : b = .string ⟨⟨asvz⟩⟩ := (hv 1 _ b rfl rfl).str_inv
    subst ea; subst eb
    have hsz : (⟨⟨s⟩⟩ : ByteArray).size ≤ 1000 := by simpa [ByteArray.size] using hl
    rcases h with h | h
    · refine Calls.mono (Any.strings_IndexAny_laid ixaLays ixa_zero ⟨⟨s⟩⟩ ⟨⟨asvz⟩⟩ w (by omega) (by decide) (small_at h) (small_at asvz_small)) ?_
      rintro e w' ⟨rfl, hw⟩
      exact ⟨_, rfl, .p _ _ (.int _ _), hw⟩
    · refine Calls.mono (Any.strings_IndexAny_long ixaLays (zero_of_info ixa_zero).1 (zero_of_info ixa_zero).2 ⟨⟨s⟩⟩ ⟨⟨asvz⟩⟩ w (by decide) (by simpa [ByteArray.size] using h) (by omega) (by decide) (small_at asvz_small)) ?_
      rintro e w' ⟨rfl, rfl⟩
      exact ⟨_, rfl, .p _ _ (.int _ _), ((Below.refl _ _).alloc (Nat.le_refl _) _).alloc (by simp) _⟩
end Go.Am
