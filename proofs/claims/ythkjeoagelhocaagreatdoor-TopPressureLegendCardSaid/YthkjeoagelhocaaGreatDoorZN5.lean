/- Lemmas and contracts for the proof of a statement of this seat. -/
import Derived.Test.YthkjeoagelhocaaGreatDoorZN4
import Derived.Test.YthkjeoagelhocaaGreatDoorZA7
import Derived.Shelf.SortM.Plain
import Derived.Shelf.SortM.SortNone
import Derived.Shelf.SlLaysF0
import Derived.Ground.SlgmProg
import Derived.Shelf.Strconv.Itoa3
import Derived.Shelf.Strconv.AtoiAll
import Derived.Shelf.Strings.FieldsFuncAny
import Derived.Shelf.Small.Strs
import Derived.WalkMore
import Derived.WalkSpells
import Derived.Deep.RegionHeld3
import Derived.Sort.Grow
import Derived.Test.YthkjeoagelhocaaGreatDoorZCA
import Derived.Shelf.SlSortCmp.NoneTotal
set_option linter.unusedVariables false
set_option linter.unusedSimpArgs false
namespace Go.Am
open Go Go.Proofs Go.Shelf
def Kgy : Ren := ⟨fun k => match k with | 6 => 14 | 8 => 47 | 9 => 46 | 19 => 97 | 20 => 98 | 21 => 88 | 22 => 89 | 23 => 90 | 24 => 91 | 25 => 92 | 26 => 93 | 27 => 94 | 28 => 95 | 29 => 96 | 36 => 154 | 31 => 155 | 32 => 156 | 37 => 157 | 38 => 158 | 39 => 124 | 41 => 202 | k => k, fun k => match k with | 27 => 28 | 29 => 9 | 3 => 3 | 32 => 95 | 26 => 28 | 0 => 0 | 44 => 163 | 46 => 165 | 4 => 4 | 36 => 155 | 35 => 154 | 41 => 160 | 5 => 5 | 9 => 9 | 53 => 222 | 57 => 226 | 63 => 269 | 64 => 173 | k => k, fun k => k⟩
set_option maxRecDepth 100000 in
theorem srt5 : SlLaysM.n6 Tryz.prog Kgy where
 mixed := by kernel_rfl
 f6 := ⟨_, by kernel_rfl, Tryz.func14⟩
 f8 := (Tryz.func47).trans (by kernel_rfl)
 f9 := ⟨_, by kernel_rfl, Tryz.func46⟩
 f19 := (Tryz.func97).trans (by kernel_rfl)
 f20 := (Tryz.func98).trans (by kernel_rfl)
 f21 := ⟨_, by kernel_rfl, Tryz.func88⟩
 f22 := ⟨_, by kernel_rfl, Tryz.func89⟩
 f23 := ⟨_, by kernel_rfl, Tryz.func90⟩
 f24 := ⟨_, by kernel_rfl, Tryz.func91⟩
 f25 := ⟨_, by kernel_rfl, Tryz.func92⟩
 f26 := ⟨_, by kernel_rfl, Tryz.func93⟩
 f27 := ⟨_, by kernel_rfl, Tryz.func94⟩
 f28 := ⟨_, by kernel_rfl, Tryz.func95⟩
 f29 := ⟨_, by kernel_rfl, Tryz.func96⟩
 f31 := (Tryz.func155).trans (by kernel_rfl)
 f32 := (Tryz.func156).trans (by kernel_rfl)
 f36 := ⟨_, by kernel_rfl, Tryz.func154⟩
 f37 := ⟨_, by kernel_rfl, Tryz.func157⟩
 f38 := ⟨_, by kernel_rfl, Tryz.func158⟩
 f39 := ⟨_, by kernel_rfl, Tryz.func124⟩
 f41 := ⟨_, by kernel_rfl, Tryz.func202⟩
 t0 := by kernel_rfl
 a0 := fun w => by kernel_rfl
 z0 := fun w => by kernel_rfl
 v0 := fun w => by kernel_rfl
 t3 := by kernel_rfl
 a3 := fun w => by kernel_rfl
 z3 := fun w => by kernel_rfl
 v3 := fun w => by kernel_rfl
 t4 := by kernel_rfl
 a4 := fun w => by kernel_rfl
 z4 := fun w => by kernel_rfl
 v4 := fun w => by kernel_rfl
 t5 := by kernel_rfl
 a5 := fun w => by kernel_rfl
 z5 := fun w => by kernel_rfl
 v5 := fun w => by kernel_rfl
 t9 := by kernel_rfl
 a9 := fun w => by kernel_rfl
 z9 := fun w => by kernel_rfl
 v9 := fun w => by kernel_rfl
 t26 := by kernel_rfl
 a26 := fun w => by kernel_rfl
 z26 := fun w => by kernel_rfl
 v26 := fun w => by kernel_rfl
 t27 := by kernel_rfl
 a27 := fun w => by kernel_rfl
 z27 := fun w => by kernel_rfl
 v27 := fun w => by kernel_rfl
 t29 := by kernel_rfl
 a29 := fun w => by kernel_rfl
 z29 := fun w => by kernel_rfl
 v29 := fun w => by kernel_rfl
 t32 := by kernel_rfl
 a32 := fun w => by kernel_rfl
 z32 := fun w => by kernel_rfl
 v32 := fun w => by kernel_rfl
 t35 := by kernel_rfl
 a35 := fun w => by kernel_rfl
 z35 := fun w => by kernel_rfl
 v35 := fun w => by kernel_rfl
 t36 := by kernel_rfl
 a36 := fun w => by kernel_rfl
 z36 := fun w => by kernel_rfl
 v36 := fun w => by kernel_rfl
 t41 := by kernel_rfl
 a41 := fun w => by kernel_rfl
 z41 := fun w => by kernel_rfl
 v41 := fun w => by kernel_rfl
 t44 := by kernel_rfl
 a44 := fun w => by kernel_rfl
 z44 := fun w => by kernel_rfl
 v44 := fun w => by kernel_rfl
 t46 := by kernel_rfl
 a46 := fun w => by kernel_rfl
 z46 := fun w => by kernel_rfl
 v46 := fun w => by kernel_rfl
 t53 := by kernel_rfl
 a53 := fun w => by kernel_rfl
 z53 := fun w => by kernel_rfl
 v53 := fun w => by kernel_rfl
 t57 := by kernel_rfl
 a57 := fun w => by kernel_rfl
 z57 := fun w => by kernel_rfl
 v57 := fun w => by kernel_rfl
 t63 := by kernel_rfl
 a63 := fun w => by kernel_rfl
 z63 := fun w => by kernel_rfl
 v63 := fun w => by kernel_rfl
 t64 := by kernel_rfl
 a64 := fun w => by kernel_rfl
 z64 := fun w => by kernel_rfl
 v64 := fun w => by kernel_rfl
def Jxx : Ren := ⟨fun k => match k with | 171 => 65 | 243 => 126 | 246 => 184 | 283 => 217 | 284 => 218 | 285 => 219 | 286 => 220 | 129 => 98 | 317 => 236 | 318 => 237 | 319 => 238 | 320 => 239 | 337 => 242 | 338 => 243 | k => k, fun k => match k with | 3 => 3 | 9 => 9 | 2 => 2 | 4 => 4 | 171 => 284 | 0 => 0 | 53 => 165 | 37 => 204 | 5 => 5 | 173 => 286 | 212 => 303 | 51 => 163 | 20 => 20 | 213 => 304 | 46 => 95 | 232 => 307 | 233 => 308 | k => k, fun k => match k with | 17 => 6 | 18 => 7 | 19 => 8 | k => k⟩
set_option maxRecDepth 100000 in
theorem ito5 : Lays.n171 Tryz.prog Jxx where
 mixed := by kernel_rfl
 f129 := (Tryz.func98).trans (by kernel_rfl)
 f171 := (Tryz.func65).trans (by kernel_rfl)
 f243 := (Tryz.func126).trans (by kernel_rfl)
 f246 := (Tryz.func184).trans (by kernel_rfl)
 f283 := (Tryz.func217).trans (by kernel_rfl)
 f284 := (Tryz.func218).trans (by kernel_rfl)
 f285 := (Tryz.func219).trans (by kernel_rfl)
 f286 := (Tryz.func220).trans (by kernel_rfl)
 f317 := (Tryz.func236).trans (by kernel_rfl)
 f318 := (Tryz.func237).trans (by kernel_rfl)
 f319 := (Tryz.func238).trans (by kernel_rfl)
 f320 := (Tryz.func239).trans (by kernel_rfl)
 f337 := (Tryz.func242).trans (by kernel_rfl)
 f338 := (Tryz.func243).trans (by kernel_rfl)
 t0 := by kernel_rfl
 a0 := fun w => by kernel_rfl
 z0 := fun w => by kernel_rfl
 v0 := fun w => by kernel_rfl
 t2 := by kernel_rfl
 a2 := fun w => by kernel_rfl
 z2 := fun w => by kernel_rfl
 v2 := fun w => by kernel_rfl
 t3 := by kernel_rfl
 a3 := fun w => by kernel_rfl
 z3 := fun w => by kernel_rfl
 v3 := fun w => by kernel_rfl
 t4 := by kernel_rfl
 a4 := fun w => by kernel_rfl
 z4 := fun w => by kernel_rfl
 v4 := fun w => by kernel_rfl
 t5 := by kernel_rfl
 a5 := fun w => by kernel_rfl
 z5 := fun w => by kernel_rfl
 v5 := fun w => by kernel_rfl
 t9 := by kernel_rfl
 a9 := fun w => by kernel_rfl
 z9 := fun w => by kernel_rfl
 v9 := fun w => by kernel_rfl
 t20 := by kernel_rfl
 a20 := fun w => by kernel_rfl
 z20 := fun w => by kernel_rfl
 v20 := fun w => by kernel_rfl
 t37 := by kernel_rfl
 a37 := fun w => by kernel_rfl
 z37 := fun w => by kernel_rfl
 v37 := fun w => by kernel_rfl
 t46 := by kernel_rfl
 a46 := fun w => by kernel_rfl
 z46 := fun w => by kernel_rfl
 v46 := fun w => by kernel_rfl
 t51 := by kernel_rfl
 a51 := fun w => by kernel_rfl
 z51 := fun w => by kernel_rfl
 v51 := fun w => by kernel_rfl
 t53 := by kernel_rfl
 a53 := fun w => by kernel_rfl
 z53 := fun w => by kernel_rfl
 v53 := fun w => by kernel_rfl
 t171 := by kernel_rfl
 a171 := fun w => by kernel_rfl
 z171 := fun w => by kernel_rfl
 v171 := fun w => by kernel_rfl
 t173 := by kernel_rfl
 a173 := fun w => by kernel_rfl
 z173 := fun w => by kernel_rfl
 v173 := fun w => by kernel_rfl
 t212 := by kernel_rfl
 a212 := fun w => by kernel_rfl
 z212 := fun w => by kernel_rfl
 v212 := fun w => by kernel_rfl
 t213 := by kernel_rfl
 a213 := fun w => by kernel_rfl
 z213 := fun w => by kernel_rfl
 t232 := by kernel_rfl
 a232 := fun w => by kernel_rfl
 z232 := fun w => by kernel_rfl
 v232 := fun w => by kernel_rfl
 t233 := by kernel_rfl
 a233 := fun w => by kernel_rfl
 z233 := fun w => by kernel_rfl
 v233 := fun w => by kernel_rfl
 g17 := by kernel_rfl
 g18 := by kernel_rfl
 g19 := by kernel_rfl
def Jt5 : Ren := ⟨fun k => match k with | 172 => 37 | 244 => 82 | 245 => 83 | 247 => 146 | 279 => 147 | 280 => 148 | 281 => 149 | 282 => 150 | 287 => 199 | 316 => 200 | 171 => 65 | 205 => 201 | 321 => 231 | 322 => 232 | 243 => 126 | 246 => 184 | 283 => 217 | 284 => 218 | 285 => 219 | 286 => 220 | 129 => 98 | 317 => 236 | 318 => 237 | 319 => 238 | 320 => 239 | 337 => 242 | 338 => 243 | k => k, fun k => match k with | 9 => 9 | 3 => 3 | 75 => 82 | 76 => 83 | 4 => 4 | 5 => 5 | 167 => 215 | 37 => 204 | 0 => 0 | 85 => 216 | 2 => 2 | 168 => 218 | 53 => 165 | 175 => 259 | 46 => 95 | 210 => 263 | 127 => 257 | 145 => 299 | 143 => 297 | 21 => 21 | 171 => 284 | 173 => 286 | 212 => 303 | 51 => 163 | 20 => 20 | 213 => 304 | 232 => 307 | 233 => 308 | 80 => 209 | k => k, fun k => match k with | 15 => 1 | 16 => 2 | 17 => 6 | 18 => 7 | 19 => 8 | k => k⟩
set_option maxRecDepth 100000 in
theorem ato5 : LaysC.n172 Tryz.prog Jt5 where
 mixed := by kernel_rfl
 f129 := (Tryz.func98).trans (by kernel_rfl)
 f171 := (Tryz.func65).trans (by kernel_rfl)
 f172 := (Tryz.func37).trans (by kernel_rfl)
 f205 := (Tryz.func201).trans (by kernel_rfl)
 f243 := (Tryz.func126).trans (by kernel_rfl)
 f244 := (Tryz.func82).trans (by kernel_rfl)
 f245 := (Tryz.func83).trans (by kernel_rfl)
 f246 := (Tryz.func184).trans (by kernel_rfl)
 f247 := (Tryz.func146).trans (by kernel_rfl)
 f279 := (Tryz.func147).trans (by kernel_rfl)
 f280 := (Tryz.func148).trans (by kernel_rfl)
 f281 := (Tryz.func149).trans (by kernel_rfl)
 f282 := (Tryz.func150).trans (by kernel_rfl)
 f283 := (Tryz.func217).trans (by kernel_rfl)
 f284 := (Tryz.func218).trans (by kernel_rfl)
 f285 := (Tryz.func219).trans (by kernel_rfl)
 f286 := (Tryz.func220).trans (by kernel_rfl)
 f287 := (Tryz.func199).trans (by kernel_rfl)
 f316 := (Tryz.func200).trans (by kernel_rfl)
 f317 := (Tryz.func236).trans (by kernel_rfl)
 f318 := (Tryz.func237).trans (by kernel_rfl)
 f319 := (Tryz.func238).trans (by kernel_rfl)
 f320 := (Tryz.func239).trans (by kernel_rfl)
 f321 := (Tryz.func231).trans (by kernel_rfl)
 f322 := (Tryz.func232).trans (by kernel_rfl)
 f337 := (Tryz.func242).trans (by kernel_rfl)
 f338 := (Tryz.func243).trans (by kernel_rfl)
 t0 := by kernel_rfl
 a0 := fun w => by kernel_rfl
 z0 := fun w => by kernel_rfl
 v0 := fun w => by kernel_rfl
 t2 := by kernel_rfl
 a2 := fun w => by kernel_rfl
 z2 := fun w => by kernel_rfl
 v2 := fun w => by kernel_rfl
 t3 := by kernel_rfl
 a3 := fun w => by kernel_rfl
 z3 := fun w => by kernel_rfl
 v3 := fun w => by kernel_rfl
 t4 := by kernel_rfl
 a4 := fun w => by kernel_rfl
 z4 := fun w => by kernel_rfl
 v4 := fun w => by kernel_rfl
 t5 := by kernel_rfl
 a5 := fun w => by kernel_rfl
 z5 := fun w => by kernel_rfl
 v5 := fun w => by kernel_rfl
 t9 := by kernel_rfl
 a9 := fun w => by kernel_rfl
 z9 := fun w => by kernel_rfl
 v9 := fun w => by kernel_rfl
 t20 := by kernel_rfl
 a20 := fun w => by kernel_rfl
 z20 := fun w => by kernel_rfl
 v20 := fun w => by kernel_rfl
 t21 := by kernel_rfl
 a21 := fun w => by kernel_rfl
 z21 := fun w => by kernel_rfl
 v21 := fun w => by kernel_rfl
 t37 := by kernel_rfl
 a37 := fun w => by kernel_rfl
 z37 := fun w => by kernel_rfl
 v37 := fun w => by kernel_rfl
 t46 := by kernel_rfl
 a46 := fun w => by kernel_rfl
 z46 := fun w => by kernel_rfl
 v46 := fun w => by kernel_rfl
 t51 := by kernel_rfl
 a51 := fun w => by kernel_rfl
 z51 := fun w => by kernel_rfl
 v51 := fun w => by kernel_rfl
 t53 := by kernel_rfl
 a53 := fun w => by kernel_rfl
 z53 := fun w => by kernel_rfl
 v53 := fun w => by kernel_rfl
 t75 := by kernel_rfl
 a75 := fun w => by kernel_rfl
 z75 := fun w => by kernel_rfl
 v75 := fun w => by kernel_rfl
 t76 := by kernel_rfl
 a76 := fun w => by kernel_rfl
 z76 := fun w => by kernel_rfl
 v76 := fun w => by kernel_rfl
 t85 := by kernel_rfl
 a85 := fun w => by kernel_rfl
 z85 := fun w => by kernel_rfl
 v85 := fun w => by kernel_rfl
 t127 := by kernel_rfl
 a127 := fun w => by kernel_rfl
 z127 := fun w => by kernel_rfl
 v127 := fun w => by kernel_rfl
 t143 := by kernel_rfl
 a143 := fun w => by kernel_rfl
 z143 := fun w => by kernel_rfl
 v143 := fun w => by kernel_rfl
 t145 := by kernel_rfl
 a145 := fun w => by kernel_rfl
 z145 := fun w => by kernel_rfl
 v145 := fun w => by kernel_rfl
 t167 := by kernel_rfl
 a167 := fun w => by kernel_rfl
 z167 := fun w => by kernel_rfl
 v167 := fun w => by kernel_rfl
 t168 := by kernel_rfl
 a168 := fun w => by kernel_rfl
 z168 := fun w => by kernel_rfl
 v168 := fun w => by kernel_rfl
 t171 := by kernel_rfl
 a171 := fun w => by kernel_rfl
 z171 := fun w => by kernel_rfl
 v171 := fun w => by kernel_rfl
 t173 := by kernel_rfl
 a173 := fun w => by kernel_rfl
 z173 := fun w => by kernel_rfl
 v173 := fun w => by kernel_rfl
 t175 := by kernel_rfl
 a175 := fun w => by kernel_rfl
 z175 := fun w => by kernel_rfl
 v175 := fun w => by kernel_rfl
 t210 := by kernel_rfl
 a210 := fun w => by kernel_rfl
 z210 := fun w => by kernel_rfl
 v210 := fun w => by kernel_rfl
 t212 := by kernel_rfl
 a212 := fun w => by kernel_rfl
 z212 := fun w => by kernel_rfl
 v212 := fun w => by kernel_rfl
 t213 := by kernel_rfl
 a213 := fun w => by kernel_rfl
 z213 := fun w => by kernel_rfl
 t232 := by kernel_rfl
 a232 := fun w => by kernel_rfl
 z232 := fun w => by kernel_rfl
 v232 := fun w => by kernel_rfl
 t233 := by kernel_rfl
 a233 := fun w => by kernel_rfl
 z233 := fun w => by kernel_rfl
 v233 := fun w => by kernel_rfl
 g15 := by kernel_rfl
 g16 := by kernel_rfl
 g17 := by kernel_rfl
 g18 := by kernel_rfl
 g19 := by kernel_rfl
 t80 := by kernel_rfl
 a80 := fun w => by kernel_rfl
 z80 := fun w => by kernel_rfl
 v80 := fun w => by kernel_rfl
 i0 := by kernel_rfl
 i2 := by kernel_rfl
 i3 := by kernel_rfl
 i4 := by kernel_rfl
 i5 := by kernel_rfl
 i9 := by kernel_rfl
 i20 := by kernel_rfl
 i21 := by kernel_rfl
 i37 := by kernel_rfl
 i46 := by kernel_rfl
 i51 := by kernel_rfl
 i53 := by kernel_rfl
 i75 := by kernel_rfl
 i76 := by kernel_rfl
 i80 := by kernel_rfl
 i85 := by kernel_rfl
 i127 := by kernel_rfl
 i143 := by kernel_rfl
 i145 := by kernel_rfl
 i167 := by kernel_rfl
 i168 := by kernel_rfl
 i171 := by kernel_rfl
 i173 := by kernel_rfl
 i175 := by kernel_rfl
 i210 := by kernel_rfl
 i212 := by kernel_rfl
 i232 := by kernel_rfl
 i233 := by kernel_rfl
 m15 := by kernel_rfl
 m16 := by kernel_rfl
 m17 := by kernel_rfl
 m18 := by kernel_rfl
 m19 := by kernel_rfl
 c0 := by kernel_rfl
 c2 := by kernel_rfl
 c3 := by kernel_rfl
 c4 := by kernel_rfl
 c5 := by kernel_rfl
 c9 := by kernel_rfl
 c20 := by kernel_rfl
 c21 := by kernel_rfl
 c37 := by kernel_rfl
 c46 := by kernel_rfl
 c51 := by kernel_rfl
 c53 := by kernel_rfl
 c75 := by kernel_rfl
 c76 := by kernel_rfl
 c80 := by kernel_rfl
 c85 := by kernel_rfl
 c127 := by kernel_rfl
 c143 := by kernel_rfl
 c145 := by kernel_rfl
 c167 := by kernel_rfl
 c168 := by kernel_rfl
 c171 := by kernel_rfl
 c173 := by kernel_rfl
 c175 := by kernel_rfl
 c210 := by kernel_rfl
 c212 := by kernel_rfl
 c213 := by kernel_rfl
 c232 := by kernel_rfl
 c233 := by kernel_rfl
def J77 : Ren := ⟨fun k => match k with | 229 => 34 | k => k, fun k => match k with | 9 => 9 | 40 => 79 | 31 => 28 | 152 => 142 | 3 => 3 | 0 => 0 | 4 => 4 | 21 => 21 | 154 => 144 | k => k, fun k => k⟩
set_option maxRecDepth 100000 in
theorem ff5 : Lays.n229 Tryz.prog J77 where
 mixed := by kernel_rfl
 f229 := (Tryz.func34).trans (by kernel_rfl)
 t0 := by kernel_rfl
 a0 := fun w => by kernel_rfl
 z0 := fun w => by kernel_rfl
 v0 := fun w => by kernel_rfl
 t3 := by kernel_rfl
 a3 := fun w => by kernel_rfl
 z3 := fun w => by kernel_rfl
 v3 := fun w => by kernel_rfl
 t4 := by kernel_rfl
 a4 := fun w => by kernel_rfl
 z4 := fun w => by kernel_rfl
 v4 := fun w => by kernel_rfl
 t9 := by kernel_rfl
 a9 := fun w => by kernel_rfl
 z9 := fun w => by kernel_rfl
 v9 := fun w => by kernel_rfl
 t21 := by kernel_rfl
 a21 := fun w => by kernel_rfl
 z21 := fun w => by kernel_rfl
 v21 := fun w => by kernel_rfl
 t31 := by kernel_rfl
 a31 := fun w => by kernel_rfl
 z31 := fun w => by kernel_rfl
 v31 := fun w => by kernel_rfl
 t40 := by kernel_rfl
 a40 := fun w => by kernel_rfl
 z40 := fun w => by kernel_rfl
 v40 := fun w => by kernel_rfl
 t152 := by kernel_rfl
 a152 := fun w => by kernel_rfl
 z152 := fun w => by kernel_rfl
 v152 := fun w => by kernel_rfl
 t154 := by kernel_rfl
 a154 := fun w => by kernel_rfl
 z154 := fun w => by kernel_rfl
 v154 := fun w => by kernel_rfl
end Go.Am
namespace Go.Am
open Go Go.Proofs Go.Shelf Go.RowKit Go.Lib Go.Sort Go.Pn
instance : Inhabited End := ⟨⟨[], []⟩⟩
end Go.Am
namespace Go.Am
open Go Go.Proofs Go.Pn
theorem Kfq {α : Type} [Inhabited α] {enc : α -> Value} {w : World} {g off : Nat} {d : Array α} {arr : Array Value} {T : TypeId} (h0 : w.heap[g]? = some (Obj.cells arr T (0, 0))) :
   Sort.putRow enc w g off d = Jbh w g (Sort.putCells enc off d arr) T := by
 unfold Sort.putRow Sort.mapBlock Jbh
 congr 1
 apply Array.ext_getElem?
 intro k
 have hg := (Array.getElem?_eq_some_iff.1 h0).1
 rw [Array.getElem?_modify, Array.getElem?_setIfInBounds]
 by_cases e : g = k
 . subst e
   rw [if_pos rfl, if_pos rfl, if_pos hg, h0]
   rfl
 . rw [if_neg e, if_neg e]
theorem Kfj {α : Type} [Inhabited α] {enc : α -> Value} {G : Jaf} {F : Nat -> Prop} {φ : Places} {s1 : Store} {w : World} {b nx g off n k : Nat} {R0 R : List (List AV)} {d : Array α} {arr : Array Value} {T : TypeId} {os : Array Obj} (hs : SR G F φ s1 w) (hb : get s1 b = some (.cells k R0))
   (hφ : φ b = some (g, off)) (h0 : w.heap[g]? = some (Obj.cells arr T (0, 0))) (hsz : off + d.size <= arr.size)
   (hv : ∀ (i j : Nat) row x, R[i]? = some row -> row[j]? = some x -> j < k /\ i * k + j < d.size /\ ∀ (own : Nat -> Prop) (w : World), VR φ own w x (enc d[i * k + j]!)) :
   Post G F φ s1 w (.tup []) [(b, some (.cells k R))] nx nx (.tuple #[]) (Sort.grow (Sort.putRow enc (Sort.ahead w n) g off d) os) := by
 have h0' : (Sort.ahead w n).heap[g]? = some (Obj.cells arr T (0, 0)) := h0
 rw [Kfq h0']
 have ht := (hs.ahead n).turn (x := .cells k R) (arr := Sort.putCells enc off d arr) hb hφ h0' (by simp [Sort.putCells]) (fun _ => by
   refine ⟨g, off, _, T, hφ, Jia (Array.getElem?_eq_some_iff.1 h0').1, fun i j row x hr hx => ?_⟩
   obtain ⟨h1, h2, h3⟩ := hv i j row x hr hx
   refine ⟨h1, enc d[i * k + j]!, ?_, h3 _ _⟩
   have hlt : off + (i * k + j) < arr.size := by omega
   have e : off + i * k + j = off + (i * k + j) := by omega
   rw [e]
   simp only [Sort.putCells]
   rw [Array.getElem?_mapIdx, Array.getElem?_eq_getElem hlt, Option.map_some, if_pos ⟨by omega, by omega⟩, Nat.add_sub_cancel_left])
 obtain ⟨h1, h2⟩ := ht
 refine ⟨φ, fun _ _ h => h, fun _ _ => rfl, h1.grow os, ?_, fun F' => (J1o n).trans ((h2 F').trans (J1r os))⟩
 exact .tup [] [] rfl (by simp)
theorem Kb1 {l : List Txt} : (l.mergeSort fun x y => decide (x <= y)) = Jch Op.bytesLess l := by
 rw [<- J99 Jsp]
 congr 1
 funext x y
 rw [Go.Proofs.bytesLess_eq]
 by_cases h : x <= y
 . have : ¬ y < x := List.not_lt.2 h
   simp [h, this]
 . have : y < x := List.not_le.1 h
   simp [h, this]
set_option maxRecDepth 100000 in
theorem J86 {G : Jaf} (l : List Txt) (s : Store) (nx b : Nat) (c : Option Nat) (hg : get s b = some (.cells 1 (l.map Txt.row))) (hl : l.length < 4611686018427387904) :
   Gives Tryz.prog G 14 [.ref b 1 0 l.length c] s nx (.tup []) [b] [(b, some (.cells 1 ((Jch Op.bytesLess l).map Txt.row)))] nx := by
 refine ⟨Nat.le_refl _, fun F φ s1 w vs hag hs hfr hlen hv => ?_⟩
 match vs, hlen with
 | [u], _ =>
   have hr := hv 0 _ u rfl rfl
   cases hr with
   | ref _ _ _ _ _ β δ cap hφ hc hn room =>
     obtain ⟨arr, T, h0, hsz⟩ := room
     have hg1 : get s1 b = some (.cells 1 (l.map Txt.row)) := (hag b (by simp)).trans hg
     obtain ⟨β', δ', arr', T', k1, k2, k3⟩ := hs.blk b _ hg1
     rw [hφ] at k1
     cases k1
     rw [h0] at k2
     cases k2
     have hβ : β < w.heap.size := (Array.getElem?_eq_some_iff.1 h0).1
     have hH : Sort.Holds Go.Proofs.encStr w β (δ + 0 * 1) l.toArray := fun j hj => by
       have hj2 : j < l.length := by simpa using hj
       obtain ⟨_, v, h1, h2⟩ := k3 j 0 (Txt.row l[j]) (.p (.str l[j])) (by simp [hj2]) rfl
       have e : v = .string ⟨⟨l[j]⟩⟩ := h2.str_inv
       subst e
       simp only [Nat.mul_one, Nat.add_zero] at h1
       refine ⟨?_, ?_⟩
       . simp [World.cell?, h0, h1, hj2, Go.Proofs.encStr]
       . simp [World.frozen?, h0]
     have hcall := AnyM.slices_Sort_string srt5 β (δ + 0 * 1) cap l w hH hβ hl
     have eC : ∀ args w, (callFunc 14 args).run Tryz.prog w = .ok (.enter 14 args) w := enters_of Tryz.func14 (by kernel_rfl) rfl
     have eC2 := eC ⟨[.slice (some ⟨β, δ + 0 * 1, none⟩) l.length cap]⟩ w
     rw [eC2]
     refine Calls.mono hcall ?_
     rintro e w' ⟨rfl, n, os, rfl⟩
     refine ⟨_, rfl, ?_⟩
     simp only [Nat.zero_mul, Nat.add_zero, Nat.zero_add, Nat.mul_one] at hsz ⊢
     rw [Kb1]
     refine Kfj hs hg1 hφ h0 (by simp [Jxp]; omega) fun i j row x hr hx => ?_
     obtain ⟨h1, h2⟩ := gsI.1 hr
     rw [List.length_map] at h1
     have e : row = Txt.row (Jch Op.bytesLess l)[i] := by rw [<- h2]; simp
     subst e
     match j with
     | 0 =>
       simp at hx; subst hx
       refine ⟨by omega, by simpa using h1, fun own w => ?_⟩
       have e2 : Go.Proofs.encStr (Jch Op.bytesLess l).toArray[i * 1 + 0]! = .string ⟨⟨(Jch Op.bytesLess l)[i]⟩⟩ := by simp [Go.Proofs.encStr, h1]
       rw [e2]
       exact .p _ _ (.str _)
     | j + 1 => simp at hx
set_option maxRecDepth 100000 in
theorem J87 {G : Jaf} (s : Store) (nx : Nat) : Gives Tryz.prog G 14 [.nils] s nx (.tup []) [] [] nx := by
 refine ⟨Nat.le_refl _, fun F φ s1 w vs hag hs hfr hlen hv => ?_⟩
 match vs, hlen with
 | [u], _ =>
   have hr := hv 0 _ u rfl rfl
   cases hr with
   | nils a =>
     have eC : ∀ args w, (callFunc 14 args).run Tryz.prog w = .ok (.enter 14 args) w := enters_of Tryz.func14 (by kernel_rfl) rfl
     have eC2 := eC ⟨[.slice a 0 0]⟩ w
     rw [eC2]
     refine Calls.mono (AnyM.slices_Sort_string_none srt5 a 0 w) ?_
     rintro e w' ⟨rfl, rfl⟩
     exact ⟨_, rfl, Jrx hs (.tup [] [] rfl (by simp))⟩
theorem Jw6 {G : Jaf} (l : List Txt) (s : Store) (nx b : Nat) (hg : get s b = accB 1 (l.map Txt.row)) (hl : l.length < 1000000) (hb : b < nx) :
   Gives Tryz.prog G 14 [.acc b 1 l.length] s nx (.tup []) [b] [(b, accB 1 ((Jch Op.bytesLess l).map Txt.row))] nx := by
 by_cases h : l = []
 . subst h
   refine Gives.more (rd := []) (up := []) (Gives.of_acc (rest := []) (fun _ => J87 _ _) (fun h => absurd h (by simp))) (by simp) fun s1 hag b' => ?_
   by_cases e : b' = b
   . subst e
     have := hag b' (by simp)
     simp [Jch] at hg ⊢
     rw [this, hg]
   . simp [Ja9 (Ne.symm e)]
 . have hac : accB 1 (l.map Txt.row) = some (.cells 1 (l.map Txt.row)) := by simp [accB, h]
   have h2 : Jch Op.bytesLess l ≠ [] := fun e => h (by have := @Jxp _ Op.bytesLess l; rw [e] at this; simpa using this.symm)
   have hac2 : accB 1 ((Jch Op.bytesLess l).map Txt.row) = some (.cells 1 ((Jch Op.bytesLess l).map Txt.row)) := by simp [accB, h2]
   rw [hac2]
   exact Gives.of_acc (rest := []) (fun e => absurd (List.length_eq_zero_iff.1 e) h) (fun _ => J86 l _ _ b none (by rw [hg, hac]) (by omega))
end Go.Am
