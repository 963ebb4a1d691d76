/- Lemmas and contracts for the proof of a statement of this seat. -/
import Derived.Test.YtmfjjncfdpejiaaGreatDoorZN4
import Derived.Test.YtmfjjncfdpejiaaGreatDoorZA7
import Derived.Shelf.SortM.Plain
import Derived.Shelf.SortM.SortNone
import Derived.Shelf.SlLaysF0
import Derived.Ground.SlgmProg
import Derived.Shelf.Strconv.Itoa3
import Derived.Shelf.Strconv.AtoiAll
import Derived.Shelf.Strings.FieldsFuncAny
import Derived.Shelf.Small.Strs
import Derived.WalkMore
import Derived.WalkSpells
import Derived.Deep.RegionHeld3
import Derived.Sort.Grow
import Derived.Test.YtmfjjncfdpejiaaGreatDoorZCA
import Derived.Shelf.SlSortCmp.NoneTotal
set_option linter.unusedVariables false
set_option linter.unusedSimpArgs false
namespace Go.Am
open Go Go.Proofs Go.Shelf
def J6k : Ren := ⟨fun k => match k with | 6 => 151 | 8 => 232 | 9 => 231 | 19 => 294 | 20 => 295 | 21 => 285 | 22 => 286 | 23 => 287 | 24 => 288 | 25 => 289 | 26 => 290 | 27 => 291 | 28 => 292 | 29 => 293 | 36 => 345 | 31 => 346 | 32 => 347 | 37 => 348 | 38 => 349 | 39 => 330 | 41 => 370 | k => k, fun k => match k with | 27 => 75 | 29 => 9 | 3 => 3 | 32 => 310 | 26 => 75 | 0 => 0 | 44 => 355 | 46 => 357 | 4 => 4 | 36 => 349 | 35 => 348 | 41 => 253 | 5 => 5 | 9 => 9 | 53 => 394 | 57 => 398 | 63 => 417 | 64 => 237 | k => k, fun k => k⟩
set_option maxRecDepth 100000 in
theorem srt5 : SlLaysM.n6 Tryz.prog J6k where
 mixed := by kernel_rfl
 f6 := ⟨_, by kernel_rfl, Tryz.func151⟩
 f8 := (Tryz.func232).trans (by kernel_rfl)
 f9 := ⟨_, by kernel_rfl, Tryz.func231⟩
 f19 := (Tryz.func294).trans (by kernel_rfl)
 f20 := (Tryz.func295).trans (by kernel_rfl)
 f21 := ⟨_, by kernel_rfl, Tryz.func285⟩
 f22 := ⟨_, by kernel_rfl, Tryz.func286⟩
 f23 := ⟨_, by kernel_rfl, Tryz.func287⟩
 f24 := ⟨_, by kernel_rfl, Tryz.func288⟩
 f25 := ⟨_, by kernel_rfl, Tryz.func289⟩
 f26 := ⟨_, by kernel_rfl, Tryz.func290⟩
 f27 := ⟨_, by kernel_rfl, Tryz.func291⟩
 f28 := ⟨_, by kernel_rfl, Tryz.func292⟩
 f29 := ⟨_, by kernel_rfl, Tryz.func293⟩
 f31 := (Tryz.func346).trans (by kernel_rfl)
 f32 := (Tryz.func347).trans (by kernel_rfl)
 f36 := ⟨_, by kernel_rfl, Tryz.func345⟩
 f37 := ⟨_, by kernel_rfl, Tryz.func348⟩
 f38 := ⟨_, by kernel_rfl, Tryz.func349⟩
 f39 := ⟨_, by kernel_rfl, Tryz.func330⟩
 f41 := ⟨_, by kernel_rfl, Tryz.func370⟩
 t0 := by kernel_rfl
 a0 := fun w => by kernel_rfl
 z0 := fun w => by kernel_rfl
 v0 := fun w => by kernel_rfl
 t3 := by kernel_rfl
 a3 := fun w => by kernel_rfl
 z3 := fun w => by kernel_rfl
 v3 := fun w => by kernel_rfl
 t4 := by kernel_rfl
 a4 := fun w => by kernel_rfl
 z4 := fun w => by kernel_rfl
 v4 := fun w => by kernel_rfl
 t5 := by kernel_rfl
 a5 := fun w => by kernel_rfl
 z5 := fun w => by kernel_rfl
 v5 := fun w => by kernel_rfl
 t9 := by kernel_rfl
 a9 := fun w => by kernel_rfl
 z9 := fun w => by kernel_rfl
 v9 := fun w => by kernel_rfl
 t26 := by kernel_rfl
 a26 := fun w => by kernel_rfl
 z26 := fun w => by kernel_rfl
 v26 := fun w => by kernel_rfl
 t27 := by kernel_rfl
 a27 := fun w => by kernel_rfl
 z27 := fun w => by kernel_rfl
 v27 := fun w => by kernel_rfl
 t29 := by kernel_rfl
 a29 := fun w => by kernel_rfl
 z29 := fun w => by kernel_rfl
 v29 := fun w => by kernel_rfl
 t32 := by kernel_rfl
 a32 := fun w => by kernel_rfl
 z32 := fun w => by kernel_rfl
 v32 := fun w => by kernel_rfl
 t35 := by kernel_rfl
 a35 := fun w => by kernel_rfl
 z35 := fun w => by kernel_rfl
 v35 := fun w => by kernel_rfl
 t36 := by kernel_rfl
 a36 := fun w => by kernel_rfl
 z36 := fun w => by kernel_rfl
 v36 := fun w => by kernel_rfl
 t41 := by kernel_rfl
 a41 := fun w => by kernel_rfl
 z41 := fun w => by kernel_rfl
 v41 := fun w => by kernel_rfl
 t44 := by kernel_rfl
 a44 := fun w => by kernel_rfl
 z44 := fun w => by kernel_rfl
 v44 := fun w => by kernel_rfl
 t46 := by kernel_rfl
 a46 := fun w => by kernel_rfl
 z46 := fun w => by kernel_rfl
 v46 := fun w => by kernel_rfl
 t53 := by kernel_rfl
 a53 := fun w => by kernel_rfl
 z53 := fun w => by kernel_rfl
 v53 := fun w => by kernel_rfl
 t57 := by kernel_rfl
 a57 := fun w => by kernel_rfl
 z57 := fun w => by kernel_rfl
 v57 := fun w => by kernel_rfl
 t63 := by kernel_rfl
 a63 := fun w => by kernel_rfl
 z63 := fun w => by kernel_rfl
 v63 := fun w => by kernel_rfl
 t64 := by kernel_rfl
 a64 := fun w => by kernel_rfl
 z64 := fun w => by kernel_rfl
 v64 := fun w => by kernel_rfl
def J6c : Ren := ⟨fun k => match k with | 6 => 152 | 15 => 232 | 14 => 233 | 28 => 294 | 29 => 295 | 20 => 296 | 21 => 297 | 22 => 298 | 23 => 299 | 24 => 300 | 25 => 301 | 26 => 302 | 27 => 303 | 46 => 350 | 47 => 346 | 48 => 347 | 49 => 351 | 50 => 352 | 57 => 371 | k => k, fun k => match k with | 22 => 223 | 24 => 139 | 25 => 227 | 3 => 3 | 39 => 310 | 0 => 0 | 53 => 355 | 55 => 357 | 4 => 4 | 46 => 349 | 45 => 348 | 50 => 253 | 5 => 5 | 9 => 9 | 66 => 394 | 70 => 398 | 76 => 417 | 77 => 237 | k => k, fun k => k⟩
set_option maxRecDepth 100000 in
theorem sfc5 : SlLaysF0.n6 Tryz.prog J6c where
 mixed := by kernel_rfl
 f6 := ⟨_, by kernel_rfl, Tryz.func152⟩
 f14 := ⟨_, by kernel_rfl, Tryz.func233⟩
 f15 := (Tryz.func232).trans (by kernel_rfl)
 f20 := ⟨_, by kernel_rfl, Tryz.func296⟩
 f21 := ⟨_, by kernel_rfl, Tryz.func297⟩
 f22 := ⟨_, by kernel_rfl, Tryz.func298⟩
 f23 := ⟨_, by kernel_rfl, Tryz.func299⟩
 f24 := ⟨_, by kernel_rfl, Tryz.func300⟩
 f25 := ⟨_, by kernel_rfl, Tryz.func301⟩
 f26 := ⟨_, by kernel_rfl, Tryz.func302⟩
 f27 := ⟨_, by kernel_rfl, Tryz.func303⟩
 f28 := (Tryz.func294).trans (by kernel_rfl)
 f29 := (Tryz.func295).trans (by kernel_rfl)
 f46 := ⟨_, by kernel_rfl, Tryz.func350⟩
 f47 := (Tryz.func346).trans (by kernel_rfl)
 f48 := (Tryz.func347).trans (by kernel_rfl)
 f49 := ⟨_, by kernel_rfl, Tryz.func351⟩
 f50 := ⟨_, by kernel_rfl, Tryz.func352⟩
 f57 := ⟨_, by kernel_rfl, Tryz.func371⟩
 t0 := by kernel_rfl
 a0 := fun w => by kernel_rfl
 z0 := fun w => by kernel_rfl
 v0 := fun w => by kernel_rfl
 t3 := by kernel_rfl
 a3 := fun w => by kernel_rfl
 z3 := fun w => by kernel_rfl
 v3 := fun w => by kernel_rfl
 t4 := by kernel_rfl
 a4 := fun w => by kernel_rfl
 z4 := fun w => by kernel_rfl
 v4 := fun w => by kernel_rfl
 t5 := by kernel_rfl
 a5 := fun w => by kernel_rfl
 z5 := fun w => by kernel_rfl
 v5 := fun w => by kernel_rfl
 t9 := by kernel_rfl
 a9 := fun w => by kernel_rfl
 z9 := fun w => by kernel_rfl
 v9 := fun w => by kernel_rfl
 t22 := by kernel_rfl
 a22 := fun w => by kernel_rfl
 z22 := fun w => by kernel_rfl
 v22 := fun w => by kernel_rfl
 t25 := by kernel_rfl
 a25 := fun w => by kernel_rfl
 z25 := fun w => by kernel_rfl
 v25 := fun w => by kernel_rfl
 t39 := by kernel_rfl
 a39 := fun w => by kernel_rfl
 z39 := fun w => by kernel_rfl
 v39 := fun w => by kernel_rfl
 t45 := by kernel_rfl
 a45 := fun w => by kernel_rfl
 z45 := fun w => by kernel_rfl
 v45 := fun w => by kernel_rfl
 t46 := by kernel_rfl
 a46 := fun w => by kernel_rfl
 z46 := fun w => by kernel_rfl
 v46 := fun w => by kernel_rfl
 t50 := by kernel_rfl
 a50 := fun w => by kernel_rfl
 z50 := fun w => by kernel_rfl
 v50 := fun w => by kernel_rfl
 t53 := by kernel_rfl
 a53 := fun w => by kernel_rfl
 z53 := fun w => by kernel_rfl
 v53 := fun w => by kernel_rfl
 t55 := by kernel_rfl
 a55 := fun w => by kernel_rfl
 z55 := fun w => by kernel_rfl
 v55 := fun w => by kernel_rfl
 t66 := by kernel_rfl
 a66 := fun w => by kernel_rfl
 z66 := fun w => by kernel_rfl
 v66 := fun w => by kernel_rfl
 t70 := by kernel_rfl
 a70 := fun w => by kernel_rfl
 z70 := fun w => by kernel_rfl
 v70 := fun w => by kernel_rfl
 t76 := by kernel_rfl
 a76 := fun w => by kernel_rfl
 z76 := fun w => by kernel_rfl
 v76 := fun w => by kernel_rfl
 t77 := by kernel_rfl
 a77 := fun w => by kernel_rfl
 z77 := fun w => by kernel_rfl
 v77 := fun w => by kernel_rfl
def Jsa : Ren := ⟨fun k => match k with | 171 => 89 | 243 => 172 | 246 => 242 | 283 => 309 | 284 => 310 | 285 => 311 | 286 => 312 | 129 => 295 | 317 => 354 | 318 => 355 | 319 => 356 | 320 => 357 | 337 => 372 | 338 => 373 | k => k, fun k => match k with | 3 => 3 | 9 => 9 | 2 => 2 | 4 => 4 | 171 => 363 | 0 => 0 | 53 => 357 | 37 => 145 | 5 => 5 | 173 => 365 | 212 => 403 | 51 => 355 | 20 => 20 | 213 => 404 | 46 => 310 | 232 => 426 | 233 => 427 | k => k, fun k => match k with | 17 => 4 | 18 => 7 | 19 => 8 | k => k⟩
set_option maxRecDepth 100000 in
theorem ito5 : Lays.n171 Tryz.prog Jsa where
 mixed := by kernel_rfl
 f129 := (Tryz.func295).trans (by kernel_rfl)
 f171 := (Tryz.func89).trans (by kernel_rfl)
 f243 := (Tryz.func172).trans (by kernel_rfl)
 f246 := (Tryz.func242).trans (by kernel_rfl)
 f283 := (Tryz.func309).trans (by kernel_rfl)
 f284 := (Tryz.func310).trans (by kernel_rfl)
 f285 := (Tryz.func311).trans (by kernel_rfl)
 f286 := (Tryz.func312).trans (by kernel_rfl)
 f317 := (Tryz.func354).trans (by kernel_rfl)
 f318 := (Tryz.func355).trans (by kernel_rfl)
 f319 := (Tryz.func356).trans (by kernel_rfl)
 f320 := (Tryz.func357).trans (by kernel_rfl)
 f337 := (Tryz.func372).trans (by kernel_rfl)
 f338 := (Tryz.func373).trans (by kernel_rfl)
 t0 := by kernel_rfl
 a0 := fun w => by kernel_rfl
 z0 := fun w => by kernel_rfl
 v0 := fun w => by kernel_rfl
 t2 := by kernel_rfl
 a2 := fun w => by kernel_rfl
 z2 := fun w => by kernel_rfl
 v2 := fun w => by kernel_rfl
 t3 := by kernel_rfl
 a3 := fun w => by kernel_rfl
 z3 := fun w => by kernel_rfl
 v3 := fun w => by kernel_rfl
 t4 := by kernel_rfl
 a4 := fun w => by kernel_rfl
 z4 := fun w => by kernel_rfl
 v4 := fun w => by kernel_rfl
 t5 := by kernel_rfl
 a5 := fun w => by kernel_rfl
 z5 := fun w => by kernel_rfl
 v5 := fun w => by kernel_rfl
 t9 := by kernel_rfl
 a9 := fun w => by kernel_rfl
 z9 := fun w => by kernel_rfl
 v9 := fun w => by kernel_rfl
 t20 := by kernel_rfl
 a20 := fun w => by kernel_rfl
 z20 := fun w => by kernel_rfl
 v20 := fun w => by kernel_rfl
 t37 := by kernel_rfl
 a37 := fun w => by kernel_rfl
 z37 := fun w => by kernel_rfl
 v37 := fun w => by kernel_rfl
 t46 := by kernel_rfl
 a46 := fun w => by kernel_rfl
 z46 := fun w => by kernel_rfl
 v46 := fun w => by kernel_rfl
 t51 := by kernel_rfl
 a51 := fun w => by kernel_rfl
 z51 := fun w => by kernel_rfl
 v51 := fun w => by kernel_rfl
 t53 := by kernel_rfl
 a53 := fun w => by kernel_rfl
 z53 := fun w => by kernel_rfl
 v53 := fun w => by kernel_rfl
 t171 := by kernel_rfl
 a171 := fun w => by kernel_rfl
 z171 := fun w => by kernel_rfl
 v171 := fun w => by kernel_rfl
 t173 := by kernel_rfl
 a173 := fun w => by kernel_rfl
 z173 := fun w => by kernel_rfl
 v173 := fun w => by kernel_rfl
 t212 := by kernel_rfl
 a212 := fun w => by kernel_rfl
 z212 := fun w => by kernel_rfl
 v212 := fun w => by kernel_rfl
 t213 := by kernel_rfl
 a213 := fun w => by kernel_rfl
 z213 := fun w => by kernel_rfl
 t232 := by kernel_rfl
 a232 := fun w => by kernel_rfl
 z232 := fun w => by kernel_rfl
 v232 := fun w => by kernel_rfl
 t233 := by kernel_rfl
 a233 := fun w => by kernel_rfl
 z233 := fun w => by kernel_rfl
 v233 := fun w => by kernel_rfl
 g17 := by kernel_rfl
 g18 := by kernel_rfl
 g19 := by kernel_rfl
def Jxo : Ren := ⟨fun k => match k with | 172 => 228 | 244 => 282 | 245 => 283 | 247 => 339 | 279 => 340 | 280 => 341 | 281 => 342 | 282 => 343 | 287 => 367 | 316 => 368 | 171 => 89 | 205 => 369 | 321 => 376 | 322 => 377 | 243 => 172 | 246 => 242 | 283 => 309 | 284 => 310 | 285 => 311 | 286 => 312 | 129 => 295 | 317 => 354 | 318 => 355 | 319 => 356 | 320 => 357 | 337 => 372 | 338 => 373 | k => k, fun k => match k with | 9 => 9 | 3 => 3 | 75 => 150 | 76 => 151 | 4 => 4 | 5 => 5 | 167 => 386 | 37 => 145 | 0 => 0 | 85 => 387 | 2 => 2 | 168 => 389 | 53 => 357 | 175 => 412 | 46 => 310 | 210 => 415 | 127 => 246 | 145 => 425 | 143 => 423 | 21 => 21 | 171 => 363 | 173 => 365 | 212 => 403 | 51 => 355 | 20 => 20 | 213 => 404 | 232 => 426 | 233 => 427 | 80 => 156 | k => k, fun k => match k with | 15 => 5 | 16 => 6 | 17 => 4 | 18 => 7 | 19 => 8 | k => k⟩
set_option maxRecDepth 100000 in
theorem ato5 : LaysC.n172 Tryz.prog Jxo where
 mixed := by kernel_rfl
 f129 := (Tryz.func295).trans (by kernel_rfl)
 f171 := (Tryz.func89).trans (by kernel_rfl)
 f172 := (Tryz.func228).trans (by kernel_rfl)
 f205 := (Tryz.func369).trans (by kernel_rfl)
 f243 := (Tryz.func172).trans (by kernel_rfl)
 f244 := (Tryz.func282).trans (by kernel_rfl)
 f245 := (Tryz.func283).trans (by kernel_rfl)
 f246 := (Tryz.func242).trans (by kernel_rfl)
 f247 := (Tryz.func339).trans (by kernel_rfl)
 f279 := (Tryz.func340).trans (by kernel_rfl)
 f280 := (Tryz.func341).trans (by kernel_rfl)
 f281 := (Tryz.func342).trans (by kernel_rfl)
 f282 := (Tryz.func343).trans (by kernel_rfl)
 f283 := (Tryz.func309).trans (by kernel_rfl)
 f284 := (Tryz.func310).trans (by kernel_rfl)
 f285 := (Tryz.func311).trans (by kernel_rfl)
 f286 := (Tryz.func312).trans (by kernel_rfl)
 f287 := (Tryz.func367).trans (by kernel_rfl)
 f316 := (Tryz.func368).trans (by kernel_rfl)
 f317 := (Tryz.func354).trans (by kernel_rfl)
 f318 := (Tryz.func355).trans (by kernel_rfl)
 f319 := (Tryz.func356).trans (by kernel_rfl)
 f320 := (Tryz.func357).trans (by kernel_rfl)
 f321 := (Tryz.func376).trans (by kernel_rfl)
 f322 := (Tryz.func377).trans (by kernel_rfl)
 f337 := (Tryz.func372).trans (by kernel_rfl)
 f338 := (Tryz.func373).trans (by kernel_rfl)
 t0 := by kernel_rfl
 a0 := fun w => by kernel_rfl
 z0 := fun w => by kernel_rfl
 v0 := fun w => by kernel_rfl
 t2 := by kernel_rfl
 a2 := fun w => by kernel_rfl
 z2 := fun w => by kernel_rfl
 v2 := fun w => by kernel_rfl
 t3 := by kernel_rfl
 a3 := fun w => by kernel_rfl
 z3 := fun w => by kernel_rfl
 v3 := fun w => by kernel_rfl
 t4 := by kernel_rfl
 a4 := fun w => by kernel_rfl
 z4 := fun w => by kernel_rfl
 v4 := fun w => by kernel_rfl
 t5 := by kernel_rfl
 a5 := fun w => by kernel_rfl
 z5 := fun w => by kernel_rfl
 v5 := fun w => by kernel_rfl
 t9 := by kernel_rfl
 a9 := fun w => by kernel_rfl
 z9 := fun w => by kernel_rfl
 v9 := fun w => by kernel_rfl
 t20 := by kernel_rfl
 a20 := fun w => by kernel_rfl
 z20 := fun w => by kernel_rfl
 v20 := fun w => by kernel_rfl
 t21 := by kernel_rfl
 a21 := fun w => by kernel_rfl
 z21 := fun w => by kernel_rfl
 v21 := fun w => by kernel_rfl
 t37 := by kernel_rfl
 a37 := fun w => by kernel_rfl
 z37 := fun w => by kernel_rfl
 v37 := fun w => by kernel_rfl
 t46 := by kernel_rfl
 a46 := fun w => by kernel_rfl
 z46 := fun w => by kernel_rfl
 v46 := fun w => by kernel_rfl
 t51 := by kernel_rfl
 a51 := fun w => by kernel_rfl
 z51 := fun w => by kernel_rfl
 v51 := fun w => by kernel_rfl
 t53 := by kernel_rfl
 a53 := fun w => by kernel_rfl
 z53 := fun w => by kernel_rfl
 v53 := fun w => by kernel_rfl
 t75 := by kernel_rfl
 a75 := fun w => by kernel_rfl
 z75 := fun w => by kernel_rfl
 v75 := fun w => by kernel_rfl
 t76 := by kernel_rfl
 a76 := fun w => by kernel_rfl
 z76 := fun w => by kernel_rfl
 v76 := fun w => by kernel_rfl
 t85 := by kernel_rfl
 a85 := fun w => by kernel_rfl
 z85 := fun w => by kernel_rfl
 v85 := fun w => by kernel_rfl
 t127 := by kernel_rfl
 a127 := fun w => by kernel_rfl
 z127 := fun w => by kernel_rfl
 v127 := fun w => by kernel_rfl
 t143 := by kernel_rfl
 a143 := fun w => by kernel_rfl
 z143 := fun w => by kernel_rfl
 v143 := fun w => by kernel_rfl
 t145 := by kernel_rfl
 a145 := fun w => by kernel_rfl
 z145 := fun w => by kernel_rfl
 v145 := fun w => by kernel_rfl
 t167 := by kernel_rfl
 a167 := fun w => by kernel_rfl
 z167 := fun w => by kernel_rfl
 v167 := fun w => by kernel_rfl
 t168 := by kernel_rfl
 a168 := fun w => by kernel_rfl
 z168 := fun w => by kernel_rfl
 v168 := fun w => by kernel_rfl
 t171 := by kernel_rfl
 a171 := fun w => by kernel_rfl
 z171 := fun w => by kernel_rfl
 v171 := fun w => by kernel_rfl
 t173 := by kernel_rfl
 a173 := fun w => by kernel_rfl
 z173 := fun w => by kernel_rfl
 v173 := fun w => by kernel_rfl
 t175 := by kernel_rfl
 a175 := fun w => by kernel_rfl
 z175 := fun w => by kernel_rfl
 v175 := fun w => by kernel_rfl
 t210 := by kernel_rfl
 a210 := fun w => by kernel_rfl
 z210 := fun w => by kernel_rfl
 v210 := fun w => by kernel_rfl
 t212 := by kernel_rfl
 a212 := fun w => by kernel_rfl
 z212 := fun w => by kernel_rfl
 v212 := fun w => by kernel_rfl
 t213 := by kernel_rfl
 a213 := fun w => by kernel_rfl
 z213 := fun w => by kernel_rfl
 t232 := by kernel_rfl
 a232 := fun w => by kernel_rfl
 z232 := fun w => by kernel_rfl
 v232 := fun w => by kernel_rfl
 t233 := by kernel_rfl
 a233 := fun w => by kernel_rfl
 z233 := fun w => by kernel_rfl
 v233 := fun w => by kernel_rfl
 g15 := by kernel_rfl
 g16 := by kernel_rfl
 g17 := by kernel_rfl
 g18 := by kernel_rfl
 g19 := by kernel_rfl
 t80 := by kernel_rfl
 a80 := fun w => by kernel_rfl
 z80 := fun w => by kernel_rfl
 v80 := fun w => by kernel_rfl
 i0 := by kernel_rfl
 i2 := by kernel_rfl
 i3 := by kernel_rfl
 i4 := by kernel_rfl
 i5 := by kernel_rfl
 i9 := by kernel_rfl
 i20 := by kernel_rfl
 i21 := by kernel_rfl
 i37 := by kernel_rfl
 i46 := by kernel_rfl
 i51 := by kernel_rfl
 i53 := by kernel_rfl
 i75 := by kernel_rfl
 i76 := by kernel_rfl
 i80 := by kernel_rfl
 i85 := by kernel_rfl
 i127 := by kernel_rfl
 i143 := by kernel_rfl
 i145 := by kernel_rfl
 i167 := by kernel_rfl
 i168 := by kernel_rfl
 i171 := by kernel_rfl
 i173 := by kernel_rfl
 i175 := by kernel_rfl
 i210 := by kernel_rfl
 i212 := by kernel_rfl
 i232 := by kernel_rfl
 i233 := by kernel_rfl
 m15 := by kernel_rfl
 m16 := by kernel_rfl
 m17 := by kernel_rfl
 m18 := by kernel_rfl
 m19 := by kernel_rfl
 c0 := by kernel_rfl
 c2 := by kernel_rfl
 c3 := by kernel_rfl
 c4 := by kernel_rfl
 c5 := by kernel_rfl
 c9 := by kernel_rfl
 c20 := by kernel_rfl
 c21 := by kernel_rfl
 c37 := by kernel_rfl
 c46 := by kernel_rfl
 c51 := by kernel_rfl
 c53 := by kernel_rfl
 c75 := by kernel_rfl
 c76 := by kernel_rfl
 c80 := by kernel_rfl
 c85 := by kernel_rfl
 c127 := by kernel_rfl
 c143 := by kernel_rfl
 c145 := by kernel_rfl
 c167 := by kernel_rfl
 c168 := by kernel_rfl
 c171 := by kernel_rfl
 c173 := by kernel_rfl
 c175 := by kernel_rfl
 c210 := by kernel_rfl
 c212 := by kernel_rfl
 c213 := by kernel_rfl
 c232 := by kernel_rfl
 c233 := by kernel_rfl
def J0z : Ren := ⟨fun k => match k with | 229 => 149 | k => k, fun k => match k with | 9 => 9 | 40 => 220 | 31 => 75 | 152 => 305 | 3 => 3 | 0 => 0 | 4 => 4 | 21 => 21 | 154 => 307 | k => k, fun k => k⟩
set_option maxRecDepth 100000 in
theorem ff5 : Lays.n229 Tryz.prog J0z where
 mixed := by kernel_rfl
 f229 := (Tryz.func149).trans (by kernel_rfl)
 t0 := by kernel_rfl
 a0 := fun w => by kernel_rfl
 z0 := fun w => by kernel_rfl
 v0 := fun w => by kernel_rfl
 t3 := by kernel_rfl
 a3 := fun w => by kernel_rfl
 z3 := fun w => by kernel_rfl
 v3 := fun w => by kernel_rfl
 t4 := by kernel_rfl
 a4 := fun w => by kernel_rfl
 z4 := fun w => by kernel_rfl
 v4 := fun w => by kernel_rfl
 t9 := by kernel_rfl
 a9 := fun w => by kernel_rfl
 z9 := fun w => by kernel_rfl
 v9 := fun w => by kernel_rfl
 t21 := by kernel_rfl
 a21 := fun w => by kernel_rfl
 z21 := fun w => by kernel_rfl
 v21 := fun w => by kernel_rfl
 t31 := by kernel_rfl
 a31 := fun w => by kernel_rfl
 z31 := fun w => by kernel_rfl
 v31 := fun w => by kernel_rfl
 t40 := by kernel_rfl
 a40 := fun w => by kernel_rfl
 z40 := fun w => by kernel_rfl
 v40 := fun w => by kernel_rfl
 t152 := by kernel_rfl
 a152 := fun w => by kernel_rfl
 z152 := fun w => by kernel_rfl
 v152 := fun w => by kernel_rfl
 t154 := by kernel_rfl
 a154 := fun w => by kernel_rfl
 z154 := fun w => by kernel_rfl
 v154 := fun w => by kernel_rfl
def Jz1 : Ren := ⟨fun k => match k with | 106 => 234 | 213 => 304 | 265 => 353 | k => k, fun k => match k with | 9 => 9 | 3 => 3 | k => k, fun k => k⟩
set_option maxRecDepth 100000 in
theorem cmp5 : Lays.n106 Tryz.prog Jz1 where
 mixed := by kernel_rfl
 f106 := (Tryz.func234).trans (by kernel_rfl)
 f213 := (Tryz.func304).trans (by kernel_rfl)
 f265 := (Tryz.func353).trans (by kernel_rfl)
 t3 := by kernel_rfl
 a3 := fun w => by kernel_rfl
 z3 := fun w => by kernel_rfl
 v3 := fun w => by kernel_rfl
 t9 := by kernel_rfl
 a9 := fun w => by kernel_rfl
 z9 := fun w => by kernel_rfl
 v9 := fun w => by kernel_rfl
end Go.Am
namespace Go.Am
open Go Go.Proofs Go.Shelf Go.RowKit Go.Lib Go.Sort Go.Pn
set_option maxHeartbeats 1000000 in
theorem k_or (a b : Int) (blk cap : Nat) (w : World) (h0 : w.cell? ⟨blk, 0, none⟩ = some (.int .i64 a)) (h1 : w.cell? ⟨blk, 1, none⟩ = some (.int .i64 b)) :
   Calls Tryz.prog 154 #[.slice (some ⟨blk, 0, none⟩) 2 cap] w fun e w' => e = .returned (.int .i64 (orI [a, b])) /\ w' = w := by
 go_enter Tryz.func154, Tryz.ntmps154
 go_wp2
 go_loopg [8] 2 (fun g v8 wx => wx = w /\ ((g = 2 /\ v8 = .int .i64 0) \/ (g = 1 /\ v8 = .int .i64 1 /\ a = 0) \/ (g = 0 /\ v8 = .int .i64 2 /\ a = 0 /\ b = 0)))
 case atStart => exact ⟨rfl, .inl ⟨rfl, rfl⟩⟩
 case round =>
   obtain ⟨rfl, ⟨rfl, rfl⟩ | ⟨rfl, rfl, ha⟩ | ⟨rfl, rfl, ha, hb⟩⟩ := hrel
   . by_cases ha : a = 0
     . subst ha
       go_wp2
       go_roundg 1
       case measure => omega
       case rel => simp
     . have ha2 : (a != 0) = true := by simpa using ha
       go_wp2
       go_ret
       exact ⟨by simp [orI, ha], rfl⟩
   . subst ha
     by_cases hb : b = 0
     . subst hb
       go_wp2
       go_roundg 0
       case measure => omega
       case rel => simp
     . have hb2 : (b != 0) = true := by simpa using hb
       go_wp2
       go_ret
       exact ⟨by simp [orI, hb], rfl⟩
   . go_wp2
     go_ret
     exact ⟨by simp [orI, ha, hb], rfl⟩
theorem Jdf (w : World) (T : Array Value) (U : TypeId) (i : Nat) (v : Value) (h : T[i]? = some v) : (w.alloc (Obj.cells T U)).cell? ⟨w.heap.size, i, none⟩ = some v := by
 have : (w.alloc (Obj.cells T U)).heap[w.heap.size]? = some (Obj.cells T U) := Array.getElem?_push_size
 unfold World.cell?
 simp only [this]
 simpa using h
theorem Jcd (w : World) (x : Obj) (a : Addr) (v : Value) (h : w.cell? a = some v) : (w.alloc x).cell? a = some v := by
 have hb : a.block < w.heap.size := by
   apply Decidable.byContradiction
   intro hn
   unfold World.cell? at h
   rw [Array.getElem?_eq_none (by omega)] at h
   cases h
 have : (w.alloc x).heap[a.block]? = w.heap[a.block]? := Array.getElem?_push_lt hb |>.trans (Array.getElem?_eq_getElem hb).symm
 unfold World.cell? at h ⊢
 rw [this]; exact h
theorem J1t (w : World) (q : Nat) (os : Array Obj) (o : Obj) : ((Go.Sort.grow (w.drewN q) os).alloc o).drew = Go.Sort.grow (w.drewN (q + 1)) (os ++ #[o]) := by
 rw [alloc_eq_grow, grow_grow]; rfl
theorem cell_grown {w : World} {a : Addr} {v : Value} {q : Nat} {os : Array Obj} (h : w.cell? a = some v) : (Go.Sort.grow (w.drewN q) os).cell? a = some v := by
 have hb : a.block < w.heap.size := by
   apply Decidable.byContradiction
   intro hn
   unfold World.cell? at h
   rw [Array.getElem?_eq_none (by omega)] at h
   cases h
 exact (Go.Sort.cell?_grow (w.drewN q) os a hb).trans h
def GW (w w' : World) : Prop := ∃ q os', w' = Go.Sort.grow (w.drewN q) os'
theorem GW.keep {w w' : World} (h : GW w w') {a : Addr} {v : Value} (hc : w.cell? a = some v) : w'.cell? a = some v := by
 obtain ⟨q, os, rfl⟩ := h; exact cell_grown hc
theorem GW.trans {a b c : World} (h : GW a b) (k : ∃ q os', c = Go.Sort.grow (b.drewN q) os') : GW a c := by
 obtain ⟨q, os, rfl⟩ := h
 obtain ⟨r, os', rfl⟩ := k
 refine ⟨q + r, os ++ os', ?_⟩
 rw [<- grow_grow]
 show Go.Sort.grow (Go.Sort.grow ((a.drewN q).drewN r) os) os' = _
 have : (a.drewN q).drewN r = a.drewN (q + r) := by simp [World.drewN, Nat.add_assoc]
 rw [this]
theorem GW.alloc {w W w' : World} {o : Obj} (hW : ∃ q os', W = Go.Sort.grow (w.drewN q) os') (h : GW W w') : ∃ q os', w'.alloc o = Go.Sort.grow (w.drewN q) os' := by
 obtain ⟨q, os, rfl⟩ := GW.trans hW h
 exact ⟨q, os ++ #[o], by rw [alloc_eq_grow, grow_grow]⟩
set_option maxHeartbeats 1000000 in
theorem J2f (a b : End) (w : World) : Calls Tryz.prog 155 #[.agg #[.string ⟨⟨a.part⟩⟩, .string ⟨⟨a.port⟩⟩], .agg #[.string ⟨⟨b.part⟩⟩, .string ⟨⟨b.port⟩⟩]] w fun e w' => e = .returned (.int .i64 (Jce a b)) /\ ∃ q os', w' = Go.Sort.grow (w.drewN q) os' := by
 have hc := fun (x y : Txt) W => Any.strings_Compare cmp5 ⟨⟨x⟩⟩ ⟨⟨y⟩⟩ W
 change ∀ x y W, Calls Tryz.prog 234 _ _ _ at hc
 have hor : ∀ (x y : Int) (w : World) (U : TypeId), Calls Tryz.prog 154 #[.slice (some ⟨w.heap.size, 0, none⟩) 2 2] ((w.drew).alloc (Obj.cells #[.int .i64 x, .int .i64 y] U)) fun e w' => e = .returned (.int .i64 (orI [x, y])) /\ w' = (w.drew).alloc (Obj.cells #[.int .i64 x, .int .i64 y] U) :=
   fun x y w U => k_or x y _ 2 _ (Jdf w.drew _ _ _ _ rfl) (Jdf w.drew _ _ _ _ rfl)
 go_enter Tryz.func155, Tryz.ntmps155
 go_wp2
 have s1 := Jcd _ (Obj.cells #[Value.string ⟨⟨b.part⟩⟩, Value.string ⟨⟨b.port⟩⟩] 137) _ _ (Jdf w #[Value.string ⟨⟨a.part⟩⟩, Value.string ⟨⟨a.port⟩⟩] 137 0 _ rfl)
 have s2 := Jcd _ (Obj.cells #[Value.string ⟨⟨b.part⟩⟩, Value.string ⟨⟨b.port⟩⟩] 137) _ _ (Jdf w #[Value.string ⟨⟨a.part⟩⟩, Value.string ⟨⟨a.port⟩⟩] 137 1 _ rfl)
 have s3 := Jdf (w.alloc (Obj.cells #[Value.string ⟨⟨a.part⟩⟩, Value.string ⟨⟨a.port⟩⟩] 137)) #[Value.string ⟨⟨b.part⟩⟩, Value.string ⟨⟨b.port⟩⟩] 137 0 _ rfl
 have s4 := Jdf (w.alloc (Obj.cells #[Value.string ⟨⟨a.part⟩⟩, Value.string ⟨⟨a.port⟩⟩] 137)) #[Value.string ⟨⟨b.part⟩⟩, Value.string ⟨⟨b.port⟩⟩] 137 1 _ rfl
 have e1 : (w.alloc (Obj.cells #[Value.string ⟨⟨a.part⟩⟩, Value.string ⟨⟨a.port⟩⟩] 137)).heap.size = w.heap.size + 1 := Array.size_push _
 rw [e1] at s3 s4
 have hW : ∃ q os', (w.alloc (Obj.cells #[Value.string ⟨⟨a.part⟩⟩, Value.string ⟨⟨a.port⟩⟩] 137)).alloc (Obj.cells #[Value.string ⟨⟨b.part⟩⟩, Value.string ⟨⟨b.port⟩⟩] 137) = Go.Sort.grow (w.drewN q) os' := ⟨0, _, by rw [alloc_eq_grow, alloc_eq_grow, grow_grow]; rfl⟩
 generalize (w.alloc (Obj.cells #[Value.string ⟨⟨a.part⟩⟩, Value.string ⟨⟨a.port⟩⟩] 137)).alloc (Obj.cells #[Value.string ⟨⟨b.part⟩⟩, Value.string ⟨⟨b.port⟩⟩] 137) = W at s1 s2 s3 s4 hW ⊢
 generalize w.heap.size = n1 at s1 s2 s3 s4 ⊢
 go_region_held3 (fun w' => w'.cell? ⟨n1, 0, none⟩ = some (.string ⟨⟨a.part⟩⟩) /\ w'.cell? ⟨n1, 1, none⟩ = some (.string ⟨⟨a.port⟩⟩) /\ w'.cell? ⟨n1 + 1, 0, none⟩ = some (.string ⟨⟨b.part⟩⟩) /\ w'.cell? ⟨n1 + 1, 1, none⟩ = some (.string ⟨⟨b.port⟩⟩))
   (first | exact ⟨s1, s2, s3, s4⟩ | go_keep)
   (first | (go_at_call 234; refine (hc _ _ _).mono ?_; rintro e w' ⟨rfl, rfl⟩) | (go_at_call 154; refine (hor _ _ _ _).mono ?_; rintro e w' ⟨rfl, rfl⟩))
 go_wp2
 go_ret
 obtain ⟨q, os', rfl⟩ := hW
 exact ⟨by simp [Jce], _, _, J1t _ _ _ _⟩
set_option maxRecDepth 100000 in
set_option maxHeartbeats 4000000 in
theorem J2e (a b : EndP) (w : World) : Calls Tryz.prog 153 #[.agg #[.string ⟨⟨a.1.part⟩⟩, .string ⟨⟨a.1.port⟩⟩, .string ⟨⟨a.2.part⟩⟩, .string ⟨⟨a.2.port⟩⟩], .agg #[.string ⟨⟨b.1.part⟩⟩, .string ⟨⟨b.1.port⟩⟩, .string ⟨⟨b.2.part⟩⟩, .string ⟨⟨b.2.port⟩⟩]] w fun e w' => e = .returned (.int .i64 (Jei a b)) /\ ∃ q os', w' = Go.Sort.grow (w.drewN q) os' := by
 obtain ⟨⟨a1, a2⟩, ⟨a3, a4⟩⟩ := a
 obtain ⟨⟨b1, b2⟩, ⟨b3, b4⟩⟩ := b
 have hc := fun (x y x' y' : Txt) W => J2f ⟨x, y⟩ ⟨x', y'⟩ W
 have hor : ∀ (x y : Int) (w : World) (U : TypeId), Calls Tryz.prog 154 #[.slice (some ⟨w.heap.size, 0, none⟩) 2 2] (w.alloc (Obj.cells #[.int .i64 x, .int .i64 y] U)) fun e w' => e = .returned (.int .i64 (orI [x, y])) /\ w' = w.alloc (Obj.cells #[.int .i64 x, .int .i64 y] U) :=
   fun x y w U => k_or x y _ 2 _ (Jdf w _ _ _ _ rfl) (Jdf w _ _ _ _ rfl)
 go_enter Tryz.func153, Tryz.ntmps153
 go_wp2
 have s1 := fun i v h => Jcd _ (Obj.cells #[Value.string ⟨⟨b1⟩⟩, Value.string ⟨⟨b2⟩⟩, Value.string ⟨⟨b3⟩⟩, Value.string ⟨⟨b4⟩⟩] 139) _ _ (Jdf w #[Value.string ⟨⟨a1⟩⟩, Value.string ⟨⟨a2⟩⟩, Value.string ⟨⟨a3⟩⟩, Value.string ⟨⟨a4⟩⟩] 139 i v h)
 have s2 := Jdf (w.alloc (Obj.cells #[Value.string ⟨⟨a1⟩⟩, Value.string ⟨⟨a2⟩⟩, Value.string ⟨⟨a3⟩⟩, Value.string ⟨⟨a4⟩⟩] 139)) #[Value.string ⟨⟨b1⟩⟩, Value.string ⟨⟨b2⟩⟩, Value.string ⟨⟨b3⟩⟩, Value.string ⟨⟨b4⟩⟩] 139
 have e1 : (w.alloc (Obj.cells #[Value.string ⟨⟨a1⟩⟩, Value.string ⟨⟨a2⟩⟩, Value.string ⟨⟨a3⟩⟩, Value.string ⟨⟨a4⟩⟩] 139)).heap.size = w.heap.size + 1 := Array.size_push _
 rw [e1] at s2
 have hW : ∃ q os', (w.alloc (Obj.cells #[Value.string ⟨⟨a1⟩⟩, Value.string ⟨⟨a2⟩⟩, Value.string ⟨⟨a3⟩⟩, Value.string ⟨⟨a4⟩⟩] 139)).alloc (Obj.cells #[Value.string ⟨⟨b1⟩⟩, Value.string ⟨⟨b2⟩⟩, Value.string ⟨⟨b3⟩⟩, Value.string ⟨⟨b4⟩⟩] 139) = Go.Sort.grow (w.drewN q) os' := ⟨0, _, by rw [alloc_eq_grow, alloc_eq_grow, grow_grow]; rfl⟩
 generalize (w.alloc (Obj.cells #[Value.string ⟨⟨a1⟩⟩, Value.string ⟨⟨a2⟩⟩, Value.string ⟨⟨a3⟩⟩, Value.string ⟨⟨a4⟩⟩] 139)).alloc (Obj.cells #[Value.string ⟨⟨b1⟩⟩, Value.string ⟨⟨b2⟩⟩, Value.string ⟨⟨b3⟩⟩, Value.string ⟨⟨b4⟩⟩] 139) = W at s1 s2 hW ⊢
 generalize w.heap.size = n1 at s1 s2 ⊢
 have x1 : W.cell? ⟨n1, 0, none⟩ = some (.string ⟨⟨a1⟩⟩) := s1 0 _ rfl
 have y1 : W.cell? ⟨n1 + 1, 0, none⟩ = some (.string ⟨⟨b1⟩⟩) := s2 0 _ rfl
 have x2 : W.cell? ⟨n1, 1, none⟩ = some (.string ⟨⟨a2⟩⟩) := s1 1 _ rfl
 have y2 : W.cell? ⟨n1 + 1, 1, none⟩ = some (.string ⟨⟨b2⟩⟩) := s2 1 _ rfl
 have x3 : W.cell? ⟨n1, 2, none⟩ = some (.string ⟨⟨a3⟩⟩) := s1 2 _ rfl
 have y3 : W.cell? ⟨n1 + 1, 2, none⟩ = some (.string ⟨⟨b3⟩⟩) := s2 2 _ rfl
 have x4 : W.cell? ⟨n1, 3, none⟩ = some (.string ⟨⟨a4⟩⟩) := s1 3 _ rfl
 have y4 : W.cell? ⟨n1 + 1, 3, none⟩ = some (.string ⟨⟨b4⟩⟩) := s2 3 _ rfl
 clear s1 s2
 have gW : GW W W.drew := ⟨1, #[], by rw [Go.Sort.grow_empty]; rfl⟩
 have hcc : ∀ (x y x' y' : Txt) (W' : World), GW W W' -> Calls Tryz.prog 155 #[.agg #[.string ⟨⟨x⟩⟩, .string ⟨⟨y⟩⟩], .agg #[.string ⟨⟨x'⟩⟩, .string ⟨⟨y'⟩⟩]] W' fun e w' => e = .returned (.int .i64 (Jce ⟨x, y⟩ ⟨x', y'⟩)) /\ GW W w' := fun x y x' y' W' hg => (hc x y x' y' W').mono fun e w' h => ⟨h.1, hg.trans h.2⟩
 have hk : ∀ w', GW W w' -> (w'.cell? ⟨n1, 0, none⟩ = some (.string ⟨⟨a1⟩⟩) /\ w'.cell? ⟨n1, 1, none⟩ = some (.string ⟨⟨a2⟩⟩) /\ w'.cell? ⟨n1, 2, none⟩ = some (.string ⟨⟨a3⟩⟩) /\ w'.cell? ⟨n1, 3, none⟩ = some (.string ⟨⟨a4⟩⟩) /\ w'.cell? ⟨n1 + 1, 0, none⟩ = some (.string ⟨⟨b1⟩⟩) /\ w'.cell? ⟨n1 + 1, 1, none⟩ = some (.string ⟨⟨b2⟩⟩) /\ w'.cell? ⟨n1 + 1, 2, none⟩ = some (.string ⟨⟨b3⟩⟩) /\ w'.cell? ⟨n1 + 1, 3, none⟩ = some (.string ⟨⟨b4⟩⟩)) := fun w' hg =>
   ⟨hg.keep x1, hg.keep x2, hg.keep x3, hg.keep x4, hg.keep y1, hg.keep y2, hg.keep y3, hg.keep y4⟩
 have hka : ∀ w' o, GW W w' -> ((w'.alloc o).cell? ⟨n1, 0, none⟩ = some (.string ⟨⟨a1⟩⟩) /\ (w'.alloc o).cell? ⟨n1, 1, none⟩ = some (.string ⟨⟨a2⟩⟩) /\ (w'.alloc o).cell? ⟨n1, 2, none⟩ = some (.string ⟨⟨a3⟩⟩) /\ (w'.alloc o).cell? ⟨n1, 3, none⟩ = some (.string ⟨⟨a4⟩⟩) /\ (w'.alloc o).cell? ⟨n1 + 1, 0, none⟩ = some (.string ⟨⟨b1⟩⟩) /\ (w'.alloc o).cell? ⟨n1 + 1, 1, none⟩ = some (.string ⟨⟨b2⟩⟩) /\ (w'.alloc o).cell? ⟨n1 + 1, 2, none⟩ = some (.string ⟨⟨b3⟩⟩) /\ (w'.alloc o).cell? ⟨n1 + 1, 3, none⟩ = some (.string ⟨⟨b4⟩⟩)) := fun w' o hg =>
   ⟨Jcd _ _ _ _ (hg.keep x1), Jcd _ _ _ _ (hg.keep x2), Jcd _ _ _ _ (hg.keep x3), Jcd _ _ _ _ (hg.keep x4), Jcd _ _ _ _ (hg.keep y1), Jcd _ _ _ _ (hg.keep y2), Jcd _ _ _ _ (hg.keep y3), Jcd _ _ _ _ (hg.keep y4)⟩
 clear hc
 go_region_held3 (fun w' => w'.cell? ⟨n1, 0, none⟩ = some (.string ⟨⟨a1⟩⟩) /\ w'.cell? ⟨n1, 1, none⟩ = some (.string ⟨⟨a2⟩⟩) /\ w'.cell? ⟨n1, 2, none⟩ = some (.string ⟨⟨a3⟩⟩) /\ w'.cell? ⟨n1, 3, none⟩ = some (.string ⟨⟨a4⟩⟩) /\ w'.cell? ⟨n1 + 1, 0, none⟩ = some (.string ⟨⟨b1⟩⟩) /\ w'.cell? ⟨n1 + 1, 1, none⟩ = some (.string ⟨⟨b2⟩⟩) /\ w'.cell? ⟨n1 + 1, 2, none⟩ = some (.string ⟨⟨b3⟩⟩) /\ w'.cell? ⟨n1 + 1, 3, none⟩ = some (.string ⟨⟨b4⟩⟩))
   (first | exact hk _ (by assumption) | exact hka _ _ (by assumption))
   (first | (go_at_call 155; refine (hcc _ _ _ _ _ (by assumption)).mono ?_; rintro e w' ⟨rfl, hg⟩) | (go_at_call 154; refine (hor _ _ _ _).mono ?_; rintro e w' ⟨rfl, rfl⟩))
 go_wp2
 go_ret
 exact ⟨by simp [Jei], GW.alloc hW (by assumption)⟩
instance : Inhabited End := ⟨⟨[], []⟩⟩
end Go.Am
namespace Go.Am
open Go Go.Proofs Go.Pn
theorem Jz3 (blk off size : Nat) (w : World) : CmpLays Tryz.prog 153 #[] (fun x : EndP => [Value.string ⟨⟨x.1.part⟩⟩, .string ⟨⟨x.1.port⟩⟩, .string ⟨⟨x.2.part⟩⟩, .string ⟨⟨x.2.port⟩⟩]) 4 Jei blk off size w :=
 fun _ _ _ _ x y => J2e x y _
theorem J5o {α : Type} [Inhabited α] {enc : α -> Value} {w : World} {g off : Nat} {d : Array α} {arr : Array Value} {T : TypeId} (h0 : w.heap[g]? = some (Obj.cells arr T (0, 0))) :
   Sort.putRow enc w g off d = Jbh w g (Sort.putCells enc off d arr) T := by
 unfold Sort.putRow Sort.mapBlock Jbh
 congr 1
 apply Array.ext_getElem?
 intro k
 have hg := (Array.getElem?_eq_some_iff.1 h0).1
 rw [Array.getElem?_modify, Array.getElem?_setIfInBounds]
 by_cases e : g = k
 . subst e
   rw [if_pos rfl, if_pos rfl, if_pos hg, h0]
   rfl
 . rw [if_neg e, if_neg e]
theorem Juh {α : Type} [Inhabited α] {enc : α -> Value} {G : Jae} {F : Nat -> Prop} {φ : Places} {s1 : Store} {w : World} {b nx g off n k : Nat} {R0 R : List (List AV)} {d : Array α} {arr : Array Value} {T : TypeId} {os : Array Obj} (hs : SR G F φ s1 w) (hb : get s1 b = some (.cells k R0))
   (hφ : φ b = some (g, off)) (h0 : w.heap[g]? = some (Obj.cells arr T (0, 0))) (hsz : off + d.size <= arr.size)
   (hv : ∀ (i j : Nat) row x, R[i]? = some row -> row[j]? = some x -> j < k /\ i * k + j < d.size /\ ∀ (own : Nat -> Prop) (w : World), VR φ own w x (enc d[i * k + j]!)) :
   Post G F φ s1 w (.tup []) [(b, some (.cells k R))] nx nx (.tuple #[]) (Sort.grow (Sort.putRow enc (Sort.ahead w n) g off d) os) := by
 have h0' : (Sort.ahead w n).heap[g]? = some (Obj.cells arr T (0, 0)) := h0
 rw [J5o h0']
 have ht := (hs.ahead n).turn (x := .cells k R) (arr := Sort.putCells enc off d arr) hb hφ h0' (by simp [Sort.putCells]) (fun _ => by
   refine ⟨g, off, _, T, hφ, Jgt (Array.getElem?_eq_some_iff.1 h0').1, fun i j row x hr hx => ?_⟩
   obtain ⟨h1, h2, h3⟩ := hv i j row x hr hx
   refine ⟨h1, enc d[i * k + j]!, ?_, h3 _ _⟩
   have hlt : off + (i * k + j) < arr.size := by omega
   have e : off + i * k + j = off + (i * k + j) := by omega
   rw [e]
   simp only [Sort.putCells]
   rw [Array.getElem?_mapIdx, Array.getElem?_eq_getElem hlt, Option.map_some, if_pos ⟨by omega, by omega⟩, Nat.add_sub_cancel_left])
 obtain ⟨h1, h2⟩ := ht
 refine ⟨φ, fun _ _ h => h, fun _ _ => rfl, h1.grow os, ?_, fun F' => (Jvp n).trans ((h2 F').trans (Jvt os))⟩
 exact .tup [] [] rfl (by simp)
theorem J2s {l : List Txt} : (l.mergeSort fun x y => decide (x <= y)) = Jav Op.bytesLess l := by
 rw [<- Jr9 Jhw]
 congr 1
 funext x y
 rw [Go.Proofs.bytesLess_eq]
 by_cases h : x <= y
 . have : ¬ y < x := List.not_lt.2 h
   simp [h, this]
 . have : y < x := List.not_le.1 h
   simp [h, this]
set_option maxRecDepth 100000 in
theorem J1i (l : List Txt) (s : Store) (nx b : Nat) (c : Option Nat) (hg : get s b = some (.cells 1 (l.map Txt.row))) (hl : l.length < 4611686018427387904) :
   Gives Tryz.prog GL 151 [.ref b 1 0 l.length c] s nx (.tup []) [b] [(b, some (.cells 1 ((Jav Op.bytesLess l).map Txt.row)))] nx := by
 refine ⟨Nat.le_refl _, fun F φ s1 w vs hag hs hfr hlen hv => ?_⟩
 match vs, hlen with
 | [u], _ =>
   have hr := hv 0 _ u rfl rfl
   cases hr with
   | ref _ _ _ _ _ β δ cap hφ hc hn room =>
     obtain ⟨arr, T, h0, hsz⟩ := room
     have hg1 : get s1 b = some (.cells 1 (l.map Txt.row)) := (hag b (by simp)).trans hg
     obtain ⟨β', δ', arr', T', k1, k2, k3⟩ := hs.blk b _ hg1
     rw [hφ] at k1
     cases k1
     rw [h0] at k2
     cases k2
     have hβ : β < w.heap.size := (Array.getElem?_eq_some_iff.1 h0).1
     have hH : Sort.Holds Go.Proofs.encStr w β (δ + 0 * 1) l.toArray := fun j hj => by
       have hj2 : j < l.length := by simpa using hj
       obtain ⟨_, v, h1, h2⟩ := k3 j 0 (Txt.row l[j]) (.p (.str l[j])) (by simp [hj2]) rfl
       have e : v = .string ⟨⟨l[j]⟩⟩ := h2.str_inv
       subst e
       simp only [Nat.mul_one, Nat.add_zero] at h1
       refine ⟨?_, ?_⟩
       . simp [World.cell?, h0, h1, hj2, Go.Proofs.encStr]
       . simp [World.frozen?, h0]
     have hcall := AnyM.slices_Sort_string srt5 β (δ + 0 * 1) cap l w hH hβ hl
     have eC : ∀ args w, (callFunc 151 args).run Tryz.prog w = .ok (.enter 151 args) w := enters_of Tryz.func151 (by kernel_rfl) rfl
     have eC2 := eC ⟨[.slice (some ⟨β, δ + 0 * 1, none⟩) l.length cap]⟩ w
     rw [eC2]
     refine Calls.mono hcall ?_
     rintro e w' ⟨rfl, n, os, rfl⟩
     refine ⟨_, rfl, ?_⟩
     simp only [Nat.zero_mul, Nat.add_zero, Nat.zero_add, Nat.mul_one] at hsz ⊢
     rw [J2s]
     refine Juh hs hg1 hφ h0 (by simp [Jez]; omega) fun i j row x hr hx => ?_
     obtain ⟨h1, h2⟩ := gsI.1 hr
     rw [List.length_map] at h1
     have e : row = Txt.row (Jav Op.bytesLess l)[i] := by rw [<- h2]; simp
     subst e
     match j with
     | 0 =>
       simp at hx; subst hx
       refine ⟨by omega, by simpa using h1, fun own w => ?_⟩
       have e2 : Go.Proofs.encStr (Jav Op.bytesLess l).toArray[i * 1 + 0]! = .string ⟨⟨(Jav Op.bytesLess l)[i]⟩⟩ := by simp [Go.Proofs.encStr, h1]
       rw [e2]
       exact .p _ _ (.str _)
     | j + 1 => simp at hx
set_option maxRecDepth 100000 in
theorem J1j (s : Store) (nx : Nat) : Gives Tryz.prog GL 151 [.nils] s nx (.tup []) [] [] nx := by
 refine ⟨Nat.le_refl _, fun F φ s1 w vs hag hs hfr hlen hv => ?_⟩
 match vs, hlen with
 | [u], _ =>
   have hr := hv 0 _ u rfl rfl
   cases hr with
   | nils a =>
     have eC : ∀ args w, (callFunc 151 args).run Tryz.prog w = .ok (.enter 151 args) w := enters_of Tryz.func151 (by kernel_rfl) rfl
     have eC2 := eC ⟨[.slice a 0 0]⟩ w
     rw [eC2]
     refine Calls.mono (AnyM.slices_Sort_string_none srt5 a 0 w) ?_
     rintro e w' ⟨rfl, rfl⟩
     exact ⟨_, rfl, Jlj hs (.tup [] [] rfl (by simp))⟩
theorem J1k (l : List Txt) (s : Store) (nx b : Nat) (hg : get s b = accB 1 (l.map Txt.row)) (hl : l.length < 1000000) (hb : b < nx) :
   Gives Tryz.prog GL 151 [.acc b 1 l.length] s nx (.tup []) [b] [(b, accB 1 ((Jav Op.bytesLess l).map Txt.row))] nx := by
 by_cases h : l = []
 . subst h
   refine Gives.more (rd := []) (up := []) (Gives.of_acc (rest := []) (fun _ => J1j _ _) (fun h => absurd h (by simp))) (by simp) fun s1 hag b' => ?_
   by_cases e : b' = b
   . subst e
     have := hag b' (by simp)
     simp [Jav] at hg ⊢
     rw [this, hg]
   . simp [Ja1 (Ne.symm e)]
 . have hac : accB 1 (l.map Txt.row) = some (.cells 1 (l.map Txt.row)) := by simp [accB, h]
   have h2 : Jav Op.bytesLess l ≠ [] := fun e => h (by have := @Jez _ Op.bytesLess l; rw [e] at this; simpa using this.symm)
   have hac2 : accB 1 ((Jav Op.bytesLess l).map Txt.row) = some (.cells 1 ((Jav Op.bytesLess l).map Txt.row)) := by simp [accB, h2]
   rw [hac2]
   exact Gives.of_acc (rest := []) (fun e => absurd (List.length_eq_zero_iff.1 e) h) (fun _ => J1i l _ _ b none (by rw [hg, hac]) (by omega))
theorem Jo3 : Sort.SWO (ltOf Jei) /\ (∀ x y, (ltOf Jei) x y = false -> (ltOf Jei) y x = false -> x = y) /\ ltOf Jei = Jba := by
 have e : ltOf Jei = Jba := by
   funext x y
   unfold ltOf
   rw [Bool.eq_iff_iff, decide_eq_true_eq]
   exact Jz2
 rw [e]
 refine ⟨⟨Jf8.irrefl, fun x y z h k => Jf8.trans h k, fun x y z h k => ?_⟩, fun x y h k => Jf8.total h k, rfl⟩
 cases e2 : Jba x z with
 | false => rfl
 | true =>
   cases e3 : Jba y x with
   | true => rw [Jf8.trans e3 e2] at k; cases k
   | false =>
     have := Jf8.total h e3
     subst this
     rw [k] at e2; cases e2
def encX (x : EndP) : List Value := [Value.string ⟨⟨x.1.part⟩⟩, .string ⟨⟨x.1.port⟩⟩, .string ⟨⟨x.2.part⟩⟩, .string ⟨⟨x.2.port⟩⟩]
theorem J0k {x : EndP} {j : Nat} {a : AV} (h : (EndP.row x)[j]? = some a) : j < 4 /\ ∃ t, a = .p (.str t) /\ (encX x)[j]! = .string ⟨⟨t⟩⟩ := by
 match j with
 | 0 => simp at h; subst h; exact ⟨by omega, _, rfl, rfl⟩
 | 1 => simp at h; subst h; exact ⟨by omega, _, rfl, rfl⟩
 | 2 => simp at h; subst h; exact ⟨by omega, _, rfl, rfl⟩
 | 3 => simp at h; subst h; exact ⟨by omega, _, rfl, rfl⟩
 | j + 4 => simp at h
theorem J0l {x : EndP} {j : Nat} (h : j < 4) : ∃ t, (EndP.row x)[j]? = some (.p (.str t)) /\ (encX x)[j]! = .string ⟨⟨t⟩⟩ := by
 match j, h with
 | 0, _ => exact ⟨_, rfl, rfl⟩
 | 1, _ => exact ⟨_, rfl, rfl⟩
 | 2, _ => exact ⟨_, rfl, rfl⟩
 | 3, _ => exact ⟨_, rfl, rfl⟩
set_option maxRecDepth 100000 in
theorem J1l (l : List EndP) (s : Store) (nx b : Nat) (c : Option Nat) (hg : get s b = some (.cells 4 (l.map EndP.row))) (hl : l.length < 1000000) :
   Gives Tryz.prog GL 152 [.ref b 4 0 l.length c, .fn (.func 153) []] s nx (.tup []) [b] [(b, some (.cells 4 ((Jav Jba l).map EndP.row)))] nx := by
 refine ⟨Nat.le_refl _, fun F φ s1 w vs hag hs hfr hlen hv => ?_⟩
 match vs, hlen with
 | [u, v], _ =>
   have hr := hv 0 _ u rfl rfl
   obtain ⟨vs2, rfl, hv2⟩ := (hv 1 _ v rfl rfl).fn_inv
   have hv3 : vs2 = [] := List.length_eq_zero_iff.1 (by have := hv2.1; simpa using this)
   subst hv3
   cases hr with
   | ref _ _ _ _ _ β δ cap hφ hc hn room =>
     obtain ⟨arr, T, h0, hsz⟩ := room
     have hg1 : get s1 b = some (.cells 4 (l.map EndP.row)) := (hag b (by simp)).trans hg
     obtain ⟨β', δ', arr', T', k1, k2, k3⟩ := hs.blk b _ hg1
     rw [hφ] at k1
     cases k1
     rw [h0] at k2
     cases k2
     have hβ : β < w.heap.size := (Array.getElem?_eq_some_iff.1 h0).1
     have hH : Sort.HoldsK encX 4 w β (δ + 0 * 4) l.toArray := fun t ht => by
       have ht2 : t < l.length * 4 := by simpa using ht
       have hd : t / 4 < l.length := by omega
       obtain ⟨tx, hrow, he⟩ := J0l (x := l[t / 4]) (j := t % 4) (by omega)
       obtain ⟨_, v, h1, h2⟩ := k3 (t / 4) (t % 4) (EndP.row l[t / 4]) _ (by simp [hd]) hrow
       have e : v = .string ⟨⟨tx⟩⟩ := h2.str_inv
       subst e
       have e2 : δ + t / 4 * 4 + t % 4 = δ + t := by omega
       rw [e2] at h1
       rw [Sort.get_flatK encX 4 l.toArray t (by simpa using ht)]
       have e3 : l.toArray[t / 4]! = l[t / 4] := by simp [hd]
       rw [e3, he]
       simp only [Nat.zero_mul, Nat.add_zero]
       refine ⟨?_, ?_⟩
       . simp [World.cell?, h0, h1]
       . simp [World.frozen?, h0]
     have eg : ∀ args w, (callFunc 153 args).run Tryz.prog w = .ok (.enter 153 args) w := enters_of Tryz.func153 (by kernel_rfl) rfl
     have hcall := AnyQ.slices_SortFunc_total sfc5 4 (fun w => by kernel_rfl) (fun w => by kernel_rfl) encX (fun _ => rfl) (fun x v hv => by simp [encX] at hv; rcases hv with rfl | rfl | rfl | rfl <;> rfl) Jei Jo3.1 153 #[] β (δ + 0 * 4) cap l.toArray w eg (Jz3 β (δ + 0 * 4) l.toArray.size w) hH hβ (by simp; omega) Jo3.2.1
     have eC : ∀ args w, (callFunc 152 args).run Tryz.prog w = .ok (.enter 152 args) w := enters_of Tryz.func152 (by kernel_rfl) rfl
     have eC2 := eC ⟨[.slice (some ⟨β, δ + 0 * 4, none⟩) l.length cap, .func (.func 153) #[] ⟨[]⟩]⟩ w
     rw [eC2]
     refine Calls.mono hcall ?_
     rintro e w' ⟨rfl, n, os, rfl⟩
     refine ⟨_, rfl, ?_⟩
     simp only [Nat.zero_mul, Nat.add_zero, Nat.zero_add] at hsz ⊢
     rw [Jo3.2.2]
     have em : (l.toArray.toList.mergeSort fun x y => !Jba y x) = Jav Jba l := Jr9 Jf8
     rw [em]
     unfold Go.Proofs.sortWorldK Sort.putRowK
     refine Juh hs hg1 hφ h0 (by simp [Jez]; omega) fun i j row x hr hx => ?_
     obtain ⟨h1, h2⟩ := gsI.1 hr
     rw [List.length_map] at h1
     have e : row = EndP.row (Jav Jba l)[i] := by rw [<- h2]; simp
     subst e
     obtain ⟨hj, tx, rfl, he⟩ := J0k hx
     have hlt : i * 4 + j < (Jav Jba l).toArray.size * 4 := by simp; omega
     refine ⟨hj, by simpa using hlt, fun own w => ?_⟩
     rw [Sort.get_flatK _ _ _ _ hlt, show (i * 4 + j) / 4 = i by omega, show (i * 4 + j) % 4 = j by omega]
     have e3 : (Jav Jba l).toArray[i]! = (Jav Jba l)[i] := by simp [h1]
     rw [e3]
     show VR φ own w _ ((encX _)[j]!)
     rw [he]
     exact .p _ _ (.str _)
set_option maxRecDepth 100000 in
theorem J1m (s : Store) (nx : Nat) : Gives Tryz.prog GL 152 [.nils, .fn (.func 153) []] s nx (.tup []) [] [] nx := by
 refine ⟨Nat.le_refl _, fun F φ s1 w vs hag hs hfr hlen hv => ?_⟩
 match vs, hlen with
 | [u, v], _ =>
   have hr := hv 0 _ u rfl rfl
   cases hr with
   | nils a =>
     have eC : ∀ args w, (callFunc 152 args).run Tryz.prog w = .ok (.enter 152 args) w := enters_of Tryz.func152 (by kernel_rfl) rfl
     have eC2 := eC ⟨[.slice a 0 0, v]⟩ w
     rw [eC2]
     refine Calls.mono (AnyF.slices_SortFunc_none sfc5 a 0 v w) ?_
     rintro e w' ⟨rfl, rfl⟩
     exact ⟨_, rfl, Jlj hs (.tup [] [] rfl (by simp))⟩
theorem J1n (l : List EndP) (s : Store) (nx b : Nat) (hg : get s b = accB 4 (l.map EndP.row)) (hl : l.length < 1000000) (hb : b < nx) :
   Gives Tryz.prog GL 152 [.acc b 4 l.length, .fn (.func 153) []] s nx (.tup []) [b] [(b, accB 4 ((Jav Jba l).map EndP.row))] nx := by
 by_cases h : l = []
 . subst h
   refine Gives.more (rd := []) (up := []) (Gives.of_acc (fun _ => J1m _ _) (fun h => absurd h (by simp))) (by simp) fun s1 hag b' => ?_
   by_cases e : b' = b
   . subst e
     have := hag b' (by simp)
     simp [Jav] at hg ⊢
     rw [this, hg]
   . simp [Ja1 (Ne.symm e)]
 . have hac : accB 4 (l.map EndP.row) = some (.cells 4 (l.map EndP.row)) := by simp [accB, h]
   have h2 : Jav Jba l ≠ [] := fun e => h (by have := @Jez _ Jba l; rw [e] at this; simpa using this.symm)
   have hac2 : accB 4 ((Jav Jba l).map EndP.row) = some (.cells 4 ((Jav Jba l).map EndP.row)) := by simp [accB, h2]
   rw [hac2]
   exact Gives.of_acc (fun e => absurd (List.length_eq_zero_iff.1 e) h) (fun _ => J1l l _ _ b none (by rw [hg, hac]) (by omega))
end Go.Am
