/- Lemmas and contracts for the proof of a statement of this seat. -/
import Derived.Test.YthojegdboknbbaaGreatDoorZY2
import Derived.Lib.OthersKept
import Derived.Below
import Derived.Shelf.Strings.BuilderK
set_option linter.unusedVariables false
set_option linter.unusedSimpArgs false
namespace Go.Am
open Go Go.Proofs Go.Shelf Go.RowKit Go.Pn
theorem Pure.kitR {P : Program} {G : Jac} {f : Nat} {fn : Func} {c : Code} {args : List AV} {r : AV} (h : Pure P G f args r) (hf : P.funcs[f]? = some fn) (hname : (fn.name == "runtime.NumGoroutine") = false) (hb : fn.body = some c)
   {own : Nat -> Prop} {w : World} {vs : List Value} (hg : Jcu G own w) (hs : ∀ β, own β -> β < w.heap.size) (hl : vs.length = args.length) (hv : ∀ (i : Nat) x v, args[i]? = some x -> vs[i]? = some v -> VR (fun _ => none) own w x v) :
   Calls P f ⟨vs⟩ w fun e w' => ∃ u, e = .returned u /\ VR (fun _ => none) own w' r u /\ Below w.heap.size w w' := by
 have h1 := h.run own w vs hg hs hl hv
 rw [enters_of hf hname hb ⟨vs⟩ w] at h1
 refine Calls.mono h1 ?_
 rintro e w' ⟨u, rfl, h2, h3, h4⟩
 exact ⟨u, rfl, h2, h4.os, h4.tape, h4.output, h4.size, h3⟩
theorem Jyq {own : Nat -> Prop} {w : World} (hg : Jcu GL own w) (hs : ∀ β, own β -> β < w.heap.size) (n : Nat) : Calls Tryz.prog 118 #[.int .i32 n] w fun e w' => e = .returned (.bool (badN n)) /\ Below w.heap.size w w' := by
 refine Calls.mono ((Jut n).kitR Tryz.func118 rfl rfl (vs := [.int .i32 n]) hg hs rfl fun i x v hx hv => ?_) ?_
 . match i with
   | 0 => cases hx; cases hv; exact .p _ _ (.int ..)
   | i + 1 => cases hx
 . rintro e w' ⟨u, rfl, h1, h2⟩
   rw [h1.bool_inv]; exact ⟨rfl, h2⟩
theorem Jfp {own : Nat -> Prop} {w w' : World} (hg : Jcu GL own w) (hb : Below w.heap.size w w') : Jcu GL own w' := fun g k rows hm => by
 obtain ⟨h1, h2, h3⟩ := hg g k rows hm
 exact ⟨Nat.lt_of_lt_of_le h1 hb.size, h2, h3.mono (Jsk (own := own) hb) h1 h2⟩
set_option maxRecDepth 100000 in
theorem Jyr {own : Nat -> Prop} (s : ByteArray) (w : World) (hg : Jcu GL own w) (hs : ∀ β, own β -> β < w.heap.size) (ha : ∀ (i : Nat) (h : i < s.size), (s[i]'h).toNat < 128 /\ badN (s[i]'h).toNat = false) :
   Calls Tryz.prog 151 #[.string s, .func (.func 118) #[] #[], .bool true] w fun e w' => e = .returned (.int .i64 (-1)) /\ Below w.heap.size w w' := by
 have eg : ∀ args w, (callFunc 118 args).run Tryz.prog w = .ok (.enter 118 args) w := enters_of Tryz.func118 (by kernel_rfl) rfl
 go_enter Tryz.func151, Tryz.ntmps151
 go_wp2
 go_loopg [] s.size (fun gf wx => ∃ pos : Nat, wx.heap[w.heap.size]? = some (.stringIter s pos) /\ Below w.heap.size w wx /\ s.size <= pos + gf)
 case atStart => exact ⟨0, World.iter_heap w s 0, (Below.refl _ w).alloc (Nat.le_refl _) _, by omega⟩
 case round =>
   obtain ⟨pos, hit, hbw, hfu⟩ := hrel
   by_cases hps : pos < s.size
   . obtain ⟨g', rfl⟩ : ∃ g', gk = g' + 1 := ⟨gk - 1, by omega⟩
     obtain ⟨ha1, ha2⟩ := ha pos hps
     have hnx : ∀ ty, (Instr.next (.pointer (some ⟨w.heap.size, 0, none⟩)) true ty).run Tryz.prog wr = _ := fun ty => Lib.run_next_ascii_at wr w.heap.size s pos ty hit hps ha1
     obtain ⟨R, hR⟩ : ∃ R, (s[pos]'hps).toNat = R := ⟨_, rfl⟩
     rw [hR] at hnx ha2
     have hit2 := Lib.iterAt_heap wr w.heap.size s pos (pos + 1) hit
     have hbw2 := Lib.below_iterAt hbw (k := w.heap.size) (Nat.le_refl _) s (pos + 1)
     obtain ⟨W, hWd⟩ : ∃ W, wr.iterAt w.heap.size s (pos + 1) = W := ⟨_, rfl⟩
     rw [hWd] at hnx hit2 hbw2
     have hltW : w.heap.size < W.heap.size := (Array.getElem?_eq_some_iff.1 hit2).1
     have cS := Jyq (w := W) (Jfp hg hbw2) (fun β hβ => Nat.lt_of_lt_of_le (hs β hβ) hbw2.size) R
     rw [ha2] at cS
     go_wp2_with (go_at_fn 118; refine cS.mono ?_; rintro e W' ⟨rfl, hbc⟩)
     go_roundg g'
     case measure => omega
     case rel => exact ⟨pos + 1, (hbc.block _ hltW).trans hit2, (hbw2.trans (hbc.mono hbw2.size)), by omega⟩
   . have hnx : ∀ ty, (Instr.next (.pointer (some ⟨w.heap.size, 0, none⟩)) true ty).run Tryz.prog wr = _ := fun ty => Lib.run_next_end_at wr w.heap.size s pos ty hit hps
     go_wp2
     go_ret
     exact ⟨rfl, hbw⟩
theorem Ju1 (s : Txt) (h : s.all Jcn = true) : Pure Tryz.prog GL 151 [.p (.str s), .fn (.func 118) [], .p (.bool true)] (.p (.int .i64 (-1))) := by
 refine Pure.of_below Tryz.func151 (by kernel_rfl) rfl rfl fun own w vs hg hs hlen hv => ?_
 match vs, hlen with
 | [a, f, b], _ =>
   have ea : a = .string ⟨⟨s⟩⟩ := (hv 0 _ a rfl rfl).str_inv
   subst ea
   obtain ⟨us, rfl, hu⟩ := (hv 1 _ f rfl rfl).fn_inv
   have h0 : us = [] := by
     have := hu.1
     simpa using this
   subst h0
   have eb : b = .bool true := (hv 2 _ b rfl rfl).bool_inv
   subst eb
   refine Calls.mono (Jyr ⟨⟨s⟩⟩ w hg hs fun i hi => ?_) ?_
   . have hb := List.all_eq_true.1 h (s[i]'(by simpa [ByteArray.size] using hi)) (List.getElem_mem _)
     obtain ⟨h1, h2⟩ := Jt8 hb
     exact ⟨h2, h1⟩
   . rintro e w' ⟨rfl, h1⟩
     exact ⟨_, rfl, .p _ _ (.int ..), h1⟩
theorem Jv3 (s : Txt) (h : s.all Jcn = true) : Pure Tryz.prog GL 137 [.p (.str s), .fn (.func 118) []] (.p (.int .i64 (-1))) := by
 refine Pure.of_walk (N := 8) Tryz.func137 rfl rfl rfl (by simp) (by first | (simp; done) | simp [*]) ?_
 simp
 refine Jab (Ju1 s h) ?_
 simp [Jaa]
theorem Jv2 (s : Txt) (h : s.all Jcn = true) : Pure Tryz.prog GL 117 [.p (.str s), .fn (.func 118) []] (.p (.bool false)) := by
 refine Pure.of_walk (N := 9) Tryz.func117 rfl rfl rfl (by simp) (by first | (simp; done) | simp [*]) ?_
 simp
 refine Jab (Jv3 s h) ?_
 simp [Jaa]
end Go.Am
namespace Go.Am
open Go Go.Proofs Go.Pn
def digT (n : Nat) : Txt := [UInt8.ofNat (48 + n)]
theorem Ju5 (n : Nat) (h : n < 10) : Pure Tryz.prog GL 146 [.p (.int .i64 n)] (.p (.str (digT n))) := by
 refine Pure.of_walk (N := 15) Tryz.func146 rfl rfl rfl (by simp) (by first | (simp; done) | simp [*]) ?_
 rcases (by omega : n = 0 \/ n = 1 \/ n = 2 \/ n = 3 \/ n = 4 \/ n = 5 \/ n = 6 \/ n = 7 \/ n = 8 \/ n = 9) with rfl | rfl | rfl | rfl | rfl | rfl | rfl | rfl | rfl | rfl <;> (simp [Jaa, digT]; try decide)
theorem Ju3 (n : Nat) (h : n < 10) : Pure Tryz.prog GL 129 [.p (.int .i64 n), .p (.int .i64 10)] (.p (.str (digT n))) := by
 refine Pure.of_walk (N := 54) Tryz.func129 rfl rfl rfl (by simp) (by first | (simp; done) | simp [*]) ?_
 have hS := Ju5 n h
 have h1 : (0 : Int) <= n := by omega
 have h2 : (n : Int) < 100 := by omega
 simp [h1, h2]
 refine Jab hS ?_
 simp [Jaa]
theorem Ju4 (n : Nat) (h : n < 10) : Pure Tryz.prog GL 101 [.p (.int .i64 n)] (.p (.str (digT n))) := by
 refine Pure.of_walk (N := 5) Tryz.func101 rfl rfl rfl (by simp) (by first | (simp; done) | simp [*]) ?_
 have hS := Ju3 n h
 simp
 refine Jab hS ?_
 simp [Jaa]
theorem Jv1 (n : Nat) (h : n < 10) : Pure Tryz.prog GL 71 [.p (.int .i64 n)] (.p (.str (digT n))) := by
 refine Pure.of_walk (N := 5) Tryz.func71 rfl rfl rfl (by simp) (by first | (simp; done) | simp [*]) ?_
 have hS := Ju4 n h
 simp
 refine Jab hS ?_
 simp [Jaa]
def boolT (b : Bool) : Txt := if b then [116, 114, 117, 101] else [102, 97, 108, 115, 101]
theorem Ju2 (b : Bool) : Pure Tryz.prog GL 102 [.p (.bool b)] (.p (.str (boolT b))) := by
 refine Pure.of_walk (N := 4) Tryz.func102 rfl rfl rfl (by simp) (by first | (simp; done) | simp [*]) ?_
 cases b <;> simp [Jaa, boolT]
theorem Jv0 (b : Bool) : Pure Tryz.prog GL 73 [.p (.bool b)] (.p (.str (boolT b))) := by
 refine Pure.of_walk (N := 5) Tryz.func73 rfl rfl rfl (by simp) (by first | (simp; done) | simp [*]) ?_
 have hS := Ju2 b
 simp
 refine Jab hS ?_
 simp [Jaa]
end Go.Am
namespace Go.Am
open Go Go.Proofs Go.Shelf
def Jhw : Ren := ⟨fun k => match k with | 166 => 70 | 167 => 72 | 169 => 74 | 240 => 100 | 276 => 128 | k => k, fun k => match k with | 0 => 0 | 3 => 3 | 4 => 4 | 5 => 5 | 9 => 9 | 20 => 20 | 37 => 121 | 70 => 120 | 72 => 123 | 75 => 125 | 80 => 132 | 127 => 159 | 164 => 192 | k => k, fun k => k⟩
set_option maxRecDepth 100000 in
theorem bws7 : Lays.n166 Tryz.prog Jhw where
 mixed := by kernel_rfl
 f166 := (Tryz.func70).trans (by kernel_rfl)
 f240 := (Tryz.func100).trans (by kernel_rfl)
 f276 := (Tryz.func128).trans (by kernel_rfl)
 t0 := by kernel_rfl
 a0 := fun w => by kernel_rfl
 z0 := fun w => by kernel_rfl
 v0 := fun w => by kernel_rfl
 t3 := by kernel_rfl
 a3 := fun w => by kernel_rfl
 z3 := fun w => by kernel_rfl
 v3 := fun w => by kernel_rfl
 t4 := by kernel_rfl
 a4 := fun w => by kernel_rfl
 z4 := fun w => by kernel_rfl
 v4 := fun w => by kernel_rfl
 t9 := by kernel_rfl
 a9 := fun w => by kernel_rfl
 z9 := fun w => by kernel_rfl
 v9 := fun w => by kernel_rfl
 t20 := by kernel_rfl
 a20 := fun w => by kernel_rfl
 z20 := fun w => by kernel_rfl
 v20 := fun w => by kernel_rfl
 t37 := by kernel_rfl
 a37 := fun w => by kernel_rfl
 z37 := fun w => by kernel_rfl
 v37 := fun w => by kernel_rfl
 t70 := by kernel_rfl
 a70 := fun w => by kernel_rfl
 z70 := fun w => by kernel_rfl
 v70 := fun w => by kernel_rfl
 t72 := by kernel_rfl
 a72 := fun w => by kernel_rfl
 z72 := fun w => by kernel_rfl
 v72 := fun w => by kernel_rfl
 t75 := by kernel_rfl
 a75 := fun w => by kernel_rfl
 z75 := fun w => by kernel_rfl
 v75 := fun w => by kernel_rfl
 t164 := by kernel_rfl
 a164 := fun w => by kernel_rfl
 z164 := fun w => by kernel_rfl
 v164 := fun w => by kernel_rfl
set_option maxRecDepth 100000 in
theorem bwb7 : Lays.n167 Tryz.prog Jhw where
 mixed := by kernel_rfl
 f167 := (Tryz.func72).trans (by kernel_rfl)
 f240 := (Tryz.func100).trans (by kernel_rfl)
 f276 := (Tryz.func128).trans (by kernel_rfl)
 t0 := by kernel_rfl
 a0 := fun w => by kernel_rfl
 z0 := fun w => by kernel_rfl
 v0 := fun w => by kernel_rfl
 t4 := by kernel_rfl
 a4 := fun w => by kernel_rfl
 z4 := fun w => by kernel_rfl
 v4 := fun w => by kernel_rfl
 t5 := by kernel_rfl
 a5 := fun w => by kernel_rfl
 z5 := fun w => by kernel_rfl
 v5 := fun w => by kernel_rfl
 t9 := by kernel_rfl
 a9 := fun w => by kernel_rfl
 z9 := fun w => by kernel_rfl
 v9 := fun w => by kernel_rfl
 t20 := by kernel_rfl
 a20 := fun w => by kernel_rfl
 z20 := fun w => by kernel_rfl
 v20 := fun w => by kernel_rfl
 t37 := by kernel_rfl
 a37 := fun w => by kernel_rfl
 z37 := fun w => by kernel_rfl
 v37 := fun w => by kernel_rfl
 t70 := by kernel_rfl
 a70 := fun w => by kernel_rfl
 z70 := fun w => by kernel_rfl
 v70 := fun w => by kernel_rfl
 t72 := by kernel_rfl
 a72 := fun w => by kernel_rfl
 z72 := fun w => by kernel_rfl
 v72 := fun w => by kernel_rfl
 t75 := by kernel_rfl
 a75 := fun w => by kernel_rfl
 z75 := fun w => by kernel_rfl
 v75 := fun w => by kernel_rfl
 t164 := by kernel_rfl
 a164 := fun w => by kernel_rfl
 z164 := fun w => by kernel_rfl
 v164 := fun w => by kernel_rfl
set_option maxRecDepth 100000 in
theorem bst7 : Lays.n169 Tryz.prog Jhw where
 mixed := by kernel_rfl
 f169 := (Tryz.func74).trans (by kernel_rfl)
 t0 := by kernel_rfl
 a0 := fun w => by kernel_rfl
 z0 := fun w => by kernel_rfl
 v0 := fun w => by kernel_rfl
 t3 := by kernel_rfl
 a3 := fun w => by kernel_rfl
 z3 := fun w => by kernel_rfl
 v3 := fun w => by kernel_rfl
 t9 := by kernel_rfl
 a9 := fun w => by kernel_rfl
 z9 := fun w => by kernel_rfl
 v9 := fun w => by kernel_rfl
 t37 := by kernel_rfl
 a37 := fun w => by kernel_rfl
 z37 := fun w => by kernel_rfl
 v37 := fun w => by kernel_rfl
 t70 := by kernel_rfl
 a70 := fun w => by kernel_rfl
 z70 := fun w => by kernel_rfl
 v70 := fun w => by kernel_rfl
 t72 := by kernel_rfl
 a72 := fun w => by kernel_rfl
 z72 := fun w => by kernel_rfl
 v72 := fun w => by kernel_rfl
 t127 := by kernel_rfl
 a127 := fun w => by kernel_rfl
 z127 := fun w => by kernel_rfl
 v127 := fun w => by kernel_rfl
theorem Jc5 : Builder.Extra Tryz.prog Jhw where
 sizeBuilder := by kernel_rfl
 liesBuilder := by kernel_rfl
 t5 := by kernel_rfl
 a5 := fun w => by kernel_rfl
 z5 := fun w => by kernel_rfl
 v5 := fun w => by kernel_rfl
 infoByte := by kernel_rfl
 cellsByte := by kernel_rfl
 sizeByte := by kernel_rfl
 neB5 := by decide
end Go.Am
