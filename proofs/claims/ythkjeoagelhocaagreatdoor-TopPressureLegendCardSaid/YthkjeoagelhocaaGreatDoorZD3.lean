/- Lemmas and contracts for the proof of a statement of this seat. -/
import Derived.Test.YthkjeoagelhocaaGreatDoorZCX
import Derived.Test.YthkjeoagelhocaaGreatDoorZA7
import Derived.Shelf.Strings.Repeat
import Derived.Shelf.Strings.SlTrimAscii
import Derived.Test.YthkjeoagelhocaaGreatDoorZD2
import Derived.Test.YthkjeoagelhocaaGreatDoorZC7
import Derived.Test.YthkjeoagelhocaaGreatDoorZC5
set_option linter.unusedVariables false
set_option linter.unusedSimpArgs false
namespace Go.Am
open Go Go.Proofs Go.Shelf Go.RowKit
def J05 : Ren := ⟨fun k => match k with | 105 => 73 | 212 => 132 | 99 => 133 | 165 => 134 | 166 => 135 | 170 => 136 | 169 => 137 | 263 => 192 | 264 => 193 | 206 => 194 | 240 => 195 | 241 => 196 | 276 => 225 | 277 => 226 | k => k, fun k => match k with | 9 => 9 | 3 => 3 | 4 => 4 | 20 => 20 | 0 => 0 | 46 => 95 | 109 => 201 | 5 => 5 | 72 => 206 | 76 => 83 | 51 => 163 | 146 => 253 | 53 => 165 | 148 => 255 | 70 => 203 | 37 => 204 | 75 => 82 | 127 => 257 | 164 => 290 | 80 => 209 | k => k, fun k => k⟩
set_option maxRecDepth 100000 in
theorem Jlb : Lays.n105 Tryz.prog J05 where
 mixed := by kernel_rfl
 f99 := (Tryz.func133).trans (by kernel_rfl)
 f105 := (Tryz.func73).trans (by kernel_rfl)
 f165 := (Tryz.func134).trans (by kernel_rfl)
 f166 := (Tryz.func135).trans (by kernel_rfl)
 f169 := (Tryz.func137).trans (by kernel_rfl)
 f170 := (Tryz.func136).trans (by kernel_rfl)
 f206 := (Tryz.func194).trans (by kernel_rfl)
 f212 := (Tryz.func132).trans (by kernel_rfl)
 f240 := (Tryz.func195).trans (by kernel_rfl)
 f241 := (Tryz.func196).trans (by kernel_rfl)
 f263 := (Tryz.func192).trans (by kernel_rfl)
 f264 := (Tryz.func193).trans (by kernel_rfl)
 f276 := (Tryz.func225).trans (by kernel_rfl)
 f277 := (Tryz.func226).trans (by kernel_rfl)
 t0 := by kernel_rfl
 a0 := fun w => by kernel_rfl
 z0 := fun w => by kernel_rfl
 v0 := fun w => by kernel_rfl
 t3 := by kernel_rfl
 a3 := fun w => by kernel_rfl
 z3 := fun w => by kernel_rfl
 v3 := fun w => by kernel_rfl
 t4 := by kernel_rfl
 a4 := fun w => by kernel_rfl
 z4 := fun w => by kernel_rfl
 v4 := fun w => by kernel_rfl
 t5 := by kernel_rfl
 a5 := fun w => by kernel_rfl
 z5 := fun w => by kernel_rfl
 v5 := fun w => by kernel_rfl
 t9 := by kernel_rfl
 a9 := fun w => by kernel_rfl
 z9 := fun w => by kernel_rfl
 v9 := fun w => by kernel_rfl
 t20 := by kernel_rfl
 a20 := fun w => by kernel_rfl
 z20 := fun w => by kernel_rfl
 v20 := fun w => by kernel_rfl
 t37 := by kernel_rfl
 a37 := fun w => by kernel_rfl
 z37 := fun w => by kernel_rfl
 v37 := fun w => by kernel_rfl
 t46 := by kernel_rfl
 a46 := fun w => by kernel_rfl
 z46 := fun w => by kernel_rfl
 v46 := fun w => by kernel_rfl
 t51 := by kernel_rfl
 a51 := fun w => by kernel_rfl
 z51 := fun w => by kernel_rfl
 v51 := fun w => by kernel_rfl
 t53 := by kernel_rfl
 a53 := fun w => by kernel_rfl
 z53 := fun w => by kernel_rfl
 v53 := fun w => by kernel_rfl
 t70 := by kernel_rfl
 a70 := fun w => by kernel_rfl
 z70 := fun w => by kernel_rfl
 v70 := fun w => by kernel_rfl
 t72 := by kernel_rfl
 a72 := fun w => by kernel_rfl
 z72 := fun w => by kernel_rfl
 v72 := fun w => by kernel_rfl
 t75 := by kernel_rfl
 a75 := fun w => by kernel_rfl
 z75 := fun w => by kernel_rfl
 v75 := fun w => by kernel_rfl
 t76 := by kernel_rfl
 a76 := fun w => by kernel_rfl
 z76 := fun w => by kernel_rfl
 v76 := fun w => by kernel_rfl
 t109 := by kernel_rfl
 a109 := fun w => by kernel_rfl
 z109 := fun w => by kernel_rfl
 v109 := fun w => by kernel_rfl
 t127 := by kernel_rfl
 a127 := fun w => by kernel_rfl
 z127 := fun w => by kernel_rfl
 v127 := fun w => by kernel_rfl
 t146 := by kernel_rfl
 a146 := fun w => by kernel_rfl
 z146 := fun w => by kernel_rfl
 v146 := fun w => by kernel_rfl
 t148 := by kernel_rfl
 a148 := fun w => by kernel_rfl
 z148 := fun w => by kernel_rfl
 v148 := fun w => by kernel_rfl
 t164 := by kernel_rfl
 a164 := fun w => by kernel_rfl
 z164 := fun w => by kernel_rfl
 v164 := fun w => by kernel_rfl
def Khm : Ren := ⟨fun k => match k with | 162 => 74 | 232 => 40 | 227 => 41 | 234 => 43 | 236 => 45 | 228 => 81 | 271 => 87 | 151 => 86 | 120 => 153 | 197 => 85 | 152 => 79 | 260 => 152 | 137 => 142 | 119 => 143 | 224 => 144 | 225 => 145 | 217 => 198 | 266 => 230 | k => k, fun k => match k with | 9 => 9 | 4 => 4 | 3 => 3 | 5 => 5 | 117 => 89 | 116 => 88 | 0 => 0 | 124 => 92 | 21 => 21 | 105 => 150 | 46 => 95 | 119 => 265 | 139 => 268 | 138 => 267 | k => k, fun k => match k with | 3 => 3 | 4 => 4 | k => k⟩
set_option maxRecDepth 100000 in
theorem Khl : Lays.n162 Tryz.prog Khm where
 mixed := by kernel_rfl
 f119 := (Tryz.func143).trans (by kernel_rfl)
 f120 := (Tryz.func153).trans (by kernel_rfl)
 f137 := (Tryz.func142).trans (by kernel_rfl)
 f151 := (Tryz.func86).trans (by kernel_rfl)
 f152 := (Tryz.func79).trans (by kernel_rfl)
 f162 := (Tryz.func74).trans (by kernel_rfl)
 f197 := (Tryz.func85).trans (by kernel_rfl)
 f217 := (Tryz.func198).trans (by kernel_rfl)
 f224 := (Tryz.func144).trans (by kernel_rfl)
 f225 := (Tryz.func145).trans (by kernel_rfl)
 f227 := (Tryz.func41).trans (by kernel_rfl)
 f228 := (Tryz.func81).trans (by kernel_rfl)
 f232 := (Tryz.func40).trans (by kernel_rfl)
 f234 := (Tryz.func43).trans (by kernel_rfl)
 f236 := (Tryz.func45).trans (by kernel_rfl)
 f260 := (Tryz.func152).trans (by kernel_rfl)
 f266 := (Tryz.func230).trans (by kernel_rfl)
 f271 := (Tryz.func87).trans (by kernel_rfl)
 t0 := by kernel_rfl
 a0 := fun w => by kernel_rfl
 z0 := fun w => by kernel_rfl
 v0 := fun w => by kernel_rfl
 t3 := by kernel_rfl
 a3 := fun w => by kernel_rfl
 z3 := fun w => by kernel_rfl
 v3 := fun w => by kernel_rfl
 t4 := by kernel_rfl
 a4 := fun w => by kernel_rfl
 z4 := fun w => by kernel_rfl
 v4 := fun w => by kernel_rfl
 t5 := by kernel_rfl
 a5 := fun w => by kernel_rfl
 z5 := fun w => by kernel_rfl
 v5 := fun w => by kernel_rfl
 t9 := by kernel_rfl
 a9 := fun w => by kernel_rfl
 z9 := fun w => by kernel_rfl
 v9 := fun w => by kernel_rfl
 t21 := by kernel_rfl
 a21 := fun w => by kernel_rfl
 z21 := fun w => by kernel_rfl
 v21 := fun w => by kernel_rfl
 t46 := by kernel_rfl
 a46 := fun w => by kernel_rfl
 z46 := fun w => by kernel_rfl
 v46 := fun w => by kernel_rfl
 t105 := by kernel_rfl
 a105 := fun w => by kernel_rfl
 z105 := fun w => by kernel_rfl
 v105 := fun w => by kernel_rfl
 t116 := by kernel_rfl
 a116 := fun w => by kernel_rfl
 z116 := fun w => by kernel_rfl
 t117 := by kernel_rfl
 a117 := fun w => by kernel_rfl
 z117 := fun w => by kernel_rfl
 v117 := fun w => by kernel_rfl
 t119 := by kernel_rfl
 a119 := fun w => by kernel_rfl
 z119 := fun w => by kernel_rfl
 t124 := by kernel_rfl
 a124 := fun w => by kernel_rfl
 z124 := fun w => by kernel_rfl
 v124 := fun w => by kernel_rfl
 t138 := by kernel_rfl
 a138 := fun w => by kernel_rfl
 z138 := fun w => by kernel_rfl
 v138 := fun w => by kernel_rfl
 t139 := by kernel_rfl
 a139 := fun w => by kernel_rfl
 z139 := fun w => by kernel_rfl
 v139 := fun w => by kernel_rfl
 g3 := by kernel_rfl
 g4 := by kernel_rfl
theorem Kf4 : Builder.Extra Tryz.prog J05 where
 sizeBuilder := by kernel_rfl
 liesBuilder := by kernel_rfl
 t5 := Jlb.t5
 a5 := Jlb.a5
 z5 := Jlb.z5
 v5 := Jlb.v5
 infoByte := by kernel_rfl
 cellsByte := by kernel_rfl
 sizeByte := by kernel_rfl
 neB5 := by decide
theorem Js9 {φ : Places} {own : Nat -> Prop} {w : World} {s : List UInt8} {v : Value} (h : VR φ own w (.p (.str s)) v) : v = .string ⟨⟨s⟩⟩ := by
 cases h with | p x v h => cases h; rfl
theorem Kiq {φ : Places} {own : Nat -> Prop} {w : World} {n : Int} {v : Value} (h : VR φ own w (.p (.int .i64 n)) v) : v = .int .i64 n := by
 cases h with | p x v h => cases h; rfl
set_option maxRecDepth 100000 in
theorem Jui (s : List UInt8) (n : Nat) (hl : s.length * n <= 140737488355328) (hn : n <= 9223372036854775807) : Pure Tryz.prog GL 73 [.p (.str s), .p (.int .i64 n)] (.p (.str (Lib.repeatL s n))) := by
 refine Pure.of_below Tryz.func73 (by kernel_rfl) rfl rfl fun own w vs hg hs hlen hv => ?_
 match vs, hlen with
 | [a, b], _ =>
   have ea := Js9 (hv 0 _ a rfl rfl)
   have eb := Kiq (hv 1 _ b rfl rfl)
   subst ea; subst eb
   refine Calls.mono (Any.strings_Repeat Jlb Kf4 ⟨⟨s⟩⟩ n w hn (by simpa [ByteArray.size] using hl)) ?_
   rintro e w' ⟨rfl, hw⟩
   exact ⟨_, rfl, .p _ _ (.str _), hw⟩
set_option maxRecDepth 100000 in
theorem J4l (s : List UInt8) (hl : s.length <= 9223372036854775807) : Pure Tryz.prog GL 74 [.p (.str s), .p (.str [32])] (.p (.str (Lib.trimRightS s [32]))) := by
 refine Pure.of_below Tryz.func74 (by kernel_rfl) rfl rfl fun own w vs hg hs hlen hv => ?_
 match vs, hlen with
 | [a, b], _ =>
   have ea := Js9 (hv 0 _ a rfl rfl)
   have eb := Js9 (hv 1 _ b rfl rfl)
   subst ea; subst eb
   refine Calls.mono (Any.strings_TrimRight_laid Khl (by kernel_rfl) ⟨⟨s⟩⟩ ⟨⟨[32]⟩⟩ w (by simpa [ByteArray.size] using hl) (by decide) (ascii_of_all (by decide))) ?_
   rintro e w' ⟨rfl, hw⟩
   exact ⟨_, rfl, .p _ _ (.str _), hw⟩
end Go.Am
namespace Go.Am
open Go Go.Proofs Go.Pn
theorem Kaq : KeyOk Tryz.prog 55 IsII := Kan (by kernel_rfl) (fun w em n s => by kernel_rfl) (fun n m s t => by rw [eq55]; simp [Bool.decide_and])
theorem Jxo (p : Plc) : IsII p.av := ⟨p.row, p.col, rfl⟩
theorem J0o {p q : Plc} (h : p.av = q.av) : p = q := by
 simp at h
 cases p; cases q; simp_all
def namL (c : Circuit) (l : List Plc) (k : Nat) : List (Plc × Txt) := (l.take k).zip ((c.parts.take k).map (·.name))
def namA (es : List (Plc × Txt)) : List (AV × AV) := es.map fun e => (e.1.av, .p (.str e.2))
def Jd0 (es : List (Plc × Txt)) (p : Plc) : Option Txt := (es.find? fun e => decide (e.1 = p)).map (·.2)
theorem Kar (es : List (Plc × Txt)) (p : Plc) : Jca Tryz.prog 55 (namA es) p.av :=
 ⟨_, Kaq, Jxo p, fun e he => by
   obtain ⟨a, _, rfl⟩ := List.mem_map.1 he
   exact Jxo _⟩
theorem J3w {es : List (Plc × Txt)} {p : Plc} : Jal (namA es) p.av = (Jd0 es p).map fun s => .p (.str s) := by
 induction es with
 | nil => simp [namA, Jal, Jd0]
 | cons e es ih =>
   obtain ⟨a, b⟩ := e
   by_cases h : a = p
   . subst h
     simp [namA, Jal, Jd0]
   . have hne : a.av ≠ p.av := fun h2 => h (J0o h2)
     simp only [namA, List.map_cons, Jd0] at ih ⊢
     rw [List.find?_cons_of_neg (by simpa using h), <- ih]
     unfold Jal
     rw [List.find?_cons_of_neg (by simpa using h)]
theorem Ji6 {ρ : List Nat} {es : List (Plc × Txt)} : renE ρ (namA es) = some (namA es) := by
 unfold namA
 induction es with
 | nil => rfl
 | cons e es ih => simp only [List.map_cons, renE, ih]; rfl
theorem Kca {c : Circuit} {l : List Plc} {k : Nat} {p : Plc} {q : Part} (hnd : l.Nodup) (e1 : l[k]? = some p) (e2 : c.parts[k]? = some q) :
   setA (namA (namL c l k)) p.av (.p (.str q.name)) = namA (namL c l (k + 1)) := by
 have hk := (gsI.1 e1).1
 have hk2 := (gsI.1 e2).1
 rw [Jh6]
 . unfold namL namA
   rw [take_snoc e1, take_snoc e2, List.map_append, List.zip_append (by simp; omega)]
   simp
 . intro e he
   unfold namA namL at he
   obtain ⟨x, hx, rfl⟩ := List.mem_map.1 he
   intro h
   have := J0o h
   subst this
   exact Jrj.1 hnd k _ e1 (List.of_mem_zip hx).1
def widT (c : Circuit) : Nat -> Nat
 | 0 => 0
 | k + 1 => match c.parts[k]? with | some q => max (widT c k) (q.name.length + 1) | none => widT c k
def colT (l : List Plc) : Nat -> Int
 | 0 => 0
 | k + 1 => match l[k]? with | some p => max (colT l k) (p.col + 1) | none => colT l k
theorem Jo6 {c : Circuit} (h : ∀ p ∈ c.parts, p.name.length <= 60) : ∀ {k : Nat}, widT c k <= 61
 | 0 => by simp [widT]
 | k + 1 => by
   have ih := @Jo6 c h k
   simp only [widT]
   cases e : c.parts[k]? with
   | none => exact ih
   | some q => have := h q (List.mem_of_getElem? e); simp only; omega
theorem Jlu {c : Circuit} : ∀ {k : Nat} {i : Nat} {q : Part}, i < k -> c.parts[i]? = some q -> q.name.length + 1 <= widT c k
 | 0, i, q, h, _ => by omega
 | k + 1, i, q, h, e => by
   simp only [widT]
   by_cases hi : i = k
   . subst hi; rw [e]; simp only; omega
   . have ih := @Jlu c k i q (by omega) e
     cases c.parts[k]? with
     | none => exact ih
     | some q => simp only; omega
theorem Jkk {l : List Plc} (h : Near l) : ∀ {k : Nat}, 0 <= colT l k /\ colT l k <= 64
 | 0 => by simp [colT]
 | k + 1 => by
   have ih := @Jkk l h k
   simp only [colT]
   cases e : l[k]? with
   | none => exact ih
   | some p => have := h p (List.mem_of_getElem? e); simp only; omega
theorem J6y {l : List Plc} : ∀ {k : Nat}, 0 < colT l k -> 0 < k
 | 0, h => by simp [colT] at h
 | k + 1, _ => by omega
def cellT (c : Circuit) (l : List Plc) (i j : Int) : Txt := (Jd0 (namL c l l.length) ⟨i, j⟩).getD [46]
def Jci (c : Circuit) (l : List Plc) (i : Int) : Nat -> Txt
 | 0 => []
 | n + 1 => Jci c l i n ++ (cellT c l i n ++ Lib.repeatL [32] (widT c c.parts.length - (cellT c l i n).length))
def Jfs (c : Circuit) (l : List Plc) (i : Int) : Txt := Lib.trimRightS (Jci c l i (colT l l.length).toNat) [32]
def Jdv (c : Circuit) (l : List Plc) (n : Nat) : List Txt := (List.range n).map fun (i : Nat) => Jfs c l (i : Int)
theorem J7c {c : Circuit} {l : List Plc} {n : Nat} : Jdv c l (n + 1) = Jdv c l n ++ [Jfs c l n] := by simp [Jdv, List.range_succ]
theorem Jqa {c : Circuit} {l : List Plc} {n : Nat} : (Jdv c l n).length = n := by simp [Jdv]
theorem Jy2 {es : List (Plc × Txt)} {p : Plc} {s : Txt} (h : Jd0 es p = some s) : (p, s) ∈ es := by
 unfold Jd0 at h
 simp only [Option.map_eq_some_iff] at h
 obtain ⟨e, h1, rfl⟩ := h
 have := List.find?_some h1
 simp at this
 subst this
 exact List.mem_of_find?_eq_some h1
theorem Jvo {c : Circuit} {l : List Plc} {i j : Int} (hl : l.length = c.parts.length) (h0 : 0 < l.length) : (cellT c l i j).length <= widT c c.parts.length := by
 unfold cellT
 cases h : Jd0 (namL c l l.length) ⟨i, j⟩ with
 | none =>
   obtain ⟨q, e⟩ := Jae (show 0 < c.parts.length by omega)
   have := Jlu (c := c) (k := c.parts.length) (by omega) e
   simp; omega
 | some s =>
   have hm := Jy2 h
   unfold namL at hm
   have h2 := (List.of_mem_zip hm).2
   rw [List.take_of_length_le (by omega)] at h2
   obtain ⟨q, hq, rfl⟩ := List.mem_map.1 h2
   obtain ⟨k, hk⟩ := List.mem_iff_getElem?.1 hq
   have := Jlu (c := c) (k := c.parts.length) (gsI.1 hk).1 hk
   simp; omega
theorem Jnp {c : Circuit} {l : List Plc} {i : Int} (hl : l.length = c.parts.length) (h0 : 0 < l.length) : ∀ {n : Nat}, (Jci c l i n).length = n * widT c c.parts.length
 | 0 => by simp [Jci]
 | n + 1 => by
   have ih := @Jnp c l i hl h0 n
   have := @Jvo c l i n hl h0
   simp [Jci, ih, Lib.repeatL_length, Nat.succ_mul]
   omega
end Go.Am
namespace Go.Am
open Go Go.Proofs Go.Pn
@[simp] theorem Kjr {es : List (Plc × Txt)} {a b : Int} : Jca Tryz.prog 55 (namA es) (.agg [.p (.int .i64 a), .p (.int .i64 b)]) = True := eq_true (Kar es ⟨a, b⟩)
@[simp] theorem Kjy {es : List (Plc × Txt)} {a b : Int} : Jal (namA es) (.agg [.p (.int .i64 a), .p (.int .i64 b)]) = (Jd0 es ⟨a, b⟩).map fun s => .p (.str s) := J3w (p := ⟨a, b⟩)
@[simp] theorem Kq8 : Jeb Tryz.prog 9 = some false := by kernel_rfl
set_option maxRecDepth 20000 in
theorem J5c (c : Circuit) (l : List Plc) (hl : l.length = c.parts.length) (hlen : l.length <= 64) (hn : Near l) (hnd : l.Nodup) (hw : ∀ p ∈ c.parts, p.name.length <= 60) : Pure Tryz.prog GL 31 [c.av, .p (.lst 2 (l.map Plc.enc))] (.p (.lst 1 ((Jdv c l 5).map Txt.enc))) := by
 refine Pure.of_walk (N := 81) Tryz.func31 rfl rfl rfl (by simp) (by first | (simp; done) | simp [*]) ?_
 simp
 refine Jag.go [1, 7, 18, 19] [0] 0 [] (fun _ => []) (fun _ (k : Nat) => [(5, .p (.int .i64 (widT c k))), (6, .p (.int .i64 (colT l k))), (20, .p (.int .i64 k))]) (fun _ k => [(1, some (.map (namA (namL c l k))))]) (fun k => k <= c.parts.length) (fun k => c.parts.length - k) 0 (by omega) ?_ ?_
 . simp [widT, colT, namL, namA]
   done
 intro k hk
 simp
 refine Jad (fun h3 => ?_) (fun h3 => ?_)
 . simp at h3
   obtain ⟨q, eq⟩ := Jae h3
   obtain ⟨p, ep⟩ := Jae (show k < l.length by omega)
   have hq := hw q (List.mem_of_getElem? eq)
   have hp := hn p (List.mem_of_getElem? ep)
   have hwl := @Jo6 c hw k
   have hcl := @Jkk l hn k
   have hsn : setA (namA (namL c l k)) (.agg [.p (.int .i64 p.row), .p (.int .i64 p.col)]) (.p (.str q.name)) = namA (namL c l (k + 1)) := Kca hnd ep eq
   have hW : widT c (k + 1) = max (widT c k) (q.name.length + 1) := by simp [widT, eq]
   have hC : colT l (k + 1) = max (colT l k) (p.col + 1) := by simp [colT, ep]
   have hkl : k < l.length := by omega
   simp [h3, eq, ep, -getElem?_pos, List.getElem?_cons_zero, List.getElem?_cons_succ]
   refine ⟨wrap_i64 (by omega) (by omega), hkl, wrap_i64 (by omega) (by omega), Jak.intro (by kernel_rfl) ?_⟩
   simp [h3, eq, ep, hkl, hsn, -getElem?_pos, List.getElem?_cons_zero, List.getElem?_cons_succ]
   refine ⟨.of (by kernel_rfl), wrap_i64 (by omega) (by omega), k + 1, by omega, by omega, ?_⟩
   simp [hW, hC, Ji6]
   omega
 simp at h3
 have hkl : k = c.parts.length := by omega
 subst hkl
 have hC := @Jkk l hn l.length
 have hW := @Jo6 c hw c.parts.length
 simp
 refine Jag.go [5, 6, 7] [1] 1 [2] (nms [10]) (fun n (i : Nat) => [(10, .acc n 1 i), (47, .p (.int .i64 i))]) (fun n i => [(n, accB 1 ((Jdv c l i).map Txt.row))]) (fun i => i <= 5) (fun i => 5 - i) 0 (by omega) ?_ ?_
 . simp [Jdv, Ji6]
   try decide
 intro i hi
 simp
 refine Jad (fun h4 => ?_) (fun h4 => ?_)
 . simp at h4
   simp
   refine Jag.go [5, 6, 7, 10, 11, 47, 50] [1, 2] 0 [] (fun _ => []) (fun _ (n : Nat) => [(12, .p (.str (Jci c l i n))), (51, .p (.int .i64 n))]) (fun _ _ => []) (fun n => n <= (colT l l.length).toNat) (fun n => (colT l l.length).toNat - n) 0 (by omega) ?_ ?_
   . simp [Jci, Ji6]
     try decide
   intro n hn2
   simp
   refine Jad (fun h5 => ?_) (fun h5 => ?_)
   . simp at h5
     rw [<- hl] at h5
     have h0 : 0 < l.length := J6y (l := l) (k := l.length) (by omega)
     have hcl := @Jvo c l i n hl h0
     have hll := @Jnp c l i hl h0 n
     have hmul : n * widT c c.parts.length <= 64 * 61 := Nat.mul_le_mul (by omega) (by omega)
     have hs : Jci c l i (n + 1) = Jci c l i n ++ (cellT c l i n ++ Lib.repeatL [32] (widT c c.parts.length - (cellT c l i n).length)) := rfl
     have hwr : IntKind.i64.wrap ((widT c c.parts.length : Int) - ((cellT c l i n).length : Int)) = ((widT c c.parts.length - (cellT c l i n).length : Nat) : Int) := by
       rw [wrap_i64 (by omega) (by omega)]; omega
     simp [hl, h5, -getElem?_pos, List.getElem?_cons_zero, List.getElem?_cons_succ]
     cases hN : Jd0 (namL c l l.length) ⟨i, n⟩ with
     | none =>
       have hce : cellT c l i n = [46] := by unfold cellT; rw [hN]; rfl
       rw [hl] at hN
       rw [hce] at hs hwr hcl
       rw [hN]
       simp [hit]
       simp at hcl hwr hs
       refine ⟨by rw [wrap_i64 (by omega) (by omega)], ?_⟩
       rw [show (widT c c.parts.length : Int) - 1 = ((widT c c.parts.length - 1 : Nat) : Int) from by omega]
       refine Jab (Jui [32] _ (by simp; omega) (by omega)) ?_
       simp
       refine ⟨by simp only [Lib.repeatL_length, List.length_singleton]; omega, by simp only [Lib.repeatL_length, List.length_singleton]; omega, wrap_i64 (by omega) (by omega), n + 1, by omega, by omega, ⟨hs.symm, by omega⟩, by simp [Ji6]⟩
     | some t =>
       have hce : cellT c l i n = t := by unfold cellT; rw [hN]; rfl
       rw [hl] at hN
       rw [hce] at hs hwr hcl
       rw [hN]
       simp [hit]
       refine ⟨by rw [wrap_i64 (by omega) (by omega)], ?_⟩
       rw [show (widT c c.parts.length : Int) - (t.length : Int) = ((widT c c.parts.length - t.length : Nat) : Int) from by omega]
       refine Jab (Jui [32] _ (by simp; omega) (by omega)) ?_
       simp
       refine ⟨by simp only [Lib.repeatL_length, List.length_singleton]; omega, by simp only [Lib.repeatL_length, List.length_singleton]; omega, wrap_i64 (by omega) (by omega), n + 1, by omega, by omega, ⟨hs.symm, by omega⟩, by simp [Ji6]⟩
   simp at h5
   have hnc : n = (colT l l.length).toNat := by rw [hl] at *; omega
   subst hnc
   have hll : (Jci c l i (colT l l.length).toNat).length <= 64 * 61 := by
     by_cases h0 : 0 < l.length
     . rw [@Jnp c l i hl h0]; exact Nat.mul_le_mul (by omega) (by omega)
     . have : colT l l.length = 0 := by rw [show l.length = 0 by omega]; rfl
       rw [this]; simp [Jci]
   simp
   refine Jab (J4l _ (by omega)) ?_
   simp
   have hsn := @J7c c l i
   unfold Jfs at hsn
   refine ⟨by omega, Jqa, wrap_i64 (by omega) (by omega), i + 1, by omega, by omega, ⟨by omega, by omega⟩, ?_⟩
   simp [hsn, Ji6]
   try decide
 simp at h4
 have hi5 : i = 5 := by omega
 subst hi5
 simp [Jaa, Jqa]
def Jkm (c : Circuit) (l : List Plc) : List Txt := if layE c l ≠ 0 then [] else Jdv c l 5
theorem J5a (c : Circuit) (l : List Plc) (hs : Sized c) (hw : Jac c = 0 -> ∀ p ∈ c.parts, p.name.length <= 60) : Pure Tryz.prog GL 8 [c.av, .p (.lst 2 (l.map Plc.enc))] (.tup [.p (.lst 1 ((Jkm c l).map Txt.enc)), .p (.int .i64 (layE c l))]) := by
 refine Pure.of_walk (N := 16) Tryz.func8 rfl rfl rfl (by simp) (by first | (simp; done) | simp [*]) ?_
 simp
 refine Jab (J49 c l hs) ?_
 by_cases h : ¬ layE c l = 0
 . have e2 : Jkm c l = [] := if_pos h
   simp [h, Jaa, e2]
 simp only [Decidable.not_not] at h
 have e2 : Jkm c l = Jdv c l 5 := if_neg (by simpa using h)
 obtain ⟨hc, hL⟩ := Jx8.1 h
 have hlen : l.length <= 64 := by rw [hL.len]; exact (Ja8 hc).2.1
 have hD := J5c c l hL.len hlen hL.near hL.nd (hw hc)
 simp [h]
 refine Jab hD ?_
 simp [Jaa, e2, h]
end Go.Am
namespace Go.Am
open Go Go.Proofs Go.Pn
theorem Jug (xs ys : List Txt) (hl : xs.length < 4611686018427387904) : Pure Tryz.prog GL 15 [.p (.lst 1 (xs.map Txt.enc)), .p (.lst 1 (ys.map Txt.enc))] (.p (.bool (decide (xs = ys)))) := by
 refine Pure.of_walk (N := 26) Tryz.func15 rfl rfl rfl (by simp) (by first | (simp; done) | simp [*]) ?_
 simp
 refine Jad (fun h0 => ?_) (fun h0 => ?_)
 . simp at h0
   have hne : ¬ xs = ys := fun h => h0 (by rw [h])
   simp [Jaa, hne]
 . simp at h0
   simp
   refine Jag.go [0, 1, 12] [] 0 [] (fun _ => []) (fun _ (k : Nat) => [(13, .p (.int .i64 k))]) (fun _ _ => []) (fun k => k <= xs.length /\ ∀ (j : Nat), j < k -> xs[j]? = ys[j]?) (fun k => xs.length - k) 0 ⟨by omega, fun j h => by omega⟩ ?_ ?_
   . simp
   . rintro k ⟨hk, hp⟩
     simp
     refine Jad (fun h => ?_) (fun h => ?_)
     . simp at h
       obtain ⟨x, e⟩ := Jae h
       have h2 : k < ys.length := by omega
       obtain ⟨y, e2⟩ := Jae h2
       simp
       refine Jak.intro (by kernel_rfl) ?_
       simp [h, e, h2, e2, -getElem?_pos, List.getElem?_cons_zero, List.getElem?_cons_succ]
       refine ⟨.of (by kernel_rfl), ?_⟩
       refine Jad (fun h3 => ?_) (fun h3 => ?_)
       . have hne : ¬ xs = ys := fun h => by subst h; rw [e] at e2; cases e2; simp at h3
         simp [Jaa, hne]
       . have hxy : x = y := by simpa using h3
         subst hxy
         simp
         refine ⟨wrap_i64 (by omega) (by omega), k + 1, ⟨by omega, fun j hj => ?_⟩, by omega, ?_⟩
         . by_cases hjk : j = k
           . subst hjk; rw [e, e2]
           . exact hp j (by omega)
         . simp
     . simp at h
       have hk2 : k = xs.length := by omega
       have hxy : xs = ys := List.ext_getElem? fun j => by
         by_cases hj : j < k
         . exact hp j hj
         . rw [List.getElem?_eq_none (by omega), List.getElem?_eq_none (by omega)]
       simp [Jaa, hxy]
theorem Jwk {c : Circuit} (hf : fewP c = true) (h : Jac c = 0) : ∀ p ∈ c.parts, p.name.length <= 60 := by
 have hok : Jeg c := by simpa [fewP] using hf
 have h2 := (Ja8 h).2.1
 intro p hp
 obtain ⟨j, hj⟩ := List.mem_iff_getElem?.1 hp
 have hjl := (gsI.1 hj).1
 have h3 := hok.2.2
 unfold Jar at h3
 exact hok.1 j p (by omega) hj
end Go.Am
