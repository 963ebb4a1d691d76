/- Lemmas and contracts for the proof of a statement of this seat. -/
import Derived.Test.YtfcljeghfckabaaGreatDoorZCX
import Derived.Test.YtfcljeghfckabaaGreatDoorZA8
import Derived.Shelf.Strings.Repeat
import Derived.Shelf.Strings.SlTrimAscii
import Derived.Test.YtfcljeghfckabaaGreatDoorZD2
import Derived.Test.YtfcljeghfckabaaGreatDoorZC7
import Derived.Test.YtfcljeghfckabaaGreatDoorZC5
set_option linter.unusedVariables false
set_option linter.unusedSimpArgs false
/- Contracts of the library: strings.Repeat, strings.TrimRight. -/
namespace Go.Am
open Go Go.Proofs Go.Shelf Go.RowKit

def repLays_ren : Ren := ⟨fun k => match k with | 105 => 94 | 212 => 128 | 99 => 129 | 165 => 130 | 166 => 131 | 170 => 132 | 169 => 133 | 263 => 159 | 264 => 160 | 206 => 161 | 240 => 162 | 241 => 163 | 276 => 193 | 277 => 194 | k => k, fun k => match k with | 9 => 9 | 3 => 3 | 4 => 4 | 20 => 20 | 0 => 0 | 46 => 83 | 109 => 180 | 5 => 5 | 72 => 186 | 76 => 190 | 51 => 114 | 146 => 230 | 53 => 116 | 148 => 232 | 70 => 183 | 37 => 184 | 75 => 189 | 127 => 234 | 164 => 264 | 80 => 193 | k => k, fun k => k⟩
set_option maxRecDepth 100000 in
theorem repLays : Lays.n105 Go.Proofs.Tryz.prog repLays_ren where
  mixed := by kernel_rfl
  f99 := Go.Proofs.Tryz.func129.trans (by kernel_rfl)
  f105 := Go.Proofs.Tryz.func94.trans (by kernel_rfl)
  f165 := Go.Proofs.Tryz.func130.trans (by kernel_rfl)
  f166 := Go.Proofs.Tryz.func131.trans (by kernel_rfl)
  f169 := Go.Proofs.Tryz.func133.trans (by kernel_rfl)
  f170 := Go.Proofs.Tryz.func132.trans (by kernel_rfl)
  f206 := Go.Proofs.Tryz.func161.trans (by kernel_rfl)
  f212 := Go.Proofs.Tryz.func128.trans (by kernel_rfl)
  f240 := Go.Proofs.Tryz.func162.trans (by kernel_rfl)
  f241 := Go.Proofs.Tryz.func163.trans (by kernel_rfl)
  f263 := Go.Proofs.Tryz.func159.trans (by kernel_rfl)
  f264 := Go.Proofs.Tryz.func160.trans (by kernel_rfl)
  f276 := Go.Proofs.Tryz.func193.trans (by kernel_rfl)
  f277 := Go.Proofs.Tryz.func194.trans (by kernel_rfl)
  t0 := Go.Proofs.Tryz.underlying0
  a0 := Go.Proofs.Tryz.isAgg0
  z0 := Go.Proofs.Tryz.sizeOf0
  v0 := Go.Proofs.Tryz.zeroValue0
  t3 := Go.Proofs.Tryz.underlying3
  a3 := Go.Proofs.Tryz.isAgg3
  z3 := Go.Proofs.Tryz.sizeOf3
  v3 := Go.Proofs.Tryz.zeroValue3
  t4 := Go.Proofs.Tryz.underlying4
  a4 := Go.Proofs.Tryz.isAgg4
  z4 := Go.Proofs.Tryz.sizeOf4
  v4 := Go.Proofs.Tryz.zeroValue4
  t5 := Go.Proofs.Tryz.underlying5
  a5 := Go.Proofs.Tryz.isAgg5
  z5 := Go.Proofs.Tryz.sizeOf5
  v5 := Go.Proofs.Tryz.zeroValue5
  t9 := Go.Proofs.Tryz.underlying9
  a9 := Go.Proofs.Tryz.isAgg9
  z9 := Go.Proofs.Tryz.sizeOf9
  v9 := Go.Proofs.Tryz.zeroValue9
  t20 := Go.Proofs.Tryz.underlying20
  a20 := Go.Proofs.Tryz.isAgg20
  z20 := Go.Proofs.Tryz.sizeOf20
  v20 := Go.Proofs.Tryz.zeroValue20
  t37 := Go.Proofs.Tryz.underlying184
  a37 := Go.Proofs.Tryz.isAgg184
  z37 := Go.Proofs.Tryz.sizeOf184
  v37 := Go.Proofs.Tryz.zeroValue184
  t46 := Go.Proofs.Tryz.underlying83
  a46 := Go.Proofs.Tryz.isAgg83
  z46 := Go.Proofs.Tryz.sizeOf83
  v46 := Go.Proofs.Tryz.zeroValue83
  t51 := Go.Proofs.Tryz.underlying114
  a51 := Go.Proofs.Tryz.isAgg114
  z51 := Go.Proofs.Tryz.sizeOf114
  v51 := Go.Proofs.Tryz.zeroValue114
  t53 := Go.Proofs.Tryz.underlying116
  a53 := Go.Proofs.Tryz.isAgg116
  z53 := Go.Proofs.Tryz.sizeOf116
  v53 := Go.Proofs.Tryz.zeroValue116
  t70 := Go.Proofs.Tryz.underlying183
  a70 := Go.Proofs.Tryz.isAgg183
  z70 := Go.Proofs.Tryz.sizeOf183
  v70 := Go.Proofs.Tryz.zeroValue183
  t72 := Go.Proofs.Tryz.underlying186
  a72 := Go.Proofs.Tryz.isAgg186
  z72 := Go.Proofs.Tryz.sizeOf186
  v72 := Go.Proofs.Tryz.zeroValue186
  t75 := Go.Proofs.Tryz.underlying189
  a75 := Go.Proofs.Tryz.isAgg189
  z75 := Go.Proofs.Tryz.sizeOf189
  v75 := Go.Proofs.Tryz.zeroValue189
  t76 := Go.Proofs.Tryz.underlying190
  a76 := Go.Proofs.Tryz.isAgg190
  z76 := Go.Proofs.Tryz.sizeOf190
  v76 := Go.Proofs.Tryz.zeroValue190
  t109 := Go.Proofs.Tryz.underlying180
  a109 := Go.Proofs.Tryz.isAgg180
  z109 := Go.Proofs.Tryz.sizeOf180
  v109 := Go.Proofs.Tryz.zeroValue180
  t127 := Go.Proofs.Tryz.underlying234
  a127 := Go.Proofs.Tryz.isAgg234
  z127 := Go.Proofs.Tryz.sizeOf234
  v127 := Go.Proofs.Tryz.zeroValue234
  t146 := Go.Proofs.Tryz.underlying230
  a146 := Go.Proofs.Tryz.isAgg230
  z146 := Go.Proofs.Tryz.sizeOf230
  v146 := Go.Proofs.Tryz.zeroValue230
  t148 := Go.Proofs.Tryz.underlying232
  a148 := Go.Proofs.Tryz.isAgg232
  z148 := Go.Proofs.Tryz.sizeOf232
  v148 := Go.Proofs.Tryz.zeroValue232
  t164 := Go.Proofs.Tryz.underlying264
  a164 := Go.Proofs.Tryz.isAgg264
  z164 := Go.Proofs.Tryz.sizeOf264
  v164 := Go.Proofs.Tryz.zeroValue264
def trimLays_ren : Ren := ⟨fun k => match k with | 162 => 95 | 232 => 134 | 227 => 135 | 234 => 136 | 236 => 137 | 228 => 164 | 271 => 165 | 151 => 166 | 120 => 195 | 197 => 196 | 152 => 197 | 260 => 213 | 137 => 177 | 119 => 214 | 224 => 215 | 225 => 216 | 217 => 202 | 266 => 217 | k => k, fun k => match k with | 9 => 9 | 4 => 4 | 3 => 3 | 5 => 5 | 117 => 197 | 116 => 196 | 0 => 0 | 124 => 200 | 21 => 21 | 105 => 236 | 46 => 83 | 119 => 140 | 139 => 290 | 138 => 289 | k => k, fun k => match k with | 3 => 4 | 4 => 5 | k => k⟩
set_option maxRecDepth 100000 in
theorem trimLays : Lays.n162 Go.Proofs.Tryz.prog trimLays_ren where
  mixed := by kernel_rfl
  g3 := by kernel_rfl
  g4 := by kernel_rfl
  f119 := Go.Proofs.Tryz.func214.trans (by kernel_rfl)
  f120 := Go.Proofs.Tryz.func195.trans (by kernel_rfl)
  f137 := Go.Proofs.Tryz.func177.trans (by kernel_rfl)
  f151 := Go.Proofs.Tryz.func166.trans (by kernel_rfl)
  f152 := Go.Proofs.Tryz.func197.trans (by kernel_rfl)
  f162 := Go.Proofs.Tryz.func95.trans (by kernel_rfl)
  f197 := Go.Proofs.Tryz.func196.trans (by kernel_rfl)
  f217 := Go.Proofs.Tryz.func202.trans (by kernel_rfl)
  f224 := Go.Proofs.Tryz.func215.trans (by kernel_rfl)
  f225 := Go.Proofs.Tryz.func216.trans (by kernel_rfl)
  f227 := Go.Proofs.Tryz.func135.trans (by kernel_rfl)
  f228 := Go.Proofs.Tryz.func164.trans (by kernel_rfl)
  f232 := Go.Proofs.Tryz.func134.trans (by kernel_rfl)
  f234 := Go.Proofs.Tryz.func136.trans (by kernel_rfl)
  f236 := Go.Proofs.Tryz.func137.trans (by kernel_rfl)
  f260 := Go.Proofs.Tryz.func213.trans (by kernel_rfl)
  f266 := Go.Proofs.Tryz.func217.trans (by kernel_rfl)
  f271 := Go.Proofs.Tryz.func165.trans (by kernel_rfl)
  t0 := Go.Proofs.Tryz.underlying0
  a0 := Go.Proofs.Tryz.isAgg0
  z0 := Go.Proofs.Tryz.sizeOf0
  v0 := Go.Proofs.Tryz.zeroValue0
  t3 := Go.Proofs.Tryz.underlying3
  a3 := Go.Proofs.Tryz.isAgg3
  z3 := Go.Proofs.Tryz.sizeOf3
  v3 := Go.Proofs.Tryz.zeroValue3
  t4 := Go.Proofs.Tryz.underlying4
  a4 := Go.Proofs.Tryz.isAgg4
  z4 := Go.Proofs.Tryz.sizeOf4
  v4 := Go.Proofs.Tryz.zeroValue4
  t5 := Go.Proofs.Tryz.underlying5
  a5 := Go.Proofs.Tryz.isAgg5
  z5 := Go.Proofs.Tryz.sizeOf5
  v5 := Go.Proofs.Tryz.zeroValue5
  t9 := Go.Proofs.Tryz.underlying9
  a9 := Go.Proofs.Tryz.isAgg9
  z9 := Go.Proofs.Tryz.sizeOf9
  v9 := Go.Proofs.Tryz.zeroValue9
  t21 := Go.Proofs.Tryz.underlying21
  a21 := Go.Proofs.Tryz.isAgg21
  z21 := Go.Proofs.Tryz.sizeOf21
  v21 := Go.Proofs.Tryz.zeroValue21
  t46 := Go.Proofs.Tryz.underlying83
  a46 := Go.Proofs.Tryz.isAgg83
  z46 := Go.Proofs.Tryz.sizeOf83
  v46 := Go.Proofs.Tryz.zeroValue83
  t105 := Go.Proofs.Tryz.underlying236
  a105 := Go.Proofs.Tryz.isAgg236
  z105 := Go.Proofs.Tryz.sizeOf236
  v105 := Go.Proofs.Tryz.zeroValue236
  t116 := Go.Proofs.Tryz.underlying196
  a116 := Go.Proofs.Tryz.isAgg196
  z116 := Go.Proofs.Tryz.sizeOf196
  t117 := Go.Proofs.Tryz.underlying197
  a117 := Go.Proofs.Tryz.isAgg197
  z117 := Go.Proofs.Tryz.sizeOf197
  v117 := Go.Proofs.Tryz.zeroValue197
  t119 := Go.Proofs.Tryz.underlying140
  a119 := Go.Proofs.Tryz.isAgg140
  z119 := Go.Proofs.Tryz.sizeOf140
  t124 := Go.Proofs.Tryz.underlying200
  a124 := Go.Proofs.Tryz.isAgg200
  z124 := Go.Proofs.Tryz.sizeOf200
  v124 := Go.Proofs.Tryz.zeroValue200
  t138 := Go.Proofs.Tryz.underlying289
  a138 := Go.Proofs.Tryz.isAgg289
  z138 := Go.Proofs.Tryz.sizeOf289
  v138 := Go.Proofs.Tryz.zeroValue289
  t139 := Go.Proofs.Tryz.underlying290
  a139 := Go.Proofs.Tryz.isAgg290
  z139 := Go.Proofs.Tryz.sizeOf290
  v139 := Go.Proofs.Tryz.zeroValue290

theorem repExtra : Builder.Extra Go.Proofs.Tryz.prog repLays_ren where
  sizeBuilder := by kernel_rfl
  liesBuilder := by kernel_rfl
  t5 := repLays.t5
  a5 := repLays.a5
  z5 := repLays.z5
  v5 := repLays.v5
  infoByte := by kernel_rfl
  cellsByte := by kernel_rfl
  sizeByte := by kernel_rfl
  neB5 := by decide

theorem vr_str {φ : Places} {own : Nat → Prop} {w : World} {s : List UInt8} {v : Value} (h : VR φ own w (.p (.str s)) v) : v = .string ⟨⟨s⟩⟩ := by
  cases h with | p x v h => cases h; rfl
theorem vr_int {φ : Places} {own : Nat → Prop} {w : World} {n : Int} {v : Value} (h : VR φ own w (.p (.int .i64 n)) v) : v = .int .i64 n := by
  cases h with | p x v h => cases h; rfl

set_option maxRecDepth 100000 in
theorem c_Repeat (s : List UInt8) (n : Nat) (hl : s.length * n ≤ 140737488355328) (hn : n ≤ 9223372036854775807) : Pure Go.Proofs.Tryz.prog GL 94 [.p (.str s), .p (.int .i64 n)] (.p (.str (Lib.repeatL s n))) := by
  refine Pure.of_below Go.Proofs.Tryz.func94 (by kernel_rfl) rfl rfl fun own w vs hg hs hlen hv => ?_
  match vs, hlen with
  | [a, b], _ =>
    have ea := vr_str (hv 0 _ a rfl rfl)
    have eb := vr_int (hv 1 _ b rfl rfl)
    subst ea; subst eb
    refine Calls.mono (Any.strings_Repeat repLays repExtra ⟨⟨s⟩⟩ n w hn (by simpa [ByteArray.size] using hl)) ?_
    rintro e w' ⟨rfl, hw⟩
    exact ⟨_, rfl, .p _ _ (.str _), hw⟩

set_option maxRecDepth 100000 in
theorem c_TrimRight (s : List UInt8) (hl : s.length ≤ 9223372036854775807) : Pure Go.Proofs.Tryz.prog GL 95 [.p (.str s), .p (.str [32])] (.p (.str (Lib.trimRightS s [32]))) := by
  refine Pure.of_below Go.Proofs.Tryz.func95 (by kernel_rfl) rfl rfl fun own w vs hg hs hlen hv => ?_
  match vs, hlen with
  | [a, b], _ =>
    have ea := vr_str (hv 0 _ a rfl rfl)
    have eb := vr_str (hv 1 _ b rfl rfl)
    subst ea; subst eb
    refine Calls.mono (Any.strings_TrimRight_laid trimLays (by kernel_rfl) ⟨⟨s⟩⟩ ⟨⟨[32]⟩⟩ w (by simpa [ByteArray.size] using hl) (by decide) (ascii_of_all (by decide))) ?_
    rintro e w' ⟨rfl, hw⟩
    exact ⟨_, rfl, .p _ _ (.str _), hw⟩
end Go.Am
/- Contracts: the drawing of the places; chapter 25. -/
namespace Go.Am
open Go Go.Proofs Go.Pn

theorem keyPlc : KeyOk Go.Proofs.Tryz.prog 41 IsII := keyII (by kernel_rfl) (fun w em n s => by kernel_rfl) (fun n m s t => by rw [eq41]; simp [Bool.decide_and])
theorem isPlc (p : Plc) : IsII p.av := ⟨p.row, p.col, rfl⟩
theorem plcAv_inj {p q : Plc} (h : p.av = q.av) : p = q := by
  simp at h
  cases p; cases q; simp_all

def namL (c : Circuit) (l : List Plc) (k : Nat) : List (Plc × Txt) := (l.take k).zip ((c.parts.take k).map (·.name))
def namA (es : List (Plc × Txt)) : List (AV × AV) := es.map fun e => (e.1.av, .p (.str e.2))
def nameOf? (es : List (Plc × Txt)) (p : Plc) : Option Txt := (es.find? fun e => decide (e.1 = p)).map (·.2)
theorem keysIn_nam (es : List (Plc × Txt)) (p : Plc) : KeysIn Go.Proofs.Tryz.prog 41 (namA es) p.av :=
  ⟨_, keyPlc, isPlc p, fun e he => by
    obtain ⟨a, _, rfl⟩ := List.mem_map.1 he
    exact isPlc _⟩
theorem assoc_nam {es : List (Plc × Txt)} {p : Plc} : assocA (namA es) p.av = (nameOf? es p).map fun s => .p (.str s) := by
  induction es with
  | nil => simp [namA, assocA, nameOf?]
  | cons e es ih =>
    obtain ⟨a, b⟩ := e
    by_cases h : a = p
    · subst h
      simp [namA, assocA, nameOf?]
    · have hne : a.av ≠ p.av := fun h2 => h (plcAv_inj h2)
      simp only [namA, List.map_cons, nameOf?] at ih ⊢
      rw [List.find?_cons_of_neg (by simpa using h), ← ih]
      unfold assocA
      rw [List.find?_cons_of_neg (by simpa using h)]
theorem namA_ren {ρ : List Nat} {es : List (Plc × Txt)} : renE ρ (namA es) = some (namA es) := by
  unfold namA
  induction es with
  | nil => rfl
  | cons e es ih => simp only [List.map_cons, renE, ih]; rfl
theorem nam_snoc {c : Circuit} {l : List Plc} {k : Nat} {p : Plc} {q : Part} (hnd : l.Nodup) (e1 : l[k]? = some p) (e2 : c.parts[k]? = some q) :
    setA (namA (namL c l k)) p.av (.p (.str q.name)) = namA (namL c l (k + 1)) := by
  have hk := (List.getElem?_eq_some_iff.1 e1).1
  have hk2 := (List.getElem?_eq_some_iff.1 e2).1
  rw [setA_none]
  · unfold namL namA
    rw [take_snoc e1, take_snoc e2, List.map_append, List.zip_append (by simp; omega)]
    simp
  · intro e he
    unfold namA namL at he
    obtain ⟨x, hx, rfl⟩ := List.mem_map.1 he
    intro h
    have := plcAv_inj h
    subst this
    exact nodup_take.1 hnd k _ e1 (List.of_mem_zip hx).1

def widT (c : Circuit) : Nat → Nat
  | 0 => 0
  | k + 1 => match c.parts[k]? with | some q => max (widT c k) (q.name.length + 1) | none => widT c k
def colT (l : List Plc) : Nat → Int
  | 0 => 0
  | k + 1 => match l[k]? with | some p => max (colT l k) (p.col + 1) | none => colT l k
theorem widT_le {c : Circuit} (h : ∀ p ∈ c.parts, p.name.length ≤ 60) : ∀ {k : Nat}, widT c k ≤ 61
  | 0 => by simp [widT]
  | k + 1 => by
    have ih := @widT_le c h k
    simp only [widT]
    cases e : c.parts[k]? with
    | none => exact ih
    | some q => have := h q (List.mem_of_getElem? e); simp only; omega
theorem widT_mem {c : Circuit} : ∀ {k : Nat} {i : Nat} {q : Part}, i < k → c.parts[i]? = some q → q.name.length + 1 ≤ widT c k
  | 0, i, q, h, _ => by omega
  | k + 1, i, q, h, e => by
    simp only [widT]
    by_cases hi : i = k
    · subst hi; rw [e]; simp only; omega
    · have ih := @widT_mem c k i q (by omega) e
      cases c.parts[k]? with
      | none => exact ih
      | some q => simp only; omega
theorem colT_near {l : List Plc} (h : Near l) : ∀ {k : Nat}, 0 ≤ colT l k ∧ colT l k ≤ 64
  | 0 => by simp [colT]
  | k + 1 => by
    have ih := @colT_near l h k
    simp only [colT]
    cases e : l[k]? with
    | none => exact ih
    | some p => have := h p (List.mem_of_getElem? e); simp only; omega
theorem colT_pos {l : List Plc} : ∀ {k : Nat}, 0 < colT l k → 0 < k
  | 0, h => by simp [colT] at h
  | k + 1, _ => by omega

def cellT (c : Circuit) (l : List Plc) (i j : Int) : Txt := (nameOf? (namL c l l.length) ⟨i, j⟩).getD [46]
def lineN (c : Circuit) (l : List Plc) (i : Int) : Nat → Txt
  | 0 => []
  | n + 1 => lineN c l i n ++ (cellT c l i n ++ Lib.repeatL [32] (widT c c.parts.length - (cellT c l i n).length))
def drawRow (c : Circuit) (l : List Plc) (i : Int) : Txt := Lib.trimRightS (lineN c l i (colT l l.length).toNat) [32]
def drawN (c : Circuit) (l : List Plc) (n : Nat) : List Txt := (List.range n).map fun (i : Nat) => drawRow c l (i : Int)
theorem drawN_snoc {c : Circuit} {l : List Plc} {n : Nat} : drawN c l (n + 1) = drawN c l n ++ [drawRow c l n] := by simp [drawN, List.range_succ]
theorem drawN_len {c : Circuit} {l : List Plc} {n : Nat} : (drawN c l n).length = n := by simp [drawN]
theorem nameOf_mem {es : List (Plc × Txt)} {p : Plc} {s : Txt} (h : nameOf? es p = some s) : (p, s) ∈ es := by
  unfold nameOf? at h
  simp only [Option.map_eq_some_iff] at h
  obtain ⟨e, h1, rfl⟩ := h
  have := List.find?_some h1
  simp at this
  subst this
  exact List.mem_of_find?_eq_some h1
theorem cellT_len {c : Circuit} {l : List Plc} {i j : Int} (hl : l.length = c.parts.length) (h0 : 0 < l.length) : (cellT c l i j).length ≤ widT c c.parts.length := by
  unfold cellT
  cases h : nameOf? (namL c l l.length) ⟨i, j⟩ with
  | none =>
    obtain ⟨q, e⟩ := get_lt (show 0 < c.parts.length by omega)
    have := widT_mem (c := c) (k := c.parts.length) (by omega) e
    simp; omega
  | some s =>
    have hm := nameOf_mem h
    unfold namL at hm
    have h2 := (List.of_mem_zip hm).2
    rw [List.take_of_length_le (by omega)] at h2
    obtain ⟨q, hq, rfl⟩ := List.mem_map.1 h2
    obtain ⟨k, hk⟩ := List.mem_iff_getElem?.1 hq
    have := widT_mem (c := c) (k := c.parts.length) (List.getElem?_eq_some_iff.1 hk).1 hk
    simp; omega
theorem lineN_len {c : Circuit} {l : List Plc} {i : Int} (hl : l.length = c.parts.length) (h0 : 0 < l.length) : ∀ {n : Nat}, (lineN c l i n).length = n * widT c c.parts.length
  | 0 => by simp [lineN]
  | n + 1 => by
    have ih := @lineN_len c l i hl h0 n
    have := @cellT_len c l i n hl h0
    simp [lineN, ih, Lib.repeatL_length, Nat.succ_mul]
    omega
end Go.Am
/- Contracts: layout.draw and layout.Draw. -/
namespace Go.Am
open Go Go.Proofs Go.Pn

@[simp] theorem keys_nam {es : List (Plc × Txt)} {a b : Int} : KeysIn Go.Proofs.Tryz.prog 41 (namA es) (.agg [.p (.int .i64 a), .p (.int .i64 b)]) = True := eq_true (keysIn_nam es ⟨a, b⟩)
@[simp] theorem look_nam {es : List (Plc × Txt)} {a b : Int} : assocA (namA es) (.agg [.p (.int .i64 a), .p (.int .i64 b)]) = (nameOf? es ⟨a, b⟩).map fun s => .p (.str s) := assoc_nam (p := ⟨a, b⟩)
@[simp] theorem zsStr : zeroShape Go.Proofs.Tryz.prog 9 = some false := by kernel_rfl

set_option maxRecDepth 20000 in
theorem c_layout_draw (c : Circuit) (l : List Plc) (hl : l.length = c.parts.length) (hlen : l.length ≤ 64) (hn : Near l) (hnd : l.Nodup) (hw : ∀ p ∈ c.parts, p.name.length ≤ 60) : Pure Go.Proofs.Tryz.prog GL 55 [c.av, .p (.lst 2 (l.map Plc.enc))] (.p (.lst 1 ((drawN c l 5).map Txt.enc))) := by
  refine Pure.of_walk (N := 81) Go.Proofs.Tryz.func55 rfl rfl rfl (by simp) (by first | (simp; done) | simp [*]) ?_
  simp
  refine XLoop.go [1, 7, 18, 19] [0] 0 [] (fun _ => []) (fun _ (k : Nat) => [(5, .p (.int .i64 (widT c k))), (6, .p (.int .i64 (colT l k))), (20, .p (.int .i64 k))]) (fun _ k => [(1, some (.map (namA (namL c l k))))]) (fun k => k ≤ c.parts.length) (fun k => c.parts.length - k) 0 (by omega) ?_ ?_
  · simp [widT, colT, namL, namA]
    done
  intro k hk
  simp
  refine xif_split (fun h3 => ?_) (fun h3 => ?_)
  · simp at h3
    obtain ⟨q, eq⟩ := get_lt h3
    obtain ⟨p, ep⟩ := get_lt (show k < l.length by omega)
    have hq := hw q (List.mem_of_getElem? eq)
    have hp := hn p (List.mem_of_getElem? ep)
    have hwl := @widT_le c hw k
    have hcl := @colT_near l hn k
    have hsn : setA (namA (namL c l k)) (.agg [.p (.int .i64 p.row), .p (.int .i64 p.col)]) (.p (.str q.name)) = namA (namL c l (k + 1)) := nam_snoc hnd ep eq
    have hW : widT c (k + 1) = max (widT c k) (q.name.length + 1) := by simp [widT, eq]
    have hC : colT l (k + 1) = max (colT l k) (p.col + 1) := by simp [colT, ep]
    have hkl : k < l.length := by omega
    simp [h3, eq, ep, -getElem?_pos, List.getElem?_cons_zero, List.getElem?_cons_succ]
    refine ⟨wrap_i64 (by omega) (by omega), hkl, wrap_i64 (by omega) (by omega), XDraw.intro (by kernel_rfl) ?_⟩
    simp [h3, eq, ep, hkl, hsn, -getElem?_pos, List.getElem?_cons_zero, List.getElem?_cons_succ]
    refine ⟨.of (by kernel_rfl), wrap_i64 (by omega) (by omega), k + 1, by omega, by omega, ?_⟩
    simp [hW, hC, namA_ren]
    omega
  simp at h3
  have hkl : k = c.parts.length := by omega
  subst hkl
  have hC := @colT_near l hn l.length
  have hW := @widT_le c hw c.parts.length
  simp
  refine XLoop.go [5, 6, 7] [1] 1 [2] (nms [10]) (fun n (i : Nat) => [(10, .acc n 1 i), (47, .p (.int .i64 i))]) (fun n i => [(n, accB 1 ((drawN c l i).map Txt.row))]) (fun i => i ≤ 5) (fun i => 5 - i) 0 (by omega) ?_ ?_
  · simp [drawN, namA_ren]
    try decide
  intro i hi
  simp
  refine xif_split (fun h4 => ?_) (fun h4 => ?_)
  · simp at h4
    simp
    refine XLoop.go [5, 6, 7, 10, 11, 47, 50] [1, 2] 0 [] (fun _ => []) (fun _ (n : Nat) => [(12, .p (.str (lineN c l i n))), (51, .p (.int .i64 n))]) (fun _ _ => []) (fun n => n ≤ (colT l l.length).toNat) (fun n => (colT l l.length).toNat - n) 0 (by omega) ?_ ?_
    · simp [lineN, namA_ren]
      try decide
    intro n hn2
    simp
    refine xif_split (fun h5 => ?_) (fun h5 => ?_)
    · simp at h5
      rw [← hl] at h5
      have h0 : 0 < l.length := colT_pos (l := l) (k := l.length) (by omega)
      have hcl := @cellT_len c l i n hl h0
      have hll := @lineN_len c l i hl h0 n
      have hmul : n * widT c c.parts.length ≤ 64 * 61 := Nat.mul_le_mul (by omega) (by omega)
      have hs : lineN c l i (n + 1) = lineN c l i n ++ (cellT c l i n ++ Lib.repeatL [32] (widT c c.parts.length - (cellT c l i n).length)) := rfl
      have hwr : IntKind.i64.wrap ((widT c c.parts.length : Int) - ((cellT c l i n).length : Int)) = ((widT c c.parts.length - (cellT c l i n).length : Nat) : Int) := by
        rw [wrap_i64 (by omega) (by omega)]; omega
      simp [hl, h5, -getElem?_pos, List.getElem?_cons_zero, List.getElem?_cons_succ]
      cases hN : nameOf? (namL c l l.length) ⟨i, n⟩ with
      | none =>
        have hce : cellT c l i n = [46] := by unfold cellT; rw [hN]; rfl
        rw [hl] at hN
        rw [hce] at hs hwr hcl
        rw [hN]
        simp [hit]
        simp at hcl hwr hs
        refine ⟨by rw [wrap_i64 (by omega) (by omega)], ?_⟩
        rw [show (widT c c.parts.length : Int) - 1 = ((widT c c.parts.length - 1 : Nat) : Int) from by omega]
        refine xcall_pure (c_Repeat [32] _ (by simp; omega) (by omega)) ?_
        simp
        refine ⟨by simp only [Lib.repeatL_length, List.length_singleton]; omega, by simp only [Lib.repeatL_length, List.length_singleton]; omega, wrap_i64 (by omega) (by omega), n + 1, by omega, by omega, ⟨hs.symm, by omega⟩, by simp [namA_ren]⟩
      | some t =>
        have hce : cellT c l i n = t := by unfold cellT; rw [hN]; rfl
        rw [hl] at hN
        rw [hce] at hs hwr hcl
        rw [hN]
        simp [hit]
        refine ⟨by rw [wrap_i64 (by omega) (by omega)], ?_⟩
        rw [show (widT c c.parts.length : Int) - (t.length : Int) = ((widT c c.parts.length - t.length : Nat) : Int) from by omega]
        refine xcall_pure (c_Repeat [32] _ (by simp; omega) (by omega)) ?_
        simp
        refine ⟨by simp only [Lib.repeatL_length, List.length_singleton]; omega, by simp only [Lib.repeatL_length, List.length_singleton]; omega, wrap_i64 (by omega) (by omega), n + 1, by omega, by omega, ⟨hs.symm, by omega⟩, by simp [namA_ren]⟩
    simp at h5
    have hnc : n = (colT l l.length).toNat := by rw [hl] at *; omega
    subst hnc
    have hll : (lineN c l i (colT l l.length).toNat).length ≤ 64 * 61 := by
      by_cases h0 : 0 < l.length
      · rw [@lineN_len c l i hl h0]; exact Nat.mul_le_mul (by omega) (by omega)
      · have : colT l l.length = 0 := by rw [show l.length = 0 by omega]; rfl
        rw [this]; simp [lineN]
    simp
    refine xcall_pure (c_TrimRight _ (by omega)) ?_
    simp
    have hsn := @drawN_snoc c l i
    unfold drawRow at hsn
    refine ⟨by omega, drawN_len, wrap_i64 (by omega) (by omega), i + 1, by omega, by omega, ⟨by omega, by omega⟩, ?_⟩
    simp [hsn, namA_ren]
    try decide
  simp at h4
  have hi5 : i = 5 := by omega
  subst hi5
  simp [XEndT, drawN_len]

def drawRes (c : Circuit) (l : List Plc) : List Txt := if layE c l ≠ 0 then [] else drawN c l 5
theorem c_layout_Draw (c : Circuit) (l : List Plc) (hs : Sized c) (hw : checkP c = 0 → ∀ p ∈ c.parts, p.name.length ≤ 60) : Pure Go.Proofs.Tryz.prog GL 30 [c.av, .p (.lst 2 (l.map Plc.enc))] (.tup [.p (.lst 1 ((drawRes c l).map Txt.enc)), .p (.int .i64 (layE c l))]) := by
  refine Pure.of_walk (N := 16) Go.Proofs.Tryz.func30 rfl rfl rfl (by simp) (by first | (simp; done) | simp [*]) ?_
  simp
  refine xcall_pure (c_layout_Check c l hs) ?_
  by_cases h : ¬ layE c l = 0
  · have e2 : drawRes c l = [] := if_pos h
    simp [h, XEndT, e2]
  simp only [Decidable.not_not] at h
  have e2 : drawRes c l = drawN c l 5 := if_neg (by simpa using h)
  obtain ⟨hc, hL⟩ := layE_zero.1 h
  have hlen : l.length ≤ 64 := by rw [hL.len]; exact (check_parts hc).2.1
  have hD := c_layout_draw c l hL.len hlen hL.near hL.nd (hw hc)
  simp [h]
  refine xcall_pure hD ?_
  simp [XEndT, e2, h]
end Go.Am
/- Contracts: equal places; the law of chapter 25 awake. -/
namespace Go.Am
open Go Go.Proofs Go.Pn

theorem c_Eq_Plc (xs ys : List Plc) (hl : xs.length < 4611686018427387904) : Pure Go.Proofs.Tryz.prog GL 20 [.p (.lst 2 (xs.map Plc.enc)), .p (.lst 2 (ys.map Plc.enc))] (.p (.bool (decide (xs = ys)))) := by
  refine Pure.of_walk (N := 26) Go.Proofs.Tryz.func20 rfl rfl rfl (by simp) (by first | (simp; done) | simp [*]) ?_
  simp
  refine xif_split (fun h0 => ?_) (fun h0 => ?_)
  · simp at h0
    have hne : ¬ xs = ys := fun h => h0 (by rw [h])
    simp [XEndT, hne]
  · simp at h0
    simp
    refine XLoop.go [0, 1, 12] [] 0 [] (fun _ => []) (fun _ (k : Nat) => [(13, .p (.int .i64 k))]) (fun _ _ => []) (fun k => k ≤ xs.length ∧ ∀ (j : Nat), j < k → xs[j]? = ys[j]?) (fun k => xs.length - k) 0 ⟨by omega, fun j h => by omega⟩ ?_ ?_
    · simp
    · rintro k ⟨hk, hp⟩
      simp
      refine xif_split (fun h => ?_) (fun h => ?_)
      · simp at h
        obtain ⟨x, e⟩ := get_lt h
        have h2 : k < ys.length := by omega
        obtain ⟨y, e2⟩ := get_lt h2
        simp
        refine XDraw.intro (by kernel_rfl) ?_
        simp [h, e, h2, e2, -getElem?_pos, List.getElem?_cons_zero, List.getElem?_cons_succ]
        refine ⟨.of (by kernel_rfl), ?_⟩
        refine xif_split (fun h3 => ?_) (fun h3 => ?_)
        · have hne : ¬ xs = ys := fun h => by subst h; rw [e] at e2; cases e2; simp at h3
          simp [XEndT, hne]
        · have hxy : x = y := by simpa using h3
          subst hxy
          simp
          refine ⟨wrap_i64 (by omega) (by omega), k + 1, ⟨by omega, fun j hj => ?_⟩, by omega, ?_⟩
          · by_cases hjk : j = k
            · subst hjk; rw [e, e2]
            · exact hp j (by omega)
          · simp
      · simp at h
        have hk2 : k = xs.length := by omega
        have hxy : xs = ys := List.ext_getElem? fun j => by
          by_cases hj : j < k
          · exact hp j hj
          · rw [List.getElem?_eq_none (by omega), List.getElem?_eq_none (by omega)]
        simp [XEndT, hxy]

theorem c_Eq_Str (xs ys : List Txt) (hl : xs.length < 4611686018427387904) : Pure Go.Proofs.Tryz.prog GL 36 [.p (.lst 1 (xs.map Txt.enc)), .p (.lst 1 (ys.map Txt.enc))] (.p (.bool (decide (xs = ys)))) := by
  refine Pure.of_walk (N := 26) Go.Proofs.Tryz.func36 rfl rfl rfl (by simp) (by first | (simp; done) | simp [*]) ?_
  simp
  refine xif_split (fun h0 => ?_) (fun h0 => ?_)
  · simp at h0
    have hne : ¬ xs = ys := fun h => h0 (by rw [h])
    simp [XEndT, hne]
  · simp at h0
    simp
    refine XLoop.go [0, 1, 12] [] 0 [] (fun _ => []) (fun _ (k : Nat) => [(13, .p (.int .i64 k))]) (fun _ _ => []) (fun k => k ≤ xs.length ∧ ∀ (j : Nat), j < k → xs[j]? = ys[j]?) (fun k => xs.length - k) 0 ⟨by omega, fun j h => by omega⟩ ?_ ?_
    · simp
    · rintro k ⟨hk, hp⟩
      simp
      refine xif_split (fun h => ?_) (fun h => ?_)
      · simp at h
        obtain ⟨x, e⟩ := get_lt h
        have h2 : k < ys.length := by omega
        obtain ⟨y, e2⟩ := get_lt h2
        simp
        refine XDraw.intro (by kernel_rfl) ?_
        simp [h, e, h2, e2, -getElem?_pos, List.getElem?_cons_zero, List.getElem?_cons_succ]
        refine ⟨.of (by kernel_rfl), ?_⟩
        refine xif_split (fun h3 => ?_) (fun h3 => ?_)
        · have hne : ¬ xs = ys := fun h => by subst h; rw [e] at e2; cases e2; simp at h3
          simp [XEndT, hne]
        · have hxy : x = y := by simpa using h3
          subst hxy
          simp
          refine ⟨wrap_i64 (by omega) (by omega), k + 1, ⟨by omega, fun j hj => ?_⟩, by omega, ?_⟩
          · by_cases hjk : j = k
            · subst hjk; rw [e, e2]
            · exact hp j (by omega)
          · simp
      · simp at h
        have hk2 : k = xs.length := by omega
        have hxy : xs = ys := List.ext_getElem? fun j => by
          by_cases hj : j < k
          · exact hp j hj
          · rw [List.getElem?_eq_none (by omega), List.getElem?_eq_none (by omega)]
        simp [XEndT, hxy]


theorem c_pneumaticlaw25_few (c : Circuit) (l : List Plc) (hs : Sized c) : Pure Go.Proofs.Tryz.prog GL 10 [c.av, .p (.lst 2 (l.map Plc.enc))] (.p (.bool (fewP c && decide (l.length ≤ 70)))) := by
  refine Pure.of_walk (N := 12) Go.Proofs.Tryz.func10 rfl rfl rfl (by simp) (by first | (simp; done) | simp [*]) ?_
  simp
  refine xcall_pure (c_pneumaticref21_Few c hs) ?_
  cases hf : fewP c with
  | false => simp [XEndT]
  | true =>
    simp [XEndT]
    try omega

def wide25 : List Plc := [⟨0, 0⟩, ⟨3, 0⟩, ⟨4, 0⟩, ⟨1, 2⟩]
def tight25 : List Plc := [⟨0, 0⟩, ⟨3, 0⟩, ⟨4, 0⟩, ⟨1, 0⟩]
theorem k25_place : checkP fourC = 0 ∧ placedL fourC = tight25 := by decide +kernel
theorem k25_tight : layE fourC tight25 = 0 ∧ lenRes fourC tight25 = 6 ∧ drawRes fourC tight25 = [[65], [86], [46], [65, 48], [83]] := by decide +kernel
theorem k25_wide : layE fourC wide25 = 0 ∧ lenRes fourC wide25 = 12 ∧ crossRes fourC wide25 = 0 := by decide +kernel
theorem k25_arr : arrErr fourC wide25 1 = 0 ∧ arrRes fourC wide25 1 = wide25 := by
  have e1 : arrErr fourC wide25 1 = 0 := by decide +kernel
  have e2 : partsN wide25 1 wide25.length = [3] ∧ colsN wide25 1 wide25.length = [2] := by decide +kernel
  have e3 : sortI [2] = [2] := by simp [sortI]
  refine ⟨e1, ?_⟩
  unfold arrRes
  rw [if_neg (by simp [e1]), e2.1, e2.2, e3]
  decide +kernel
theorem few_names {c : Circuit} (hf : fewP c = true) (h : checkP c = 0) : ∀ p ∈ c.parts, p.name.length ≤ 60 := by
  have hok : fewOk c := by simpa [fewP] using hf
  have h2 := (check_parts h).2.1
  intro p hp
  obtain ⟨j, hj⟩ := List.mem_iff_getElem?.1 hp
  have hjl := (List.getElem?_eq_some_iff.1 hj).1
  have h3 := hok.2.2
  unfold fewLens at h3
  exact hok.1 j p (by omega) hj

set_option maxRecDepth 20000 in
theorem c_pneumaticlaw25_awake : Pure Go.Proofs.Tryz.prog GL 11 [] (.p (.bool true)) := by
  obtain ⟨hs, _⟩ := four_sized
  obtain ⟨a1, a2⟩ := k25_place
  obtain ⟨b1, b2, b3⟩ := k25_tight
  obtain ⟨d1, d2, d3⟩ := k25_wide
  obtain ⟨e1, e2⟩ := k25_arr
  have hnm : checkP fourC = 0 → ∀ p ∈ fourC.parts, p.name.length ≤ 60 := fun _ => by decide +kernel
  have hP := c_layout_Place fourC hs
  have hL1 := c_layout_Length fourC tight25 hs
  have hD := c_layout_Draw fourC tight25 hs hnm
  have hL2 := c_layout_Length fourC wide25 hs
  have hA := c_layout_Arrange fourC wide25 1 hs
  have hC := c_layout_Crossings fourC wide25 hs
  rw [a1, if_pos rfl, a2] at hP
  rw [b1, b2] at hL1
  rw [b1, b3] at hD
  rw [d1, d2] at hL2
  rw [e1, e2] at hA
  rw [d1, d3] at hC
  refine Pure.of_aevT (N := 99) Go.Proofs.Tryz.func11 rfl rfl rfl (by simp) rfl ?_
  refine AEv.seqY ?_
  simp
  refine AEv.seqY ?_
  simp
  refine xcall_pure (c_pneumaticlaw21_Four) ?_
  simp
  refine AEv.seqY ?_
  simp
  refine xcall_pure hP ?_
  simp
  refine AEv.seqY ?_
  simp
  refine xcall_pure hL1 ?_
  simp
  refine AEv.seqY ?_
  simp
  refine xcall_pure hD ?_
  simp
  refine AEv.seqY ?_
  simp
  refine AEv.leads (st := ⟨[(8, .p (.lst 2 (wide25.map Plc.enc))), (6, .p (.lst 1 ([[65], [86], [46], [65, 48], [83]].map Txt.enc))), (7, .p (.int .i64 0)), (4, .p (.int .i64 6)), (5, .p (.int .i64 0)), (2, .p (.lst 2 (tight25.map Plc.enc))), (3, .p (.int .i64 0)), (1, .ptr 0 2 0 0)], [(0, some (.cells 2 [[.p (.lst 3 (fourC.parts.map Part.enc)), .p (.lst 4 (fourC.pipes.map Pipe.enc))]]))], 1⟩) ?_ ?_
  · refine Leads.frz_sub (B := [1]) (ρ := [0]) [(8, .p (.lst 2 (wide25.map Plc.enc)))] [(1, none)] (Freeze.of _ _ ?_ (by simp) (by simp [keys])) ?_
    · intro p hp
      simp only [List.mem_cons, List.not_mem_nil, or_false] at hp
      subst hp
      exact .frz _ _ (.one _ _ (.rows (rows := wide25.map Plc.enc) (by simp) rfl rfl rfl))
    · simp
      try decide
  refine xc_sound ?_
  simp
  refine xcall_pure hL2 ?_
  simp
  refine xcall_pure hA ?_
  simp
  refine xcall_pure hC ?_
  simp
  refine xcall_lent ?_
  simp
  refine ⟨_, c_Eq_Plc tight25 tight25 (by decide), rfl, ?_⟩
  simp
  refine xcall_lent ?_
  simp
  refine ⟨_, c_Eq_Str [[65], [86], [46], [65, 48], [83]] [[65], [86], [46], [65, 48], [83]] (by decide), rfl, ?_⟩
  simp
  refine xcall_pure (c_Eq_Plc wide25 wide25 (by decide)) ?_
  simp [XEndT]
end Go.Am
