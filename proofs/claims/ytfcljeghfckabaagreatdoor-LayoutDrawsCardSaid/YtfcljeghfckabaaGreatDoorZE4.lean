/- Lemmas and contracts for the proof of a statement of this seat. -/
import Derived.Test.YtfcljeghfckabaaGreatDoorZE2
import Derived.Shelf.Strings.FieldsAny
import Derived.Test.YtfcljeghfckabaaGreatDoorZE3
import Derived.Test.YtfcljeghfckabaaGreatDoorZA8
set_option linter.unusedVariables false
set_option linter.unusedSimpArgs false
/- Contracts of the library: strings.Fields of any text; chapter 25. -/
namespace Go.Am
open Go Go.Proofs Go.Shelf Go.RowKit

def whiteRow : List PV := [.full 3 ((List.range 7).map fun i => (List.range 3).map fun j => .int .u16 (Lib.whiteT.getD (3 * i + j) 0)), .nilsl, .int .i64 2]
def GL3 : Globs := GL2 ++ [(1, 1, [[.ptr whiteRow]])]
theorem GL_three : ∀ x ∈ GL2, x ∈ GL3 := fun x hx => List.mem_append_left _ hx
theorem GL_one_three : ∀ x ∈ GL, x ∈ GL3 := fun x hx => GL_three x (GL_two x hx)

theorem tab_of {own : Nat → Prop} {w : World} (hg : GlobOk GL2 own w) : ∀ c : Nat, c < 256 → w.cell? ⟨fldLays_ren.g 0, c, none⟩ = some (.int .u8 (if Lib.isSp (UInt8.ofNat c) then 1 else 0)) := fun c hc => by
  have h1 := (hg 0 256 [Lib.asciiSpaceTab.map (PV.int .u8)] (List.mem_append_right _ (by simp))).2.2 0 c _ (PV.int .u8 (if Lib.isSp (UInt8.ofNat c) then 1 else 0)) rfl (by
    rw [List.getElem?_map, List.getElem?_eq_getElem (by rw [Lib.asciiSpaceTab_length]; exact hc)]
    have := Lib.asciiSpaceTab_at c hc
    rw [List.getD, List.getElem?_eq_getElem (by rw [Lib.asciiSpaceTab_length]; exact hc)] at this
    simp only [Option.getD_some] at this
    rw [this]; rfl)
  obtain ⟨v, h2, h3⟩ := h1
  cases h3
  have e0 : fldLays_ren.g 0 = 0 := by kernel_rfl
  rw [e0]
  simpa using h2

theorem white_of {own : Nat → Prop} {w : World} (hg : GlobOk GL3 own w) : Lib.WhiteTab (fldLays_ren.g 6) w := by
  have e0 : fldLays_ren.g 6 = 1 := by kernel_rfl
  rw [e0]
  obtain ⟨v, h1, h2⟩ := (hg 1 1 [[.ptr whiteRow]] (List.mem_append_right _ (by simp))).2.2 0 0 _ (.ptr whiteRow) rfl rfl
  cases h2 with
  | ptr row T oT cell hβ hown hc hv =>
    have a0 := hc 0 _ rfl
    have a1 := hc 1 _ rfl
    have a2 := hc 2 _ rfl
    have b0 := hv 0 _ rfl
    have b1 := hv 1 _ rfl
    have b2 := hv 2 _ rfl
    generalize cell 0 = v0 at a0 b0
    generalize cell 1 = v1 at a1 b1
    generalize cell 2 = v2 at a2 b2
    cases b1; cases b2
    cases b0 with
    | full k rows R oR n cel hn hβ' hown' hc' hv' =>
      have hn7 : n = 7 := by rw [← hn]; rfl
      subst hn7
      refine ⟨T, oT, R, oR, by simpa using h1, by simpa using a0, a1, a2, fun i hi => ?_⟩
      have hr : ((List.range 7).map fun i => (List.range 3).map fun j => PV.int .u16 (Lib.whiteT.getD (3 * i + j) 0))[i / 3]? = some ((List.range 3).map fun j => PV.int .u16 (Lib.whiteT.getD (3 * (i / 3) + j) 0)) := by
        rw [List.getElem?_map, List.getElem?_range (by omega)]; rfl
      have hx : ((List.range 3).map fun j => PV.int .u16 (Lib.whiteT.getD (3 * (i / 3) + j) 0))[i % 3]? = some (PV.int .u16 (Lib.whiteT.getD i 0)) := by
        rw [List.getElem?_map, List.getElem?_range (Nat.mod_lt _ (by omega))]
        simp only [Option.map_some]
        rw [show 3 * (i / 3) + i % 3 = i by omega]
      have h3 := hc' _ _ _ _ hr hx
      have h4 := hv' _ _ _ _ hr hx
      generalize cel (i / 3) (i % 3) = y at h3 h4
      cases h4
      rw [← h3, show oR + i = oR + i / 3 * 3 + i % 3 by omega]

set_option maxRecDepth 100000 in
theorem c_FieldsAny (s : List UInt8) (hl : s.length < 4294967281) : Pure Go.Proofs.Tryz.prog GL3 56 [.p (.str s)] (.p (.lst 1 ((Lib.fieldsD s).map fun x => [PV.str x]))) := by
  refine Pure.of_below Go.Proofs.Tryz.func56 (by kernel_rfl) rfl rfl fun own w vs hg hs hlen hv => ?_
  match vs, hlen with
  | [a], _ =>
    have ea := vr_str (hv 0 _ a rfl rfl)
    subst ea
    have hT := tab_of (own := own) (w := w) fun g k rows hm => hg g k rows (GL_three _ hm)
    have hW := white_of hg
    by_cases ha : ∀ b ∈ s, b.toNat < 128
    · rw [Lib.fieldsD_ascii s ha]
      refine Calls.mono (Any.strings_Fields_core fldLays (by kernel_rfl) ⟨⟨s⟩⟩ w (by simpa [ByteArray.size] using hl) (fun j b hb => ha b (List.mem_of_getElem? hb)) hT) ?_
      rintro e w' ⟨rfl, rfl⟩
      exact ⟨_, rfl, vr_strs _ hs, (Below.refl _ _).alloc (Nat.le_refl _) _⟩
    · have hhigh : ∃ (j : Nat) (b : UInt8), (⟨⟨s⟩⟩ : ByteArray).data.toList[j]? = some b ∧ 128 ≤ b.toNat := by
        have : ∃ b ∈ s, ¬ b.toNat < 128 := by
          apply Classical.byContradiction
          intro hn
          exact ha fun b hb => Classical.byContradiction fun h => hn ⟨b, hb, h⟩
        obtain ⟨b, hb, h8⟩ := this
        obtain ⟨j, hj⟩ := List.getElem?_of_mem hb
        exact ⟨j, b, hj, by omega⟩
      have c := Any.strings_Fields_beyond fldLays (by kernel_rfl) (by kernel_rfl) ⟨⟨s⟩⟩ w (by simpa [ByteArray.size] using hl) hhigh hT hW
      rw [Lib.goFields_values, Lib.goFields_count] at c
      refine Calls.mono c ?_
      rintro e w' ⟨A, rfl, _, h2, h3⟩
      exact ⟨_, rfl, vr_row_str hs h2, h3⟩
end Go.Am
/- Plain: where words stand in lines, and the words of a drawing; chapter 25. -/
namespace Go.Am
open Go Go.Proofs Go.Pn

def lookW (n : Txt) (ws : List Txt) (k : Nat) (o : Option Plc) : Nat → Option Plc
  | 0 => o
  | j + 1 => match ws[j]? with | some w => if w = n then some ⟨k, j⟩ else lookW n ws k o j | none => lookW n ws k o j
def lookL (F : Txt → List Txt) (n : Txt) (lines : List Txt) : Nat → Option Plc
  | 0 => none
  | k + 1 => match lines[k]? with | some s => lookW n (F s) k (lookL F n lines k) (F s).length | none => lookL F n lines k
def tellL (F : Txt → List Txt) (c : Circuit) (lines : List Txt) (k : Nat) : List Plc := c.parts.map fun q => (lookL F q.name lines k).getD ⟨0, 0⟩
theorem tellL_len {F : Txt → List Txt} {c : Circuit} {lines : List Txt} {k : Nat} : (tellL F c lines k).length = c.parts.length := by simp [tellL]

theorem look_row {c : Circuit} {l : List Plc} (h : checkP c = 0) (hL : LayOk c l) {m : Nat} {p : Plc} {q : Part} (e1 : l[m]? = some p) (e2 : c.parts[m]? = some q) {i : Nat} {o : Option Plc} : ∀ {n : Nat}, n ≤ (cellsL c l i).length →
    lookW q.name (cellsL c l i) i o n = if p.row = i ∧ p.col < n then some p else o
  | 0, _ => by
    have := hL.col p (List.mem_of_getElem? e1)
    rw [if_neg (by omega)]; rfl
  | n + 1, hn => by
    have ih := @look_row c l h hL m p q e1 e2 i o n (by omega)
    have hc := cell_iff h hL e1 e2 i n
    rw [lookW, cellsL_at (by omega)]
    simp only
    rw [ih]
    by_cases h1 : p = ⟨i, (n : Int)⟩
    · rw [if_pos (hc.2 h1), if_pos (by rw [h1]; simp; omega), h1]
    · rw [if_neg (fun h3 => h1 (hc.1 h3))]
      by_cases h3 : p.row = i ∧ p.col < n
      · rw [if_pos h3, if_pos ⟨h3.1, by omega⟩]
      · have h4 : ¬ (p.row = i ∧ p.col < ((n + 1 : Nat) : Int)) := by
          rintro ⟨h5, h6⟩
          have h7 : p.col = n := by
            by_cases h8 : p.col < n
            · exact absurd ⟨h5, h8⟩ h3
            · omega
          exact h1 (by cases p; simp only at h5 h7; subst h5; subst h7; rfl)
        rw [if_neg h3, if_neg h4]
theorem look_drawn {F : Txt → List Txt} {c : Circuit} {l : List Plc} (h : checkP c = 0) (hL : LayOk c l) (hF : ∀ i : Nat, F (drawRow c l i) = cellsL c l i) {m : Nat} {p : Plc} {q : Part} (e1 : l[m]? = some p) (e2 : c.parts[m]? = some q) : ∀ {n : Nat}, n ≤ 5 →
    lookL F q.name (drawN c l 5) n = if p.row < n then some p else none
  | 0, _ => by
    have := hL.near p (List.mem_of_getElem? e1)
    rw [if_neg (by omega)]; rfl
  | n + 1, hn => by
    have ih := @look_drawn F c l h hL hF m p q e1 e2 n (by omega)
    have hc := colT_mem (n := l.length) (List.getElem?_eq_some_iff.1 e1).1 e1
    have hcl := @cellsL_len c l n
    rw [lookL, drawN_at (by omega)]
    simp only
    rw [hF, look_row h hL e1 e2 (Nat.le_refl _), ih]
    by_cases h1 : p.row = n
    · rw [if_pos ⟨h1, by omega⟩, if_pos (by omega)]
    · rw [if_neg (fun h2 => h1 h2.1)]
      by_cases h3 : p.row < n
      · rw [if_pos h3, if_pos (by omega)]
      · rw [if_neg h3, if_neg (by omega)]
theorem tell_drawn {F : Txt → List Txt} {c : Circuit} {l : List Plc} (h : checkP c = 0) (hL : LayOk c l) (hF : ∀ i : Nat, F (drawRow c l i) = cellsL c l i) : tellL F c (drawN c l 5) 5 = l := by
  apply List.ext_getElem?
  intro m
  unfold tellL
  by_cases hm : m < l.length
  · obtain ⟨p, e1⟩ := get_lt hm
    obtain ⟨q, e2⟩ := get_lt (show m < c.parts.length by rw [← hL.len]; exact hm)
    have := hL.near p (List.mem_of_getElem? e1)
    rw [List.getElem?_map, e2, e1, Option.map_some, look_drawn h hL hF e1 e2 (Nat.le_refl _), if_pos (by omega)]
    rfl
  · rw [List.getElem?_eq_none (by simp; rw [← hL.len]; omega), List.getElem?_eq_none (by omega)]

theorem fldK_fields {s : Txt} (hs : ∀ b ∈ s, Lib.isSp b = decide (b = 32)) : ∀ {k : Nat}, k ≤ s.length → (fldK s k).1 ++ Lib.fieldsGo (fldK s k).2 (s.drop k) = Lib.fields s
  | 0, _ => by simp [fldK, Lib.fields]
  | k + 1, hk => by
    have ih := @fldK_fields s hs k (by omega)
    obtain ⟨b, e⟩ := get_lt (show k < s.length by omega)
    have hd : s.drop k = b :: s.drop (k + 1) := by
      rw [List.drop_eq_getElem_cons (by omega)]
      rw [List.getElem?_eq_getElem (by omega)] at e
      cases e; rfl
    have hb := hs b (List.mem_of_getElem? e)
    rw [hd] at ih
    simp only [fldK, e]
    rw [← ih]
    by_cases h32 : b = 32
    · subst h32
      have hb' : Lib.isSp 32 = true := by rw [hb]; rfl
      rw [if_neg (by simp)]
      simp only [Lib.fieldsGo, hb', if_true]
      by_cases h0 : (fldK s k).2 = []
      · simp [h0]
      · rw [if_neg h0]
        cases h1 : (fldK s k).2 with
        | nil => exact absurd h1 h0
        | cons x r => simp
    · have hb' : Lib.isSp b = false := by rw [hb]; simpa using h32
      rw [if_pos h32]
      simp only [Lib.fieldsGo, hb']
      simp
theorem fldR_fields {s : Txt} (hs : ∀ b ∈ s, Lib.isSp b = decide (b = 32)) : fldR s = Lib.fields s := by
  have h := @fldK_fields s hs s.length (Nat.le_refl _)
  rw [List.drop_length] at h
  rw [← h]
  unfold fldR
  have hn : s[s.length]? = none := List.getElem?_eq_none (Nat.le_refl _)
  simp only [fldK, hn, Lib.fieldsGo]
  cases h1 : (fldK s s.length).2 with
  | nil => simp
  | cons x r => simp

theorem idx_name {c : Circuit} (h : checkP c = 0) {w : Txt} : (idxI c.parts (fun p => decide (p.name = w)) < 0 ∧ ∀ (m : Nat) (q : Part), c.parts[m]? = some q → q.name ≠ w) ∨
    ∃ (m : Nat) (q : Part), idxI c.parts (fun p => decide (p.name = w)) = m ∧ c.parts[m]? = some q ∧ q.name = w ∧ ∀ (m' : Nat) (q' : Part), c.parts[m']? = some q' → q'.name = w → m' = m := by
  by_cases h0 : idxI c.parts (fun p => decide (p.name = w)) = -1
  · refine .inl ⟨by omega, fun m q hq hn => ?_⟩
    have := idxI_neg h0 q (List.mem_of_getElem? hq)
    simp [hn] at this
  · obtain ⟨m, q, h1, h2, h3, _⟩ := idxI_pos h0
    have h3' : q.name = w := by simpa using h3
    exact .inr ⟨m, q, h1, h2, h3', fun m' q' e' hn => names_inj h e' h2 (by rw [hn, h3'])⟩
theorem noteL_tell {F : Txt → List Txt} {c : Circuit} (h : checkP c = 0) {ws : List Txt} {i : Nat} {o : Part → Option Plc} {G : List Plc} (hG : G = c.parts.map fun q => (o q).getD ⟨0, 0⟩) : ∀ {j : Nat},
    noteL c ws i G j = c.parts.map fun q => (lookW q.name ws i (o q) j).getD ⟨0, 0⟩
  | 0 => hG
  | j + 1 => by
    have ih := @noteL_tell F c h ws i o G hG j
    simp only [noteL]
    cases e : ws[j]? with
    | none => simp only [lookW, e]; exact ih
    | some w =>
      simp only [lookW, e]
      rw [ih]
      unfold noteW
      rcases @idx_name c h w with ⟨h1, h2⟩ | ⟨m, q, h1, h2, h3, h4⟩
      · rw [if_pos h1]
        apply List.map_congr_left
        intro q hq
        obtain ⟨m, hm⟩ := List.mem_iff_getElem?.1 hq
        rw [if_neg (fun h5 => h2 m q hm h5.symm)]
      · rw [if_neg (by omega), h1]
        apply List.ext_getElem?
        intro m'
        rw [List.getElem?_set]
        simp only [List.getElem?_map, List.length_map, Int.toNat_natCast]
        by_cases hm : m = m'
        · subst hm
          rw [if_pos rfl, if_pos (List.getElem?_eq_some_iff.1 h2).1, h2]
          simp [h3]
        · rw [if_neg hm]
          cases e3 : c.parts[m']? with
          | none => rfl
          | some q' => simp only [Option.map_some]; rw [if_neg (fun h5 => hm (h4 m' q' e3 h5.symm).symm)]
theorem guess_tell {c : Circuit} (h : checkP c = 0) {lines : List Txt} : ∀ {i : Nat}, guessK c lines i = tellL fldR c lines i
  | 0 => by
    unfold tellL guessK lookL
    simp [List.map_const']
  | i + 1 => by
    have ih := @guess_tell c h lines i
    unfold tellL
    simp only [guessK, lookL]
    cases lines[i]? with
    | none => exact ih
    | some s => exact noteL_tell (F := fldR) h ih

theorem read_same {c : Circuit} {lines : List Txt} {G H : List Plc} (hG : ∀ l, checkP c = 0 → LayOk c l → drawN c l 5 = lines → G = l) (hH : ∀ l, checkP c = 0 → LayOk c l → drawN c l 5 = lines → H = l) : readErr c lines G = readErr c lines H ∧ readRes c lines G = readRes c lines H := by
  by_cases h : checkP c = 0
  · by_cases h1 : layE c G = 0 ∧ drawN c G 5 = lines
    · obtain ⟨_, hL⟩ := layE_zero.1 h1.1
      have := hH G h hL h1.2
      rw [this]; exact ⟨rfl, rfl⟩
    · by_cases h2 : layE c H = 0 ∧ drawN c H 5 = lines
      · obtain ⟨_, hL⟩ := layE_zero.1 h2.1
        have := hG H h hL h2.2
        rw [this]; exact ⟨rfl, rfl⟩
      · have e1 : readErr c lines G = 4 := by unfold readErr; rw [if_neg (by simpa using h), if_neg h1]
        have e2 : readErr c lines H = 4 := by unfold readErr; rw [if_neg (by simpa using h), if_neg h2]
        refine ⟨by rw [e1, e2], ?_⟩
        unfold readRes
        rw [e1, e2]; rfl
  · have e1 : readErr c lines G = checkP c := if_pos h
    have e2 : readErr c lines H = checkP c := if_pos h
    refine ⟨by rw [e1, e2], ?_⟩
    unfold readRes
    rw [e1, e2, if_neg h, if_neg h]

theorem line_sp {c : Circuit} {l : List Plc} {i : Int} (h : CellsOk c l i) : ∀ {n : Nat}, ∀ b ∈ lineN c l i n, Lib.isSp b = decide (b = 32)
  | 0, b, hb => by simp [lineN] at hb
  | n + 1, b, hb => by
    simp only [lineN, List.mem_append] at hb
    rcases hb with hb | hb | hb
    · exact line_sp h b hb
    · have h1 := h.sp n b hb
      have h2 : b ≠ 32 := fun e => by subst e; revert h1; decide
      rw [h1]; simpa using h2
    · have : ∀ (m : Nat) (b : UInt8), b ∈ Lib.repeatL [32] m → b = 32 := fun m => by
        induction m with
        | zero => intro b hb; simp [Lib.repeatL] at hb
        | succ m ih => intro b hb; rw [rep_succ] at hb; rcases List.mem_cons.1 hb with h | h; exact h; exact ih b h
      rw [this _ b hb]; decide
theorem rowSp {c : Circuit} {l : List Plc} (h : checkP c = 0) (hL : LayOk c l) (i : Int) : ∀ b ∈ drawRow c l i, Lib.isSp b = decide (b = 32) := by
  intro b hb
  by_cases h0 : 0 < l.length
  · exact line_sp (cells_ok h hL h0 i) b (trim_mem hb)
  · have e : l = [] := List.length_eq_zero_iff.1 (by omega)
    subst e
    cases hb
theorem fldR_drawn {c : Circuit} {l : List Plc} (h : checkP c = 0) (hL : LayOk c l) (i : Nat) : fldR (drawRow c l i) = cellsL c l i := by
  rw [fldR_fields (rowSp h hL i), fieldsRow h hL]; rfl
theorem fieldsD_drawn {c : Circuit} {l : List Plc} (h : checkP c = 0) (hL : LayOk c l) (i : Nat) : Lib.fieldsD (drawRow c l i) = cellsL c l i := by
  rw [Lib.fieldsD_ascii _ (rowSmall h hL i), fieldsRow h hL]; rfl
theorem reads_alike {c : Circuit} {lines : List Txt} : readErr c lines (tellL Lib.fieldsD c lines 5) = readErr c lines (guessK c lines lines.length) ∧ readRes c lines (tellL Lib.fieldsD c lines 5) = readRes c lines (guessK c lines lines.length) := by
  refine read_same (fun l h hL e => ?_) (fun l h hL e => ?_)
  · subst e; exact tell_drawn h hL (fieldsD_drawn h hL)
  · subst e
    rw [guess_tell h, drawN_len]; exact tell_drawn h hL (fldR_drawn h hL)
end Go.Am
/- Contracts: layout.Read on any lines; chapter 25. -/
namespace Go.Am
open Go Go.Proofs Go.Pn

noncomputable def wordE (ws : List Txt) (i : Nat) (es : List (AV × AV)) : Nat → List (AV × AV)
  | 0 => es
  | j + 1 => match ws[j]? with | some w => setA (wordE ws i es j) (.p (.str w)) (⟨(i : Int), (j : Int)⟩ : Plc).av | none => wordE ws i es j
noncomputable def lineE (F : Txt → List Txt) (lines : List Txt) : Nat → List (AV × AV)
  | 0 => []
  | i + 1 => match lines[i]? with | some s => wordE (F s) i (lineE F lines i) (F s).length | none => lineE F lines i
theorem okW_word {ws : List Txt} {i : Nat} {es : List (AV × AV)} (h : OkW es) : ∀ {j : Nat}, OkW (wordE ws i es j)
  | 0 => h
  | j + 1 => by
    have ih := okW_word (ws := ws) (i := i) h (j := j)
    simp only [wordE]
    cases ws[j]? with
    | none => exact ih
    | some w => exact okW_set ih
theorem okW_line {F : Txt → List Txt} {lines : List Txt} : ∀ {i : Nat}, OkW (lineE F lines i)
  | 0 => fun e he => by cases he
  | i + 1 => by
    have ih := @okW_line F lines i
    simp only [lineE]
    cases lines[i]? with
    | none => exact ih
    | some s => exact okW_word ih
theorem word_look {n : Txt} {ws : List Txt} {i : Nat} {es : List (AV × AV)} {o : Option Plc} (h : assocA es (.p (.str n)) = o.map Plc.av) : ∀ {j : Nat}, assocA (wordE ws i es j) (.p (.str n)) = (lookW n ws i o j).map Plc.av
  | 0 => h
  | j + 1 => by
    have ih := @word_look n ws i es o h j
    simp only [wordE, lookW]
    cases ws[j]? with
    | none => exact ih
    | some w =>
      simp only
      rw [assoc_set, ih]
      by_cases hw : w = n
      · subst hw; rw [if_pos rfl, if_pos rfl]; rfl
      · rw [if_neg (by simpa using hw), if_neg hw]
theorem line_look {F : Txt → List Txt} {n : Txt} {lines : List Txt} : ∀ {i : Nat}, assocA (lineE F lines i) (.p (.str n)) = (lookL F n lines i).map Plc.av
  | 0 => rfl
  | i + 1 => by
    have ih := @line_look F n lines i
    simp only [lineE, lookL]
    cases lines[i]? with
    | none => exact ih
    | some s => exact word_look ih
theorem fieldsGoD_len : ∀ {f : Nat} {cur l : Txt}, (Lib.fieldsGoD f cur l).length ≤ f + 1
  | 0, cur, l => by
    unfold Lib.fieldsGoD
    split <;> simp
  | f + 1, cur, l => by
    have i1 := @fieldsGoD_len f [] (l.drop (Lib.decodeL l).2)
    have i2 := @fieldsGoD_len f (cur ++ l.take (Lib.decodeL l).2) (l.drop (Lib.decodeL l).2)
    unfold Lib.fieldsGoD
    split
    · split <;> simp
    · split
      · split
        · simp; omega
        · simp; omega
      · omega
theorem fieldsD_len {s : Txt} (h : s.length < 4294967281) : (Lib.fieldsD s).length < 4611686018427387904 := by
  have := @fieldsGoD_len (s.length + 1) [] s
  unfold Lib.fieldsD
  omega

set_option maxRecDepth 20000 in
theorem c_layout_Read (c : Circuit) (lines : List Txt) (hs : Sized c) (hn : lines.length ≤ 100) (hl : ∀ s ∈ lines, s.length ≤ 1000) (hw : checkP c = 0 → ∀ p ∈ c.parts, p.name.length ≤ 60) :
    Pure Go.Proofs.Tryz.prog GL3 31 [c.av, .p (.lst 1 (lines.map Txt.enc))] (.tup [.p (.lst 2 ((readRes c lines (tellL Lib.fieldsD c lines 5)).map Plc.enc)), .p (.int .i64 (readErr c lines (tellL Lib.fieldsD c lines 5)))]) := by
  have hCk := (c_circuit_Check c hs).wider GL_one_three
  refine Pure.of_aevT (N := 79) Go.Proofs.Tryz.func31 rfl rfl rfl (by simp) rfl ?_
  by_cases h : ¬ checkP c = 0
  · have e1 : readErr c lines (tellL Lib.fieldsD c lines 5) = checkP c := if_pos h
    have e2 : readRes c lines (tellL Lib.fieldsD c lines 5) = [] := if_neg (by rw [e1]; exact h)
    rw [e1, e2]
    refine AEv.seqY ?_
    simp
    refine AEv.seqY ?_
    simp
    refine xcall_pure hCk ?_
    simp [h, XEndT]
  simp only [Decidable.not_not] at h
  rw [h] at hCk
  refine AEv.seqY ?_
  simp
  refine AEv.seqY ?_
  simp
  refine xcall_pure hCk ?_
  simp
  by_cases h5 : ¬ lines.length = 5
  · have hne : ∀ G, ¬ (layE c G = 0 ∧ drawN c G 5 = lines) := fun G hG => h5 (by rw [← hG.2, drawN_len])
    have e1 : readErr c lines (tellL Lib.fieldsD c lines 5) = 4 := by unfold readErr; rw [if_neg (by simpa using h), if_neg (hne _)]
    have e2 : readRes c lines (tellL Lib.fieldsD c lines 5) = [] := if_neg (by rw [e1]; decide)
    rw [e1, e2]
    refine AEv.seqY ?_
    have h5' : ¬ (lines.length : Int) = 5 := by omega
    simp [h5', XEndT]
  simp only [Decidable.not_not] at h5
  refine AEv.seqY ?_
  simp [h5]
  refine AEv.seqY ?_
  simp
  refine AEv.seqY ?_
  simp
  refine XLoop.go [1, 2, 7, 24, 25] [0] 0 [] (fun _ => []) (fun _ (k : Nat) => [(26, .p (.int .i64 k))]) (fun _ k => [(1, some (.map (lineE Lib.fieldsD lines k)))]) (fun k => k ≤ 5) (fun k => 5 - k) 0 (by omega) ?_ ?_
  · simp [lineE]
    done
  intro k hk
  simp [h5]
  refine xif_split (fun h3 => ?_) (fun h3 => ?_)
  · simp at h3
    have hk5 : k < 5 := by omega
    obtain ⟨s, es⟩ := get_lt (show k < lines.length by omega)
    have hsl := hl s (List.mem_of_getElem? es)
    have hF := c_FieldsAny s (by omega)
    have hFl := @fieldsD_len s (by omega)
    have hE : lineE Lib.fieldsD lines (k + 1) = wordE (Lib.fieldsD s) k (lineE Lib.fieldsD lines k) (Lib.fieldsD s).length := by simp only [lineE, es]
    have hO := @okW_line Lib.fieldsD lines k
    rw [show (Lib.fieldsD s).map (fun x => [PV.str x]) = (Lib.fieldsD s).map Txt.enc from rfl] at hF
    generalize Lib.fieldsD s = ws at hF hFl hE ⊢
    generalize lineE Lib.fieldsD lines k = E0 at hE hO ⊢
    have hkl : k < lines.length := by omega
    simp [h3, es, hk5, hkl, -getElem?_pos, List.getElem?_cons_zero, List.getElem?_cons_succ]
    refine xcall_pure hF ?_
    simp
    refine XLoop.go [1, 2, 7, 8, 24, 25, 26, 32, 33] [0] 0 [] (fun _ => []) (fun _ (j : Nat) => [(34, .p (.int .i64 j))]) (fun _ j => [(1, some (.map (wordE ws k E0 j)))]) (fun j => j ≤ ws.length) (fun j => ws.length - j) 0 (by omega) ?_ ?_
    · simp [wordE, okW_ren hO]
      try decide
    intro j hj
    simp
    refine xif_split (fun h5 => ?_) (fun h5 => ?_)
    · simp at h5
      obtain ⟨w, ew⟩ := get_lt h5
      have hkey := eq_true (okW_keys (okW_word (ws := ws) (i := k) (j := j) hO) w)
      have hW : wordE ws k E0 (j + 1) = setA (wordE ws k E0 j) (.p (.str w)) (.agg [.p (.int .i64 k), .p (.int .i64 j)]) := by simp only [wordE, ew]; rfl
      simp [h5, ew, hkey, -getElem?_pos, List.getElem?_cons_zero, List.getElem?_cons_succ]
      refine ⟨wrap_i64 (by omega) (by omega), j + 1, by omega, by omega, by omega, ?_⟩
      rw [← hW]
      simp [okW_ren (okW_word hO)]
      done
    · simp at h5
      have hjl : j = ws.length := by omega
      subst hjl
      simp
      refine ⟨wrap_i64 (by omega) (by omega), k + 1, by omega, by omega, by omega, ?_⟩
      rw [← hE]
      simp [okW_ren okW_line]
      done
  simp at h3
  have hk5 : k = 5 := by omega
  subst hk5
  simp
  have hp := (check_parts h).2.1
  have hlook := fun n => @line_look Lib.fieldsD n lines 5
  have hO := @okW_line Lib.fieldsD lines 5
  have hTl := @tellL_len Lib.fieldsD c lines 5
  have hTk : ∀ (i : Nat) (q : Part), c.parts[i]? = some q → (tellL Lib.fieldsD c lines 5)[i]? = some ((lookL Lib.fieldsD q.name lines 5).getD ⟨0, 0⟩) := fun i q e => by unfold tellL; rw [List.getElem?_map, e]; rfl
  generalize lineE Lib.fieldsD lines 5 = E1 at hlook hO ⊢
  generalize tellL Lib.fieldsD c lines 5 = l at hTl hTk ⊢
  refine AEv.seqY ?_
  simp
  refine ⟨by omega, by omega, ?_⟩
  refine AEv.seqY ?_
  simp
  rw [← hTl]
  have hz : List.replicate l.length [AV.p (PV.int IntKind.i64 0), AV.p (PV.int IntKind.i64 0)] = (fillP l 0).map Plc.row_ := by simp [fillP]
  rw [hz]
  refine XLoop.go [1, 2, 7, 12, 51, 52] [0, 1] 0 [] (fun _ => []) (fun _ (i : Nat) => [(53, .p (.int .i64 i))]) (fun _ i => [(2, some (.cells 2 ((fillP l i).map Plc.row_)))]) (fun i => i ≤ l.length) (fun i => l.length - i) 0 (by omega) ?_ ?_
  · simp [okW_ren hO]
    try decide
  intro i hi
  have hfl := fillP_len hi
  simp
  refine xif_split (fun h3 => ?_) (fun h3 => ?_)
  · simp at h3
    obtain ⟨q, eq⟩ := get_lt (show i < c.parts.length by omega)
    have ep := hTk i q eq
    have hfs := fillP_snoc ep
    have hlk := hlook q.name
    have hkey := eq_true (okW_keys hO q.name)
    have hic : i < c.parts.length := by omega
    obtain ⟨r, er⟩ := get_lt (show i < (fillP l i).length by omega)
    cases ho : lookL Lib.fieldsD q.name lines 5 with
    | none =>
      rw [ho] at hlk hfs
      simp only [Option.map_none, Option.getD_none] at hlk hfs
      simp [h3, eq, hlk, hkey, hic, hfl, er, zeroV, -getElem?_pos, List.getElem?_cons_zero, List.getElem?_cons_succ]
      refine ⟨wrap_i64 (by omega) (by omega), i + 1, by omega, by omega, by omega, ?_⟩
      rw [set_rowP, hfs]
      simp [okW_ren hO]
      try decide
    | some p =>
      rw [ho] at hlk hfs
      simp only [Option.map_some, Option.getD_some] at hlk hfs
      simp [h3, eq, hlk, hkey, hic, hfl, er, -getElem?_pos, List.getElem?_cons_zero, List.getElem?_cons_succ]
      refine ⟨wrap_i64 (by omega) (by omega), i + 1, by omega, by omega, by omega, ?_⟩
      rw [set_rowP, hfs]
      simp [okW_ren hO]
      try decide
  simp at h3
  have hil : i = l.length := by omega
  subst hil
  rw [fillP_all]
  have hpl := (c_layout_placed c l hs h).wider GL_one_three
  simp
  refine AEv.leads (st := ⟨[(12, .p (.lst 2 (l.map Plc.enc))), (1, .p (.lst 1 (lines.map Txt.enc))), (2, .ptr 0 2 0 0)], [(0, some (.cells 2 [[.p (.lst 3 (c.parts.map Part.enc)), .p (.lst 4 (c.pipes.map Pipe.enc))]]))], 1⟩) ?_ (xc_sound ?_)
  · refine Leads.frz_sub (B := [2]) (ρ := [0]) [(12, .p (.lst 2 (l.map Plc.enc)))] [(2, none)] (Freeze.of _ _ ?_ (by simp) (by simp [keys])) ?_
    · intro p hp
      simp only [List.mem_cons, List.not_mem_nil, or_false] at hp
      subst hp
      exact FrzK.refRows (rows := l.map Plc.row_) (by simp) (by simp [get]) (by rw [List.drop_zero, List.take_of_length_le (by simp), List.map_map]; rfl) (by simp)
    · simp
  simp
  refine xcall_pure hpl ?_
  by_cases h2 : placedE c l = 0
  · have hL := placedE_zero.1 h2
    have hdr := (c_layout_draw c l hL.len (by omega) hL.near hL.nd (hw h)).wider GL_one_three
    have heq := (c_Eq_Str (drawN c l 5) lines (by rw [drawN_len]; omega)).wider GL_one_three
    simp [h2]
    refine xcall_pure hdr ?_
    simp
    refine xcall_pure heq ?_
    have h2' : layE c l = 0 := layE_zero.2 ⟨h, hL⟩
    by_cases h3 : drawN c l 5 = lines
    · have e1 : readErr c lines l = 0 := by unfold readErr; rw [if_neg (by simpa using h), if_pos ⟨h2', h3⟩]
      have e2 : readRes c lines l = l := if_pos e1
      simp [h3, XEndT, e1, e2]
    · have e1 : readErr c lines l = 4 := by unfold readErr; rw [if_neg (by simpa using h), if_neg (fun h4 => h3 h4.2)]
      have e2 : readRes c lines l = [] := if_neg (by rw [e1]; decide)
      simp [h3, XEndT, e1, e2]
  · have e1 : readErr c lines l = 4 := by unfold readErr; rw [if_neg (by simpa using h), if_neg (fun h4 => h2 (placedE_zero.2 (layE_zero.1 h4.1).2))]
    have e2 : readRes c lines l = [] := if_neg (by rw [e1]; decide)
    simp [h2, XEndT, e1, e2]
end Go.Am
