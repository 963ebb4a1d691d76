/- Lemmas and contracts for the proof of a statement of this seat. -/
import Derived.Test.YtfcljeghfckabaaGreatDoorZD3
import Derived.Shelf.Strings.Fields
import Derived.Test.YtfcljeghfckabaaGreatDoorZD8
import Derived.Test.YtfcljeghfckabaaGreatDoorZA6
import Derived.Test.YtfcljeghfckabaaGreatDoorZCG
import Derived.Test.YtfcljeghfckabaaGreatDoorZA8
set_option linter.unusedVariables false
set_option linter.unusedSimpArgs false
/- Contracts of the library: strings.Fields of a text of small bytes. -/
namespace Go.Am
open Go Go.Proofs Go.Shelf Go.RowKit

def GL2 : Globs := GL ++ [(0, 256, [Lib.asciiSpaceTab.map (PV.int .u8)])]
theorem GL_two : ∀ x ∈ GL, x ∈ GL2 := fun x hx => List.mem_append_left _ hx

def fldLays_ren : Ren := ⟨fun k => match k with | 157 => 56 | 229 => 96 | 199 => 97 | 261 => 138 | 311 => 167 | 312 => 168 | k => k, fun k => match k with | 9 => 9 | 31 => 55 | 3 => 3 | 5 => 5 | 4 => 4 | 119 => 140 | 0 => 0 | 40 => 142 | 152 => 201 | 21 => 21 | 154 => 203 | 51 => 114 | 141 => 205 | 196 => 242 | 193 => 239 | 198 => 245 | 49 => 243 | 194 => 240 | 201 => 248 | 226 => 268 | 46 => 83 | 227 => 269 | k => k, fun k => match k with | 0 => 0 | 6 => 1 | k => k⟩
set_option maxRecDepth 100000 in
theorem fldLays : Lays.n157 Go.Proofs.Tryz.prog fldLays_ren where
  mixed := by kernel_rfl
  g0 := by kernel_rfl
  g6 := by kernel_rfl
  f157 := Go.Proofs.Tryz.func56.trans (by kernel_rfl)
  f199 := Go.Proofs.Tryz.func97.trans (by kernel_rfl)
  f229 := Go.Proofs.Tryz.func96.trans (by kernel_rfl)
  f261 := Go.Proofs.Tryz.func138.trans (by kernel_rfl)
  f311 := Go.Proofs.Tryz.func167.trans (by kernel_rfl)
  f312 := Go.Proofs.Tryz.func168.trans (by kernel_rfl)
  t0 := Go.Proofs.Tryz.underlying0
  a0 := Go.Proofs.Tryz.isAgg0
  z0 := Go.Proofs.Tryz.sizeOf0
  v0 := Go.Proofs.Tryz.zeroValue0
  t3 := Go.Proofs.Tryz.underlying3
  a3 := Go.Proofs.Tryz.isAgg3
  z3 := Go.Proofs.Tryz.sizeOf3
  v3 := Go.Proofs.Tryz.zeroValue3
  t4 := Go.Proofs.Tryz.underlying4
  a4 := Go.Proofs.Tryz.isAgg4
  z4 := Go.Proofs.Tryz.sizeOf4
  v4 := Go.Proofs.Tryz.zeroValue4
  t5 := Go.Proofs.Tryz.underlying5
  a5 := Go.Proofs.Tryz.isAgg5
  z5 := Go.Proofs.Tryz.sizeOf5
  v5 := Go.Proofs.Tryz.zeroValue5
  t9 := Go.Proofs.Tryz.underlying9
  a9 := Go.Proofs.Tryz.isAgg9
  z9 := Go.Proofs.Tryz.sizeOf9
  v9 := Go.Proofs.Tryz.zeroValue9
  t21 := Go.Proofs.Tryz.underlying21
  a21 := Go.Proofs.Tryz.isAgg21
  z21 := Go.Proofs.Tryz.sizeOf21
  v21 := Go.Proofs.Tryz.zeroValue21
  t31 := Go.Proofs.Tryz.underlying55
  a31 := Go.Proofs.Tryz.isAgg55
  z31 := Go.Proofs.Tryz.sizeOf55
  v31 := Go.Proofs.Tryz.zeroValue55
  t40 := Go.Proofs.Tryz.underlying142
  a40 := Go.Proofs.Tryz.isAgg142
  z40 := Go.Proofs.Tryz.sizeOf142
  v40 := Go.Proofs.Tryz.zeroValue142
  t46 := Go.Proofs.Tryz.underlying83
  a46 := Go.Proofs.Tryz.isAgg83
  z46 := Go.Proofs.Tryz.sizeOf83
  v46 := Go.Proofs.Tryz.zeroValue83
  t49 := Go.Proofs.Tryz.underlying243
  a49 := Go.Proofs.Tryz.isAgg243
  z49 := Go.Proofs.Tryz.sizeOf243
  v49 := Go.Proofs.Tryz.zeroValue243
  t51 := Go.Proofs.Tryz.underlying114
  a51 := Go.Proofs.Tryz.isAgg114
  z51 := Go.Proofs.Tryz.sizeOf114
  v51 := Go.Proofs.Tryz.zeroValue114
  t119 := Go.Proofs.Tryz.underlying140
  a119 := Go.Proofs.Tryz.isAgg140
  z119 := Go.Proofs.Tryz.sizeOf140
  t141 := Go.Proofs.Tryz.underlying205
  a141 := Go.Proofs.Tryz.isAgg205
  z141 := Go.Proofs.Tryz.sizeOf205
  v141 := Go.Proofs.Tryz.zeroValue205
  t152 := Go.Proofs.Tryz.underlying201
  a152 := Go.Proofs.Tryz.isAgg201
  z152 := Go.Proofs.Tryz.sizeOf201
  v152 := Go.Proofs.Tryz.zeroValue201
  t154 := Go.Proofs.Tryz.underlying203
  a154 := Go.Proofs.Tryz.isAgg203
  z154 := Go.Proofs.Tryz.sizeOf203
  v154 := Go.Proofs.Tryz.zeroValue203
  t193 := Go.Proofs.Tryz.underlying239
  a193 := Go.Proofs.Tryz.isAgg239
  z193 := Go.Proofs.Tryz.sizeOf239
  v193 := Go.Proofs.Tryz.zeroValue239
  t194 := Go.Proofs.Tryz.underlying240
  a194 := Go.Proofs.Tryz.isAgg240
  z194 := Go.Proofs.Tryz.sizeOf240
  v194 := Go.Proofs.Tryz.zeroValue240
  t196 := Go.Proofs.Tryz.underlying242
  a196 := Go.Proofs.Tryz.isAgg242
  z196 := Go.Proofs.Tryz.sizeOf242
  v196 := Go.Proofs.Tryz.zeroValue242
  t198 := Go.Proofs.Tryz.underlying245
  a198 := Go.Proofs.Tryz.isAgg245
  z198 := Go.Proofs.Tryz.sizeOf245
  v198 := Go.Proofs.Tryz.zeroValue245
  t201 := Go.Proofs.Tryz.underlying248
  a201 := Go.Proofs.Tryz.isAgg248
  z201 := Go.Proofs.Tryz.sizeOf248
  v201 := Go.Proofs.Tryz.zeroValue248
  t226 := Go.Proofs.Tryz.underlying268
  a226 := Go.Proofs.Tryz.isAgg268
  z226 := Go.Proofs.Tryz.sizeOf268
  v226 := Go.Proofs.Tryz.zeroValue268
  t227 := Go.Proofs.Tryz.underlying269
  a227 := Go.Proofs.Tryz.isAgg269
  z227 := Go.Proofs.Tryz.sizeOf269
  v227 := Go.Proofs.Tryz.zeroValue269

theorem vr_strs {φ : Places} {own : Nat → Prop} {w : World} {t : TypeId} (l : List (List UInt8)) (hs : ∀ β, own β → β < w.heap.size) :
    VR φ own (w.alloc (.cells (l.map fun x => Value.string ⟨x.toArray⟩).toArray t)) (.p (.lst 1 (l.map fun s => [PV.str s]))) (.slice (some ⟨w.heap.size, 0, none⟩) l.length l.length) := by
  have hl : (l.map fun s => [PV.str s]).length = l.length := by simp
  have key := VRp.lst_of (own := own) (w := w.alloc (.cells (l.map fun x => Value.string ⟨x.toArray⟩).toArray t)) (k := 1) (rows := l.map fun s => [PV.str s]) (β := w.heap.size) (o := 0) (c := l.length) (by rw [hl]; exact Nat.le_refl _) (by simp) (fun ho => by have := hs _ ho; omega) fun i j row x hr hx => by
    rw [List.getElem?_map, Option.map_eq_some_iff] at hr
    obtain ⟨s, e1, rfl⟩ := hr
    match j with
    | 0 =>
      simp only [List.getElem?_cons_zero, Option.some.injEq] at hx
      subst hx
      refine ⟨.string ⟨⟨s⟩⟩, ?_, .str s⟩
      have h4 : (w.alloc (.cells (l.map fun x => Value.string ⟨x.toArray⟩).toArray t)).heap[w.heap.size]? = some (.cells (l.map fun x => Value.string ⟨x.toArray⟩).toArray t) := heap_alloc_new
      simp only [World.cell?, h4, Nat.mul_one, Nat.add_zero, Nat.zero_add]
      simp [e1]
    | j + 1 => simp at hx
  rw [hl] at key
  exact .p _ _ key

end Go.Am
/- Plain: the fields of a drawn line are its cells; chapter 25. -/
namespace Go.Am
open Go Go.Proofs Go.Pn

theorem fieldsGo_space {t : Txt} : ∀ {s cur : Txt}, Lib.fieldsGo cur (s ++ 32 :: t) = Lib.fieldsGo cur s ++ Lib.fieldsGo [] t
  | [], cur => by
    have h32 : Lib.isSp 32 = true := by decide
    simp only [List.nil_append, Lib.fieldsGo, h32, if_true]
    cases cur <;> simp
  | b :: s, cur => by
    have ih := fun cur => @fieldsGo_space t s cur
    simp only [List.cons_append, Lib.fieldsGo]
    split
    · split
      · exact ih []
      · rw [ih []]; rfl
    · exact ih _
theorem fieldsGo_word : ∀ {s cur : Txt}, (∀ b ∈ s, Lib.isSp b = false) → Lib.fieldsGo cur s = if cur ++ s = [] then [] else [cur ++ s]
  | [], cur, _ => by cases cur <;> simp [Lib.fieldsGo]
  | b :: s, cur, h => by
    have ih := @fieldsGo_word s (cur ++ [b]) fun x hx => h x (by simp [hx])
    simp only [Lib.fieldsGo, h b (by simp)]
    rw [if_neg (by simp), ih]
    simp
theorem rep_succ {n : Nat} : Lib.repeatL [32] (n + 1) = 32 :: Lib.repeatL [32] n := rfl
theorem fieldsGo_spaces : ∀ {n : Nat}, Lib.fieldsGo [] (Lib.repeatL [32] n) = []
  | 0 => rfl
  | n + 1 => by
    rw [rep_succ]
    have := @fieldsGo_space (Lib.repeatL [32] n) [] []
    rw [List.nil_append] at this
    rw [this, fieldsGo_spaces]; rfl
theorem fields_pad {s : Txt} {n : Nat} : Lib.fields (s ++ Lib.repeatL [32] n) = Lib.fields s := by
  cases n with
  | zero => simp [Lib.repeatL]
  | succ n =>
    unfold Lib.fields
    rw [rep_succ, fieldsGo_space, fieldsGo_spaces, List.append_nil]
theorem rep_last {n : Nat} : Lib.repeatL [32] (n + 1) = Lib.repeatL [32] n ++ [32] := by
  induction n with
  | zero => rfl
  | succ n ih =>
    rw [rep_succ, ih, show (32 : UInt8) :: (Lib.repeatL [32] n ++ [32]) = (32 :: Lib.repeatL [32] n) ++ [32] from rfl, ← rep_succ, ih]
theorem trim_pad (s : Txt) : ∃ n, s = Lib.trimRightS s [32] ++ Lib.repeatL [32] n := by
  unfold Lib.trimRightS
  have h : ∀ (r : Txt), ∃ n, r.reverse = (r.dropWhile ([(32 : UInt8)].contains ·)).reverse ++ Lib.repeatL [32] n := by
    intro r
    induction r with
    | nil => exact ⟨0, rfl⟩
    | cons b r ih =>
      obtain ⟨n, hn⟩ := ih
      by_cases hb : b = 32
      · subst hb
        refine ⟨n + 1, ?_⟩
        have hd : (32 :: r).dropWhile ([(32 : UInt8)].contains ·) = r.dropWhile ([(32 : UInt8)].contains ·) := by simp [List.dropWhile_cons]
        rw [hd, List.reverse_cons, hn, rep_last, List.append_assoc]
      · refine ⟨0, ?_⟩
        have hd : (b :: r).dropWhile ([(32 : UInt8)].contains ·) = b :: r := by simp [List.dropWhile_cons, hb]
        rw [hd]; simp [Lib.repeatL]
  obtain ⟨n, hn⟩ := h s.reverse
  exact ⟨n, by rw [List.reverse_reverse] at hn; exact hn⟩
theorem fields_trim {s : Txt} : Lib.fields (Lib.trimRightS s [32]) = Lib.fields s := by
  obtain ⟨n, hn⟩ := trim_pad s
  conv => rhs; rw [hn]
  rw [fields_pad]
theorem trim_mem {s : Txt} {b : UInt8} (h : b ∈ Lib.trimRightS s [32]) : b ∈ s := by
  obtain ⟨n, hn⟩ := trim_pad s
  rw [hn]; simp [h]
structure CellsOk (c : Circuit) (l : List Plc) (i : Int) : Prop where
  ne : ∀ j, cellT c l i j ≠ []
  sp : ∀ j, ∀ b ∈ cellT c l i j, Lib.isSp b = false
  small : ∀ j, ∀ b ∈ cellT c l i j, b.toNat < 128
  wide : ∀ j, (cellT c l i j).length < widT c c.parts.length
theorem line_fields {c : Circuit} {l : List Plc} {i : Int} (h : CellsOk c l i) : ∀ {n : Nat}, Lib.fields (lineN c l i n) = ((List.range n).map fun (j : Nat) => cellT c l i (j : Int)) ∧ (n = 0 ∨ ∃ u, lineN c l i n = u ++ [32])
  | 0 => ⟨rfl, .inl rfl⟩
  | n + 1 => by
    obtain ⟨h1, h2⟩ := @line_fields c l i h n
    have hw := h.wide n
    obtain ⟨m, hm⟩ : ∃ m, widT c c.parts.length - (cellT c l i n).length = m + 1 := ⟨widT c c.parts.length - (cellT c l i n).length - 1, by omega⟩
    have hl : lineN c l i (n + 1) = lineN c l i n ++ (cellT c l i n ++ Lib.repeatL [32] (m + 1)) := by rw [← hm]; rfl
    have hc : Lib.fields (cellT c l i n ++ Lib.repeatL [32] (m + 1)) = [cellT c l i n] := by
      rw [fields_pad]
      unfold Lib.fields
      rw [fieldsGo_word (h.sp n), List.nil_append, if_neg (h.ne n)]
    refine ⟨?_, .inr ⟨lineN c l i n ++ (cellT c l i n ++ Lib.repeatL [32] m), by rw [hl, rep_last]; simp⟩⟩
    rw [List.range_succ, List.map_append, ← h1, hl]
    rcases h2 with rfl | ⟨u, hu⟩
    · simp only [lineN, List.nil_append]
      rw [hc]; rfl
    · rw [hu, List.append_assoc, List.singleton_append]
      unfold Lib.fields at hc ⊢
      rw [fieldsGo_space, hc, fieldsGo_space]
      simp [Lib.fieldsGo]
theorem row_fields {c : Circuit} {l : List Plc} {i : Int} (h : CellsOk c l i) : Lib.fields (drawRow c l i) = (List.range (colT l l.length).toNat).map fun (j : Nat) => cellT c l i (j : Int) := by
  unfold drawRow
  rw [fields_trim, (line_fields h).1]
theorem line_small {c : Circuit} {l : List Plc} {i : Int} (h : CellsOk c l i) : ∀ {n : Nat}, ∀ b ∈ lineN c l i n, b.toNat < 128
  | 0, b, hb => by simp [lineN] at hb
  | n + 1, b, hb => by
    simp only [lineN, List.mem_append] at hb
    rcases hb with hb | hb | hb
    · exact line_small h b hb
    · exact h.small n b hb
    · have : ∀ (m : Nat) (b : UInt8), b ∈ Lib.repeatL [32] m → b = 32 := fun m => by
        induction m with
        | zero => intro b hb; simp [Lib.repeatL] at hb
        | succ m ih => intro b hb; rw [rep_succ] at hb; rcases List.mem_cons.1 hb with h | h; exact h; exact ih b h
      rw [this _ b hb]; decide
end Go.Am
/- Plain: the cells of a drawing and the names of the parts; chapter 25. -/
namespace Go.Am
open Go Go.Proofs Go.Pn

theorem part_zero {c : Circuit} (h : checkP c = 0) {k : Nat} (hk : k < c.parts.length) : partAt c k = 0 := by
  have hp : firstErr (partAt c) c.parts.length = 0 := by unfold checkP at h; grind
  exact firstErr_zero hp hk
theorem part_word {c : Circuit} (h : checkP c = 0) {k : Nat} {q : Part} (e : c.parts[k]? = some q) : wordErr q.name = 0 := by
  have h1 := part_zero h (List.getElem?_eq_some_iff.1 e).1
  unfold partAt at h1
  rw [e] at h1
  simp only at h1
  have h2 : partErr q = 0 := by
    by_cases h2 : partErr q = 0
    · exact h2
    · rw [if_pos h2] at h1; exact absurd h1 h2
  unfold partErr at h2
  by_cases h3 : kindErr q.kind ≠ 0
  · rw [if_pos h3] at h2; exact absurd h2 h3
  · rw [if_neg h3] at h2
    by_cases h4 : wordErr q.name = 0
    · exact h4
    · rw [if_pos h4] at h2; exact h2
theorem parts_next {c : Circuit} (h : checkP c = 0) {k : Nat} {p q : Part} (e1 : c.parts[k]? = some p) (e2 : c.parts[k + 1]? = some q) : Op.bytesLess p.name q.name = true := by
  have h1 := part_zero h (List.getElem?_eq_some_iff.1 e2).1
  unfold partAt at h1
  rw [e2] at h1
  simp only [Nat.add_sub_cancel, e1, Option.map_some, Option.getD_some] at h1
  by_cases h2 : partErr q ≠ 0
  · rw [if_pos h2] at h1; exact absurd h1 h2
  · rw [if_neg h2] at h1
    by_cases h3 : Op.bytesLess p.name q.name = true
    · exact h3
    · rw [if_pos ⟨by omega, h3⟩] at h1; simp at h1
theorem parts_inc {c : Circuit} (h : checkP c = 0) : ∀ {j i : Nat} {p q : Part}, i < j → c.parts[i]? = some p → c.parts[j]? = some q → Op.bytesLess p.name q.name = true
  | 0, i, _, _, hij, _, _ => by omega
  | j + 1, i, p, q, hij, e1, e2 => by
    by_cases hi : i = j
    · subst hi; exact parts_next h e1 e2
    · obtain ⟨r, er⟩ := get_lt (show j < c.parts.length by have := (List.getElem?_eq_some_iff.1 e2).1; omega)
      exact bl_trans (parts_inc h (j := j) (i := i) (by omega) e1 er) (parts_next h er e2)
theorem names_inj {c : Circuit} (h : checkP c = 0) {i j : Nat} {p q : Part} (e1 : c.parts[i]? = some p) (e2 : c.parts[j]? = some q) (hn : p.name = q.name) : i = j := by
  rcases Nat.lt_trichotomy i j with h1 | h1 | h1
  · have := parts_inc h h1 e1 e2
    rw [hn, bl_irrefl] at this; cases this
  · exact h1
  · have := parts_inc h h1 e2 e1
    rw [hn, bl_irrefl] at this; cases this
theorem inner_small {b : UInt8} (h : isInner b = true) : b.toNat < 128 ∧ Lib.isSp b = false := by
  have h2 : (∀ n : Nat, n < 256 → (isInner (UInt8.ofNat n) = true → n < 128 ∧ Lib.isSp (UInt8.ofNat n) = false)) := by decide +kernel
  have h3 := h2 b.toNat b.toNat_lt
  rw [UInt8.ofNat_toNat] at h3
  exact h3 h
theorem word_ok {s : Txt} (h : wordErr s = 0) : s ≠ [] ∧ s ≠ [46] ∧ (∀ b ∈ s, Lib.isSp b = false) ∧ ∀ b ∈ s, b.toNat < 128 := by
  cases s with
  | nil => simp [wordErr] at h
  | cons b r =>
    unfold wordErr at h
    simp only at h
    by_cases h1 : (!isLetter b) = true
    · rw [if_pos h1] at h; simp at h
    · rw [if_neg h1] at h
      by_cases h2 : (!(b :: r).all isInner) = true
      · rw [if_pos h2] at h; simp at h
      · have hall : ∀ x ∈ b :: r, isInner x = true := by
          simp only [Bool.not_eq_true', Bool.not_eq_false] at h2
          exact List.all_eq_true.1 h2
        refine ⟨by simp, ?_, fun x hx => (inner_small (hall x hx)).2, fun x hx => (inner_small (hall x hx)).1⟩
        intro e
        cases e
        exact h1 (by decide)

theorem nameOf_zip : ∀ {l : List Plc} {ns : List Txt} {k : Nat} {p : Plc} {s : Txt}, l.Nodup → l[k]? = some p → ns[k]? = some s → nameOf? (l.zip ns) p = some s
  | [], _, k, _, _, _, h, _ => by simp at h
  | _ :: _, [], k, _, _, _, _, h => by simp at h
  | a :: l, n :: ns, 0, p, s, _, h1, h2 => by
    simp at h1 h2; subst h1; subst h2; simp [nameOf?]
  | a :: l, n :: ns, k + 1, p, s, hnd, h1, h2 => by
    have h3 : l[k]? = some p := by simpa using h1
    have h4 : ns[k]? = some s := by simpa using h2
    have hne : ¬ a = p := fun e => (List.nodup_cons.1 hnd).1 (e ▸ List.mem_of_getElem? h3)
    have ih := nameOf_zip (List.nodup_cons.1 hnd).2 h3 h4
    unfold nameOf? at ih ⊢
    rw [List.zip_cons_cons, List.find?_cons_of_neg (by simpa using hne)]
    exact ih
theorem nam_full {c : Circuit} {l : List Plc} (hl : l.length = c.parts.length) : namL c l l.length = l.zip (c.parts.map (·.name)) := by
  unfold namL; rw [List.take_length, hl, List.take_length]
theorem cellT_at {c : Circuit} {l : List Plc} (hL : LayOk c l) {k : Nat} {p : Plc} {q : Part} (e1 : l[k]? = some p) (e2 : c.parts[k]? = some q) : cellT c l p.row p.col = q.name := by
  unfold cellT
  rw [nam_full hL.len, nameOf_zip hL.nd e1 (by rw [List.getElem?_map, e2]; rfl)]
  rfl
theorem cell_cases {c : Circuit} {l : List Plc} (hL : LayOk c l) (i j : Int) : cellT c l i j = [46] ∨ ∃ (k : Nat) (q : Part), l[k]? = some ⟨i, j⟩ ∧ c.parts[k]? = some q ∧ cellT c l i j = q.name := by
  unfold cellT
  rw [nam_full hL.len]
  cases h : nameOf? (l.zip (c.parts.map (·.name))) ⟨i, j⟩ with
  | none => exact .inl rfl
  | some s =>
    obtain ⟨k, hk⟩ := List.mem_iff_getElem?.1 (nameOf_mem h)
    rw [List.getElem?_zip_eq_some] at hk
    obtain ⟨h1, h2⟩ := hk
    rw [List.getElem?_map, Option.map_eq_some_iff] at h2
    obtain ⟨q, h3, h4⟩ := h2
    exact .inr ⟨k, q, h1, h3, h4.symm⟩
theorem cell_iff {c : Circuit} {l : List Plc} (h : checkP c = 0) (hL : LayOk c l) {k : Nat} {p : Plc} {q : Part} (e1 : l[k]? = some p) (e2 : c.parts[k]? = some q) (i j : Int) : cellT c l i j = q.name ↔ p = ⟨i, j⟩ := by
  constructor
  · intro hc
    rcases cell_cases hL i j with h1 | ⟨k', q', h1, h2, h3⟩
    · rw [h1] at hc
      exact absurd hc.symm (word_ok (part_word h e2)).2.1
    · rw [h3] at hc
      have := names_inj h h2 e2 hc
      subst this
      rw [e1] at h1
      simpa using h1
  · rintro rfl
    exact cellT_at hL e1 e2
theorem cells_ok {c : Circuit} {l : List Plc} (h : checkP c = 0) (hL : LayOk c l) (h0 : 0 < l.length) (i : Int) : CellsOk c l i := by
  have hl := hL.len
  have hW : 1 < widT c c.parts.length := by
    obtain ⟨q, e⟩ := get_lt (show 0 < c.parts.length by omega)
    have h1 := widT_mem (c := c) (k := c.parts.length) (by omega) e
    have h2 := List.length_pos_iff.2 (word_ok (part_word h e)).1
    omega
  refine ⟨fun j => ?_, fun j => ?_, fun j => ?_, fun j => ?_⟩
  · rcases cell_cases hL i j with h1 | ⟨k, q, _, h2, h3⟩
    · rw [h1]; simp
    · rw [h3]; exact (word_ok (part_word h h2)).1
  · rcases cell_cases hL i j with h1 | ⟨k, q, _, h2, h3⟩
    · rw [h1]; decide
    · rw [h3]; exact (word_ok (part_word h h2)).2.2.1
  · rcases cell_cases hL i j with h1 | ⟨k, q, _, h2, h3⟩
    · rw [h1]; decide
    · rw [h3]; exact (word_ok (part_word h h2)).2.2.2
  · rcases cell_cases hL i j with h1 | ⟨k, q, _, h2, h3⟩
    · rw [h1]; simpa using hW
    · rw [h3]
      have := widT_mem (c := c) (k := c.parts.length) (List.getElem?_eq_some_iff.1 h2).1 h2
      omega
end Go.Am
/- Plain: the map of the words of a drawing; chapter 25. -/
namespace Go.Am
open Go Go.Proofs Go.Pn

open Classical in
theorem assoc_set {x v y : AV} : ∀ {es : List (AV × AV)}, assocA (setA es x v) y = if x = y then some v else assocA es y
  | [] => by
    simp only [setA, assocA_cons]
  | (k, u) :: es => by
    have ih := @assoc_set x v y es
    simp only [setA]
    by_cases h : k = x
    · subst h
      rw [if_pos rfl, assocA_cons, assocA_cons]
      by_cases h2 : k = y <;> simp [h2]
    · rw [if_neg h, assocA_cons, assocA_cons, ih]
      by_cases h2 : k = y
      · subst h2
        rw [if_pos rfl, if_neg (Ne.symm h), if_pos rfl]
      · rw [if_neg h2, if_neg h2]

def OkW (es : List (AV × AV)) : Prop := ∀ e ∈ es, (∃ s : Txt, e.1 = .p (.str s)) ∧ ∃ p : Plc, e.2 = p.av
theorem okW_set {s : Txt} {p : Plc} : ∀ {es : List (AV × AV)}, OkW es → OkW (setA es (.p (.str s)) p.av)
  | [], _, e, he => by
    simp only [setA, List.mem_singleton] at he
    subst he
    exact ⟨⟨s, rfl⟩, p, rfl⟩
  | (k, u) :: es, h, e, he => by
    have ih := @okW_set s p es fun e he => h e (by simp [he])
    simp only [setA] at he
    split at he
    · rcases List.mem_cons.1 he with rfl | he
      · exact ⟨⟨s, rfl⟩, p, rfl⟩
      · exact h e (by simp [he])
    · rcases List.mem_cons.1 he with rfl | he
      · exact h _ (by simp)
      · exact ih e he
theorem okW_ren {ρ : List Nat} : ∀ {es : List (AV × AV)}, OkW es → renE ρ es = some es
  | [], _ => rfl
  | (k, u) :: es, h => by
    obtain ⟨⟨s, h1⟩, p, h2⟩ := h (k, u) (by simp)
    simp only at h1 h2
    subst h1; subst h2
    have ih := okW_ren (ρ := ρ) (es := es) fun e he => h e (List.mem_cons_of_mem _ he)
    simp [renE, ih]
theorem keyStr : KeyOk Go.Proofs.Tryz.prog 9 IsS := keyS (by kernel_rfl) (fun w em n => by kernel_rfl)
theorem okW_keys {es : List (AV × AV)} (h : OkW es) (s : Txt) : KeysIn Go.Proofs.Tryz.prog 9 es (.p (.str s)) :=
  ⟨_, keyStr, ⟨s, rfl⟩, fun e he => by obtain ⟨⟨t, h1⟩, _⟩ := h e he; exact ⟨t, h1⟩⟩

theorem colT_mem {l : List Plc} : ∀ {n k : Nat} {p : Plc}, k < n → l[k]? = some p → p.col < colT l n
  | 0, k, p, h, _ => by omega
  | n + 1, k, p, h, e => by
    simp only [colT]
    by_cases hk : k = n
    · subst hk; rw [e]; simp only; omega
    · have ih := @colT_mem l n k p (by omega) e
      cases l[n]? with
      | none => exact ih
      | some q => simp only; omega
end Go.Am
/- Contracts: layout.Read gives back what was drawn; chapter 25. -/
namespace Go.Am
open Go Go.Proofs Go.Pn

theorem fieldsRow {c : Circuit} {l : List Plc} (h : checkP c = 0) (hL : LayOk c l) (i : Int) : Lib.fields (drawRow c l i) = ((List.range (colT l l.length).toNat).map fun (j : Nat) => cellT c l i (j : Int)) := by
  by_cases h0 : 0 < l.length
  · exact row_fields (cells_ok h hL h0 i)
  · have e : l = [] := List.length_eq_zero_iff.1 (by omega)
    subst e; rfl
theorem rowSmall {c : Circuit} {l : List Plc} (h : checkP c = 0) (hL : LayOk c l) (i : Int) : ∀ b ∈ drawRow c l i, b.toNat < 128 := by
  intro b hb
  by_cases h0 : 0 < l.length
  · exact line_small (cells_ok h hL h0 i) b (trim_mem hb)
  · have e : l = [] := List.length_eq_zero_iff.1 (by omega)
    subst e
    cases hb
def cellsL (c : Circuit) (l : List Plc) (i : Int) : List Txt := (List.range (colT l l.length).toNat).map fun (j : Nat) => cellT c l i (j : Int)
theorem cellsL_at {c : Circuit} {l : List Plc} {i : Int} {j : Nat} (h : j < (cellsL c l i).length) : (cellsL c l i)[j]? = some (cellT c l i j) := by
  simp [cellsL] at h ⊢
  simp [h]
theorem cellsL_len {c : Circuit} {l : List Plc} {i : Int} : (cellsL c l i).length = (colT l l.length).toNat := by simp [cellsL]
theorem drawN_at {c : Circuit} {l : List Plc} {k : Nat} (h : k < 5) : (drawN c l 5)[k]? = some (drawRow c l k) := by simp [drawN, h]
@[simp] theorem zsPlc : zeroShape Go.Proofs.Tryz.prog 41 = some true := by kernel_rfl
def fillP (l : List Plc) (i : Nat) : List Plc := l.take i ++ List.replicate (l.length - i) ⟨0, 0⟩
theorem fillP_all {l : List Plc} : fillP l l.length = l := by simp [fillP]
theorem fillP_len {l : List Plc} {i : Nat} (h : i ≤ l.length) : (fillP l i).length = l.length := by simp [fillP]; omega
theorem fillP_snoc {l : List Plc} {i : Nat} {p : Plc} (e : l[i]? = some p) : (fillP l i).set i p = fillP l (i + 1) := by
  have h := (List.getElem?_eq_some_iff.1 e).1
  unfold fillP
  obtain ⟨m, hm⟩ : ∃ m, l.length - i = m + 1 := ⟨l.length - i - 1, by omega⟩
  rw [take_snoc e, hm, show l.length - (i + 1) = m by omega, List.replicate_succ, List.set_append_right _ _ (by simp; omega)]
  simp [Nat.min_eq_left (Nat.le_of_lt h)]

end Go.Am
