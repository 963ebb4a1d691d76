/- Lemmas and contracts for the proof of a statement of this seat. -/
import Derived.Test.YtkofnocfackjiaaGreatDoorZF6
import Derived.Test.YtkofnocfackjiaaGreatDoorZF7
import Derived.Test.YtkofnocfackjiaaGreatDoorZCU
set_option linter.unusedVariables false
set_option linter.unusedSimpArgs false
/- Contracts: label.Parse; chapter 26. -/
namespace Go.Am
open Go Go.Proofs Go.Pn Go.RowKit

theorem ixa_cases (s : Txt) : (Lib.indexAny s asvz = -1 ∧ ∀ b ∈ s, b ∉ asvz) ∨ ∃ (k : Nat) (b : UInt8), Lib.indexAny s asvz = k ∧ s[k]? = some b ∧ b ∈ asvz ∧ ∀ x ∈ s.take k, x ∉ asvz := by
  induction s with
  | nil => left; exact ⟨rfl, by simp⟩
  | cons a s ih =>
    unfold Lib.indexAny
    by_cases h : asvz.contains a = true
    · rw [if_pos h]
      exact .inr ⟨0, a, rfl, rfl, by simpa using h, by simp⟩
    · rw [if_neg h]
      have ha : a ∉ asvz := by simpa using h
      rcases ih with ⟨h1, h2⟩ | ⟨k, b, h1, h2, h3, h4⟩
      · rw [h1]
        exact .inl ⟨rfl, by simp only [List.mem_cons]; rintro b (rfl | hb); exact ha; exact h2 b hb⟩
      · rw [h1]
        have : ¬ ((k : Int) == -1) = true := by simp
        rw [if_neg this]
        refine .inr ⟨k + 1, b, by omega, by simpa using h2, h3, ?_⟩
        rw [List.take_succ_cons]
        simp only [List.mem_cons]
        rintro x (rfl | hx)
        · exact ha
        · exact h4 x hx
theorem dig_asvz {b : UInt8} (h : isDigit b = true) : b ∉ asvz := by
  have := digit_iff.1 h
  simp only [asvz, List.mem_cons, List.not_mem_nil, or_false]
  rintro (rfl | rfl | rfl | rfl) <;> revert this <;> decide
theorem text_reads {x : Lbl} (h : chkL x = 0) : ∃ b, x.ltr = [b] ∧ b ∈ asvz ∧ textL x = digN x.grp.toNat ++ b :: digN x.num.toNat ∧ Lib.indexAny (textL x) asvz = (digN x.grp.toNat).length ∧
    atV (digN x.grp.toNat) = x.grp ∧ atE (digN x.grp.toNat) = false ∧ atV (digN x.num.toNat) = x.num ∧ atE (digN x.num.toNat) = false := by
  obtain ⟨⟨a1, a2⟩, _, a4, a5⟩ := chkL_zero.1 h
  obtain ⟨b, hb, hbd, hbm'⟩ := ltr_one h
  have hbm : b ∈ asvz := hbm'
  obtain ⟨_, _, c3, _, c5⟩ := @dig_val x.grp.toNat (by omega)
  obtain ⟨_, _, _, _, d5⟩ := @dig_val x.num.toNat (by omega)
  have et : textL x = digN x.grp.toNat ++ b :: digN x.num.toNat := by unfold textL; rw [hb]; rfl
  have e1 : ∀ {n : Nat} {y : Int}, Lib.atoiAll (digN n) = .ok (n : Int) → (n : Int) = y → atV (digN n) = y ∧ atE (digN n) = false := fun {n y} e hy => by
    unfold atV atE; rw [e]; exact ⟨hy, rfl⟩
  obtain ⟨f1, f2⟩ := e1 (y := x.grp) c5 (by omega)
  obtain ⟨f3, f4⟩ := e1 (y := x.num) d5 (by omega)
  refine ⟨b, hb, hbm, et, ?_, f1, f2, f3, f4⟩
  rw [et]
  have key : ∀ (d : Txt) (r : Txt), (∀ y ∈ d, isDigit y = true) → Lib.indexAny (d ++ b :: r) asvz = d.length := fun d r => by
    induction d with
    | nil => intro _; rw [List.nil_append, Lib.indexAny, if_pos (List.contains_iff_mem.2 hbm)]; rfl
    | cons a d ih =>
      intro hd
      have ha := dig_asvz (hd a (by simp))
      rw [List.cons_append, Lib.indexAny, if_neg (by simpa using ha), ih fun y hy => hd y (by simp [hy])]
      have : ¬ ((d.length : Int) == -1) = true := by simp
      rw [if_neg this]; simp
  exact key _ _ c3
def prX (s : Txt) (k : Nat) (b : UInt8) : Lbl := ⟨atV (s.take k), [b], atV (s.drop (k + 1))⟩
theorem pr_bad {s : Txt} {k : Nat} {b : UInt8} (hk : Lib.indexAny s asvz = k) (eb : s[k]? = some b) (h : atE (s.take k) = true ∨ atE (s.drop (k + 1)) = true ∨ chkL (prX s k b) ≠ 0 ∨ textL (prX s k b) ≠ s) : parL s = noL ∧ parE s = 4 := by
  refine par_none fun x hx e => ?_
  obtain ⟨b', e1, e2, e3, e4, e5, e6, e7, e8⟩ := text_reads hx
  rw [e] at e3 e4
  have hkl : k = (digN x.grp.toNat).length := by omega
  have h1 : s.take k = digN x.grp.toNat := by rw [hkl, e3, List.take_left]
  have h2 : s.drop k = b' :: digN x.num.toNat := by rw [hkl, e3, List.drop_left]
  have h3 : s.drop (k + 1) = digN x.num.toNat := by rw [← List.drop_drop, h2]; rfl
  have h4 : b = b' := by
    have : (s.drop k)[0]? = some b := by rw [List.getElem?_drop]; simpa using eb
    rw [h2] at this; simpa using this.symm
  have h5 : prX s k b = x := by
    unfold prX
    rw [h1, h3, e5, e7, h4, ← e1]
  rcases h with h | h | h | h
  · rw [h1, e6] at h; cases h
  · rw [h3, e8] at h; cases h
  · rw [h5] at h; exact h hx
  · rw [h5] at h; exact h e
theorem pr_none {s : Txt} (h : ∀ b ∈ s, b ∉ asvz) : parL s = noL ∧ parE s = 4 := by
  refine par_none fun x hx e => ?_
  obtain ⟨b', e1, e2, e3, _⟩ := text_reads hx
  refine h b' ?_ e2
  rw [← e, e3]; simp

set_option maxRecDepth 20000 in
theorem c_label_Parse (s : Txt) (hl : s.length ≤ 1000) (h : (∀ b ∈ s, b.toNat < 128) ∨ 8 < s.length) : Pure Tryz.prog GL4 12 [.p (.str s)] (.tup [(parL s).av, .p (.int .i64 (parE s))]) := by
  refine Pure.of_walk (N := 57) Tryz.func12 rfl rfl rfl (by simp) rfl ?_
  have hI := c_IndexAny s hl h
  simp
  refine xcall_pure hI ?_
  rcases ixa_cases s with ⟨h1, h2⟩ | ⟨k, b, h1, h2, h3, h4⟩
  · obtain ⟨p1, p2⟩ := pr_none h2
    rw [p1, p2, h1]
    simp
    simp [XEndT, noL]
  · have hk := (List.getElem?_eq_some_iff.1 h2).1
    have hk0 : ¬ (k : Int) < 0 := by omega
    rw [h1]
    have hA := c_Atoi (s.take k) (by rw [List.length_take]; omega)
    have hB := c_Atoi (s.drop (k + 1)) (by rw [List.length_drop]; omega)
    have hbad := pr_bad h1 h2
    have hkl : k ≤ s.length := by omega
    have hk1 : k + 1 ≤ s.length := by omega
    have hw : IntKind.i64.wrap ((k : Int) + 1) = ((k + 1 : Nat) : Int) := by rw [wrap_i64 (by omega) (by omega)]; omega
    have hsl : (s.take (k + 1)).drop k = [b] := by
      rw [take_snoc h2, List.drop_append_of_le_length (by simp; omega)]
      simp [List.drop_take]
    have hC := (c_label_check (prX s k b) (by simp [prX])).wider GL_four
    have hT : chkL (prX s k b) = 0 → Pure Tryz.prog GL4 46 [(prX s k b).av] (.p (.str (textL (prX s k b)))) := fun hc => (c_label_text (prX s k b) hc).wider GL_four
    have hgood : chkL (prX s k b) = 0 → textL (prX s k b) = s → parL s = prX s k b ∧ parE s = 0 := par_of
    generalize hx : prX s k b = x at *
    have hxa : AV.agg [.p (.int .i64 (atV (s.take k))), .p (.str [b]), .p (.int .i64 (atV (s.drop (k + 1))))] = x.av := by rw [← hx]; rfl
    simp [hk0, hkl]
    refine xcall_pure hA ?_
    have hlo : (0 : Int) ≤ (k : Int) + 1 := by omega
    have hhi : (k : Int) + 1 ≤ s.length := by omega
    have htd : (s.drop (k + 1)).take (s.length - (k + 1)) = s.drop (k + 1) := List.take_of_length_le (by rw [List.length_drop]; omega)
    simp [hw, hk1, hlo, hhi, hkl, -getElem?_pos, List.getElem?_cons_zero, List.getElem?_cons_succ]
    rw [htd]
    refine xcall_pure hB ?_
    generalize atV (s.take k) = va at *
    generalize atV (s.drop (k + 1)) = vb at *
    have hs1 : (s.drop k).take 1 = [b] := by rw [← hsl, List.take_drop]
    have hif : isIfaceT Tryz.prog 88 = true := by kernel_rfl
    have hkk : (k : Int) ≤ (k : Int) + 1 := by omega
    cases ha : atE (s.take k) with
    | true =>
      obtain ⟨p1, p2⟩ := hbad (.inl ha)
      rw [p1, p2]
      simp [hw, hk1, hlo, hhi, hkl, errV, hkk, hs1, hif, -getElem?_pos, List.getElem?_cons_zero, List.getElem?_cons_succ]
      simp [XEndT, noL]
    | false =>
      cases hb : atE (s.drop (k + 1)) with
      | true =>
        obtain ⟨p1, p2⟩ := hbad (.inr (.inl hb))
        rw [p1, p2]
        simp [hw, hk1, hlo, hhi, hkl, errV, hkk, hs1, hif, -getElem?_pos, List.getElem?_cons_zero, List.getElem?_cons_succ]
        simp [XEndT, noL]
      | false =>
        simp [hw, hk1, hlo, hhi, hkl, errV, hkk, hs1, hif, hxa, -getElem?_pos, List.getElem?_cons_zero, List.getElem?_cons_succ]
        refine xcall_pure hC ?_
        by_cases hc : chkL x = 0
        · have hT := hT hc
          simp [hc, -getElem?_pos, List.getElem?_cons_zero, List.getElem?_cons_succ]
          refine xcall_pure hT ?_
          by_cases ht : textL x = s
          · obtain ⟨p1, p2⟩ := hgood hc ht
            rw [p1, p2]
            simp [ht, -getElem?_pos, List.getElem?_cons_zero, List.getElem?_cons_succ]
            simp [XEndT]
          · obtain ⟨p1, p2⟩ := hbad (.inr (.inr (.inr ht)))
            rw [p1, p2]
            simp [ht, -getElem?_pos, List.getElem?_cons_zero, List.getElem?_cons_succ]
            simp [XEndT, noL]
        · obtain ⟨p1, p2⟩ := hbad (.inr (.inr (.inl hc)))
          rw [p1, p2]
          simp [hc, -getElem?_pos, List.getElem?_cons_zero, List.getElem?_cons_succ]
          simp [XEndT, noL]
end Go.Am
/- Contracts: the awake examples of chapter 26, and what is small there. -/
namespace Go.Am
open Go Go.Proofs Go.Pn



theorem c_Eq_Str (xs ys : List Txt) (hl : xs.length < 4611686018427387904) : Pure Tryz.prog GL 26 [.p (.lst 1 (xs.map Txt.enc)), .p (.lst 1 (ys.map Txt.enc))] (.p (.bool (decide (xs = ys)))) := by
  refine Pure.of_walk (N := 26) Tryz.func26 rfl rfl rfl (by simp) (by first | (simp; done) | simp [*]) ?_
  simp
  refine xif_split (fun h0 => ?_) (fun h0 => ?_)
  · simp at h0
    have hne : ¬ xs = ys := fun h => h0 (by rw [h])
    simp [XEndT, hne]
  · simp at h0
    simp
    refine XLoop.go [0, 1, 12] [] 0 [] (fun _ => []) (fun _ (k : Nat) => [(13, .p (.int .i64 k))]) (fun _ _ => []) (fun k => k ≤ xs.length ∧ ∀ (j : Nat), j < k → xs[j]? = ys[j]?) (fun k => xs.length - k) 0 ⟨by omega, fun j h => by omega⟩ ?_ ?_
    · simp
    · rintro k ⟨hk, hp⟩
      simp
      refine xif_split (fun h => ?_) (fun h => ?_)
      · simp at h
        obtain ⟨x, e⟩ := get_lt h
        have h2 : k < ys.length := by omega
        obtain ⟨y, e2⟩ := get_lt h2
        simp
        refine XDraw.intro (by kernel_rfl) ?_
        simp [h, e, h2, e2, -getElem?_pos, List.getElem?_cons_zero, List.getElem?_cons_succ]
        refine ⟨.of (by kernel_rfl), ?_⟩
        refine xif_split (fun h3 => ?_) (fun h3 => ?_)
        · have hne : ¬ xs = ys := fun h => by subst h; rw [e] at e2; cases e2; simp at h3
          simp [XEndT, hne]
        · have hxy : x = y := by simpa using h3
          subst hxy
          simp
          refine ⟨wrap_i64 (by omega) (by omega), k + 1, ⟨by omega, fun j hj => ?_⟩, by omega, ?_⟩
          · by_cases hjk : j = k
            · subst hjk; rw [e, e2]
            · exact hp j (by omega)
          · simp
      · simp at h
        have hk2 : k = xs.length := by omega
        have hxy : xs = ys := List.ext_getElem? fun j => by
          by_cases hj : j < k
          · exact hp j hj
          · rw [List.getElem?_eq_none (by omega), List.getElem?_eq_none (by omega)]
        simp [XEndT, hxy]


def takeB (l : List Lbl) (k : Nat) : List Lbl := l.take k
theorem c_pneumaticlaw26_own (l : List Lbl) (hl : l.length < 100000) : Pure Tryz.prog GL 21 [.p (.lst 3 (l.map Lbl.enc))] (.p (.lst 3 (l.map Lbl.enc))) := by
  refine Pure.of_walk (N := 18) Tryz.func21 rfl rfl rfl (by simp) (by first | (simp; done) | simp [*]) ?_
  simp
  refine XLoop.go [6, 7] [] 1 [0] (nms [3]) (fun nx (k : Nat) => [(3, .acc nx 3 (takeB l k).length), (8, .p (.int .i64 k))]) (fun nx k => [(nx, accB 3 ((takeB l k).map Lbl.row_))]) (fun k => k ≤ l.length) (fun k => l.length - k) 0 (by omega) ?_ ?_
  · simp [takeB]
  · intro k hk
    have hsn := fun {x} (e : l[k]? = some x) => show takeB l (k + 1) = takeB l k ++ [x] from take_snoc e
    have hend : k = l.length → takeB l k = l := fun e => by rw [e, takeB, List.take_length]
    have hlen : (takeB l k).length ≤ k := List.length_take_le ..
    generalize takeB l k = A at hsn hend hlen
    simp
    refine xif_split (fun h => ?_) (fun h => ?_)
    · simp at h
      obtain ⟨x, e⟩ := get_lt h
      have hsn2 := hsn e
      simp [h, e, -getElem?_pos, List.getElem?_cons_zero, List.getElem?_cons_succ]
      refine ⟨by omega, wrap_i64 (by omega) (by omega), k + 1, by omega, by omega, ?_⟩
      simp [hsn2]
    · simp at h
      have hA := hend (by omega)
      subst hA
      simp [XEndT]

theorem c_pneumaticlaw26_few_1 (s : Txt) (hs : s.length < 4611686018427387904) : Pure Tryz.prog GL 51 [.p (.str s)] (.p (.bool (decide (100 < s.length)))) := by
  refine Pure.of_walk (N := 6) Tryz.func51 rfl rfl rfl (by simp) (by first | (simp; done) | simp [*]) ?_
  simp
  simp [XEndT]
  omega

def manyTexts (l : List Txt) : Bool := l.any fun s => decide (100 < s.length)
theorem c_pneumaticlaw26_few (c : Circuit) (l : List Txt) (hs : Sized c) (hl : l.length < 100) (hn : ∀ s ∈ l, s.length < 4611686018427387900) : Pure Tryz.prog GL 14 [c.av, .p (.lst 1 (l.map Txt.enc))] (.p (.bool (fewP c && !manyTexts l))) := by
  refine Pure.of_walk (N := 12) Tryz.func14 rfl rfl rfl (by simp) (by first | (simp; done) | simp [*]) ?_
  simp
  refine xcall_pure (c_pneumaticref21_Few c hs) ?_
  cases hf : fewP c with
  | false =>
    simp [XEndT]
  | true =>
    simp
    refine xcall_pure (c_ConF_Txt l (fun s => decide (100 < s.length)) 51 [] rfl (by omega) (fun s hs => c_pneumaticlaw26_few_1 s (by have := hn s hs; omega))) ?_
    simp [XEndT, manyTexts]

theorem Pure.nils {P : Program} {G : Globs} {f k i : Nat} {args : List AV} {r : AV} (h : Pure P G f args r) (hi : args[i]? = some (.p (.lst k []))) : Pure P G f (args.set i .nils) r := by
  refine ⟨?_, fun own w vs hg hs hl hv => h.run own w vs hg hs (by rw [hl, List.length_set]) fun j x v hx hvj => ?_⟩
  · have := h.pure
    revert this hi
    clear h
    induction args generalizing i with
    | nil => simp
    | cons a l ih =>
      intro hi hp
      simp only [pureL, Bool.and_eq_true] at hp
      cases i with
      | zero => simp only [List.set_cons_zero, pureL, hp.2, Bool.and_true]; rfl
      | succ i => simp only [List.set_cons_succ, pureL, hp.1, Bool.true_and]; exact ih (by simpa using hi) hp.2
  · by_cases e : i = j
    · subst e
      rw [hi] at hx; cases hx
      have hil := (List.getElem?_eq_some_iff.1 hi).1
      have := hv i .nils v (List.getElem?_set_self hil) hvj
      obtain ⟨a, rfl⟩ := this.nils_inv
      exact .p _ _ (.lst0 ..)
    · exact hv j x v (by rw [List.getElem?_set_ne e]; exact hx) hvj
theorem c_few0 (c : Circuit) (hs : Sized c) : Pure Tryz.prog GL 14 [c.av, .nils] (.p (.bool (fewP c))) := by
  have h0 := c_pneumaticlaw26_few c [] hs (by decide) (fun s hs => by cases hs)
  have e : (fewP c && !manyTexts []) = fewP c := by rw [show manyTexts [] = false from rfl]; simp
  rw [e] at h0
  exact Pure.nils (i := 1) (k := 1) h0 (by simp)

theorem c_pneumaticlaw26_right (c : Circuit) (hs : Sized c) : Pure Tryz.prog GL 29 [c.av] (.p (.bool (fewP c && decide (checkP c = 0)))) := by
  refine Pure.of_walk (N := 10) Tryz.func29 rfl rfl rfl (by simp) (by first | (simp; done) | simp [*]) ?_
  have hC := c_pneumaticref21_Check c hs
  simp
  refine xcall_pure (c_few0 c hs) ?_
  simp
  cases h : fewP c with
  | true =>
    simp
    refine xcall_pure hC ?_
    simp [XEndT]
  | false => simp [XEndT]

def g26 : List Int := [1, 1, 0, 1]
def l26 : List Lbl := [⟨1, [65], 1⟩, ⟨1, [83], 1⟩, ⟨0, [90], 1⟩, ⟨1, [86], 1⟩]
def d26 : List Txt := [[48, 90, 49, 32, 83, 32, 115, 117, 112, 112, 108, 121], [49, 65, 49, 32, 65, 32, 99, 121, 108, 105, 110, 100, 101, 114], [49, 83, 49, 32, 65, 48, 32, 108, 105, 109, 105, 116], [49, 86, 49, 32, 86, 32, 118, 97, 108, 118, 101, 53, 50, 115]]
theorem k26_c : checkP fourC = 0 := by decide +kernel
theorem k26_g : groupsL fourC = g26 := by decide +kernel
theorem k26_l : labelsL fourC = l26 := by decide +kernel
theorem k26_d : legendL fourC = d26 := by decide +kernel
theorem k26_f : fndE fourC ⟨2, [65], 1⟩ = 6 ∧ fndR fourC ⟨2, [65], 1⟩ = 0 := by decide +kernel
theorem k26_p : parE [49, 86, 48, 49] = 4 ∧ parE [86, 49] = 4 ∧ parE [49, 50, 86, 51] = 0 ∧ parL [49, 50, 86, 51] = ⟨12, [86], 3⟩ ∧ parL [49, 86, 48, 49] = noL ∧ parL [86, 49] = noL := by decide +kernel

theorem wF {f : Nat} {args : List AV} {r : AV} (h : Pure Tryz.prog GL f args r) : Pure Tryz.prog GL4 f args r := h.wider GL_four

set_option maxRecDepth 40000 in
theorem c_awake26 : Pure Tryz.prog GL4 11 [] (.p (.bool true)) := by
  refine Pure.of_walk (N := 93) Tryz.func11 rfl rfl rfl (by simp) rfl ?_
  obtain ⟨hs, _⟩ := four_sized
  have hFo := wF c_pneumaticlaw21_Four
  have hG := wF (c_label_Groups fourC hs)
  have hL := wF (c_label_Labels fourC hs)
  have hD := wF (c_label_Legend fourC hs fun _ => by decide +kernel)
  have hF := wF (c_label_Find fourC ⟨2, [65], 1⟩ hs (by decide))
  have hP1 := c_label_Parse [49, 86, 48, 49] (by decide) (.inl (by decide))
  have hP2 := c_label_Parse [86, 49] (by decide) (.inl (by decide))
  have hP3 := c_label_Parse [49, 50, 86, 51] (by decide) (.inl (by decide))
  rw [if_pos k26_c, k26_c, k26_g] at hG
  rw [if_pos k26_c, k26_c, k26_l] at hL
  rw [if_pos k26_c, k26_c, k26_d] at hD
  rw [k26_f.1, k26_f.2] at hF
  rw [k26_p.1, k26_p.2.2.2.2.1] at hP1
  rw [k26_p.2.1, k26_p.2.2.2.2.2] at hP2
  rw [k26_p.2.2.1, k26_p.2.2.2.1] at hP3
  have hEI := wF (c_Eq_Int g26 g26 (by decide))
  have hOw := wF (c_pneumaticlaw26_own l26 (by decide))
  have hSa := wF (c_pneumaticref26_Same l26 l26 (by decide))
  have hES := wF (c_Eq_Str d26 d26 (by decide))
  simp
  refine xcall_pure hFo ?_
  simp
  refine xcall_pure hG ?_
  simp
  refine xcall_pure hL ?_
  simp
  refine xcall_pure hD ?_
  simp
  refine xcall_pure hP1 ?_
  simp
  refine xcall_pure hP2 ?_
  simp
  refine xcall_pure hF ?_
  simp
  refine xcall_pure hP3 ?_
  simp
  refine xcall_lent ?_
  simp
  refine ⟨_, hEI, rfl, ?_⟩
  simp
  refine xcall_pure hOw ?_
  simp
  refine xcall_lent ?_
  simp
  refine ⟨_, hSa, rfl, ?_⟩
  simp
  refine xcall_lent ?_
  simp
  refine ⟨_, hES, rfl, ?_⟩
  simp [XEndT]
end Go.Am
