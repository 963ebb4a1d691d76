/- Lemmas and contracts for the proof of a statement of this seat. -/
import Derived.Test.YtkofnocfackjiaaGreatDoorZF2
import Derived.Test.YtkofnocfackjiaaGreatDoorZCG
set_option linter.unusedVariables false
set_option linter.unusedSimpArgs false
/- Contracts: the reference: All, Groups; chapter 26. -/
namespace Go.Am
open Go Go.Proofs Go.Pn

theorem nextT_lo {A : Nat → List Int} {g : List Int} {n : Nat} (hg : ∀ x ∈ g, -1 ≤ x) : ∀ x ∈ nextT A g n, -1 ≤ x := by
  intro x hx
  obtain ⟨i, e⟩ := List.mem_iff_getElem?.1 hx
  have hi : i < g.length := by have := (List.getElem?_eq_some_iff.1 e).1; rwa [nextT_len] at this
  rw [nextT_at hi] at e
  obtain ⟨y, ey⟩ := get_lt hi
  have hy := hg y (List.mem_of_getElem? ey)
  rw [gAt_nat ey] at e
  by_cases h : i < n ∧ y = -1
  · rw [if_pos h] at e; cases e
    by_cases h1 : minG g (A i) (-1) = -1
    · omega
    · have := minG_one h1; omega
  · rw [if_neg h] at e; cases e; exact hy
theorem iterT_lo {A : Nat → List Int} {g : List Int} {n : Nat} (hg : ∀ x ∈ g, -1 ≤ x) : ∀ {k : Nat}, ∀ x ∈ iterT A n g k, -1 ≤ x
  | 0 => hg
  | k + 1 => nextT_lo (iterT_lo hg)
theorem grpK_lo {c : Circuit} {k i : Nat} : -1 ≤ grpK c k i := by
  unfold grpK
  have h1 := @cylN_pos c (i + 1)
  split
  · omega
  · split
    · split <;> omega
    · split
      · split <;> omega
      · split
        · rename_i p _ _ _ _
          have h2 := @cylN_pos c ((cylOf c p.name).toNat + 1)
          split <;> omega
        · omega
theorem firstT_lo {c : Circuit} {n k : Nat} : ∀ x ∈ firstT c n k, -1 ≤ x := by
  intro x hx
  obtain ⟨i, _, rfl⟩ := List.mem_map.1 hx
  exact grpK_lo
def itG (c : Circuit) (k : Nat) : List Int := iterT (fun i => dirL c (i : Int)) c.parts.length (firstT c c.parts.length c.parts.length) k
theorem itG_len {c : Circuit} {k : Nat} : (itG c k).length = c.parts.length := by unfold itG; rw [iterT_len, firstT_len]
theorem itG_lo {c : Circuit} {k : Nat} : ∀ x ∈ itG c k, -1 ≤ x := iterT_lo firstT_lo
theorem itG_next {c : Circuit} (h : checkP c = 0) {k : Nat} : nextK c (itG c k) c.parts.length = itG c (k + 1) := nextK_dir h
theorem itG_none {c : Circuit} {k : Nat} (hp : ∀ j, j < k → itG c (j + 1) ≠ itG c j) : noneN (itG c k) + k ≤ c.parts.length := by
  have h1 := @iter_none (fun i => dirL c (i : Int)) c.parts.length (firstT c c.parts.length c.parts.length) k hp
  have h2 := @noneN_len (firstT c c.parts.length c.parts.length)
  rw [firstT_len] at h2
  unfold itG
  omega
theorem itG_end {c : Circuit} {k : Nat} (hp : ∀ j, j < k → itG c (j + 1) ≠ itG c j) (he : itG c (k + 1) = itG c k) : itG c k = rawG c := end_of hp he
def clipT (g : List Int) (k : Nat) : List Int := (g.take k).map (fun x => max x 0) ++ g.drop k
theorem clipT_len {g : List Int} {k : Nat} : (clipT g k).length = g.length := by
  unfold clipT
  rw [List.length_append, List.length_map, ← List.length_append, List.take_append_drop]
theorem clipT_at {g : List Int} {k : Nat} (h : k < g.length) : (clipT g k)[k]? = g[k]? := by
  unfold clipT
  rw [List.getElem?_append_right (by simp; omega)]
  simp [Nat.min_eq_left (Nat.le_of_lt h)]
theorem clipT_step {g : List Int} {k : Nat} {x : Int} (e : g[k]? = some x) : (clipT g k).set k (max x 0) = clipT g (k + 1) := by
  have h := (List.getElem?_eq_some_iff.1 e).1
  unfold clipT
  rw [List.set_append_right _ _ (by simp; omega), take_snoc e]
  rw [show g.drop k = x :: g.drop (k + 1) by rw [List.drop_eq_getElem_cons h]; rw [List.getElem?_eq_getElem h] at e; cases e; rfl]
  simp [Nat.min_eq_left (Nat.le_of_lt h)]
theorem clipT_zero {g : List Int} : clipT g 0 = g := by simp [clipT]
theorem clipT_all {g : List Int} : clipT g g.length = g.map fun x => max x 0 := by simp [clipT]

set_option maxRecDepth 20000 in
theorem c_round_nil (c : Circuit) (hs : Sized c) (h0 : c.parts.length = 0) : Pure Tryz.prog GL 97 [c.av, .p (.lst 1 [])] (.tup [.p (.lst 1 []), .p (.bool false)]) := by
  refine Pure.of_walk (N := 70) Tryz.func97 rfl rfl rfl (by simp) rfl ?_
  simp
  refine XLoop.go [1, 2, 6] [0, 1] 0 [] (fun _ => []) (fun _ (_ : Unit) => [(7, .p (.bool false)), (8, .p (.int .i64 0))]) (fun _ _ => []) (fun _ => True) (fun _ => 0) () trivial ?_ ?_
  · simp
    try decide
  intro _ _
  simp [XEndT]

set_option maxRecDepth 20000 in
theorem c_pneumaticref26_All (c : Circuit) (hs : Sized c) (h : checkP c = 0) : Pure Tryz.prog GL 55 [c.av] (.p (.lst 1 ((groupsL c).map Int.enc))) := by
  refine Pure.of_walk (N := 30) Tryz.func55 rfl rfl rfl (by simp) (by first | (simp; done) | simp [*]) ?_
  have h2 := check_parts h
  have hF := c_pneumaticref26_first c hs h
  by_cases h0 : c.parts.length = 0
  · have hR := c_round_nil c hs h0
    have e1 : firstT c c.parts.length c.parts.length = [] := by rw [h0]; rfl
    have e2 : groupsL c = [] := List.length_eq_zero_iff.1 (by rw [groupsL_len, h0])
    rw [e1] at hF
    rw [e2]
    simp
    refine xcall_pure hF ?_
    simp
    refine XLoop.go [1] [0] 0 [] (fun _ => []) (fun _ (m : Bool) => [(3, .p (.lst 1 [])), (4, .p (.bool m))]) (fun _ _ => []) (fun _ => True) (fun m => if m then 1 else 0) true trivial ?_ ?_
    · simp
      try decide
    intro m _
    cases m with
    | true =>
      simp
      refine xcall_pure hR ?_
      simp
      try decide
    | false =>
      simp
      refine XLoop.go [3] [] 0 [] (fun _ => []) (fun _ (_ : Unit) => [(5, .p (.int .i64 0))]) (fun _ _ => []) (fun _ => True) (fun _ => 0) () trivial ?_ ?_
      · simp
        try decide
      intro _ _
      simp [XEndT]
  have hf0 : firstT c c.parts.length c.parts.length = itG c 0 := rfl
  rw [hf0] at hF
  simp
  refine xcall_pure hF ?_
  simp
  refine XLoop.goN [1] [0] 2 (fun (g : Nat × Bool) => [(3, if g.2 then .p (.lst 1 ((itG c g.1).map Int.enc)) else .ref 1 1 0 c.parts.length none), (4, .p (.bool g.2))]) (fun g => if g.2 then [] else [(1, some (.cells 1 ((itG c g.1).map Int.row)))]) (fun g => (∀ j, j < g.1 → itG c (j + 1) ≠ itG c j) ∧ (g.2 = false → itG c (g.1 + 1) = itG c g.1)) (fun g => 2 * (c.parts.length - g.1) + if g.2 then 1 else 0) (0, true) ⟨fun j hj => by omega, fun hh => by cases hh⟩ ?_ ?_
  · refine Leads.subx (ρ := [0]) ?_
    simp
  rintro ⟨k, m⟩ ⟨hp, he⟩
  have hkn := itG_none hp
  simp only at hp he hkn
  cases m with
  | true =>
    simp
    refine xcall_gives (g_round c (itG c k) hs h itG_len itG_lo (by omega) _ _) ?_
    have hnx := @itG_next c h k
    rw [hnx]
    have hil := @itG_len c k
    simp [hil]
    by_cases hc : itG c (k + 1) = itG c k
    · refine ⟨k, .inl ⟨⟨hp, hc⟩, by omega, ?_⟩⟩
      rw [hc]
      refine Leads.subx (ρ := [0, 2]) ?_
      simp
    · have hp' : ∀ j, j < k + 1 → itG c (j + 1) ≠ itG c j := fun j hj => by
        by_cases hjk : j = k
        · subst hjk; exact hc
        · exact hp j (by omega)
      have hkn' := itG_none hp'
      have hil' := @itG_len c (k + 1)
      refine ⟨k + 1, .inr ⟨hp', by omega, ?_⟩⟩
      refine Leads.frz_sub (B := [2]) (ρ := [0]) [(3, .p (.lst 1 ((itG c (k + 1)).map Int.enc)))] [(2, none)] (Freeze.of _ _ ?_ (by simp) (by simp [keys])) ?_
      · intro p hp
        simp only [List.mem_cons, List.not_mem_nil, or_false] at hp
        subst hp
        exact FrzK.refRows (rows := (itG c (k + 1)).map Int.row) (by simp) (by simp [get]) (by rw [List.drop_zero, List.take_of_length_le (by simp [hil']), List.map_map]; rfl) (by simp [hil'])
      · simp [hc]
  | false =>
    have hraw := itG_end hp (he rfl)
    rw [hraw]
    have hrl := @rawG_len c
    have hgr : clipT (rawG c) c.parts.length = groupsL c := by rw [← hrl]; exact clipT_all
    generalize rawG c = g at hrl hgr
    simp
    rw [show List.map Int.row g = (clipT g 0).map Int.row by rw [clipT_zero]]
    refine XLoop.go [3] [] 0 [] (fun _ => []) (fun _ (k : Nat) => [(5, .p (.int .i64 k))]) (fun _ k => [(1, some (.cells 1 ((clipT g k).map Int.row)))]) (fun k => k ≤ g.length) (fun k => g.length - k) 0 (by omega) ?_ ?_
    · simp
      try decide
    intro k hk
    have hcl := @clipT_len g k
    simp
    refine xif_split (fun h3 => ?_) (fun h3 => ?_)
    · simp at h3
      obtain ⟨x, e⟩ := get_lt (show k < g.length by omega)
      have ec : (clipT g k)[k]? = some x := by rw [clipT_at (by omega), e]
      have hst := clipT_step e
      simp [h3, hcl, ec, hrl, -getElem?_pos, List.getElem?_cons_zero, List.getElem?_cons_succ]
      refine ⟨wrap_i64 (by omega) (by omega), k + 1, by omega, by omega, by omega, ?_⟩
      rw [set_rowG, hst]
      exact wknR_refl _
    · simp at h3
      have hk2 : k = c.parts.length := by omega
      subst hk2
      rw [hgr]
      simp [XEndT, groupsL_len]
      rw [List.take_of_length_le (by simp [groupsL_len])]
      rfl

theorem c_pneumaticref26_Groups (c : Circuit) (hs : Sized c) : Pure Tryz.prog GL 16 [c.av] (.tup [.p (.lst 1 ((if checkP c = 0 then groupsL c else []).map Int.enc)), .p (.int .i64 (checkP c))]) := by
  refine Pure.of_walk (N := 12) Tryz.func16 rfl rfl rfl (by simp) (by first | (simp; done) | simp [*]) ?_
  simp
  refine xcall_pure (c_pneumaticref21_Check c hs) ?_
  by_cases h : checkP c = 0
  · simp [h]
    refine xcall_pure (c_pneumaticref26_All c hs h) ?_
    simp [XEndT, h]
  · simp [h, XEndT]
end Go.Am
/- Contracts: the reference: Named, Labels, Text, Format, Find, Same; chapter 26. -/
namespace Go.Am
open Go Go.Proofs Go.Pn

theorem row_letter {k : Nat} (h : k < 14) : (refRow k)[1]? = some (.str (letterN k)) := by
  rcases (by omega : k = 0 ∨ k = 1 ∨ k = 2 ∨ k = 3 ∨ k = 4 ∨ k = 5 ∨ k = 6 ∨ k = 7 ∨ k = 8 ∨ k = 9 ∨ k = 10 ∨ k = 11 ∨ k = 12 ∨ k = 13) with rfl|rfl|rfl|rfl|rfl|rfl|rfl|rfl|rfl|rfl|rfl|rfl|rfl|rfl <;> rfl
def wordN (k : Nat) : Txt := (refWords[k]?.getD ([], [])).1
theorem row_word {k : Nat} : (refRow k)[0]? = some (.str (wordN k)) := rfl

set_option maxRecDepth 20000 in
theorem c_pneumaticref26_Named (c : Circuit) (hs : Sized c) (h : checkP c = 0) : Pure Tryz.prog GL 56 [c.av] (.p (.lst 3 ((labelsL c).map Lbl.enc))) := by
  refine Pure.of_walk (N := 63) Tryz.func56 rfl rfl rfl (by simp) (by first | (simp; done) | simp [*]) ?_
  have h2 := check_parts h
  have hA := c_pneumaticref26_All c hs h
  have hgl := @groupsL_len c
  simp
  refine xcall_pure hA ?_
  simp
  refine XLoop.go [1, 3] [0] 1 [1] (nms [4]) (fun nx (k : Nat) => [(4, .acc nx 3 (labelsT c k).length), (5, .p (.int .i64 k))]) (fun nx k => [(nx, accB 3 ((labelsT c k).map Lbl.row_))]) (fun k => k ≤ c.parts.length) (fun k => c.parts.length - k) 0 (by omega) ?_ ?_
  · simp [labelsT]
    try decide
  intro k hk
  have hll := @labelsT_len c k
  have hst := @labelsT_step c k
  have hlat := fun j (hj : j < k) => @labelsT_at c k j hj
  simp
  refine xif_split (fun h3 => ?_) (fun h3 => ?_)
  · simp [hgl] at h3
    obtain ⟨q, e⟩ := get_lt h3
    have hk14 := part_kind h e
    obtain ⟨y, ey⟩ := get_lt (show k < (groupsL c).length by omega)
    have hk2 : q.kind.toNat < refRows.length := by simp [refRows]; omega
    have hk3 : q.kind < (refRows.length : Int) := by omega
    have hq0 := hk14.1
    have f2 := row_letter (k := q.kind.toNat) (by omega)
    rw [show ((q.kind.toNat : Nat) : Int) = q.kind by omega] at f2
    have hkey : keyG c k = (y, letterN q.kind) := by unfold keyG; rw [gAt_nat ey, kind_at e]
    simp
    refine XDraw.intro (by kernel_rfl) ?_
    simp [hgl, h3, ey, -getElem?_pos, List.getElem?_cons_zero, List.getElem?_cons_succ]
    refine xcall_pure c_pneumaticref20_Rows ?_
    simp [hgl, h3, ey, e, refRows_at (show q.kind.toNat < 14 by omega), hk2, f2, hq0, hk3, -getElem?_pos, List.getElem?_cons_zero, List.getElem?_cons_succ]
    refine ⟨.of (by kernel_rfl), ?_⟩
    have hc0 : cntG c (y, letterN q.kind) 0 = 0 := rfl
    refine XLoop.go [1, 3, 4, 5, 6] [0, 1] 0 [] (fun _ => []) (fun _ (j : Nat) => [(7, .p (.int .i64 j))]) (fun _ j => [(2, some (.cells 3 [[.p (.int .i64 y), .p (.str (letterN q.kind)), .p (.int .i64 ((cntG c (y, letterN q.kind) j : Nat) + 1))]]))]) (fun j => j ≤ k) (fun j => k - j) 0 (by omega) ?_ ?_
    · simp [hc0]
      try decide
    intro j hj
    have hcl := @cntG_le c (y, letterN q.kind) j
    have hcs := @cntG_step c (y, letterN q.kind) j
    simp
    refine xif_split (fun h5 => ?_) (fun h5 => ?_)
    · simp at h5
      have ej := hlat j h5
      have hne : ¬ labelsT c k = [] := fun hh => by rw [hh] at hll; simp at hll; omega
      obtain ⟨u, v⟩ : ∃ u, u = keyG c j := ⟨_, rfl⟩
      obtain ⟨u1, u2⟩ := u
      have elb : lblN c j = ⟨u1, u2, ((cntG c (keyG c j) j : Nat) : Int) + 1⟩ := by unfold lblN; rw [← v]
      rw [elb] at ej
      have hcs : cntG c (y, letterN q.kind) (j + 1) = cntG c (y, letterN q.kind) j + if u1 = y ∧ u2 = letterN q.kind then 1 else 0 := by
        rw [hcs, ← v]
        simp only [Prod.mk.injEq]
      generalize cntG c (keyG c j) j = w at ej
      have hjl : j < (labelsT c k).length := by omega
      by_cases c1 : u1 = y
      · by_cases c2 : u2 = letterN q.kind
        · rw [if_pos ⟨c1, c2⟩] at hcs
          simp
          refine XDraw.intro (by kernel_rfl) ?_
          simp [ej, hne, h5, hll, c1, c2, -getElem?_pos, List.getElem?_cons_zero, List.getElem?_cons_succ]
          exact ⟨.of (by kernel_rfl), wrap_i64 (by omega) (by omega), wrap_i64 (by omega) (by omega), j + 1, by omega, by omega, by omega, by omega⟩
        · rw [if_neg (fun hh => c2 hh.2)] at hcs
          simp
          refine XDraw.intro (by kernel_rfl) ?_
          simp [ej, hne, h5, hll, c1, c2, -getElem?_pos, List.getElem?_cons_zero, List.getElem?_cons_succ]
          exact ⟨.of (by kernel_rfl), wrap_i64 (by omega) (by omega), j + 1, by omega, by omega, by omega, by omega⟩
      · rw [if_neg (fun hh => c1 hh.1)] at hcs
        simp
        refine XDraw.intro (by kernel_rfl) ?_
        simp [ej, hne, h5, hll, c1, -getElem?_pos, List.getElem?_cons_zero, List.getElem?_cons_succ]
        exact ⟨.of (by kernel_rfl), wrap_i64 (by omega) (by omega), j + 1, by omega, by omega, by omega, by omega⟩
    · simp at h5
      have hjk : j = k := by omega
      subst hjk
      have elb : lblN c j = ⟨y, letterN q.kind, ((cntG c (y, letterN q.kind) j : Nat) : Int) + 1⟩ := by unfold lblN; rw [hkey]
      rw [elb] at hst
      simp [hll]
      refine ⟨by omega, wrap_i64 (by omega) (by omega), j + 1, by omega, by omega, ⟨by rw [labelsT_len], by omega⟩, ?_⟩
      rw [hst]
      simp
  · simp [hgl] at h3
    have hk2 : k = c.parts.length := by omega
    subst hk2
    have hL : labelsT c c.parts.length = labelsL c := rfl
    rw [hL]
    simp [XEndT, hgl]

theorem c_pneumaticref26_Labels (c : Circuit) (hs : Sized c) : Pure Tryz.prog GL 18 [c.av] (.tup [.p (.lst 3 ((if checkP c = 0 then labelsL c else []).map Lbl.enc)), .p (.int .i64 (checkP c))]) := by
  refine Pure.of_walk (N := 12) Tryz.func18 rfl rfl rfl (by simp) (by first | (simp; done) | simp [*]) ?_
  simp
  refine xcall_pure (c_pneumaticref21_Check c hs) ?_
  by_cases h : checkP c = 0
  · simp [h]
    refine xcall_pure (c_pneumaticref26_Named c hs h) ?_
    simp [XEndT, h]
  · simp [h, XEndT]

theorem c_pneumaticref26_Text (x : Lbl) (h : chkL x = 0) : Pure Tryz.prog GL 62 [x.av] (.p (.str (textL x))) := by
  refine Pure.of_walk (N := 13) Tryz.func62 rfl rfl rfl (by simp) (by first | (simp; done) | simp [*]) ?_
  obtain ⟨⟨a1, a2⟩, _, a4, a5⟩ := chkL_zero.1 h
  obtain ⟨g, l, n⟩ := x
  simp only at a1 a2 a4 a5
  obtain ⟨g', rfl⟩ : ∃ g' : Nat, g = g' := ⟨g.toNat, by omega⟩
  obtain ⟨n', rfl⟩ : ∃ n' : Nat, n = n' := ⟨n.toNat, by omega⟩
  obtain ⟨b, hb, _⟩ := ltr_one h
  simp only at hb
  subst hb
  have hd1 : (digN g').length ≤ 2 := by unfold digN; split <;> simp
  have hd2 : (digN n').length ≤ 2 := by unfold digN; split <;> simp
  have D1 := c_pneumaticref12_Digits g' (by omega)
  have D2 := c_pneumaticref12_Digits n' (by omega)
  have e : textL ⟨g', [b], n'⟩ = digN g' ++ (b :: digN n') := rfl
  rw [e]
  simp
  refine XDraw.intro (by kernel_rfl) ?_
  simp
  refine xcall_pure D1 ?_
  simp
  refine ⟨by omega, ?_⟩
  refine xcall_pure D2 ?_
  simp
  refine ⟨by omega, .of (by kernel_rfl), ?_⟩
  simp [XEndT]

def fmtL (x : Lbl) : Txt := if chkL x = 0 then textL x else []
theorem c_pneumaticref26_Format (x : Lbl) : Pure Tryz.prog GL 33 [x.av] (.tup [.p (.str (fmtL x)), .p (.int .i64 (chkL x))]) := by
  refine Pure.of_walk (N := 12) Tryz.func33 rfl rfl rfl (by simp) (by first | (simp; done) | simp [*]) ?_
  simp
  refine xcall_pure (c_pneumaticref26_Check x) ?_
  by_cases h : chkL x = 0
  · have e : fmtL x = textL x := if_pos h
    simp [h]
    refine xcall_pure (c_pneumaticref26_Text x h) ?_
    simp [XEndT, e, h]
  · have e : fmtL x = [] := if_neg h
    simp [h, XEndT, e]

theorem c_pneumaticref26_Same (xs ys : List Lbl) (hl : xs.length < 4611686018427387904) : Pure Tryz.prog GL 20 [.p (.lst 3 (xs.map Lbl.enc)), .p (.lst 3 (ys.map Lbl.enc))] (.p (.bool (decide (xs = ys)))) := by
  refine Pure.of_walk (N := 26) Tryz.func20 rfl rfl rfl (by simp) (by first | (simp; done) | simp [*]) ?_
  simp
  refine xif_split (fun h0 => ?_) (fun h0 => ?_)
  · simp at h0
    have hne : ¬ xs = ys := fun h => h0 (by rw [h])
    simp [XEndT, hne]
  · simp at h0
    simp
    refine XLoop.go [0, 1] [] 0 [] (fun _ => []) (fun _ (k : Nat) => [(5, .p (.int .i64 k))]) (fun _ _ => []) (fun k => k ≤ xs.length ∧ ∀ (j : Nat), j < k → xs[j]? = ys[j]?) (fun k => xs.length - k) 0 ⟨by omega, fun j h => by omega⟩ ?_ ?_
    · simp
    · rintro k ⟨hk, hp⟩
      simp
      refine xif_split (fun h => ?_) (fun h => ?_)
      · simp at h
        obtain ⟨x, e⟩ := get_lt h
        have h2 : k < ys.length := by omega
        obtain ⟨y, e2⟩ := get_lt h2
        simp
        refine XDraw.intro (by kernel_rfl) ?_
        simp [h, e, h2, e2, -getElem?_pos, List.getElem?_cons_zero, List.getElem?_cons_succ]
        refine ⟨.of (by kernel_rfl), ?_⟩
        by_cases h3 : x = y
        · subst h3
          simp
          refine ⟨wrap_i64 (by omega) (by omega), k + 1, ⟨by omega, fun j hj => ?_⟩, by omega, ?_⟩
          · by_cases hjk : j = k
            · subst hjk; rw [e, e2]
            · exact hp j (by omega)
          · simp
        · have hne : ¬ xs = ys := fun h => by subst h; rw [e] at e2; cases e2; exact h3 rfl
          simp [h3, XEndT, hne]
      · simp at h
        have hk2 : k = xs.length := by omega
        have hxy : xs = ys := List.ext_getElem? fun j => by
          by_cases hj : j < k
          · exact hp j hj
          · rw [List.getElem?_eq_none (by omega), List.getElem?_eq_none (by omega)]
        simp [XEndT, hxy]

def fndE (c : Circuit) (x : Lbl) : Int := if checkP c ≠ 0 then checkP c else if chkL x ≠ 0 then chkL x else if x ∈ labelsL c then 0 else 6
def fndR (c : Circuit) (x : Lbl) : Int := if fndE c x ≠ 0 then 0 else idxI (labelsL c) fun y => decide (y = x)

set_option maxRecDepth 20000 in
theorem c_pneumaticref26_Find (c : Circuit) (x : Lbl) (hs : Sized c) : Pure Tryz.prog GL 23 [c.av, x.av] (.tup [.p (.int .i64 (fndR c x)), .p (.int .i64 (fndE c x))]) := by
  refine Pure.of_walk (N := 36) Tryz.func23 rfl rfl rfl (by simp) (by first | (simp; done) | simp [*]) ?_
  have hL := c_pneumaticref26_Labels c hs
  have hC := c_pneumaticref26_Check x
  by_cases h : checkP c = 0
  · by_cases h2 : chkL x = 0
    · have hll := @labelsL_len c
      have hp := (check_parts h).2.1
      have hE : fndE c x = if x ∈ labelsL c then 0 else 6 := by unfold fndE; rw [if_neg (by simpa using h), if_neg (by simpa using h2)]
      rw [if_pos h] at hL
      rw [h] at hL
      rw [h2] at hC
      have hR : x ∈ labelsL c → fndR c x = idxI (labelsL c) fun y => decide (y = x) := fun hx => by unfold fndR; rw [hE, if_pos hx, if_neg (by simp)]
      have hR0 : x ∉ labelsL c → fndR c x = 0 := fun hx => by unfold fndR; rw [hE, if_neg hx, if_pos (by simp)]
      generalize fndE c x = E at hE
      generalize fndR c x = R at hR hR0
      generalize labelsL c = L at hL hll hE hR hR0
      simp
      refine xcall_pure hL ?_
      simp
      refine xcall_pure hC ?_
      simp
      refine XLoop.go [3, 6] [1] 0 [] (fun _ => []) (fun _ (k : Nat) => [(9, .p (.int .i64 k))]) (fun _ _ => []) (fun k => k ≤ L.length ∧ ∀ (j : Nat) y, j < k → L[j]? = some y → decide (y = x) = false) (fun k => L.length - k) 0 ⟨by omega, fun j y h => by omega⟩ ?_ ?_
      · simp
        try decide
      rintro k ⟨hk, hp⟩
      simp
      refine xif_split (fun h3 => ?_) (fun h3 => ?_)
      · simp at h3
        obtain ⟨y, ey⟩ := get_lt h3
        simp
        refine XDraw.intro (by kernel_rfl) ?_
        simp [h3, ey, -getElem?_pos, List.getElem?_cons_zero, List.getElem?_cons_succ]
        refine ⟨.of (by kernel_rfl), ?_⟩
        by_cases hy : y = x
        · have hm : x ∈ L := by rw [← hy]; exact List.mem_of_getElem? ey
          rw [if_pos hm] at hE
          have hi : (idxI L fun y => decide (y = x)) = k := idxI_at (q := fun y => decide (y = x)) ey (by simpa using hy) hp
          simp [hy, XEndT, hE, hR hm, hi]
        · simp [hy]
          refine ⟨wrap_i64 (by omega) (by omega), k + 1, ⟨by omega, ?_⟩, by omega, ?_⟩
          · intro j z hj ez
            by_cases hjk : j = k
            · subst hjk; rw [ey] at ez; cases ez; exact hy
            · simpa using hp j z (by omega) ez
          · simp
            try decide
      · simp at h3
        have hn : x ∉ L := fun hm => by
          obtain ⟨j, ej⟩ := List.mem_iff_getElem?.1 hm
          have := hp j x (by have := (List.getElem?_eq_some_iff.1 ej).1; omega) ej
          simp at this
        rw [if_neg hn] at hE
        simp [XEndT, hE, hR0 hn]
    · have hE : fndE c x = chkL x := by unfold fndE; rw [if_neg (by simpa using h), if_pos h2]
      have hR : fndR c x = 0 := by unfold fndR; rw [hE, if_pos h2]
      rw [h] at hL
      simp
      refine xcall_pure hL ?_
      simp
      refine xcall_pure hC ?_
      simp [h2, XEndT, hE, hR]
  · have hE : fndE c x = checkP c := if_pos h
    have hR : fndR c x = 0 := by unfold fndR; rw [hE, if_pos h]
    simp
    refine xcall_pure hL ?_
    simp [h, XEndT, hE, hR]
end Go.Am
/- Contracts: the reference's Legend; chapter 26. -/
namespace Go.Am
open Go Go.Proofs Go.Pn

theorem minG_hi {g : List Int} {B : Int} (hB : -1 ≤ B) (hg : ∀ x ∈ g, x ≤ B) {ks : List Int} : minG g ks (-1) ≤ B := by
  rcases @minG_is g ks with ⟨h1, _⟩ | ⟨⟨k, _, h1, h2⟩, _⟩
  · omega
  · rw [← h1]
    unfold gAt
    cases e : g[k.toNat]? with
    | none => simpa using hB
    | some x => exact hg x (List.mem_of_getElem? e)
theorem nextT_hi {A : Nat → List Int} {g : List Int} {n : Nat} {B : Int} (hB : -1 ≤ B) (hg : ∀ x ∈ g, x ≤ B) : ∀ x ∈ nextT A g n, x ≤ B := by
  intro x hx
  obtain ⟨i, e⟩ := List.mem_iff_getElem?.1 hx
  have hi : i < g.length := by have := (List.getElem?_eq_some_iff.1 e).1; rwa [nextT_len] at this
  rw [nextT_at hi] at e
  obtain ⟨y, ey⟩ := get_lt hi
  rw [gAt_nat ey] at e
  by_cases h : i < n ∧ y = -1
  · rw [if_pos h] at e; cases e
    exact minG_hi hB hg
  · rw [if_neg h] at e; cases e; exact hg _ (List.mem_of_getElem? ey)
theorem iterT_hi {A : Nat → List Int} {g : List Int} {n : Nat} {B : Int} (hB : -1 ≤ B) (hg : ∀ x ∈ g, x ≤ B) : ∀ {k : Nat}, ∀ x ∈ iterT A n g k, x ≤ B
  | 0 => hg
  | k + 1 => nextT_hi hB (iterT_hi hB hg)
theorem cylN_all {c : Circuit} {k : Nat} : cylN c k ≤ c.parts.length := by
  have h1 := @List.countP_le_length _ (fun p : Part => decide (p.kind = 1)) (c.parts.take k)
  have h2 : (c.parts.take k).length ≤ c.parts.length := by simp; omega
  unfold cylN; omega
theorem firstT_hi {c : Circuit} {n k : Nat} : ∀ x ∈ firstT c n k, x ≤ c.parts.length := by
  intro x hx
  obtain ⟨i, _, rfl⟩ := List.mem_map.1 hx
  unfold grpK
  have h1 := @cylN_all c (i + 1)
  split
  · omega
  · split
    · split <;> omega
    · split
      · split <;> omega
      · split
        · rename_i p _ _ _ _
          have h2 := @cylN_all c ((cylOf c p.name).toNat + 1)
          split <;> omega
        · omega
theorem groups_range {c : Circuit} {i : Nat} {y : Int} (e : (groupsL c)[i]? = some y) : 0 ≤ y ∧ y ≤ c.parts.length := by
  unfold groupsL at e
  rw [List.getElem?_map, Option.map_eq_some_iff] at e
  obtain ⟨x, h1, rfl⟩ := e
  have h2 : x ≤ c.parts.length := iterT_hi (by omega) firstT_hi x (by unfold rawG endT at h1; exact List.mem_of_getElem? h1)
  omega
theorem letter_in {k : Int} : letterN k ∈ [([65] : Txt), [83], [86], [90]] := by
  unfold letterN
  split
  · simp
  · split
    · simp
    · split <;> simp
theorem lbl_ok {c : Circuit} (h : checkP c = 0) {i : Nat} (hi : i < c.parts.length) : chkL (lblN c i) = 0 := by
  have h2 := (check_parts h).2.1
  obtain ⟨y, ey⟩ := get_lt (show i < (groupsL c).length by rw [groupsL_len]; exact hi)
  have h3 := groups_range ey
  have h4 := @cntG_le c (keyG c i) i
  rw [chkL_zero]
  have e1 : (lblN c i).grp = y := gAt_nat ey
  refine ⟨by rw [e1]; omega, letter_in, ?_⟩
  show 1 ≤ ((cntG c (keyG c i) i : Nat) : Int) + 1 ∧ ((cntG c (keyG c i) i : Nat) : Int) + 1 ≤ 64
  omega
theorem textL_len {x : Lbl} (h : chkL x = 0) : (textL x).length ≤ 5 := by
  obtain ⟨b, hb, _⟩ := ltr_one h
  have hd : ∀ n, (digN n).length ≤ 2 := fun n => by unfold digN; split <;> simp
  have h1 := hd x.grp.toNat
  have h2 := hd x.num.toNat
  unfold textL
  rw [hb]
  simp only [List.length_append, List.length_cons, List.length_nil]
  omega

def lineL (c : Circuit) (i : Nat) : Txt := textL (lblN c i) ++ (32 :: (nameAt c i ++ (32 :: wordN (kindAt c i).toNat)))
def legI (c : Circuit) (m i : Nat) : List Txt := ((List.range i).filter fun i => decide (rankN c i = m)).map (lineL c)
def legT (c : Circuit) (m : Nat) : List Txt := (List.range m).flatMap fun m => legI c m c.parts.length
theorem legI_step {c : Circuit} {m i : Nat} : legI c m (i + 1) = legI c m i ++ if rankN c i = m then [lineL c i] else [] := by
  unfold legI
  rw [List.range_succ, List.filter_append, List.map_append]
  by_cases h : rankN c i = m <;> simp [h]
theorem legI_len {c : Circuit} {m i : Nat} : (legI c m i).length ≤ i := by
  have h1 := @List.length_filter_le _ (fun i => decide (rankN c i = m)) (List.range i)
  unfold legI
  rw [List.length_map]
  simpa using h1
theorem legT_step {c : Circuit} {m : Nat} : legT c (m + 1) = legT c m ++ legI c m c.parts.length := by
  unfold legT; rw [List.range_succ, List.flatMap_append]; simp
theorem legT_len {c : Circuit} : ∀ {m : Nat}, (legT c m).length ≤ m * c.parts.length
  | 0 => by simp [legT]
  | m + 1 => by
    have ih := @legT_len c m
    have h1 := @legI_len c m c.parts.length
    rw [legT_step, List.length_append, Nat.succ_mul]
    omega
def legendL (c : Circuit) : List Txt := legT c c.parts.length
theorem legend_is {c : Circuit} : legendL c = (orderL c).map (lineL c) := by
  unfold legendL legT orderL
  rw [List.map_flatMap]
  rfl
def befN (c : Circuit) (i k : Nat) : Nat := (List.range k).countP fun k => lblLt (lblN c k) (lblN c i)
theorem befN_step {c : Circuit} {i k : Nat} : befN c i (k + 1) = befN c i k + if lblLt (lblN c k) (lblN c i) = true then 1 else 0 := by
  unfold befN
  rw [List.range_succ, List.countP_append]
  by_cases h : lblLt (lblN c k) (lblN c i) = true <;> simp [h]
theorem befN_le {c : Circuit} {i k : Nat} : befN c i k ≤ k := by
  have := @List.countP_le_length _ (fun k => lblLt (lblN c k) (lblN c i)) (List.range k)
  rw [List.length_range] at this
  exact this
theorem befN_all {c : Circuit} {i : Nat} : befN c i c.parts.length = rankN c i := rfl
theorem wordN_len {k : Nat} (h : k < 14) : (wordN k).length ≤ 10 := (by decide : ∀ k, k < 14 → (wordN k).length ≤ 10) k h

set_option maxRecDepth 20000 in
theorem c_pneumaticref26_Legend (c : Circuit) (hs : Sized c) : Pure Tryz.prog GL 25 [c.av] (.tup [.p (.lst 1 ((if checkP c = 0 then legendL c else []).map Txt.enc)), .p (.int .i64 (checkP c))]) := by
  refine Pure.of_walk (N := 80) Tryz.func25 rfl rfl rfl (by simp) (by first | (simp; done) | simp [*]) ?_
  have hL := c_pneumaticref26_Labels c hs
  by_cases h : checkP c = 0
  · have h2 := check_parts h
    rw [if_pos h, h] at hL
    rw [if_pos h, h]
    have hll : (labelsL c).length = c.parts.length := labelsL_len
    have hat := fun {j : Nat} (hj : j < c.parts.length) => show (labelsL c)[j]? = some (lblN c j) from labelsT_at hj
    generalize labelsL c = L at hL hll hat
    simp
    refine xcall_pure hL ?_
    simp
    refine XLoop.goN [1, 4] [0] 2 (fun (m : Nat) => [(6, .acc 1 1 (legT c m).length), (7, .p (.int .i64 m))]) (fun m => [(1, accB 1 ((legT c m).map Txt.row))]) (fun m => m ≤ c.parts.length) (fun m => c.parts.length - m) 0 (by omega) ?_ ?_
    · refine Leads.subx (ρ := [0, 1]) ?_
      simp [legT]
    intro m hm
    have htl := @legT_len c m
    have hmul : m * c.parts.length ≤ 64 * 64 := Nat.mul_le_mul (by omega) (by omega)
    simp
    refine xif_split (fun h3 => ?_) (fun h3 => ?_)
    · simp [hll] at h3
      simp
      refine XLoop.goN [1, 4, 7] [0] 2 (fun (i : Nat) => [(6, .acc 1 1 (legT c m ++ legI c m i).length), (8, .p (.int .i64 i))]) (fun i => [(1, accB 1 ((legT c m ++ legI c m i).map Txt.row))]) (fun i => i ≤ c.parts.length) (fun i => c.parts.length - i) 0 (by omega) ?_ ?_
      · refine Leads.subx (ρ := [0, 1]) ?_
        simp [legI]
      intro i hi
      have hil := @legI_len c m i
      have hist := @legI_step c m i
      simp
      refine xif_split (fun h5 => ?_) (fun h5 => ?_)
      · simp [hll] at h5
        have ei := hat h5
        have hok := lbl_ok h h5
        have hT := c_pneumaticref26_Text (lblN c i) hok
        have htx := textL_len hok
        obtain ⟨q, eq⟩ := get_lt h5
        have hline : lineL c i = textL (lblN c i) ++ (32 :: (q.name ++ (32 :: wordN q.kind.toNat))) := by unfold lineL; rw [name_at eq, kind_at eq]
        generalize legT c m ++ legI c m i = A at hist
        simp
        refine XLoop.go [1, 4, 6, 7, 8] [0, 1] 0 [] (fun _ => []) (fun _ (k : Nat) => [(9, .p (.int .i64 (befN c i k))), (10, .p (.int .i64 k))]) (fun _ _ => []) (fun k => k ≤ c.parts.length) (fun k => c.parts.length - k) 0 (by omega) ?_ ?_
        · simp [befN]
          try decide
        intro k hk
        have hbs := @befN_step c i k
        have hbl := @befN_le c i k
        simp
        refine xif_split (fun h7 => ?_) (fun h7 => ?_)
        · simp [hll] at h7
          have ek := hat h7
          have hB := c_pneumaticref26_Before (lblN c k) (lblN c i)
          simp
          refine XDraw.intro (by kernel_rfl) ?_
          simp [h5, h7, hll, ei, ek, -getElem?_pos, List.getElem?_cons_zero, List.getElem?_cons_succ]
          refine xcall_pure hB ?_
          simp
          refine ⟨.of (by kernel_rfl), ?_⟩
          cases hlt : lblLt (lblN c k) (lblN c i) with
          | true =>
            rw [if_pos hlt] at hbs
            simp
            refine ⟨wrap_i64 (by omega) (by omega), wrap_i64 (by omega) (by omega), k + 1, by omega, by omega, ?_⟩
            first | omega | (constructor <;> omega)
          | false =>
            rw [if_neg (by rw [hlt]; simp)] at hbs
            simp
            refine ⟨wrap_i64 (by omega) (by omega), k + 1, by omega, by omega, ?_⟩
            first | omega | (constructor <;> omega)
        · simp [hll] at h7
          have hk2 : k = c.parts.length := by omega
          subst hk2
          have hba := @befN_all c i
          by_cases hr : rankN c i = m
          · rw [if_pos hr] at hist
            have hqs := hs.names q (List.mem_of_getElem? eq)
            have hk14 := part_kind h eq
            have hk2 : q.kind.toNat < refRows.length := by simp [refRows]; omega
            have hk3 : q.kind < (refRows.length : Int) := by omega
            have hq0 := hk14.1
            have f2 := @row_word q.kind.toNat
            have hwl := @wordN_len q.kind.toNat (by omega)
            simp [hba, hr]
            refine XDraw.intro (by kernel_rfl) ?_
            simp [h5, hll, ei, eq, -getElem?_pos, List.getElem?_cons_zero, List.getElem?_cons_succ]
            refine xcall_pure hT ?_
            simp [h5, hll, ei, eq, -getElem?_pos, List.getElem?_cons_zero, List.getElem?_cons_succ]
            refine ⟨by omega, by omega, by omega, ?_⟩
            refine xcall_pure c_pneumaticref20_Rows ?_
            simp [h5, hll, ei, eq, refRows_at (show q.kind.toNat < 14 by omega), hk2, f2, hq0, hk3, -getElem?_pos, List.getElem?_cons_zero, List.getElem?_cons_succ]
            refine ⟨by omega, by omega, .of (by kernel_rfl), wrap_i64 (by omega) (by omega), i + 1, by omega, by omega, ?_⟩
            rw [hist]
            refine Leads.subx (ρ := [0, 3]) ?_
            simp [hline]
            omega
          · have hr' : ¬ ((rankN c i : Int) = (m : Int)) := by omega
            rw [if_neg hr] at hist
            simp [hba, hr, hr']
            refine ⟨wrap_i64 (by omega) (by omega), i + 1, by omega, by omega, ?_⟩
            rw [hist, List.append_nil]
            refine Leads.subx (ρ := [0, 1]) ?_
            simp
      · simp [hll] at h5
        have hi2 : i = c.parts.length := by omega
        subst hi2
        simp
        refine ⟨wrap_i64 (by omega) (by omega), m + 1, by omega, by omega, ?_⟩
        rw [legT_step]
        refine Leads.subx (ρ := [0, 1]) ?_
        simp
    · simp [hll] at h3
      have hm2 : m = c.parts.length := by omega
      subst hm2
      have hT : legT c c.parts.length = legendL c := rfl
      rw [hT]
      simp [XEndT]
  · rw [if_neg h] at hL
    rw [if_neg h]
    simp
    refine xcall_pure hL ?_
    simp [h, XEndT]
end Go.Am
