/- Contracts: the reference's Arrange. -/
import Derived.Test.YtfcljeghfckabaaGreatDoorZD6
import Derived.Test.YtfcljeghfckabaaGreatDoorZA8
set_option linter.unusedVariables false
set_option linter.unusedSimpArgs false
namespace Go.Am
open Go Go.Proofs Go.Pn

theorem sumL_near {c : Circuit} {l : List Plc} (h : Near l) : 0 ≤ sumL c l := (lenT_near h).1
/-- The reference's best places after the first orders. -/
def bstG (c : Circuit) (l : List Plc) (cols : List Int) (os : List (List Int)) (k : Nat) : BSt := (os.take k).foldl (arrStep c l cols) ⟨l, -1⟩
def bstL (c : Circuit) (l : List Plc) (cols : List Int) (os : List (List Int)) (k : Nat) : List Plc := if k = 0 then [] else (bstG c l cols os k).b
theorem bstG_snoc {c : Circuit} {l : List Plc} {cols : List Int} {os : List (List Int)} {k : Nat} {o : List Int} (e : os[k]? = some o) : bstG c l cols os (k + 1) = arrStep c l cols (bstG c l cols os k) o := by
  unfold bstG; rw [take_snoc e, List.foldl_append]; rfl
theorem bstG_ok {c : Circuit} {l : List Plc} {cols : List Int} {os : List (List Int)} (hn : Near l) (hc : ∀ x ∈ cols, 0 ≤ x ∧ x < 64) : ∀ {k : Nat}, 0 < k → k ≤ os.length →
    (bstG c l cols os k).n = sumL c (bstG c l cols os k).b ∧ Near (bstG c l cols os k).b ∧ (bstG c l cols os k).b.length = l.length
  | 0, h, _ => by omega
  | k + 1, _, hk => by
    obtain ⟨o, e⟩ := get_lt (show k < os.length by omega)
    rw [bstG_snoc e]
    unfold arrStep
    have hm := @nowN_near l cols o hn hc o.length
    have hl := @nowN_len l cols o o.length
    simp only
    by_cases h1 : (bstG c l cols os k).n < 0 ∨ sumL c (nowN l cols o o.length) < (bstG c l cols os k).n
    · rw [if_pos h1]; exact ⟨rfl, hm, hl⟩
    · rw [if_neg h1]
      have h0 : 0 < k := by
        rcases Nat.eq_zero_or_pos k with rfl | h
        · exact absurd (.inl (by simp [bstG])) h1
        · exact h
      exact bstG_ok hn hc h0 (by omega)
/-- Whether an order is taken, as the reference asks. -/
theorem bst_take {c : Circuit} {l : List Plc} {cols : List Int} {os : List (List Int)} {k : Nat} {o : List Int} (hn : Near l) (hc : ∀ x ∈ cols, 0 ≤ x ∧ x < 64) (e : os[k]? = some o) (hk : 0 < k) :
    bstL c l cols os (k + 1) = if sumL c (nowN l cols o o.length) < sumL c (bstL c l cols os k) then nowN l cols o o.length else bstL c l cols os k := by
  have hkl := (List.getElem?_eq_some_iff.1 e).1
  obtain ⟨h1, h2, _⟩ := bstG_ok (c := c) (os := os) hn hc hk (by omega)
  have hs := sumL_near (c := c) h2
  have hk0 : ¬ k = 0 := by omega
  have hk1 : ¬ k + 1 = 0 := by omega
  unfold bstL
  simp only [if_neg hk0, if_neg hk1]
  rw [bstG_snoc e]
  unfold arrStep
  simp only
  rw [h1]
  by_cases h3 : sumL c (nowN l cols o o.length) < sumL c (bstG c l cols os k).b
  · rw [if_pos (.inr h3), if_pos h3]
  · rw [if_neg (by omega), if_neg h3]
theorem bst_first {c : Circuit} {l : List Plc} {cols : List Int} {os : List (List Int)} {o : List Int} (e : os[0]? = some o) : bstL c l cols os 1 = nowN l cols o o.length := by
  unfold bstL
  rw [if_neg (by omega), bstG_snoc e]
  unfold arrStep
  simp [bstG]
theorem bst_ok {c : Circuit} {l : List Plc} {cols : List Int} {os : List (List Int)} (hn : Near l) (hc : ∀ x ∈ cols, 0 ≤ x ∧ x < 64) {k : Nat} (h : 0 < k) (hk : k ≤ os.length) : Near (bstL c l cols os k) ∧ (bstL c l cols os k).length = l.length := by
  unfold bstL
  rw [if_neg (by omega)]
  exact (bstG_ok hn hc h hk).2
theorem colsN_parts {l : List Plc} {row : Int} : ∀ {k : Nat}, k ≤ l.length → (partsN l row k).map (fun x => (plcAt l x).col) = colsN l row k
  | 0, _ => rfl
  | k + 1, h => by
    obtain ⟨p, e⟩ := get_lt (show k < l.length by omega)
    have ih := @colsN_parts l row k (by omega)
    simp only [partsN, colsN, e]
    split
    · rw [List.map_append, ih]; simp [plcAt, e]
    · exact ih


set_option maxRecDepth 20000 in
theorem c_pneumaticref25_Arrange (c : Circuit) (l : List Plc) (row : Int) (hs : Sized c) : Pure Go.Proofs.Tryz.prog GL 17 [c.av, .p (.lst 2 (l.map Plc.enc)), .p (.int .i64 row)] (.tup [.p (.lst 2 ((arrRes c l row).map Plc.enc)), .p (.int .i64 (arrErr c l row))]) := by
  refine Pure.of_aevT (N := 96) Go.Proofs.Tryz.func17 rfl rfl rfl (by simp) rfl ?_
  refine AEv.seqY ?_
  simp
  refine AEv.seqY ?_
  simp
  refine xcall_pure (c_pneumaticref25_Check c l hs) ?_
  simp
  by_cases h : ¬ layE c l = 0
  · have e1 : arrErr c l row = layE c l := if_pos h
    have e2 : arrRes c l row = [] := if_pos (by rw [e1]; exact h)
    simp [h, XEndT, e1, e2]
  simp only [Decidable.not_not] at h
  obtain ⟨hc, hL⟩ := layE_zero.1 h
  have hlen : l.length ≤ 64 := by rw [hL.len]; exact (check_parts hc).2.1
  simp [h]
  have hbad : row < 0 ∨ 5 ≤ row → arrErr c l row = 2 ∧ arrRes c l row = [] := fun hr2 => by
    have e1 : arrErr c l row = 2 := by unfold arrErr; rw [if_neg (by simpa using h), if_pos hr2]
    exact ⟨e1, if_pos (by rw [e1]; simp)⟩
  refine AEv.seqY ?_
  simp
  refine xif_split (fun hr => ?_) (fun hr => ?_)
  · simp at hr
    have hr0 : ¬ row < 0 := by omega
    simp [hr0]
    refine xif_split (fun hr5 => ?_) (fun hr5 => ?_)
    · simp at hr5
      simp [XEndT, hbad (.inr (by omega : 5 ≤ row))]
    simp at hr5
    simp
    refine AEv.seqY ?_
    simp
    refine AEv.seqY ?_
    simp
    refine XLoop.goN [1, 2, 3] [0] 2 (fun (k : Nat) => [(9, .acc 1 1 (partsN l row k).length), (10, .p (.int .i64 k))]) (fun k => [(1, accB 1 ((partsN l row k).map Int.row))]) (fun k => k ≤ l.length) (fun k => l.length - k) 0 (by omega) ?_ ?_
    · refine Leads.subx (ρ := [0, 1]) ?_
      simp [partsN]
    intro k hk
    simp
    refine xif_split (fun h3 => ?_) (fun h3 => ?_)
    · simp at h3
      obtain ⟨p, e⟩ := get_lt h3
      have hpl := @partsN_len l row k
      simp [h3, e, -getElem?_pos, List.getElem?_cons_zero, List.getElem?_cons_succ]
      refine xif_split (fun h4 => ?_) (fun h4 => ?_)
      · simp at h4
        have eP : partsN l row (k + 1) = partsN l row k ++ [(k : Int)] := by simp [partsN, e, h4]
        simp
        refine ⟨by omega, wrap_i64 (by omega) (by omega), k + 1, by omega, by omega, ?_⟩
        rw [eP]
        refine Leads.subx (ρ := [0, 3]) ?_
        simp
      · simp at h4
        have eP : partsN l row (k + 1) = partsN l row k := by simp [partsN, e, h4]
        simp
        refine ⟨wrap_i64 (by omega) (by omega), k + 1, by omega, by omega, ?_⟩
        rw [eP]
        refine Leads.subx (ρ := [0, 1]) ?_
        simp
    simp at h3
    have hkl : k = l.length := by omega
    subst hkl
    have hpl := @partsN_len l row l.length
    simp
    refine AEv.seqY ?_
    simp
    refine xif_split (fun h5 => ?_) (fun h5 => ?_)
    · simp at h5
      have e1 : arrErr c l row = 12 := by unfold arrErr; rw [if_neg (by simpa using h), if_neg (by omega), if_pos (by omega)]
      have e2 : arrRes c l row = [] := if_pos (by rw [e1]; simp)
      simp [XEndT, e1, e2]
    simp at h5
    have e1 : arrErr c l row = 0 := by unfold arrErr; rw [if_neg (by simpa using h), if_neg (by omega), if_neg (by omega)]
    have e2 : arrRes c l row = ((ordersL (partsN l row l.length)).foldl (arrStep c l (sortI (colsN l row l.length))) ⟨l, -1⟩).b := if_neg (by simp [e1])
    simp
    have hpm : ∀ x ∈ partsN l row l.length, ∃ i : Nat, x = i ∧ i < l.length := fun x hx => by
      obtain ⟨i, p, h1, h2, _⟩ := partsN_mem hx
      exact ⟨i, h1, h2⟩
    generalize hP : partsN l row l.length = ps at hpm hpl h5 e2 ⊢
    refine AEv.leads (st := ⟨[(9, .p (.lst 1 (ps.map Int.enc))), (1, .p (.lst 2 (l.map Plc.enc))), (3, .ptr 0 2 0 0)], [(0, some (.cells 2 [[.p (.lst 3 (c.parts.map Part.enc)), .p (.lst 4 (c.pipes.map Pipe.enc))]]))], 1⟩) ?_ (xc_sound ?_)
    · refine Leads.frz_sub (B := [1]) (ρ := [0]) [(9, .p (.lst 1 (ps.map Int.enc)))] [(1, none)] (Freeze.of _ _ ?_ (by simp) (by simp [keys])) ?_
      · intro p hp
        simp only [List.mem_cons, List.not_mem_nil, or_false] at hp
        subst hp
        exact FrzK.accRows (rows := ps.map Int.row) (by simp) (by simp [get]) (by simp) (by simp)
      · simp
    simp
    refine xcall_pure (c_pneumaticref25_columns l ps hpm (by omega)) ?_
    simp
    refine xcall_pure (c_pneumaticref25_orders ps.length ps rfl (by omega)) ?_
    simp
    have hcn : ∀ x ∈ colsN l row l.length, 0 ≤ x ∧ x < 64 := fun x hx => by
      obtain ⟨p, hp, rfl⟩ := colsN_mem hx
      exact hL.col p hp
    have hcr : colsR l ps 64 = sortI (colsN l row l.length) := colsR_eq (by rw [← hP]; exact colsN_parts (Nat.le_refl _)) hcn
    rw [← hcr] at e2
    have hcl : (colsR l ps 64).length = ps.length := by rw [hcr, sortI_len, colsN_len, hP]
    have hcm : ∀ x ∈ colsR l ps 64, 0 ≤ x ∧ x < 64 := fun x hx => by rw [hcr] at hx; exact hcn x (sortI_mem.1 hx)
    have hol : (ordersF ps.length ps).length ≤ 120 := by rw [ordersF_len rfl]; exact facN_le (by omega)
    have hom : ∀ o ∈ ordersF ps.length ps, o.length = ps.length ∧ ∀ x ∈ o, ∃ i : Nat, x = i ∧ i < l.length := fun o ho => by
      obtain ⟨h1, h2⟩ := ordersF_mem rfl ho
      exact ⟨h1, fun x hx => hpm x (h2 x hx)⟩
    unfold ordersL at e2
    have hn0 : 0 < (ordersF ps.length ps).length := by
      rw [ordersF_len rfl]
      generalize ps.length = n
      induction n with
      | zero => decide
      | succ n ih => exact Nat.mul_pos (by omega) ih
    generalize colsR l ps 64 = cols at e2 hcl hcm ⊢
    generalize ordersF ps.length ps = os at e2 hol hom hn0 ⊢
    clear hcr
    refine XLoop.goN [1, 3, 9, 11, 13] [0] 1 (fun (k : Nat) => [(12, .p (.lst 2 ((bstL c l cols os k).map Plc.enc))), (14, .p (.int .i64 k))]) (fun _ => []) (fun k => k ≤ os.length) (fun k => os.length - k) 0 (by omega) ?_ ?_
    · refine Leads.frz_sub (B := []) (ρ := [0]) [(12, .p (.lst 2 []))] [] (Freeze.of _ _ ?_ (by simp) (by simp [keys])) ?_
      · intro p hp
        simp only [List.mem_cons, List.not_mem_nil, or_false] at hp
        subst hp
        exact .frz _ _ (.one _ _ (.nils 2))
      · simp [bstL]
    intro k hk
    simp
    refine xif_split (fun h6 => ?_) (fun h6 => ?_)
    · simp at h6
      obtain ⟨o, eo⟩ := get_lt h6
      obtain ⟨ho1, ho2⟩ := hom o (List.mem_of_getElem? eo)
      have hrow : (fun x => List.map AV.p x) ∘ Plc.enc = Plc.row_ := rfl
      simp
      refine ⟨by omega, ?_⟩
      refine xdec_split (fun h7 => ?_) (fun h7 => ?_)
      · simp
        refine XLoop.goN [1, 3, 9, 11, 12, 13, 14] [0] 2 (fun (j : Nat) => [(15, .ref 1 2 0 l.length none), (16, .p (.int .i64 j))]) (fun j => [(1, some (.cells 2 ((nowN l cols o j).map Plc.row_)))]) (fun j => j ≤ ps.length) (fun j => ps.length - j) 0 (by omega) ?_ ?_
        · refine Leads.subx (ρ := [0, 2]) ?_
          simp [nowN, hrow]
        intro j hj
        have hnl := @nowN_len l cols o j
        simp
        refine xif_split (fun h8 => ?_) (fun h8 => ?_)
        · simp at h8
          obtain ⟨x, ex⟩ := get_lt (show j < o.length by omega)
          obtain ⟨i, rfl, hi⟩ := ho2 x (List.mem_of_getElem? ex)
          obtain ⟨y, ey⟩ := get_lt (show j < cols.length by omega)
          have hi2 : i < (nowN l cols o j).length := by omega
          obtain ⟨p, ep⟩ := get_lt hi2
          have hjc : j < cols.length := by omega
          have hjo : j < o.length := by omega
          have hnow : nowN l cols o (j + 1) = (nowN l cols o j).set i ⟨p.row, y⟩ := by simp [nowN, ex, ey, plcAt, ep]
          simp
          refine XDraw.intro (by kernel_rfl) ?_
          simp [h6, eo, ex, ey, hi, hi2, hnl, ep, hjc, hjo, Ints.enc1, -getElem?_pos, List.getElem?_cons_zero, List.getElem?_cons_succ]
          refine ⟨.of (by kernel_rfl), wrap_i64 (by omega) (by omega), j + 1, by omega, by omega, ?_⟩
          rw [hnow, set_rowP]
          refine Leads.subx (ρ := [0, 1]) ?_
          generalize (nowN l cols o j).set i ⟨p.row, y⟩ = m2
          simp
        simp at h8
        have hjl : j = o.length := by omega
        subst hjl
        have hm := @nowN_near l cols o hL.near hcm o.length
        have hSn := c_pneumaticref25_Sum c (nowN l cols o o.length) hc (by rw [nowN_len, hL.len]) hm
        simp
        refine XDraw.intro (by kernel_rfl) ?_
        have hml : (nowN l cols o o.length).length = l.length := nowN_len
        have hbs := fun h => bst_first (c := c) (l := l) (cols := cols) (os := os) (o := o) h
        have hbt := fun h => bst_take (c := c) (k := k) hL.near hcm eo h
        generalize nowN l cols o o.length = m at hm hSn hml hbs hbt ⊢
        have htk : List.take l.length (List.map Plc.row_ m) = List.map Plc.row_ m := List.take_of_length_le (by simp [hml])
        by_cases hk0 : k = 0
        · subst hk0
          have hbs := hbs eo
          simp
          refine ⟨.of (by kernel_rfl), 1, by omega, by omega, ?_⟩
          rw [hbs]
          refine Leads.frz_sub (B := [1]) (ρ := [0]) [(12, .p (.lst 2 (m.map Plc.enc)))] [(1, none)] (Freeze.of _ _ ?_ (by simp) (by simp [keys])) ?_
          · intro p hp
            simp only [List.mem_cons, List.not_mem_nil, or_false] at hp
            subst hp
            exact FrzK.refRows (rows := m.map Plc.row_) (by simp) (by simp [get]) (by rw [List.drop_zero, List.take_of_length_le (by simp [hml]), List.map_map]; rfl) (by simpa using hml)
          · simp
        · have hbt := hbt (by omega)
          obtain ⟨hb1, hb2⟩ := bst_ok (c := c) (os := os) hL.near hcm (show 0 < k by omega) hk
          have hSb := c_pneumaticref25_Sum c (bstL c l cols os k) hc (by rw [hb2, hL.len]) hb1
          simp [hk0]
          refine xcall_lent ?_
          simp [hml, htk]
          refine ⟨_, hSn, rfl, ?_⟩
          refine xcall_pure hSb ?_
          simp
          refine ⟨.of (by kernel_rfl), ?_⟩
          refine xif_split (fun h9 => ?_) (fun h9 => ?_)
          · simp at h9
            rw [if_pos h9] at hbt
            simp
            refine ⟨wrap_i64 (by omega) (by omega), k + 1, by omega, by omega, ?_⟩
            rw [hbt]
            refine Leads.frz_sub (B := [1]) (ρ := [0]) [(12, .p (.lst 2 (m.map Plc.enc)))] [(1, none)] (Freeze.of _ _ ?_ (by simp) (by simp [keys])) ?_
            · intro p hp
              simp only [List.mem_cons, List.not_mem_nil, or_false] at hp
              subst hp
              exact FrzK.refRows (rows := m.map Plc.row_) (by simp) (by simp [get]) (by rw [List.drop_zero, List.take_of_length_le (by simp [hml]), List.map_map]; rfl) (by simpa using hml)
            · simp
          · simp at h9
            rw [if_neg (by omega)] at hbt
            simp
            refine ⟨wrap_i64 (by omega) (by omega), k + 1, by omega, by omega, ?_⟩
            rw [hbt]
            refine Leads.subx (ρ := [0]) ?_
            simp
      · have hl0 : l = [] := List.length_eq_zero_iff.1 (by omega)
        refine xdec_split (fun _ => ?_) (fun h => absurd (by simp [hl0]) h)
        simp
        refine XLoop.goN [1, 3, 9, 11, 12, 13, 14] [0] 2 (fun (j : Nat) => [(15, .ref 1 2 0 l.length none), (16, .p (.int .i64 j))]) (fun j => [(1, some (.cells 2 ((nowN l cols o j).map Plc.row_)))]) (fun j => j ≤ ps.length) (fun j => ps.length - j) 0 (by omega) ?_ ?_
        · refine Leads.subx (ρ := [0, 1]) ?_
          simp [nowN, hl0]
        intro j hj
        have hnl := @nowN_len l cols o j
        simp
        refine xif_split (fun h8 => ?_) (fun h8 => ?_)
        · simp at h8
          obtain ⟨x, ex⟩ := get_lt (show j < o.length by omega)
          obtain ⟨i, rfl, hi⟩ := ho2 x (List.mem_of_getElem? ex)
          obtain ⟨y, ey⟩ := get_lt (show j < cols.length by omega)
          have hi2 : i < (nowN l cols o j).length := by omega
          obtain ⟨p, ep⟩ := get_lt hi2
          have hjc : j < cols.length := by omega
          have hjo : j < o.length := by omega
          have hnow : nowN l cols o (j + 1) = (nowN l cols o j).set i ⟨p.row, y⟩ := by simp [nowN, ex, ey, plcAt, ep]
          simp
          refine XDraw.intro (by kernel_rfl) ?_
          simp [h6, eo, ex, ey, hi, hi2, hnl, ep, hjc, hjo, Ints.enc1, -getElem?_pos, List.getElem?_cons_zero, List.getElem?_cons_succ]
          refine ⟨.of (by kernel_rfl), wrap_i64 (by omega) (by omega), j + 1, by omega, by omega, ?_⟩
          rw [hnow, set_rowP]
          refine Leads.subx (ρ := [0, 1]) ?_
          generalize (nowN l cols o j).set i ⟨p.row, y⟩ = m2
          simp
        simp at h8
        have hjl : j = o.length := by omega
        subst hjl
        have hm := @nowN_near l cols o hL.near hcm o.length
        have hSn := c_pneumaticref25_Sum c (nowN l cols o o.length) hc (by rw [nowN_len, hL.len]) hm
        simp
        refine XDraw.intro (by kernel_rfl) ?_
        have hml : (nowN l cols o o.length).length = l.length := nowN_len
        have hbs := fun h => bst_first (c := c) (l := l) (cols := cols) (os := os) (o := o) h
        have hbt := fun h => bst_take (c := c) (k := k) hL.near hcm eo h
        generalize nowN l cols o o.length = m at hm hSn hml hbs hbt ⊢
        have htk : List.take l.length (List.map Plc.row_ m) = List.map Plc.row_ m := List.take_of_length_le (by simp [hml])
        by_cases hk0 : k = 0
        · subst hk0
          have hbs := hbs eo
          simp
          refine ⟨.of (by kernel_rfl), 1, by omega, by omega, ?_⟩
          rw [hbs]
          refine Leads.frz_sub (B := [1]) (ρ := [0]) [(12, .p (.lst 2 (m.map Plc.enc)))] [(1, none)] (Freeze.of _ _ ?_ (by simp) (by simp [keys])) ?_
          · intro p hp
            simp only [List.mem_cons, List.not_mem_nil, or_false] at hp
            subst hp
            exact FrzK.refRows (rows := m.map Plc.row_) (by simp) (by simp [get]) (by rw [List.drop_zero, List.take_of_length_le (by simp [hml]), List.map_map]; rfl) (by simpa using hml)
          · simp
        · have hbt := hbt (by omega)
          obtain ⟨hb1, hb2⟩ := bst_ok (c := c) (os := os) hL.near hcm (show 0 < k by omega) hk
          have hSb := c_pneumaticref25_Sum c (bstL c l cols os k) hc (by rw [hb2, hL.len]) hb1
          simp [hk0]
          refine xcall_lent ?_
          simp [hml, htk]
          refine ⟨_, hSn, rfl, ?_⟩
          refine xcall_pure hSb ?_
          simp
          refine ⟨.of (by kernel_rfl), ?_⟩
          refine xif_split (fun h9 => ?_) (fun h9 => ?_)
          · simp at h9
            rw [if_pos h9] at hbt
            simp
            refine ⟨wrap_i64 (by omega) (by omega), k + 1, by omega, by omega, ?_⟩
            rw [hbt]
            refine Leads.frz_sub (B := [1]) (ρ := [0]) [(12, .p (.lst 2 (m.map Plc.enc)))] [(1, none)] (Freeze.of _ _ ?_ (by simp) (by simp [keys])) ?_
            · intro p hp
              simp only [List.mem_cons, List.not_mem_nil, or_false] at hp
              subst hp
              exact FrzK.refRows (rows := m.map Plc.row_) (by simp) (by simp [get]) (by rw [List.drop_zero, List.take_of_length_le (by simp [hml]), List.map_map]; rfl) (by simpa using hml)
            · simp
          · simp at h9
            rw [if_neg (by omega)] at hbt
            simp
            refine ⟨wrap_i64 (by omega) (by omega), k + 1, by omega, by omega, ?_⟩
            rw [hbt]
            refine Leads.subx (ρ := [0]) ?_
            simp
    simp at h6
    have hkl : k = os.length := by omega
    subst hkl
    have hfin : bstL c l cols os os.length = (os.foldl (arrStep c l cols) ⟨l, -1⟩).b := by
      unfold bstL bstG
      rw [if_neg (by omega), List.take_length]
    simp [XEndT, e1, e2, hfin]
  · simp at hr
    simp [hr]
    simp [XEndT, hbad (.inl hr)]
end Go.Am
