/- Contracts: layout.Arrange. -/
import Derived.Test.YtfcljeghfckabaaGreatDoorZCZ
import Derived.Test.YtfcljeghfckabaaGreatDoorZCF
set_option linter.unusedVariables false
set_option linter.unusedSimpArgs false
namespace Go.Am
open Go Go.Proofs Go.Pn

@[simp] def cellAcc (b : Nat) (st : St) : Nat := match get st.s b with | some (.cells _ [[x]]) => nameOf x | _ => 0

theorem sortI_mem {l : List Int} {x : Int} : x ∈ sortI l ↔ x ∈ l := (List.mergeSort_perm l _).mem_iff
@[simp] theorem unpR_Plc {l : List Plc} : unpR (l.map Plc.row_) = some (l.map Plc.enc) := unpR_map (f := Plc.row_) (g := Plc.enc) (fun _ => rfl) l
theorem set_rowP {m : List Plc} {i : Nat} {a b : Int} : (m.map Plc.row_).set i [.p (.int .i64 a), .p (.int .i64 b)] = (m.set i ⟨a, b⟩).map Plc.row_ := by rw [List.map_set]; rfl
theorem FrzB.one {s : Store} {B : List Nat} {k : Nat} {y x : AV} (h : FrzK s (· ∈ B) y x) : FrzB s B (.cells k [[y]]) (.cells k [[x]]) := by
  refine .inr ⟨k, _, _, rfl, rfl, fun i j row' x' h1 h2 => ?_⟩
  match i, j with
  | 0, 0 => simp at h1; subst h1; simp at h2; subst h2; exact ⟨_, _, rfl, rfl, h⟩
  | 0, j + 1 => simp at h1; subst h1; simp at h2
  | i + 1, _ => simp at h1

set_option maxRecDepth 20000 in
theorem c_layout_Arrange (c : Circuit) (l : List Plc) (row : Int) (hs : Sized c) : Pure Go.Proofs.Tryz.prog GL 16 [c.av, .p (.lst 2 (l.map Plc.enc)), .p (.int .i64 row)] (.tup [.p (.lst 2 ((arrRes c l row).map Plc.enc)), .p (.int .i64 (arrErr c l row))]) := by
  refine Pure.of_walk (N := 94) Go.Proofs.Tryz.func16 rfl rfl rfl (by simp) (by first | (simp; done) | simp [*]) ?_
  simp
  refine xcall_pure (c_layout_Check c l hs) ?_
  by_cases h : ¬ layE c l = 0
  · have e1 : arrErr c l row = layE c l := if_pos h
    have e2 : arrRes c l row = [] := if_pos (by rw [e1]; exact h)
    simp [h, XEndT, e1, e2]
  simp only [Decidable.not_not] at h
  obtain ⟨hc, hL⟩ := layE_zero.1 h
  have hlen : l.length ≤ 64 := by rw [hL.len]; exact (check_parts hc).2.1
  simp [h]
  have hbad : row < 0 ∨ 5 ≤ row → arrErr c l row = 2 ∧ arrRes c l row = [] := fun hr2 => by
    have e1 : arrErr c l row = 2 := by unfold arrErr; rw [if_neg (by simpa using h), if_pos hr2]
    exact ⟨e1, if_pos (by rw [e1]; simp)⟩
  refine xif_split (fun hr => ?_) (fun hr => ?_)
  · simp at hr
    have hr0 : ¬ row < 0 := by omega
    simp [hr0]
    refine xif_split (fun hr5 => ?_) (fun hr5 => ?_)
    · simp at hr5
      simp [XEndT, hbad (.inr hr5)]
    simp at hr5
    simp
    refine XLoop.go [2, 3, 4, 10, 32, 33] [0, 1] 2 [3, 4] (fun st => [nameOf (slot st.t 9), cellAcc 2 st]) (fun n (k : Nat) => [(9, .acc n 1 (partsN l row k).length), (34, .p (.int .i64 k))]) (fun n k => [(n, accB 1 ((partsN l row k).map Int.row)), (n + 1, accB 1 ((colsN l row k).map Int.row)), (2, some (.cells 1 [[.acc (n + 1) 1 (partsN l row k).length]]))]) (fun k => k ≤ l.length) (fun k => l.length - k) 0 (by omega) ?_ ?_
    · simp [partsN, colsN]
      decide
    intro k hk
    simp
    refine xif_split (fun h3 => ?_) (fun h3 => ?_)
    · simp at h3
      obtain ⟨p, e⟩ := get_lt h3
      have hpl := @partsN_len l row k
      have hcl := @colsN_len l row k
      simp [h3, e, -getElem?_pos, List.getElem?_cons_zero, List.getElem?_cons_succ]
      refine xif_split (fun h4 => ?_) (fun h4 => ?_)
      · simp at h4
        have eP : partsN l row (k + 1) = partsN l row k ++ [(k : Int)] := by simp [partsN, e, h4]
        have eC : colsN l row (k + 1) = colsN l row k ++ [p.col] := by simp [colsN, e, h4]
        simp
        refine XDraw.intro (by kernel_rfl) ?_
        simp [h3, e, -getElem?_pos, List.getElem?_cons_zero, List.getElem?_cons_succ]
        refine ⟨by omega, hcl, .of (by kernel_rfl), wrap_i64 (by omega) (by omega), k + 1, by omega, by omega, ?_⟩
        simp [eP, eC]
        decide
      · simp at h4
        have eP : partsN l row (k + 1) = partsN l row k := by simp [partsN, e, h4]
        have eC : colsN l row (k + 1) = colsN l row k := by simp [colsN, e, h4]
        simp
        refine ⟨wrap_i64 (by omega) (by omega), k + 1, by omega, by omega, ?_⟩
        simp [eP, eC]
        decide
    simp at h3
    have hkl : k = l.length := by omega
    subst hkl
    have hpl := @partsN_len l row l.length
    have hcl := @colsN_len l row l.length
    simp
    refine xif_split (fun h5 => ?_) (fun h5 => ?_)
    · simp at h5
      have e1 : arrErr c l row = 12 := by unfold arrErr; rw [if_neg (by simpa using h), if_neg (by omega), if_pos (by omega)]
      have e2 : arrRes c l row = [] := if_pos (by rw [e1]; simp)
      simp [XEndT, e1, e2]
    simp at h5
    have e1 : arrErr c l row = 0 := by unfold arrErr; rw [if_neg (by simpa using h), if_neg (by omega), if_neg (by omega)]
    have e2 : arrRes c l row = ((ordersL (partsN l row l.length)).foldl (arrStep c l (sortI (colsN l row l.length))) ⟨l, -1⟩).b := if_neg (by simp [e1])
    simp
    rw [← hcl]
    refine xcall_gives (g_SortIA (colsN l row l.length) _ _ 4 (by simp) (by omega) (by omega)) ?_
    simp
    refine xcall_pure (c_ClonePlc l (by omega)) ?_
    simp
    rw [show AV.acc 3 1 (colsN l row l.length).length = AV.acc 3 1 (partsN l row l.length).length from by rw [hcl]]
    refine xcall_given ?_
    simp
    refine ⟨_, c_layout_orders (partsN l row l.length), ?_⟩
    generalize hK : sortI (colsN l row l.length) = cols
    have hkl : cols.length = (partsN l row l.length).length := by rw [← hK, sortI_len, hcl]
    have hkl2 : cols.length = (colsN l row l.length).length := by rw [← hK, sortI_len]
    refine XRange.leads (st2 := ⟨[(61, .fn (.func 65) [.iptr 1 [[.lst 1 ((partsN l row l.length).map Int.enc)]] 0 0]), (3, .ptr 0 2 0 0), (4, .ptr 1 1 0 0), (10, .ptr 2 1 0 0), (13, .ptr 3 1 0 0), (14, .ptr 4 1 0 0)],
      [(0, some (.cells 2 [[.p (.lst 3 (c.parts.map Part.enc)), .p (.lst 4 (c.pipes.map Pipe.enc))]])), (1, some (.cells 1 [[.p (.lst 2 (l.map Plc.enc))]])), (2, some (.cells 1 [[.p (.lst 1 (cols.map Int.enc))]])), (3, some (bestC ⟨l, -1⟩)), (4, some (leastC ⟨l, -1⟩))], 5⟩) ?_ rfl ?_
    · refine Leads.frz_sub (B := [4]) (ρ := [0, 1, 2, 5, 6]) [] [(4, none), (2, some (.cells 1 [[.p (.lst 1 (cols.map Int.enc))]]))] (Freeze.of [] _ (by simp) ?_ (by simp [keys])) ?_
      · intro p hp' x hx
        simp only [List.mem_cons, List.not_mem_nil, or_false] at hp'
        rcases hp' with rfl | rfl
        · cases hx
        · simp only [Option.some.injEq] at hx
          subst hx
          refine ⟨by simp, _, rfl, FrzB.one ?_⟩
          exact FrzK.accRows (rows := cols.map Int.row) (by simp) (by simp [get]) (by simp) (by simpa using hkl2)
      · simp [bestC, leastC]
        done
    refine XRange.intro [3, 4, 10, 13, 14] Go.Proofs.Tryz.func65 rfl rfl fun l0 fn => ?_
    refine ⟨_, _, _, _, none, g_orders1 (i := ⟨l0, 94, fn, #[62], _, _⟩) (X0 := .cells 2 [[.p (.lst 3 (c.parts.map Part.enc)), .p (.lst 4 (c.pipes.map Pipe.enc))]]) (X1 := .cells 1 [[.p (.lst 2 (l.map Plc.enc))]]) (X2 := .cells 1 [[.p (.lst 1 (cols.map Int.enc))]]) (step := arrStep c l cols) (ok := fun o => o.length = cols.length ∧ ∀ x ∈ o, ∃ i : Nat, x = i ∧ i < l.length)
      ?_ (fun _ => rfl) (fun _ => rfl) (fun _ => rfl) (partsN l row l.length) ⟨l, -1⟩ _ _ 0 1 2 3 4 5 (by omega) ?_ (by simp) (by simp) rfl rfl rfl rfl rfl rfl, rfl, ?_⟩
    · intro g o s nx bc bl bk bb bm lam hok hnd hlt g0 g1 g2 g3 g4 g5
      have hnd2 : [bc, bl, bk, bb, bm].Nodup := (List.nodup_cons.1 hnd).2
      have hlt2 : ∀ b ∈ [bc, bl, bk, bb, bm], b < nx := fun b hb => hlt b (List.mem_cons_of_mem _ hb)
      refine GivesY.of_walk (σ := [bc, bl, bk, bb, bm]) (t0 := loopT 0 1 2 3 4) (args := [.p (.lst 1 (o.map Int.enc))]) (free := []) (m := 5) (x := 0) (j := none)
        (s0 := [(0, some (.cells 2 [[.p (.lst 3 (c.parts.map Part.enc)), .p (.lst 4 (c.pipes.map Pipe.enc))]])), (1, some (.cells 1 [[.p (.lst 2 (l.map Plc.enc))]])), (2, some (.cells 1 [[.p (.lst 1 (cols.map Int.enc))]])), (3, some (bestC g)), (4, some (leastC g))])
        (s1 := [(3, some (bestC (arrStep c l cols g o))), (4, some (leastC (arrStep c l cols g o)))])
        (fun _ => []) rfl ⟨?_, rfl, hnd2, hlt2, rfl⟩ g5 (List.nodup_cons.1 hnd).1 (hlt lam (by simp)) rfl rfl (by simp) (by simp) rfl ?_
      · simp [-renB, renB_cells, g0, g1, g2, g3, g4]
      · simp [roundSlots, loopT]
        refine xcall_gives (g_ClonePlc l _ _ (by omega)) ?_
        simp
        refine XLoop.go [3, 10, 13, 14, 15, 16, 65, 66] [0, 1, 2, 3, 4] 0 [] (fun _ => []) (fun _ (k : Nat) => [(67, .p (.int .i64 k))]) (fun _ k => [(5, accB 2 ((nowN l cols o k).map Plc.row_))]) (fun k => k ≤ o.length) (fun k => o.length - k) 0 (by omega) ?_ ?_
        · simp [nowN, bestC, leastC]
          done
        intro k hk
        simp [bestC, leastC]
        refine xif_split (fun h3 => ?_) (fun h3 => ?_)
        · simp at h3
          obtain ⟨x, e⟩ := get_lt h3
          obtain ⟨i, rfl, hi⟩ := hok.2 x (List.mem_of_getElem? e)
          obtain ⟨y, ey⟩ := get_lt (show k < cols.length by omega)
          have hnl := @nowN_len l cols o k
          have hi2 : i < (nowN l cols o k).length := by omega
          obtain ⟨p, ep⟩ := get_lt hi2
          have hne : nowN l cols o k ≠ [] := List.length_pos_iff.1 (by omega)
          have hkc : k < cols.length := by omega
          have hnow : nowN l cols o (k + 1) = (nowN l cols o k).set i ⟨p.row, y⟩ := by simp [nowN, e, ey, plcAt, ep]
          simp [h3, e, ey, hi, hi2, hnl, ep, hne, hkc, -getElem?_pos, List.getElem?_cons_zero, List.getElem?_cons_succ]
          refine ⟨wrap_i64 (by omega) (by omega), k + 1, by omega, by omega, by omega, ?_⟩
          rw [hnow]
          have hne2 : (nowN l cols o k).set i ⟨p.row, y⟩ ≠ [] := fun h => by
            have := congrArg List.length h
            simp at this
            exact hne this
          have hac : accB 2 (((nowN l cols o k).set i ⟨p.row, y⟩).map Plc.row_) = some (.cells 2 (((nowN l cols o k).set i ⟨p.row, y⟩).map Plc.row_)) := by
            rw [accB, if_neg (by simpa using hne2)]
          rw [set_rowP, hac]
          generalize (nowN l cols o k).set i ⟨p.row, y⟩ = m2
          simp [bestC, leastC]
        · simp at h3
          have hko : k = o.length := by omega
          subst hko
          generalize hm : nowN l cols o o.length = m
          have hml : m.length = l.length := by rw [← hm]; exact nowN_len
          have hmn : Near m := by
            rw [← hm]
            refine nowN_near hL.near fun x hx => ?_
            rw [← hK] at hx
            obtain ⟨p, hp, rfl⟩ := colsN_mem (sortI_mem.1 hx)
            exact hL.col p hp
          simp
          rw [show AV.acc 5 2 l.length = AV.acc 5 2 m.length from by rw [hml]]
          refine xcall_lent ?_
          simp
          refine ⟨_, c_layout_length c m hc (by rw [hml, hL.len]) hmn, rfl, ?_⟩
          have htake : g.n < 0 ∨ sumL c m < g.n → arrStep c l cols g o = ⟨m, sumL c m⟩ := fun h => by
            simp only [arrStep, hm]; exact if_pos h
          refine xif_split (fun h4 => ?_) (fun h4 => ?_)
          · simp at h4
            have h4' : ¬ g.n < 0 := by omega
            simp [h4']
            refine xif_split (fun h6 => ?_) (fun h6 => ?_)
            · simp at h6
              rw [htake (.inr h6)]
              simp
              refine ⟨rfl, _, (Freeze.of (B := [5]) [] [(5, none), (3, some (.cells 1 [[.p (.lst 2 (m.map Plc.enc))]]))] (by simp) ?_ (by simp [keys])).leads, ?_⟩
              · intro p hp' x hx
                simp only [List.mem_cons, List.not_mem_nil, or_false] at hp'
                rcases hp' with rfl | rfl
                · cases hx
                · simp only [Option.some.injEq] at hx
                  subst hx
                  refine ⟨by simp, _, rfl, FrzB.one ?_⟩
                  exact FrzK.accRows (rows := m.map Plc.row_) (by simp) (by simp [get]) (by simp) (by simp)
              · simp [bestC, leastC]
                try decide
            · simp at h6
              have hno : arrStep c l cols g o = g := by simp only [arrStep, hm]; exact if_neg (by omega)
              rw [hno]
              simp
              refine XEndYL.of ⟨rfl, ?_⟩
              simp [bestC, leastC]
              try decide
          · simp at h4
            rw [htake (.inl h4)]
            simp [h4]
            refine ⟨rfl, _, (Freeze.of (B := [5]) [] [(5, none), (3, some (.cells 1 [[.p (.lst 2 (m.map Plc.enc))]]))] (by simp) ?_ (by simp [keys])).leads, ?_⟩
            · intro p hp' x hx
              simp only [List.mem_cons, List.not_mem_nil, or_false] at hp'
              rcases hp' with rfl | rfl
              · cases hx
              · simp only [Option.some.injEq] at hx
                subst hx
                refine ⟨by simp, _, rfl, FrzB.one ?_⟩
                exact FrzK.accRows (rows := m.map Plc.row_) (by simp) (by simp [get]) (by simp) (by simp)
            · simp [bestC, leastC]
              try decide
    · intro o ho
      obtain ⟨h1, h2⟩ := ordersF_mem rfl ho
      refine ⟨by omega, fun x hx => ?_⟩
      obtain ⟨i, p, h3, h4, _⟩ := partsN_mem (h2 x hx)
      exact ⟨i, h3, h4⟩
    · simp [afterJump, bestC, XEndT, e1, e2, hK]
  · simp at hr
    simp [hr, XEndT, hbad (.inl hr)]
  end Go.Am
