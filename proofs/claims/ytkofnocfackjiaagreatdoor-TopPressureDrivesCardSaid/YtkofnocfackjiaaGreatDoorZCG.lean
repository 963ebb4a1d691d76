/- Lemmas and contracts for the proof of a statement of this seat. -/
import Derived.Test.YtkofnocfackjiaaGreatDoorZCF
set_option linter.unusedVariables false
set_option linter.unusedSimpArgs false
/- Contracts: package pressure: states. -/
namespace Go.Am
open Go Go.Proofs Go.Pn


def supStep (c : Circuit) (S : List Int) (i : Nat) : List Int := if kindAt c i = 0 then S.set (netN c i t1) 2 else S
def supT (c : Circuit) (k : Nat) : List Int := (List.range k).foldl (supStep c) (List.replicate (nets c).length 0)
theorem supT_snoc {c : Circuit} {k : Nat} : supT c (k + 1) = supStep c (supT c k) k := by simp [supT, List.range_succ]
theorem supStep_len {c : Circuit} {S : List Int} {i : Nat} : (supStep c S i).length = S.length := by unfold supStep; split <;> simp
theorem supT_len {c : Circuit} {k : Nat} : (supT c k).length = (nets c).length := by
  induction k with
  | zero => simp [supT]
  | succ k ih => rw [supT_snoc, supStep_len, ih]
def mark1 (S : List Int) (n : Nat) : List Int := if S[n]? = some 0 then S.set n 1 else S
theorem mark1_len {S : List Int} {n : Nat} : (mark1 S n).length = S.length := by unfold mark1; split <;> simp
def markL (S : List Int) (ns : List Nat) : List Int := ns.foldl mark1 S
theorem markL_len {ns : List Nat} : ∀ {S : List Int}, (markL S ns).length = S.length := by
  induction ns with
  | nil => intro S; rfl
  | cons n ns ih => intro S; rw [markL, List.foldl_cons, ← markL, ih, mark1_len]
def openNs (c : Circuit) (l : List Int) (i : Nat) : List Nat := (opens c l i).map (netN c i)
def openTo (c : Circuit) (l : List Int) (k : Nat) : List Nat := (List.range k).flatMap (openNs c l)
theorem openTo_snoc {c : Circuit} {l : List Int} {k : Nat} : openTo c l (k + 1) = openTo c l k ++ openNs c l k := by simp [openTo, List.range_succ]
theorem markL_append {S : List Int} {a b : List Nat} : markL S (a ++ b) = markL (markL S a) b := by simp [markL]

def markT (c : Circuit) (k : Nat) (S : List Int) (O : List Txt) (j : Nat) : List Int := markL S ((O.take j).map (netN c k))

def prsX (c : Circuit) (l : List Int) : List Int := closedL (fun S => flowsB (isSt S 2)) 2 (psgs c l) (supT c c.parts.length)
def vts0X (c : Circuit) (l : List Int) : List Int := markL (prsX c l) (openTo c l c.parts.length)
def statesX (c : Circuit) (l : List Int) : List Int := closedL venF 1 (psgs c l) (vts0X c l)
theorem prsX_len {c : Circuit} {l : List Int} : (prsX c l).length = (nets c).length := by rw [prsX, closedL_len, supT_len]
theorem vts0X_len {c : Circuit} {l : List Int} : (vts0X c l).length = (nets c).length := by rw [vts0X, markL_len, prsX_len]
theorem statesX_len {c : Circuit} {l : List Int} : (statesX c l).length = (nets c).length := by rw [statesX, closedL_len, vts0X_len]

theorem psgs_to {c : Circuit} {l : List Int} (h : checkQ c l = 0) {y : Psg} (hy : y ∈ psgs c l) : y.to < (nets c).length ∧ (∀ n ∈ y.fr, n < (nets c).length) ∧ y.fr.length ≤ 1000 := by
  have hc := (checkQ_zero h).1
  obtain ⟨i, z, hi, hz, rfl⟩ := psgs_mem.1 hy
  obtain ⟨h1, h2, _⟩ := pass_ports h hi hz
  obtain ⟨q, e⟩ := get_lt hi
  obtain ⟨a, F⟩ := part_facts h e
  refine ⟨(netN_at hc h1).2, fun n hn => ?_, ?_⟩
  · obtain ⟨s, hs, rfl⟩ := List.mem_map.1 hn
    exact (netN_at hc (h2 s hs)).2
  · have hyl : z.fr.length ≤ 2 := (by decide +kernel : ∀ k, k < 14 → ∀ b, ∀ z ∈ passedOf k b, z.fr.length ≤ 2) q.kind.toNat (by have := F.kind; omega) (decide (a = 1)) z (by rw [← F.pass]; exact hz)
    simp
    omega
theorem opens_K {c : Circuit} {l : List Int} {i : Nat} {q : Part} {a : Int} (F : PortFacts c l i q a) : opensK q.kind a (kindPorts q.kind.toNat).length = opens c l i := by
  have hp := F.pos
  have hpo : posOf l (i : Int) = a := by rw [posOf, Int.toNat_natCast, hp]; rfl
  rw [opensK, List.take_length, opens, F.kat, hpo, F.vents]

set_option maxRecDepth 20000 in
theorem g_states (c : Circuit) (l : List Int) (h : checkQ c l = 0) (b mb : Nat) (s : Store) (nx : Nat) (hb : b < nx) (hm : mb < nx) (hne : b ≠ mb) (hg : get s b = some (.cells 4 [plumRow c mb])) (hgm : get s mb = some (.map (prA (pairs c)))) :
    Gives Tryz.prog GL 75 [.ptr b 4 0 0, Ints.av l] s nx (.ref nx 1 0 (nets c).length none) [b, mb] [(nx, some (.cells 1 ((statesX c l).map Int.row)))] (nx + 1) := by
  have hc := (checkQ_zero h).1
  have h2 := check_parts hc
  have hnl := netsL hc
  refine Gives.mk_walkK (N := 87) (args := [.ptr 0 4 0 0, Ints.av l]) [b, mb] [] [(0, some (.cells 4 [plumRow c 1])), (1, some (.map (prA (pairs c))))] [(2, some (.cells 1 ((statesX c l).map Int.row)))] 2 1 (.ref 2 1 0 (nets c).length none) (fun _ => [2]) (up1 := [(nx, some (.cells 1 ((statesX c l).map Int.row)))]) Tryz.func75 rfl rfl rfl (by simp) rfl (by simp [hg, hb, hm, hne, hgm, prA_pure, plumRow]; intro q hq; match q, hq with | 0, _ => simp | 1, _ => simp) (by simp) (by simp) (by simp) (by simp) rfl ?_
  have hprs : supT c 0 = List.replicate (nets c).length 0 := by simp [supT]
  have hto : ∀ y ∈ psgs c l, y.to < (nets c).length := fun y hy => (psgs_to h hy).1
  have hfr : ∀ y ∈ psgs c l, ∀ n ∈ y.fr, n < (nets c).length := fun y hy => (psgs_to h hy).2.1
  have hfl : ∀ y ∈ psgs c l, y.fr.length < 4611686018427387904 := fun y hy => by have := (psgs_to h hy).2.2; omega
  have hpl : (psgs c l).length ≤ 64 := by
    have := @pTs_len c l c.parts.length
    have e : pTs c l c.parts.length = psgs c l := rfl
    rw [e] at this; omega
  simp [plumRow]
  refine ⟨by omega, by omega, ?_⟩
  refine xcall_gives (g_passages c l h 0 1 _ _ (by simp) (by simp) (by simp) (by simp [plumRow]) (by simp)) ?_
  simp
  refine XLoop.goN [0, 1, 5, 26, 27] [0, 1, 3] 4 (fun (k : Nat) => [(6, .p (.lst 4 ((psgs c l).map Psg.enc))), (28, .p (.int .i64 k))]) (fun k => [(2, some (.cells 1 ((supT c k).map Int.row)))]) (fun k => k ≤ c.parts.length) (fun k => c.parts.length - k) 0 (by omega) ?_ ?_
  · refine Leads.frz_sub (B := [4]) (ρ := [0, 1, 2, 3]) [(6, .p (.lst 4 ((psgs c l).map Psg.enc)))] [(4, none)] (Freeze.of _ _ ?_ (by simp) (by simp [keys])) ?_
    · intro p hp
      simp only [List.mem_cons, List.not_mem_nil, or_false] at hp
      subst hp
      simp only [slot, if_pos]
      exact FrzK.accRows (rows := (psgs c l).map Psg.row) (by simp) (by simp [get]) (by simp) (by simp)
    · simp [hprs, prA_pure]
      try decide
  · intro k hk
    have hsl := @supT_len c k
    have hss := @supT_snoc c k
    have hend1 : k = c.parts.length → supT c k = supT c c.parts.length := fun e => by rw [e]
    generalize supT c k = S at hsl hss hend1
    simp
    refine xif_split (fun h3 => ?_) (fun h3 => ?_)
    · simp at h3
      obtain ⟨q, e⟩ := get_lt h3
      obtain ⟨a, F⟩ := part_facts h e
      simp [h3, e, Part.enc, -getElem?_pos, List.getElem?_cons_zero, List.getElem?_cons_succ]
      have hkq := F.kat
      refine xif_split (fun h4 => ?_) (fun h4 => ?_)
      · simp at h4
        have htp := F.mem t1 (by rw [h4]; decide +kernel)
        have hnt := (netN_at hc htp).2
        obtain ⟨x, ex⟩ := get_lt (xs := S) (k := netN c k t1) (by omega)
        have hst : supStep c S k = S.set (netN c k t1) 2 := if_pos (by rw [hkq, h4])
        obtain ⟨S', hS'⟩ : ∃ S', S' = S.set (netN c k t1) 2 := ⟨_, rfl⟩
        have hms : (S.map Int.row).set (netN c k t1) [.p (.int .i64 2)] = S'.map Int.row := by rw [hS', List.map_set]
        rw [← hS'] at hst
        simp
        refine XDraw.intro (by kernel_rfl) ?_
        simp
        refine xcall_gives (g_net c hc k t1 htp 0 1 _ _ (by simp) (by simp) (by simp) (by simp [plumRow]) (by simp)) ?_
        simp [hnt, ex, -getElem?_pos, List.getElem?_cons_zero, List.getElem?_cons_succ]
        refine ⟨.of (by kernel_rfl), ?_⟩
        refine ⟨wrap_i64 (by omega) (by omega), k + 1, by omega, by omega, ?_⟩
        refine Leads.subx (ρ := [0, 1, 2, 3]) ?_
        simp [hss, hst, hms, prA_pure]
        try decide
      · simp at h4
        have hst : supStep c S k = S := if_neg (by rw [hkq]; exact h4)
        simp
        refine ⟨wrap_i64 (by omega) (by omega), k + 1, by omega, by omega, ?_⟩
        refine Leads.subx (ρ := [0, 1, 2, 3]) ?_
        simp [hss, hst, prA_pure]
        try decide
    · simp at h3
      have hS := hend1 (by omega)
      have htk := takes_1 (N := (nets c).length) (cp := some (nets c).length) (l := psgs c l) hfr hfl
      have hto2 := hto
      rw [← hsl] at htk hto2
      simp
      have hgc := fun s nx => g_closed S (psgs c l) 2 (by omega) _ _ _ htk hto2 (by omega) s nx 2 3
      rw [hsl] at hgc
      refine xcall_gives (hgc _ _ (by simp) (by simp) (by simp) (by simp) (by simp)) ?_
      simp
      have hpr : closedL (fun S => flowsB (isSt S 2)) 2 (psgs c l) S = prsX c l := by rw [hS]; rfl
      rw [hpr]
      have hR := @prsX_len c l
      have hm0 : markL (prsX c l) (openTo c l 0) = prsX c l := by simp [markL, openTo]
      refine XLoop.go [0, 1, 5, 6, 50, 51] [0, 1, 3] 0 [] (fun _ => []) (fun _ (k : Nat) => [(52, .p (.int .i64 k))]) (fun _ k => [(2, some (.cells 1 ((markL (prsX c l) (openTo c l k)).map Int.row)))]) (fun k => k ≤ c.parts.length) (fun k => c.parts.length - k) 0 (by omega) ?_ ?_
      · simp [hm0, prA_pure]
        try decide
      · clear hgc hS hss hend1 htk hpr hto2 hsl
        intro k hk
        have hsl : (markL (prsX c l) (openTo c l k)).length = (nets c).length := by rw [markL_len, hR]
        have hss : markL (prsX c l) (openTo c l (k + 1)) = markL (markL (prsX c l) (openTo c l k)) (openNs c l k) := by rw [openTo_snoc, markL_append]
        have hend1 : k = c.parts.length → markL (prsX c l) (openTo c l k) = vts0X c l := fun e => by rw [e]; rfl
        generalize markL (prsX c l) (openTo c l k) = S at hsl hss hend1
        simp
        refine xif_split (fun h3 => ?_) (fun h3 => ?_)
        · simp at h3
          obtain ⟨q, e⟩ := get_lt h3
          obtain ⟨a, F⟩ := part_facts h e
          have f2 := F.pos
          have f4 := F.ltl
          simp [h3, e, Part.enc, -getElem?_pos, List.getElem?_cons_zero, List.getElem?_cons_succ]
          refine XDraw.intro (by kernel_rfl) ?_
          simp [f2, f4, Int.enc, -getElem?_pos, List.getElem?_cons_zero, List.getElem?_cons_succ]
          refine xcall_pure (c_pressure_open q a F.placed) ?_
          rw [opens_K F]
          simp
          refine ⟨.of (by kernel_rfl), ?_⟩
          have hol : (opens c l k).length ≤ 1000 := by rw [← opens_K F]; exact opensK_len F.placed
          have hops := opens_ports h h3
          have hns : openNs c l k = (opens c l k).map (netN c k) := rfl
          rw [hns] at hss
          generalize opens c l k = O at hol hops hss
          have hm1 : markT c k S O 0 = S := by simp [markT, markL]
          refine XLoop.go [0, 1, 5, 6, 9, 50, 51, 52, 62, 63] [0, 1, 3] 0 [] (fun _ => []) (fun _ (j : Nat) => [(64, .p (.int .i64 j))]) (fun _ j => [(2, some (.cells 1 ((markT c k S O j).map Int.row)))]) (fun j => j ≤ O.length) (fun j => O.length - j) 0 (by omega) ?_ ?_
          · simp [hm1, prA_pure]
            try decide
          · intro j hj
            have htl : (markT c k S O j).length = (nets c).length := by rw [markT, markL_len, hsl]
            have hts : ∀ {t : Txt}, O[j]? = some t → markT c k S O (j + 1) = mark1 (markT c k S O j) (netN c k t) := fun e => by rw [markT, take_snoc e, List.map_append, markL_append]; rfl
            have hte : j = O.length → markT c k S O j = markL (prsX c l) (openTo c l (k + 1)) := fun e => by rw [markT, e, List.take_length, hss]
            generalize markT c k S O j = T at htl hts hte
            simp
            refine xif_split (fun h5 => ?_) (fun h5 => ?_)
            · simp at h5
              obtain ⟨t, et⟩ := get_lt h5
              have hsn := hts et
              have htp := hops t (List.mem_of_getElem? et)
              have hnt := (netN_at hc htp).2
              obtain ⟨x, ex⟩ := get_lt (xs := T) (k := netN c k t) (by omega)
              simp [h5, et, Txt.enc, -getElem?_pos, List.getElem?_cons_zero, List.getElem?_cons_succ]
              refine xcall_gives (g_net c hc k t htp 0 1 _ _ (by simp) (by simp) (by simp) (by simp [plumRow]) (by simp)) ?_
              simp [hnt, ex, -getElem?_pos, List.getElem?_cons_zero, List.getElem?_cons_succ]
              refine xif_split (fun h6 => ?_) (fun h6 => ?_)
              · simp at h6
                subst h6
                have hst : mark1 T (netN c k t) = T.set (netN c k t) 1 := if_pos ex
                rw [hst] at hsn
                obtain ⟨T', hT'⟩ : ∃ T', T' = T.set (netN c k t) 1 := ⟨_, rfl⟩
                have hms : (T.map Int.row).set (netN c k t) [.p (.int .i64 1)] = T'.map Int.row := by rw [hT', List.map_set]
                rw [← hT'] at hsn
                simp [hnt, ex, -getElem?_pos, List.getElem?_cons_zero, List.getElem?_cons_succ]
                refine ⟨wrap_i64 (by omega) (by omega), j + 1, by omega, by omega, ?_⟩
                simp [hsn, hms, prA_pure]
                try decide
              · simp at h6
                have hst : mark1 T (netN c k t) = T := if_neg (by rw [ex]; simp [h6])
                rw [hst] at hsn
                simp
                refine ⟨wrap_i64 (by omega) (by omega), j + 1, by omega, by omega, ?_⟩
                simp [hsn, prA_pure]
                try decide
            · simp at h5
              have hT := hte (by omega)
              simp
              refine ⟨wrap_i64 (by omega) (by omega), k + 1, by omega, by omega, ?_⟩
              simp [hT, prA_pure]
              try decide
        · simp at h3
          have hS := hend1 (by omega)
          have htk := takes_2 (N := (nets c).length) (cp := some (nets c).length) (l := psgs c l) hfr hfl
          have hto2 := hto
          rw [← hsl] at htk hto2
          simp
          have hgc := fun s nx => g_closed S (psgs c l) 1 (by omega) _ _ _ htk hto2 (by omega) s nx 2 3
          rw [hsl] at hgc
          refine xcall_gives (hgc _ _ (by simp) (by simp) (by simp) (by simp) (by simp)) ?_
          have hpr : closedL venF 1 (psgs c l) S = statesX c l := by rw [hS]; rfl
          rw [hpr]
          simp [plumRow, prA_pure]
          try decide

end Go.Am
/- The states as the program finds them are the states. -/
namespace Go.Am
open Go Go.Proofs Go.Pn

theorem CReach.ind {q : List Int → Psg → Bool} {v : Int} {l : List Psg} {S : List Int} (P : List Int → Prop) (h0 : P S) (hs : ∀ (R : List Int) (y : Psg), P R → y ∈ l → R[y.to]? = some 0 → q R y = true → P (R.set y.to v)) {R : List Int} (h : CReach q v l S R) : P R := by
  induction h with
  | refl => exact h0
  | step _ hm h0 hq ih => exact hs _ _ ih hm h0 hq

def Vals (ok : Int → Prop) (S : List Int) : Prop := ∀ (n : Nat) (x : Int), S[n]? = some x → ok x
theorem Vals.set {ok : Int → Prop} {S : List Int} {n : Nat} {v : Int} (h : Vals ok S) (hv : ok v) : Vals ok (S.set n v) := fun m x hx => by
  rw [List.getElem?_set] at hx
  split at hx
  · split at hx
    · cases hx; exact hv
    · cases hx
  · exact h m x hx
theorem isSt_iff {S : List Int} {v : Int} {n : Nat} : isSt S v n = true ↔ S[n]? = some v := by simp [isSt, -getElem?_pos]
theorem isSt_set {S : List Int} {n m : Nat} {v w : Int} (hn : n < S.length) : isSt (S.set n v) w m = true ↔ (n = m ∧ v = w) ∨ (n ≠ m ∧ isSt S w m = true) := by
  rw [isSt_iff, isSt_iff, List.getElem?_set]
  by_cases e : n = m
  · subst e
    rw [if_pos rfl, if_pos hn]; simp
  · rw [if_neg e]; simp [e]
theorem lt_of_get {S : List Int} {n : Nat} {x : Int} (h : S[n]? = some x) : n < S.length := (List.getElem?_eq_some_iff.1 h).1

theorem supT_vals {c : Circuit} {k : Nat} : Vals (fun x => x = 0 ∨ x = 2) (supT c k) := by
  induction k with
  | zero =>
    intro n x hx
    have : supT c 0 = List.replicate (nets c).length 0 := by simp [supT]
    rw [this, List.getElem?_replicate] at hx
    split at hx
    · cases hx; exact .inl rfl
    · cases hx
  | succ k ih =>
    rw [supT_snoc]
    unfold supStep
    split
    · exact ih.set (.inr rfl)
    · exact ih
theorem supT_st {c : Circuit} {l : List Int} (h : checkQ c l = 0) {k : Nat} (hk : k ≤ c.parts.length) {n : Nat} : isSt (supT c k) 2 n = true ↔ ∃ i, i < k ∧ kindAt c (i : Nat) = 0 ∧ n = netN c (i : Nat) t1 := by
  have hc := (checkQ_zero h).1
  induction k with
  | zero =>
    have : supT c 0 = List.replicate (nets c).length 0 := by simp [supT]
    rw [this, isSt_iff, List.getElem?_replicate]
    constructor
    · intro h; split at h <;> simp at h
    · rintro ⟨i, hi, _⟩; omega
  | succ k ih =>
    have ih := ih (by omega)
    rw [supT_snoc]
    unfold supStep
    split
    · rename_i hk0
      have hlt := (netN_at hc (supply_port h (i := k) (by omega) hk0)).2
      refine (isSt_set (by rw [supT_len]; exact hlt)).trans ?_
      rw [show _ = _ from propext ih]
      constructor
      · rintro (⟨rfl, _⟩ | ⟨_, i, hi, h1, h2⟩)
        · exact ⟨k, by omega, hk0, rfl⟩
        · exact ⟨i, by omega, h1, h2⟩
      · rintro ⟨i, hi, h1, h2⟩
        by_cases e : netN c k t1 = n
        · exact .inl ⟨e, rfl⟩
        · refine .inr ⟨e, i, ?_, h1, h2⟩
          rcases (by omega : i = k ∨ i < k) with rfl | hh
          · exact absurd h2.symm e
          · exact hh
    · rename_i hk0
      refine Iff.trans ih ?_
      constructor
      · rintro ⟨i, hi, h1, h2⟩; exact ⟨i, by omega, h1, h2⟩
      · rintro ⟨i, hi, h1, h2⟩
        refine ⟨i, ?_, h1, h2⟩
        rcases (by omega : i = k ∨ i < k) with rfl | hh
        · exact absurd h1 hk0
        · exact hh

theorem still_of {q : List Int → Psg → Bool} {v : Int} (hv : v ≠ 0) {R : List Int} {y : Psg} (h : cStep q v R y = R) (hq : q R y = true) : R[y.to]? ≠ some 0 := by
  intro h0
  rw [cStep_on h0 hq] at h
  have hl := lt_of_get h0
  have : (R.set y.to v)[y.to]? = some v := by rw [List.getElem?_set, if_pos rfl, if_pos hl]
  rw [h, h0] at this
  simp at this
  exact hv this.symm

theorem prsX_vals {c : Circuit} {l : List Int} : Vals (fun x => x = 0 ∨ x = 2) (prsX c l) :=
  CReach.ind _ supT_vals (fun R y hR _ _ _ => hR.set (.inr rfl)) closedL_reach
theorem prsX_st {c : Circuit} {l : List Int} (h : checkQ c l = 0) (n : Nat) : isSt (prsX c l) 2 n = (prs c l).contains n := by
  have hc := (checkQ_zero h).1
  refine lfp_eq (prs_to h) (S := isSt (prsX c l) 2) ?_ (fun n hn => ?_) n
  · intro y hy hf
    rcases List.mem_append.1 hy with hy | hy
    · obtain ⟨i, hi, hk, rfl⟩ := supplies_mem.1 hy
      have hb : isSt (supT c c.parts.length) 2 (netN c i t1) = true := (supT_st h (Nat.le_refl _)).2 ⟨i, hi, hk, rfl⟩
      refine CReach.ind (fun R => isSt R 2 (netN c i t1) = true) hb (fun R y hR _ h0 _ => ?_) (closedL_reach (q := fun S => flowsB (isSt S 2)) (v := 2) (l := psgs c l))
      rw [isSt_set (lt_of_get h0)]
      by_cases e : y.to = netN c i t1
      · exact .inl ⟨e, rfl⟩
      · exact .inr ⟨e, hR⟩
    · have hst := closedL_still (q := fun S => flowsB (isSt S 2)) (v := 2) (l := psgs c l) (S := supT c c.parts.length) (by omega) y hy
      have hne := still_of (by omega) hst hf
      obtain ⟨x, hx⟩ := get_lt (xs := prsX c l) (k := y.to) (by rw [prsX_len]; exact (psgs_to h hy).1)
      rcases prsX_vals y.to x hx with rfl | rfl
      · exact absurd hx hne
      · exact isSt_iff.2 hx
  · refine CReach.ind (fun R => ∀ n, isSt R 2 n = true → n ∈ prs c l) (fun n hn => ?_) (fun R y hR hy h0 hq n hn => ?_) (closedL_reach (q := fun S => flowsB (isSt S 2)) (v := 2) (l := psgs c l)) n hn
    · obtain ⟨i, hi, hk, rfl⟩ := (supT_st h (Nat.le_refl _)).1 hn
      exact List.contains_iff_mem.1 (prs_closed h _ (List.mem_append.2 (.inl (supplies_mem.2 ⟨i, hi, hk, rfl⟩))) rfl)
    · rcases (isSt_set (lt_of_get h0)).1 hn with ⟨rfl, _⟩ | ⟨_, hn⟩
      · exact List.contains_iff_mem.1 (prs_closed h y (List.mem_append.2 (.inr hy)) (flows_mono (fun n hn => List.contains_iff_mem.2 (hR n hn)) hq))
      · exact hR n hn

theorem mark1_get {S : List Int} {n m : Nat} : (mark1 S n)[m]? = if S[m]? = some 0 ∧ m = n then some 1 else S[m]? := by
  unfold mark1
  split
  · rename_i h
    rw [List.getElem?_set]
    by_cases e : n = m
    · subst e
      rw [if_pos rfl, if_pos (lt_of_get h), if_pos ⟨h, rfl⟩]
    · rw [if_neg e, if_neg (fun hh => e hh.2.symm)]
  · rename_i h
    rw [if_neg]
    rintro ⟨h1, rfl⟩
    exact h h1
theorem markL_get {ns : List Nat} : ∀ {S : List Int} {m : Nat}, (markL S ns)[m]? = if S[m]? = some 0 ∧ m ∈ ns then some 1 else S[m]? := by
  induction ns with
  | nil => intro S m; simp [markL, -getElem?_pos]
  | cons n ns ih =>
    intro S m
    rw [markL, List.foldl_cons, ← markL, ih, mark1_get]
    by_cases h0 : S[m]? = some 0
    · by_cases e : m = n
      · subst e; simp [h0, -getElem?_pos]
      · simp [h0, e, -getElem?_pos]
    · simp [h0, -getElem?_pos]

theorem openTo_mem {c : Circuit} {l : List Int} {n : Nat} : n ∈ openTo c l c.parts.length ↔ ∃ (i : Nat) (s : Txt), i < c.parts.length ∧ s ∈ opens c l i ∧ n = netN c i s := by
  simp only [openTo, openNs, List.mem_flatMap, List.mem_range, List.mem_map]
  constructor
  · rintro ⟨i, hi, s, hs, rfl⟩; exact ⟨i, s, hi, hs, rfl⟩
  · rintro ⟨i, s, hi, hs, rfl⟩; exact ⟨i, hi, s, hs, rfl⟩

structure VInv (c : Circuit) (l : List Int) (S : List Int) : Prop where
  len : S.length = (nets c).length
  vals : Vals (fun x => x = 0 ∨ x = 1 ∨ x = 2) S
  two : ∀ n, isSt S 2 n = (prs c l).contains n
  one : ∀ n, isSt S 1 n = true → n ∈ vts c l
theorem vts0X_inv {c : Circuit} {l : List Int} (h : checkQ c l = 0) : VInv c l (vts0X c l) := by
  have hget : ∀ m, (vts0X c l)[m]? = if (prsX c l)[m]? = some 0 ∧ m ∈ openTo c l c.parts.length then some 1 else (prsX c l)[m]? := fun m => markL_get
  refine ⟨vts0X_len, fun n x hx => ?_, fun n => ?_, fun n hn => ?_⟩
  · rw [hget] at hx
    split at hx
    · cases hx; exact .inr (.inl rfl)
    · rcases prsX_vals n x hx with h | h
      · exact .inl h
      · exact .inr (.inr h)
  · rw [← prsX_st h, Bool.eq_iff_iff, isSt_iff, isSt_iff, hget]
    split
    · rename_i hh; rw [hh.1]; simp
    · exact Iff.rfl
  · rw [isSt_iff, hget] at hn
    split at hn
    · rename_i hh
      obtain ⟨i, s, hi, hs, rfl⟩ := openTo_mem.1 hh.2
      have hnp : netN c i s ∉ prs c l := fun hp => by
        have := List.contains_iff_mem.2 hp
        rw [← prsX_st h, isSt_iff, hh.1] at this
        simp at this
      exact List.contains_iff_mem.1 (vts_closed h ⟨i, netN c i s, [], true⟩ (ventPs_mem.2 ⟨.inl ⟨i, s, hi, hs, rfl⟩, hnp⟩) rfl)
    · rcases prsX_vals n 1 hn with h | h <;> simp at h
theorem VInv.step {c : Circuit} {l : List Int} (h : checkQ c l = 0) {S : List Int} {y : Psg} (hS : VInv c l S) (hy : y ∈ psgs c l) (h0 : S[y.to]? = some 0) (hq : venF S y = true) : VInv c l (S.set y.to 1) := by
  refine ⟨by simp [hS.len], hS.vals.set (.inr (.inl rfl)), fun n => ?_, fun n hn => ?_⟩
  · rw [← hS.two n, Bool.eq_iff_iff, isSt_set (lt_of_get h0)]
    constructor
    · rintro (⟨_, h⟩ | ⟨_, h⟩)
      · simp at h
      · exact h
    · intro hn
      refine .inr ⟨fun e => ?_, hn⟩
      subst e
      rw [isSt_iff, h0] at hn
      simp at hn
  · rcases (isSt_set (lt_of_get h0)).1 hn with ⟨rfl, _⟩ | ⟨_, hn⟩
    · have hnp : y.to ∉ prs c l := fun hp => by
        have := List.contains_iff_mem.2 hp
        rw [← hS.two, isSt_iff, h0] at this
        simp at this
      obtain ⟨i, z, hi, hz, rfl⟩ := psgs_mem.1 hy
      refine List.contains_iff_mem.1 (vts_closed h ⟨i, netN c i z.to, z.fr.map (netN c i), false⟩ (ventPs_mem.2 ⟨.inr ⟨i, z, hi, hz, rfl⟩, hnp⟩) ?_)
      refine flows_mono (S := isSt S 1) (fun n hn => List.contains_iff_mem.2 (hS.one n hn)) ?_
      simpa [flowsB, venF] using hq
    · exact hS.one n hn
theorem statesX_inv {c : Circuit} {l : List Int} (h : checkQ c l = 0) : VInv c l (statesX c l) :=
  CReach.ind (VInv c l) (vts0X_inv h) (fun R y hR hy h0 hq => hR.step h hy h0 hq) closedL_reach
theorem statesX_one {c : Circuit} {l : List Int} (h : checkQ c l = 0) (n : Nat) : isSt (statesX c l) 1 n = (vts c l).contains n := by
  have hi := statesX_inv h
  refine lfp_eq (ventPs_to h) (S := isSt (statesX c l) 1) ?_ hi.one n
  intro y hy hf
  have hlt := ventPs_to h y hy
  obtain ⟨hy, hnp⟩ := ventPs_mem.1 hy
  obtain ⟨x, hx⟩ := get_lt (xs := statesX c l) (k := y.to) (by rw [statesX_len]; exact hlt)
  have hx2 : x ≠ 2 := fun e => by
    subst e
    have := isSt_iff.2 hx
    rw [hi.two, List.contains_iff_mem] at this
    exact hnp this
  rcases hy with ⟨i, s, hi', hs, rfl⟩ | ⟨i, z, hi', hz, rfl⟩
  · have hv0 : isSt (vts0X c l) 1 (netN c i s) = true := by
      rw [isSt_iff]
      have : (vts0X c l)[netN c i s]? = if (prsX c l)[netN c i s]? = some 0 ∧ netN c i s ∈ openTo c l c.parts.length then some 1 else (prsX c l)[netN c i s]? := markL_get
      rw [this, if_pos]
      refine ⟨?_, openTo_mem.2 ⟨i, s, hi', hs, rfl⟩⟩
      obtain ⟨w, hw⟩ := get_lt (xs := prsX c l) (k := netN c i s) (by rw [prsX_len]; exact hlt)
      rcases prsX_vals _ w hw with rfl | rfl
      · exact hw
      · have := isSt_iff.2 hw
        rw [prsX_st h, List.contains_iff_mem] at this
        exact absurd this hnp
    refine CReach.ind (fun R => isSt R 1 (netN c i s) = true) hv0 (fun R y hR _ h0 _ => ?_) (closedL_reach (q := venF) (v := 1) (l := psgs c l))
    rw [isSt_set (lt_of_get h0)]
    by_cases e : y.to = netN c i s
    · exact .inl ⟨e, rfl⟩
    · exact .inr ⟨e, hR⟩
  · have hm : (⟨i, netN c i z.to, z.fr.map (netN c i), z.all⟩ : Psg) ∈ psgs c l := psgs_mem.2 ⟨i, z, hi', hz, rfl⟩
    have hst := closedL_still (q := venF) (v := 1) (l := psgs c l) (S := vts0X c l) (by omega) _ hm
    have hne := still_of (by omega) hst (by simpa [flowsB, venF, statesX] using hf)
    rcases hi.vals _ x hx with rfl | rfl | rfl
    · exact absurd hx hne
    · exact isSt_iff.2 hx
    · exact absurd rfl hx2

theorem statesX_eq {c : Circuit} {l : List Int} (h : checkQ c l = 0) : statesX c l = states c l := by
  have hi := statesX_inv h
  refine List.ext_getElem? fun n => ?_
  by_cases hn : n < (nets c).length
  · obtain ⟨x, hx⟩ := get_lt (xs := statesX c l) (k := n) (by rw [statesX_len]; exact hn)
    have hs : (states c l)[n]? = some (stateOf c l n) := by simp [states, hn]
    rw [hx, hs]
    congr 1
    have h2 := hi.two n
    have h1 := statesX_one h n
    rw [isSt_at hx] at h1 h2
    unfold stateOf
    rw [← h1, ← h2]
    rcases hi.vals n x hx with rfl | rfl | rfl <;> simp
  · rw [List.getElem?_eq_none (by rw [statesX_len]; omega), List.getElem?_eq_none (by simp [states]; omega)]

end Go.Am
/- Contracts: package pressure: Nets, At, Push. -/
namespace Go.Am
open Go Go.Proofs Go.Pn

theorem two_under {c : Circuit} {l : List Int} (hc : checkP c = 0) {i : Int} {s : Txt} (hp : (⟨i, s⟩ : Port) ∈ allP c) : decide (stateOf c l (netN c i s) = 2) = mkd (underL c l) (netN c i s) := by
  have hn := (netN_at hc hp).2
  unfold mkd stateOf
  rw [under_mk hn]
  cases h : (prs c l).contains (netN c i s)
  · cases h2 : (vts c l).contains (netN c i s) <;> simp
  · simp

set_option maxRecDepth 20000 in
theorem c_pressure_At (c : Circuit) (l : List Int) (p : Port) (hs : Sized c) (hl : l.length < 4611686018427387904) : Pure Tryz.prog GL 40 [c.av, Ints.av l, p.av] (.tup [.p (.int .i64 (atVal c l p)), .p (.int .i64 (atErr c l p))]) := by
  refine Pure.of_walk (N := 35) Tryz.func40 rfl rfl rfl (by simp) (by first | (simp; done) | simp [*]) ?_
  simp
  by_cases h : checkQ c l = 0
  · have hc := (checkQ_zero h).1
    have he : atErr c l p = givenErr c p := by simp [atErr, h]
    refine xcall_gives (g_of c l hs hl h _ _) ?_
    simp
    refine xcall_pure (c_circuit_Net c p hs) ?_
    by_cases hg : givenErr c p = 0
    · obtain ⟨n1, n2⟩ := given_net hc hg
      have hst := states_at (l := l) n2
      have hv : atVal c l p = stateOf c l (netN c p.part p.name) := by simp [atVal, he, hg]
      simp [hc, hg]
      refine xcall_gives (g_states c l h 2 3 _ _ (by simp) (by simp) (by simp) (by simp) (by simp)) ?_
      rw [statesX_eq h]
      rw [n1]
      simp [n2, hst, -getElem?_pos, List.getElem?_cons_zero, List.getElem?_cons_succ]
      simp [XEndT, hv, he, hg]
    · simp [hc, hg]
      simp [XEndT, atVal, he, hg]
  · refine xcall_pure (c_pressure_of c l hs hl h) ?_
    simp [h]
    simp [XEndT, atVal, atErr, h]

set_option maxRecDepth 20000 in
theorem c_pressure_Push (c : Circuit) (l : List Int) (s : Txt) (hs : Sized c) (hl : l.length < 4611686018427387904) : Pure Tryz.prog GL 41 [c.av, Ints.av l, .p (.str s)] (.tup [.p (.int .i64 (pushVal c l s)), .p (.int .i64 (pushErr c l s))]) := by
  refine Pure.of_walk (N := 70) Tryz.func41 rfl rfl rfl (by simp) (by first | (simp; done) | simp [*]) ?_
  simp
  by_cases h : checkQ c l = 0
  · have hc := (checkQ_zero h).1
    have he : pushErr c l s = if partI c s < 0 then 6 else if kindAt c (partI c s) ≠ 1 then 1 else 0 := by simp [pushErr, h]
    refine xcall_gives (g_of c l hs hl h _ _) ?_
    simp
    refine xcall_pure (c_circuit_Find c s hs) ?_
    rw [← partI]
    rcases partI_cases c s with hk | ⟨i, x, hk, e, _⟩
    · rw [hk] at he
      simp [hk, hc]
      simp [XEndT, pushVal, he]
    · obtain ⟨a, F⟩ := part_facts h e
      have f3 := F.lt
      have hi0 : ¬ (i : Int) < 0 := by omega
      rw [hk, F.kat, if_neg hi0] at he
      simp [hk, hi0, hc]
      simp [f3, e, -getElem?_pos, List.getElem?_cons_zero, List.getElem?_cons_succ]
      by_cases hx : x.kind = 1
      · have hm4 : (⟨i, [52]⟩ : Port) ∈ allP c := F.mem _ (by rw [hx]; decide)
        have hm2 : (⟨i, [50]⟩ : Port) ∈ allP c := F.mem _ (by rw [hx]; decide)
        have n4 := (netN_at hc hm4).2
        have n2 := (netN_at hc hm2).2
        have s4 := states_at (l := l) n4
        have s2 := states_at (l := l) n2
        have u4 := two_under (l := l) hc hm4
        have u2 := two_under (l := l) hc hm2
        rw [hx] at he
        simp at he
        simp [hx]
        refine xcall_gives (g_states c l h 1 2 _ _ (by simp) (by simp) (by simp) (by simp) (by simp)) ?_
        rw [statesX_eq h]
        simp
        refine XDraw.intro (by kernel_rfl) ?_
        simp
        refine xcall_gives (g_net c hc i [52] hm4 1 2 _ _ (by simp) (by simp) (by simp) (by simp [plumRow]) (by simp)) ?_
        simp [n4, s4, -getElem?_pos, List.getElem?_cons_zero, List.getElem?_cons_succ]
        refine xcall_gives (g_net c hc i [50] hm2 1 2 _ _ (by simp) (by simp) (by simp) (by simp [plumRow]) (by simp)) ?_
        simp [n2, s2, -getElem?_pos, List.getElem?_cons_zero, List.getElem?_cons_succ]
        refine ⟨.of (by kernel_rfl), ?_⟩
        have hv : pushVal c l s = pushAt (actsB c (underL c l) i [52]) (actsB c (underL c l) i [50]) := by simp [pushVal, he, hk, t4, t2]
        unfold actsB at hv
        rw [← u4, ← u2] at hv
        generalize decide (stateOf c l (netN c i [52]) = 2) = o at hv
        generalize decide (stateOf c l (netN c i [50]) = 2) = b at hv
        simp only [List.cons_ne_nil, if_false] at hv
        cases o <;> cases b <;> simp <;> simp [XEndT, hv, pushAt, he]
      · simp [hx] at he
        simp [hx]
        simp [XEndT, pushVal, he]
  · refine xcall_pure (c_pressure_of c l hs hl h) ?_
    simp [h]
    simp [XEndT, pushVal, pushErr, h]

end Go.Am
/- Contracts: package pressure: Flow. -/
namespace Go.Am
open Go Go.Proofs Go.Pn


end Go.Am
/- Contracts: package pressure: step. -/
namespace Go.Am
open Go Go.Proofs Go.Pn


@[simp] theorem range6_0 : (List.range 6)[0]? = some 0 := rfl
@[simp] theorem range6_1 : (List.range 6)[1]? = some 1 := rfl
@[simp] theorem range6_2 : (List.range 6)[2]? = some 2 := rfl
@[simp] theorem range6_3 : (List.range 6)[3]? = some 3 := rfl
@[simp] theorem range6_4 : (List.range 6)[4]? = some 4 := rfl
@[simp] theorem range6_5 : (List.range 6)[5]? = some 5 := rfl
end Go.Am
