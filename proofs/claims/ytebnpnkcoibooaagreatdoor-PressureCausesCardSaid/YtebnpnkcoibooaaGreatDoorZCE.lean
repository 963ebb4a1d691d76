/- Lemmas and contracts for the proof of a statement of this seat. -/
import Derived.Test.YtebnpnkcoibooaaGreatDoorZCB
set_option linter.unusedVariables false
set_option linter.unusedSimpArgs false
/- Contracts: chapter 24, the reference: Once, Step, Flow. -/
namespace Go.Am
open Go Go.Proofs Go.Pn

/-- The position of a part behind a step, and whether its pilots contradict each other. -/
def stepAt (c : Circuit) (l : List Int) (i : Nat) : Int × Bool :=
  movedOf (kindAt c i).toNat (posOf l i) (actsB c (underL c l) i (pilotsOf (kindAt c i).toNat).1) (actsB c (underL c l) i (pilotsOf (kindAt c i).toNat).2)
def onT (c : Circuit) (l : List Int) (k : Nat) : List Int := (List.range k).map fun (i : Nat) => (stepAt c l i).1
def badT (c : Circuit) (l : List Int) (k : Nat) : List Int := ((List.range k).filter fun (i : Nat) => (stepAt c l i).2).map fun (i : Nat) => (i : Int)
def onceL (c : Circuit) (l : List Int) : List Int := onT c l c.parts.length
def badL (c : Circuit) (l : List Int) : List Int := badT c l c.parts.length
theorem onT_snoc {c : Circuit} {l : List Int} {k : Nat} : onT c l (k + 1) = onT c l k ++ [(stepAt c l k).1] := by simp [onT, List.range_succ]
theorem onT_len {c : Circuit} {l : List Int} {k : Nat} : (onT c l k).length = k := by simp [onT]
theorem badT_snoc {c : Circuit} {l : List Int} {k : Nat} : badT c l (k + 1) = badT c l k ++ if (stepAt c l k).2 then [(k : Int)] else [] := by
  unfold badT
  rw [List.range_succ, List.filter_append, List.map_append]
  congr 1
  cases h : (stepAt c l k).2 <;> simp [h]
theorem badT_len {c : Circuit} {l : List Int} {k : Nat} : (badT c l k).length ≤ k := by
  unfold badT
  rw [List.length_map]
  exact Nat.le_trans (List.length_filter_le ..) (by simp)
theorem pilot_ports {k : Nat} (h : k < 14) : ((pilotsOf k).1 ≠ [] → (pilotsOf k).1 ∈ kindPorts k) ∧ ((pilotsOf k).2 ≠ [] → (pilotsOf k).2 ∈ kindPorts k) :=
  (by decide +kernel : ∀ k, k < 14 → ((pilotsOf k).1 ≠ [] → (pilotsOf k).1 ∈ kindPorts k) ∧ ((pilotsOf k).2 ≠ [] → (pilotsOf k).2 ∈ kindPorts k)) k h

set_option maxRecDepth 20000 in
theorem c_pneumaticref24_Once (c : Circuit) (l : List Int) (h : checkQ c l = 0) : Pure Go.Proofs.Tryz.prog GL 82 [c.av, Ints.av l] (.tup [Ints.av (onceL c l), Ints.av (badL c l)]) := by
  refine Pure.of_walk (N := 72) Go.Proofs.Tryz.func82 rfl rfl rfl (by simp) (by first | (simp; done) | simp [*]) ?_
  have hc := (checkQ_zero h).1
  have h2 := check_parts hc
  have hul := @under_len c l
  have hst : ∀ i : Nat, stepAt c l i = movedOf (kindAt c i).toNat (posOf l i) (actsB c (underL c l) i (pilotsOf (kindAt c i).toNat).1) (actsB c (underL c l) i (pilotsOf (kindAt c i).toNat).2) := fun i => rfl
  simp
  refine XDraw.intro (by kernel_rfl) ?_
  simp
  refine xcall_pure (c_pneumaticref21_Joined c h2.1 (by omega) (by omega)) ?_
  simp
  refine xcall_pure (c_pneumaticref24_Under c l h) ?_
  simp
  refine ⟨.of (by kernel_rfl), ?_⟩
  generalize underL c l = U at hul hst
  refine XLoop.go [1, 2, 6, 7] [0] 2 [1, 2] (nms [8, 9]) (fun nx (k : Nat) => [(8, .acc nx 1 k), (9, .acc (nx + 1) 1 (badT c l k).length), (10, .p (.int .i64 k))]) (fun nx k => [(nx, accB 1 ((onT c l k).map Int.row)), (nx + 1, accB 1 ((badT c l k).map Int.row))]) (fun k => k ≤ c.parts.length) (fun k => c.parts.length - k) 0 (by omega) ?_ ?_
  · simp [onT, badT]
    try decide
  · intro k hk
    have hol := @onT_len c l k
    have hbl := @badT_len c l k
    have hos := @onT_snoc c l k
    have hbs := @badT_snoc c l k
    have hend1 : k = c.parts.length → onT c l k = onceL c l := fun e => by rw [e]; rfl
    have hend2 : k = c.parts.length → badT c l k = badL c l := fun e => by rw [e]; rfl
    generalize onT c l k = A at hol hos hend1
    generalize badT c l k = B at hbl hbs hend2
    simp
    refine xif_split (fun h3 => ?_) (fun h3 => ?_)
    · simp at h3
      obtain ⟨q, e⟩ := get_lt h3
      obtain ⟨a, F⟩ := part_facts h e
      have f4 := F.ltl
      have hkk : ((q.kind.toNat : Nat) : Int) = q.kind := by have := F.kind; omega
      have hq14 : q.kind.toNat < 14 := by have := F.kind; omega
      have hpi := c_pneumaticref20_Piloted q.kind.toNat hq14
      have hpp := pilot_ports hq14
      have hmv := fun x y => c_pneumaticref20_Moved q.kind.toNat a x y hq14
      rw [hkk] at hpi hmv
      have hpo : posOf l (k : Int) = a := by rw [posOf, Int.toNat_natCast, F.pos]; rfl
      have hst := hst k
      rw [F.kat, hpo] at hst
      have f2 := F.pos
      have ha1 := c_pneumaticref24_Acts c hc U hul k (pilotsOf q.kind.toNat).1 (fun hn => F.mem _ (hpp.1 hn))
      have ha2 := c_pneumaticref24_Acts c hc U hul k (pilotsOf q.kind.toNat).2 (fun hn => F.mem _ (hpp.2 hn))
      generalize pilotsOf q.kind.toNat = pl at hst hpi ha1 ha2
      generalize stepAt c l k = r at hst hos hbs
      simp [h3, e, -getElem?_pos, List.getElem?_cons_zero, List.getElem?_cons_succ]
      refine xcall_pure hpi ?_
      simp
      refine XDraw.intro (by kernel_rfl) ?_
      simp [h3, e, f4, f2, -getElem?_pos, List.getElem?_cons_zero, List.getElem?_cons_succ]
      refine xcall_pure ha1 ?_
      simp
      refine xcall_pure ha2 ?_
      simp
      refine xcall_pure (hmv _ _) ?_
      rw [← hst]
      simp
      refine ⟨.of (by kernel_rfl), ?_⟩
      refine ⟨by omega, hol, ?_⟩
      cases hr : r.2 with
      | true =>
        rw [hr] at hbs
        simp
        refine ⟨by omega, wrap_i64 (by omega) (by omega), k + 1, by omega, by omega, ?_⟩
        simp [hos, hbs]
        try decide
      | false =>
        rw [hr] at hbs
        simp
        refine ⟨wrap_i64 (by omega) (by omega), k + 1, by omega, by omega, ?_⟩
        simp [hos, hbs]
        try decide
    · simp at h3
      have h5 : k = c.parts.length := by omega
      have hA := hend1 h5
      have hB := hend2 h5
      subst hA
      subst hB
      simp [XEndT, hol]

theorem c_pneumaticref24_Step (c : Circuit) (l : List Int) (hs : Sized c) (hl : l.length < 4611686018427387904) : Pure Go.Proofs.Tryz.prog GL 32 [c.av, Ints.av l] (.tup [Ints.av (if checkQ c l = 0 then onceL c l else []), Ints.av (if checkQ c l = 0 then badL c l else []), .p (.int .i64 (checkQ c l))]) := by
  refine Pure.of_walk (N := 24) Go.Proofs.Tryz.func32 rfl rfl rfl (by simp) (by first | (simp; done) | simp [*]) ?_
  simp
  refine xcall_pure (c_pneumaticref24_Check c l hs hl) ?_
  by_cases h : checkQ c l = 0
  · simp [h]
    refine xcall_pure (c_pneumaticref24_Once c l h) ?_
    simp
    simp [XEndT, h]
  · simp [h]
    simp [XEndT, h]

end Go.Am
/- Contracts: chapter 24, the reference: Flow. -/
namespace Go.Am
open Go Go.Proofs Go.Pn

/-- Pressure flows through a part. -/
def flowB (c : Circuit) (l : List Int) (i : Nat) : Bool := (passAt c l i).any fun y => flowsB (prs c l).contains ⟨i, netN c i y.to, y.fr.map (netN c i), y.all⟩
def flowT (c : Circuit) (l : List Int) (k : Nat) : List Int := ((List.range k).filter (flowB c l)).map fun (i : Nat) => (i : Int)
def flowL (c : Circuit) (l : List Int) : List Int := flowT c l c.parts.length
theorem flowT_snoc {c : Circuit} {l : List Int} {k : Nat} : flowT c l (k + 1) = flowT c l k ++ if flowB c l k then [(k : Int)] else [] := by
  unfold flowT
  rw [List.range_succ, List.filter_append, List.map_append]
  congr 1
  cases h : flowB c l k <;> simp [h]
theorem flowT_len {c : Circuit} {l : List Int} {k : Nat} : (flowT c l k).length ≤ k := by
  unfold flowT
  rw [List.length_map]
  exact Nat.le_trans (List.length_filter_le ..) (by simp)
theorem under_mkd {c : Circuit} {l : List Int} (h : checkQ c l = 0) : mkd (underL c l) = (prs c l).contains := by
  funext n
  by_cases hn : n < (nets c).length
  · simp [mkd, under_mk hn, -getElem?_pos]
  · rw [mkd, List.getElem?_eq_none (by rw [under_len]; omega)]
    simp only [Option.getD_none]
    symm
    rw [← Bool.not_eq_true, List.contains_iff_mem]
    exact fun hm => hn (prs_lt h n hm)
theorem pass_cases (c : Circuit) (l : List Int) (i : Int) : passAt c l i = [] ∨ ∃ y, passAt c l i = [y] := by
  have := @passed_len (kindAt c i).toNat (decide (posOf l i = 1))
  unfold passAt
  generalize passedOf (kindAt c i).toNat (decide (posOf l i = 1)) = L at this
  match L, this with
  | [], _ => exact .inl rfl
  | [y], _ => exact .inr ⟨y, rfl⟩
  | _ :: _ :: _, h => simp at h

end Go.Am
/- Contracts: chapter 24, the reference: Rest. -/
namespace Go.Am
open Go Go.Proofs Go.Pn

theorem moved_ok {k : Nat} (h : k < 14) (b : Bool) (x y : Bool) (hp : placedErr k (posI b) = 0) : placedErr k (movedOf k (posI b) x y).1 = 0 := by
  have t1 := (by decide +kernel : ∀ k : Nat, k < 14 → placedErr k 1 = 0 → placedErr k (movedOf k 1 true true).1 = 0 ∧ placedErr k (movedOf k 1 true false).1 = 0 ∧ placedErr k (movedOf k 1 false true).1 = 0 ∧ placedErr k (movedOf k 1 false false).1 = 0) k h
  have t0 := (by decide +kernel : ∀ k : Nat, k < 14 → placedErr k 0 = 0 → placedErr k (movedOf k 0 true true).1 = 0 ∧ placedErr k (movedOf k 0 true false).1 = 0 ∧ placedErr k (movedOf k 0 false true).1 = 0 ∧ placedErr k (movedOf k 0 false false).1 = 0) k h
  cases b
  · obtain ⟨a1, a2, a3, a4⟩ := t0 hp
    cases x <;> cases y <;> assumption
  · obtain ⟨a1, a2, a3, a4⟩ := t1 hp
    cases x <;> cases y <;> assumption

theorem onceL_len {c : Circuit} {l : List Int} : (onceL c l).length = c.parts.length := onT_len
theorem onceL_at {c : Circuit} {l : List Int} {i : Nat} (h : i < c.parts.length) : (onceL c l)[i]? = some (stepAt c l i).1 := by simp [onceL, onT, h]
theorem onceL_ok {c : Circuit} {l : List Int} (h : checkQ c l = 0) : checkQ c (onceL c l) = 0 := by
  obtain ⟨h1, h2, _⟩ := checkQ_zero h
  unfold checkQ
  rw [if_neg (by simpa using h1), if_neg (by simpa using onceL_len), firstErr_iff]
  intro i hi
  rw [onceL_len] at hi
  obtain ⟨q, e⟩ := get_lt hi
  obtain ⟨a, F⟩ := part_facts h e
  have hk := F.kind
  have hkk : ((q.kind.toNat : Nat) : Int) = q.kind := by omega
  obtain ⟨_, b, hb⟩ := placed_ok F.placed
  have hpo : posOf l (i : Int) = a := by rw [posOf, Int.toNat_natCast, F.pos]; rfl
  have hm := moved_ok (k := q.kind.toNat) (by omega) b (actsB c (underL c l) i (pilotsOf q.kind.toNat).1) (actsB c (underL c l) i (pilotsOf q.kind.toNat).2) (by rw [hkk, ← hb]; exact F.placed)
  have hs : (stepAt c l i).1 = (movedOf q.kind.toNat (posI b) (actsB c (underL c l) i (pilotsOf q.kind.toNat).1) (actsB c (underL c l) i (pilotsOf q.kind.toNat).2)).1 := by
    rw [stepAt, F.kat, hpo, hb]
  rw [← hs, hkk] at hm
  simp only [posAt, e, onceL_at hi]
  unfold placedErr at hm
  rw [kindErr_ok.2 hk] at hm
  simpa using hm

/-- The positions behind n steps. -/
def posN (c : Circuit) (l : List Int) : Nat → List Int
  | 0 => l
  | n + 1 => onceL c (posN c l n)
theorem posN_ok {c : Circuit} {l : List Int} (h : checkQ c l = 0) : ∀ {n : Nat}, checkQ c (posN c l n) = 0
  | 0 => h
  | n + 1 => onceL_ok (posN_ok h)
def sawB (c : Circuit) (l : List Int) (n j : Nat) (i : Nat) : Bool := ((List.range n).any fun m => (badL c (posN c l m)).contains (i : Int)) || ((badL c (posN c l n)).take j).contains (i : Int)
def sawL (c : Circuit) (l : List Int) (n j : Nat) : List Bool := (List.range c.parts.length).map (sawB c l n j)
theorem sawL_len {c : Circuit} {l : List Int} {n j : Nat} : (sawL c l n j).length = c.parts.length := by simp [sawL]
theorem sawL_at {c : Circuit} {l : List Int} {n j i : Nat} (h : i < c.parts.length) : (sawL c l n j)[i]? = some (sawB c l n j i) := by simp [sawL, h]
theorem sawL_next {c : Circuit} {l : List Int} {n j : Nat} (h : (badL c (posN c l n)).length ≤ j) : sawL c l n j = sawL c l (n + 1) 0 := by
  unfold sawL
  apply List.map_congr_left
  intro i _
  unfold sawB
  rw [List.take_of_length_le h, List.range_succ, List.any_append]
  simp
theorem sawL_set {c : Circuit} {l : List Int} {n j : Nat} {b : Nat} (e : (badL c (posN c l n))[j]? = some (b : Int)) : (sawL c l n j).set b true = sawL c l n (j + 1) := by
  apply List.ext_getElem?
  intro i
  by_cases hi : i < c.parts.length
  · rw [sawL_at hi]
    have hs : sawB c l n (j + 1) i = (sawB c l n j i || decide (i = b)) := by
      unfold sawB
      rw [take_snoc e, Bool.or_assoc]
      congr 1
      rw [Bool.eq_iff_iff]
      simp
      constructor
      · rintro (h | h)
        · exact .inl h
        · exact .inr (by omega)
      · rintro (h | h)
        · exact .inl h
        · exact .inr (by omega)
    by_cases hib : i = b
    · subst hib
      rw [List.getElem?_set_self (by rw [sawL_len]; exact hi), hs]
      simp
    · rw [List.getElem?_set_ne (Ne.symm hib), sawL_at hi, hs]
      simp [hib]
  · rw [List.getElem?_eq_none (by rw [List.length_set, sawL_len]; omega), List.getElem?_eq_none (by rw [sawL_len]; omega)]
theorem bad_mem {c : Circuit} {l : List Int} {j : Nat} {x : Int} (e : (badL c l)[j]? = some x) : ∃ b : Nat, x = b ∧ b < c.parts.length := by
  have := List.mem_of_getElem? e
  unfold badL badT at this
  obtain ⟨b, hb, rfl⟩ := List.mem_map.1 this
  exact ⟨b, rfl, List.mem_range.1 (List.mem_filter.1 hb).1⟩
def allT (c : Circuit) (l : List Int) (n k : Nat) : List Int := ((List.range k).filter (sawB c l (n + 1) 0)).map fun (i : Nat) => (i : Int)
theorem allT_snoc {c : Circuit} {l : List Int} {n k : Nat} : allT c l n (k + 1) = allT c l n k ++ if sawB c l (n + 1) 0 k then [(k : Int)] else [] := by
  unfold allT
  rw [List.range_succ, List.filter_append, List.map_append]
  congr 1
  cases h : sawB c l (n + 1) 0 k <;> simp [h]
theorem allT_len {c : Circuit} {l : List Int} {n k : Nat} : (allT c l n k).length ≤ k := by
  unfold allT
  rw [List.length_map]
  exact Nat.le_trans (List.length_filter_le ..) (by simp)

/-- The number of steps behind which positions remain. -/
def restIx (c : Circuit) (l : List Int) : Option Nat := (List.range 65).find? fun n => decide (onceL c (posN c l n) = posN c l n)
def restErr (c : Circuit) (l : List Int) : Int := if checkQ c l ≠ 0 then checkQ c l else match restIx c l with | some _ => 0 | none => 21
def restPos (c : Circuit) (l : List Int) : List Int := if checkQ c l ≠ 0 then [] else match restIx c l with | some n => posN c l n | none => []
def restBad (c : Circuit) (l : List Int) : List Int := if checkQ c l ≠ 0 then [] else match restIx c l with | some n => allT c l n c.parts.length | none => []
theorem restIx_at {c : Circuit} {l : List Int} {n : Nat} (hn : n < 65) (h : onceL c (posN c l n) = posN c l n) (hb : ∀ m, m < n → onceL c (posN c l m) ≠ posN c l m) : restIx c l = some n := by
  unfold restIx
  rw [List.find?_range_eq_some]
  refine ⟨by simpa using h, by simpa using hn, fun j hj => by simpa using hb j hj⟩
theorem restIx_none {c : Circuit} {l : List Int} (hb : ∀ m, m < 65 → onceL c (posN c l m) ≠ posN c l m) : restIx c l = none := by
  unfold restIx
  rw [List.find?_eq_none]
  intro x hx
  simpa using hb x (List.mem_range.1 hx)

set_option maxRecDepth 20000 in
theorem c_pneumaticref24_Rest (c : Circuit) (l : List Int) (hs : Sized c) (hl : l.length < 4611686018427387904) : Pure Go.Proofs.Tryz.prog GL 35 [c.av, Ints.av l] (.tup [Ints.av (restPos c l), Ints.av (restBad c l), .p (.int .i64 (restErr c l))]) := by
  refine Pure.of_walk (N := 67) Go.Proofs.Tryz.func35 rfl rfl rfl (by simp) (by first | (simp; done) | simp [*]) ?_
  simp
  refine xcall_pure (c_pneumaticref24_Check c l hs hl) ?_
  by_cases h : checkQ c l = 0
  · have h2 := check_parts (checkQ_zero h).1
    obtain ⟨N, hN⟩ : ∃ N, c.parts.length = N := ⟨_, rfl⟩
    have hs00 : List.replicate N false = sawL c l 0 0 := by
      unfold sawL
      rw [hN]
      apply List.ext_getElem?
      intro i
      by_cases hi : i < N
      · simp [hi, sawB]
      · rw [List.getElem?_eq_none (by simp; omega), List.getElem?_eq_none (by simp; omega)]
    simp [h]
    refine ⟨by omega, by omega, ?_⟩
    rw [hN]
    refine XLoop.go [2, 8] [0] 0 [] (fun _ => []) (fun _ (n : Nat) => [(1, .p (.lst 1 ((posN c l n).map Int.enc))), (9, .p (.int .i64 n))]) (fun _ n => [(1, some (.cells 1 ((sawL c l n 0).map Bool.row)))]) (fun n => n ≤ 65 ∧ ∀ m, m < n → onceL c (posN c l m) ≠ posN c l m) (fun n => 65 - n) 0 ⟨by omega, fun m hm => by omega⟩ ?_ ?_
    · simp [← hs00, posN]
      try decide
    · rintro n ⟨hn, hb⟩
      have hok := posN_ok h (n := n)
      have hl1 : (posN c l n).length = N := by rw [(checkQ_zero hok).2.1, hN]
      have hl2 := @onceL_len c (posN c l n)
      have hnext : posN c l (n + 1) = onceL c (posN c l n) := rfl
      simp
      refine xif_split (fun h3 => ?_) (fun h3 => ?_)
      · simp at h3
        simp
        refine xcall_pure (c_pneumaticref24_Once c (posN c l n) hok) ?_
        obtain ⟨B, hB⟩ : ∃ B, badL c (posN c l n) = B := ⟨_, rfl⟩
        have hBl : B.length ≤ N := by rw [← hB, ← hN]; exact badT_len
        have hset := fun (j b : Nat) (e : B[j]? = some (b : Int)) => sawL_set (c := c) (l := l) (n := n) (j := j) (b := b) (by rw [hB]; exact e)
        have hmem := fun (j : Nat) (x : Int) (e : B[j]? = some x) => bad_mem (c := c) (l := posN c l n) (j := j) (x := x) (by rw [hB]; exact e)
        have hnx : B.length ≤ B.length → sawL c l n B.length = sawL c l (n + 1) 0 := fun _ => sawL_next (by rw [hB]; exact Nat.le_refl _)
        rw [hB]
        simp
        refine XLoop.go [1, 2, 8, 9, 10, 11] [0] 0 [] (fun _ => []) (fun _ (j : Nat) => [(12, .p (.int .i64 j))]) (fun _ j => [(1, some (.cells 1 ((sawL c l n j).map Bool.row)))]) (fun j => j ≤ B.length) (fun j => B.length - j) 0 (by omega) ?_ ?_
        · simp
          try decide
        · intro j hj
          have hsl := @sawL_len c l n j
          simp
          refine xif_split (fun h4 => ?_) (fun h4 => ?_)
          · simp at h4
            obtain ⟨x, e⟩ := get_lt h4
            obtain ⟨b, rfl, hbN⟩ := hmem j x e
            have hbs : b < (sawL c l n j).length := by omega
            have hbN2 : b < N := by omega
            obtain ⟨v, ev⟩ := get_lt hbs
            have hset := hset j b e
            simp [h4, e, hbN2, ev, -getElem?_pos, List.getElem?_cons_zero, List.getElem?_cons_succ]
            refine ⟨wrap_i64 (by omega) (by omega), j + 1, by omega, by omega, ?_⟩
            simp [← hset]
            try decide
          · simp at h4
            have hj2 : j = B.length := by omega
            subst hj2
            have hnx := hnx (Nat.le_refl _)
            simp
            refine xcall_pure (c_pneumaticref24_same (onceL c (posN c l n)) (posN c l n) (by omega) (by omega)) ?_
            by_cases hfix : onceL c (posN c l n) = posN c l n
            · have hix := restIx_at (by omega) hfix hb
              have r1 : restErr c l = 0 := by simp [restErr, h, hix]
              have r2 : restPos c l = posN c l n := by simp [restPos, h, hix]
              have r3 : restBad c l = allT c l n c.parts.length := by simp [restBad, h, hix]
              rw [hnx]
              simp [hfix]
              refine XLoop.go [8, 10] [0, 1] 1 [2] (nms [13]) (fun nx (k : Nat) => [(13, .acc nx 1 (allT c l n k).length), (14, .p (.int .i64 k))]) (fun nx k => [(nx, accB 1 ((allT c l n k).map Int.row))]) (fun k => k ≤ N) (fun k => N - k) 0 (by omega) ?_ ?_
              · simp [allT]
                try decide
              · intro k hk
                have hal := @allT_len c l n k
                have has := @allT_snoc c l n k
                have hend : k = N → allT c l n k = restBad c l := fun e => by rw [r3, hN, e]
                generalize allT c l n k = A at hal has hend
                have hsl2 := @sawL_len c l (n + 1) 0
                simp
                refine xif_split (fun h5 => ?_) (fun h5 => ?_)
                · simp at h5
                  have hsa := sawL_at (c := c) (l := l) (n := n + 1) (j := 0) (i := k) (by omega)
                  have hkl : k < (sawL c l (n + 1) 0).length := by omega
                  simp [h5, hkl, hsa, -getElem?_pos, List.getElem?_cons_zero, List.getElem?_cons_succ]
                  cases hv : sawB c l (n + 1) 0 k with
                  | true =>
                    rw [hv] at has
                    simp at has
                    simp
                    refine ⟨by omega, wrap_i64 (by omega) (by omega), k + 1, by omega, by omega, ?_⟩
                    simp [has]
                    try decide
                  | false =>
                    rw [hv] at has
                    simp at has
                    simp
                    refine ⟨wrap_i64 (by omega) (by omega), k + 1, by omega, by omega, ?_⟩
                    simp [has]
                    try decide
                · simp at h5
                  have hA := hend (by omega)
                  rw [r2, r1]
                  subst hA
                  simp [XEndT, hfix]
            · simp [hfix]
              refine ⟨wrap_i64 (by omega) (by omega), n + 1, ⟨by omega, fun m hm => ?_⟩, by omega, ?_⟩
              · by_cases hmn : m = n
                · subst hmn; exact hfix
                · exact hb m (by omega)
              · simp [hnext, hnx]
                try decide
      · simp at h3
        have hn65 : n = 65 := by omega
        subst hn65
        have hix := restIx_none hb
        simp
        simp [XEndT, restErr, restPos, restBad, h, hix]
  · simp [h]
    simp [XEndT, restErr, restPos, restBad, h]

end Go.Am
