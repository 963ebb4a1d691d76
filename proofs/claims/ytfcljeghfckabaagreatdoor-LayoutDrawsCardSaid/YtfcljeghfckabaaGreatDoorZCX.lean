/- Lemmas and contracts for the proof of a statement of this seat. -/
import Derived.Test.YtfcljeghfckabaaGreatDoorZCW
set_option linter.unusedVariables false
set_option linter.unusedSimpArgs false
/- Plain facts: the driver of a cylinder, as the reference finds it; the rows of parts. -/
namespace Go.Am
open Go Go.Proofs Go.Pn

def drvB (c : Circuit) (v k : Int) (a b : Txt) : Bool := (decide (kindAt c v = 2) || decide (kindAt c v = 3)) && (decide (feedL c k [50] = [⟨v, a⟩]) && decide (feedL c k [52] = [⟨v, b⟩]))
theorem out_name {c : Circuit} (h : checkP c = 0) {k : Int} {s : Txt} {x : Port} (hx : x ∈ feedL c k s) (hk : kindAt c x.part = 2 ∨ kindAt c x.part = 3) : x.name = [50] ∨ x.name = [52] := by
  have h2 := check_parts h
  obtain ⟨_, fx2, fx3⟩ := feed_mem hx
  obtain ⟨j, qv, j1, j2, j3, j4, j5, j6, _⟩ := role_all h2.1 fx2
  have hkk : ∃ k : Nat, qv.kind = k ∧ (k = 2 ∨ k = 3) := by
    rw [j4] at hk
    rcases hk with hh | hh
    · exact ⟨2, hh, .inl rfl⟩
    · exact ⟨3, hh, .inr rfl⟩
  obtain ⟨k, hk1, hk2⟩ := hkk
  rw [hk1] at j6 j4
  rw [Int.toNat_natCast] at j6
  exact out_names hk2 j6 (by rw [← role_kind j4]; exact fx3)
theorem drvB_straight {c : Circuit} (h : checkP c = 0) {v k : Int} : drvB c v k [50] [52] = true ↔ drvOf c k = some (v, true) := by
  unfold drvB drvOf
  simp only [Bool.and_eq_true, Bool.or_eq_true, decide_eq_true_eq]
  constructor
  · rintro ⟨h1, h2, h3⟩
    rw [h2, h3]
    simp only
    rw [if_neg (by simp), if_pos h1]
    simp
  · intro ho
    split at ho
    · rename_i x y hx hy
      split at ho
      · cases ho
      · rename_i hne
        split at ho
        · rename_i hkv
          simp only [Option.some.injEq, Prod.mk.injEq, decide_eq_true_eq] at ho
          obtain ⟨rfl, hyn⟩ := ho
          simp only [not_or, Decidable.not_not] at hne
          obtain ⟨hpart, hname⟩ := hne
          have nx := out_name h (show x ∈ feedL c k [50] by rw [hx]; simp) hkv
          obtain ⟨xp, xn⟩ := x
          obtain ⟨yp, yn⟩ := y
          simp only at hpart hname nx hyn hkv ⊢
          subst hpart
          subst hyn
          have : xn = [50] := by rcases nx with h | h; exact h; exact absurd h hname
          subst this
          exact ⟨hkv, hx, hy⟩
        · cases ho
    · cases ho
theorem drvB_crossed {c : Circuit} (h : checkP c = 0) {v k : Int} : drvB c v k [52] [50] = true ↔ drvOf c k = some (v, false) := by
  unfold drvB drvOf
  simp only [Bool.and_eq_true, Bool.or_eq_true, decide_eq_true_eq]
  constructor
  · rintro ⟨h1, h2, h3⟩
    rw [h2, h3]
    simp only
    rw [if_neg (by simp), if_pos h1]
    simp
  · intro ho
    split at ho
    · rename_i x y hx hy
      split at ho
      · cases ho
      · rename_i hne
        split at ho
        · rename_i hkv
          simp only [Option.some.injEq, Prod.mk.injEq, decide_eq_false_iff_not] at ho
          obtain ⟨rfl, hyn⟩ := ho
          simp only [not_or, Decidable.not_not] at hne
          obtain ⟨hpart, hname⟩ := hne
          have nx := out_name h (show x ∈ feedL c k [50] by rw [hx]; simp) hkv
          have ny := out_name h (show y ∈ feedL c k [52] by rw [hy]; simp) (by rw [← hpart]; exact hkv)
          obtain ⟨xp, xn⟩ := x
          obtain ⟨yp, yn⟩ := y
          simp only at hpart hname nx ny hyn hkv ⊢
          subst hpart
          have h1 : yn = [50] := by rcases ny with h | h; exact h; exact absurd h hyn
          subst h1
          have : xn = [52] := by rcases nx with h | h; exact absurd h hname; exact h
          subst this
          exact ⟨hkv, hx, hy⟩
        · cases ho
    · cases ho

structure Plc where
  row : Int
  col : Int
  deriving DecidableEq
@[simp] def Plc.enc (p : Plc) : List PV := [.int .i64 p.row, .int .i64 p.col]
@[simp] def Plc.row_ (p : Plc) : List AV := [.p (.int .i64 p.row), .p (.int .i64 p.col)]
@[simp] def Plc.av (p : Plc) : AV := .agg [.p (.int .i64 p.row), .p (.int .i64 p.col)]

def drivesB (c : Circuit) (i : Int) : Bool := c.parts.any fun q => decide (drvErr c q.name = 0) && decide ((drvRes c q.name).1 = i)
def baseOf (k : Int) : Int := if k = 1 then 0 else if k = 0 then 4 else if k = 6 ∨ k = 7 then 3 else 2
def levelOf (c : Circuit) (i : Int) : Int := if baseOf (kindAt c i) = 2 then (if drivesB c i then 1 else 2) else baseOf (kindAt c i)
def levelsT (c : Circuit) (k : Nat) : List Int := (List.range k).map fun (i : Nat) => levelOf c i
def levelsL (c : Circuit) : List Int := levelsT c c.parts.length
theorem levelsT_len {c : Circuit} {k : Nat} : (levelsT c k).length = k := by simp [levelsT]
theorem levelsT_snoc {c : Circuit} {k : Nat} : levelsT c (k + 1) = levelsT c k ++ [levelOf c k] := by simp [levelsT, List.range_succ]
theorem levelsL_at {c : Circuit} {i : Nat} (h : i < c.parts.length) : (levelsL c)[i]? = some (levelOf c i) := by simp [levelsL, levelsT, h]
theorem level_range {c : Circuit} {i : Int} : 0 ≤ levelOf c i ∧ levelOf c i ≤ 4 := by
  unfold levelOf baseOf
  split
  · split <;> omega
  · split
    · omega
    · split
      · omega
      · split <;> omega

end Go.Am
/- Contracts: the reference of chapter 22: the driver of a cylinder. -/
namespace Go.Am
open Go Go.Proofs Go.Pn

set_option maxRecDepth 20000 in
theorem c_pneumaticref22_drives (c : Circuit) (v k : Nat) (a b : Txt) (h : checkP c = 0) (hv : v < c.parts.length) : Pure Go.Proofs.Tryz.prog GL 158 [c.av, .p (.int .i64 v), .p (.int .i64 k), .p (.str a), .p (.str b)] (.p (.bool (drvB c v k a b))) := by
  refine Pure.of_walk (N := 64) Go.Proofs.Tryz.func158 rfl rfl rfl (by simp) (by first | (simp; done) | simp [*]) ?_
  have h2 := check_parts h
  have hal := allP_len h2.1 (by omega)
  obtain ⟨q, e⟩ := get_lt hv
  have hkat : kindAt c v = q.kind := by simp [kindAt, e, -getElem?_pos]
  have ha2 := @around_len c ⟨k, [50]⟩
  have ha4 := @around_len c ⟨k, [52]⟩
  have hf2 := c_pneumaticref22_only c (around c ⟨k, [50]⟩) true h2.1 (by omega) partOk_around
  have hf4 := c_pneumaticref22_only c (around c ⟨k, [52]⟩) true h2.1 (by omega) partOk_around
  have hR2 := c_pneumaticref21_Around c ⟨k, [50]⟩ h2.1 (by omega) (by omega)
  have hR4 := c_pneumaticref21_Around c ⟨k, [52]⟩ h2.1 (by omega) (by omega)
  have hdb : drvB c v k a b = ((decide (q.kind = 2) || decide (q.kind = 3)) && (decide (onlyL c (around c ⟨k, [50]⟩) true = [⟨v, a⟩]) && decide (onlyL c (around c ⟨k, [52]⟩) true = [⟨v, b⟩]))) := by unfold drvB feedL; rw [hkat]
  rw [hdb]
  generalize onlyL c (around c ⟨k, [50]⟩) true = L at *
  generalize onlyL c (around c ⟨k, [52]⟩) true = M at *
  by_cases hk : q.kind = 2 ∨ q.kind = 3
  · have hkb : (decide (q.kind = 2) || decide (q.kind = 3)) = true := by simpa using hk
    rw [hkb]
    simp [e, hv, Part.enc, -getElem?_pos, List.getElem?_cons_zero, List.getElem?_cons_succ]
    rcases hk with hk | hk <;>
    · simp [hk]
      refine XDraw.intro (by kernel_rfl) ?_
      simp
      refine xcall_pure hR2 ?_
      simp
      refine xcall_pure hf2 ?_
      simp
      refine ⟨.of (by kernel_rfl), ?_⟩
      refine XDraw.intro (by kernel_rfl) ?_
      simp
      refine xcall_pure hR4 ?_
      simp
      refine xcall_pure hf4 ?_
      simp
      refine ⟨.of (by kernel_rfl), ?_⟩
      rcases L with _ | ⟨p, _ | ⟨p2, L⟩⟩
      · simp [XEndT]
      · rcases M with _ | ⟨r, _ | ⟨r2, M⟩⟩
        · simp [XEndT]
        · by_cases hp : p = ⟨v, a⟩
          · subst hp
            simp [XEndT]
            obtain ⟨r1, rn⟩ := r
            rw [Bool.eq_iff_iff]
            simp
          · have hp2 : (decide (p.part = v) && decide (p.name = a)) = false := by
              obtain ⟨p1, pn⟩ := p
              simpa using hp
            simp [XEndT, hp, hp2]
        · have hl : ¬ ((M.length : Int) + 1 + 1 = 1) := by omega
          simp [XEndT, hl]
      · have hl : ¬ ((L.length : Int) + 1 + 1 = 1) := by omega
        simp [XEndT, hl]
  · simp only [not_or] at hk
    simp [e, hv, Part.enc, -getElem?_pos, List.getElem?_cons_zero, List.getElem?_cons_succ]
    simp [hk.1, hk.2, XEndT]

theorem c_pneumaticref22_Straight (c : Circuit) (v k : Nat) (h : checkP c = 0) (hv : v < c.parts.length) : Pure Go.Proofs.Tryz.prog GL 126 [c.av, .p (.int .i64 v), .p (.int .i64 k)] (.p (.bool (drvB c v k [50] [52]))) := by
  refine Pure.of_walk (N := 11) Go.Proofs.Tryz.func126 rfl rfl rfl (by simp) (by first | (simp; done) | simp [*]) ?_
  have hd := c_pneumaticref22_drives c v k [50] [52] h hv
  simp
  refine xcall_pure hd ?_
  simp [XEndT]

theorem c_pneumaticref22_Crossed (c : Circuit) (v k : Nat) (h : checkP c = 0) (hv : v < c.parts.length) : Pure Go.Proofs.Tryz.prog GL 127 [c.av, .p (.int .i64 v), .p (.int .i64 k)] (.p (.bool (drvB c v k [52] [50]))) := by
  refine Pure.of_walk (N := 11) Go.Proofs.Tryz.func127 rfl rfl rfl (by simp) (by first | (simp; done) | simp [*]) ?_
  have hd := c_pneumaticref22_drives c v k [52] [50] h hv
  simp
  refine xcall_pure hd ?_
  simp [XEndT]

theorem drvOf_part {c : Circuit} {k v : Int} {b : Bool} (ho : drvOf c k = some (v, b)) : ∃ i : Nat, v = i ∧ i < c.parts.length := by
  have hpa : ∀ a ∈ feedL c k [50], PartOk c a := fun a ha => partOk_around a (List.mem_filter.1 ha).1
  unfold drvOf at ho
  split at ho
  · rename_i x y hx hy
    split at ho
    · cases ho
    · split at ho
      · simp only [Option.some.injEq, Prod.mk.injEq] at ho
        obtain ⟨rfl, _⟩ := ho
        obtain ⟨j, q, k1, k2, _, _⟩ := partOk_at (hpa x (by rw [hx]; simp))
        exact ⟨j, k1, k2⟩
      · cases ho
  · cases ho

def DrvFrom (c : Circuit) (k : Int) (i : Nat) : Prop := ∀ (v : Nat) b, drvOf c k = some ((v : Int), b) → i ≤ v

set_option maxRecDepth 20000 in
theorem c_pneumaticref22_Driver (c : Circuit) (s : Txt) (hs : Sized c) : Pure Go.Proofs.Tryz.prog GL 93 [c.av, .p (.str s)] (.tup [.p (.int .i64 (drvRes c s).1), .p (.bool (drvRes c s).2), .p (.int .i64 (drvErr c s))]) := by
  refine Pure.of_walk (N := 44) Go.Proofs.Tryz.func93 rfl rfl rfl (by simp) (by first | (simp; done) | simp [*]) ?_
  simp
  refine xcall_pure (c_pneumaticref21_Check c hs) ?_
  by_cases h : checkP c = 0
  · have h2 := check_parts h
    have hno : ¬ checkP c ≠ 0 := by simpa using h
    simp [h]
    refine xcall_pure (c_pneumaticref21_Index c s hs) ?_
    have hix : (idxI c.parts fun p => decide (p.name = s)) = partIx c s := rfl
    rw [hix]
    by_cases hi : partIx c s < 0
    · have he : drvErr c s = 6 := by unfold drvErr; rw [if_neg hno, if_pos hi]
      have hr : drvRes c s = (0, false) := by unfold drvRes; rw [he, if_pos (by simp)]
      rw [he, hr]
      simp [hi, XEndT]
    · obtain ⟨k, q, e1, e2, e3, e4, e5⟩ := partIx_at hi
      rw [e1] at hi
      by_cases hk : q.kind = 1
      · have hd : drvErr c s = if (drvOf c k).isNone then 14 else 0 := by unfold drvErr; rw [if_neg hno, e1, if_neg hi, e5, if_neg (by simpa using hk)]
        have hdr : drvRes c s = if drvErr c s ≠ 0 then (0, false) else (drvOf c k).getD (0, false) := by unfold drvRes; rw [e1]
        simp [e1, hi, e2, e3, Part.enc, hk, -getElem?_pos, List.getElem?_cons_zero, List.getElem?_cons_succ]
        refine XLoop.go [2, 8] [0] 0 [] (fun _ => []) (fun _ (i : Nat) => [(9, .p (.int .i64 i))]) (fun _ _ => []) (fun i => i ≤ c.parts.length ∧ DrvFrom c k i) (fun i => c.parts.length - i) 0 ⟨by omega, fun v b _ => by omega⟩ ?_ ?_
        · simp [e1]
          try decide
        · rintro i ⟨hi2, hno2⟩
          simp
          refine xif_split (fun h3 => ?_) (fun h3 => ?_)
          · simp at h3
            have hS := c_pneumaticref22_Straight c i k h h3
            have hC := c_pneumaticref22_Crossed c i k h h3
            simp
            refine xcall_pure hS ?_
            cases hb1 : drvB c i k [50] [52] with
            | true =>
              have hdo := (drvB_straight h).1 hb1
              have r1 : drvErr c s = 0 := by rw [hd, hdo]; rfl
              have r2 : drvRes c s = ((i : Int), true) := by rw [hdr, r1, if_neg (by simp), hdo]; rfl
              rw [r1, r2]
              simp [XEndT]
            | false =>
              simp
              refine xcall_pure hC ?_
              cases hb2 : drvB c i k [52] [50] with
              | true =>
                have hdo := (drvB_crossed h).1 hb2
                have r1 : drvErr c s = 0 := by rw [hd, hdo]; rfl
                have r2 : drvRes c s = ((i : Int), false) := by rw [hdr, r1, if_neg (by simp), hdo]; rfl
                rw [r1, r2]
                simp [XEndT]
              | false =>
                simp
                refine ⟨wrap_i64 (by omega) (by omega), i + 1, ⟨by omega, fun v b hv => ?_⟩, by omega, ?_⟩
                · have h6 := hno2 v b hv
                  rcases Nat.lt_or_eq_of_le h6 with h7 | h7
                  · exact h7
                  · subst h7
                    cases b with
                    | true => rw [(drvB_straight h).2 hv] at hb1; cases hb1
                    | false => rw [(drvB_crossed h).2 hv] at hb2; cases hb2
                · simp
          · simp at h3
            have hdo : drvOf c k = none := by
              cases hx : drvOf c k with
              | none => rfl
              | some y =>
                obtain ⟨v, b⟩ := y
                obtain ⟨j, rfl, hj⟩ := drvOf_part hx
                have := hno2 j b hx
                omega
            have r1 : drvErr c s = 14 := by rw [hd, hdo]; rfl
            have r2 : drvRes c s = (0, false) := by rw [hdr, r1, if_pos (by simp)]
            rw [r1, r2]
            simp [XEndT]
      · have he : drvErr c s = 1 := by unfold drvErr; rw [if_neg hno, e1, if_neg hi, e5, if_pos hk]
        have hr : drvRes c s = (0, false) := by unfold drvRes; rw [he, if_pos (by simp)]
        rw [he, hr]
        simp [e1, hi, e2, e3, Part.enc, hk, -getElem?_pos, List.getElem?_cons_zero, List.getElem?_cons_succ]
        simp [XEndT]
  · have he : drvErr c s = checkP c := by unfold drvErr; rw [if_pos h]
    have hr : drvRes c s = (0, false) := by unfold drvRes; rw [he, if_pos h]
    rw [he, hr]
    simp [h, XEndT]

end Go.Am
/- Contracts: the rows of parts; chapter 25's reference and program. -/
namespace Go.Am
open Go Go.Proofs Go.Pn

theorem drives_range {c : Circuit} {s : Txt} (h : drvErr c s = 0) : ∃ i : Nat, (drvRes c s).1 = i ∧ i < c.parts.length := by
  have hr : drvRes c s = (drvOf c (partIx c s)).getD (0, false) := by unfold drvRes; rw [h, if_neg (by simp)]
  cases ho : drvOf c (partIx c s) with
  | none =>
    exfalso
    unfold drvErr at h
    by_cases h1 : checkP c ≠ 0
    · rw [if_pos h1] at h; exact h1 h
    · rw [if_neg h1] at h
      by_cases h2 : partIx c s < 0
      · rw [if_pos h2] at h; simp at h
      · rw [if_neg h2] at h
        by_cases h3 : kindAt c (partIx c s) ≠ 1
        · rw [if_pos h3] at h; simp at h
        · rw [if_neg h3, ho] at h; simp at h
  | some y =>
    obtain ⟨v, b⟩ := y
    obtain ⟨i, e1, e2⟩ := drvOf_part ho
    exact ⟨i, by rw [hr, ho]; simpa using e1, e2⟩

def drvT (c : Circuit) (i : Int) (k : Nat) : Bool := (c.parts.take k).any fun q => decide (drvErr c q.name = 0) && decide ((drvRes c q.name).1 = i)
theorem drvT_zero {c : Circuit} {i : Int} : drvT c i 0 = false := rfl
theorem drvT_snoc {c : Circuit} {i : Int} {k : Nat} {q : Part} (e : c.parts[k]? = some q) : drvT c i (k + 1) = (drvT c i k || (decide (drvErr c q.name = 0) && decide ((drvRes c q.name).1 = i))) := by
  unfold drvT
  rw [take_snoc e, List.any_append]
  simp
theorem drvT_all {c : Circuit} {i : Int} {k : Nat} (h : c.parts.length ≤ k) : drvT c i k = drivesB c i := by unfold drvT drivesB; rw [List.take_of_length_le h]

def letterOf (k : Nat) : Txt := (refWords[k]?.getD ([], [])).2
theorem letter_facts {k : Nat} (h : k < 14) : (catRow k)[1]? = some (.p (.str (letterOf k))) ∧ (refRow k)[1]? = some (.str (letterOf k)) ∧ (refRow k).length = 7 := by
  rcases (by omega : k = 0 ∨ k = 1 ∨ k = 2 ∨ k = 3 ∨ k = 4 ∨ k = 5 ∨ k = 6 ∨ k = 7 ∨ k = 8 ∨ k = 9 ∨ k = 10 ∨ k = 11 ∨ k = 12 ∨ k = 13) with rfl|rfl|rfl|rfl|rfl|rfl|rfl|rfl|rfl|rfl|rfl|rfl|rfl|rfl <;> exact ⟨rfl, rfl, rfl⟩
theorem letter_s {k : Nat} (h : k < 14) : letterOf k = [83] ↔ k = 6 ∨ k = 7 := (by decide +kernel : ∀ k, k < 14 → (letterOf k = [83] ↔ k = 6 ∨ k = 7)) k h
theorem base_letter {k : Int} (h : 0 ≤ k ∧ k < 14) : baseOf k = if k = 1 then 0 else if k = 0 then 4 else if letterOf k.toNat = [83] then 3 else 2 := by
  unfold baseOf
  have := letter_s (k := k.toNat) (by omega)
  by_cases h1 : letterOf k.toNat = [83]
  · rw [if_pos h1]
    have h2 := this.1 h1
    rw [if_pos (show k = 6 ∨ k = 7 by omega)]
  · rw [if_neg h1]
    have h2 : ¬ (k = 6 ∨ k = 7) := fun hh => h1 (this.2 (by omega))
    rw [if_neg h2]

theorem c_part_Letter (k : Int) : Pure Go.Proofs.Tryz.prog GL 86 [.p (.int .i64 k)] (.tup [.p (.str (if kindErr k = 0 then letterOf k.toNat else [])), .p (.int .i64 (kindErr k))]) := by
  refine Pure.of_walk (N := 14) Go.Proofs.Tryz.func86 rfl rfl rfl (by simp) (by first | (simp; done) | simp [*]) ?_
  simp
  refine xcall_pure (c_part_find k) ?_
  by_cases hk : 0 ≤ k ∧ k < 14
  · have h3 : kindErr k = 0 := kindErr_ok.2 hk
    have hl := catRow_len (k := k.toNat)
    have h6 := catRow_one (k := k.toNat)
    obtain ⟨f1, f2, f3⟩ := letter_facts (k := k.toNat) (by omega)
    simp [h3, hl, lay_whole]
    refine ⟨by simpa using h6, ?_⟩
    obtain ⟨g1, g2⟩ := List.getElem?_eq_some_iff.1 f1
    simp [XEndT, h3, g2]
  · have h3 : kindErr k = 1 := kindErr_bad hk
    simp [h3, catRow, lay]
    simp [XEndT, h3]

theorem c_pneumaticref25_Level (c : Circuit) (i : Nat) (hs : Sized c) (h : checkP c = 0) (hi : i < c.parts.length) : Pure Go.Proofs.Tryz.prog GL 52 [c.av, .p (.int .i64 i)] (.p (.int .i64 (levelOf c i))) := by
  refine Pure.of_walk (N := 52) Go.Proofs.Tryz.func52 rfl rfl rfl (by simp) (by first | (simp; done) | simp [*]) ?_
  have h2 := check_parts h
  obtain ⟨q, e⟩ := get_lt hi
  have hkat : kindAt c i = q.kind := by simp [kindAt, e, -getElem?_pos]
  have hq := h2.1 q (List.mem_of_getElem? e)
  have hlv : levelOf c i = if baseOf q.kind = 2 then (if drivesB c i then 1 else 2) else baseOf q.kind := by unfold levelOf; rw [hkat]
  rw [hlv]
  simp [e, hi, Part.enc, -getElem?_pos, List.getElem?_cons_zero, List.getElem?_cons_succ]
  by_cases h1 : q.kind = 1
  · have hb : baseOf q.kind = 0 := by unfold baseOf; rw [if_pos h1]
    rw [hb]
    simp [h1, XEndT]
  · by_cases h0 : q.kind = 0
    · have hb : baseOf q.kind = 4 := by unfold baseOf; rw [if_neg h1, if_pos h0]
      rw [hb]
      simp [h0, XEndT]
    · simp [h1, h0]
      refine xcall_pure c_pneumaticref20_Rows ?_
      have hk2 : q.kind.toNat < refRows.length := by simp [refRows]; omega
      obtain ⟨f1, f2, f3⟩ := letter_facts (k := q.kind.toNat) (by omega)
      have hb := base_letter hq
      rw [if_neg h1, if_neg h0] at hb
      have hq0 : 0 ≤ q.kind := hq.1
      have hk3 : q.kind < (refRows.length : Int) := by omega
      simp [refRows_at (show q.kind.toNat < 14 by omega), hk2, f2, f3, hq0, hk3, -getElem?_pos, List.getElem?_cons_zero, List.getElem?_cons_succ]
      by_cases hS : letterOf q.kind.toNat = [83]
      · rw [if_pos hS] at hb
        rw [hb]
        simp [hS, XEndT]
      · rw [if_neg hS] at hb
        rw [hb]
        simp [hS]
        refine XLoop.go [1, 2] [0] 0 [] (fun _ => []) (fun _ (k : Nat) => [(6, .p (.int .i64 k))]) (fun _ _ => []) (fun k => k ≤ c.parts.length ∧ drvT c i k = false) (fun k => c.parts.length - k) 0 ⟨by omega, drvT_zero⟩ ?_ ?_
        · simp
          try decide
        · rintro k ⟨hk3, hno⟩
          have hsn := @drvT_snoc c i k
          simp
          refine xif_split (fun h3 => ?_) (fun h3 => ?_)
          · simp at h3
            obtain ⟨p, ep⟩ := get_lt h3
            have hsn2 := hsn ep
            rw [hno, Bool.false_or] at hsn2
            have hD := c_pneumaticref22_Driver c p.name hs
            simp
            refine XDraw.intro (by kernel_rfl) ?_
            simp [h3, ep, Part.enc, -getElem?_pos, List.getElem?_cons_zero, List.getElem?_cons_succ]
            refine xcall_pure hD ?_
            simp
            refine ⟨.of (by kernel_rfl), ?_⟩
            by_cases he : drvErr c p.name = 0
            · by_cases hv : (drvRes c p.name).1 = i
              · have hdr : drivesB c i = true := by
                  unfold drivesB
                  rw [List.any_eq_true]
                  exact ⟨p, List.mem_of_getElem? ep, by simp [he, hv]⟩
                simp [he, hv, XEndT, hdr]
              · simp [he, hv]
                refine ⟨wrap_i64 (by omega) (by omega), k + 1, ⟨by omega, by rw [hsn2]; simp [hv]⟩, by omega, ?_⟩
                simp
            · simp [he]
              refine ⟨wrap_i64 (by omega) (by omega), k + 1, ⟨by omega, by rw [hsn2]; simp [he]⟩, by omega, ?_⟩
              simp
          · simp at h3
            have hdr : drivesB c i = false := by rw [← drvT_all (k := k) (by omega)]; exact hno
            simp [XEndT, hdr]

theorem c_pneumaticref25_Levels (c : Circuit) (hs : Sized c) (h : checkP c = 0) : Pure Go.Proofs.Tryz.prog GL 54 [c.av] (.p (.lst 1 ((levelsL c).map Int.enc))) := by
  refine Pure.of_walk (N := 19) Go.Proofs.Tryz.func54 rfl rfl rfl (by simp) (by first | (simp; done) | simp [*]) ?_
  have h2 := check_parts h
  simp
  refine XLoop.go [1] [0] 1 [1] (nms [3]) (fun nx (k : Nat) => [(3, .acc nx 1 k), (4, .p (.int .i64 k))]) (fun nx k => [(nx, accB 1 ((levelsT c k).map Int.row))]) (fun k => k ≤ c.parts.length) (fun k => c.parts.length - k) 0 (by omega) ?_ ?_
  · simp [levelsT]
    try decide
  · intro k hk
    have hsn := @levelsT_snoc c k
    have hln := @levelsT_len c k
    have hend : k = c.parts.length → levelsT c k = levelsL c := fun e => by rw [e]; rfl
    simp
    refine xif_split (fun h3 => ?_) (fun h3 => ?_)
    · simp at h3
      have hL := c_pneumaticref25_Level c k hs h h3
      simp
      refine xcall_pure hL ?_
      generalize levelsT c k = A at *
      simp [hln]
      refine ⟨by omega, wrap_i64 (by omega) (by omega), k + 1, by omega, by omega, ?_⟩
      simp [hsn, hln]
      try decide
    · simp at h3
      have hA := hend (by omega)
      have hkk : k = c.parts.length := by omega
      subst hkk
      rw [hA] at hln
      simp [XEndT, hA, hln]

end Go.Am
/- Contracts: the places in order; rows; chapter 25. -/
namespace Go.Am
open Go Go.Proofs Go.Pn

theorem set_rowI {m : List Int} {i : Nat} {b : Int} : (m.map Int.row).set i [.p (.int .i64 b)] = (m.set i b).map Int.row := by
  apply List.ext_getElem?
  intro j
  simp only [List.getElem?_set, List.getElem?_map, List.length_map]
  by_cases h : i = j
  · subst h
    by_cases h2 : i < m.length <;> simp [h2]
  · simp [h]

def kindRows (c : Circuit) (k : Nat) : List Int := (List.range c.parts.length).map fun (i : Nat) => if i < k then baseOf (kindAt c i) else 0
def drvRows (c : Circuit) (k : Nat) : List Int := (List.range c.parts.length).map fun (i : Nat) => if baseOf (kindAt c i) = 2 then (if drvT c i k then 1 else 2) else baseOf (kindAt c i)
theorem kindRows_len {c : Circuit} {k : Nat} : (kindRows c k).length = c.parts.length := by simp [kindRows]
theorem drvRows_len {c : Circuit} {k : Nat} : (drvRows c k).length = c.parts.length := by simp [drvRows]
theorem kindRows_zero {c : Circuit} : kindRows c 0 = List.replicate c.parts.length 0 := by
  apply List.ext_getElem?
  intro j
  by_cases h : j < c.parts.length <;> simp [kindRows, h]
theorem kindRows_set {c : Circuit} {k : Nat} (h : k < c.parts.length) : (kindRows c k).set k (baseOf (kindAt c k)) = kindRows c (k + 1) := by
  apply List.ext_getElem?
  intro j
  rw [List.getElem?_set, kindRows_len]
  by_cases e : k = j
  · subst e
    simp [kindRows, h]
  · rw [if_neg e]
    unfold kindRows
    by_cases hj : j < c.parts.length
    · simp only [List.getElem?_map, List.getElem?_range hj, Option.map_some]
      have : (j < k) ↔ (j < k + 1) := by omega
      simp [this]
    · simp [hj]
theorem kindRows_all {c : Circuit} {k : Nat} (h : c.parts.length ≤ k) : kindRows c k = drvRows c 0 := by
  apply List.ext_getElem?
  intro j
  unfold kindRows drvRows
  by_cases hj : j < c.parts.length
  · simp only [List.getElem?_map, List.getElem?_range hj, Option.map_some]
    rw [if_pos (by omega), drvT_zero]
    by_cases h2 : baseOf (kindAt c j) = 2 <;> simp [h2]
  · simp [hj]
theorem drvRows_at {c : Circuit} {k v : Nat} (h : v < c.parts.length) : (drvRows c k)[v]? = some (if baseOf (kindAt c v) = 2 then (if drvT c v k then 1 else 2) else baseOf (kindAt c v)) := by simp [drvRows, h]
theorem drvRows_same {c : Circuit} {k : Nat} {q : Part} (e : c.parts[k]? = some q) (h : ∀ v : Nat, v < c.parts.length → drvErr c q.name = 0 → (drvRes c q.name).1 = v → (drvRows c k)[v]? ≠ some 2) : drvRows c (k + 1) = drvRows c k := by
  apply List.ext_getElem?
  intro j
  by_cases hj : j < c.parts.length
  · rw [drvRows_at hj, drvRows_at hj, drvT_snoc e]
    by_cases h2 : baseOf (kindAt c j) = 2
    · rw [if_pos h2, if_pos h2]
      by_cases h3 : drvErr c q.name = 0 ∧ (drvRes c q.name).1 = j
      · have h4 := h j hj h3.1 h3.2
        rw [drvRows_at hj, if_pos h2] at h4
        cases hd : drvT c j k with
        | true => simp
        | false => rw [hd] at h4; simp at h4
      · have : (decide (drvErr c q.name = 0) && decide ((drvRes c q.name).1 = (j : Int))) = false := by
          rw [Bool.and_eq_false_iff]
          by_cases h4 : drvErr c q.name = 0
          · exact .inr (by simp; intro h5; exact h3 ⟨h4, h5⟩)
          · exact .inl (by simp [h4])
        rw [this, Bool.or_false]
    · rw [if_neg h2, if_neg h2]
  · rw [List.getElem?_eq_none (by rw [drvRows_len]; omega), List.getElem?_eq_none (by rw [drvRows_len]; omega)]
theorem drvRows_set {c : Circuit} {k v : Nat} {q : Part} (e : c.parts[k]? = some q) (hv : v < c.parts.length) (h0 : drvErr c q.name = 0) (h1 : (drvRes c q.name).1 = v) (h2 : (drvRows c k)[v]? = some 2) : (drvRows c k).set v 1 = drvRows c (k + 1) := by
  rw [drvRows_at hv] at h2
  have hb : baseOf (kindAt c v) = 2 := by
    by_cases hb : baseOf (kindAt c v) = 2
    · exact hb
    · rw [if_neg hb] at h2; simp at h2; exact absurd h2 hb
  apply List.ext_getElem?
  intro j
  rw [List.getElem?_set, drvRows_len]
  by_cases ej : v = j
  · subst ej
    rw [if_pos rfl, if_pos hv, drvRows_at hv, if_pos hb, drvT_snoc e]
    simp [h0, h1]
  · rw [if_neg ej]
    by_cases hj : j < c.parts.length
    · rw [drvRows_at hj, drvRows_at hj, drvT_snoc e]
      have : decide ((drvRes c q.name).1 = (j : Int)) = false := by rw [h1]; simp; omega
      rw [this, Bool.and_false, Bool.or_false]
    · rw [List.getElem?_eq_none (by rw [drvRows_len]; omega), List.getElem?_eq_none (by rw [drvRows_len]; omega)]
theorem drvRows_all {c : Circuit} {k : Nat} (h : c.parts.length ≤ k) : drvRows c k = levelsL c := by
  unfold drvRows levelsL levelsT levelOf
  apply List.map_congr_left
  intro i _
  rw [drvT_all h]

set_option maxRecDepth 20000 in
theorem c_layout_rows (c : Circuit) (hs : Sized c) (h : checkP c = 0) : Pure Go.Proofs.Tryz.prog GL 49 [c.av] (.p (.lst 1 ((levelsL c).map Int.enc))) := by
  refine Pure.of_walk (N := 94) Go.Proofs.Tryz.func49 rfl rfl rfl (by simp) (by first | (simp; done) | simp [*]) ?_
  have h2 := check_parts h
  simp
  refine ⟨by omega, by omega, ?_⟩
  refine XLoop.go [1, 3, 18, 19] [0] 0 [] (fun _ => []) (fun _ (k : Nat) => [(20, .p (.int .i64 k))]) (fun _ k => [(1, some (.cells 1 ((kindRows c k).map Int.row)))]) (fun k => k ≤ c.parts.length) (fun k => c.parts.length - k) 0 (by omega) ?_ ?_
  · simp [kindRows_zero]
    try decide
  · intro k hk
    have hln := @kindRows_len c k
    have hend := @kindRows_all c k
    simp
    refine xif_split (fun h3 => ?_) (fun h3 => ?_)
    · simp at h3
      obtain ⟨q, e⟩ := get_lt h3
      have hkat : kindAt c k = q.kind := by simp [kindAt, e, -getElem?_pos]
      have hq := h2.1 q (List.mem_of_getElem? e)
      have hset := kindRows_set h3
      rw [hkat, base_letter hq] at hset
      have h3k : kindErr q.kind = 0 := kindErr_ok.2 hq
      have hLe := c_part_Letter q.kind
      rw [if_pos h3k, h3k] at hLe
      generalize kindRows c k = A at *
      simp [h3, e, Part.enc, -getElem?_pos, List.getElem?_cons_zero, List.getElem?_cons_succ]
      refine xcall_pure hLe ?_
      simp
      by_cases h1 : q.kind = 1
      · rw [if_pos h1] at hset
        simp [h1, hln, h3]
        refine ⟨wrap_i64 (by omega) (by omega), k + 1, by omega, by omega, ?_⟩
        simp [set_rowI, hset]
        try decide
      · by_cases h0 : q.kind = 0
        · rw [if_neg h1, if_pos h0] at hset
          simp [h0, hln, h3]
          refine ⟨wrap_i64 (by omega) (by omega), k + 1, by omega, by omega, ?_⟩
          simp [set_rowI, hset]
          try decide
        · by_cases hS : letterOf q.kind.toNat = [83]
          · rw [if_neg h1, if_neg h0, if_pos hS] at hset
            simp [h1, h0, hS, hln, h3]
            refine ⟨wrap_i64 (by omega) (by omega), k + 1, by omega, by omega, ?_⟩
            simp [set_rowI, hset]
            try decide
          · rw [if_neg h1, if_neg h0, if_neg hS] at hset
            simp [h1, h0, hS, hln, h3]
            refine ⟨wrap_i64 (by omega) (by omega), k + 1, by omega, by omega, ?_⟩
            simp [set_rowI, hset]
            try decide
    · simp at h3
      have hA := hend (by omega)
      rw [hA]
      simp
      refine XLoop.go [1, 3, 56, 57] [0] 0 [] (fun _ => []) (fun _ (k : Nat) => [(58, .p (.int .i64 k))]) (fun _ k => [(1, some (.cells 1 ((drvRows c k).map Int.row)))]) (fun k => k ≤ c.parts.length) (fun k => c.parts.length - k) 0 (by omega) ?_ ?_
      · simp
        try decide
      · intro k hk
        have hln := @drvRows_len c k
        have hend := @drvRows_all c k
        simp
        refine xif_split (fun h3 => ?_) (fun h3 => ?_)
        · simp at h3
          obtain ⟨q, e⟩ := get_lt h3
          have hD := c_inspect_Driver c q.name hs
          have hsame := drvRows_same e
          have hset := fun v hv h0 h1 h2 => drvRows_set (v := v) e hv h0 h1 h2
          generalize drvRows c k = A at *
          simp [h3, e, Part.enc, -getElem?_pos, List.getElem?_cons_zero, List.getElem?_cons_succ]
          refine xcall_pure hD ?_
          simp
          by_cases he : drvErr c q.name = 0
          · obtain ⟨v, hv, hvl⟩ := drives_range he
            obtain ⟨x, hx⟩ := get_lt (xs := A) (k := v) (by omega)
            by_cases hx2 : x = 2
            · subst hx2
              have hst := hset v hvl he hv hx
              simp [he, hv, hln, hvl, hx, Int.enc, Int.row, -getElem?_pos, List.getElem?_cons_zero, List.getElem?_cons_succ]
              refine ⟨wrap_i64 (by omega) (by omega), k + 1, by omega, by omega, ?_⟩
              simp [set_rowI, hst]
              try decide
            · have hst := hsame (fun v' hv' _ h1' => by
                have : v' = v := by omega
                subst this
                rw [hx]; simp [hx2])
              simp [he, hv, hln, hvl, hx, Int.enc, Int.row, hx2, -getElem?_pos, List.getElem?_cons_zero, List.getElem?_cons_succ]
              refine ⟨wrap_i64 (by omega) (by omega), k + 1, by omega, by omega, ?_⟩
              simp [hst]
              try decide
          · have hst := hsame (fun v' _ h0' _ => absurd h0' he)
            simp [he]
            refine ⟨wrap_i64 (by omega) (by omega), k + 1, by omega, by omega, ?_⟩
            simp [hst]
            try decide
        · simp at h3
          have hA := hend (by omega)
          rw [hA]
          have hlv : (levelsL c).length = c.parts.length := levelsT_len
          simp [XEndT, hlv]
          rw [List.take_of_length_le (by simp [hlv])]
          rfl

end Go.Am
/- Contracts: places in order, and their checks; chapter 25. -/
namespace Go.Am
open Go Go.Proofs Go.Pn


theorem plc_eq {x v : Plc} : (decide (v.row = x.row) && decide (v.col = x.col)) = decide (x = v) := by
  cases x; cases v
  rw [Bool.eq_iff_iff]
  simp
  constructor
  · rintro ⟨h1, h2⟩; exact ⟨h1.symm, h2.symm⟩
  · rintro ⟨h1, h2⟩; exact ⟨h1.symm, h2.symm⟩
@[simp] theorem Plc.eq_iff3 {p q : Plc} : (decide (p.row = q.row) && decide (p.col = q.col)) = decide (p = q) := by
  cases p; cases q; rw [Bool.eq_iff_iff]; simp
theorem c_Idx_Plc (xs : List Plc) (v : Plc) (hl : xs.length < 4611686018427387904) : Pure Go.Proofs.Tryz.prog GL 121 [.p (.lst 2 (xs.map Plc.enc)), Plc.av v] (.p (.int .i64 (idxI xs fun x => decide (x = v)))) := by
  refine Pure.of_walk (N := 19) Go.Proofs.Tryz.func121 rfl rfl rfl (by simp) (by first | (simp; done) | simp [*]) ?_
  simp
  refine XLoop.go [0, 3, 7] [0] 0 [] (fun _ => []) (fun _ (k : Nat) => [(8, .p (.int .i64 k))]) (fun _ _ => []) (fun k => k ≤ xs.length ∧ ∀ (j : Nat) x, j < k → xs[j]? = some x → decide (x = v) = false) (fun k => xs.length - k) 0 ⟨by omega, fun j b h => by omega⟩ ?_ ?_
  · simp
  · rintro k ⟨hk, hp⟩
    simp
    refine xif_split (fun h => ?_) (fun h => ?_)
    · simp at h
      obtain ⟨x, e⟩ := get_lt h
      simp <;> refine XDraw.intro (by kernel_rfl) ?_
      simp [h, e, -getElem?_pos, List.getElem?_cons_zero, List.getElem?_cons_succ]
      refine ⟨.of (by kernel_rfl), ?_⟩
      refine xif_split (fun h2 => ?_) (fun h2 => ?_)
      · have h3 : decide (x = v) = true := by first | grind | (rw [← plc_eq]; exact h2)
        simp [XEndT, idxI_at (q := fun x => decide (x = v)) e h3 hp]
      · have h3 : decide (x = v) = false := by first | grind | (rw [← plc_eq]; exact h2)
        simp
        refine ⟨wrap_i64 (by omega) (by omega), k + 1, ⟨by omega, ?_⟩, by omega, ?_⟩
        · simpa using below_next (P := fun x => decide (x = v) = false) hp e h3
        · simp
    · simp at h
      have hk2 : k = xs.length := by omega
      subst hk2
      simp [XEndT, idxI_none (q := fun x => decide (x = v)) (below_all hp)]

theorem c_Con_Plc (xs : List Plc) (v : Plc) (hl : xs.length < 4611686018427387904) : Pure Go.Proofs.Tryz.prog GL 88 [.p (.lst 2 (xs.map Plc.enc)), Plc.av v] (.p (.bool (decide (v ∈ xs)))) := by
  refine Pure.of_walk (N := 9) Go.Proofs.Tryz.func88 rfl rfl rfl (by simp) (by first | (simp; done) | simp [*]) ?_
  simp
  refine xcall_pure (c_Idx_Plc xs v hl) ?_
  simp [XEndT, idxI_nonneg]


def firstE (f : Nat → Int) : Nat → Int
  | 0 => 0
  | n + 1 => if firstE f n ≠ 0 then firstE f n else f n
theorem firstE_zero {f : Nat → Int} : ∀ {n : Nat}, firstE f n = 0 ↔ ∀ i, i < n → f i = 0
  | 0 => by simp [firstE]
  | n + 1 => by
    unfold firstE
    have ih := firstE_zero (f := f) (n := n)
    by_cases h : firstE f n = 0
    · rw [if_neg (by simpa using h)]
      constructor
      · intro h1 i hi
        rcases Nat.lt_succ_iff_lt_or_eq.1 hi with h2 | h2
        · exact ih.1 h i h2
        · rw [h2]; exact h1
      · intro h1; exact h1 n (by omega)
    · rw [if_pos h]
      constructor
      · intro h1; exact absurd h1 h
      · intro h1; exact absurd (ih.2 fun i hi => h1 i (by omega)) h
theorem firstE_at {f : Nat → Int} {k : Nat} (h0 : firstE f k = 0) (hk : f k ≠ 0) : ∀ {n : Nat}, k < n → firstE f n = f k
  | 0, h => by omega
  | n + 1, h => by
    unfold firstE
    rcases Nat.lt_succ_iff_lt_or_eq.1 h with h2 | h2
    · have := firstE_at h0 hk h2
      rw [if_pos (by rw [this]; exact hk), this]
    · subst h2
      rw [if_neg (by simpa using h0)]
theorem firstE_snoc {f : Nat → Int} {k : Nat} (h0 : firstE f k = 0) (hk : f k = 0) : firstE f (k + 1) = 0 := by
  unfold firstE; rw [if_neg (by simpa using h0), hk]

def plcErr (c : Circuit) (l : List Plc) (i : Nat) : Int := match l[i]? with
  | none => 0
  | some p => if p.row ≠ levelOf c i then 3 else if p.col < 0 ∨ 64 ≤ p.col then 2 else if p ∈ l.take i then 7 else 0
def placedE (c : Circuit) (l : List Plc) : Int := if l.length ≠ c.parts.length then 8 else firstE (plcErr c l) l.length
def layE (c : Circuit) (l : List Plc) : Int := if checkP c ≠ 0 then checkP c else placedE c l

structure LayOk (c : Circuit) (l : List Plc) : Prop where
  len : l.length = c.parts.length
  row : ∀ (i : Nat) p, l[i]? = some p → p.row = levelOf c i
  col : ∀ p ∈ l, 0 ≤ p.col ∧ p.col < 64
  nd : l.Nodup
theorem nodup_take {α : Type} {l : List α} : l.Nodup ↔ ∀ (i : Nat) p, l[i]? = some p → p ∉ l.take i := by
  constructor
  · intro h i p hp hm
    obtain ⟨j, hj⟩ := List.mem_iff_getElem?.1 hm
    have hjl := (List.getElem?_eq_some_iff.1 hj).1
    rw [List.length_take] at hjl
    rw [List.getElem?_take_of_lt (by omega)] at hj
    obtain ⟨hj2, e⟩ := List.getElem?_eq_some_iff.1 hj
    obtain ⟨hi, e2⟩ := List.getElem?_eq_some_iff.1 hp
    exact (List.pairwise_iff_getElem.1 h j i hj2 hi (by omega)) (by rw [e, e2])
  · intro h
    rw [List.Nodup, List.pairwise_iff_getElem]
    intro i j hi hj hij e
    refine h j l[j] (List.getElem?_eq_getElem hj) ?_
    exact List.mem_iff_getElem?.2 ⟨i, by rw [List.getElem?_take_of_lt hij, List.getElem?_eq_getElem hi, e]⟩
theorem placedE_zero {c : Circuit} {l : List Plc} : placedE c l = 0 ↔ LayOk c l := by
  unfold placedE
  by_cases hl : l.length = c.parts.length
  · rw [if_neg (by simpa using hl), firstE_zero]
    constructor
    · intro h
      have h1 : ∀ (i : Nat) p, l[i]? = some p → p.row = levelOf c i ∧ (0 ≤ p.col ∧ p.col < 64) ∧ p ∉ l.take i := fun i p hp => by
        have := h i (List.getElem?_eq_some_iff.1 hp).1
        unfold plcErr at this
        rw [hp] at this
        simp only at this
        by_cases a1 : p.row ≠ levelOf c i
        · rw [if_pos a1] at this; simp at this
        · rw [if_neg a1] at this
          by_cases a2 : p.col < 0 ∨ 64 ≤ p.col
          · rw [if_pos a2] at this; simp at this
          · rw [if_neg a2] at this
            by_cases a3 : p ∈ l.take i
            · rw [if_pos a3] at this; simp at this
            · exact ⟨by simpa using a1, by omega, a3⟩
      refine ⟨hl, fun i p hp => (h1 i p hp).1, fun p hp => ?_, nodup_take.2 fun i p hp => (h1 i p hp).2.2⟩
      obtain ⟨i, hi⟩ := List.mem_iff_getElem?.1 hp
      exact (h1 i p hi).2.1
    · rintro ⟨_, h1, h2, h3⟩ i hi
      have hp := List.getElem?_eq_getElem hi
      have hc := h2 _ (List.getElem_mem hi)
      unfold plcErr
      rw [hp]
      simp only
      rw [if_neg (by simpa using h1 i _ hp), if_neg (by omega), if_neg (nodup_take.1 h3 i _ hp)]
  · rw [if_pos hl]
    constructor
    · intro h; simp at h
    · intro h; exact absurd h.len hl
theorem layE_zero {c : Circuit} {l : List Plc} : layE c l = 0 ↔ checkP c = 0 ∧ LayOk c l := by
  unfold layE
  by_cases h : checkP c = 0
  · rw [if_neg (by simpa using h), placedE_zero]; simp [h]
  · rw [if_pos h]; simp [h]

set_option maxRecDepth 20000 in
theorem c_layout_placed (c : Circuit) (l : List Plc) (hs : Sized c) (h : checkP c = 0) : Pure Go.Proofs.Tryz.prog GL 50 [c.av, .p (.lst 2 (l.map Plc.enc))] (.p (.int .i64 (placedE c l))) := by
  refine Pure.of_walk (N := 47) Go.Proofs.Tryz.func50 rfl rfl rfl (by simp) (by first | (simp; done) | simp [*]) ?_
  have h2 := check_parts h
  have hrw := c_layout_rows c hs h
  have hlv : (levelsL c).length = c.parts.length := levelsT_len
  simp
  by_cases hl : l.length = c.parts.length
  · have hpe : placedE c l = firstE (plcErr c l) l.length := by unfold placedE; rw [if_neg (by simpa using hl)]
    rw [hpe]
    simp [hl]
    refine xcall_pure hrw ?_
    simp
    refine XLoop.go [1, 5, 16, 17] [] 0 [] (fun _ => []) (fun _ (k : Nat) => [(18, .p (.int .i64 k))]) (fun _ _ => []) (fun k => k ≤ l.length ∧ firstE (plcErr c l) k = 0) (fun k => l.length - k) 0 ⟨by omega, rfl⟩ ?_ ?_
    · simp
      try decide
    · rintro k ⟨hk, hp⟩
      simp
      refine xif_split (fun h3 => ?_) (fun h3 => ?_)
      · simp at h3
        obtain ⟨p, e⟩ := get_lt h3
        have hrow := levelsL_at (c := c) (i := k) (by omega)
        have hCon := c_Con_Plc (l.take k) p (by simp; omega)
        have hkl : k < (levelsL c).length := by omega
        have hpe : plcErr c l k = if p.row ≠ levelOf c k then 3 else if p.col < 0 ∨ 64 ≤ p.col then 2 else if p ∈ l.take k then 7 else 0 := by unfold plcErr; rw [e]
        have hbad : plcErr c l k ≠ 0 → firstE (plcErr c l) l.length = plcErr c l k := fun hne => firstE_at hp hne h3
        have hgood : plcErr c l k = 0 → firstE (plcErr c l) (k + 1) = 0 := fun hz => firstE_snoc hp hz
        have hk3 : (k : Int) ≤ l.length := by omega
        simp [h3, e, Plc.enc, -getElem?_pos, List.getElem?_cons_zero, List.getElem?_cons_succ]
        refine XDraw.intro (by kernel_rfl) ?_
        simp [hkl, hrow, Int.enc, -getElem?_pos, List.getElem?_cons_zero, List.getElem?_cons_succ]
        refine ⟨.of (by kernel_rfl), ?_⟩
        by_cases h4 : p.row = levelOf c k
        · rw [if_neg (by simpa using h4)] at hpe
          simp [h4]
          by_cases h5 : p.col < 0 ∨ 64 ≤ p.col
          · rw [if_pos h5] at hpe
            have hb := hbad (by rw [hpe]; simp)
            rw [hb, hpe]
            by_cases h6 : p.col < 0
            · simp [h6, XEndT]
            · have h7 : 64 ≤ p.col := by omega
              simp [h6, h7, XEndT]
          · rw [if_neg h5] at hpe
            have h6 : ¬ p.col < 0 := by omega
            have h7 : ¬ 64 ≤ p.col := by omega
            simp [h6, h7]
            refine XDraw.intro (by kernel_rfl) ?_
            have hCon2 : Pure Go.Proofs.Tryz.prog GL 88 [.p (.lst 2 ((l.map Plc.enc).take k)), .agg [.p (.int .i64 (levelOf c k)), .p (.int .i64 p.col)]] (.p (.bool (decide (p ∈ l.take k)))) := by
              rw [← List.map_take, ← h4]; exact hCon
            simp [hk3]
            refine ⟨by omega, ?_⟩
            refine xcall_pure hCon2 ?_
            simp
            refine ⟨.of (by kernel_rfl), ?_⟩
            by_cases h8 : p ∈ l.take k
            · rw [if_pos h8] at hpe
              have hb := hbad (by rw [hpe]; simp)
              rw [hb, hpe]
              simp [h8, XEndT]
            · rw [if_neg h8] at hpe
              simp [h8]
              refine ⟨wrap_i64 (by omega) (by omega), k + 1, ⟨by omega, hgood hpe⟩, by omega, ?_⟩
              simp
        · rw [if_pos h4] at hpe
          have hb := hbad (by rw [hpe]; simp)
          rw [hb, hpe]
          simp [h4, XEndT]
      · simp at h3
        have hkk : k = l.length := by omega
        rw [hkk] at hp
        simp [XEndT, hp]
  · have hpe : placedE c l = 8 := by unfold placedE; rw [if_pos hl]
    rw [hpe]
    have hl' : ¬ ((l.length : Int) = c.parts.length) := by omega
    simp [hl, hl', XEndT]

theorem c_layout_Check (c : Circuit) (l : List Plc) (hs : Sized c) : Pure Go.Proofs.Tryz.prog GL 25 [c.av, .p (.lst 2 (l.map Plc.enc))] (.p (.int .i64 (layE c l))) := by
  refine Pure.of_walk (N := 14) Go.Proofs.Tryz.func25 rfl rfl rfl (by simp) (by first | (simp; done) | simp [*]) ?_
  simp
  refine xcall_pure (c_circuit_Check c hs) ?_
  by_cases h : checkP c = 0
  · have hp := c_layout_placed c l hs h
    have he : layE c l = placedE c l := if_neg (by simpa using h)
    rw [he]
    simp [h]
    refine xcall_pure hp ?_
    simp [XEndT]
  · have he : layE c l = checkP c := if_pos h
    rw [he]
    simp [h, XEndT]

end Go.Am
/- Contracts: the reference's check of places; rows of parts; places in order; chapter 25. -/
namespace Go.Am
open Go Go.Proofs Go.Pn

set_option maxRecDepth 20000 in
theorem c_pneumaticref25_Check (c : Circuit) (l : List Plc) (hs : Sized c) : Pure Go.Proofs.Tryz.prog GL 29 [c.av, .p (.lst 2 (l.map Plc.enc))] (.p (.int .i64 (layE c l))) := by
  refine Pure.of_walk (N := 66) Go.Proofs.Tryz.func29 rfl rfl rfl (by simp) (by first | (simp; done) | simp [*]) ?_
  simp
  refine xcall_pure (c_pneumaticref21_Check c hs) ?_
  by_cases h : checkP c = 0
  · have h2 := check_parts h
    have hLs := c_pneumaticref25_Levels c hs h
    have hlv : (levelsL c).length = c.parts.length := levelsT_len
    have he : layE c l = placedE c l := if_neg (by simpa using h)
    rw [he]
    simp [h]
    by_cases hl : l.length = c.parts.length
    · have hpe : placedE c l = firstE (plcErr c l) l.length := by unfold placedE; rw [if_neg (by simpa using hl)]
      rw [hpe]
      simp [hl]
      refine xcall_pure hLs ?_
      simp
      refine XLoop.go [1, 6] [0] 0 [] (fun _ => []) (fun _ (k : Nat) => [(7, .p (.int .i64 k))]) (fun _ _ => []) (fun k => k ≤ l.length ∧ firstE (plcErr c l) k = 0) (fun k => l.length - k) 0 ⟨by omega, rfl⟩ ?_ ?_
      · simp
        try decide
      · rintro k ⟨hk, hp⟩
        simp
        refine xif_split (fun h3 => ?_) (fun h3 => ?_)
        · simp at h3
          obtain ⟨p, e⟩ := get_lt h3
          have hrow := levelsL_at (c := c) (i := k) (by omega)
          have hkl : k < (levelsL c).length := by omega
          have hpe : plcErr c l k = if p.row ≠ levelOf c k then 3 else if p.col < 0 ∨ 64 ≤ p.col then 2 else if p ∈ l.take k then 7 else 0 := by unfold plcErr; rw [e]
          have hbad : plcErr c l k ≠ 0 → firstE (plcErr c l) l.length = plcErr c l k := fun hne => firstE_at hp hne h3
          have hgood : plcErr c l k = 0 → firstE (plcErr c l) (k + 1) = 0 := fun hz => firstE_snoc hp hz
          simp
          refine XDraw.intro (by kernel_rfl) ?_
          simp [h3, e, Plc.enc, hkl, hrow, Int.enc, -getElem?_pos, List.getElem?_cons_zero, List.getElem?_cons_succ]
          refine ⟨.of (by kernel_rfl), ?_⟩
          by_cases h4 : p.row = levelOf c k
          · rw [if_neg (by simpa using h4)] at hpe
            by_cases h5 : p.col < 0 ∨ 64 ≤ p.col
            · rw [if_pos h5] at hpe
              have hb := hbad (by rw [hpe]; simp)
              rw [hb, hpe]
              by_cases h6 : p.col < 0
              · simp [h3, e, Plc.enc, h4, h6, -getElem?_pos, List.getElem?_cons_zero, List.getElem?_cons_succ]
                simp [XEndT]
              · have h7 : 64 ≤ p.col := by omega
                simp [h3, e, Plc.enc, h4, h6, h7, -getElem?_pos, List.getElem?_cons_zero, List.getElem?_cons_succ]
                simp [XEndT]
            · rw [if_neg h5] at hpe
              have h6 : ¬ p.col < 0 := by omega
              have h7 : ¬ 64 ≤ p.col := by omega
              simp [h3, e, Plc.enc, h4, h6, h7, -getElem?_pos, List.getElem?_cons_zero, List.getElem?_cons_succ]
              refine XLoop.go [1, 6, 7] [0] 0 [] (fun _ => []) (fun _ (j : Nat) => [(8, .p (.int .i64 j))]) (fun _ _ => []) (fun j => j ≤ k ∧ ∀ (i : Nat) x, i < j → l[i]? = some x → decide (x = p) = false) (fun j => k - j) 0 ⟨by omega, fun i b h => by omega⟩ ?_ ?_
              · simp
                try decide
              · rintro j ⟨hj, hpj⟩
                simp
                refine xif_split (fun h8 => ?_) (fun h8 => ?_)
                · simp at h8
                  obtain ⟨x, ex⟩ := get_lt (xs := l) (k := j) (by omega)
                  have hjl : j < l.length := by omega
                  simp
                  refine XDraw.intro (by kernel_rfl) ?_
                  simp [h3, e, hjl, ex, Plc.enc, -getElem?_pos, List.getElem?_cons_zero, List.getElem?_cons_succ]
                  refine ⟨.of (by kernel_rfl), ?_⟩
                  by_cases hx : x = p
                  · have hmem : p ∈ l.take k := List.mem_iff_getElem?.2 ⟨j, by rw [List.getElem?_take_of_lt (by omega), ex, hx]⟩
                    rw [if_pos hmem] at hpe
                    have hb := hbad (by rw [hpe]; simp)
                    rw [hb, hpe]
                    simp [hx, XEndT]
                  · simp [hx]
                    refine ⟨wrap_i64 (by omega) (by omega), j + 1, ⟨by omega, fun i y hi hy => ?_⟩, by omega, ?_⟩
                    · rcases Nat.lt_succ_iff_lt_or_eq.1 hi with h9 | h9
                      · simpa using hpj i y h9 hy
                      · subst h9
                        rw [ex] at hy; cases hy
                        simpa using hx
                    · simp
                · simp at h8
                  have hnm : p ∉ l.take k := fun hm => by
                    obtain ⟨i, ei⟩ := List.mem_iff_getElem?.1 hm
                    have hil := (List.getElem?_eq_some_iff.1 ei).1
                    rw [List.length_take] at hil
                    rw [List.getElem?_take_of_lt (by omega)] at ei
                    have := hpj i p (by omega) ei
                    simp at this
                  rw [if_neg hnm] at hpe
                  simp
                  refine ⟨wrap_i64 (by omega) (by omega), k + 1, ⟨by omega, hgood hpe⟩, by omega, ?_⟩
                  simp
          · rw [if_pos h4] at hpe
            have hb := hbad (by rw [hpe]; simp)
            rw [hb, hpe]
            simp [h4, XEndT]
        · simp at h3
          have hkk : k = l.length := by omega
          rw [hkk] at hp
          simp [XEndT, hp]
    · have hpe : placedE c l = 8 := by unfold placedE; rw [if_pos hl]
      rw [hpe]
      have hl' : ¬ ((l.length : Int) = c.parts.length) := by omega
      simp [hl, hl', XEndT]
  · have he : layE c l = checkP c := if_pos h
    rw [he]
    simp [h, XEndT]

end Go.Am
/- Contracts: places in order; chapter 25. -/
namespace Go.Am
open Go Go.Proofs Go.Pn

def cntT (c : Circuit) (r : Int) (k : Nat) : Nat := ((levelsT c k).filter fun x => decide (x = r)).length
theorem cntT_le {c : Circuit} {r : Int} {k : Nat} : cntT c r k ≤ k := by
  have h1 := List.length_filter_le (fun x => decide (x = r)) (levelsT c k)
  have h2 := @levelsT_len c k
  unfold cntT; omega
theorem cntT_snoc {c : Circuit} {r : Int} {k : Nat} : cntT c r (k + 1) = cntT c r k + if levelOf c k = r then 1 else 0 := by
  unfold cntT
  rw [levelsT_snoc, List.filter_append, List.length_append]
  by_cases h : levelOf c k = r <;> simp [h]
def placedT (c : Circuit) (k : Nat) : List Plc := (List.range k).map fun (i : Nat) => ⟨levelOf c i, cntT c (levelOf c i) i⟩
def placedL (c : Circuit) : List Plc := placedT c c.parts.length
theorem placedT_len {c : Circuit} {k : Nat} : (placedT c k).length = k := by simp [placedT]
theorem placedT_snoc {c : Circuit} {k : Nat} : placedT c (k + 1) = placedT c k ++ [⟨levelOf c k, cntT c (levelOf c k) k⟩] := by simp [placedT, List.range_succ]
def nxtI (c : Circuit) (k : Nat) : List Int := (List.range 5).map fun (r : Nat) => (cntT c r k : Int)
theorem nxtI_len {c : Circuit} {k : Nat} : (nxtI c k).length = 5 := by simp [nxtI]
theorem nxtI_zero {c : Circuit} : nxtI c 0 = [0, 0, 0, 0, 0] := by simp [nxtI, cntT, levelsT, List.range, List.range.loop]
theorem nxtI_at {c : Circuit} {k r : Nat} (h : r < 5) : (nxtI c k)[r]? = some (cntT c r k : Int) := by simp [nxtI, h]
theorem nxtI_set {c : Circuit} {k r : Nat} (h : r < 5) (hr : levelOf c k = r) : (nxtI c k).set r ((cntT c r k : Int) + 1) = nxtI c (k + 1) := by
  apply List.ext_getElem?
  intro j
  rw [List.getElem?_set, nxtI_len]
  by_cases e : r = j
  · subst e
    rw [if_pos rfl, if_pos h, nxtI_at h, cntT_snoc, if_pos hr]; simp
  · rw [if_neg e]
    by_cases hj : j < 5
    · rw [nxtI_at hj, nxtI_at hj, cntT_snoc, if_neg (by rw [hr]; omega)]; simp
    · rw [List.getElem?_eq_none (by rw [nxtI_len]; omega), List.getElem?_eq_none (by rw [nxtI_len]; omega)]
theorem set_avI {m : List Int} {j : Nat} {v : Int} : (m.map Int.av).set j (.p (.int .i64 v)) = (m.set j v).map Int.av := by
  apply List.ext_getElem?
  intro i
  simp only [List.getElem?_set, List.getElem?_map, List.length_map]
  by_cases h : j = i
  · subst h
    by_cases h2 : j < m.length <;> simp [h2]
  · simp [h]
@[simp] theorem renL_avI {ρ : List Nat} {m : List Int} : renL ρ (m.map Int.av) = some (m.map Int.av) := renL_pure (pureL_map (fun _ => rfl))
theorem level_nat {c : Circuit} {i : Int} : ∃ r : Nat, levelOf c i = r ∧ r < 5 := by
  have := @level_range c i
  exact ⟨(levelOf c i).toNat, by omega, by omega⟩

set_option maxRecDepth 20000 in
theorem c_layout_Place (c : Circuit) (hs : Sized c) : Pure Go.Proofs.Tryz.prog GL 24 [c.av] (.tup [.p (.lst 2 ((if checkP c = 0 then placedL c else []).map Plc.enc)), .p (.int .i64 (checkP c))]) := by
  refine Pure.of_walk (N := 36) Go.Proofs.Tryz.func24 rfl rfl rfl (by simp) (by first | (simp; done) | simp [*]) ?_
  simp
  refine xcall_pure (c_circuit_Check c hs) ?_
  by_cases h : checkP c = 0
  · have h2 := check_parts h
    have hrw := c_layout_rows c hs h
    have hlv : (levelsL c).length = c.parts.length := levelsT_len
    rw [if_pos h]
    simp [h]
    refine xcall_pure hrw ?_
    simp
    refine XLoop.go [5, 15, 16] [0] 1 [2] (nms [6]) (fun nx (k : Nat) => [(6, .acc nx 2 k), (17, .p (.int .i64 k))]) (fun nx k => [(nx, accB 2 ((placedT c k).map Plc.row_)), (1, some (.cells 5 [(nxtI c k).map Int.av]))]) (fun k => k ≤ c.parts.length) (fun k => c.parts.length - k) 0 (by omega) ?_ ?_
    · simp [placedT, nxtI_zero]
      try decide
    · intro k hk
      have hpl := @placedT_len c k
      have hps := @placedT_snoc c k
      have hnl := @nxtI_len c k
      have hend : k = c.parts.length → placedT c k = placedL c := fun e => by rw [e]; rfl
      have hcl := @cntT_le c
      obtain ⟨r, hr, hr5⟩ := @level_nat c k
      have hna := nxtI_at (c := c) (k := k) hr5
      have hns := nxtI_set (k := k) hr5 hr
      have hcr := @cntT_le c r k
      generalize placedT c k = A at *
      generalize nxtI c k = M at *
      simp
      refine xif_split (fun h3 => ?_) (fun h3 => ?_)
      · simp [hlv] at h3
        have hrow := levelsL_at (c := c) (i := k) h3
        have hkl : k < (levelsL c).length := by omega
        rw [hr] at hrow hps
        have hr5' : (r : Int) < 5 := by omega
        simp [hkl, hrow, Int.enc, hna, hr5', -getElem?_pos, List.getElem?_cons_zero, List.getElem?_cons_succ]
        refine ⟨by omega, hpl, wrap_i64 (by omega) (by omega), by omega, wrap_i64 (by omega) (by omega), k + 1, by omega, by omega, ?_⟩
        simp [hps, hpl, set_avI, hns]
        try decide
      · simp [hlv] at h3
        have hA := hend (by omega)
        rw [hA] at hpl
        have h0 := h.symm
        simp [XEndT, hA, hpl, h0]
        try rfl
  · rw [if_neg h]
    simp [h]
    simp [XEndT]

end Go.Am
