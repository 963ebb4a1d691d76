/- Lemmas and contracts for the proof of a statement of this seat. -/
import Derived.Test.YtkofnocfackjiaaGreatDoorZCF
import Derived.Test.YtkofnocfackjiaaGreatDoorZA6
import Derived.Test.YtkofnocfackjiaaGreatDoorZF1
import Derived.Test.YtkofnocfackjiaaGreatDoorZCS
set_option linter.unusedVariables false
set_option linter.unusedSimpArgs false
/- Rows that grew in the cells of an array, seen as pure. -/
namespace Go.Am
open Go Go.Proofs Go.Pn

end Go.Am
/- Contracts: designations: check, order; the reference's; chapter 26. -/
namespace Go.Am
open Go Go.Proofs Go.Pn


theorem c_cmp_Compare_string (a b : Txt) : Pure Tryz.prog GL 102 [.p (.str a), .p (.str b)] (.p (.int .i64 (cmpS a b))) := by
  refine Pure.of_walk (N := 20) Tryz.func102 rfl rfl rfl (by simp) (by first | (simp; done) | simp [*]) ?_
  simp
  refine xcall_pure (c_cmp_isNaN_string a) ?_
  simp
  refine xcall_pure (c_cmp_isNaN_string b) ?_
  simp
  cases h1 : Op.bytesLess a b with
  | true => simp [XEndT, cmpS, h1]
  | false =>
    cases h2 : Op.bytesLess b a with
    | true =>
      have hne : ¬ a = b := fun e => by subst e; rw [bl_irrefl] at h2; cases h2
      simp [XEndT, cmpS, h1, h2, hne]
    | false =>
      obtain rfl := bl_total h1 h2
      simp [XEndT, cmpS, bl_irrefl]

def ltrL : List Txt := [[65], [83], [86], [90]]
theorem c_label_check (x : Lbl) (hl : x.ltr.length < 4611686018427387904) : Pure Tryz.prog GL 45 [x.av] (.p (.int .i64 (chkL x))) := by
  refine Pure.of_walk (N := 27) Tryz.func45 rfl rfl rfl (by simp) (by first | (simp; done) | simp [*]) ?_
  by_cases h1 : x.grp < 0
  · have e : chkL x = 2 := if_pos (.inl h1)
    simp [h1]
    simp [XEndT, e]
  by_cases h2 : 64 < x.grp
  · have e : chkL x = 2 := if_pos (.inr h2)
    simp [h1, h2]
    simp [XEndT, e]
  simp [h1, h2]
  refine xcall_lent ?_
  simp
  refine ⟨_, c_Con_Txt ltrL x.ltr (by simp [ltrL]), rfl, ?_⟩
  by_cases h3 : x.ltr ∈ ltrL
  · by_cases h4 : x.num < 1
    · have e : chkL x = 2 := by unfold chkL; rw [if_neg (by omega), if_neg (fun hn => hn h3), if_pos (.inl h4)]
      simp [h3, h4]
      simp [XEndT, e]
    by_cases h5 : 64 < x.num
    · have e : chkL x = 2 := by unfold chkL; rw [if_neg (by omega), if_neg (fun hn => hn h3), if_pos (.inr h5)]
      simp [h3, h4, h5]
      simp [XEndT, e]
    have e : chkL x = 0 := by unfold chkL; rw [if_neg (by omega), if_neg (fun hn => hn h3), if_neg (by omega)]
    simp [h3, h4, h5]
    simp [XEndT, e]
  · have e : chkL x = 1 := by unfold chkL; rw [if_neg (by omega), if_pos (show ¬ x.ltr ∈ [([65] : Txt), [83], [86], [90]] from h3)]
    simp [h3]
    simp [XEndT, e]

theorem c_label_order (a b : Lbl) : Pure Tryz.prog GL 59 [a.av, b.av] (.p (.int .i64 (cmpLbl a b))) := by
  refine Pure.of_walk (N := 22) Tryz.func59 rfl rfl rfl (by simp) (by first | (simp; done) | simp [*]) ?_
  simp
  refine XDraw.intro (by kernel_rfl) ?_
  simp
  refine xcall_pure (c_cmp_Compare_int a.grp b.grp) ?_
  simp
  refine xcall_pure (c_cmp_Compare_string a.ltr b.ltr) ?_
  simp
  refine xcall_pure (c_cmp_Compare_int a.num b.num) ?_
  simp
  refine xcall_lent ?_
  simp
  refine ⟨_, c_cmp_Or_int [cmpI a.grp b.grp, cmpS a.ltr b.ltr, cmpI a.num b.num] (by simp), rfl, ?_⟩
  simp [XEndT, cmpLbl]
  exact .of (by kernel_rfl)

def cmpE (a b : Lbl) : Int := if chkL a ≠ 0 then chkL a else chkL b
def cmpR (a b : Lbl) : Int := if cmpE a b ≠ 0 then 0 else cmpLbl a b
theorem cmpE_one {a b : Lbl} (h : ¬ chkL a = 0) : cmpE a b = chkL a ∧ cmpR a b = 0 := by
  have e : cmpE a b = chkL a := if_pos h
  exact ⟨e, if_pos (by rw [e]; exact h)⟩
theorem cmpE_two {a b : Lbl} (h : chkL a = 0) (h2 : ¬ chkL b = 0) : cmpE a b = chkL b ∧ cmpR a b = 0 := by
  have e : cmpE a b = chkL b := if_neg (by simpa using h)
  exact ⟨e, if_pos (by rw [e]; exact h2)⟩
theorem cmpE_ok {a b : Lbl} (h : chkL a = 0) (h2 : chkL b = 0) : cmpE a b = 0 ∧ cmpR a b = cmpLbl a b := by
  have e : cmpE a b = 0 := by unfold cmpE; rw [if_neg (by simpa using h), h2]
  exact ⟨e, if_neg (by simpa using e)⟩
theorem c_label_Compare (a b : Lbl) (ha : a.ltr.length < 4611686018427387904) (hb : b.ltr.length < 4611686018427387904) : Pure Tryz.prog GL 28 [a.av, b.av] (.tup [.p (.int .i64 (cmpR a b)), .p (.int .i64 (cmpE a b))]) := by
  refine Pure.of_walk (N := 26) Tryz.func28 rfl rfl rfl (by simp) (by first | (simp; done) | simp [*]) ?_
  simp
  refine XLoop.go [2, 3, 11, 12] [0, 1] 0 [] (fun _ => []) (fun _ (k : Nat) => [(13, .p (.int .i64 k))]) (fun _ _ => [(2, some (.cells 3 [a.row_, b.row_]))]) (fun k => k ≤ 2 ∧ (0 < k → chkL a = 0) ∧ (1 < k → chkL b = 0)) (fun k => 2 - k) 0 ⟨by omega, fun h => by omega, fun h => by omega⟩ ?_ ?_
  · simp
    try decide
  rintro k ⟨hk, hka, hkb⟩
  simp
  match k, hk with
  | 0, _ =>
    simp
    refine xcall_pure (c_label_check a ha) ?_
    by_cases h : chkL a = 0
    · simp [h]
      refine ⟨1, ⟨by omega, fun h => by omega⟩, by omega, ?_⟩
      simp
      try decide
    · obtain ⟨e1, e2⟩ := cmpE_one (b := b) h
      simp [h, XEndT, e1, e2]
  | 1, _ =>
    have h := hka (by omega)
    simp
    refine xcall_pure (c_label_check b hb) ?_
    by_cases h2 : chkL b = 0
    · simp [h2]
      refine ⟨2, ⟨by omega, fun _ => h⟩, by omega, ?_⟩
      simp
      try decide
    · obtain ⟨e1, e2⟩ := cmpE_two h h2
      simp [h, h2, XEndT, e1, e2]
  | 2, _ =>
    have h := hka (by omega)
    have h2 := hkb (by omega)
    simp
    refine xcall_pure (c_label_order a b) ?_
    obtain ⟨e1, e2⟩ := cmpE_ok h h2
    simp [XEndT, h, h2, e1, e2]

set_option maxRecDepth 20000 in
theorem c_pneumaticref26_Check (x : Lbl) : Pure Tryz.prog GL 27 [x.av] (.p (.int .i64 (chkL x))) := by
  refine Pure.of_walk (N := 37) Tryz.func27 rfl rfl rfl (by simp) (by first | (simp; done) | simp [*]) ?_
  by_cases h1 : x.grp < 0
  · have e : chkL x = 2 := if_pos (.inl h1)
    simp [h1]
    simp [XEndT, e]
  by_cases h2 : 64 < x.grp
  · have e : chkL x = 2 := if_pos (.inr h2)
    simp [h1, h2]
    simp [XEndT, e]
  by_cases h3 : x.ltr ∈ ltrL
  · have h3' := h3
    simp [ltrL] at h3'
    by_cases h4 : x.num < 1
    · have e : chkL x = 2 := by unfold chkL; rw [if_neg (by omega), if_neg (fun hn => hn h3), if_pos (.inl h4)]
      rcases h3' with h3' | h3' | h3' | h3' <;> simp [h1, h2, h3', h4] <;> simp [XEndT, e]
    by_cases h5 : 64 < x.num
    · have e : chkL x = 2 := by unfold chkL; rw [if_neg (by omega), if_neg (fun hn => hn h3), if_pos (.inr h5)]
      rcases h3' with h3' | h3' | h3' | h3' <;> simp [h1, h2, h3', h4, h5] <;> simp [XEndT, e]
    have e : chkL x = 0 := by unfold chkL; rw [if_neg (by omega), if_neg (fun hn => hn h3), if_neg (by omega)]
    rcases h3' with h3' | h3' | h3' | h3' <;> simp [h1, h2, h3', h4, h5] <;> simp [XEndT, e]
  · have e : chkL x = 1 := by unfold chkL; rw [if_neg (by omega), if_pos (show ¬ x.ltr ∈ [([65] : Txt), [83], [86], [90]] from h3)]
    have n1 : ¬ x.ltr = [65] := fun h => h3 (by simp [ltrL, h])
    have n2 : ¬ x.ltr = [83] := fun h => h3 (by simp [ltrL, h])
    have n3 : ¬ x.ltr = [86] := fun h => h3 (by simp [ltrL, h])
    have n4 : ¬ x.ltr = [90] := fun h => h3 (by simp [ltrL, h])
    simp [h1, h2, n1, n2, n3, n4]
    simp [XEndT, e]

theorem c_pneumaticref26_Before (a b : Lbl) : Pure Tryz.prog GL 61 [a.av, b.av] (.p (.bool (lblLt a b))) := by
  refine Pure.of_walk (N := 30) Tryz.func61 rfl rfl rfl (by simp) (by first | (simp; done) | simp [*]) ?_
  simp
  by_cases h1 : a.grp = b.grp
  · by_cases h2 : a.ltr = b.ltr
    · simp [h1, h2, XEndT, lblLt]
    · simp [h1, h2, XEndT, lblLt]
  · simp [h1, XEndT, lblLt]

theorem c_pneumaticref26_Compare (a b : Lbl) : Pure Tryz.prog GL 34 [a.av, b.av] (.tup [.p (.int .i64 (cmpR a b)), .p (.int .i64 (cmpE a b))]) := by
  refine Pure.of_walk (N := 24) Tryz.func34 rfl rfl rfl (by simp) (by first | (simp; done) | simp [*]) ?_
  simp
  refine xcall_pure (c_pneumaticref26_Check a) ?_
  by_cases h : chkL a = 0
  · simp [h]
    refine xcall_pure (c_pneumaticref26_Check b) ?_
    by_cases h2 : chkL b = 0
    · obtain ⟨e1, e2⟩ := cmpE_ok h h2
      rw [e1, e2]
      simp [h2]
      refine xcall_pure (c_pneumaticref26_Before a b) ?_
      cases h3 : lblLt a b with
      | true => simp [XEndT, cmpLbl_is, h3]
      | false =>
        simp
        refine xcall_pure (c_pneumaticref26_Before b a) ?_
        cases h4 : lblLt b a with
        | true => simp [XEndT, cmpLbl_is, h3, h4]
        | false => simp [XEndT, cmpLbl_is, h3, h4]
    · obtain ⟨e1, e2⟩ := cmpE_two h h2
      simp [h2, XEndT, e1, e2]
  · obtain ⟨e1, e2⟩ := cmpE_one (b := b) h
    simp [h, XEndT, e1, e2]
end Go.Am
/- Contracts: the reference's numbers and texts of designations; chapter 26. -/
namespace Go.Am
open Go Go.Proofs Go.Pn

def digits10 : Txt := [48, 49, 50, 51, 52, 53, 54, 55, 56, 57]
theorem dig_take {i : Nat} (h : i < 10) : (digits10.drop i).take 1 = [UInt8.ofNat (48 + i)] := (by decide : ∀ i, i < 10 → (digits10.drop i).take 1 = [UInt8.ofNat (48 + i)]) i h

theorem c_pneumaticref12_Digits (n : Nat) (hn : n < 100) : Pure Tryz.prog GL 103 [.p (.int .i64 n)] (.p (.str (digN n))) := by
  refine Pure.of_walk (N := 25) Tryz.func103 rfl rfl rfl (by simp) (by first | (simp; done) | simp [*]) ?_
  obtain ⟨r, hr⟩ : ∃ r, r = n % 10 := ⟨_, rfl⟩
  obtain ⟨q, hq⟩ : ∃ q, q = n / 10 := ⟨_, rfl⟩
  have r0 : (n : Int).tmod 10 = (r : Int) := by rw [Int.tmod_eq_emod_of_nonneg (by omega)]; omega
  have q0 : (n : Int).tdiv 10 = (q : Int) := by rw [Int.tdiv_eq_ediv_of_nonneg (by omega)]; omega
  have r1 : (q : Int).tmod 10 = (q : Int) := by rw [Int.tmod_eq_emod_of_nonneg (by omega)]; omega
  have q1 : (q : Int).tdiv 10 = 0 := by rw [Int.tdiv_eq_ediv_of_nonneg (by omega)]; omega
  have hd := dig_take (i := r) (by omega)
  have hd2 := dig_take (i := q) (by omega)
  have hdig : digN n = if q = 0 then [UInt8.ofNat (48 + r)] else [UInt8.ofNat (48 + q), UInt8.ofNat (48 + r)] := by
    unfold digN
    by_cases h : n < 10
    · rw [if_pos h, if_pos (by omega), hr, Nat.mod_eq_of_lt h]
    · rw [if_neg h, if_neg (by omega), hr, hq]
  simp
  rw [r0]
  refine ⟨wrap_i64 (by omega) (by omega), ?_⟩
  rw [if_pos (by omega)]
  simp
  rw [if_pos (by omega)]
  simp [q0]
  unfold digits10 at hd hd2
  simp [hd]
  simp at hdig
  refine ⟨wrap_i64 (by omega) (by omega), ?_⟩
  refine XLoop.go [] [] 0 [] (fun _ => []) (fun _ (k : Nat) => [(0, .p (.int .i64 ((if k = 0 then q else 0 : Nat) : Int))), (3, .p (.str (if k = 0 then [48 + UInt8.ofNat r] else digN n)))]) (fun _ _ => []) (fun k => k = 0 ∨ (k = 1 ∧ 0 < q)) (fun k => 1 - k) 0 (.inl rfl) ?_ ?_
  · simp
  intro k hk
  rcases hk with rfl | ⟨rfl, h0⟩
  · simp
    refine xif_split (fun h1 => ?_) (fun h1 => ?_)
    · simp at h1
      simp
      rw [r1]
      refine ⟨wrap_i64 (by omega) (by omega), ?_⟩
      rw [if_pos (by omega)]
      simp
      rw [if_pos (by omega)]
      simp [q1, hd2]
      refine ⟨1, ⟨rfl, h1⟩, by omega, ?_⟩
      rw [if_neg (by omega)] at hdig
      simp [hdig]
    · simp at h1
      simp [XEndT, hdig, h1]
  · simp
    simp [XEndT]

end Go.Am
/- Contracts: the reference: acting directly; chapter 26. -/
namespace Go.Am
open Go Go.Proofs Go.Pn

theorem only_len {c : Circuit} {l : List Port} {g : Bool} : (onlyL c l g).length ≤ l.length := List.length_filter_le ..


set_option maxRecDepth 20000 in
theorem c_pneumaticref22_Direct (c : Circuit) (a b : Nat) (hs : Sized c) (h : checkP c = 0) (ha : a < c.parts.length) (hb : b < c.parts.length) : Pure Tryz.prog GL 146 [c.av, .p (.int .i64 a), .p (.int .i64 b)] (.p (.bool (directB c a b))) := by
  refine Pure.of_walk (N := 90) Tryz.func146 rfl rfl rfl (by simp) (by first | (simp; done) | simp [*]) ?_
  have h2 := check_parts h
  have hal := @allP_len c h2.1 (by omega)
  obtain ⟨p, ea⟩ := get_lt ha
  obtain ⟨q, eb⟩ := get_lt hb
  have hka := part_kind h ea
  have hkc : ((p.kind.toNat : Nat) : Int) = p.kind := by omega
  have hAll := c_pneumaticref20_All p.kind.toNat (by omega)
  rw [hkc] at hAll
  have hR : directB c a b = ((decide (p.kind = 1) && (decide (q.kind = 6) && decide (q.name.dropLast = p.name))) || (allN p.kind.toNat).any fun s => takesPart c b ⟨a, s⟩) := by
    unfold directB
    rw [kind_at ea, kind_at eb, name_at ea, name_at eb]
  have hLl : (allN p.kind.toNat).length ≤ 12 := by rw [allN_kind (by omega)]; exact (kindPorts_sorted (by omega)).2.2
  generalize allN p.kind.toNat = L at hAll hR hLl
  generalize directB c a b = R at hR
  by_cases k1 : p.kind = 1
  · by_cases k2 : q.kind = 6
    · obtain ⟨j, p', d, _, _, _, hn, _⟩ := lim_cyl h eb k2
      have hdl : q.name.take (q.name.length - 1) = q.name.dropLast := by rw [List.dropLast_eq_take]
      have hql : 0 < q.name.length := by rw [hn]; simp
      have hqs := hs.names q (List.mem_of_getElem? eb)
      by_cases k3 : q.name.dropLast = p.name
      · have hRt : R = true := by rw [hR, k3]; simp [k1, k2]
        simp
        simp [eb, hb, -getElem?_pos, List.getElem?_cons_zero, List.getElem?_cons_succ]
        refine XDraw.intro (by kernel_rfl) ?_
        simp [ea, eb, ha, hb, k1, k2, -getElem?_pos, List.getElem?_cons_zero, List.getElem?_cons_succ]
        refine ⟨wrap_i64 (by omega) (by omega), ?_⟩
        rw [if_pos (by omega)]
        simp [ea, eb, ha, hb, hdl, k3, -getElem?_pos, List.getElem?_cons_zero, List.getElem?_cons_succ]
        refine ⟨.of (by kernel_rfl), ?_⟩
        simp [XEndT, hRt]
      · have hfst : (decide (p.kind = 1) && (decide (q.kind = 6) && decide (q.name.dropLast = p.name))) = false := by simp [k3]
        simp
        simp [eb, hb, -getElem?_pos, List.getElem?_cons_zero, List.getElem?_cons_succ]
        refine XDraw.intro (by kernel_rfl) ?_
        simp [ea, eb, ha, hb, k1, k2, -getElem?_pos, List.getElem?_cons_zero, List.getElem?_cons_succ]
        refine ⟨wrap_i64 (by omega) (by omega), ?_⟩
        rw [if_pos (by omega)]
        simp [ea, eb, ha, hb, hdl, k3, -getElem?_pos, List.getElem?_cons_zero, List.getElem?_cons_succ]
        refine ⟨.of (by kernel_rfl), ?_⟩
        first
          | refine xcall_pure hAll ?_
          | (rw [k1] at hAll; refine xcall_pure hAll ?_)
        simp
        refine XLoop.go [1, 2, 3, 8] [0] 0 [] (fun _ => []) (fun _ (i : Nat) => [(9, .p (.int .i64 i))]) (fun _ _ => []) (fun i => i ≤ L.length ∧ ∀ (j : Nat) s, j < i → L[j]? = some s → takesPart c b ⟨a, s⟩ = false) (fun i => L.length - i) 0 ⟨by omega, fun j s hj => by omega⟩ ?_ ?_
        · simp
          try decide
        rintro i ⟨hi, hp⟩
        simp
        refine xif_split (fun h3 => ?_) (fun h3 => ?_)
        · simp at h3
          obtain ⟨s, es⟩ := get_lt h3
          have hok : PartOk c ⟨a, s⟩ := ⟨by simp, by simpa using ha⟩
          have hG := c_pneumaticref22_Gives c ⟨a, s⟩ h2.1 hok
          have hA := c_pneumaticref21_Around c ⟨a, s⟩ h2.1 (by omega) (by omega)
          have hO := c_pneumaticref22_only c (around c ⟨a, s⟩) false h2.1 (by have := @around_len c ⟨a, s⟩; omega) partOk_around
          have hnext : takesPart c b ⟨a, s⟩ = false → ∀ (j : Nat) s', j < i + 1 → L[j]? = some s' → takesPart c b ⟨a, s'⟩ = false := fun ht => below_next hp es ht
          have htrue : takesPart c b ⟨a, s⟩ = true → R = true := fun ht => by
            rw [hR]
            have hany : (L.any fun s => takesPart c b ⟨a, s⟩) = true := List.any_eq_true.2 ⟨s, List.mem_of_getElem? es, ht⟩
            rw [hany, Bool.or_true]
          have hol := @only_len c (around c ⟨a, s⟩) false
          have harl := @around_len c ⟨a, s⟩
          simp [h3, es, -getElem?_pos, List.getElem?_cons_zero, List.getElem?_cons_succ]
          refine xcall_pure hG ?_
          cases hg : givesB c ⟨a, s⟩ with
          | false =>
            have ht : takesPart c b ⟨a, s⟩ = false := by unfold takesPart; rw [hg]; rfl
            simp
            refine ⟨wrap_i64 (by omega) (by omega), i + 1, ⟨by omega, hnext ht⟩, by omega, ?_⟩
            simp
            try decide
          | true =>
            simp
            refine XDraw.intro (by kernel_rfl) ?_
            simp
            refine xcall_pure hA ?_
            simp
            refine xcall_pure hO ?_
            simp
            refine ⟨.of (by kernel_rfl), ?_⟩
            have htk : takesPart c b ⟨a, s⟩ = (onlyL c (around c ⟨a, s⟩) false).any fun q => decide (q.part = b) := by unfold takesPart; rw [hg]; rfl
            generalize onlyL c (around c ⟨a, s⟩) false = T at hol htk ⊢
            refine XLoop.go [1, 2, 3, 8, 9, 11] [0, 1] 0 [] (fun _ => []) (fun _ (k : Nat) => [(12, .p (.int .i64 k))]) (fun _ _ => []) (fun k => k ≤ T.length ∧ ∀ (j : Nat) y, j < k → T[j]? = some y → y.part ≠ b) (fun k => T.length - k) 0 ⟨by omega, fun j s hj => by omega⟩ ?_ ?_
            · simp
              try decide
            rintro k ⟨hk, hq⟩
            simp
            refine xif_split (fun h5 => ?_) (fun h5 => ?_)
            · simp at h5
              obtain ⟨y, ey⟩ := get_lt h5
              by_cases hy : y.part = b
              · have ht : takesPart c b ⟨a, s⟩ = true := by rw [htk]; exact List.any_eq_true.2 ⟨y, List.mem_of_getElem? ey, by simpa using hy⟩
                simp [h5, ey, hy, -getElem?_pos, List.getElem?_cons_zero, List.getElem?_cons_succ]
                simp [XEndT, htrue ht]
              · simp [h5, ey, hy, -getElem?_pos, List.getElem?_cons_zero, List.getElem?_cons_succ]
                refine ⟨wrap_i64 (by omega) (by omega), k + 1, ⟨by omega, below_next hq ey hy⟩, by omega, ?_⟩
                simp
                try decide
            · simp at h5
              have ht : takesPart c b ⟨a, s⟩ = false := by
                rw [htk, List.any_eq_false]
                intro y hy
                obtain ⟨j, hj⟩ := List.mem_iff_getElem?.1 hy
                simpa using hq j y (by have := (List.getElem?_eq_some_iff.1 hj).1; omega) hj
              simp
              refine ⟨wrap_i64 (by omega) (by omega), i + 1, ⟨by omega, hnext ht⟩, by omega, ?_⟩
              simp
              try decide
        · simp at h3
          have hRf : R = false := by
            rw [hR, hfst, Bool.false_or, List.any_eq_false]
            intro s hs
            obtain ⟨j, hj⟩ := List.mem_iff_getElem?.1 hs
            rw [hp j s (by have := (List.getElem?_eq_some_iff.1 hj).1; omega) hj]
            simp
          simp [XEndT, hRf]
    · have hfst : (decide (p.kind = 1) && (decide (q.kind = 6) && decide (q.name.dropLast = p.name))) = false := by simp [k2]
      simp
      simp [eb, hb, -getElem?_pos, List.getElem?_cons_zero, List.getElem?_cons_succ]
      refine XDraw.intro (by kernel_rfl) ?_
      simp [ea, eb, ha, hb, k1, k2, -getElem?_pos, List.getElem?_cons_zero, List.getElem?_cons_succ]
      refine ⟨.of (by kernel_rfl), ?_⟩
      first
        | refine xcall_pure hAll ?_
        | (rw [k1] at hAll; refine xcall_pure hAll ?_)
      simp
      refine XLoop.go [1, 2, 3, 8] [0] 0 [] (fun _ => []) (fun _ (i : Nat) => [(9, .p (.int .i64 i))]) (fun _ _ => []) (fun i => i ≤ L.length ∧ ∀ (j : Nat) s, j < i → L[j]? = some s → takesPart c b ⟨a, s⟩ = false) (fun i => L.length - i) 0 ⟨by omega, fun j s hj => by omega⟩ ?_ ?_
      · simp
        try decide
      rintro i ⟨hi, hp⟩
      simp
      refine xif_split (fun h3 => ?_) (fun h3 => ?_)
      · simp at h3
        obtain ⟨s, es⟩ := get_lt h3
        have hok : PartOk c ⟨a, s⟩ := ⟨by simp, by simpa using ha⟩
        have hG := c_pneumaticref22_Gives c ⟨a, s⟩ h2.1 hok
        have hA := c_pneumaticref21_Around c ⟨a, s⟩ h2.1 (by omega) (by omega)
        have hO := c_pneumaticref22_only c (around c ⟨a, s⟩) false h2.1 (by have := @around_len c ⟨a, s⟩; omega) partOk_around
        have hnext : takesPart c b ⟨a, s⟩ = false → ∀ (j : Nat) s', j < i + 1 → L[j]? = some s' → takesPart c b ⟨a, s'⟩ = false := fun ht => below_next hp es ht
        have htrue : takesPart c b ⟨a, s⟩ = true → R = true := fun ht => by
          rw [hR]
          have hany : (L.any fun s => takesPart c b ⟨a, s⟩) = true := List.any_eq_true.2 ⟨s, List.mem_of_getElem? es, ht⟩
          rw [hany, Bool.or_true]
        have hol := @only_len c (around c ⟨a, s⟩) false
        have harl := @around_len c ⟨a, s⟩
        simp [h3, es, -getElem?_pos, List.getElem?_cons_zero, List.getElem?_cons_succ]
        refine xcall_pure hG ?_
        cases hg : givesB c ⟨a, s⟩ with
        | false =>
          have ht : takesPart c b ⟨a, s⟩ = false := by unfold takesPart; rw [hg]; rfl
          simp
          refine ⟨wrap_i64 (by omega) (by omega), i + 1, ⟨by omega, hnext ht⟩, by omega, ?_⟩
          simp
          try decide
        | true =>
          simp
          refine XDraw.intro (by kernel_rfl) ?_
          simp
          refine xcall_pure hA ?_
          simp
          refine xcall_pure hO ?_
          simp
          refine ⟨.of (by kernel_rfl), ?_⟩
          have htk : takesPart c b ⟨a, s⟩ = (onlyL c (around c ⟨a, s⟩) false).any fun q => decide (q.part = b) := by unfold takesPart; rw [hg]; rfl
          generalize onlyL c (around c ⟨a, s⟩) false = T at hol htk ⊢
          refine XLoop.go [1, 2, 3, 8, 9, 11] [0, 1] 0 [] (fun _ => []) (fun _ (k : Nat) => [(12, .p (.int .i64 k))]) (fun _ _ => []) (fun k => k ≤ T.length ∧ ∀ (j : Nat) y, j < k → T[j]? = some y → y.part ≠ b) (fun k => T.length - k) 0 ⟨by omega, fun j s hj => by omega⟩ ?_ ?_
          · simp
            try decide
          rintro k ⟨hk, hq⟩
          simp
          refine xif_split (fun h5 => ?_) (fun h5 => ?_)
          · simp at h5
            obtain ⟨y, ey⟩ := get_lt h5
            by_cases hy : y.part = b
            · have ht : takesPart c b ⟨a, s⟩ = true := by rw [htk]; exact List.any_eq_true.2 ⟨y, List.mem_of_getElem? ey, by simpa using hy⟩
              simp [h5, ey, hy, -getElem?_pos, List.getElem?_cons_zero, List.getElem?_cons_succ]
              simp [XEndT, htrue ht]
            · simp [h5, ey, hy, -getElem?_pos, List.getElem?_cons_zero, List.getElem?_cons_succ]
              refine ⟨wrap_i64 (by omega) (by omega), k + 1, ⟨by omega, below_next hq ey hy⟩, by omega, ?_⟩
              simp
              try decide
          · simp at h5
            have ht : takesPart c b ⟨a, s⟩ = false := by
              rw [htk, List.any_eq_false]
              intro y hy
              obtain ⟨j, hj⟩ := List.mem_iff_getElem?.1 hy
              simpa using hq j y (by have := (List.getElem?_eq_some_iff.1 hj).1; omega) hj
            simp
            refine ⟨wrap_i64 (by omega) (by omega), i + 1, ⟨by omega, hnext ht⟩, by omega, ?_⟩
            simp
            try decide
      · simp at h3
        have hRf : R = false := by
          rw [hR, hfst, Bool.false_or, List.any_eq_false]
          intro s hs
          obtain ⟨j, hj⟩ := List.mem_iff_getElem?.1 hs
          rw [hp j s (by have := (List.getElem?_eq_some_iff.1 hj).1; omega) hj]
          simp
        simp [XEndT, hRf]
  · have hfst : (decide (p.kind = 1) && (decide (q.kind = 6) && decide (q.name.dropLast = p.name))) = false := by simp [k1]
    simp
    simp [eb, hb, -getElem?_pos, List.getElem?_cons_zero, List.getElem?_cons_succ]
    refine XDraw.intro (by kernel_rfl) ?_
    simp [ea, eb, ha, hb, k1, -getElem?_pos, List.getElem?_cons_zero, List.getElem?_cons_succ]
    refine ⟨.of (by kernel_rfl), ?_⟩
    first
      | refine xcall_pure hAll ?_
      | (rw [k1] at hAll; refine xcall_pure hAll ?_)
    simp
    refine XLoop.go [1, 2, 3, 8] [0] 0 [] (fun _ => []) (fun _ (i : Nat) => [(9, .p (.int .i64 i))]) (fun _ _ => []) (fun i => i ≤ L.length ∧ ∀ (j : Nat) s, j < i → L[j]? = some s → takesPart c b ⟨a, s⟩ = false) (fun i => L.length - i) 0 ⟨by omega, fun j s hj => by omega⟩ ?_ ?_
    · simp
      try decide
    rintro i ⟨hi, hp⟩
    simp
    refine xif_split (fun h3 => ?_) (fun h3 => ?_)
    · simp at h3
      obtain ⟨s, es⟩ := get_lt h3
      have hok : PartOk c ⟨a, s⟩ := ⟨by simp, by simpa using ha⟩
      have hG := c_pneumaticref22_Gives c ⟨a, s⟩ h2.1 hok
      have hA := c_pneumaticref21_Around c ⟨a, s⟩ h2.1 (by omega) (by omega)
      have hO := c_pneumaticref22_only c (around c ⟨a, s⟩) false h2.1 (by have := @around_len c ⟨a, s⟩; omega) partOk_around
      have hnext : takesPart c b ⟨a, s⟩ = false → ∀ (j : Nat) s', j < i + 1 → L[j]? = some s' → takesPart c b ⟨a, s'⟩ = false := fun ht => below_next hp es ht
      have htrue : takesPart c b ⟨a, s⟩ = true → R = true := fun ht => by
        rw [hR]
        have hany : (L.any fun s => takesPart c b ⟨a, s⟩) = true := List.any_eq_true.2 ⟨s, List.mem_of_getElem? es, ht⟩
        rw [hany, Bool.or_true]
      have hol := @only_len c (around c ⟨a, s⟩) false
      have harl := @around_len c ⟨a, s⟩
      simp [h3, es, -getElem?_pos, List.getElem?_cons_zero, List.getElem?_cons_succ]
      refine xcall_pure hG ?_
      cases hg : givesB c ⟨a, s⟩ with
      | false =>
        have ht : takesPart c b ⟨a, s⟩ = false := by unfold takesPart; rw [hg]; rfl
        simp
        refine ⟨wrap_i64 (by omega) (by omega), i + 1, ⟨by omega, hnext ht⟩, by omega, ?_⟩
        simp
        try decide
      | true =>
        simp
        refine XDraw.intro (by kernel_rfl) ?_
        simp
        refine xcall_pure hA ?_
        simp
        refine xcall_pure hO ?_
        simp
        refine ⟨.of (by kernel_rfl), ?_⟩
        have htk : takesPart c b ⟨a, s⟩ = (onlyL c (around c ⟨a, s⟩) false).any fun q => decide (q.part = b) := by unfold takesPart; rw [hg]; rfl
        generalize onlyL c (around c ⟨a, s⟩) false = T at hol htk ⊢
        refine XLoop.go [1, 2, 3, 8, 9, 11] [0, 1] 0 [] (fun _ => []) (fun _ (k : Nat) => [(12, .p (.int .i64 k))]) (fun _ _ => []) (fun k => k ≤ T.length ∧ ∀ (j : Nat) y, j < k → T[j]? = some y → y.part ≠ b) (fun k => T.length - k) 0 ⟨by omega, fun j s hj => by omega⟩ ?_ ?_
        · simp
          try decide
        rintro k ⟨hk, hq⟩
        simp
        refine xif_split (fun h5 => ?_) (fun h5 => ?_)
        · simp at h5
          obtain ⟨y, ey⟩ := get_lt h5
          by_cases hy : y.part = b
          · have ht : takesPart c b ⟨a, s⟩ = true := by rw [htk]; exact List.any_eq_true.2 ⟨y, List.mem_of_getElem? ey, by simpa using hy⟩
            simp [h5, ey, hy, -getElem?_pos, List.getElem?_cons_zero, List.getElem?_cons_succ]
            simp [XEndT, htrue ht]
          · simp [h5, ey, hy, -getElem?_pos, List.getElem?_cons_zero, List.getElem?_cons_succ]
            refine ⟨wrap_i64 (by omega) (by omega), k + 1, ⟨by omega, below_next hq ey hy⟩, by omega, ?_⟩
            simp
            try decide
        · simp at h5
          have ht : takesPart c b ⟨a, s⟩ = false := by
            rw [htk, List.any_eq_false]
            intro y hy
            obtain ⟨j, hj⟩ := List.mem_iff_getElem?.1 hy
            simpa using hq j y (by have := (List.getElem?_eq_some_iff.1 hj).1; omega) hj
          simp
          refine ⟨wrap_i64 (by omega) (by omega), i + 1, ⟨by omega, hnext ht⟩, by omega, ?_⟩
          simp
          try decide
    · simp at h3
      have hRf : R = false := by
        rw [hR, hfst, Bool.false_or, List.any_eq_false]
        intro s hs
        obtain ⟨j, hj⟩ := List.mem_iff_getElem?.1 hs
        rw [hp j s (by have := (List.getElem?_eq_some_iff.1 hj).1; omega) hj]
        simp
      simp [XEndT, hRf]
end Go.Am
/- Contracts: the reference: the groups; chapter 26. -/
namespace Go.Am
open Go Go.Proofs Go.Pn

def g1 (c : Circuit) (k i : Nat) : Int := if i < k then (match c.parts[i]? with
  | some p => if p.kind = 1 then cylN c (i + 1) else if p.kind = 0 then 0 else -1
  | none => -1) else 0
def g2 (c : Circuit) (k i : Nat) : Int := if i < k then grpK c c.parts.length i else g1 c c.parts.length i
def L1 (c : Circuit) (k : Nat) : List Int := (List.range c.parts.length).map (g1 c k)
def L2 (c : Circuit) (k : Nat) : List Int := (List.range c.parts.length).map (g2 c k)
theorem L1_len {c : Circuit} {k : Nat} : (L1 c k).length = c.parts.length := by simp [L1]
theorem L2_len {c : Circuit} {k : Nat} : (L2 c k).length = c.parts.length := by simp [L2]
theorem L2_at {c : Circuit} {k i : Nat} (h : i < c.parts.length) : (L2 c k)[i]? = some (g2 c k i) := by simp [L2, h]
theorem L1_zero {c : Circuit} : L1 c 0 = List.replicate c.parts.length 0 := by
  unfold L1
  rw [List.eq_replicate_iff]
  refine ⟨by simp, fun x hx => ?_⟩
  obtain ⟨i, _, rfl⟩ := List.mem_map.1 hx
  simp [g1]
theorem L1_step {c : Circuit} {k : Nat} {p : Part} (e : c.parts[k]? = some p) : L1 c (k + 1) = (L1 c k).set k (if p.kind = 1 then cylN c (k + 1) else if p.kind = 0 then 0 else -1) := by
  have hk := (List.getElem?_eq_some_iff.1 e).1
  apply List.ext_getElem?
  intro i
  rw [List.getElem?_set, L1_len]
  by_cases hi : i < c.parts.length
  · have a : ∀ m, (L1 c m)[i]? = some (g1 c m i) := fun m => by simp [L1, hi]
    rw [a, a]
    by_cases hik : k = i
    · subst hik
      rw [if_pos rfl, if_pos hk]
      unfold g1
      rw [if_pos (by omega), e]
    · rw [if_neg hik]
      unfold g1
      by_cases h2 : i < k
      · rw [if_pos (by omega), if_pos h2]
      · rw [if_neg (by omega), if_neg h2]
  · rw [List.getElem?_eq_none (by rw [L1_len]; omega), if_neg (by omega), List.getElem?_eq_none (by rw [L1_len]; omega)]
theorem L1_end {c : Circuit} : L1 c c.parts.length = L2 c 0 := by
  unfold L1 L2
  apply List.map_congr_left
  intro i _
  unfold g2
  rw [if_neg (by omega)]
theorem L2_end {c : Circuit} : L2 c c.parts.length = firstT c c.parts.length c.parts.length := by
  unfold L2 firstT
  apply List.map_congr_left
  intro i hi
  rw [List.mem_range] at hi
  unfold g2
  rw [if_pos hi]
theorem g1_grp {c : Circuit} {i : Nat} {p : Part} (e : c.parts[i]? = some p) (h6 : p.kind ≠ 6) : g1 c c.parts.length i = grpK c c.parts.length i := by
  have hi := (List.getElem?_eq_some_iff.1 e).1
  unfold g1 grpK
  rw [if_pos hi, e]
  simp only [hi, if_true]
  by_cases h1 : p.kind = 1
  · rw [if_pos h1, if_pos h1]
  · rw [if_neg h1, if_neg h1]
    by_cases h0 : p.kind = 0
    · rw [if_pos h0, if_pos h0]
    · rw [if_neg h0, if_neg h0, if_neg h6]
theorem g2_cyl {c : Circuit} {k j : Nat} {p : Part} (e : c.parts[j]? = some p) (h1 : p.kind = 1) : g2 c k j = cylN c (j + 1) := by
  have hj := (List.getElem?_eq_some_iff.1 e).1
  have a : grpK c c.parts.length j = cylN c (j + 1) := by unfold grpK; rw [e]; simp [h1, hj]
  unfold g2
  split
  · exact a
  · rw [g1_grp e (by omega), a]
theorem L2_skip {c : Circuit} {k : Nat} {p : Part} (e : c.parts[k]? = some p) (h6 : p.kind ≠ 6) : L2 c (k + 1) = L2 c k := by
  unfold L2
  apply List.map_congr_left
  intro i _
  unfold g2
  by_cases hik : i = k
  · subst hik
    rw [if_pos (by omega), if_neg (by omega), g1_grp e h6]
  · by_cases h2 : i < k
    · rw [if_pos (by omega), if_pos h2]
    · rw [if_neg (by omega), if_neg h2]
theorem L2_lim {c : Circuit} {k j : Nat} {p : Part} (e : c.parts[k]? = some p) (h6 : p.kind = 6) (hc : cylOf c p.name = j) (hj : j < c.parts.length) : L2 c (k + 1) = (L2 c k).set k (cylN c (j + 1)) := by
  have hk := (List.getElem?_eq_some_iff.1 e).1
  apply List.ext_getElem?
  intro i
  rw [List.getElem?_set, L2_len]
  by_cases hi : i < c.parts.length
  · rw [L2_at hi, L2_at hi]
    by_cases hik : k = i
    · subst hik
      rw [if_pos rfl, if_pos hk]
      unfold g2 grpK
      rw [if_pos (by omega), e]
      simp only
      rw [if_neg (by omega), if_neg (by omega), if_pos h6, hc, if_pos (by omega), Int.toNat_natCast]
    · rw [if_neg hik]
      unfold g2
      by_cases h2 : i < k
      · rw [if_pos (by omega), if_pos h2]
      · rw [if_neg (by omega), if_neg h2]
  · rw [List.getElem?_eq_none (by rw [L2_len]; omega), if_neg (by omega), List.getElem?_eq_none (by rw [L2_len]; omega)]
theorem set_rowG {l : List Int} {i : Nat} {x : Int} : (l.map Int.row).set i [.p (.int .i64 x)] = (l.set i x).map Int.row := by rw [List.map_set]

set_option maxRecDepth 20000 in
theorem c_pneumaticref26_first (c : Circuit) (hs : Sized c) (h : checkP c = 0) : Pure Tryz.prog GL 96 [c.av] (.p (.lst 1 ((firstT c c.parts.length c.parts.length).map Int.enc))) := by
  refine Pure.of_walk (N := 75) Tryz.func96 rfl rfl rfl (by simp) (by first | (simp; done) | simp [*]) ?_
  have h2 := check_parts h
  simp
  refine ⟨by omega, by omega, ?_⟩
  have hz : List.replicate c.parts.length [AV.p (PV.int IntKind.i64 0)] = (L1 c 0).map Int.row := by rw [L1_zero]; simp
  rw [hz]
  refine XLoop.go [1, 3] [0] 0 [] (fun _ => []) (fun _ (k : Nat) => [(4, .p (.int .i64 (cylN c k))), (5, .p (.int .i64 k))]) (fun _ k => [(1, some (.cells 1 ((L1 c k).map Int.row)))]) (fun k => k ≤ c.parts.length) (fun k => c.parts.length - k) 0 (by omega) ?_ ?_
  · simp [cylN]
    try decide
  · intro k hk
    have hl := @L1_len c k
    have hst := fun {p : Part} (e : c.parts[k]? = some p) => L1_step e
    have hcs := fun {p : Part} (e : c.parts[k]? = some p) => cylN_step e
    have hle := @cylN_le c k
    have hpos := @cylN_pos c k
    simp
    refine xif_split (fun h3 => ?_) (fun h3 => ?_)
    · simp at h3
      obtain ⟨p, e⟩ := get_lt h3
      have hst := hst e
      have hcs := hcs e
      obtain ⟨r, er⟩ := get_lt (show k < (L1 c k).length by omega)
      by_cases k1 : p.kind = 1
      · rw [if_pos k1] at hst hcs
        simp [h3, e, k1, hl, er, -getElem?_pos, List.getElem?_cons_zero, List.getElem?_cons_succ]
        refine ⟨wrap_i64 (by omega) (by omega), wrap_i64 (by omega) (by omega), k + 1, by omega, by omega, by omega, ?_⟩
        rw [set_rowG, hst, hcs]
        simp
        try decide
      · by_cases k0 : p.kind = 0
        · rw [if_neg k1, if_pos k0] at hst
          rw [if_neg k1] at hcs
          simp [h3, e, k1, k0, hl, er, -getElem?_pos, List.getElem?_cons_zero, List.getElem?_cons_succ]
          refine ⟨wrap_i64 (by omega) (by omega), k + 1, by omega, by omega, by omega, ?_⟩
          rw [set_rowG, hst]
          first
            | exact wknR_refl _
            | (simp; try decide)
        · rw [if_neg k1, if_neg k0] at hst
          rw [if_neg k1] at hcs
          simp [h3, e, k1, k0, hl, er, -getElem?_pos, List.getElem?_cons_zero, List.getElem?_cons_succ]
          refine ⟨wrap_i64 (by omega) (by omega), k + 1, by omega, by omega, by omega, ?_⟩
          rw [set_rowG, hst]
          first
            | exact wknR_refl _
            | (simp; try decide)
    · simp at h3
      have hk2 : k = c.parts.length := by omega
      subst hk2
      rw [L1_end]
      simp
      refine XLoop.go [1, 3] [0] 0 [] (fun _ => []) (fun _ (k : Nat) => [(6, .p (.int .i64 k))]) (fun _ k => [(1, some (.cells 1 ((L2 c k).map Int.row)))]) (fun k => k ≤ c.parts.length) (fun k => c.parts.length - k) 0 (by omega) ?_ ?_
      · simp
        try decide
      · intro k hk
        have hl := @L2_len c k
        simp
        refine xif_split (fun h3 => ?_) (fun h3 => ?_)
        · simp at h3
          obtain ⟨p, e⟩ := get_lt h3
          have hps := hs.names p (List.mem_of_getElem? e)
          by_cases k6 : p.kind = 6
          · obtain ⟨j, q, d, hco, ej, kj, hn, _⟩ := lim_cyl h e k6
            have hj := (List.getElem?_eq_some_iff.1 ej).1
            have hst := L2_lim e k6 hco hj
            have hgj : (L2 c k)[j]? = some (cylN c (j + 1)) := by rw [L2_at hj, g2_cyl ej kj]
            have hdl : p.name.take (p.name.length - 1) = p.name.dropLast := by rw [List.dropLast_eq_take]
            have hpl : 0 < p.name.length := by rw [hn]; simp
            have hI := c_pneumaticref21_Index c p.name.dropLast hs
            rw [show (idxI c.parts fun q => decide (q.name = p.name.dropLast)) = (j : Int) from hco] at hI
            obtain ⟨r, er⟩ := get_lt (show k < (L2 c k).length by omega)
            simp [h3, e, k6, -getElem?_pos, List.getElem?_cons_zero, List.getElem?_cons_succ]
            refine XDraw.intro (by kernel_rfl) ?_
            simp
            refine ⟨wrap_i64 (by omega) (by omega), ?_⟩
            rw [if_pos (by omega)]
            simp [hdl]
            refine xcall_pure hI ?_
            simp [h3, e, hl, er, hgj, hj, -getElem?_pos, List.getElem?_cons_zero, List.getElem?_cons_succ]
            refine ⟨.of (by kernel_rfl), wrap_i64 (by omega) (by omega), k + 1, by omega, by omega, by omega, ?_⟩
            rw [set_rowG, hst]
            exact wknR_refl _
          · have hst := L2_skip e k6
            simp [h3, e, k6, -getElem?_pos, List.getElem?_cons_zero, List.getElem?_cons_succ]
            refine ⟨wrap_i64 (by omega) (by omega), k + 1, by omega, by omega, by omega, ?_⟩
            rw [hst]
            first
              | exact wknR_refl _
              | (simp; try decide)
        · simp at h3
          have hk2 : k = c.parts.length := by omega
          subst hk2
          rw [L2_end]
          simp [XEndT, firstT_len]
          rw [List.take_of_length_le (by simp [firstT_len])]
          rfl

def dirK (c : Circuit) (a k : Nat) : List Int := ((List.range k).filter (directB c a)).map fun (b : Nat) => (b : Int)
theorem dirK_step {c : Circuit} {a k : Nat} : dirK c a (k + 1) = dirK c a k ++ if directB c a k then [(k : Int)] else [] := by
  unfold dirK
  rw [List.range_succ, List.filter_append, List.map_append]
  cases h : directB c a k <;> simp [h]
def nextK (c : Circuit) (g : List Int) (a : Nat) : List Int := nextT (fun i => dirK c i c.parts.length) g a
def curV (c : Circuit) (g : List Int) (a k : Nat) : Int := if gAt g a = -1 then minG g (dirK c a k) (-1) else gAt g a
def curG (c : Circuit) (g : List Int) (a k : Nat) : List Int := (nextK c g a).set a (curV c g a k)
theorem nextK_len {c : Circuit} {g : List Int} {a : Nat} : (nextK c g a).length = g.length := nextT_len
theorem curG_len {c : Circuit} {g : List Int} {a k : Nat} : (curG c g a k).length = g.length := by simp [curG, nextK_len]
theorem curG_at {c : Circuit} {g : List Int} {a k : Nat} (h : a < g.length) : (curG c g a k)[a]? = some (curV c g a k) := by
  unfold curG
  rw [List.getElem?_set, nextK_len, if_pos rfl, if_pos h]
theorem set_same {l : List Int} {i : Nat} {x : Int} (e : l[i]? = some x) : l.set i x = l := by
  apply List.ext_getElem?
  intro j
  rw [List.getElem?_set]
  by_cases h : i = j
  · subst h; rw [if_pos rfl, if_pos (List.getElem?_eq_some_iff.1 e).1, e]
  · rw [if_neg h]
theorem curG_zero {c : Circuit} {g : List Int} {a : Nat} (h : a < g.length) : curG c g a 0 = nextK c g a := by
  refine set_same ?_
  unfold nextK
  rw [nextT_at h, if_neg (by omega)]
  unfold curV
  split
  · rename_i h1; rw [h1]; rfl
  · rfl
theorem curG_end {c : Circuit} {g : List Int} {a : Nat} (h : a < g.length) : curG c g a c.parts.length = nextK c g (a + 1) := by
  unfold nextK
  rw [nextT_step h]
  unfold curG curV nextK
  by_cases h1 : gAt g a = -1
  · rw [if_pos h1, if_pos h1]
  · rw [if_neg h1, if_neg h1]
    refine set_same ?_
    rw [nextT_at h, if_neg (by omega)]
theorem curV_step {c : Circuit} {g : List Int} {a k : Nat} : curV c g a (k + 1) = if gAt g a = -1 ∧ directB c a k = true ∧ 1 ≤ gAt g k ∧ (curV c g a k = -1 ∨ gAt g k < curV c g a k) then gAt g k else curV c g a k := by
  unfold curV
  by_cases h1 : gAt g a = -1
  · rw [if_pos h1, if_pos h1, dirK_step]
    cases h2 : directB c a k with
    | true =>
      rw [if_pos rfl, minG_snoc]
      by_cases h3 : 1 ≤ gAt g k ∧ (minG g (dirK c a k) (-1) = -1 ∨ gAt g k < minG g (dirK c a k) (-1))
      · rw [if_pos h3, if_pos ⟨h1, rfl, h3⟩]
      · rw [if_neg h3, if_neg (fun h => h3 h.2.2)]
    | false =>
      rw [if_neg (by simp), if_neg (fun h => by simp at h), List.append_nil]
  · rw [if_neg h1, if_neg h1, if_neg (fun h => h1 h.1)]
theorem curV_lo {c : Circuit} {g : List Int} {a k : Nat} (hg : ∀ x ∈ g, -1 ≤ x) (ha : a < g.length) : -1 ≤ curV c g a k := by
  unfold curV
  split
  · by_cases h : minG g (dirK c a k) (-1) = -1
    · omega
    · have := minG_one h; omega
  · obtain ⟨x, e⟩ := get_lt ha
    rw [gAt_nat e]
    exact hg x (List.mem_of_getElem? e)
theorem curG_set {c : Circuit} {g : List Int} {a k : Nat} (h : curV c g a (k + 1) = gAt g k) : curG c g a (k + 1) = (curG c g a k).set a (gAt g k) := by
  unfold curG
  rw [List.set_set, h]
theorem curG_keep {c : Circuit} {g : List Int} {a k : Nat} (h : curV c g a (k + 1) = curV c g a k) : curG c g a (k + 1) = curG c g a k := by
  unfold curG; rw [h]
theorem curG_ne {c : Circuit} {g : List Int} {a k : Nat} (ha : a < g.length) (h1 : gAt g a = -1) (h2 : 1 ≤ curV c g a k) : curG c g a k ≠ g := by
  intro h
  have h3 := @curG_at c g a k ha
  rw [h] at h3
  rw [gAt_nat h3] at h1
  omega
theorem nextK_dir {c : Circuit} (h : checkP c = 0) {g : List Int} : nextK c g c.parts.length = nextT (fun i => dirL c (i : Int)) g c.parts.length := by
  refine nextT_congr fun i hi k => ?_
  unfold dirK
  rw [List.mem_map]
  constructor
  · rintro ⟨b, hb, rfl⟩
    rw [List.mem_filter, List.mem_range] at hb
    exact (direct_is h hi hb.1).1 hb.2
  · intro hk
    obtain ⟨h1, h2⟩ := dirL_range (by omega) hk
    obtain ⟨b, rfl⟩ : ∃ b : Nat, k = b := ⟨k.toNat, by omega⟩
    have hb : b < c.parts.length := by omega
    exact ⟨b, List.mem_filter.2 ⟨List.mem_range.2 hb, (direct_is h hi hb).2 hk⟩, rfl⟩

set_option maxRecDepth 20000 in
theorem g_round (c : Circuit) (g : List Int) (hs : Sized c) (h : checkP c = 0) (hl : g.length = c.parts.length) (hg : ∀ x ∈ g, -1 ≤ x) (h0 : 0 < c.parts.length) (s : Store) (nx : Nat) :
    Gives Tryz.prog GL 97 [c.av, .p (.lst 1 (g.map Int.enc))] s nx (.tup [.ref nx 1 0 g.length none, .p (.bool (decide (nextK c g c.parts.length ≠ g)))]) [] [(nx, some (.cells 1 ((nextK c g c.parts.length).map Int.row)))] (nx + 1) := by
  refine Gives.mk_walkK (N := 70) (args := [c.av, .p (.lst 1 (g.map Int.enc))]) [] [] [] [(0, some (.cells 1 ((nextK c g c.parts.length).map Int.row)))] 0 1 (.tup [.ref 0 1 0 g.length none, .p (.bool (decide (nextK c g c.parts.length ≠ g)))]) (nms [6]) (up1 := [(nx, some (.cells 1 ((nextK c g c.parts.length).map Int.row)))]) Tryz.func97 rfl rfl rfl (by simp) rfl (by simp) (by simp) (by simp) (by simp) (by simp) rfl ?_
  have h2 := check_parts h
  have hg0 : ¬ g = [] := fun e => by rw [e] at hl; simp at hl; omega
  have hz : nextK c g 0 = g := nextT_zero
  have hgl : 0 < g.length := by omega
  simp
  refine ⟨by omega, ?_⟩
  simp [hgl]
  rw [show List.map ((fun x => List.map AV.p x) ∘ Int.enc) g = (nextK c g 0).map Int.row from by rw [hz]; rfl]
  refine XLoop.go [1, 2, 6] [0] 0 [] (fun _ => []) (fun _ (a : Nat) => [(7, .p (.bool (decide (nextK c g a ≠ g)))), (8, .p (.int .i64 a))]) (fun _ a => [(2, some (.cells 1 ((nextK c g a).map Int.row)))]) (fun a => a ≤ g.length) (fun a => g.length - a) 0 (by omega) ?_ ?_
  · simp [hz]
    try decide
  intro a ha
  have hnl := @nextK_len c g a
  simp
  refine xif_split (fun h3 => ?_) (fun h3 => ?_)
  · simp at h3
    have hac : a < c.parts.length := by omega
    rw [← curG_zero (c := c) h3]
    simp
    refine XLoop.go [1, 2, 6, 8] [0] 0 [] (fun _ => []) (fun _ (k : Nat) => [(7, .p (.bool (decide (curG c g a k ≠ g)))), (9, .p (.int .i64 k))]) (fun _ k => [(2, some (.cells 1 ((curG c g a k).map Int.row)))]) (fun k => k ≤ g.length) (fun k => g.length - k) 0 (by omega) ?_ ?_
    · simp
      try decide
    intro k hk
    have hcl := @curG_len c g a k
    simp
    refine xif_split (fun h5 => ?_) (fun h5 => ?_)
    · simp at h5
      have hkc : k < c.parts.length := by omega
      obtain ⟨x, ex⟩ := get_lt h3
      obtain ⟨y, ey⟩ := get_lt h5
      have ez := @curG_at c g a k h3
      have hD := c_pneumaticref22_Direct c a k hs h hac hkc
      have hx := gAt_nat ex
      have hy := gAt_nat ey
      have hxg := hg x (List.mem_of_getElem? ex)
      have hz1 := @curV_lo c g a k hg h3
      have hstep := @curV_step c g a k
      have hset := @curG_set c g a k
      have hkeep := @curG_keep c g a k
      rw [hx, hy] at hstep
      rw [hy] at hset
      have hkeep2 : ¬ (x = -1 ∧ directB c a k = true ∧ 1 ≤ y ∧ (curV c g a k = -1 ∨ y < curV c g a k)) → curG c g a (k + 1) = curG c g a k := fun hn => hkeep (by rw [hstep, if_neg hn])
      have hset2 : (x = -1 ∧ directB c a k = true ∧ 1 ≤ y ∧ (curV c g a k = -1 ∨ y < curV c g a k)) → curG c g a (k + 1) = (curG c g a k).set a y ∧ curG c g a (k + 1) ≠ g := fun hp => by
        have e : curV c g a (k + 1) = y := by rw [hstep, if_pos hp]
        refine ⟨hset e, @curG_ne c g a (k + 1) h3 (by rw [hx]; exact hp.1) (by rw [e]; exact hp.2.2.1)⟩
      generalize curV c g a k = z at ez hz1 hkeep2 hset2
      by_cases c1 : x < 0
      · by_cases c2 : 0 < y
        · by_cases c3 : z < 0
          · simp
            refine XDraw.intro (by kernel_rfl) ?_
            simp [ex, ey, ez, h3, h5, hcl, c1, c2, c3, -getElem?_pos, List.getElem?_cons_zero, List.getElem?_cons_succ]
            refine xcall_pure hD ?_
            cases hd : directB c a k with
            | true =>
              obtain ⟨e1, e2⟩ := hset2 ⟨by omega, hd, by omega, .inl (by omega)⟩
              simp [ex, ey, ez, h3, h5, hcl, c1, c2, c3, -getElem?_pos, List.getElem?_cons_zero, List.getElem?_cons_succ]
              refine ⟨.of (by kernel_rfl), wrap_i64 (by omega) (by omega), k + 1, by omega, by omega, ⟨e2, by omega⟩, ?_⟩
              rw [set_rowG, e1]
              exact wknR_refl _
            | false =>
              have e1 := hkeep2 (fun h => by have := h.2.1; rw [hd] at this; cases this)
              simp [ex, ey, ez, h3, h5, hcl, c1, c2, c3, -getElem?_pos, List.getElem?_cons_zero, List.getElem?_cons_succ]
              refine ⟨.of (by kernel_rfl), wrap_i64 (by omega) (by omega), k + 1, by omega, by omega, ?_⟩
              rw [e1]
              simp
              try decide
          · by_cases c4 : y < z
            · simp
              refine XDraw.intro (by kernel_rfl) ?_
              simp [ex, ey, ez, h3, h5, hcl, c1, c2, c3, c4, -getElem?_pos, List.getElem?_cons_zero, List.getElem?_cons_succ]
              refine xcall_pure hD ?_
              cases hd : directB c a k with
              | true =>
                obtain ⟨e1, e2⟩ := hset2 ⟨by omega, hd, by omega, .inr c4⟩
                simp [ex, ey, ez, h3, h5, hcl, c1, c2, c3, c4, -getElem?_pos, List.getElem?_cons_zero, List.getElem?_cons_succ]
                refine ⟨.of (by kernel_rfl), wrap_i64 (by omega) (by omega), k + 1, by omega, by omega, ⟨e2, by omega⟩, ?_⟩
                rw [set_rowG, e1]
                exact wknR_refl _
              | false =>
                have e1 := hkeep2 (fun h => by have := h.2.1; rw [hd] at this; cases this)
                simp [ex, ey, ez, h3, h5, hcl, c1, c2, c3, c4, -getElem?_pos, List.getElem?_cons_zero, List.getElem?_cons_succ]
                refine ⟨.of (by kernel_rfl), wrap_i64 (by omega) (by omega), k + 1, by omega, by omega, ?_⟩
                rw [e1]
                simp
                try decide
            · have e1 := hkeep2 (fun h => by have := h.2.2.2; omega)
              simp
              refine XDraw.intro (by kernel_rfl) ?_
              simp [ex, ey, ez, h3, h5, hcl, c1, c2, c3, c4, -getElem?_pos, List.getElem?_cons_zero, List.getElem?_cons_succ]
              refine ⟨.of (by kernel_rfl), wrap_i64 (by omega) (by omega), k + 1, by omega, by omega, ?_⟩
              rw [e1]
              simp
              try decide
        · have e1 := hkeep2 (fun h => by have := h.2.2.1; omega)
          simp
          refine XDraw.intro (by kernel_rfl) ?_
          simp [ex, ey, ez, h3, h5, hcl, c1, c2, -getElem?_pos, List.getElem?_cons_zero, List.getElem?_cons_succ]
          refine ⟨.of (by kernel_rfl), wrap_i64 (by omega) (by omega), k + 1, by omega, by omega, ?_⟩
          rw [e1]
          simp
          try decide
      · have e1 := hkeep2 (fun h => by have := h.1; omega)
        simp
        refine XDraw.intro (by kernel_rfl) ?_
        simp [ex, ey, ez, h3, h5, hcl, c1, -getElem?_pos, List.getElem?_cons_zero, List.getElem?_cons_succ]
        refine ⟨.of (by kernel_rfl), wrap_i64 (by omega) (by omega), k + 1, by omega, by omega, ?_⟩
        rw [e1]
        simp
        try decide
    · simp at h5
      have hk2 : k = c.parts.length := by omega
      subst hk2
      rw [curG_end h3]
      simp
      refine ⟨wrap_i64 (by omega) (by omega), a + 1, by omega, by omega, ?_⟩
      simp
      try decide
  · simp at h3
    have ha2 : a = c.parts.length := by omega
    subst ha2
    simp
end Go.Am
