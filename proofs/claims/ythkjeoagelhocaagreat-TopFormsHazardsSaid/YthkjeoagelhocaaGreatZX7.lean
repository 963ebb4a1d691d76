/- Lemmas and contracts for the proof of a statement of this seat. -/
import Derived.Test.YthkjeoagelhocaaGreatZX1
import Derived.Test.YthkjeoagelhocaaGreatZX4
import Derived.Test.YthkjeoagelhocaaGreatZX5
import Derived.Test.YthkjeoagelhocaaGreatZC1
import Derived.Test.YthkjeoagelhocaaGreatZC6
set_option linter.unusedVariables false
set_option linter.unusedSimpArgs false
/- The plain law of forms without hazards; chapter 8. -/
namespace Go.Am
open Go

def tabF (n : Nat) (L : List Cube) : Nat := (List.range (2 ^ n)).foldl (fun o k => if L.any (fun c => c.has k) then o ||| 2 ^ k else o) 0
theorem tabF_bit {n : Nat} {L : List Cube} {k : Nat} : (tabF n L).testBit k = (decide (k < 2 ^ n) && L.any (fun c => c.has k)) := by
  unfold tabF
  rw [fold_bits (p := fun k => L.any (fun c => c.has k)), Nat.zero_testBit, Bool.false_or, Bool.eq_iff_iff]
  simp only [List.any_eq_true, List.mem_range, Bool.and_eq_true, decide_eq_true_eq]
  constructor
  · rintro ⟨j, h1, rfl, h2⟩; exact ⟨h1, h2⟩
  · rintro ⟨h1, h2⟩; exact ⟨k, h1, rfl, h2⟩
theorem tabF_lt {n : Nat} {L : List Cube} : tabF n L < 2 ^ (2 ^ n) := lt_bits fun k hk => by
  rw [tabF_bit, Bool.and_eq_true, decide_eq_true_eq] at hk
  exact hk.1
theorem tabF_eq {n b : Nat} {L : List Cube} (hb : b < 2 ^ (2 ^ n)) (hI : ∀ c ∈ L, Imp ⟨n, b, 0⟩ c) (hc : CoversC ⟨n, b, 0⟩ L) : tabF n L = b := Nat.eq_of_testBit_eq fun k => by
  rw [tabF_bit]
  cases h : b.testBit k with
  | true =>
    have hk : k < 2 ^ n := bit_lt hb h
    obtain ⟨c, h1, h2⟩ := hc k hk h
    rw [decide_eq_true hk, Bool.true_and]
    exact List.any_eq_true.2 ⟨c, h1, h2⟩
  | false =>
    rw [← Bool.not_eq_true]
    intro hk
    rw [Bool.and_eq_true, decide_eq_true_eq] at hk
    obtain ⟨c, h1, h2⟩ := List.any_eq_true.1 hk.2
    rcases hI c h1 k hk.1 h2 with h3 | h3
    · rw [h] at h3; cases h3
    · simp at h3
theorem tabF_cov {n b : Nat} {L : List Cube} (h : tabF n L = b) : CoversC ⟨n, b, 0⟩ L := fun k hk ho => by
  have ho2 : b.testBit k = true := ho
  rw [← h, tabF_bit, Bool.and_eq_true] at ho2
  obtain ⟨c, h1, h2⟩ := List.any_eq_true.1 ho2.2
  exact ⟨c, h1, h2⟩

def pairsR (b a i : Nat) : List (Nat × Nat) := if decide (a ||| 2 ^ i ≠ a) && b.testBit a && b.testBit (a ||| 2 ^ i) then [(a, a ||| 2 ^ i)] else []
def pairsA (n b a : Nat) : List (Nat × Nat) := (List.range n).flatMap fun i => pairsR b a i
def pairsL (n b : Nat) : List (Nat × Nat) := (List.range (2 ^ n)).flatMap fun a => pairsA n b a
theorem pair_mem {n b : Nat} {p : Nat × Nat} : p ∈ pairsL n b ↔ ∃ a i, a < 2 ^ n ∧ i < n ∧ a ||| 2 ^ i ≠ a ∧ b.testBit a = true ∧ b.testBit (a ||| 2 ^ i) = true ∧ p = (a, a ||| 2 ^ i) := by
  unfold pairsL pairsA pairsR
  simp only [List.mem_flatMap, List.mem_range]
  constructor
  · rintro ⟨a, ha, i, hi, h⟩
    split at h
    · rename_i h2
      simp only [Bool.and_eq_true, decide_eq_true_eq] at h2
      exact ⟨a, i, ha, hi, h2.1.1, h2.1.2, h2.2, List.mem_singleton.1 h⟩
    · cases h
  · rintro ⟨a, i, ha, hi, h1, h2, h3, rfl⟩
    refine ⟨a, ha, i, hi, ?_⟩
    rw [if_pos (by simp only [Bool.and_eq_true, decide_eq_true_eq]; exact ⟨⟨h1, h2⟩, h3⟩)]
    exact List.mem_singleton.2 rfl
theorem or_bit {a i : Nat} (h : a ||| 2 ^ i ≠ a) : a.testBit i = false := by
  cases ha : a.testBit i with
  | false => rfl
  | true =>
    refine (h (Nat.eq_of_testBit_eq fun j => ?_)).elim
    rw [Nat.testBit_or, Nat.testBit_two_pow]
    by_cases e : i = j
    · subst e; rw [ha]; rfl
    · simp [e]
theorem pair_prime {n b : Nat} {p : Nat × Nat} (h : p ∈ pairsL n b) : ∃ c ∈ primesL ⟨n, b, 0⟩, c.has p.1 = true ∧ c.has p.2 = true := by
  obtain ⟨a, i, ha, hi, hne, h1, h2, rfl⟩ := pair_mem.1 h
  have ha0 := or_bit hne
  have hok : (dropV (pointC n a) i).Ok n := dropV_ok (pointC_ok ha)
  have hcare : ∀ j, (dropV (pointC n a) i).care.testBit j = (decide (j < n) && !decide (i = j)) := fun j => by
    unfold dropV pointC
    rw [andN_bit, Nat.testBit_two_pow_sub_one, Nat.testBit_two_pow]
  have hval : ∀ j, i ≠ j → (dropV (pointC n a) i).value.testBit j = a.testBit j := fun j hj => by
    unfold dropV pointC
    rw [andN_bit, Nat.testBit_two_pow]
    simp [hj]
  have hq1 : (dropV (pointC n a) i).has a = true := dropV_has (pointC_ok ha) ((pointC_has ha ha).2 rfl)
  have hq2 : (dropV (pointC n a) i).has (a ||| 2 ^ i) = true := by
    rw [has_iff hok]
    intro j hj
    rw [hcare j, Bool.and_eq_true] at hj
    have hij : i ≠ j := fun e => by subst e; simp at hj
    rw [hval j hij, Nat.testBit_or, Nat.testBit_two_pow]
    simp [hij]
  have hall : ∀ k, k < 2 ^ n → (dropV (pointC n a) i).has k = true → k = a ∨ k = a ||| 2 ^ i := fun k hk hh => by
    rw [has_iff hok] at hh
    have key : ∀ j, i ≠ j → k.testBit j = a.testBit j := fun j hij => by
      by_cases hj : j < n
      · rw [hh j (by rw [hcare j]; simp [hj, hij]), hval j hij]
      · rw [Nat.testBit_lt_two_pow (Nat.lt_of_lt_of_le hk (Nat.pow_le_pow_right (by decide) (by omega))), Nat.testBit_lt_two_pow (Nat.lt_of_lt_of_le ha (Nat.pow_le_pow_right (by decide) (by omega)))]
    cases hki : k.testBit i with
    | false =>
      refine .inl (Nat.eq_of_testBit_eq fun j => ?_)
      by_cases e : i = j
      · subst e; rw [hki, ha0]
      · exact key j e
    | true =>
      refine .inr (Nat.eq_of_testBit_eq fun j => ?_)
      rw [Nat.testBit_or, Nat.testBit_two_pow]
      by_cases e : i = j
      · subst e; rw [hki, ha0]; simp
      · rw [key j e]; simp [e]
  obtain ⟨c, hc, hs⟩ := grow_prime (x := ⟨n, b, 0⟩) _ (dropV (pointC n a) i) (Nat.le_refl _) hok ⟨a, ha, hq1, h1⟩ fun k hk hh => by
    rcases hall k hk hh with rfl | rfl
    · exact .inl h1
    · exact .inl h2
  exact ⟨c, primesL_mem.2 hc, hs _ hq1, hs _ hq2⟩

def togB (L : List Cube) (p : Nat × Nat) : Bool := L.any fun c => c.has p.1 && c.has p.2
theorem togB_iff {L : List Cube} {p : Nat × Nat} : togB L p = true ↔ ∃ c ∈ L, c.has p.1 = true ∧ c.has p.2 = true := by
  unfold togB
  simp only [List.any_eq_true, Bool.and_eq_true]
def hazL (n : Nat) (L : List Cube) : List (Nat × Nat) := (pairsL n (tabF n L)).filter fun p => !togB L p

def mendGo (P : List Cube) : List (Nat × Nat) → List Cube → List Cube
  | [], out => out
  | p :: ps, out => if togB out p then mendGo P ps out else match P.find? (fun c => togB [c] p) with
    | some c => mendGo P ps (out ++ [c])
    | none => mendGo P ps out
def mendL (n : Nat) (L : List Cube) : List Cube := mendGo (primesL ⟨n, tabF n L, 0⟩) (hazL n L) []
theorem tog_sub {L M : List Cube} {p : Nat × Nat} (h : ∀ c ∈ L, c ∈ M) (ht : togB L p = true) : togB M p = true := by
  obtain ⟨c, h1, h2⟩ := togB_iff.1 ht
  exact togB_iff.2 ⟨c, h c h1, h2⟩
theorem mendGo_spec {P : List Cube} : ∀ (H : List (Nat × Nat)) (out : List Cube), (∀ p ∈ H, ∃ c ∈ P, c.has p.1 = true ∧ c.has p.2 = true) → (∀ c ∈ out, c ∈ P) →
    (∀ c ∈ out, c ∈ mendGo P H out) ∧ (∀ c ∈ mendGo P H out, c ∈ P) ∧ ∀ p ∈ H, togB (mendGo P H out) p = true
  | [], out, _, ho => ⟨fun c hc => hc, ho, fun p hp => by cases hp⟩
  | p :: ps, out, hH, ho => by
    have hH2 : ∀ q ∈ ps, ∃ c ∈ P, c.has q.1 = true ∧ c.has q.2 = true := fun q hq => hH q (List.mem_cons_of_mem _ hq)
    unfold mendGo
    by_cases ht : togB out p = true
    · rw [if_pos ht]
      obtain ⟨a, b, c⟩ := mendGo_spec ps out hH2 ho
      refine ⟨a, b, fun q hq => ?_⟩
      rcases List.mem_cons.1 hq with rfl | hq
      · exact tog_sub a ht
      · exact c q hq
    · rw [if_neg ht]
      cases e : P.find? (fun c => togB [c] p) with
      | none =>
        obtain ⟨c, h1, h2⟩ := hH p List.mem_cons_self
        have := List.find?_eq_none.1 e c h1
        exact (this (togB_iff.2 ⟨c, List.mem_singleton.2 rfl, h2⟩)).elim
      | some c =>
        have hcP : c ∈ P := List.mem_of_find?_eq_some e
        have hct : togB [c] p = true := List.find?_some (p := fun c => togB [c] p) e
        obtain ⟨a, b, d⟩ := mendGo_spec ps (out ++ [c]) hH2 (fun x hx => by
          rcases List.mem_append.1 hx with hx | hx
          · exact ho x hx
          · rw [List.mem_singleton.1 hx]; exact hcP)
        refine ⟨fun x hx => a x (List.mem_append_left _ hx), b, fun q hq => ?_⟩
        rcases List.mem_cons.1 hq with rfl | hq
        · exact tog_sub (fun x hx => a x (List.mem_append_right _ hx)) hct
        · exact d q hq

def chosB (P : List Cube) (w : Nat) : List Cube := ((List.range P.length).filter fun i => w.testBit i).map (atC P)
theorem chosB_mem {P : List Cube} {w : Nat} {c : Cube} : c ∈ chosB P w ↔ ∃ i, i < P.length ∧ w.testBit i = true ∧ atC P i = c := by
  unfold chosB
  simp only [List.mem_map, List.mem_filter, List.mem_range]
  exact ⟨fun ⟨i, ⟨h1, h2⟩, h3⟩ => ⟨i, h1, h2, h3⟩, fun ⟨i, h1, h2, h3⟩ => ⟨i, ⟨h1, h2⟩, h3⟩⟩
theorem chosB_len {P : List Cube} {w : Nat} (hw : w < 2 ^ P.length) (hP : P.length ≤ 64) : (chosB P w).length = popN w := by
  unfold chosB popN
  rw [List.length_map, List.countP_eq_length_filter]
  congr 1
  have e : List.range 64 = List.range P.length ++ (List.range (64 - P.length)).map (P.length + ·) := by rw [← List.range_add]; congr 1; omega
  rw [e, List.filter_append]
  have : ((List.range (64 - P.length)).map (P.length + ·)).filter (fun i => w.testBit i) = [] := by
    rw [List.filter_eq_nil_iff]
    intro i hi h
    obtain ⟨j, _, rfl⟩ := List.mem_map.1 hi
    have := bit_lt hw h
    omega
  rw [this, List.append_nil]
theorem chosB_full {P : List Cube} : chosB P (2 ^ P.length - 1) = P := by
  unfold chosB
  have : (List.range P.length).filter (fun i => (2 ^ P.length - 1).testBit i) = List.range P.length := by
    rw [List.filter_eq_self]
    intro i hi
    rw [Nat.testBit_two_pow_sub_one]
    exact decide_eq_true (List.mem_range.1 hi)
  rw [this]
  refine List.ext_getElem (by simp) fun i h1 h2 => ?_
  simp [atC, List.getD_eq_getElem?_getD, List.getElem?_eq_getElem h2]
def maskF (P M : List Cube) : Nat := (List.range P.length).foldl (fun o k => if decide (atC P k ∈ M) then o ||| 2 ^ k else o) 0
theorem maskF_bit {P M : List Cube} {i : Nat} : (maskF P M).testBit i = (decide (i < P.length) && decide (atC P i ∈ M)) := by
  unfold maskF
  rw [fold_bits (p := fun k => decide (atC P k ∈ M)), Nat.zero_testBit, Bool.false_or, Bool.eq_iff_iff]
  simp only [List.any_eq_true, List.mem_range, Bool.and_eq_true, decide_eq_true_eq]
  constructor
  · rintro ⟨j, h1, rfl, h2⟩; exact ⟨h1, h2⟩
  · rintro ⟨h1, h2⟩; exact ⟨i, h1, rfl, h2⟩
theorem maskF_lt {P M : List Cube} : maskF P M < 2 ^ P.length := lt_bits fun k hk => by
  rw [maskF_bit, Bool.and_eq_true, decide_eq_true_eq] at hk
  exact hk.1
theorem mask_mem {P M : List Cube} (hM : ∀ c ∈ M, c ∈ P) {c : Cube} : c ∈ chosB P (maskF P M) ↔ c ∈ M := by
  rw [chosB_mem]
  constructor
  · rintro ⟨i, h1, h2, rfl⟩
    rw [maskF_bit, Bool.and_eq_true, decide_eq_true_eq, decide_eq_true_eq] at h2
    exact h2.2
  · intro h
    obtain ⟨i, hi, rfl⟩ := mem_atC (hM c h)
    exact ⟨i, hi, by rw [maskF_bit, decide_eq_true hi, decide_eq_true h]; rfl, rfl⟩
theorem chosB_nodup {P : List Cube} (hP : P.Nodup) {w : Nat} : (chosB P w).Nodup := by
  unfold chosB
  refine List.pairwise_map.2 (((List.nodup_range (n := P.length)).filter _).imp_of_mem ?_)
  intro i j hi hj hne e
  have hi := List.mem_range.1 (List.mem_filter.1 hi).1
  have hj := List.mem_range.1 (List.mem_filter.1 hj).1
  unfold atC at e
  rw [List.getD_eq_getElem?_getD, List.getD_eq_getElem?_getD, List.getElem?_eq_getElem hi, List.getElem?_eq_getElem hj] at e
  have e : P[i] = P[j] := e
  rcases Nat.lt_trichotomy i j with h | h | h
  · exact List.pairwise_iff_getElem.1 hP i j hi hj h e
  · exact hne h
  · exact List.pairwise_iff_getElem.1 hP j i hj hi h e.symm

structure HSt where
  best : Nat
  least : Nat
deriving DecidableEq
section
variable (n b : Nat) (P : List Cube) (lit : List Cube → Nat) (take : HSt → Nat → Bool)
def hzStep (g : HSt) (w : Nat) : HSt :=
  if popN g.best < (chosB P w).length ∨ tabF n (chosB P w) ≠ b ∨ hazL n (chosB P w) ≠ [] then g else if take g w then ⟨w, lit (chosB P w)⟩ else g
def hzStart : HSt := ⟨2 ^ P.length - 1, lit P⟩
end
section
variable {n b : Nat} {P : List Cube} {lit : List Cube → Nat} {take : HSt → Nat → Bool}
theorem hz_fold (hP : P.length ≤ 64) (hfull : tabF n P = b) (ht : ∀ g w, (chosB P w).length < popN g.best → take g w = true) :
    ∀ (W : List Nat) (g : HSt), (∀ w ∈ W, w < 2 ^ P.length) → g.best < 2 ^ P.length → tabF n (chosB P g.best) = b →
      (W.foldl (hzStep n b P lit take) g).best < 2 ^ P.length ∧ tabF n (chosB P (W.foldl (hzStep n b P lit take) g).best) = b ∧ popN (W.foldl (hzStep n b P lit take) g).best ≤ popN g.best ∧
      ∀ w ∈ W, tabF n (chosB P w) = b → hazL n (chosB P w) = [] → popN (W.foldl (hzStep n b P lit take) g).best ≤ (chosB P w).length
  | [], g, _, h1, h2 => ⟨h1, h2, Nat.le_refl _, fun w hw => by cases hw⟩
  | w :: W, g, hW, h1, h2 => by
    have hw := hW w List.mem_cons_self
    have hlen := chosB_len hw hP
    have key : (hzStep n b P lit take g w).best < 2 ^ P.length ∧ tabF n (chosB P (hzStep n b P lit take g w).best) = b ∧ popN (hzStep n b P lit take g w).best ≤ popN g.best ∧
        (tabF n (chosB P w) = b → hazL n (chosB P w) = [] → popN (hzStep n b P lit take g w).best ≤ (chosB P w).length) := by
      unfold hzStep
      by_cases hs : popN g.best < (chosB P w).length ∨ tabF n (chosB P w) ≠ b ∨ hazL n (chosB P w) ≠ []
      · rw [if_pos hs]
        refine ⟨h1, h2, Nat.le_refl _, fun a c => ?_⟩
        rcases hs with hs | hs | hs
        · omega
        · exact (hs a).elim
        · exact (hs c).elim
      · rw [if_neg hs]
        simp only [not_or, Decidable.not_not] at hs
        obtain ⟨s1, s2, s3⟩ := hs
        cases hk : take g w with
        | true =>
          rw [if_pos rfl]
          exact ⟨hw, s2, by show popN w ≤ _; omega, fun _ _ => by show popN w ≤ _; omega⟩
        | false =>
          rw [if_neg (by simp)]
          refine ⟨h1, h2, Nat.le_refl _, fun _ _ => ?_⟩
          apply Classical.byContradiction
          intro hn
          rw [ht g w (by omega)] at hk
          cases hk
    rw [List.foldl_cons]
    obtain ⟨k1, k2, k3, k4⟩ := key
    obtain ⟨a1, a2, a3, a4⟩ := hz_fold hP hfull ht W _ (fun v hv => hW v (List.mem_cons_of_mem _ hv)) k1 k2
    refine ⟨a1, a2, by omega, fun v hv => ?_⟩
    rcases List.mem_cons.1 hv with rfl | hv
    · exact fun p q => Nat.le_trans a3 (k4 p q)
    · exact a4 v hv
theorem primesL_nodup {x : Tsk} : (primesL x).Nodup := by
  unfold primesL
  refine List.Pairwise.filter _ ?_
  unfold cubesL
  refine List.pairwise_flatMap.2 ⟨fun care _ => ?_, ?_⟩
  · refine List.pairwise_map.2 ((List.nodup_range.filter _).imp fun h e => ?_)
    cases e; exact h rfl
  · refine List.nodup_range.imp fun h u hu v hv => ?_
    obtain ⟨_, _, rfl⟩ := List.mem_map.1 hu
    obtain ⟨_, _, rfl⟩ := List.mem_map.1 hv
    intro e; cases e; exact h rfl
def safeS (n b : Nat) (lit : List Cube → Nat) (take : HSt → Nat → Bool) : List Cube :=
  chosB (primesL ⟨n, b, 0⟩) ((List.range (2 ^ (primesL ⟨n, b, 0⟩).length - 1)).foldl (hzStep n b (primesL ⟨n, b, 0⟩) lit take) (hzStart (primesL ⟨n, b, 0⟩) lit)).best
theorem hz_law (hb : b < 2 ^ (2 ^ n)) (hP : (primesL ⟨n, b, 0⟩).length ≤ 64) (ht : ∀ g w, (chosB (primesL ⟨n, b, 0⟩) w).length < popN g.best → take g w = true) {L : List Cube}
    (hL : ∀ c ∈ L, Prime ⟨n, b, 0⟩ c) (hc : CoversC ⟨n, b, 0⟩ L) (hmin : ∀ M : List Cube, (∀ c ∈ M, c.Ok n ∧ Imp ⟨n, b, 0⟩ c) → CoversC ⟨n, b, 0⟩ M → L.length ≤ M.length) :
    tabF n L = b ∧ L.length ≤ (safeS n b lit take).length ∧ (safeS n b lit take).length ≤ L.length + (mendL n L).length ∧ (hazL n L = [] → (safeS n b lit take).length = L.length) := by
  have hmem : ∀ c, c ∈ primesL ⟨n, b, 0⟩ ↔ Prime ⟨n, b, 0⟩ c := fun c => primesL_mem
  have hfull : tabF n (primesL ⟨n, b, 0⟩) = b := tabF_eq hb (fun c hc => ((hmem c).1 hc).imp) primes_cover
  have hLt : tabF n L = b := tabF_eq hb (fun c h => (hL c h).imp) hc
  have hmp : ∀ p ∈ hazL n L, ∃ c ∈ primesL ⟨n, b, 0⟩, c.has p.1 = true ∧ c.has p.2 = true := fun p hp => by
    unfold hazL at hp
    rw [hLt] at hp
    exact pair_prime (List.mem_filter.1 hp).1
  have hnd := @primesL_nodup ⟨n, b, 0⟩
  have hm : mendL n L = mendGo (primesL ⟨n, b, 0⟩) (hazL n L) [] := by unfold mendL; rw [hLt]
  obtain ⟨_, m2, m3⟩ := mendGo_spec (P := primesL ⟨n, b, 0⟩) (hazL n L) [] hmp (fun c hc => by cases hc)
  rw [← hm] at m2 m3
  unfold safeS
  generalize primesL ⟨n, b, 0⟩ = P at hP ht hmem hfull hnd m2
  have hone : 1 ≤ 2 ^ P.length := Nat.one_le_two_pow
  obtain ⟨f1, f2, f3, f4⟩ := hz_fold (lit := lit) hP hfull ht (List.range (2 ^ P.length - 1)) (hzStart P lit) (fun w hw => by have := List.mem_range.1 hw; omega) (by show 2 ^ P.length - 1 < _; omega) (by show tabF n (chosB P (2 ^ P.length - 1)) = b; rw [chosB_full]; exact hfull)
  generalize hB : ((List.range (2 ^ P.length - 1)).foldl (hzStep n b P lit take) (hzStart P lit)).best = B at f1 f2 f3 f4
  have hlow : L.length ≤ (chosB P B).length := hmin _ (fun c hc => by
    obtain ⟨i, hi, _, rfl⟩ := chosB_mem.1 hc
    have := (hmem _).1 (atC_mem hi)
    exact ⟨this.ok, this.imp⟩) (tabF_cov f2)
  have hup : (chosB P B).length ≤ L.length + (mendL n L).length := by
    have hM : ∀ c ∈ L ++ mendL n L, c ∈ P := fun c hc => by
      rcases List.mem_append.1 hc with hc | hc
      · exact (hmem c).2 (hL c hc)
      · exact m2 c hc
    have hle : (chosB P (maskF P (L ++ mendL n L))).length ≤ (L ++ mendL n L).length := (chosB_nodup hnd).length_le_of_subset fun c hc => (mask_mem hM).1 hc
    rw [List.length_append] at hle
    rw [chosB_len f1 hP]
    by_cases hS : maskF P (L ++ mendL n L) = 2 ^ P.length - 1
    · rw [hS, chosB_len (by omega) hP] at hle
      have : popN B ≤ popN (2 ^ P.length - 1) := f3
      omega
    · have hlt := @maskF_lt P (L ++ mendL n L)
      have htab : tabF n (chosB P (maskF P (L ++ mendL n L))) = b := tabF_eq hb (fun c hc => ((hmem c).1 (hM c ((mask_mem hM).1 hc))).imp) fun k hk ho => by
        obtain ⟨c, h1, h2⟩ := hc k hk ho
        exact ⟨c, (mask_mem hM).2 (List.mem_append_left _ h1), h2⟩
      have hhz : hazL n (chosB P (maskF P (L ++ mendL n L))) = [] := by
        unfold hazL
        rw [htab, List.filter_eq_nil_iff]
        intro p hp
        have hsub : ∀ c ∈ L ++ mendL n L, c ∈ chosB P (maskF P (L ++ mendL n L)) := fun c hc => (mask_mem hM).2 hc
        have htog : togB (L ++ mendL n L) p = true := by
          cases h : togB L p with
          | true => exact tog_sub (fun c hc => List.mem_append_left _ hc) h
          | false =>
            refine tog_sub (fun c hc => List.mem_append_right _ hc) (m3 p ?_)
            unfold hazL
            rw [hLt]
            exact List.mem_filter.2 ⟨hp, by rw [h]; rfl⟩
        rw [tog_sub hsub htog]
        simp
      have := f4 _ (List.mem_range.2 (by omega)) htab hhz
      omega
  refine ⟨hLt, hlow, hup, fun h => ?_⟩
  have : mendL n L = [] := by unfold mendL; rw [h]; rfl
  rw [this] at hup
  have : ([] : List Cube).length = 0 := rfl
  omega
end
end Go.Am
/- Contracts: math/bits: Reverse, Len, OnesCount; chapter 8. -/
namespace Go.Am
open Go Go.Proofs Go.Pn

theorem fdN {a k : Nat} (m : Int) (hm : m = 2 ^ k) : ((a : Nat) : Int).fdiv m = ((shrN a k : Nat) : Int) := by rw [hm]; exact fdiv_nat
theorem fd1 {a : Nat} : ((a : Nat) : Int).fdiv 2 = ((shrN a 1 : Nat) : Int) := fdN 2 rfl
theorem fd2 {a : Nat} : ((a : Nat) : Int).fdiv 4 = ((shrN a 2 : Nat) : Int) := fdN 4 rfl
theorem fd4 {a : Nat} : ((a : Nat) : Int).fdiv 16 = ((shrN a 4 : Nat) : Int) := fdN 16 rfl
theorem fd8 {a : Nat} : ((a : Nat) : Int).fdiv 256 = ((shrN a 8 : Nat) : Int) := fdN 256 rfl
theorem fd16 {a : Nat} : ((a : Nat) : Int).fdiv 65536 = ((shrN a 16 : Nat) : Int) := fdN 65536 rfl
theorem fd32 {a : Nat} : ((a : Nat) : Int).fdiv 4294967296 = ((shrN a 32 : Nat) : Int) := fdN 4294967296 rfl
theorem m64_lt {a : Nat} : m64 a < 2 ^ 64 := Nat.mod_lt _ (by decide)
theorem and_lt {a m : Nat} (h : m < 2 ^ 64) : a &&& m < 2 ^ 64 := Nat.lt_of_le_of_lt Nat.and_le_right h
theorem or_lt {a b : Nat} (h1 : a < 2 ^ 64) (h2 : b < 2 ^ 64) : a ||| b < 2 ^ 64 := Nat.or_lt_two_pow h1 h2
theorem shl_lt {a m k : Nat} (h : m * 2 ^ k < 2 ^ 64) : shlN (a &&& m) k < 2 ^ 64 := Nat.lt_of_le_of_lt (Nat.mul_le_mul_right _ Nat.and_le_right) h
theorem bit_lit {a : Nat} {m : Int} (ha : a < 2 ^ 64) (h0 : 0 ≤ m) (hm : m < 2 ^ 64) : bitR .u64 (a : Int) m := by
  obtain ⟨k, rfl⟩ : ∃ k : Nat, m = k := ⟨m.toNat, by omega⟩
  exact bit_u64 ha (by omega)
theorem toNatC {a : Nat} : ((a : Nat) : Int).toNat = a := (rfl)
def swapM (m k a : Nat) : Nat := (shrN a k &&& m) ||| shlN (a &&& m) k
theorem swapM_lt {m k a : Nat} (h : m * 2 ^ k < 2 ^ 64) (hm : m < 2 ^ 64) : swapM m k a < 2 ^ 64 := or_lt (and_lt hm) (shl_lt h)
def swap32 (a : Nat) : Nat := shrN a 32 ||| m64 (shlN a 32)
theorem swap32_lt {a : Nat} (h : a < 2 ^ 64) : swap32 a < 2 ^ 64 := or_lt (shr_lt h) m64_lt
def rbyN (a : Nat) : Nat := swap32 (swapM 281470681808895 16 (swapM 71777214294589695 8 a))
theorem swM {m k a : Nat} : (shrN a k &&& m) ||| shlN (a &&& m) k = swapM m k a := (rfl)
theorem sw32 {a : Nat} : shrN a 32 ||| m64 (shlN a 32) = swap32 a := (rfl)
theorem c_math_bits_ReverseBytes64 (a : Nat) (h : a < 2 ^ 64) : Pure Tryz.prog GL 111 [.p (.int .u64 a)] (.p (.int .u64 (rbyN a))) := by
  refine Pure.of_walk (N := 22) Tryz.func111 rfl rfl rfl (by simp) (by first | (simp; done) | simp [*]) ?_
  have h1 : swapM 71777214294589695 8 a < 2 ^ 64 := swapM_lt (by decide) (by decide)
  have h2 : swapM 281470681808895 16 (swapM 71777214294589695 8 a) < 2 ^ 64 := swapM_lt (by decide) (by decide)
  simp [-Int.toNat_natCast, toNatC, fd8, fd16, fd32, swM, sw32]
  rw [show rbyN a = swap32 (swapM 281470681808895 16 (swapM 71777214294589695 8 a)) from rfl]
  refine ⟨bit_lit (shr_lt h) (by decide) (by decide), bit_lit h (by decide) (by decide), wrapu_n (shl_lt (by decide)), bit_u64 (and_lt (by decide)) (shl_lt (by decide)), ?_⟩
  generalize swapM 71777214294589695 8 a = b at *
  refine ⟨bit_lit (shr_lt h1) (by decide) (by decide), bit_lit h1 (by decide) (by decide), wrapu_n (shl_lt (by decide)), bit_u64 (and_lt (by decide)) (shl_lt (by decide)), ?_⟩
  generalize swapM 281470681808895 16 b = c at *
  refine ⟨bit_u64 (shr_lt h2) m64_lt, ?_⟩
  simp [XEndT]
def revN (a : Nat) : Nat := rbyN (swapM 1085102592571150095 4 (swapM 3689348814741910323 2 (swapM 6148914691236517205 1 a)))
theorem c_math_bits_Reverse64 (a : Nat) (h : a < 2 ^ 64) : Pure Tryz.prog GL 81 [.p (.int .u64 a)] (.p (.int .u64 (revN a))) := by
  refine Pure.of_walk (N := 26) Tryz.func81 rfl rfl rfl (by simp) (by first | (simp; done) | simp [*]) ?_
  have h1 : swapM 6148914691236517205 1 a < 2 ^ 64 := swapM_lt (by decide) (by decide)
  have h2 : swapM 3689348814741910323 2 (swapM 6148914691236517205 1 a) < 2 ^ 64 := swapM_lt (by decide) (by decide)
  have h3 : swapM 1085102592571150095 4 (swapM 3689348814741910323 2 (swapM 6148914691236517205 1 a)) < 2 ^ 64 := swapM_lt (by decide) (by decide)
  have hB := c_math_bits_ReverseBytes64 _ h3
  simp [-Int.toNat_natCast, toNatC, fd1, fd2, fd4, swM]
  rw [show revN a = rbyN (swapM 1085102592571150095 4 (swapM 3689348814741910323 2 (swapM 6148914691236517205 1 a))) from rfl]
  refine ⟨bit_lit (shr_lt h) (by decide) (by decide), bit_lit h (by decide) (by decide), wrapu_n (shl_lt (by decide)), bit_u64 (and_lt (by decide)) (shl_lt (by decide)), ?_⟩
  generalize swapM 6148914691236517205 1 a = b at *
  refine ⟨bit_lit (shr_lt h1) (by decide) (by decide), bit_lit h1 (by decide) (by decide), wrapu_n (shl_lt (by decide)), bit_u64 (and_lt (by decide)) (shl_lt (by decide)), ?_⟩
  generalize swapM 3689348814741910323 2 b = c at *
  refine ⟨bit_lit (shr_lt h2) (by decide) (by decide), bit_lit h2 (by decide) (by decide), wrapu_n (shl_lt (by decide)), bit_u64 (and_lt (by decide)) (shl_lt (by decide)), ?_⟩
  generalize swapM 1085102592571150095 4 c = d at *
  refine xcall_pure hB ?_
  simp [XEndT]
theorem revN_lt {a : Nat} : revN a < 2 ^ 64 := by
  unfold revN rbyN
  exact swap32_lt (swapM_lt (by decide) (by decide))
theorem c_math_bits_Reverse (a : Nat) (h : a < 2 ^ 64) : Pure Tryz.prog GL 39 [.p (.int .u64 a)] (.p (.int .u64 (revN a))) := by
  refine Pure.of_walk (N := 9) Tryz.func39 rfl rfl rfl (by simp) (by first | (simp; done) | simp [*]) ?_
  have hA := c_math_bits_Reverse64 a h
  simp
  refine xcall_pure hA ?_
  simp [XEndT]
theorem shr_le {a k : Nat} : shrN a k ≤ a := Nat.div_le_self ..
theorem shr_ge {a k m : Nat} (h : m * 2 ^ k ≤ a) : m ≤ shrN a k := (Nat.le_div_iff_mul_le (Nat.two_pow_pos k)).2 h
theorem shr_lt2 {a k m : Nat} (h : a < m * 2 ^ k) : shrN a k < m := (Nat.div_lt_iff_lt_mul (Nat.two_pow_pos k)).2 h
def blen (k : Nat) : Nat := if k = 0 then 0 else Nat.log2 k + 1
theorem blen_le : ∀ k < 256, blen k ≤ 8 := by decide +kernel
def lenTab : List UInt8 := (List.range 256).map fun k => UInt8.ofNat (blen k)
theorem xSome_len {T : List UInt8} {k : Nat} {K : Cont (UInt8 → Prop)} (hk : k < 256) (hT : T = lenTab) (h : ∀ v : UInt8, v.toNat = blen k → K.k v) : @xSome _ (T[k]?) K := by
  have e : T[k]? = some (UInt8.ofNat (blen k)) := by
    rw [hT, lenTab, List.getElem?_map, List.getElem?_range hk]; rfl
  rw [e]
  refine h _ ?_
  have := blen_le k hk
  rw [UInt8.toNat_ofNat']
  omega
def lenB (b : Nat) : Nat := if 256 ≤ b then 56 + blen (shrN b 8) else 48 + blen b
def lenN (a : Nat) : Nat := lenB (shrN (shrN a 32) 16)
set_option maxRecDepth 100000 in
theorem c_Len64B (a : Nat) (h : a < 2 ^ 64) (h54 : 2 ^ 54 ≤ a) : Pure Tryz.prog GL 83 [.p (.int .u64 a)] (.p (.int .i64 (lenN a))) := by
  refine Pure.of_walk (N := 25) Tryz.func83 rfl rfl rfl (by simp) (by first | (simp; done) | simp [*]) ?_
  have h1 : (4294967296 : Int) ≤ a := by omega
  have g2 : 2 ^ 22 ≤ shrN a 32 := shr_ge (by omega)
  have g4 : shrN a 32 < 2 ^ 32 := shr_lt2 (by omega)
  have h2 : (65536 : Int) ≤ shrN a 32 := by omega
  have g3 : 2 ^ 6 ≤ shrN (shrN a 32) 16 := shr_ge (by omega)
  have g5 : shrN (shrN a 32) 16 < 2 ^ 16 := shr_lt2 (by omega)
  simp [-Int.toNat_natCast, toNatC, fd1, fd2, fd4, fd8, fd16, fd32, h1, h2]
  unfold lenN
  generalize shrN (shrN a 32) 16 = b at *
  refine xif_split (fun h4 => ?_) (fun h4 => ?_)
  · simp at h4
    have h5 : 256 ≤ b := by omega
    have g6 : shrN b 8 < 256 := shr_lt2 (by omega)
    have hb := blen_le _ g6
    have e : lenB b = 56 + blen (shrN b 8) := by unfold lenB; rw [if_pos h5]
    simp [-Int.toNat_natCast, toNatC, fd1, fd2, fd4, fd8, fd16, fd32]
    refine ⟨of_eq_true (wrap_u8 (by omega) (by omega)), xSome_len g6 (by decide +kernel) fun v hv => ?_⟩
    rw [e]
    simp [hv]
    exact ⟨wrap_n (by omega), wrap_i64 (by omega) (by omega), by simp [XEndT]⟩
  · simp at h4
    have h5 : b < 256 := by omega
    have hb := blen_le _ h5
    have e : lenB b = 48 + blen b := by unfold lenB; rw [if_neg (by omega)]
    simp [-Int.toNat_natCast, toNatC, fd1, fd2, fd4, fd8, fd16, fd32]
    refine ⟨of_eq_true (wrap_u8 (by omega) (by omega)), xSome_len h5 (by decide +kernel) fun v hv => ?_⟩
    rw [e]
    simp [hv]
    exact ⟨wrap_n (by omega), wrap_i64 (by omega) (by omega), by simp [XEndT]⟩
theorem c_LenB (a : Nat) (h : a < 2 ^ 64) (h54 : 2 ^ 54 ≤ a) : Pure Tryz.prog GL 40 [.p (.int .u64 a)] (.p (.int .i64 (lenN a))) := by
  refine Pure.of_walk (N := 8) Tryz.func40 rfl rfl rfl (by simp) (by first | (simp; done) | simp [*]) ?_
  have hA := c_Len64B a h h54
  simp
  refine xcall_pure hA ?_
  simp [XEndT]
theorem lenN_le {a : Nat} (h : a < 2 ^ 64) : 48 ≤ lenN a ∧ lenN a ≤ 64 := by
  have g4 : shrN a 32 < 2 ^ 32 := shr_lt2 (by omega)
  have g5 : shrN (shrN a 32) 16 < 2 ^ 16 := shr_lt2 (by omega)
  unfold lenN lenB
  split
  · have := blen_le (shrN (shrN (shrN a 32) 16) 8) (shr_lt2 (by omega))
    omega
  · have := blen_le (shrN (shrN a 32) 16) (by omega)
    omega
theorem revN_big : ∀ a < 1024, a ≠ 0 → 2 ^ 54 ≤ revN a := by decide +kernel
def addN (a b : Nat) : Nat := a + b
theorem addC {x y : Nat} : (x : Int) + (y : Int) = ((addN x y : Nat) : Int) := (by unfold addN; exact (Int.natCast_add x y).symm)
theorem add_lt {a b m n : Nat} (h1 : a < m) (h2 : b < n) : addN a b < m + n := by unfold addN; omega
theorem andl_lt {a b m : Nat} (h : a < m) : a &&& b < m := Nat.lt_of_le_of_lt Nat.and_le_left h
theorem shl_le' {a k m : Nat} (h : a < m) : shrN a k < m := Nat.lt_of_le_of_lt shr_le h
def on1 (a : Nat) : Nat := addN (shrN a 1 &&& 6148914691236517205) (a &&& 6148914691236517205)
def on2 (a : Nat) : Nat := addN (shrN a 2 &&& 3689348814741910323) (a &&& 3689348814741910323)
def on3 (a : Nat) : Nat := addN (shrN a 4) a &&& 1085102592571150095
def on4 (a k : Nat) : Nat := addN a (shrN a k)
theorem on1E {a : Nat} : addN (shrN a 1 &&& 6148914691236517205) (a &&& 6148914691236517205) = on1 a := (rfl)
theorem on2E {a : Nat} : addN (shrN a 2 &&& 3689348814741910323) (a &&& 3689348814741910323) = on2 a := (rfl)
theorem on3E {a : Nat} : addN (shrN a 4) a &&& 1085102592571150095 = on3 a := (rfl)
theorem on4E {a k : Nat} : addN a (shrN a k) = on4 a k := (rfl)
theorem ones_fin : ∀ a < 1024, on4 (on4 (on4 (on3 (on2 (on1 a))) 8) 16) 32 &&& 127 = popN a := by decide +kernel
theorem c_Ones64B (a : Nat) (h : a < 1024) : Pure Tryz.prog GL 73 [.p (.int .u64 a)] (.p (.int .i64 (popN a))) := by
  refine Pure.of_walk (N := 35) Tryz.func73 rfl rfl rfl (by simp) (by first | (simp; done) | simp [*]) ?_
  simp [-Int.toNat_natCast, toNatC, addC, on1E, on2E, on3E, on4E, fd1, fd2, fd4, fd8, fd16, fd32]
  have b1 : on1 a < 1024 + 1024 := add_lt (andl_lt (shl_le' h)) (andl_lt h)
  have b2 : on2 (on1 a) < 2048 + 2048 := add_lt (andl_lt (shl_le' b1)) (andl_lt b1)
  have b3 : addN (shrN (on2 (on1 a)) 4) (on2 (on1 a)) < 4096 + 4096 := add_lt (shl_le' b2) b2
  have b4 : on3 (on2 (on1 a)) < 8192 := andl_lt b3
  have b5 : on4 (on3 (on2 (on1 a))) 8 < 8192 + 8192 := add_lt b4 (shl_le' b4)
  have b6 : on4 (on4 (on3 (on2 (on1 a))) 8) 16 < 16384 + 16384 := add_lt b5 (shl_le' b5)
  have b7 : on4 (on4 (on4 (on3 (on2 (on1 a))) 8) 16) 32 < 32768 + 32768 := add_lt b6 (shl_le' b6)
  have hfin := ones_fin a h
  refine ⟨bit_lit (shr_lt (by omega)) (by decide) (by decide), bit_lit (by omega) (by decide) (by decide), wrapu_n (by omega), bit_lit (shr_lt (by omega)) (by decide) (by decide), bit_lit (by omega) (by decide) (by decide), wrapu_n (by omega), wrapu_n (by omega), bit_lit (by omega) (by decide) (by decide), wrapu_n (by omega), wrapu_n (by omega), wrapu_n (by omega), wrap_n (by omega), bit_i64 (b := 127) (by omega) (by decide), ?_⟩
  rw [hfin]
  simp [XEndT]
theorem c_OnesB (a : Nat) (h : a < 1024) : Pure Tryz.prog GL 36 [.p (.int .u64 a)] (.p (.int .i64 (popN a))) := by
  refine Pure.of_walk (N := 8) Tryz.func36 rfl rfl rfl (by simp) (by first | (simp; done) | simp [*]) ?_
  have hA := c_Ones64B a h
  simp
  refine xcall_pure hA ?_
  simp [XEndT]
end Go.Am
/- Contracts: package hazard: checks, tables, pairs of points; chapter 8. -/
namespace Go.Am
open Go Go.Proofs Go.Pn

theorem all_care {n : Nat} {c : Cube} (h : c.Ok n) : andN c.care (p2 n - 1) = 0 := andN_zero.2 fun i hi => by
  have : i < n := bit_lt h.care hi
  unfold p2
  rw [Nat.testBit_two_pow_sub_one]
  exact decide_eq_true this
theorem all_value {n : Nat} {c : Cube} (h : c.Ok n) : andN c.value c.care = 0 := andN_zero.2 fun i hi => h.value i hi
theorem c_implicant_Check (n : Nat) (c : Cube) (hn : n ≤ 4) (hc : c.Ok n) : Pure Tryz.prog GL 85 [.p (.int .i64 n), c.av] (.p (.int .i64 0)) := by
  refine Pure.of_walk (N := 27) Tryz.func85 rfl rfl rfl (by simp) (by first | (simp; done) | simp [*]) ?_
  have hA := c_implicant_all n hn
  have hp := @p2_pos n
  have h16 := p2_16 hn
  rw [show ((p2 n : Nat) : Int) - 1 = ((p2 n - 1 : Nat) : Int) by omega] at hA
  obtain ⟨hc1, hc2⟩ := cube_small hc hn
  have h1 : ¬ (n : Int) < 0 := by omega
  have h2 : ¬ (6 : Int) < n := by omega
  have e1 := all_care hc
  have e2 := all_value hc
  simp [h1, h2]
  refine XDraw.intro (by kernel_rfl) ?_
  simp
  refine xcall_pure hA ?_
  simp [e1, e2]
  refine ⟨bit_u64 (by omega) (by omega), bit_u64 (by omega) (by omega), .of (by kernel_rfl), ?_⟩
  simp [XEndT]
theorem c_hazard_Check (n : Nat) (L : List Cube) (hn : n ≤ 4) (hL : L.length ≤ 256) (hok : ∀ c ∈ L, c.Ok n) : Pure Tryz.prog GL 43 [.p (.int .i64 n), .p (.lst 2 (L.map Cube.enc))] (.p (.int .i64 0)) := by
  refine Pure.of_walk (N := 32) Tryz.func43 rfl rfl rfl (by simp) (by first | (simp; done) | simp [*]) ?_
  have h1 : ¬ (n : Int) < 0 := by omega
  have h2 : ¬ (6 : Int) < n := by omega
  have h3 : ¬ (256 : Int) < L.length := by omega
  simp [h1, h2, h3]
  refine XLoop.go [0, 19, 20] [] 0 [] (fun _ => []) (fun _ (k : Nat) => [(21, .p (.int .i64 k))]) (fun _ _ => []) (fun k => k ≤ L.length) (fun k => L.length - k) 0 (by omega) ?_ ?_
  · simp
    try decide
  intro k hk
  simp
  refine xif_split (fun h => ?_) (fun h => ?_)
  · simp at h
    obtain ⟨c, e⟩ := get_lt h
    have hC := c_implicant_Check n c hn (hok c (List.mem_of_getElem? e))
    simp [h, e, -getElem?_pos, List.getElem?_cons_zero, List.getElem?_cons_succ]
    refine xcall_pure hC ?_
    simp
    exact ⟨wrap_i64 (by omega) (by omega), k + 1, by omega, by omega, by omega⟩
  · simp [XEndT]
theorem c_minimal_checked (n : Nat) (L : List Cube) (hn : n ≤ 4) (hL : L.length ≤ 256) (hok : ∀ c ∈ L, c.Ok n) : Pure Tryz.prog GL 70 [.p (.int .i64 n), .p (.lst 2 (L.map Cube.enc))] (.p (.int .i64 0)) := by
  refine Pure.of_walk (N := 24) Tryz.func70 rfl rfl rfl (by simp) (by first | (simp; done) | simp [*]) ?_
  have h3 : ¬ (256 : Int) < L.length := by omega
  simp [h3]
  refine XLoop.go [0, 11, 12] [] 0 [] (fun _ => []) (fun _ (k : Nat) => [(13, .p (.int .i64 k))]) (fun _ _ => []) (fun k => k ≤ L.length) (fun k => L.length - k) 0 (by omega) ?_ ?_
  · simp
    try decide
  intro k hk
  simp
  refine xif_split (fun h => ?_) (fun h => ?_)
  · simp at h
    obtain ⟨c, e⟩ := get_lt h
    have hC := c_implicant_Check n c hn (hok c (List.mem_of_getElem? e))
    simp [h, e, -getElem?_pos, List.getElem?_cons_zero, List.getElem?_cons_succ]
    refine xcall_pure hC ?_
    simp
    exact ⟨wrap_i64 (by omega) (by omega), k + 1, by omega, by omega, by omega⟩
  · simp [XEndT]
def litN (L : List Cube) : Nat := litT L L.length
theorem c_minimal_Literals (n : Nat) (L : List Cube) (hn : n ≤ 4) (hL : L.length ≤ 256) (hok : ∀ c ∈ L, c.Ok n) : Pure Tryz.prog GL 34 [.p (.int .i64 n), .p (.lst 2 (L.map Cube.enc))] (.tup [.p (.int .i64 (litN L)), .p (.int .i64 0)]) := by
  refine Pure.of_walk (N := 21) Tryz.func34 rfl rfl rfl (by simp) (by first | (simp; done) | simp [*]) ?_
  have h1 : ¬ (n : Int) < 0 := by omega
  have h2 : ¬ (6 : Int) < n := by omega
  have hA := c_minimal_checked n L hn hL hok
  have hB := c_minimal_literals L (by omega) (fun c hc => (cube_small (hok c hc) hn).1)
  simp [h1, h2]
  refine xcall_pure hA ?_
  simp
  refine xcall_pure hB ?_
  simp [XEndT, litN]
theorem c_hazard_in (c : Cube) (k : Nat) (hk : k < 2 ^ 62) (h1 : c.care < 2 ^ 64) : Pure Tryz.prog GL 76 [c.av, .p (.int .i64 k)] (.p (.bool (c.has k))) := by
  refine Pure.of_walk (N := 13) Tryz.func76 rfl rfl rfl (by simp) (by first | (simp; done) | simp [*]) ?_
  simp
  refine ⟨wrapu_n (by omega), bit_u64 (by omega) h1, ?_⟩
  simp [XEndT, Cube.has]
  exact Int.ofNat_inj
theorem c_IdxF_Cube (xs : List Cube) (q : Cube → Bool) (m : Nat) (cap : List AV) (hcap : pureL cap = true) (hl : xs.length < 4611686018427387904) (hq : ∀ x ∈ xs, Pure Tryz.prog GL m ((Cube.av x) :: cap) (.p (.bool (q x)))) : Pure Tryz.prog GL 45 [.p (.lst 2 (xs.map Cube.enc)), .fn (.func m) cap] (.p (.int .i64 (idxI xs q))) := by
  refine Pure.of_walk (N := 19) Tryz.func45 rfl rfl rfl (by simp) (by first | (simp; done) | simp [*]) ?_
  have hren := fun ρ => (renA_pure (ρ := ρ)).2 cap hcap
  simp
  refine XLoop.go [0, 1, 7] [] 0 [] (fun _ => []) (fun _ (k : Nat) => [(8, .p (.int .i64 k))]) (fun _ _ => []) (fun k => k ≤ xs.length ∧ ∀ (j : Nat) x, j < k → xs[j]? = some x → q x = false) (fun k => xs.length - k) 0 ⟨by omega, fun j b h => by omega⟩ ?_ ?_
  · simp [hren]
  · rintro k ⟨hk, hp⟩
    simp
    refine xif_split (fun h => ?_) (fun h => ?_)
    · simp at h
      obtain ⟨x, e⟩ := get_lt h
      simp [h, e, -getElem?_pos, List.getElem?_cons_zero, List.getElem?_cons_succ]
      refine xcall_pure (hq x (List.mem_of_getElem? e)) ?_
      simp
      refine xif_split (fun h2 => ?_) (fun h2 => ?_)
      · simp [XEndT, idxI_at e h2 hp]
      · simp [hren]
        refine ⟨wrap_i64 (by omega) (by omega), k + 1, ⟨by omega, below_next hp e h2⟩, by omega, ?_⟩
        simp [hren]
    · simp at h
      have hk2 : k = xs.length := by omega
      subst hk2
      simp [XEndT, idxI_none (below_all hp)]

theorem c_ConF_Cube (xs : List Cube) (q : Cube → Bool) (m : Nat) (cap : List AV) (hcap : pureL cap = true) (hl : xs.length < 4611686018427387904) (hq : ∀ x ∈ xs, Pure Tryz.prog GL m ((Cube.av x) :: cap) (.p (.bool (q x)))) : Pure Tryz.prog GL 74 [.p (.lst 2 (xs.map Cube.enc)), .fn (.func m) cap] (.p (.bool (xs.any q))) := by
  refine Pure.of_walk (N := 9) Tryz.func74 rfl rfl rfl (by simp) (by first | (simp; done) | simp [*]) ?_
  simp
  refine xcall_pure (c_IdxF_Cube xs q m cap hcap hl hq) ?_
  simp [XEndT]
  rw [Bool.eq_iff_iff]
  simp [idxI_nonneg]
theorem c_hazard_table_1 (c : Cube) (k : Nat) (hk : k < 2 ^ 62) (h1 : c.care < 2 ^ 64) : Pure Tryz.prog GL 75 [c.av, .iptr 1 [[.int .i64 k]] 0 0] (.p (.bool (c.has k))) := by
  refine Pure.of_walk (N := 7) Tryz.func75 rfl rfl rfl (by simp) (by first | (simp; done) | simp [*]) ?_
  have hI := c_hazard_in c k hk h1
  simp
  refine xcall_pure hI ?_
  simp [XEndT]
theorem tabF_fold {n : Nat} {L : List Cube} : foldB (fun k => L.any fun c => c.has k) (p2 n) = tabF n L := rfl
theorem c_hazard_table (n : Nat) (L : List Cube) (hn : n ≤ 4) (hL : L.length ≤ 256) (hok : ∀ c ∈ L, c.Ok n) : Pure Tryz.prog GL 37 [.p (.int .i64 n), .p (.lst 2 (L.map Cube.enc))] (.agg [.p (.int .i64 n), .p (.int .u64 (tabF n L))]) := by
  refine Pure.of_walk (N := 25) Tryz.func37 rfl rfl rfl (by simp) (by first | (simp; done) | simp [*]) ?_
  have h16 := p2_16 hn
  simp
  refine ⟨⟨by omega, wrap_n (by omega)⟩, ?_⟩
  refine XLoop.go [1, 4, 5, 10] [0] 0 [] (fun _ => []) (fun _ (k : Nat) => [(11, .p (.int .i64 k))]) (fun _ k => [(1, some (tabC n (foldB (fun k => L.any fun c => c.has k) k)))]) (fun k => k ≤ p2 n) (fun k => p2 n - k) 0 (by omega) ?_ ?_
  · simp [foldB_zero, tabC]
    try decide
  intro k hk
  have hlt := @foldB_lt (fun k => L.any fun c => c.has k) k (by omega)
  have hsn := @foldB_snoc (fun k => L.any fun c => c.has k) k
  simp [tabC]
  refine xif_split (fun h => ?_) (fun h => ?_)
  · simp at h
    have hC := c_ConF_Cube L (fun c => c.has k) 75 [.iptr 1 [[.int .i64 k]] 0 0] rfl (by omega) (fun c hc => c_hazard_table_1 c k (by omega) (by have := (cube_small (hok c hc) hn).1; omega))
    simp
    refine xcall_lent ?_
    simp
    refine ⟨_, hC, rfl, ?_⟩
    cases hv : L.any fun c => c.has k with
    | false =>
      have e : foldB (fun k => L.any fun c => c.has k) (k + 1) = foldB (fun k => L.any fun c => c.has k) k := by rw [hsn]; unfold stepB; rw [if_neg (show ¬ (L.any fun c => c.has k) = true by rw [hv]; exact Bool.false_ne_true)]
      simp
      refine ⟨wrap_i64 (by omega) (by omega), k + 1, by omega, by omega, by omega, ?_⟩
      rw [e]
      exact .inl rfl
    | true =>
      have e : foldB (fun k => L.any fun c => c.has k) (k + 1) = foldB (fun k => L.any fun c => c.has k) k ||| p2 k := by rw [hsn]; unfold stepB; rw [if_pos hv]
      simp
      refine XDraw.intro (by kernel_rfl) ?_
      simp
      refine ⟨⟨by omega, wrapu_n (p2_u64 (by omega))⟩, bit_u64 hlt (p2_u64 (by omega)), .of (by kernel_rfl), wrap_i64 (by omega) (by omega), k + 1, by omega, by omega, by omega, ?_⟩
      rw [e]
      exact .inl rfl
  · simp at h
    have hkn : k = p2 n := by omega
    subst hkn
    rw [tabF_fold]
    simp [XEndT]
end Go.Am
/- Contracts: package hazard: pairs, together; chapter 8. -/
namespace Go.Am
open Go Go.Proofs Go.Pn

abbrev Pr := Nat × Nat
@[simp] def prow (p : Pr) : List AV := [.p (.int .i64 p.1), .p (.int .i64 p.2)]
@[simp] def penc (p : Pr) : List PV := [.int .i64 p.1, .int .i64 p.2]
@[simp] def pav (p : Pr) : AV := .agg [.p (.int .i64 p.1), .p (.int .i64 p.2)]
theorem c_hazard_value (n b k : Nat) (hb : b < 2 ^ 64) (hk : k < 64) : Pure Tryz.prog GL 109 [.agg [.p (.int .i64 n), .p (.int .u64 b)], .p (.int .i64 k)] (.p (.bool (b.testBit k))) := by
  refine Pure.of_walk (N := 11) Tryz.func109 rfl rfl rfl (by simp) (by first | (simp; done) | simp [*]) ?_
  simp
  refine ⟨by omega, bit_one (shr_lt hb), ?_⟩
  simp [XEndT]
theorem ok_small {n : Nat} (hn : n ≤ 4) {c : Cube} (h : c.Ok n) : c.care < 2 ^ 64 := by have := (cube_small h hn).1; omega
theorem c_hazard_together_1 (c : Cube) (p : Pr) (h1 : c.care < 2 ^ 64) (hp : p.1 < 2 ^ 62 ∧ p.2 < 2 ^ 62) : Pure Tryz.prog GL 86 [c.av, .iptr 2 [penc p] 0 0] (.p (.bool (c.has p.1 && c.has p.2))) := by
  refine Pure.of_walk (N := 14) Tryz.func86 rfl rfl rfl (by simp) (by first | (simp; done) | simp [*]) ?_
  have hA := c_hazard_in c p.1 hp.1 h1
  have hB := c_hazard_in c p.2 hp.2 h1
  simp
  refine xcall_pure hA ?_
  cases h : c.has p.1 with
  | false => simp [XEndT]
  | true =>
    simp
    refine xcall_pure hB ?_
    simp [XEndT]
theorem c_hazard_together (L : List Cube) (p : Pr) (hL : L.length ≤ 1000) (hc : ∀ c ∈ L, c.care < 2 ^ 64) (hp : p.1 < 2 ^ 62 ∧ p.2 < 2 ^ 62) : Pure Tryz.prog GL 44 [.p (.lst 2 (L.map Cube.enc)), pav p] (.p (.bool (togB L p))) := by
  refine Pure.of_walk (N := 8) Tryz.func44 rfl rfl rfl (by simp) (by first | (simp; done) | simp [*]) ?_
  have hC := c_ConF_Cube L (fun c => c.has p.1 && c.has p.2) 86 [.iptr 2 [penc p] 0 0] rfl (by omega) (fun c h => c_hazard_together_1 c p (hc c h) hp)
  simp
  refine xcall_given ?_
  simp
  refine ⟨_, hC, ?_⟩
  simp [XEndT, togB]
def pairsU (n b a : Nat) : List Pr := (List.range a).flatMap fun a => pairsA n b a
def pairsI (b a i : Nat) : List Pr := (List.range i).flatMap fun i => pairsR b a i
theorem pairsU_snoc {n b a : Nat} : pairsU n b (a + 1) = pairsU n b a ++ pairsI b a n := by unfold pairsU; rw [List.range_succ, List.flatMap_append]; simp [pairsA, pairsI]
theorem pairsI_snoc {b a i : Nat} : pairsI b a (i + 1) = pairsI b a i ++ pairsR b a i := by unfold pairsI; rw [List.range_succ, List.flatMap_append]; simp
theorem pairsI_zero {b a : Nat} : pairsI b a 0 = [] := rfl
theorem pairsU_zero {n b : Nat} : pairsU n b 0 = [] := rfl
theorem pairsU_all {n b : Nat} : pairsU n b (p2 n) = pairsL n b := rfl
theorem pairsR_len {b a i : Nat} : (pairsR b a i).length ≤ 1 := by unfold pairsR; split <;> simp
theorem pairsI_len {b a : Nat} : ∀ {i : Nat}, (pairsI b a i).length ≤ i
  | 0 => Nat.le_refl _
  | i + 1 => by
    have := @pairsI_len b a i
    have := @pairsR_len b a i
    rw [pairsI_snoc, List.length_append]; omega
theorem pairsU_len {n b : Nat} (hn : n ≤ 4) : ∀ {a : Nat}, (pairsU n b a).length ≤ a * 4
  | 0 => Nat.le_refl _
  | a + 1 => by
    have := @pairsU_len n b hn a
    have := @pairsI_len b a n
    rw [pairsU_snoc, List.length_append]; omega
theorem acc_sameK {α : Type} {ρ : List Nat} {k : Nat} {f : α → List AV} {L : List α} (hf : ∀ x, pureL (f x) = true) : (match accB k (L.map f) with
    | some y => withSome (renB ρ y) fun y' => accB k (L.map f) = some y'
    | none => True) := by
  by_cases h : L = []
  · subst h; exact trivial
  · have e : accB k (L.map f) = some (.cells k (L.map f)) := by simp [accB, h]
    have e3 : renB ρ (.cells k (L.map f)) = some (.cells k (L.map f)) := by show (renR _ _).map _ = _; rw [renR_map hf]; rfl
    rw [e]
    simp [-renB, e3]
theorem or_lt64 {n a i : Nat} (hn : n ≤ 4) (ha : a < p2 n) (hi : i < n) : a ||| p2 i < 64 := by
  have h16 := p2_16 hn
  have h1 : p2 i < 2 ^ 4 := Nat.pow_lt_pow_right (by decide) (by omega)
  have h2 : a ||| p2 i < 2 ^ 4 := Nat.or_lt_two_pow (by omega) h1
  omega
theorem g_pairs (n b : Nat) (hn : n ≤ 4) (hb : b < 2 ^ 64) (s : Store) (nx : Nat) :
    Gives Tryz.prog GL 78 [.agg [.p (.int .i64 n), .p (.int .u64 b)]] s nx (.acc nx 2 (pairsL n b).length) [] [(nx, accB 2 ((pairsL n b).map prow))] (nx + 1) := by
  have h16 := p2_16 hn
  refine Gives.mk_walkK (N := 44) (args := [.agg [.p (.int .i64 n), .p (.int .u64 b)]]) [] [] [] [(0, accB 2 ((pairsL n b).map prow))] 0 1 (.acc 0 2 (pairsL n b).length) (nms [2]) (up1 := [(nx, accB 2 ((pairsL n b).map prow))]) Tryz.func78 rfl rfl rfl (by simp) rfl (by simp) (by simp) (by simp) (renS_acc rfl (renR_map fun _ => rfl)) (by simp) rfl ?_
  simp
  refine ⟨⟨by omega, wrap_n (by omega)⟩, ?_⟩
  refine XLoop.go [1, 9] [0] 1 [1] (nms [3]) (fun nx (a : Nat) => [(3, .acc nx 2 (pairsU n b a).length), (10, .p (.int .i64 a))]) (fun nx a => [(nx, accB 2 ((pairsU n b a).map prow))]) (fun a => a ≤ p2 n) (fun a => p2 n - a) 0 (by omega) ?_ ?_
  · simp [pairsU_zero]
    try decide
  intro a ha
  have hl1 := @pairsU_len n b hn a
  have hsU := @pairsU_snoc n b a
  simp
  refine xif_split (fun h => ?_) (fun h => ?_)
  · simp at h
    simp
    refine XLoop.gor [1, 4, 9, 10, 14] [0] [0, 1] (fun st => [0, nameOf (slot st.t 3)]) (fun (i : Nat) => [(3, .acc 1 2 (pairsU n b a ++ pairsI b a i).length), (15, .p (.int .i64 i))]) (fun i => [(1, accB 2 ((pairsU n b a ++ pairsI b a i).map prow))]) (fun i => i ≤ n) (fun i => n - i) 0 (by omega) ?_ ?_
    · simp [pairsI_zero]
      try decide
    intro i hi
    have hl2 := @pairsI_len b a i
    have hsI := @pairsI_snoc b a i
    simp
    refine xif_split (fun h2 => ?_) (fun h2 => ?_)
    · simp at h2
      have h64 := or_lt64 hn h h2
      have hp : p2 i ≤ 16 := p2_16 (by omega)
      have hV1 := c_hazard_value n b a hb (by omega)
      have hV2 := c_hazard_value n b (a ||| p2 i) hb h64
      have hR : pairsR b a i = if decide (a ||| p2 i ≠ a) && b.testBit a && b.testBit (a ||| p2 i) then [(a, a ||| p2 i)] else [] := rfl
      rw [hR] at hsI
      simp
      refine ⟨⟨by omega, wrap_n (by omega)⟩, bit_i64 (by omega) (by omega), ?_⟩
      by_cases hq : a ||| p2 i = a
      · rw [if_neg (by simp [hq]), List.append_nil] at hsI
        simp [hq]
        refine ⟨wrap_i64 (by omega) (by omega), i + 1, by omega, by omega, ⟨by rw [hsI], by omega⟩, acc_ok (fun _ => rfl) ?_⟩
        rw [hsI]
        simp
      · have hq2 : ¬ ((a ||| p2 i : Nat) : Int) = a := by omega
        simp [hq2]
        refine xcall_pure hV1 ?_
        cases hv1 : b.testBit a with
        | false =>
          rw [hv1, if_neg (by simp), List.append_nil] at hsI
          simp
          refine ⟨wrap_i64 (by omega) (by omega), i + 1, by omega, by omega, ⟨by rw [hsI], by omega⟩, acc_ok (fun _ => rfl) ?_⟩
          rw [hsI]
          simp
        | true =>
          simp
          refine xcall_pure hV2 ?_
          cases hv2 : b.testBit (a ||| p2 i) with
          | false =>
            rw [hv2, if_neg (by simp), List.append_nil] at hsI
            simp
            refine ⟨wrap_i64 (by omega) (by omega), i + 1, by omega, by omega, ⟨by rw [hsI], by omega⟩, acc_ok (fun _ => rfl) ?_⟩
            rw [hsI]
            simp
          | true =>
            rw [hv1, hv2, if_pos (by simp [hq])] at hsI
            simp
            refine ⟨by omega, ⟨fun x u v _ e => by rw [← e]; rfl, fun x u v _ e => by rw [← e]; rfl⟩, wrap_i64 (by omega) (by omega), i + 1, by omega, by omega, ⟨by rw [hsI]; simp; omega, by omega⟩, acc_ok (fun _ => rfl) ?_⟩
            rw [hsI]
            simp
    · simp at h2
      have hin : i = n := by omega
      rw [hin] at *
      simp
      refine ⟨wrap_i64 (by omega) (by omega), a + 1, by omega, by omega, ⟨by rw [hsU]; simp, by omega⟩, acc_ok1 (fun _ => rfl) ?_⟩
      rw [hsU]
      simp
  · simp at h
    have han : a = p2 n := by omega
    subst han
    rw [pairsU_all]
    simp
    exact acc_sameK fun _ => rfl
end Go.Am
/- Contracts: package hazard: hazards; slices.DeleteFunc at pairs; chapter 8. -/
namespace Go.Am
open Go Go.Proofs Go.Pn

@[simp] theorem unpR_prow {l : List Pr} : unpR (l.map prow) = some (l.map penc) := unpR_map (f := prow) (g := penc) (fun _ => rfl) l
theorem c_IdxF_Pair (xs : List Pr) (q : Pr → Bool) (m : Nat) (cap : List AV) (hcap : pureL cap = true) (hl : xs.length < 4611686018427387904) (hq : ∀ x ∈ xs, Pure Tryz.prog GL m ((pav x) :: cap) (.p (.bool (q x)))) : Pure Tryz.prog GL 108 [.p (.lst 2 (xs.map penc)), .fn (.func m) cap] (.p (.int .i64 (idxI xs q))) := by
  refine Pure.of_walk (N := 19) Tryz.func108 rfl rfl rfl (by simp) (by first | (simp; done) | simp [*]) ?_
  have hren := fun ρ => (renA_pure (ρ := ρ)).2 cap hcap
  simp
  refine XLoop.go [0, 1, 7] [] 0 [] (fun _ => []) (fun _ (k : Nat) => [(8, .p (.int .i64 k))]) (fun _ _ => []) (fun k => k ≤ xs.length ∧ ∀ (j : Nat) x, j < k → xs[j]? = some x → q x = false) (fun k => xs.length - k) 0 ⟨by omega, fun j b h => by omega⟩ ?_ ?_
  · simp [hren]
  · rintro k ⟨hk, hp⟩
    simp
    refine xif_split (fun h => ?_) (fun h => ?_)
    · simp at h
      obtain ⟨x, e⟩ := get_lt h
      simp [h, e, -getElem?_pos, List.getElem?_cons_zero, List.getElem?_cons_succ]
      refine xcall_pure (hq x (List.mem_of_getElem? e)) ?_
      simp
      refine xif_split (fun h2 => ?_) (fun h2 => ?_)
      · simp [XEndT, idxI_at e h2 hp]
      · simp [hren]
        refine ⟨wrap_i64 (by omega) (by omega), k + 1, ⟨by omega, fun j a b hj e2 => below_next hp e h2 j (a, b) hj e2⟩, by omega, ?_⟩
        simp [hren]
    · simp at h
      have hk2 : k = xs.length := by omega
      subst hk2
      simp [XEndT, idxI_none (below_all hp)]

theorem c_hazard_hazards_1 (p : Pr) (L : List Cube) (hL : L.length ≤ 1000) (hc : ∀ c ∈ L, c.care < 2 ^ 64) (hp : p.1 < 2 ^ 62 ∧ p.2 < 2 ^ 62) : Pure Tryz.prog GL 79 [pav p, .iptr 1 [[.lst 2 (L.map Cube.enc)]] 0 0] (.p (.bool (togB L p))) := by
  refine Pure.of_walk (N := 7) Tryz.func79 rfl rfl rfl (by simp) (by first | (simp; done) | simp [*]) ?_
  have hT := c_hazard_together L p hL hc hp
  simp
  refine xcall_pure hT ?_
  simp [XEndT]
def kptF (f : Pr → Bool) (l : List Pr) : List Pr := l.filter fun x => !f x
theorem kptF_snoc {f : Pr → Bool} {l : List Pr} {i : Nat} {x : Pr} (e : l[i]? = some x) : kptF f (l.take (i + 1)) = kptF f (l.take i) ++ (if f x then [] else [x]) := by
  unfold kptF
  rw [take_snoc e, List.filter_append, List.filter_cons, List.filter_nil]
  cases f x <;> simp
theorem idxN_neg {α : Type} {xs : List α} {q : α → Bool} (h : idxI xs q = -1) : ∀ x ∈ xs, q x = false := by
  unfold idxI at h
  cases hf : xs.findIdx? q with
  | none => exact List.findIdx?_eq_none_iff.1 hf
  | some i => rw [hf] at h; simp at h
theorem idxN_pos {α : Type} {xs : List α} {q : α → Bool} (h : ¬ idxI xs q = -1) : ∃ (k : Nat) (x : α), idxI xs q = k ∧ xs[k]? = some x ∧ q x = true ∧ ∀ (j : Nat) y, j < k → xs[j]? = some y → q y = false := by
  cases hf : xs.findIdx? q with
  | none => rw [idxI, hf] at h; exact (h rfl).elim
  | some i =>
    obtain ⟨h1, h2, h3⟩ := List.findIdx?_eq_some_iff_getElem.1 hf
    refine ⟨i, xs[i], by rw [idxI, hf], List.getElem?_eq_getElem h1, h2, fun j y hj hy => ?_⟩
    have := h3 j hj
    obtain ⟨hj1, rfl⟩ := List.getElem?_eq_some_iff.1 hy
    simpa using this
theorem delp_ref (l : List Pr) (L : List Cube) (f : Pr → Bool) (m : Nat) (hf : ∀ x ∈ l, Pure Tryz.prog GL m [pav x, .iptr 1 [[.lst 2 (L.map Cube.enc)]] 0 0] (.p (.bool (f x)))) (b qb : Nat) (s : Store) (nx : Nat) (hb : b < nx) (hqb : qb < nx) (hne : b ≠ qb) (h0 : 0 < l.length) (hl : l.length < 100000)
    (hg : get s b = some (.cells 2 (l.map prow))) (hgq : get s qb = some (.cells 1 [[.p (.lst 2 (L.map Cube.enc))]])) :
    Gives Tryz.prog GL 77 [.ref b 2 0 l.length none, .fn (.func m) [.ptr qb 1 0 0]] s nx (.p (.lst 2 ((kptF f l).map penc))) [b, qb] [(b, none), (qb, none)] nx := by
  refine Gives.of_walkF (N := 42) (args := [.ref 0 2 0 l.length none, .fn (.func m) [.ptr 1 1 0 0]]) (σ := [b, qb]) (s0 := [(0, some (.cells 2 (l.map prow))), (1, some (.cells 1 [[.p (.lst 2 (L.map Cube.enc))]]))]) (m := 2) Tryz.func77 rfl rfl rfl (by simp) rfl (by simp [hg, hb, hgq, hqb, hne]; try (intro q hq; match q, hq with | 0, _ => simp | 1, _ => simp)) (by simp) rfl ?_
  simp
  refine xcall_lent ?_
  simp
  refine ⟨_, c_IdxF_Pair l f m [.iptr 1 [[.lst 2 (L.map Cube.enc)]] 0 0] rfl (by omega) hf, rfl, ?_⟩
  simp
  refine xif_split (fun h => ?_) (fun h => ?_)
  · simp at h
    have hk : kptF f l = l := by
      unfold kptF
      rw [List.filter_eq_self]
      intro x hx
      have := idxN_neg h x hx
      simp [this]
    simp [XEndT, hk]
  · simp at h
    obtain ⟨k, x0, hk1, hk2, hk3, hk4⟩ := idxN_pos h
    have hk0 : k < l.length := (List.getElem?_eq_some_iff.1 hk2).1
    have hkt : kptF f (l.take (k + 1)) = l.take k := by
      rw [kptF_snoc hk2, hk3]
      simp [kptF]
      intro u v hx
      obtain ⟨j, hj, e⟩ := List.getElem_of_mem hx
      rw [List.length_take] at hj
      rw [List.getElem_take] at e
      exact hk4 j (u, v) (by omega) (by rw [List.getElem?_eq_getElem (by omega), e])
    rw [hk1]
    simp
    refine ⟨wrap_i64 (by omega) (by omega), ?_⟩
    refine XLoop.go [0, 1] [1] 0 [] (fun _ => []) (fun _ (g : List Pr × Nat) => [(5, .p (.int .i64 (kptF f (l.take g.2)).length)), (6, .p (.int .i64 g.2))]) (fun _ g => [(0, some (.cells 2 (g.1.map prow)))]) (fun g => g.1.length = l.length ∧ g.2 ≤ l.length ∧ (kptF f (l.take g.2)).length < g.2 ∧ g.1.take (kptF f (l.take g.2)).length = kptF f (l.take g.2) ∧ g.1.drop g.2 = l.drop g.2) (fun g => l.length - g.2) (l, k + 1) ⟨rfl, by simp; omega, by simp [hkt]; omega, by simp [hkt], rfl⟩ ?_ ?_
    · simp [hkt]
      omega
    · rintro ⟨Q, j⟩ ⟨h1, h2, h3, h4, h5⟩
      simp at h1 h2 h3 h4 h5
      have hks := fun (x : Pr) (e : l[j]? = some x) => kptF_snoc (f := f) e
      have hkend : j = l.length → kptF f (l.take j) = kptF f l := fun e => by rw [e, List.take_length]
      generalize hA : kptF f (l.take j) = A at *
      simp
      refine xif_split (fun h => ?_) (fun h => ?_)
      · simp at h
        obtain ⟨x, e⟩ := get_lt h
        have eQ : Q[j]? = some x := by
          have := congrArg (·[0]?) h5
          simpa [e] using this
        have hks := hks x e
        simp [h, eQ, h1, -getElem?_pos, List.getElem?_cons_zero, List.getElem?_cons_succ]
        refine xcall_lent ?_
        simp
        refine ⟨_, hf x (List.mem_of_getElem? e), rfl, ?_⟩
        simp
        have hkA : A.length < l.length := by omega
        have hf9 : (0 : Int) ≤ A.length := by omega
        refine xif_split (fun h6 => ?_) (fun h6 => ?_)
        · simp at h6
          simp [h1, hkA]
          have t1 : (Q.set A.length x).take A.length = A := by rw [List.take_set, List.set_eq_of_length_le (by simp; omega), h4]
          have t2 : (Q.set A.length x)[A.length]? = some x := by rw [List.getElem?_set_self (by omega)]
          have t3 := take_snoc t2
          rw [t1] at t3
          have t4 : (Q.set A.length x).drop (j + 1) = l.drop (j + 1) := by
            rw [List.drop_set, if_pos (by omega)]
            have := congrArg (List.drop 1) h5
            simpa [List.drop_drop] using this
          have t5 : kptF f (l.take (j + 1)) = A ++ [x] := by rw [hks, h6]; rfl
          refine ⟨wrap_i64 (by omega) (by omega), wrap_i64 (by omega) (by omega), Q.set A.length x, j + 1, ⟨by simp [h1], by omega, by rw [t5]; simp; omega, by rw [t5]; simpa using t3, t4⟩, by omega, ⟨by rw [t5]; simp, by simp⟩, ?_⟩
          rw [List.map_set]
          exact wknR_refl _
        · simp at h6
          simp
          have t4 : Q.drop (j + 1) = l.drop (j + 1) := by
            have := congrArg (List.drop 1) h5
            simpa [List.drop_drop] using this
          have t5 : kptF f (l.take (j + 1)) = A := by rw [hks, h6]; simp
          exact ⟨wrap_i64 (by omega) (by omega), Q, j + 1, ⟨h1, by omega, by rw [t5]; omega, by rw [t5]; exact h4, t4⟩, by omega, ⟨by rw [t5], by simp⟩, wknR_refl _⟩
      · simp at h
        have hj : j = l.length := by omega
        have hA2 := hkend hj
        have h8 : ¬ (¬ A = [] ∧ A.length = l.length) := by omega
        have h9 : A.length ≤ l.length := by omega
        simp [h1, h8, h9]
        refine ⟨by omega, fun r u v _ e => by rw [← e]; rfl, ?_⟩
        have hlay : (layRows (List.map prow Q) A.length (List.replicate (l.length - A.length) [AV.p (PV.int IntKind.i64 0), AV.p (PV.int IntKind.i64 0)])).take A.length = A.map prow := by
          rw [layRows, List.take_append_of_le_length (by simp; omega), List.take_take, Nat.min_self, ← List.map_take, h4]
        simp [XEndT, hlay, ← hA2]
theorem VR.nils_lstN {φ : Places} {own : Nat → Prop} {w : World} {k : Nat} {v : Value} (h : VR φ own w .nils v) : VR φ own w (.p (.lst k [])) v := by
  obtain ⟨a, rfl⟩ := h.nils_inv
  exact .p _ _ (.lst0 ..)
theorem Pure.nils_firstN {P : Program} {G : Globs} {f k : Nat} {rest : List AV} {r : AV} (h : Pure P G f (.p (.lst k []) :: rest) r) : Pure P G f (.nils :: rest) r := by
  refine ⟨h.pure, fun own w vs a b hl hv => h.run own w vs a b hl fun i x v hx hv' => ?_⟩
  cases i with
  | zero => simp at hx; subst hx; exact (hv 0 _ v rfl hv').nils_lstN
  | succ i => exact hv (i + 1) x v (by simpa using hx) hv'
theorem delp_nil (L : List Cube) (f : Pr → Bool) (m : Nat) (hf : ∀ x ∈ ([] : List Pr), Pure Tryz.prog GL m [pav x, .iptr 1 [[.lst 2 (L.map Cube.enc)]] 0 0] (.p (.bool (f x)))) (qb : Nat) (s : Store) (nx : Nat) (hqb : qb < nx) (hgq : get s qb = some (.cells 1 [[.p (.lst 2 (L.map Cube.enc))]])) :
    Gives Tryz.prog GL 77 [.nils, .fn (.func m) [.ptr qb 1 0 0]] s nx (.p (.lst 2 [])) [qb] [(qb, none)] nx := by
  refine Gives.of_walkF (N := 42) (args := [.nils, .fn (.func m) [.ptr 0 1 0 0]]) (σ := [qb]) (s0 := [(0, some (.cells 1 [[.p (.lst 2 (L.map Cube.enc))]]))]) (m := 1) Tryz.func77 rfl rfl rfl (by simp) rfl (by simp [hgq, hqb]) (by simp) rfl ?_
  simp
  refine xcall_lent ?_
  simp
  refine ⟨_, (c_IdxF_Pair [] f m [.iptr 1 [[.lst 2 (L.map Cube.enc)]] 0 0] rfl (by simp) hf).nils_firstN, rfl, ?_⟩
  simp [idxI, XEndT]
theorem g_DelPair (l : List Pr) (L : List Cube) (f : Pr → Bool) (m : Nat) (hf : ∀ x ∈ l, Pure Tryz.prog GL m [pav x, .iptr 1 [[.lst 2 (L.map Cube.enc)]] 0 0] (.p (.bool (f x)))) (b qb : Nat) (s : Store) (nx : Nat) (hb : b < nx) (hqb : qb < nx) (hne : b ≠ qb) (hl : l.length < 100000)
    (hg : get s b = accB 2 (l.map prow)) (hgq : get s qb = some (.cells 1 [[.p (.lst 2 (L.map Cube.enc))]])) :
    Gives Tryz.prog GL 77 [.acc b 2 l.length, .fn (.func m) [.ptr qb 1 0 0]] s nx (.p (.lst 2 ((kptF f l).map penc))) [b, qb] [(b, none), (qb, none)] nx := by
  refine Gives.of_acc (fun h => ?_) (fun h => ?_)
  · have e : l = [] := List.length_eq_zero_iff.1 h
    subst e
    refine Gives.more (delp_nil L f m hf qb s nx hqb hgq) (by simp) fun s1 hag c => ?_
    have hbn : get s1 b = none := by
      have := hag b (by simp)
      rw [this, hg]; rfl
    by_cases e1 : c = b
    · subst e1
      simp [get, Ne.symm hne, hbn]
    · simp [get, Ne.symm e1]
  · have hac : accB 2 (l.map prow) = some (.cells 2 (l.map prow)) := by
      rw [accB, if_neg]
      intro e
      rw [List.map_eq_nil_iff] at e
      subst e
      simp at h
    exact delp_ref l L f m hf b qb s nx hb hqb hne h hl (by rw [hg, hac]) hgq
theorem haz_kpt {n : Nat} {L : List Cube} : kptF (togB L) (pairsL n (tabF n L)) = hazL n L := rfl
theorem pairs_small {n b : Nat} (hn : n ≤ 4) {p : Pr} (h : p ∈ pairsL n b) : p.1 < 64 ∧ p.2 < 64 := by
  obtain ⟨a, i, ha, hi, _, _, _, rfl⟩ := pair_mem.1 h
  have h16 := p2_16 hn
  have : a < p2 n := ha
  exact ⟨by show a < 64; omega, or_lt64 hn ha hi⟩
theorem pairs_len {n b : Nat} (hn : n ≤ 4) : (pairsL n b).length ≤ 64 := by
  have h16 := p2_16 hn
  have := @pairsU_len n b hn (p2 n)
  rw [pairsU_all] at this
  omega
theorem c_hazard_hazards (n : Nat) (L : List Cube) (hn : n ≤ 4) (hL : L.length ≤ 256) (hok : ∀ c ∈ L, c.Ok n) : Pure Tryz.prog GL 38 [.p (.int .i64 n), .p (.lst 2 (L.map Cube.enc))] (.p (.lst 2 ((hazL n L).map penc))) := by
  refine Pure.of_walk (N := 11) Tryz.func38 rfl rfl rfl (by simp) (by first | (simp; done) | simp [*]) ?_
  have hb : tabF n L < 2 ^ 64 := Nat.lt_of_lt_of_le tabF_lt (Nat.pow_le_pow_right (by decide) (by have := p2_16 hn; unfold p2 at this; omega))
  have hT := c_hazard_table n L hn hL hok
  have hpl := @pairs_len n (tabF n L) hn
  have hdel := fun (b qb : Nat) (s : Store) (nx : Nat) => g_DelPair (pairsL n (tabF n L)) L (togB L) 79 (fun p hp => c_hazard_hazards_1 p L (by omega) (fun c hc => ok_small hn (hok c hc)) (by have := pairs_small hn hp; omega)) b qb s nx
  rw [haz_kpt] at hdel
  simp
  refine xcall_pure hT ?_
  simp
  refine xcall_gives (g_pairs n (tabF n L) hn hb _ _) ?_
  simp
  refine xcall_gives (hdel 1 0 _ _ (by omega) (by omega) (by decide) (by omega) rfl rfl) ?_
  simp [XEndT]
end Go.Am
/- Contracts: truth.Const, hazard.primes, Mend, Hazards; chapter 8. -/
namespace Go.Am
open Go Go.Proofs Go.Pn

theorem c_truth_Const_1 (k : Nat) (v : Bool) : Pure Tryz.prog GL 105 [.p (.int .i64 k), .iptr 1 [[.bool v]] 0 0] (.p (.bool v)) := by
  refine Pure.of_walk (N := 5) Tryz.func105 rfl rfl rfl (by simp) (by first | (simp; done) | simp [*]) ?_
  simp [XEndT]
theorem foldB_none : ∀ {k : Nat}, foldB (fun _ => false) k = 0
  | 0 => rfl
  | k + 1 => by rw [foldB_snoc, foldB_none]; rfl
theorem c_madeNone (n : Nat) (hn : n ≤ 4) : Pure Tryz.prog GL 104 [.p (.int .i64 n), .fn (.func 105) [.iptr 1 [[.bool false]] 0 0]] (.agg [.p (.int .i64 n), .p (.int .u64 0)]) := by
  have h16 := p2_16 hn
  refine Pure.of_walk (N := 22) Tryz.func104 rfl rfl rfl (by simp) rfl ?_
  simp
  refine xcall_pure (c_truth_points n) ?_
  simp
  refine XRange.intro [3, 4, 5] Tryz.func140 rfl rfl fun l0 fn => ?_
  refine ⟨_, _, _, _, none, g_points1 (i := ⟨l0, 22, fn, #[11], _, _⟩) (X0 := .cells 1 [[.fn (.func 105) [.iptr 1 [[.bool false]] 0 0]]]) (p := fun _ => false) hn
    ?_ (fun _ => rfl) _ _ 0 1 2 3 (by simp) (by simp) rfl rfl rfl rfl, rfl, ?_⟩
  · intro o k s nx b0 b1 b2 lam hk ho hnd hlt g0 g1 g2 g3
    have hnd2 : [b0, b1, b2].Nodup := (List.nodup_cons.1 hnd).2
    have hlt2 : ∀ b ∈ [b0, b1, b2], b < nx := fun b hb => hlt b (List.mem_cons_of_mem _ hb)
    refine GivesY.of_walk (σ := [b0, b1, b2]) (t0 := mdT 0 1 2) (args := [.p (.int .i64 k)]) (free := []) (m := 3) (x := 0) (j := none)
      (s0 := [(0, some (.cells 1 [[.fn (.func 105) [.iptr 1 [[.bool false]] 0 0]]])), (1, some (tabC 0 0)), (2, some (tabC n o))])
      (s1 := [(2, some (tabC n (stepB (fun _ => false) o k)))])
      (fun _ => []) rfl ⟨?_, rfl, hnd2, hlt2, rfl⟩ g3 (List.nodup_cons.1 hnd).1 (hlt lam (by simp)) rfl rfl (by simp) (by simp) rfl ?_
    · simp [-renB, g0, g1, g2]
      exact rfl
    · simp [roundSlots, mdT]
      refine xcall_pure (c_truth_Const_1 k false) ?_
      have e : stepB (fun _ => false) o k = o := rfl
      rw [e]
      simp
      refine XEndYL.of ⟨rfl, ?_⟩
      simp [mdT, tabC]
      try decide
  · simp [afterJump, tabC, foldB_none, XEndT]
theorem c_truth_Const (n : Nat) (hn : n ≤ 4) : Pure Tryz.prog GL 68 [.p (.int .i64 n), .p (.bool false)] (.tup [.agg [.p (.int .i64 n), .p (.int .u64 0)], .p (.int .i64 0)]) := by
  refine Pure.of_walk (N := 13) Tryz.func68 rfl rfl rfl (by simp) (by first | (simp; done) | simp [*]) ?_
  have hS := c_truth_sized n
  have hM := c_madeNone n hn
  have h1 : (0 : Int) ≤ n := by omega
  have h2 : (n : Int) ≤ 6 := by omega
  simp [h1, h2] at hS
  simp
  refine xcall_pure hS ?_
  simp
  refine xcall_given ?_
  simp
  refine ⟨_, hM, ?_⟩
  simp [XEndT]
theorem c_hazard_primes (n b : Nat) (hn : n ≤ 4) (hb : b < p2 (p2 n)) : Pure Tryz.prog GL 33 [.agg [.p (.int .i64 n), .p (.int .u64 b)]] (.tup [.p (.lst 2 ((primesL ⟨n, b, 0⟩).map Cube.enc)), .p (.int .i64 0)]) := by
  refine Pure.of_walk (N := 21) Tryz.func33 rfl rfl rfl (by simp) (by first | (simp; done) | simp [*]) ?_
  have hC := c_truth_Const n hn
  have hP := c_implicant_Primes ⟨n, b, 0⟩ hn hb p2_pos (Nat.and_zero b)
  simp
  refine xcall_pure hC ?_
  simp
  refine xcall_pure hP ?_
  simp [XEndT]
theorem c_hazard_Hazards (n : Nat) (L : List Cube) (hn : n ≤ 4) (hL : L.length ≤ 256) (hok : ∀ c ∈ L, c.Ok n) : Pure Tryz.prog GL 18 [.p (.int .i64 n), .p (.lst 2 (L.map Cube.enc))] (.tup [.p (.lst 2 ((hazL n L).map penc)), .p (.int .i64 0)]) := by
  refine Pure.of_walk (N := 16) Tryz.func18 rfl rfl rfl (by simp) (by first | (simp; done) | simp [*]) ?_
  have hA := c_hazard_Check n L hn hL hok
  have hB := c_hazard_hazards n L hn hL hok
  simp
  refine xcall_pure hA ?_
  simp
  refine xcall_pure hB ?_
  simp [XEndT]
theorem c_hazard_Mend_1 (c : Cube) (p : Pr) (h1 : c.care < 2 ^ 64) (hp : p.1 < 2 ^ 62 ∧ p.2 < 2 ^ 62) : Pure Tryz.prog GL 46 [c.av, .iptr 2 [penc p] 0 0] (.p (.bool (togB [c] p))) := by
  refine Pure.of_walk (N := 8) Tryz.func46 rfl rfl rfl (by simp) (by first | (simp; done) | simp [*]) ?_
  have hT := c_hazard_together [c] p (by simp) (fun d hd => by rw [List.mem_singleton.1 hd]; exact h1) hp
  simp
  refine xcall_given ?_
  simp
  refine ⟨_, hT, ?_⟩
  simp [XEndT]
theorem mendGo_cons {P : List Cube} {p : Pr} {ps : List Pr} {out : List Cube} : mendGo P (p :: ps) out = if togB out p then mendGo P ps out else match P.find? (fun c => togB [c] p) with
    | some c => mendGo P ps (out ++ [c])
    | none => mendGo P ps out := rfl
@[simp] theorem unpR_crow {l : List Cube} : unpR (l.map Cube.row) = some (l.map Cube.enc) := unpR_map (f := Cube.row) (g := Cube.enc) (fun _ => rfl) l
theorem mendGo_append {P : List Cube} : ∀ (H1 H2 : List Pr) (out : List Cube), mendGo P (H1 ++ H2) out = mendGo P H2 (mendGo P H1 out)
  | [], H2, out => rfl
  | p :: H1, H2, out => by
    rw [List.cons_append, mendGo_cons, mendGo_cons]
    by_cases h : togB out p = true
    · rw [if_pos h, if_pos h]; exact mendGo_append H1 H2 out
    · rw [if_neg h, if_neg h]
      cases P.find? (fun c => togB [c] p) with
      | none => exact mendGo_append H1 H2 out
      | some c => exact mendGo_append H1 H2 _
def mendT (P : List Cube) (H : List Pr) (k : Nat) : List Cube := mendGo P (H.take k) []
theorem mendT_zero {P : List Cube} {H : List Pr} : mendT P H 0 = [] := rfl
theorem mendT_all {P : List Cube} {H : List Pr} : mendT P H H.length = mendGo P H [] := by unfold mendT; rw [List.take_length]
theorem mendT_old {P : List Cube} {H : List Pr} {k : Nat} {p : Pr} (e : H[k]? = some p) (h : togB (mendT P H k) p = true) : mendT P H (k + 1) = mendT P H k := by
  unfold mendT at h ⊢
  rw [take_snoc e, mendGo_append, mendGo_cons, if_pos h]; rfl
theorem mendT_new {P : List Cube} {H : List Pr} {k i : Nat} {p : Pr} {c : Cube} (e : H[k]? = some p) (h : togB (mendT P H k) p = false) (e2 : P[i]? = some c) (hc : togB [c] p = true) (hf : ∀ (j : Nat) d, j < i → P[j]? = some d → togB [d] p = false) : mendT P H (k + 1) = mendT P H k ++ [c] := by
  have hfind : P.find? (fun c => togB [c] p) = some c := by
    obtain ⟨hi, rfl⟩ := List.getElem?_eq_some_iff.1 e2
    refine List.find?_eq_some_iff_getElem.2 ⟨hc, i, hi, rfl, fun j hj => ?_⟩
    have := hf j _ hj (List.getElem?_eq_getElem (by omega))
    simp [this]
  unfold mendT at h ⊢
  rw [take_snoc e, mendGo_append]
  generalize mendGo P (H.take k) [] = o at h
  rw [mendGo_cons, if_neg (by rw [h]; exact Bool.false_ne_true), hfind]; rfl
theorem mendT_len {P : List Cube} {H : List Pr} : ∀ {k : Nat}, (mendT P H k).length ≤ k
  | 0 => Nat.le_refl _
  | k + 1 => by
    have ih := @mendT_len P H k
    cases e : H[k]? with
    | none =>
      have hk : H.length ≤ k := List.getElem?_eq_none_iff.1 e
      have : mendT P H (k + 1) = mendT P H k := by unfold mendT; rw [List.take_of_length_le (by omega), List.take_of_length_le hk]
      rw [this]; omega
    | some p =>
      unfold mendT at ih ⊢
      rw [take_snoc e, mendGo_append]
      generalize mendGo P (H.take k) [] = o at ih
      rw [mendGo_cons]
      split
      · exact Nat.le_trans ih (Nat.le_succ _)
      · split
        · show (o ++ [_]).length ≤ _
          rw [List.length_append]; simpa using ih
        · exact Nat.le_trans ih (Nat.le_succ _)
theorem c_hazard_Mend (n : Nat) (L : List Cube) (hn : n ≤ 4) (hL : L.length ≤ 256) (hok : ∀ c ∈ L, c.Ok n) : Pure Tryz.prog GL 17 [.p (.int .i64 n), .p (.lst 2 (L.map Cube.enc))] (.tup [.p (.lst 2 ((mendL n L).map Cube.enc)), .p (.int .i64 0)]) := by
  refine Pure.of_walk (N := 54) Tryz.func17 rfl rfl rfl (by simp) (by first | (simp; done) | simp [*]) ?_
  have hA := c_hazard_Check n L hn hL hok
  have hT := c_hazard_table n L hn hL hok
  have hP := c_hazard_primes n (tabF n L) hn tabF_lt
  have hH := c_hazard_hazards n L hn hL hok
  have hsmall := fun p (hp : p ∈ pairsL n (tabF n L)) => pairs_small hn hp
  have hpr := fun p (hp : p ∈ pairsL n (tabF n L)) => pair_prime hp
  have hcare : ∀ c ∈ primesL ⟨n, tabF n L, 0⟩, c.care < 2 ^ 64 := fun c hc => ok_small hn (primesL_mem.1 hc).ok
  have hmem : ∀ p ∈ hazL n L, p ∈ pairsL n (tabF n L) := fun p hp => (List.mem_filter.1 hp).1
  have hfin := @mendT_all (primesL ⟨n, tabF n L, 0⟩) (hazL n L)
  rw [show mendGo (primesL ⟨n, tabF n L, 0⟩) (hazL n L) [] = mendL n L from rfl] at hfin
  have hhl : (hazL n L).length ≤ 64 := Nat.le_trans (List.length_filter_le ..) (pairs_len hn)
  have hsub : ∀ k, ∀ c ∈ mendT (primesL ⟨n, tabF n L, 0⟩) (hazL n L) k, c ∈ primesL ⟨n, tabF n L, 0⟩ := fun k =>
    (mendGo_spec (P := primesL ⟨n, tabF n L, 0⟩) ((hazL n L).take k) [] (fun p hp => hpr p (hmem p (List.mem_of_mem_take hp))) (fun c hc => by cases hc)).2.1
  have hpl := primesL_len (x := ⟨n, tabF n L, 0⟩) hn
  rw [← hfin]
  generalize primesL ⟨n, tabF n L, 0⟩ = P at *
  generalize hazL n L = H at *
  simp
  refine xcall_pure hA ?_
  simp
  refine xcall_pure hT ?_
  simp
  refine xcall_pure hP ?_
  simp
  refine xcall_pure hH ?_
  simp
  refine XLoop.go [7, 31, 32] [] 1 [0] (nms [9]) (fun nx (k : Nat) => [(9, .acc nx 2 (mendT P H k).length), (33, .p (.int .i64 k))]) (fun nx k => [(nx, accB 2 ((mendT P H k).map Cube.row))]) (fun k => k ≤ H.length) (fun k => H.length - k) 0 (by omega) ?_ ?_
  · simp [mendT_zero]
    try decide
  intro k hk
  have hml := @mendT_len P H k
  simp
  refine xif_split (fun h => ?_) (fun h => ?_)
  · simp at h
    obtain ⟨p, e⟩ := get_lt h
    have hp := hmem p (List.mem_of_getElem? e)
    have hps := hsmall p hp
    have hTo := c_hazard_together (mendT P H k) p (by omega) (fun c hc => hcare c (hsub k c hc)) (by omega)
    simp [h, e, -getElem?_pos, List.getElem?_cons_zero, List.getElem?_cons_succ]
    refine xcall_lent ?_
    simp
    refine ⟨_, hTo, rfl, ?_⟩
    cases h1 : togB (mendT P H k) p with
    | true =>
      have hsn := mendT_old e h1
      simp
      refine ⟨wrap_i64 (by omega) (by omega), k + 1, by omega, by omega, ⟨by rw [hsn], by omega⟩, ?_⟩
      rw [hsn]
      exact acc_ok1 (fun _ => rfl) (by simp)
    | false =>
      obtain ⟨c0, hc0, hh0⟩ := hpr p hp
      have hI := c_IdxF_Cube P (fun c => togB [c] p) 46 [.iptr 2 [penc p] 0 0] rfl (by omega) (fun c hc => c_hazard_Mend_1 c p (hcare c hc) (by omega))
      have hne : ¬ idxI P (fun c => togB [c] p) = -1 := fun hn => by
        have := idxN_neg hn c0 hc0
        rw [togB_iff.2 ⟨c0, List.mem_singleton.2 rfl, hh0⟩] at this
        cases this
      obtain ⟨i, c, hi1, hi2, hi3, hi4⟩ := idxN_pos hne
      have hsn := mendT_new e h1 hi2 hi3 hi4
      have hiP : i < P.length := (List.getElem?_eq_some_iff.1 hi2).1
      rw [hi1] at hI
      simp
      refine xcall_lent ?_
      simp
      refine ⟨_, hI, rfl, ?_⟩
      have hi0 : ¬ (i : Int) < 0 := by omega
      simp [hi2, hiP, hi0, -getElem?_pos, List.getElem?_cons_zero, List.getElem?_cons_succ]
      refine ⟨by omega, wrap_i64 (by omega) (by omega), k + 1, by omega, by omega, ⟨by rw [hsn]; simp, by omega⟩, ?_⟩
      rw [hsn]
      exact acc_ok1 (fun _ => rfl) (by simp)
  · simp at h
    have hkn : k = H.length := by omega
    subst hkn
    simp [XEndT]
end Go.Am
/- Contracts: hazard.chosen, Form; chapter 8. -/
namespace Go.Am
open Go Go.Proofs Go.Pn

def chosT (P : List Cube) (w k : Nat) : List Cube := ((List.range k).filter fun i => w.testBit i).map (atC P)
theorem chosT_zero {P : List Cube} {w : Nat} : chosT P w 0 = [] := rfl
theorem chosT_all {P : List Cube} {w : Nat} : chosT P w P.length = chosB P w := rfl
theorem chosT_snoc {P : List Cube} {w k : Nat} : chosT P w (k + 1) = chosT P w k ++ (if w.testBit k then [atC P k] else []) := by
  unfold chosT
  rw [List.range_succ, List.filter_append, List.map_append]
  congr 1
  rw [List.filter_cons]
  split <;> rfl
theorem chosT_len {P : List Cube} {w k : Nat} : (chosT P w k).length ≤ k := by
  unfold chosT
  rw [List.length_map]
  have := List.length_filter_le (fun i => w.testBit i) (List.range k)
  simpa using this
theorem c_hazard_chosen (P : List Cube) (w : Nat) (hw : w < 2 ^ 64) (hP : P.length ≤ 64) : Pure Tryz.prog GL 35 [.p (.lst 2 (P.map Cube.enc)), .p (.int .u64 w)] (.p (.lst 2 ((chosB P w).map Cube.enc))) := by
  refine Pure.of_walk (N := 26) Tryz.func35 rfl rfl rfl (by simp) (by first | (simp; done) | simp [*]) ?_
  simp
  refine XLoop.go [1, 8, 9] [] 1 [0] (nms [5]) (fun nx (k : Nat) => [(5, .acc nx 2 (chosT P w k).length), (10, .p (.int .i64 k))]) (fun nx k => [(nx, accB 2 ((chosT P w k).map Cube.row))]) (fun k => k ≤ P.length) (fun k => P.length - k) 0 (by omega) ?_ ?_
  · simp [chosT_zero]
    try decide
  intro k hk
  have hln := @chosT_len P w k
  have hsn := @chosT_snoc P w k
  simp
  refine xif_split (fun h => ?_) (fun h => ?_)
  · simp at h
    obtain ⟨c, e⟩ := get_lt h
    rw [atC_eq e] at hsn
    simp [h, e, -getElem?_pos, List.getElem?_cons_zero, List.getElem?_cons_succ]
    refine ⟨by omega, bit_one (shr_lt hw), ?_⟩
    cases hb : w.testBit k with
    | false =>
      rw [hb, if_neg Bool.false_ne_true, List.append_nil] at hsn
      simp
      refine ⟨wrap_i64 (by omega) (by omega), k + 1, by omega, by omega, ⟨by rw [hsn], by omega⟩, ?_⟩
      rw [hsn]
      exact acc_ok1 (fun _ => rfl) (by simp)
    | true =>
      rw [hb, if_pos rfl] at hsn
      simp
      refine ⟨by omega, wrap_i64 (by omega) (by omega), k + 1, by omega, by omega, ⟨by rw [hsn]; simp, by omega⟩, ?_⟩
      rw [hsn]
      exact acc_ok1 (fun _ => rfl) (by simp)
  · simp at h
    have hkn : k = P.length := by omega
    subst hkn
    rw [← chosT_all]
    simp [XEndT]
def earlyB (g : HSt) (w : Nat) : Bool := decide (w &&& revN (p2 (lenN (revN (w ^^^ g.best)) - 1)) ≠ 0)
def takeB (P : List Cube) (g : HSt) (w : Nat) : Bool :=
  decide (orI [cmpI ((chosB P w).length : Int) (popN g.best), cmpI (litN (chosB P w)) g.least] < 0) || (decide ((chosB P w).length = popN g.best) && decide (litN (chosB P w) = g.least) && earlyB g w)
theorem take_less {P : List Cube} {g : HSt} {w : Nat} (h : (chosB P w).length < popN g.best) : takeB P g w = true := by
  unfold takeB
  have hc : cmpI ((chosB P w).length : Int) (popN g.best) = -1 := by unfold cmpI; rw [if_pos (by omega)]
  rw [hc]
  rfl
def hzT (n b : Nat) (P : List Cube) (k : Nat) : HSt := (List.range k).foldl (hzStep n b P litN (takeB P)) (hzStart P litN)
theorem hzT_zero {n b : Nat} {P : List Cube} : hzT n b P 0 = hzStart P litN := rfl
theorem hzT_snoc {n b : Nat} {P : List Cube} {k : Nat} : hzT n b P (k + 1) = hzStep n b P litN (takeB P) (hzT n b P k) k := by unfold hzT; rw [List.range_succ, List.foldl_append]; rfl
theorem hzT_best {n b : Nat} {P : List Cube} : ∀ {k : Nat}, (hzT n b P k).best = p2 P.length - 1 ∨ (hzT n b P k).best < k
  | 0 => .inl rfl
  | k + 1 => by
    have ih := @hzT_best n b P k
    rw [hzT_snoc]
    unfold hzStep
    split
    · rcases ih with h | h
      · exact .inl h
      · exact .inr (by omega)
    · split
      · exact .inr (Nat.lt_succ_self k)
      · rcases ih with h | h
        · exact .inl h
        · exact .inr (by omega)
def safeN (n b : Nat) : List Cube := chosB (primesL ⟨n, b, 0⟩) (hzT n b (primesL ⟨n, b, 0⟩) (p2 (primesL ⟨n, b, 0⟩).length - 1)).best
theorem safeN_eq {n b : Nat} : safeN n b = safeS n b litN (takeB (primesL ⟨n, b, 0⟩)) := rfl
theorem p2_10 {m : Nat} (h : m ≤ 10) : p2 m ≤ 1024 := p2_le (m := 10) h
theorem xor_lt {a b : Nat} (ha : a < 1024) (hb : b < 1024) : a ^^^ b < 1024 := Nat.xor_lt_two_pow (n := 10) ha hb
theorem xor_pos {a b : Nat} (h : a ≠ b) : a ^^^ b ≠ 0 := fun e => h (Nat.eq_of_testBit_eq fun i => by
  have hx : (a ^^^ b).testBit i = false := by rw [e, Nat.zero_testBit]
  rw [Nat.testBit_xor] at hx
  cases h1 : a.testBit i <;> cases h2 : b.testBit i <;> rw [h1, h2] at hx <;> first | rfl | cases hx)
theorem chosB_sub {P : List Cube} {w : Nat} {c : Cube} (h : c ∈ chosB P w) : c ∈ P := by
  obtain ⟨i, hi, _, rfl⟩ := chosB_mem.1 h
  exact atC_mem hi
set_option maxRecDepth 20000 in
theorem c_hazard_Form (n b : Nat) (hn : n ≤ 4) (hb : b < p2 (p2 n)) (hP : (primesL ⟨n, b, 0⟩).length ≤ 10) : Pure Tryz.prog GL 16 [.agg [.p (.int .i64 n), .p (.int .u64 b)]] (.tup [.p (.lst 2 ((safeN n b).map Cube.enc)), .p (.int .i64 0)]) := by
  refine Pure.of_walk (N := 127) Tryz.func16 rfl rfl rfl (by simp) (by first | (simp; done) | simp [*]) ?_
  have hC := c_truth_Check n b hn hb
  have hPr := c_hazard_primes n b hn hb
  have hok : ∀ c ∈ primesL ⟨n, b, 0⟩, c.Ok n := fun c hc => (primesL_mem.1 hc).ok
  have h1024 := p2_10 hP
  have hpos := @p2_pos (primesL ⟨n, b, 0⟩).length
  unfold safeN
  generalize primesL ⟨n, b, 0⟩ = P at *
  have hLit := c_minimal_Literals n P hn (by omega) hok
  have h16 : ¬ (16 : Int) < P.length := by omega
  have hsub1 : ((p2 P.length : Nat) : Int) - 1 = ((p2 P.length - 1 : Nat) : Int) := by omega
  simp
  refine xcall_pure hC ?_
  simp
  refine xcall_pure hPr ?_
  simp [h16, hsub1]
  refine ⟨⟨by omega, wrapu_n (by omega)⟩, wrapu_n (by omega), xcall_pure hLit ?_⟩
  simp
  refine XLoop.go [1, 5, 45] [0] 0 [] (fun _ => []) (fun _ (k : Nat) => [(46, .p (.int .u64 k)), (7, .p (.int .u64 (hzT n b P k).best)), (8, .p (.int .i64 (hzT n b P k).least))]) (fun _ _ => []) (fun k => k ≤ p2 P.length - 1) (fun k => p2 P.length - 1 - k) 0 (by omega) ?_ ?_
  · simp [hzT_zero, hzStart]
    exact congrArg _ rfl
  intro k hk
  have hbest := @hzT_best n b P k
  have hsn := @hzT_snoc n b P k
  simp
  refine xif_split (fun h => ?_) (fun h => ?_)
  · simp at h
    have hb1 : (hzT n b P k).best < 1024 := by omega
    have hne : k ≠ (hzT n b P k).best := by omega
    generalize hzT n b P k = g at *
    have hCh := c_hazard_chosen P k (by omega) (by omega)
    have hokl : ∀ c ∈ chosB P k, c.Ok n := fun c hc => hok c (chosB_sub hc)
    have hln : (chosB P k).length ≤ P.length := @chosT_len P k P.length
    have hO := c_OnesB g.best hb1
    have hTb := c_hazard_table n (chosB P k) hn (by omega) hokl
    have hHz := c_hazard_hazards n (chosB P k) hn (by omega) hokl
    have hLi := c_minimal_Literals n (chosB P k) hn (by omega) hokl
    have hx := xor_lt (show k < 1024 by omega) hb1
    have hx0 := xor_pos hne
    have hR1 := c_math_bits_Reverse (k ^^^ g.best) (by omega)
    have hbig := revN_big _ hx hx0
    have hLe := c_LenB (revN (k ^^^ g.best)) revN_lt hbig
    obtain ⟨hl48, hl64⟩ := lenN_le (a := revN (k ^^^ g.best)) revN_lt
    have hR2 := c_math_bits_Reverse (p2 (lenN (revN (k ^^^ g.best)) - 1)) (p2_u64 (by omega))
    unfold hzStep at hsn
    simp
    refine xcall_pure hCh ?_
    simp
    refine XDraw.intro (by kernel_rfl) ?_
    simp
    refine xcall_pure hO ?_
    by_cases c1 : popN g.best < (chosB P k).length
    · rw [if_pos (.inl c1)] at hsn
      simp [c1]
      exact ⟨.of (by kernel_rfl), of_eq_true (wrap_u64 (by omega) (by omega)), k + 1, by omega, by omega, by omega, by rw [hsn], by rw [hsn]⟩
    by_cases c2 : tabF n (chosB P k) = b
    case neg =>
      rw [if_pos (.inr (.inl c2))] at hsn
      have c2i : ¬ ((tabF n (chosB P k) : Nat) : Int) = b := by omega
      simp [c1]
      refine xcall_pure hTb ?_
      simp [c2i]
      exact ⟨.of (by kernel_rfl), of_eq_true (wrap_u64 (by omega) (by omega)), k + 1, by omega, by omega, by omega, by rw [hsn], by rw [hsn]⟩
    by_cases c3 : hazL n (chosB P k) = []
    case neg =>
      rw [if_pos (.inr (.inr c3))] at hsn
      rw [c2] at hTb
      have c3i : 0 < (hazL n (chosB P k)).length := List.length_pos_iff.2 c3
      simp [c1]
      refine xcall_pure hTb ?_
      simp
      refine xcall_pure hHz ?_
      simp [c3i]
      exact ⟨.of (by kernel_rfl), of_eq_true (wrap_u64 (by omega) (by omega)), k + 1, by omega, by omega, by omega, by rw [hsn], by rw [hsn]⟩
    rw [if_neg (by simp [c1, c2, c3])] at hsn
    rw [c2] at hTb
    rw [c3] at hHz
    have hcc1 := c_cmp_Compare_int ((chosB P k).length : Int) (popN g.best)
    have hcc2 := c_cmp_Compare_int (litN (chosB P k)) g.least
    have hor : Pure Tryz.prog GL 41 [.p (.lst 1 [[.int .i64 (cmpI ((chosB P k).length : Int) (popN g.best))], [.int .i64 (cmpI (litN (chosB P k)) g.least)]])] (.p (.int .i64 (orI [cmpI ((chosB P k).length : Int) (popN g.best), cmpI (litN (chosB P k)) g.least]))) := c_cmp_Or_int [cmpI ((chosB P k).length : Int) (popN g.best), cmpI (litN (chosB P k)) g.least] (by simp)
    have hl1 : ((lenN (revN (k ^^^ g.best)) : Nat) : Int) - 1 = ((lenN (revN (k ^^^ g.best)) - 1 : Nat) : Int) := by omega
    have htk : takeB P g k = (decide (orI [cmpI ((chosB P k).length : Int) (popN g.best), cmpI (litN (chosB P k)) g.least] < 0) || (decide ((chosB P k).length = popN g.best) && decide (litN (chosB P k) = g.least) && earlyB g k)) := rfl
    have hea : earlyB g k = decide (k &&& revN (p2 (lenN (revN (k ^^^ g.best)) - 1)) ≠ 0) := rfl
    simp [c1]
    refine xcall_pure hTb ?_
    simp
    refine xcall_pure hHz ?_
    simp
    refine ⟨.of (by kernel_rfl), xcall_pure hLi ?_⟩
    simp
    refine ⟨bit_u64 (by omega) (by omega), xcall_pure hR1 ?_⟩
    simp
    refine xcall_pure hLe ?_
    simp [hl1]
    refine ⟨wrap_n (by omega), ⟨by omega, wrapu_n (p2_u64 (by omega))⟩, xcall_pure hR2 ?_⟩
    have hq := revN_lt (a := p2 (lenN (revN (k ^^^ g.best)) - 1))
    clear hR2 hLe hR1
    generalize revN (p2 (lenN (revN (k ^^^ g.best)) - 1)) = q at *
    simp
    refine ⟨bit_u64 (by omega) hq, xcall_pure hO ?_⟩
    simp
    refine xcall_pure hcc1 ?_
    simp
    refine xcall_pure hcc2 ?_
    simp
    refine xcall_given ?_
    simp
    refine ⟨_, hor, ?_⟩
    generalize orI [cmpI ((chosB P k).length : Int) (popN g.best), cmpI (litN (chosB P k)) g.least] = r at *
    by_cases d1 : r < 0
    · rw [if_pos (by rw [htk]; simp [d1])] at hsn
      simp [d1]
      exact ⟨of_eq_true (wrap_u64 (by omega) (by omega)), k + 1, by omega, by omega, by omega, by rw [hsn], by rw [hsn]⟩
    simp [d1]
    refine xcall_pure hO ?_
    by_cases d2 : (chosB P k).length = popN g.best
    case neg =>
      rw [if_neg (by rw [htk]; simp [d1, d2])] at hsn
      have d2i : ¬ ((chosB P k).length : Int) = popN g.best := by omega
      simp [d2i]
      exact ⟨of_eq_true (wrap_u64 (by omega) (by omega)), k + 1, by omega, by omega, by omega, by rw [hsn], by rw [hsn]⟩
    by_cases d3 : litN (chosB P k) = g.least
    case neg =>
      rw [if_neg (by rw [htk]; simp [d1, d3])] at hsn
      have d3i : ¬ ((litN (chosB P k) : Nat) : Int) = g.least := by omega
      simp [d2, d3i]
      exact ⟨of_eq_true (wrap_u64 (by omega) (by omega)), k + 1, by omega, by omega, by omega, by rw [hsn], by rw [hsn]⟩
    by_cases d4 : k &&& q = 0
    · rw [if_neg (by rw [htk, hea]; simp [d1, d4])] at hsn
      simp [d2, d3, d4]
      exact ⟨of_eq_true (wrap_u64 (by omega) (by omega)), k + 1, by omega, by omega, by omega, by rw [hsn], by rw [hsn]⟩
    · rw [if_pos (by rw [htk, hea]; simp [d2, d3, d4])] at hsn
      simp [d2, d3, d4]
      exact ⟨of_eq_true (wrap_u64 (by omega) (by omega)), k + 1, by omega, by omega, by omega, by rw [hsn], by rw [hsn]; show (g.least : Int) = (litN (chosB P k) : Nat); rw [d3]⟩
  · simp at h
    have hkn : k = p2 P.length - 1 := by omega
    subst hkn
    have hb1 : (hzT n b P (p2 P.length - 1)).best < 1024 := by omega
    have hCh := c_hazard_chosen P (hzT n b P (p2 P.length - 1)).best (by omega) (by omega)
    simp
    refine xcall_pure hCh ?_
    simp [XEndT]
end Go.Am
