/- Lemmas and contracts for the proof of a statement of this seat. -/
import Derived.Test.YthkjeoagelhocaaGreatZA1
set_option linter.unusedVariables false
set_option linter.unusedSimpArgs false
/- Plain: cubes, prime implicants, least covers; chapters 6 and 7. -/
namespace Go.Am

theorem andN_bit {a b i : Nat} : (andN a b).testBit i = (a.testBit i && !b.testBit i) := by
  unfold andN
  rw [Nat.testBit_xor, Nat.testBit_and]
  cases a.testBit i <;> cases b.testBit i <;> rfl
theorem andN_zero {a b : Nat} : andN a b = 0 ↔ ∀ i, a.testBit i = true → b.testBit i = true := by
  constructor
  · intro h i hi
    have := congrArg (fun x => x.testBit i) h
    simp only [andN_bit, hi, Bool.true_and, Nat.zero_testBit] at this
    simpa using this
  · intro h
    apply Nat.eq_of_testBit_eq
    intro i
    rw [andN_bit, Nat.zero_testBit]
    cases ha : a.testBit i with
    | false => rfl
    | true => rw [h i ha]; rfl
theorem and_zero {a b : Nat} : a &&& b ≠ 0 ↔ ∃ i, a.testBit i = true ∧ b.testBit i = true := by
  constructor
  · intro h
    apply Classical.byContradiction
    intro hn
    apply h
    apply Nat.eq_of_testBit_eq
    intro i
    rw [Nat.testBit_and, Nat.zero_testBit]
    cases ha : a.testBit i with
    | false => rfl
    | true =>
      cases hb : b.testBit i with
      | false => rfl
      | true => exact absurd ⟨i, ha, hb⟩ hn
  · rintro ⟨i, ha, hb⟩ h
    have := congrArg (fun x => x.testBit i) h
    simp [Nat.testBit_and, ha, hb] at this
theorem bit_lt {a n i : Nat} (h : a < 2 ^ n) (hi : a.testBit i = true) : i < n := by
  apply Classical.byContradiction
  intro hn
  have := Nat.testBit_lt_two_pow (Nat.lt_of_lt_of_le h (Nat.pow_le_pow_right (by decide) (by omega : n ≤ i)))
  rw [this] at hi
  cases hi
theorem lt_bits {a n : Nat} (h : ∀ i, a.testBit i = true → i < n) : a < 2 ^ n := by
  apply Nat.lt_pow_two_of_testBit
  intro i hi
  cases ha : a.testBit i with
  | false => rfl
  | true => have := h i ha; omega

structure Cube where
  care : Nat
  value : Nat
deriving DecidableEq

def Cube.has (c : Cube) (k : Nat) : Bool := decide (k &&& c.care = c.value)
structure Cube.Ok (n : Nat) (c : Cube) : Prop where
  care : c.care < 2 ^ n
  value : ∀ i, c.value.testBit i = true → c.care.testBit i = true
theorem has_iff {n : Nat} {c : Cube} (h : c.Ok n) {k : Nat} : c.has k = true ↔ ∀ i, c.care.testBit i = true → k.testBit i = c.value.testBit i := by
  unfold Cube.has
  rw [decide_eq_true_eq]
  constructor
  · intro e i hi
    have := congrArg (fun x => x.testBit i) e
    simp only [Nat.testBit_and, hi, Bool.and_true] at this
    exact this
  · intro g
    apply Nat.eq_of_testBit_eq
    intro i
    rw [Nat.testBit_and]
    cases hc : c.care.testBit i with
    | true => rw [Bool.and_true]; exact g i hc
    | false =>
      rw [Bool.and_false]
      cases hv : c.value.testBit i with
      | false => rfl
      | true => rw [h.value i hv] at hc; cases hc

structure Tsk where
  n : Nat
  on : Nat
  free : Nat
def Tsk.In (x : Tsk) (k : Nat) : Prop := x.on.testBit k = true ∨ x.free.testBit k = true
def Imp (x : Tsk) (c : Cube) : Prop := ∀ k, k < 2 ^ x.n → c.has k = true → x.In k
def Hits (x : Tsk) (c : Cube) : Prop := ∃ k, k < 2 ^ x.n ∧ c.has k = true ∧ x.on.testBit k = true
def dropV (c : Cube) (i : Nat) : Cube := ⟨andN c.care (2 ^ i), andN c.value (2 ^ i)⟩
theorem dropV_ok {n i : Nat} {c : Cube} (h : c.Ok n) : (dropV c i).Ok n := by
  refine ⟨lt_bits fun j hj => ?_, fun j hj => ?_⟩
  · unfold dropV at hj
    simp only [andN_bit, Bool.and_eq_true] at hj
    exact bit_lt h.care hj.1
  · unfold dropV at hj ⊢
    simp only [andN_bit, Bool.and_eq_true] at hj ⊢
    exact ⟨h.value j hj.1, hj.2⟩
theorem dropV_has {n i : Nat} {c : Cube} (h : c.Ok n) {k : Nat} (hk : c.has k = true) : (dropV c i).has k = true := by
  rw [has_iff (dropV_ok h)]
  rw [has_iff h] at hk
  intro j hj
  unfold dropV at hj ⊢
  simp only [andN_bit, Bool.and_eq_true] at hj ⊢
  rw [hk j hj.1, hj.2, Bool.and_true]
theorem dropV_same {n i : Nat} {c : Cube} (h : c.Ok n) (hi : c.care.testBit i = false) : dropV c i = c := by
  have hv : c.value.testBit i = false := by
    cases hv : c.value.testBit i with
    | false => rfl
    | true => rw [h.value i hv] at hi; cases hi
  have key : ∀ a : Nat, a.testBit i = false → andN a (2 ^ i) = a := fun a ha => by
    apply Nat.eq_of_testBit_eq
    intro j
    rw [andN_bit, Nat.testBit_two_pow]
    by_cases e : i = j
    · subst e; rw [ha]; rfl
    · simp [e]
  unfold dropV
  rw [key _ hi, key _ hv]
theorem count_less {p q : Nat → Bool} {j : Nat} (h1 : p j = false) (h2 : q j = true) : ∀ {l : List Nat}, (∀ i ∈ l, p i = true → q i = true) → j ∈ l → l.countP p < l.countP q
  | [], _, hj => by cases hj
  | i :: l, h, hj => by
    have hle : ∀ l : List Nat, (∀ i ∈ l, p i = true → q i = true) → l.countP p ≤ l.countP q := fun l hl => List.countP_mono_left hl
    have hl := hle l fun x hx => h x (List.mem_cons_of_mem _ hx)
    rw [List.countP_cons, List.countP_cons]
    rcases List.mem_cons.1 hj with rfl | hj
    · rw [h1, h2]; simp; omega
    · have ih := count_less h1 h2 (l := l) (fun x hx => h x (List.mem_cons_of_mem _ hx)) hj
      have hi := h i List.mem_cons_self
      cases hp : p i with
      | false => simp only [Bool.false_eq_true, if_false]; omega
      | true => rw [hi hp]; simp; omega
def bitsN (n : Nat) (c : Cube) : Nat := (List.range n).countP fun i => c.care.testBit i
theorem dropV_less {n i : Nat} {c : Cube} (h : c.Ok n) (hne : dropV c i ≠ c) : bitsN n (dropV c i) < bitsN n c := by
  cases hi : c.care.testBit i with
  | false => exact absurd (dropV_same h hi) hne
  | true =>
    refine count_less (j := i) ?_ hi (fun j _ hj => ?_) (List.mem_range.2 (bit_lt h.care hi))
    · unfold dropV; simp [andN_bit, Nat.testBit_two_pow_self]
    · unfold dropV at hj
      simp only [andN_bit, Bool.and_eq_true] at hj
      exact hj.1
structure Prime (x : Tsk) (c : Cube) : Prop where
  ok : c.Ok x.n
  hits : Hits x c
  imp : Imp x c
  last : ∀ i, i < x.n → dropV c i ≠ c → ¬ Imp x (dropV c i)
theorem grow_prime {x : Tsk} : ∀ (m : Nat) (c : Cube), bitsN x.n c ≤ m → c.Ok x.n → Hits x c → Imp x c → ∃ p, Prime x p ∧ ∀ k, c.has k = true → p.has k = true
  | m, c, hm, h, hh, hi => by
    by_cases e : ∃ i, i < x.n ∧ dropV c i ≠ c ∧ Imp x (dropV c i)
    · obtain ⟨i, _, hne, hi2⟩ := e
      have hl := dropV_less h hne
      match m, hm with
      | 0, hm => omega
      | m + 1, hm =>
        obtain ⟨k, a, b, d⟩ := hh
        obtain ⟨p, hp, hs⟩ := grow_prime m (dropV c i) (by omega) (dropV_ok h) ⟨k, a, dropV_has h b, d⟩ hi2
        exact ⟨p, hp, fun k hk => hs k (dropV_has h hk)⟩
    · exact ⟨c, ⟨h, hh, hi, fun i hin hne hi2 => e ⟨i, hin, hne, hi2⟩⟩, fun k hk => hk⟩

def ptsN (n : Nat) (c : Cube) : Nat := (List.range (2 ^ n)).foldl (fun o k => if c.has k then o ||| 2 ^ k else o) 0
theorem fold_bits {p : Nat → Bool} : ∀ (l : List Nat) (o i : Nat), (l.foldl (fun o k => if p k then o ||| 2 ^ k else o) o).testBit i = (o.testBit i || (l.any fun k => decide (k = i) && p k))
  | [], o, i => by simp
  | k :: l, o, i => by
    rw [List.foldl_cons, fold_bits l, List.any_cons]
    cases hp : p k with
    | false => simp
    | true =>
      simp only [if_true, Nat.testBit_or, Nat.testBit_two_pow, Bool.and_true, Bool.or_assoc]
theorem ptsN_bit {n : Nat} {c : Cube} {k : Nat} : (ptsN n c).testBit k = (decide (k < 2 ^ n) && c.has k) := by
  unfold ptsN
  rw [fold_bits, Nat.zero_testBit, Bool.false_or, Bool.eq_iff_iff]
  simp only [List.any_eq_true, List.mem_range, Bool.and_eq_true, decide_eq_true_eq]
  constructor
  · rintro ⟨j, h1, rfl, h2⟩; exact ⟨h1, h2⟩
  · rintro ⟨h1, h2⟩; exact ⟨k, h1, rfl, h2⟩
def impB (x : Tsk) (c : Cube) : Bool := decide (andN (ptsN x.n c) (x.on ||| x.free) = 0)
theorem impB_iff {x : Tsk} {c : Cube} : impB x c = true ↔ Imp x c := by
  unfold impB Imp Tsk.In
  rw [decide_eq_true_eq, andN_zero]
  simp only [ptsN_bit, Bool.and_eq_true, decide_eq_true_eq, Nat.testBit_or, Bool.or_eq_true, and_imp]
def hitsB (x : Tsk) (c : Cube) : Bool := decide (ptsN x.n c &&& x.on ≠ 0)
theorem hitsB_iff {x : Tsk} {c : Cube} : hitsB x c = true ↔ Hits x c := by
  unfold hitsB Hits
  rw [decide_eq_true_eq, and_zero]
  simp only [ptsN_bit, Bool.and_eq_true, decide_eq_true_eq, and_assoc]
def growsB (x : Tsk) (c : Cube) : Bool := (List.range x.n).any fun i => !decide (dropV c i = c) && impB x (dropV c i)
theorem growsB_iff {x : Tsk} {c : Cube} : growsB x c = false ↔ ∀ i, i < x.n → dropV c i ≠ c → ¬ Imp x (dropV c i) := by
  rw [← Bool.not_eq_true]
  unfold growsB
  simp only [List.any_eq_true, List.mem_range, Bool.and_eq_true, Bool.not_eq_true', decide_eq_false_iff_not, impB_iff]
  constructor
  · intro h i hi hne himp; exact h ⟨i, hi, hne, himp⟩
  · rintro h ⟨i, hi, hne, himp⟩; exact h i hi hne himp
def cubesL (n : Nat) : List Cube := (List.range (2 ^ n)).flatMap fun care => ((List.range (2 ^ n)).filter fun value => decide (andN value care = 0)).map fun value => ⟨care, value⟩
theorem cubesL_mem {n : Nat} {c : Cube} : c ∈ cubesL n ↔ c.Ok n := by
  unfold cubesL
  simp only [List.mem_flatMap, List.mem_map, List.mem_filter, List.mem_range, decide_eq_true_eq, andN_zero]
  constructor
  · rintro ⟨care, h1, v, ⟨h2, h3⟩, rfl⟩; exact ⟨h1, h3⟩
  · intro h
    exact ⟨c.care, h.care, c.value, ⟨lt_bits fun i hi => bit_lt h.care (h.value i hi), h.value⟩, rfl⟩
def primesL (x : Tsk) : List Cube := (cubesL x.n).filter fun c => hitsB x c && impB x c && !growsB x c
theorem primesL_mem {x : Tsk} {c : Cube} : c ∈ primesL x ↔ Prime x c := by
  unfold primesL
  simp only [List.mem_filter, cubesL_mem, Bool.and_eq_true, Bool.not_eq_true', hitsB_iff, impB_iff, growsB_iff]
  constructor
  · rintro ⟨h1, ⟨h2, h3⟩, h4⟩; exact ⟨h1, h2, h3, h4⟩
  · intro h; exact ⟨h.ok, ⟨h.hits, h.imp⟩, h.last⟩

def noCube : Cube := ⟨0, 0⟩
def atC (P : List Cube) (i : Nat) : Cube := P.getD i noCube
theorem atC_mem {P : List Cube} {i : Nat} (h : i < P.length) : atC P i ∈ P := by
  unfold atC
  rw [List.getD_eq_getElem?_getD, List.getElem?_eq_getElem h]
  exact List.getElem_mem h
theorem mem_atC {P : List Cube} {c : Cube} (h : c ∈ P) : ∃ i, i < P.length ∧ atC P i = c := by
  obtain ⟨i, hi, rfl⟩ := List.getElem_of_mem h
  exact ⟨i, hi, by unfold atC; rw [List.getD_eq_getElem?_getD, List.getElem?_eq_getElem hi]; rfl⟩
def cntL (P : List Cube) (l : List Nat) (k : Nat) : Nat := l.countP fun i => (atC P i).has k
def openL (x : Tsk) (P : List Cube) (l : List Nat) : List Nat := (List.range (2 ^ x.n)).filter fun k => x.on.testBit k && decide (cntL P l k = 0)
theorem openL_mem {x : Tsk} {P : List Cube} {l : List Nat} {k : Nat} : k ∈ openL x P l ↔ k < 2 ^ x.n ∧ x.on.testBit k = true ∧ ∀ i ∈ l, (atC P i).has k = false := by
  unfold openL cntL
  simp only [List.mem_filter, List.mem_range, Bool.and_eq_true, decide_eq_true_eq, List.countP_eq_zero, Bool.not_eq_true]
def Covers (x : Tsk) (P : List Cube) (l : List Nat) : Prop := ∀ k, k < 2 ^ x.n → x.on.testBit k = true → ∃ i ∈ l, (atC P i).has k = true
theorem open_nil {x : Tsk} {P : List Cube} {l : List Nat} : openL x P l = [] ↔ Covers x P l := by
  constructor
  · intro h k hk ho
    apply Classical.byContradiction
    intro hn
    have : k ∈ openL x P l := openL_mem.2 ⟨hk, ho, fun i hi => by
      cases hh : (atC P i).has k with
      | false => rfl
      | true => exact absurd ⟨i, hi, hh⟩ hn⟩
    rw [h] at this; cases this
  · intro h
    apply List.eq_nil_iff_forall_not_mem.2
    intro k hk
    obtain ⟨h1, h2, h3⟩ := openL_mem.1 hk
    obtain ⟨i, hi, hh⟩ := h k h1 h2
    rw [h3 i hi] at hh; cases hh
def ownersL (P : List Cube) (k : Nat) : List Nat := (List.range P.length).filter fun i => (atC P i).has k
theorem ownersL_mem {P : List Cube} {k i : Nat} : i ∈ ownersL P k ↔ i < P.length ∧ (atC P i).has k = true := by
  unfold ownersL; simp only [List.mem_filter, List.mem_range]
def popN (a : Nat) : Nat := (List.range 64).countP fun i => a.testBit i
def widestN (n : Nat) (P : List Cube) : Nat := P.foldl (fun w c => max w (2 ^ (n - popN c.care))) 1
theorem widest_ge {n : Nat} : ∀ {P : List Cube} {w : Nat}, w ≤ P.foldl (fun w c => max w (2 ^ (n - popN c.care))) w ∧ ∀ c ∈ P, 2 ^ (n - popN c.care) ≤ P.foldl (fun w c => max w (2 ^ (n - popN c.care))) w
  | [], w => ⟨Nat.le_refl _, fun c hc => by cases hc⟩
  | d :: P, w => by
    obtain ⟨h1, h2⟩ := @widest_ge n P (max w (2 ^ (n - popN d.care)))
    rw [List.foldl_cons]
    refine ⟨by omega, fun c hc => ?_⟩
    rcases List.mem_cons.1 hc with rfl | hc
    · omega
    · exact h2 c hc
theorem cube_size4 : ∀ n < 5, ∀ care < 2 ^ n, ∀ value < 2 ^ n, (List.range (2 ^ n)).countP (fun k => decide (k &&& care = value)) ≤ 2 ^ (n - popN care) := by decide +kernel
theorem cube_size {n : Nat} (hn : n ≤ 4) {c : Cube} (h : c.Ok n) : (List.range (2 ^ n)).countP c.has ≤ 2 ^ (n - popN c.care) :=
  cube_size4 n (by omega) c.care h.care c.value (lt_bits fun i hi => bit_lt h.care (h.value i hi))

section
variable (x : Tsk) (P : List Cube) (bet : List Nat → Option (List Nat) → Bool) (srt : List Nat → List Nat) (most : Nat)
def coverS : Nat → List Nat → Option (List Nat) → Option (List Nat)
  | fuel, l, best =>
    match openL x P l with
    | [] => if bet (srt l) best then some (srt l) else best
    | k :: ks =>
      if (most - l.length) * widestN x.n P < ks.length + 1 then best else
      match fuel with
      | 0 => best
      | fuel + 1 => (ownersL P k).foldl (fun b i => coverS fuel (l ++ [i]) b) best
end
section
variable {x : Tsk} {P : List Cube} {bet : List Nat → Option (List Nat) → Bool} {srt : List Nat → List Nat} {most : Nat}
theorem fold_keep {α : Type} {Q : α → Prop} {β : Type} {f : α → β → α} : ∀ {l : List β} {a : α}, Q a → (∀ a b, b ∈ l → Q a → Q (f a b)) → Q (l.foldl f a)
  | [], a, h, _ => h
  | b :: l, a, h, hf => fold_keep (l := l) (hf a b List.mem_cons_self h) fun a c hc => hf a c (List.mem_cons_of_mem _ hc)
theorem coverS_keeps (hb : ∀ l, bet l none = true) : ∀ (fuel : Nat) (l : List Nat) (best : Option (List Nat)), best ≠ none → coverS x P bet srt most fuel l best ≠ none := by
  intro fuel
  induction fuel with
  | zero =>
    intro l best h
    unfold coverS
    split
    · split
      · simp
      · exact h
    · split
      · exact h
      · exact h
  | succ fuel ih =>
    intro l best h
    unfold coverS
    split
    · split
      · simp
      · exact h
    · split
      · exact h
      · exact fold_keep (Q := fun b => b ≠ none) h fun a b _ ha => ih _ _ ha
def GoodC (x : Tsk) (P : List Cube) (most : Nat) (o : Option (List Nat)) : Prop := ∀ b, o = some b → (∀ i ∈ b, i < P.length) ∧ Covers x P b ∧ b.length ≤ most
theorem covers_perm {l m : List Nat} (h : l.Perm m) (hc : Covers x P l) : Covers x P m := fun k hk ho => by
  obtain ⟨i, hi, hh⟩ := hc k hk ho
  exact ⟨i, h.mem_iff.1 hi, hh⟩
theorem coverS_sound (hs : ∀ l, (srt l).Perm l) : ∀ (fuel : Nat) (l : List Nat) (best : Option (List Nat)), l.length ≤ most → (∀ i ∈ l, i < P.length) → GoodC x P most best → GoodC x P most (coverS x P bet srt most fuel l best) := by
  have hnil : ∀ (l : List Nat) (best : Option (List Nat)), openL x P l = [] → l.length ≤ most → (∀ i ∈ l, i < P.length) → GoodC x P most best → GoodC x P most (if bet (srt l) best then some (srt l) else best) := by
    intro l best e hl hp h
    split
    · intro b hb
      obtain rfl := Option.some.inj hb
      exact ⟨fun i hi => hp i ((hs l).mem_iff.1 hi), covers_perm (hs l).symm (open_nil.1 e), by rw [(hs l).length_eq]; exact hl⟩
    · exact h
  intro fuel
  induction fuel with
  | zero =>
    intro l best hl hp h
    unfold coverS
    split
    · rename_i e; exact hnil l best e hl hp h
    · split
      · exact h
      · exact h
  | succ fuel ih =>
    intro l best hl hp h
    unfold coverS
    split
    · rename_i e; exact hnil l best e hl hp h
    · rename_i k ks e
      split
      · exact h
      · rename_i hlt
        refine fold_keep (Q := GoodC x P most) h fun a i hi ha => ih _ _ ?_ ?_ ha
        · have : most - l.length ≠ 0 := fun h0 => by rw [h0] at hlt; omega
          simp; omega
        · intro j hj
          rcases List.mem_append.1 hj with hj | hj
          · exact hp j hj
          · simp at hj; subst hj; exact (ownersL_mem.1 hi).1
theorem sum_le {m : List Nat} {f : Nat → Nat} {w : Nat} (h : ∀ i ∈ m, f i ≤ w) : (m.map f).sum ≤ m.length * w := by
  induction m with
  | nil => simp
  | cons i m ih =>
    have h1 := h i List.mem_cons_self
    have h2 := ih fun j hj => h j (List.mem_cons_of_mem _ hj)
    rw [List.map_cons, List.sum_cons, List.length_cons, Nat.succ_mul]
    omega
theorem len_le_sum {q : Nat → Nat → Bool} : ∀ {L : List Nat} {m : List Nat}, (∀ k ∈ L, ∃ i ∈ m, q i k = true) → L.length ≤ (m.map fun i => L.countP (q i)).sum
  | [], m, _ => by simp
  | k :: L, m, h => by
    have ih := len_le_sum (q := q) (L := L) (m := m) fun j hj => h j (List.mem_cons_of_mem _ hj)
    obtain ⟨i, hi, hq⟩ := h k List.mem_cons_self
    have key : ∀ m : List Nat, (m.map fun i => (k :: L).countP (q i)).sum = (m.map fun i => L.countP (q i)).sum + m.countP fun i => q i k := by
      intro m
      induction m with
      | nil => rfl
      | cons j m ihm =>
        rw [List.map_cons, List.sum_cons, ihm, List.map_cons, List.sum_cons, List.countP_cons, List.countP_cons]
        omega
    have h1 : 0 < m.countP fun i => q i k := List.countP_pos_iff.2 ⟨i, hi, hq⟩
    rw [key, List.length_cons]
    omega
theorem countP_sub {L M : List Nat} {q : Nat → Bool} (h : L.Sublist M) : L.countP q ≤ M.countP q := h.countP_le
theorem coverS_complete (hn : x.n ≤ 4) (hP : ∀ c ∈ P, c.Ok x.n) (hb : ∀ l, bet l none = true) : ∀ (fuel : Nat) (l : List Nat) (best : Option (List Nat)) (m : List Nat), most ≤ fuel + l.length → l.length + m.length ≤ most → (∀ i ∈ m, i < P.length) → Covers x P (l ++ m) → coverS x P bet srt most fuel l best ≠ none := by
  intro fuel
  induction fuel with
  | zero =>
    intro l best m h1 h2 h3 h4
    have hm : m = [] := List.eq_nil_of_length_eq_zero (by omega)
    subst hm
    rw [List.append_nil] at h4
    unfold coverS
    rw [open_nil.2 h4]
    simp only
    split
    · simp
    · rename_i h5
      cases best with
      | none => rw [hb] at h5; exact absurd rfl h5
      | some b => simp
  | succ fuel ih =>
    intro l best m h1 h2 h3 h4
    unfold coverS
    split
    · split
      · simp
      · rename_i h5
        cases best with
        | none => rw [hb] at h5; exact absurd rfl h5
        | some b => simp
    · rename_i k ks e
      have hopen : ∀ j ∈ openL x P l, ∃ i ∈ m, (atC P i).has j = true := fun j hj => by
        obtain ⟨a, b, c⟩ := openL_mem.1 hj
        obtain ⟨i, hi, hh⟩ := h4 j a b
        rcases List.mem_append.1 hi with hi | hi
        · rw [c i hi] at hh; cases hh
        · exact ⟨i, hi, hh⟩
      have hlen := len_le_sum (q := fun i k => (atC P i).has k) hopen
      have hsub : (openL x P l).Sublist (List.range (2 ^ x.n)) := List.filter_sublist
      have hw : ((m.map fun i => (openL x P l).countP ((fun i k => (atC P i).has k) i)).sum) ≤ m.length * widestN x.n P := sum_le fun i hi => by
        have hc := hP _ (atC_mem (h3 i hi))
        have q1 := countP_sub (q := (atC P i).has) hsub
        have q2 := cube_size hn hc
        have q3 := (@widest_ge x.n P 1).2 _ (atC_mem (h3 i hi))
        unfold widestN
        exact Nat.le_trans q1 (Nat.le_trans q2 q3)
      have hle0 := Nat.le_trans hlen hw
      have hle : ks.length + 1 ≤ (most - l.length) * widestN x.n P := by
        have a1 : ks.length + 1 = (openL x P l).length := by rw [e]; rfl
        have a2 : m.length * widestN x.n P ≤ (most - l.length) * widestN x.n P := Nat.mul_le_mul_right _ (by omega)
        omega
      rw [if_neg (by omega)]
      obtain ⟨i, hi, hh⟩ := hopen k (by rw [e]; exact List.mem_cons_self)
      have ho : i ∈ ownersL P k := ownersL_mem.2 ⟨h3 i hi, hh⟩
      obtain ⟨u, v, huv⟩ := List.append_of_mem ho
      simp only
      rw [huv, List.foldl_append, List.foldl_cons]
      refine fold_keep (Q := fun b => b ≠ none) ?_ fun a b _ ha => coverS_keeps hb _ _ _ ha
      refine ih _ _ (m.erase i) (by simp; omega) ?_ (fun j hj => h3 j (List.mem_of_mem_erase hj)) ?_
      · rw [List.length_append, List.length_erase_of_mem hi, List.length_singleton]
        have := List.length_pos_of_mem hi
        omega
      · have hp : (l ++ m).Perm ((l ++ [i]) ++ m.erase i) := by
          rw [List.append_assoc]
          exact (List.perm_cons_erase hi).append_left l
        exact covers_perm hp h4
end

section
variable (x : Tsk) (P : List Cube) (bet : List Nat → Option (List Nat) → Bool) (srt : List Nat → List Nat)
def coveredS (most : Nat) : Option (List Nat) := coverS x P bet srt most most [] none
def leastGo : Nat → Nat → Option (List Nat)
  | 0, _ => none
  | fuel + 1, most => match coveredS x P bet srt most with
    | some l => some l
    | none => leastGo fuel (most + 1)
def leastS : List Nat := (leastGo x P bet srt (P.length + 1) 0).getD []
end
section
variable {x : Tsk} {P : List Cube} {bet : List Nat → Option (List Nat) → Bool} {srt : List Nat → List Nat}
theorem leastGo_spec : ∀ (fuel most k : Nat), most ≤ k → k < most + fuel → coveredS x P bet srt k ≠ none → ∃ j l, most ≤ j ∧ j ≤ k ∧ coveredS x P bet srt j = some l ∧ leastGo x P bet srt fuel most = some l ∧ ∀ i, most ≤ i → i < j → coveredS x P bet srt i = none
  | 0, most, k, h1, h2, h3 => by omega
  | fuel + 1, most, k, h1, h2, h3 => by
    unfold leastGo
    cases e : coveredS x P bet srt most with
    | some l => exact ⟨most, l, Nat.le_refl _, h1, e, rfl, fun i h4 h5 => by omega⟩
    | none =>
      have hne : most ≠ k := by rintro rfl; exact h3 e
      obtain ⟨j, l, a, b, c, d, f⟩ := leastGo_spec fuel (most + 1) k (by omega) (by omega) h3
      refine ⟨j, l, by omega, b, c, d, fun i h4 h5 => ?_⟩
      by_cases hi : i = most
      · subst hi; exact e
      · exact f i (by omega) h5
theorem least_cover (hn : x.n ≤ 4) (hP : ∀ c ∈ P, c.Ok x.n) (hb : ∀ l, bet l none = true) (hs : ∀ l, (srt l).Perm l) (hall : Covers x P (List.range P.length)) :
    leastGo x P bet srt (P.length + 1) 0 = some (leastS x P bet srt) ∧ (leastS x P bet srt).length ≤ P.length ∧ (∀ i ∈ leastS x P bet srt, i < P.length) ∧ Covers x P (leastS x P bet srt) ∧ ∀ m, (∀ i ∈ m, i < P.length) → Covers x P m → (leastS x P bet srt).length ≤ m.length := by
  have hfind : ∀ m, (∀ i ∈ m, i < P.length) → Covers x P m → coveredS x P bet srt m.length ≠ none := fun m h1 h2 => by
    unfold coveredS
    exact coverS_complete hn hP hb _ _ _ m (by simp) (by simp) h1 (by simpa using h2)
  have h0 := hfind (List.range P.length) (fun i hi => List.mem_range.1 hi) hall
  rw [List.length_range] at h0
  obtain ⟨j, l, _, hj, h1, h2, h3⟩ := leastGo_spec (P.length + 1) 0 P.length (by omega) (by omega) h0
  have hl : leastS x P bet srt = l := by unfold leastS; rw [h2]; rfl
  have hg : GoodC x P j (some l) := by
    have := coverS_sound (x := x) (P := P) (bet := bet) (most := j) hs j [] none (by simp) (by simp) (fun b hb => by cases hb)
    unfold coveredS at h1
    rw [h1] at this
    exact this
  obtain ⟨g1, g2, g3⟩ := hg l rfl
  rw [hl]
  refine ⟨h2, by omega, g1, g2, fun m k1 k2 => ?_⟩
  apply Classical.byContradiction
  intro hlt
  exact hfind m k1 k2 (h3 m.length (by omega) (by omega))
end

section
variable {x : Tsk} {bet : List Nat → Option (List Nat) → Bool} {srt : List Nat → List Nat}
def formS (x : Tsk) (bet : List Nat → Option (List Nat) → Bool) (srt : List Nat → List Nat) : List Cube := (leastS x (primesL x) bet srt).map (atC (primesL x))
def pointC (n k : Nat) : Cube := ⟨2 ^ n - 1, k⟩
theorem pointC_ok {n k : Nat} (h : k < 2 ^ n) : (pointC n k).Ok n := by
  refine ⟨by have := Nat.two_pow_pos n; unfold pointC; simp; omega, fun i hi => ?_⟩
  have := bit_lt h hi
  unfold pointC
  simp [Nat.testBit_two_pow_sub_one, this]
theorem pointC_has {n k j : Nat} (h : k < 2 ^ n) (hj : j < 2 ^ n) : (pointC n k).has j = true ↔ j = k := by
  rw [has_iff (pointC_ok h)]
  constructor
  · intro g
    apply Nat.eq_of_testBit_eq
    intro i
    by_cases hi : i < n
    · exact g i (by unfold pointC; simp [Nat.testBit_two_pow_sub_one, hi])
    · rw [Nat.testBit_lt_two_pow (Nat.lt_of_lt_of_le hj (Nat.pow_le_pow_right (by decide) (by omega))), Nat.testBit_lt_two_pow (Nat.lt_of_lt_of_le h (Nat.pow_le_pow_right (by decide) (by omega)))]
  · rintro rfl i _; rfl
def CoversC (x : Tsk) (L : List Cube) : Prop := ∀ k, k < 2 ^ x.n → x.on.testBit k = true → ∃ c ∈ L, c.has k = true
theorem primes_cover : CoversC x (primesL x) := fun k hk ho => by
  obtain ⟨p, hp, hs⟩ := grow_prime (x := x) _ (pointC x.n k) (Nat.le_refl _) (pointC_ok hk) ⟨k, hk, (pointC_has hk hk).2 rfl, ho⟩ fun j hj hh => by
    rw [(pointC_has hk hj).1 hh]; exact .inl ho
  exact ⟨p, primesL_mem.2 hp, hs k ((pointC_has hk hk).2 rfl)⟩
theorem index_cover {P : List Cube} {L : List Cube} (hL : ∀ c ∈ L, Hits x c → ∃ p ∈ P, ∀ k, c.has k = true → p.has k = true) (h : CoversC x L) : ∃ m : List Nat, m.length ≤ L.length ∧ (∀ i ∈ m, i < P.length) ∧ Covers x P m := by
  suffices hs : ∃ m : List Nat, m.length ≤ L.length ∧ (∀ i ∈ m, i < P.length) ∧ ∀ c ∈ L, Hits x c → ∃ i ∈ m, ∀ k, c.has k = true → (atC P i).has k = true by
    obtain ⟨m, h1, h2, h3⟩ := hs
    refine ⟨m, h1, h2, fun k hk ho => ?_⟩
    obtain ⟨c, hc, hh⟩ := h k hk ho
    obtain ⟨i, hi, hs⟩ := h3 c hc ⟨k, hk, hh, ho⟩
    exact ⟨i, hi, hs k hh⟩
  clear h
  induction L with
  | nil => exact ⟨[], Nat.le_refl _, (fun i hi => by cases hi), (fun c hc => by cases hc)⟩
  | cons c L ih =>
    obtain ⟨m, h1, h2, h3⟩ := ih fun d hd => hL d (List.mem_cons_of_mem _ hd)
    by_cases hc : Hits x c
    · obtain ⟨p, hp, hs⟩ := hL c List.mem_cons_self hc
      obtain ⟨i, hi, rfl⟩ := mem_atC hp
      refine ⟨i :: m, by simp; omega, fun j hj => ?_, fun d hd hh => ?_⟩
      · rcases List.mem_cons.1 hj with rfl | hj
        · exact hi
        · exact h2 j hj
      · rcases List.mem_cons.1 hd with rfl | hd
        · exact ⟨i, List.mem_cons_self, hs⟩
        · obtain ⟨j, hj, h5⟩ := h3 d hd hh
          exact ⟨j, List.mem_cons_of_mem _ hj, h5⟩
    · refine ⟨m, by simp; omega, h2, fun d hd hh => ?_⟩
      rcases List.mem_cons.1 hd with rfl | hd
      · exact absurd hh hc
      · exact h3 d hd hh
theorem form_least (hn : x.n ≤ 4) (hb : ∀ l, bet l none = true) (hs : ∀ l, (srt l).Perm l) :
    (∀ c ∈ formS x bet srt, Prime x c) ∧ CoversC x (formS x bet srt) ∧ ∀ L : List Cube, (∀ c ∈ L, c.Ok x.n ∧ Imp x c) → CoversC x L → (formS x bet srt).length ≤ L.length := by
  have hall : Covers x (primesL x) (List.range (primesL x).length) := fun k hk ho => by
    obtain ⟨c, hc, hh⟩ := primes_cover (x := x) k hk ho
    obtain ⟨i, hi, rfl⟩ := mem_atC hc
    exact ⟨i, List.mem_range.2 hi, hh⟩
  obtain ⟨_, _, h1, h2, h3⟩ := least_cover (bet := bet) (srt := srt) hn (fun c hc => (primesL_mem.1 hc).ok) hb hs hall
  unfold formS
  refine ⟨fun c hc => ?_, fun k hk ho => ?_, fun L hL hc => ?_⟩
  · obtain ⟨i, hi, rfl⟩ := List.mem_map.1 hc
    exact primesL_mem.1 (atC_mem (h1 i hi))
  · obtain ⟨i, hi, hh⟩ := h2 k hk ho
    exact ⟨_, List.mem_map.2 ⟨i, hi, rfl⟩, hh⟩
  · obtain ⟨m, m1, m2, m3⟩ := index_cover (P := primesL x) (fun c hc hh => by
      obtain ⟨p, hp, hs⟩ := grow_prime (x := x) _ c (Nat.le_refl _) (hL c hc).1 hh (hL c hc).2
      exact ⟨p, primesL_mem.2 hp, hs⟩) hc
    rw [List.length_map]
    exact Nat.le_trans (h3 m m2 m3) m1
end
end Go.Am
/- Plain: a function and its cofactors have least forms as TopFormsSplit says. -/
namespace Go.Am

def setB (k i : Nat) (v : Bool) : Nat := if v then k ||| 2 ^ i else andN k (2 ^ i)
theorem setB_bit {k i j : Nat} {v : Bool} : (setB k i v).testBit j = if j = i then v else k.testBit j := by
  unfold setB
  cases v with
  | true =>
    rw [if_pos rfl, Nat.testBit_or, Nat.testBit_two_pow]
    by_cases e : j = i
    · subst e; simp
    · have : ¬ i = j := fun h => e h.symm
      simp [e, this]
  | false =>
    rw [if_neg (by decide), andN_bit, Nat.testBit_two_pow]
    by_cases e : j = i
    · subst e; simp
    · have : ¬ i = j := fun h => e h.symm
      simp [e, this]
theorem setB_lt {k i n : Nat} {v : Bool} (hk : k < 2 ^ n) (hi : i < n) : setB k i v < 2 ^ n := lt_bits fun j hj => by
  rw [setB_bit] at hj
  by_cases e : j = i
  · omega
  · rw [if_neg e] at hj; exact bit_lt hk hj
section
variable {n b i : Nat} {v : Bool}
end

section
variable {bet : List Nat → Option (List Nat) → Bool} {srt : List Nat → List Nat}
end
end Go.Am
/- Plain: the reference's prime implicants are those of the program; chapter 6. -/
namespace Go.Am

end Go.Am
