/- Lemmas and contracts for the proof of a statement of this seat. -/
import Derived.Test.YthkjeoagelhocaaGreatZX7
import Derived.Test.YthkjeoagelhocaaGreatZX1
import Derived.Test.YthkjeoagelhocaaGreatZX4
import Derived.Test.YthkjeoagelhocaaGreatZX5
import Derived.Test.YthkjeoagelhocaaGreatZCA
set_option linter.unusedVariables false
set_option linter.unusedSimpArgs false
/- Expressions: their values, variables and sizes; the plain law of TopFormsEvaluate; chapters 5 and 8. -/
namespace Go.Am
open Go

inductive Ex where
  | mk (op idx : Int) (args : List Ex)
namespace Ex
def op : Ex → Int | .mk o _ _ => o
def idx : Ex → Int | .mk _ i _ => i
def args : Ex → List Ex | .mk _ _ al => al
theorem ind {P : Ex → Prop} (h : ∀ o i al, (∀ y ∈ al, P y) → P (.mk o i al)) (x : Ex) : P x :=
  Ex.rec (motive_1 := P) (motive_2 := fun l => ∀ y ∈ l, P y) (fun o i al ih => h o i al ih) (fun y hy => by cases hy) (fun y ys h1 h2 z hz => by
    rcases List.mem_cons.1 hz with rfl | hz
    · exact h1
    · exact h2 z hz) x
end Ex

mutual
def evX (v : Nat → Bool) : Ex → Bool
  | .mk o i al => if o = 0 then decide (i = 1) else if o = 1 then v i.toNat else if o = 2 then evAll v false al else if o = 3 then evAll v true al else !evAll v false al
def evAll (v : Nat → Bool) (w : Bool) : List Ex → Bool
  | [] => true
  | x :: xs => (evX v x == w) && evAll v w xs
end
theorem evAll_eq {v : Nat → Bool} {w : Bool} : ∀ {l : List Ex}, evAll v w l = l.all fun x => evX v x == w
  | [] => rfl
  | x :: xs => by rw [evAll, evAll_eq]; rfl
mutual
def vrX : Ex → List Nat
  | .mk o i al => (if o = 1 then [i.toNat] else []) ++ vrL al
def vrL : List Ex → List Nat
  | [] => []
  | x :: xs => vrX x ++ vrL xs
end
theorem vrL_eq : ∀ {l : List Ex}, vrL l = l.flatMap vrX
  | [] => rfl
  | x :: xs => by rw [vrL, vrL_eq]; rfl
theorem evX_congr {v w : Nat → Bool} : ∀ (x : Ex), (∀ j ∈ vrX x, v j = w j) → evX v x = evX w x := Ex.ind (fun o i al ih h => by
  unfold evX
  unfold vrX at h
  have hall : ∀ u, evAll v u al = evAll w u al := fun u => by
    rw [evAll_eq, evAll_eq, Bool.eq_iff_iff]
    simp only [List.all_eq_true]
    constructor
    · intro k y hy
      rw [← ih y hy fun j hj => h j (List.mem_append_right _ (by rw [vrL_eq]; exact List.mem_flatMap.2 ⟨y, hy, hj⟩))]
      exact k y hy
    · intro k y hy
      rw [ih y hy fun j hj => h j (List.mem_append_right _ (by rw [vrL_eq]; exact List.mem_flatMap.2 ⟨y, hy, hj⟩))]
      exact k y hy
  rw [hall, hall]
  by_cases h1 : o = 1
  · rw [h i.toNat (List.mem_append_left _ (by rw [if_pos h1]; exact List.mem_singleton.2 rfl))]
  · rw [if_neg h1, if_neg h1])
def bitV (k : Nat) : Nat → Bool := fun i => k.testBit i
def tabX (n : Nat) (x : Ex) : Nat := (List.range (2 ^ n)).foldl (fun o k => if evX (bitV k) x then o ||| 2 ^ k else o) 0
theorem tabX_bit {n : Nat} {x : Ex} {k : Nat} : (tabX n x).testBit k = (decide (k < 2 ^ n) && evX (bitV k) x) := by
  unfold tabX
  rw [fold_bits (p := fun k => evX (bitV k) x), Nat.zero_testBit, Bool.false_or, Bool.eq_iff_iff]
  simp only [List.any_eq_true, List.mem_range, Bool.and_eq_true, decide_eq_true_eq]
  constructor
  · rintro ⟨j, h1, rfl, h2⟩; exact ⟨h1, h2⟩
  · rintro ⟨h1, h2⟩; exact ⟨k, h1, rfl, h2⟩
theorem tabX_lt {n : Nat} {x : Ex} : tabX n x < 2 ^ (2 ^ n) := lt_bits fun k hk => by
  rw [tabX_bit, Bool.and_eq_true, decide_eq_true_eq] at hk
  exact hk.1
theorem setB_has {n i : Nat} {c : Cube} (h : c.Ok n) {k : Nat} (hk : (dropV c i).has k = true) : c.has (setB k i (c.value.testBit i)) = true := by
  rw [has_iff h]
  rw [has_iff (dropV_ok h)] at hk
  intro j hj
  rw [setB_bit]
  by_cases e : j = i
  · rw [if_pos e, e]
  · rw [if_neg e]
    have h1 : (dropV c i).care.testBit j = true := by
      unfold dropV
      rw [andN_bit, hj, Nat.testBit_two_pow]
      simp [Ne.symm e]
    rw [hk j h1]
    unfold dropV
    rw [andN_bit, Nat.testBit_two_pow]
    simp [Ne.symm e]
theorem ev_law {n : Nat} {x : Ex} {L : List Cube} (hL : ∀ c ∈ L, Prime ⟨n, tabX n x, 0⟩ c) (hc : CoversC ⟨n, tabX n x, 0⟩ L) :
    (∀ p, p < 2 ^ n → evX (bitV p) x = L.any fun c => c.has p) ∧ ∀ c ∈ L, ∀ i, i < n → c.care.testBit i = true → i ∈ vrX x := by
  have ht : tabF n L = tabX n x := tabF_eq tabX_lt (fun c h => (hL c h).imp) hc
  refine ⟨fun p hp => ?_, fun c hcL i hi hcare => ?_⟩
  · have h1 := @tabX_bit n x p
    have h2 := @tabF_bit n L p
    rw [ht, h1, decide_eq_true hp, Bool.true_and, Bool.true_and] at h2
    exact h2
  · apply Classical.byContradiction
    intro hn
    have hp := hL c hcL
    have hne : dropV c i ≠ c := fun e => by
      have : (dropV c i).care.testBit i = false := by
        unfold dropV
        rw [andN_bit, Nat.testBit_two_pow]
        simp
      rw [e, hcare] at this
      cases this
    refine hp.last i hi hne fun k hk hh => .inl ?_
    show (tabX n x).testBit k = true
    have hk' : setB k i (c.value.testBit i) < 2 ^ n := setB_lt hk hi
    have h1 : (tabX n x).testBit (setB k i (c.value.testBit i)) = true := by
      rcases hp.imp _ hk' (setB_has hp.ok hh) with h | h
      · exact h
      · simp at h
    rw [tabX_bit, decide_eq_true hk', Bool.true_and] at h1
    rw [tabX_bit, decide_eq_true (show k < 2 ^ n from hk), Bool.true_and, ← h1]
    refine evX_congr x fun j hj => ?_
    unfold bitV
    rw [setB_bit]
    have : j ≠ i := fun e => hn (e ▸ hj)
    rw [if_neg this]

mutual
def szX : Ex → Nat
  | .mk _ _ al => 1 + szL al
def szL : List Ex → Nat
  | [] => 0
  | x :: xs => szX x + szL xs
end
/- The reference's count: no more than one more than some. -/
mutual
def cntX (most : Nat) : Ex → Nat
  | .mk _ _ al => cntA most 1 al
def cntA (most n : Nat) : List Ex → Nat
  | [] => n
  | x :: xs => if n ≤ most then cntA most (n + cntX (most - n) x) xs else n
end
theorem cntA_over {most n : Nat} (h : most < n) : ∀ {l : List Ex}, cntA most n l = n
  | [] => rfl
  | x :: xs => by rw [cntA, if_neg (by omega)]
theorem cntA_append {most : Nat} : ∀ {l m : List Ex} {n : Nat}, cntA most n (l ++ m) = cntA most (cntA most n l) m
  | [], m, n => rfl
  | x :: xs, m, n => by
    rw [List.cons_append, cntA, cntA]
    by_cases h : n ≤ most
    · rw [if_pos h, if_pos h]; exact cntA_append
    · rw [if_neg h, if_neg h, cntA_over (by omega)]
theorem cntA_ge {most : Nat} : ∀ {l : List Ex} {n : Nat}, n ≤ cntA most n l
  | [], n => Nat.le_refl _
  | x :: xs, n => by
    rw [cntA]
    split
    · exact Nat.le_trans (Nat.le_add_right ..) cntA_ge
    · exact Nat.le_refl _
theorem cnt_facts : ∀ (x : Ex) (most : Nat), 1 ≤ cntX most x ∧ (cntX most x ≤ most + 1) ∧ (cntX most x ≤ most → cntX most x = szX x) := Ex.ind (fun o i al ih most => by
  have key : ∀ (l : List Ex) (n : Nat), (∀ y ∈ l, ∀ most, 1 ≤ cntX most y ∧ cntX most y ≤ most + 1 ∧ (cntX most y ≤ most → cntX most y = szX y)) → n ≤ most + 1 → cntA most n l ≤ most + 1 ∧ (cntA most n l ≤ most → cntA most n l = n + szL l) := by
    intro l
    induction l with
    | nil => exact fun n _ hn => ⟨hn, fun _ => rfl⟩
    | cons y ys ihl =>
      intro n hy hn
      rw [cntA, szL]
      by_cases h : n ≤ most
      · rw [if_pos h]
        obtain ⟨h1, h2, h3⟩ := hy y List.mem_cons_self (most - n)
        obtain ⟨k1, k2⟩ := ihl (n + cntX (most - n) y) (fun z hz => hy z (List.mem_cons_of_mem _ hz)) (by omega)
        refine ⟨k1, fun hle => ?_⟩
        have hge := @cntA_ge most ys (n + cntX (most - n) y)
        have := h3 (by omega)
        rw [k2 hle]; omega
      · rw [if_neg h]
        exact ⟨hn, fun h2 => by omega⟩
  unfold cntX szX
  obtain ⟨k1, k2⟩ := key al 1 ih (by omega)
  exact ⟨cntA_ge, k1, k2⟩)
def deepX : Nat → Ex → Bool
  | 0, _ => false
  | 1, x => x.args.isEmpty
  | n + 2, x => x.args.all (deepX (n + 1))
def nodE (n : Int) (x : Ex) : Int :=
  if x.op < 0 ∨ 5 ≤ x.op then 1
  else if (x.op ≤ 1 ∧ x.args.length ≠ 0) ∨ (x.op = 2 ∧ x.args.length ≠ 1) ∨ (3 ≤ x.op ∧ x.args.length < 2) then 3
  else if x.idx < 0 ∨ (if x.op = 0 then 2 else if x.op = 1 then n else 1) ≤ x.idx then 2 else 0
mutual
def nodsX (n : Int) : Ex → Int
  | .mk o i al => if nodE n (.mk o i al) ≠ 0 then nodE n (.mk o i al) else nodsL n al
def nodsL (n : Int) : List Ex → Int
  | [] => 0
  | x :: xs => if nodsX n x ≠ 0 then nodsX n x else nodsL n xs
end
theorem nodsL_zero {n : Int} : ∀ {l : List Ex}, nodsL n l = 0 → ∀ x ∈ l, nodsX n x = 0
  | [], _, x, hx => by cases hx
  | y :: ys, h, x, hx => by
    rw [nodsL] at h
    by_cases h1 : nodsX n y = 0
    · rw [if_neg (by simpa using h1)] at h
      rcases List.mem_cons.1 hx with rfl | hx
      · exact h1
      · exact nodsL_zero h x hx
    · rw [if_pos h1] at h
      exact (h1 h).elim
theorem nodsX_zero {n : Int} {x : Ex} (h : nodsX n x = 0) : nodE n x = 0 ∧ ∀ y ∈ x.args, nodsX n y = 0 := by
  cases x with
  | mk o i al =>
    rw [nodsX] at h
    by_cases h1 : nodE n (.mk o i al) = 0
    · rw [if_neg (by simpa using h1)] at h
      exact ⟨h1, nodsL_zero h⟩
    · rw [if_pos h1] at h
      exact (h1 h).elim
end Go.Am
/- Contracts: expressions of the reference; chapter 5. -/
namespace Go.Am
open Go Go.Proofs Go.Pn

mutual
def Ex.enc : Ex → List PV
  | .mk o i al => [.int .i64 o, .int .i64 i, .lst 3 (encL al)]
def encL : List Ex → List (List PV)
  | [] => []
  | x :: xs => x.enc :: encL xs
end
theorem encL_eq : ∀ {l : List Ex}, encL l = l.map Ex.enc
  | [] => rfl
  | x :: xs => by rw [encL, encL_eq]; rfl
@[simp] theorem enc_eq {x : Ex} : x.enc = [.int .i64 x.op, .int .i64 x.idx, .lst 3 (x.args.map Ex.enc)] := by
  cases x with
  | mk o i al => rw [Ex.enc, encL_eq]; rfl
@[simp] def Ex.av (x : Ex) : AV := .agg [.p (.int .i64 x.op), .p (.int .i64 x.idx), .p (.lst 3 (x.args.map Ex.enc))]
mutual
def okX : Ex → Prop
  | .mk _ _ al => al.length < 2305843009213693952 ∧ okL al
def okL : List Ex → Prop
  | [] => True
  | x :: xs => okX x ∧ okL xs
end
theorem okL_mem : ∀ {l : List Ex}, okL l → ∀ x ∈ l, okX x
  | [], _, x, hx => by cases hx
  | y :: ys, h, x, hx => by
    rw [okL] at h
    rcases List.mem_cons.1 hx with rfl | hx
    · exact h.1
    · exact okL_mem h.2 x hx
theorem okX_args {x : Ex} (h : okX x) : x.args.length < 2305843009213693952 ∧ ∀ y ∈ x.args, okX y := by
  cases x with
  | mk o i al => rw [okX] at h; exact ⟨h.1, okL_mem h.2⟩
theorem Ex.ind' {P : Ex → Prop} (h : ∀ x : Ex, (∀ y ∈ x.args, P y) → P x) (x : Ex) : P x := Ex.ind (fun o i al ih => h (.mk o i al) ih) x
def cntT (most : Nat) (al : List Ex) (j : Nat) : Nat := cntA most 1 (al.take j)
theorem cntT_zero {most : Nat} {al : List Ex} : cntT most al 0 = 1 := rfl
theorem cntT_all {most : Nat} {x : Ex} : cntT most x.args x.args.length = cntX most x := by
  unfold cntT
  rw [List.take_length]
  cases x; rfl
theorem cntT_snoc {most : Nat} {al : List Ex} {j : Nat} {y : Ex} (e : al[j]? = some y) (h : cntT most al j ≤ most) : cntT most al (j + 1) = cntT most al j + cntX (most - cntT most al j) y := by
  unfold cntT at h ⊢
  rw [take_snoc e, cntA_append, cntA, if_pos h, cntA]
theorem cntT_over {most : Nat} {x : Ex} {j : Nat} (h : most < cntT most x.args j) : cntX most x = cntT most x.args j := by
  unfold cntT at h ⊢
  have : cntX most x = cntA most 1 (x.args.take j ++ x.args.drop j) := by rw [List.take_append_drop]; cases x; rfl
  rw [this, cntA_append, cntA_over h]
theorem cntT_le {most : Nat} {x : Ex} {j : Nat} : cntT most x.args j ≤ most + 1 := by
  have h := (cnt_facts (.mk 0 0 (x.args.take j)) most).2.1
  exact h
theorem c_count : ∀ (x : Ex), okX x → ∀ most : Nat, most ≤ 1000 → Pure Tryz.prog GL 47 [x.av, .p (.int .i64 most)] (.p (.int .i64 (cntX most x))) := Ex.ind' (fun x ih hok most hm => by
  obtain ⟨hl, ho⟩ := okX_args hok
  refine Pure.of_walk (N := 31) Tryz.func47 rfl rfl rfl (by simp) rfl ?_
  simp
  refine XLoop.go [1, 2] [0] 0 [] (fun _ => []) (fun _ (j : Nat) => [(5, .p (.int .i64 (cntT most x.args j))), (6, .p (.int .i64 j))]) (fun _ _ => []) (fun j => j ≤ x.args.length) (fun j => x.args.length - j) 0 (by omega) ?_ ?_
  · simp [cntT_zero]
    try decide
  intro j hj
  have hle := @cntT_le most x j
  have hov := @cntT_over most x j
  by_cases h1 : j < x.args.length
  · by_cases h2 : cntT most x.args j ≤ most
    · obtain ⟨y, e⟩ := get_lt h1
      have hsn := cntT_snoc e h2
      have hy := ih y (List.mem_of_getElem? e) (ho y (List.mem_of_getElem? e)) (most - cntT most x.args j) (by omega)
      have hyf := (cnt_facts y (most - cntT most x.args j)).2.1
      have hsub : (most : Int) - (cntT most x.args j : Int) = ((most - cntT most x.args j : Nat) : Int) := by omega
      simp [h1, h2, e, hsub, -getElem?_pos, List.getElem?_cons_zero, List.getElem?_cons_succ]
      refine ⟨wrap_n (by omega), xcall_pure hy ?_⟩
      simp
      refine ⟨wrap_i64 (by omega) (by omega), wrap_i64 (by omega) (by omega), j + 1, by omega, by omega, by rw [hsn]; omega, by omega⟩
    · have h3 := hov (by omega)
      simp [h1, h2]
      simp [XEndT, h3]
  · have hjl : j = x.args.length := by omega
    subst hjl
    rw [cntT_all]
    simp [XEndT])
theorem c_Deep : ∀ (most : Nat) (x : Ex), okX x → most ≤ 1000 → Pure Tryz.prog GL 48 [x.av, .p (.int .i64 most)] (.p (.bool (deepX most x)))
  | 0, x, hok, hm => by
    refine Pure.of_walk (N := 30) Tryz.func48 rfl rfl rfl (by simp) rfl ?_
    simp [XEndT, deepX]
  | 1, x, hok, hm => by
    obtain ⟨hl, ho⟩ := okX_args hok
    refine Pure.of_walk (N := 30) Tryz.func48 rfl rfl rfl (by simp) rfl ?_
    have hd : deepX 1 x = decide (x.args = []) := by
      rw [deepX, Bool.eq_iff_iff, List.isEmpty_iff, decide_eq_true_eq]
    simp [XEndT, hd]
  | n + 2, x, hok, hm => by
    obtain ⟨hl, ho⟩ := okX_args hok
    refine Pure.of_walk (N := 30) Tryz.func48 rfl rfl rfl (by simp) rfl ?_
    have h1 : ¬ ((n : Int) + 1 + 1 < 1) := by omega
    have h2 : ¬ ((n : Int) + 1 + 1 = 1) := by omega
    have h5 : ¬ ((n : Int) + 2 < 1) := by omega
    have h6 : ¬ ((n : Int) + 2 = 1) := by omega
    have h3 : (n : Int) + 2 - 1 = ((n + 1 : Nat) : Int) := by omega
    have hd : deepX (n + 2) x = x.args.all (deepX (n + 1)) := rfl
    simp [h1, h2, h5, h6]
    refine XLoop.go [1, 2] [0] 0 [] (fun _ => []) (fun _ (j : Nat) => [(5, .p (.int .i64 j))]) (fun _ _ => []) (fun j => j ≤ x.args.length ∧ ∀ (i : Nat) y, i < j → x.args[i]? = some y → deepX (n + 1) y = true) (fun j => x.args.length - j) 0 ⟨by omega, fun i y h => by omega⟩ ?_ ?_
    · simp
      try decide
    rintro j ⟨hj, hp⟩
    by_cases h4 : j < x.args.length
    · obtain ⟨y, e⟩ := get_lt h4
      have hy := c_Deep (n + 1) y (ho y (List.mem_of_getElem? e)) (by omega)
      simp [h4, e, h3, -getElem?_pos, List.getElem?_cons_zero, List.getElem?_cons_succ]
      rw [show ((n + 1 : Nat) : Int) = (n : Int) + 1 from rfl] at hy
      refine ⟨wrap_i64 (by omega) (by omega), xcall_pure hy ?_⟩
      cases hv : deepX (n + 1) y with
      | false =>
        have hf : deepX (n + 2) x = false := by
          rw [hd, ← Bool.not_eq_true, List.all_eq_true]
          intro hall
          rw [hall y (List.mem_of_getElem? e)] at hv; cases hv
        simp [XEndT, hf]
      | true =>
        simp
        refine ⟨wrap_i64 (by omega) (by omega), j + 1, ⟨by omega, fun i z hi ez => ?_⟩, by omega, by omega⟩
        by_cases hij : i = j
        · subst hij; rw [e] at ez; cases ez; exact hv
        · exact hp i z (by omega) ez
    · have hjl : j = x.args.length := by omega
      subst hjl
      have hall : deepX (n + 2) x = true := by
        rw [hd, List.all_eq_true]
        intro y hy
        obtain ⟨i, hi, e⟩ := List.getElem_of_mem hy
        exact hp i y hi (by rw [List.getElem?_eq_getElem hi, e])
      simp [XEndT, hall]
theorem c_pneumaticref05_Light (x : Ex) (hok : okX x) : Pure Tryz.prog GL 19 [x.av] (.p (.bool (decide (cntX 256 x ≤ 256) && deepX 16 x))) := by
  refine Pure.of_walk (N := 10) Tryz.func19 rfl rfl rfl (by simp) (by first | (simp; done) | simp [*]) ?_
  have hA := c_count x hok 256 (by omega)
  have hB := c_Deep 16 x hok (by omega)
  simp
  refine xcall_pure hA ?_
  by_cases h : cntX 256 x ≤ 256
  · have h2 : (cntX 256 x : Int) ≤ 256 := by omega
    rw [show (decide (cntX 256 x ≤ 256) && deepX 16 x) = deepX 16 x by simp [h]]
    simp [h, h2]
    refine xcall_pure hB ?_
    simp [XEndT]
  · have h2 : ¬ (cntX 256 x : Int) ≤ 256 := by omega
    simp [h, h2, XEndT]
def nodV (n o i : Int) (k : Nat) : Int :=
  if o < 0 ∨ 5 ≤ o then 1
  else if (o ≤ 1 ∧ k ≠ 0) ∨ (o = 2 ∧ k ≠ 1) ∨ (3 ≤ o ∧ k < 2) then 3
  else if i < 0 ∨ (if o = 0 then 2 else if o = 1 then n else 1) ≤ i then 2 else 0
theorem nodV_eq {n : Int} {x : Ex} : nodE n x = nodV n x.op x.idx x.args.length := rfl
set_option maxRecDepth 100000 in
theorem c_nodeV (rows : List (List PV)) (n o i : Int) (hl : rows.length < 2305843009213693952) : Pure Tryz.prog GL 87 [.agg [.p (.int .i64 o), .p (.int .i64 i), .p (.lst 3 rows)], .p (.int .i64 n)] (.p (.int .i64 (nodV n o i rows.length))) := by
  refine Pure.of_walk (N := 59) Tryz.func87 rfl rfl rfl (by simp) rfl ?_
  generalize hr : nodV n o i rows.length = r
  unfold nodV at hr
  by_cases a1 : o < 0
  · rw [if_pos (.inl a1)] at hr
    subst hr
    simp [a1, XEndT]
  by_cases a2 : 5 ≤ o
  · rw [if_pos (.inr a2)] at hr
    subst hr
    simp [a1, a2, XEndT]
  rw [if_neg (by omega)] at hr
  have fin : ∀ (m : Int), (if i < 0 ∨ m ≤ i then (2 : Int) else 0) = if i < 0 then 2 else if m ≤ i then 2 else 0 := fun m => by
    by_cases h1 : i < 0
    · rw [if_pos (.inl h1), if_pos h1]
    · rw [if_neg h1]
      by_cases h2 : m ≤ i
      · rw [if_pos (.inr h2), if_pos h2]
      · rw [if_neg (by omega), if_neg h2]
  rw [fin] at hr
  rcases (by omega : o = 0 ∨ o = 1 ∨ o = 2 ∨ o = 3 ∨ o = 4) with rfl | rfl | rfl | rfl | rfl
  · by_cases b1 : rows = []
    · subst b1
      rw [if_neg (by simp)] at hr
      by_cases c1 : i < 0
      · simp [c1] at hr
        subst hr
        simp [c1, XEndT]
      · by_cases c2 : 2 ≤ i
        · simp [c1, c2] at hr
          subst hr
          simp [c1, c2, XEndT]
        · simp [c1, c2] at hr
          subst hr
          simp [c1, c2, XEndT]
    · rw [if_pos (by simp [b1])] at hr
      subst hr
      simp [b1, XEndT]
  · by_cases b1 : rows = []
    · subst b1
      rw [if_neg (by simp)] at hr
      by_cases c1 : i < 0
      · simp [c1] at hr
        subst hr
        simp [c1, XEndT]
      · by_cases c2 : n ≤ i
        · simp [c1, c2] at hr
          subst hr
          simp [c1, c2, XEndT]
        · simp [c1, c2] at hr
          subst hr
          simp [c1, c2, XEndT]
    · rw [if_pos (by simp [b1])] at hr
      subst hr
      simp [b1, XEndT]
  · by_cases b1 : rows.length = 1
    · rw [if_neg (by simp [b1])] at hr
      have b2 : (rows.length : Int) = 1 := by omega
      by_cases c1 : i < 0
      · simp [c1] at hr
        subst hr
        simp [b2, c1, XEndT]
      · by_cases c2 : 1 ≤ i
        · simp [c1, c2] at hr
          subst hr
          simp [b2, c1, c2, XEndT]
        · simp [c1, c2] at hr
          subst hr
          simp [b2, c1, c2, XEndT]
    · rw [if_pos (by simp [b1])] at hr
      have b2 : ¬ (rows.length : Int) = 1 := by omega
      subst hr
      simp [b2, XEndT]
  all_goals
    by_cases b1 : rows.length < 2
    · rw [if_pos (by simp [b1])] at hr
      have b2 : (rows.length : Int) < 2 := by omega
      subst hr
      simp [b2, XEndT]
    · rw [if_neg (by simp [b1])] at hr
      have b2 : ¬ (rows.length : Int) < 2 := by omega
      by_cases c1 : i < 0
      · simp [c1] at hr
        subst hr
        simp [b2, c1, XEndT]
      · by_cases c2 : 1 ≤ i
        · simp [c1, c2] at hr
          subst hr
          simp [b2, c1, c2, XEndT]
        · simp [c1, c2] at hr
          subst hr
          simp [b2, c1, c2, XEndT]
theorem c_node (x : Ex) (n : Int) (hok : okX x) : Pure Tryz.prog GL 87 [x.av, .p (.int .i64 n)] (.p (.int .i64 (nodE n x))) := by
  have h := c_nodeV (x.args.map Ex.enc) n x.op x.idx (by rw [List.length_map]; exact (okX_args hok).1)
  rw [List.length_map] at h
  exact h
def nodT (n : Int) (al : List Ex) (j : Nat) : Int := nodsL n (al.take j)
theorem nodsL_append {n : Int} : ∀ {l m : List Ex}, nodsL n (l ++ m) = if nodsL n l ≠ 0 then nodsL n l else nodsL n m
  | [], m => by simp [nodsL]
  | x :: xs, m => by
    rw [List.cons_append, nodsL, nodsL]
    by_cases h : nodsX n x = 0
    · simp only [h, ne_eq, not_true_eq_false, if_false]
      exact nodsL_append
    · rw [if_pos h, if_pos h, if_pos h]
theorem nodT_snoc {n : Int} {al : List Ex} {j : Nat} {y : Ex} (e : al[j]? = some y) (h : nodT n al j = 0) : nodT n al (j + 1) = nodsX n y := by
  unfold nodT at h ⊢
  rw [take_snoc e, nodsL_append, if_neg (by simpa using h), nodsL]
  by_cases h1 : nodsX n y = 0
  · rw [if_neg (by simpa using h1), h1]; rfl
  · rw [if_pos h1]
theorem nodsX_eq {n : Int} {x : Ex} : nodsX n x = if nodE n x ≠ 0 then nodE n x else nodsL n x.args := by cases x; rfl
theorem nodsL_found {n : Int} {al : List Ex} {j : Nat} {y : Ex} (e : al[j]? = some y) (h : nodT n al j = 0) (hy : nodsX n y ≠ 0) : nodsL n al = nodsX n y := by
  have h1 := nodT_snoc e h
  unfold nodT at h1
  have h2 : nodsL n al = nodsL n (al.take (j + 1) ++ al.drop (j + 1)) := by rw [List.take_append_drop]
  rw [h2, nodsL_append, h1, if_pos hy]
theorem c_nodes : ∀ (x : Ex), okX x → ∀ n : Int, Pure Tryz.prog GL 49 [x.av, .p (.int .i64 n)] (.p (.int .i64 (nodsX n x))) := Ex.ind' (fun x ih hok n => by
  obtain ⟨hl, ho⟩ := okX_args hok
  refine Pure.of_walk (N := 31) Tryz.func49 rfl rfl rfl (by simp) rfl ?_
  have hN := c_node x n hok
  have hX := @nodsX_eq n x
  simp
  refine xcall_pure hN ?_
  by_cases h0 : nodE n x = 0
  case neg =>
    rw [if_pos h0] at hX
    simp [h0, XEndT, hX]
  rw [if_neg (by simpa using h0)] at hX
  simp [h0]
  refine XLoop.go [1, 2] [0] 0 [] (fun _ => []) (fun _ (j : Nat) => [(6, .p (.int .i64 j))]) (fun _ _ => []) (fun j => j ≤ x.args.length ∧ nodT n x.args j = 0) (fun j => x.args.length - j) 0 ⟨by omega, rfl⟩ ?_ ?_
  · simp
    try decide
  rintro j ⟨hj, hp⟩
  by_cases h4 : j < x.args.length
  · obtain ⟨y, e⟩ := get_lt h4
    have hy := ih y (List.mem_of_getElem? e) (ho y (List.mem_of_getElem? e)) n
    have hsn := nodT_snoc e hp
    have hfo := nodsL_found e hp
    simp [h4, e, -getElem?_pos, List.getElem?_cons_zero, List.getElem?_cons_succ]
    refine xcall_pure hy ?_
    by_cases h5 : nodsX n y = 0
    · simp [h5]
      exact ⟨wrap_i64 (by omega) (by omega), j + 1, ⟨by omega, by rw [hsn]; exact h5⟩, by omega, by omega⟩
    · rw [hX, hfo h5]
      simp [h5, XEndT]
  · have hjl : j = x.args.length := by omega
    subst hjl
    unfold nodT at hp
    rw [List.take_length] at hp
    rw [hX, hp]
    simp [XEndT])
def chkE (n : Int) (x : Ex) : Int := if n < 0 ∨ 256 < n then 2 else if (decide (cntX 256 x ≤ 256) && deepX 16 x) = false then 5 else nodsX n x
theorem c_pneumaticref05_Check (x : Ex) (n : Int) (hok : okX x) : Pure Tryz.prog GL 20 [x.av, .p (.int .i64 n)] (.p (.int .i64 (chkE n x))) := by
  refine Pure.of_walk (N := 17) Tryz.func20 rfl rfl rfl (by simp) (by first | (simp; done) | simp [*]) ?_
  have hA := c_pneumaticref05_Light x hok
  have hB := c_nodes x hok n
  have hE : chkE n x = if n < 0 ∨ 256 < n then 2 else if (decide (cntX 256 x ≤ 256) && deepX 16 x) = false then 5 else nodsX n x := rfl
  rw [hE]
  generalize (decide (cntX 256 x ≤ 256) && deepX 16 x) = lt at *
  by_cases h1 : n < 0
  · simp [h1, XEndT]
  by_cases h2 : 256 < n
  · simp [h1, h2, XEndT]
  rw [if_neg (by omega)]
  simp [h1, h2]
  refine xcall_pure hA ?_
  cases lt with
  | false => simp [XEndT]
  | true =>
    simp
    refine xcall_pure hB ?_
    simp [XEndT]
def pntT (k j : Nat) : List Bool := (List.range j).map fun i => k.testBit i
theorem pntT_zero {k : Nat} : pntT k 0 = [] := rfl
theorem pntT_snoc {k j : Nat} : pntT k (j + 1) = pntT k j ++ [k.testBit j] := by unfold pntT; rw [List.range_succ, List.map_append]; rfl
theorem pntT_len {k j : Nat} : (pntT k j).length = j := by unfold pntT; rw [List.length_map, List.length_range]
@[simp] def brow (b : Bool) : List AV := [.p (.bool b)]
@[simp] def benc (b : Bool) : List PV := [.bool b]
theorem shr_bit {k j : Nat} : decide (((shrN k j : Nat) : Int).tmod 2 = 1) = k.testBit j := by
  rw [← and_one, Int.tmod_eq_emod_of_nonneg (by omega)]
theorem shr_half {k j : Nat} : ((shrN k j : Nat) : Int).tdiv 2 = ((shrN k (j + 1) : Nat) : Int) := by
  rw [Int.tdiv_eq_ediv_of_nonneg (by omega)]
  unfold shrN
  rw [Nat.pow_succ, ← Nat.div_div_eq_div_mul]
  exact (Int.natCast_ediv ..).symm
theorem shr_zero {k : Nat} : shrN k 0 = k := by unfold shrN; rw [Nat.pow_zero, Nat.div_one]
theorem c_pneumaticref05_Point (n k : Nat) (hn : n ≤ 6) (hk : k < 64) : Pure Tryz.prog GL 11 [.p (.int .i64 n), .p (.int .i64 k)] (.p (.lst 1 ((pntT k n).map benc))) := by
  refine Pure.of_walk (N := 21) Tryz.func11 rfl rfl rfl (by simp) (by first | (simp; done) | simp [*]) ?_
  have h0 := @shr_zero k
  simp
  refine XLoop.go [0] [] 1 [0] (nms [5]) (fun nx (j : Nat) => [(5, .acc nx 1 (pntT k j).length), (6, .p (.int .i64 j)), (1, .p (.int .i64 (shrN k j)))]) (fun nx j => [(nx, accB 1 ((pntT k j).map brow))]) (fun j => j ≤ n) (fun j => n - j) 0 (by omega) ?_ ?_
  · simp [pntT_zero, h0]
    try decide
  intro j hj
  have hsn := @pntT_snoc k j
  have hln := @pntT_len k j
  have hsl : shrN k j ≤ k := Nat.div_le_self ..
  have hsl2 : shrN k (j + 1) ≤ k := Nat.div_le_self ..
  simp
  refine xif_split (fun h => ?_) (fun h => ?_)
  · simp at h
    have hh : ((shrN k j : Nat) : Int) / 2 = ((shrN k (j + 1) : Nat) : Int) := by rw [← shr_half, Int.tdiv_eq_ediv_of_nonneg (by omega)]
    simp [shr_bit, shr_half]
    refine ⟨by omega, by rw [hh]; exact wrap_n (by omega), wrap_i64 (by omega) (by omega), j + 1, by omega, by omega, ⟨by rw [hsn]; simp, by omega, hh⟩, ?_⟩
    rw [hsn]
    exact acc_ok1 (fun _ => rfl) (by simp)
  · simp at h
    have hjn : j = n := by omega
    subst hjn
    simp [XEndT]
end Go.Am
/- Contracts: what a form has at a point; slices.Contains at ints; chapter 8. -/
namespace Go.Am
open Go Go.Proofs Go.Pn

def bitI (b : Bool) : Nat := if b then 1 else 0
theorem diff_zero {n : Nat} {c : Cube} (h : c.Ok n) {p : Nat} : (andN ((p ^^^ c.value) &&& c.care) 0 = 0) ↔ c.has p = true := by
  rw [has_iff h, andN_zero]
  constructor
  · intro k i hi
    have := k i
    rw [Nat.testBit_and, Nat.testBit_xor, hi, Nat.zero_testBit] at this
    cases h1 : p.testBit i <;> cases h2 : c.value.testBit i <;> rw [h1, h2] at this <;> first | rfl | (exact absurd (this rfl) (by decide))
  · intro k i hi
    rw [Nat.testBit_and, Nat.testBit_xor, Bool.and_eq_true] at hi
    have := k i hi.2
    rw [this] at hi
    simp at hi
theorem c_hazard_state (n p : Nat) (c : Cube) (hn : n ≤ 4) (hp : p < 64) (hc : c.Ok n) : Pure Tryz.prog GL 61 [c.av, .agg [.p (.int .i64 p), .p (.int .i64 p)]] (.p (.int .i64 (bitI (c.has p)))) := by
  refine Pure.of_walk (N := 31) Tryz.func61 rfl rfl rfl (by simp) (by first | (simp; done) | simp [*]) ?_
  obtain ⟨hc1, hc2⟩ := cube_small hc hn
  have hz := @diff_zero n c hc p
  have hx : p ^^^ c.value < 2 ^ 64 := Nat.xor_lt_two_pow (by omega) (by omega)
  have ha : (p ^^^ c.value) &&& c.care < 2 ^ 64 := and_lt (by omega)
  simp
  refine ⟨bit_i64 (by omega) (by omega), wrapu_n (by omega), bit_u64 (by omega) (by omega), bit_u64 hx (by omega), bit_u64 (b := 0) ha (by decide), ?_⟩
  cases hh : c.has p with
  | true =>
    have e := hz.2 hh
    simp [e]
    refine ⟨bit_u64 (b := 0) (by omega) (by decide), ?_⟩
    simp [XEndT, bitI]
  | false =>
    have e : ¬ andN ((p ^^^ c.value) &&& c.care) 0 = 0 := fun h => by rw [hz.1 h] at hh; cases hh
    simp [e, XEndT, bitI]
theorem c_hazard_either  : Pure Tryz.prog GL 60 [] (.agg [.p (.int .i64 0), .p (.int .i64 1), .p (.int .i64 2), .p (.int .i64 1), .p (.int .i64 1), .p (.int .i64 1), .p (.int .i64 2), .p (.int .i64 1), .p (.int .i64 2)]) := by
  refine Pure.of_walk (N := 5) Tryz.func60 rfl rfl rfl (by simp) (by first | (simp; done) | simp [*]) ?_
  simp [XEndT]
def anyT (L : List Cube) (p j : Nat) : Bool := (L.take j).any fun c => c.has p
theorem anyT_zero {L : List Cube} {p : Nat} : anyT L p 0 = false := rfl
theorem anyT_snoc {L : List Cube} {p j : Nat} {c : Cube} (e : L[j]? = some c) : anyT L p (j + 1) = (anyT L p j || c.has p) := by
  unfold anyT
  rw [take_snoc e, List.any_append]; simp
theorem anyT_all {L : List Cube} {p : Nat} : anyT L p L.length = L.any fun c => c.has p := by unfold anyT; rw [List.take_length]
theorem c_hazard_between (n p : Nat) (L : List Cube) (hn : n ≤ 4) (hp : p < 64) (hL : L.length ≤ 256) (hok : ∀ c ∈ L, c.Ok n) : Pure Tryz.prog GL 29 [.p (.lst 2 (L.map Cube.enc)), .agg [.p (.int .i64 p), .p (.int .i64 p)]] (.p (.int .i64 (bitI (L.any fun c => c.has p)))) := by
  refine Pure.of_walk (N := 23) Tryz.func29 rfl rfl rfl (by simp) (by first | (simp; done) | simp [*]) ?_
  have hE := c_hazard_either
  simp
  refine XLoop.go [3, 8, 9] [0] 0 [] (fun _ => []) (fun _ (j : Nat) => [(5, .p (.int .i64 (bitI (anyT L p j)))), (10, .p (.int .i64 j))]) (fun _ _ => []) (fun j => j ≤ L.length) (fun j => L.length - j) 0 (by omega) ?_ ?_
  · simp [anyT_zero, bitI]
    try decide
  intro j hj
  simp
  refine xif_split (fun h => ?_) (fun h => ?_)
  · simp at h
    obtain ⟨c, e⟩ := get_lt h
    have hS := c_hazard_state n p c hn hp (hok c (List.mem_of_getElem? e))
    have hsn := anyT_snoc (p := p) e
    simp [h, e, -getElem?_pos, List.getElem?_cons_zero, List.getElem?_cons_succ]
    refine XDraw.intro (by kernel_rfl) ?_
    simp
    refine xcall_pure hE ?_
    cases h1 : anyT L p j <;> cases h2 : c.has p <;> rw [h1, h2] at hsn <;> rw [h2] at hS <;> simp [bitI] at hS ⊢
    all_goals
      refine xcall_pure hS ?_
      simp
      exact ⟨.of (by kernel_rfl), wrap_i64 (by omega) (by omega), j + 1, by omega, by omega, by rw [hsn]; rfl, by omega⟩
  · simp at h
    have hjl : j = L.length := by omega
    subst hjl
    rw [anyT_all]
    simp [XEndT]
theorem c_hazard_given (n p : Nat) (L : List Cube) (hn : n ≤ 4) (hp : p < p2 n) (hL : L.length ≤ 256) (hok : ∀ c ∈ L, c.Ok n) : Pure Tryz.prog GL 28 [.p (.int .i64 n), .p (.lst 2 (L.map Cube.enc)), .agg [.p (.int .i64 p), .p (.int .i64 p)]] (.p (.int .i64 0)) := by
  refine Pure.of_walk (N := 36) Tryz.func28 rfl rfl rfl (by simp) (by first | (simp; done) | simp [*]) ?_
  have hC := c_hazard_Check n L hn hL hok
  have h16 := p2_16 hn
  have h1 : ¬ (p : Int) < 0 := by omega
  have h2 : ¬ ((p2 n : Nat) : Int) ≤ p := by omega
  have h3 : ¬ p2 n ≤ p := by omega
  simp
  refine xcall_pure hC ?_
  simp
  refine XDraw.intro (by kernel_rfl) ?_
  simp [h1, h2, h3]
  exact ⟨⟨by omega, wrap_n (by omega)⟩, .of (by kernel_rfl), by simp [XEndT]⟩
theorem c_hazard_Between (n p : Nat) (L : List Cube) (hn : n ≤ 4) (hp : p < p2 n) (hL : L.length ≤ 256) (hok : ∀ c ∈ L, c.Ok n) : Pure Tryz.prog GL 12 [.p (.int .i64 n), .p (.lst 2 (L.map Cube.enc)), .agg [.p (.int .i64 p), .p (.int .i64 p)]] (.tup [.p (.int .i64 (bitI (L.any fun c => c.has p))), .p (.int .i64 0)]) := by
  refine Pure.of_walk (N := 19) Tryz.func12 rfl rfl rfl (by simp) (by first | (simp; done) | simp [*]) ?_
  have h16 := p2_16 hn
  have hA := c_hazard_given n p L hn hp hL hok
  have hB := c_hazard_between n p L hn (by omega) hL hok
  simp
  refine xcall_pure hA ?_
  simp
  refine xcall_pure hB ?_
  simp [XEndT]
theorem c_IdxI (l : List Nat) (v : Nat) (hl : l.length < 4611686018427387904) : Pure Tryz.prog GL 30 [.p (.lst 1 (l.map nenc)), .p (.int .i64 v)] (.p (.int .i64 (idxI l fun x => decide (x = v)))) := by
  refine Pure.of_walk (N := 19) Tryz.func30 rfl rfl rfl (by simp) (by first | (simp; done) | simp [*]) ?_
  simp
  refine XLoop.go [0, 1, 7] [] 0 [] (fun _ => []) (fun _ (k : Nat) => [(8, .p (.int .i64 k))]) (fun _ _ => []) (fun k => k ≤ l.length ∧ ∀ (j : Nat) x, j < k → l[j]? = some x → decide (x = v) = false) (fun k => l.length - k) 0 ⟨by omega, fun j b h => by omega⟩ ?_ ?_
  · simp
  rintro k ⟨hk, hp⟩
  simp
  refine xif_split (fun h => ?_) (fun h => ?_)
  · simp at h
    obtain ⟨x, e⟩ := get_lt h
    simp [h, e, -getElem?_pos, List.getElem?_cons_zero, List.getElem?_cons_succ]
    by_cases h2 : x = v
    · have h3 : decide (x = v) = true := decide_eq_true h2
      have h4 := idxI_at (q := fun x => decide (x = v)) e h3 hp
      have h5 : (v : Int) = x := by omega
      rw [h4]
      simp [h2, h5, XEndT]
    · have h3 : decide (x = v) = false := decide_eq_false h2
      have h5 : ¬ (v : Int) = x := by omega
      have h6 : ¬ v = x := fun e => h2 e.symm
      simp [h5, h6]
      refine ⟨wrap_i64 (by omega) (by omega), k + 1, ⟨by omega, fun j y hj ey => ?_⟩, by omega, by omega⟩
      by_cases hjk : j = k
      · subst hjk
        rw [e] at ey
        cases ey
        exact h2
      · have := hp j y (by omega) ey
        simpa using this
  · simp at h
    have hk2 : k = l.length := by omega
    subst hk2
    rw [idxI_none (below_all hp)]
    simp [XEndT]
theorem c_ConI (l : List Nat) (v : Nat) (hl : l.length < 4611686018427387904) : Pure Tryz.prog GL 13 [.p (.lst 1 (l.map nenc)), .p (.int .i64 v)] (.p (.bool (decide (v ∈ l)))) := by
  refine Pure.of_walk (N := 9) Tryz.func13 rfl rfl rfl (by simp) (by first | (simp; done) | simp [*]) ?_
  have hA := c_IdxI l v hl
  simp
  refine xcall_pure hA ?_
  simp [XEndT]
  simp [idxI_nonneg]
end Go.Am
/- Contracts: the values of expressions; chapter 5. -/
namespace Go.Am
open Go Go.Proofs Go.Pn

def vsF (vs : List Bool) : Nat → Bool := fun i => vs.getD i false
def resC (v : Bool) : ABlk := .cells 1 [[.p (.bool v)]]
@[simp] theorem resC_ren {ρ : List Nat} {v : Bool} : renB ρ (resC v) = some (resC v) := rfl
def evT (b0 : Nat) (w : Bool) : Slots := [(1, .iptr 1 [[.bool w]] 0 0), (3, .ptr b0 1 0 0)]
def jmpB : Bool → Option Code
  | true => none
  | false => some .ret
theorem jmpB_none {b : Bool} : (jmpB b).isNone = b := by cases b <;> rfl
def RoundEv (i : LoopI) (w : Bool) : Prop :=
  ∀ (x : Bool) (s : Store) (nx b0 lam : Nat), [lam, b0].Nodup → (∀ b ∈ [lam, b0], b < nx) → get s b0 = some (resC false) → get s lam = some (.loop i (evT b0 w) none) →
    GivesY Tryz.prog GL i.l [.p (.bool x)] s nx (.p (.bool (x == w))) [lam, b0] [(lam, some (.loop i (evT b0 w) (jmpB (x == w)))), (b0, some (resC false))] nx
theorem evAll_append {v : Nat → Bool} {w : Bool} {l m : List Ex} : evAll v w (l ++ m) = (evAll v w l && evAll v w m) := by
  rw [evAll_eq, evAll_eq, evAll_eq, List.all_append]
theorem evAll_one {v : Nat → Bool} {w : Bool} {y : Ex} : evAll v w [y] = (evX v y == w) := by rw [evAll_eq]; simp
abbrev xptr (x : Ex) : AV := .iptr 3 [[.int .i64 x.op, .int .i64 x.idx, .lst 3 (x.args.map Ex.enc)]] 0 0
abbrev vptr (vs : List Bool) : AV := .iptr 1 [[.lst 1 (vs.map benc)]] 0 0
theorem g_eval1 {i : LoopI} {w : Bool} (hY : RoundEv i w) (x : Ex) (vs : List Bool) (hl : x.args.length < 2305843009213693952) (ih : ∀ y ∈ x.args, Pure Tryz.prog GL 27 [y.av, .p (.lst 1 (vs.map benc))] (.p (.bool (evX (vsF vs) y))))
    (s : Store) (nx b0 lam : Nat) (hnd : [b0, lam].Nodup) (hlt : ∀ b ∈ [b0, lam], b < nx) (g0 : get s b0 = some (resC false)) (g3 : get s lam = some (.loop i (evT b0 w) none)) :
    Gives Tryz.prog GL 59 [.fn (.yield i.l) [], xptr x, vptr vs] s nx (.tup []) [b0, lam] [(lam, some (.loop i (evT b0 w) (jmpB (evAll (vsF vs) w x.args)))), (b0, some (resC false))] nx := by
  have hl0 : renB [b0, lam] (.loop i (evT 0 w) none) = some (.loop i (evT b0 w) none) := rfl
  have r9 : ∀ j, renB (List.range 2) (.loop i (evT 0 w) j) = some (.loop i (evT 0 w) j) := fun j => rfl
  have hL : LendsX [b0, lam] nx [(0, some (resC false)), (1, some (.loop i (evT 0 w) none))] s [.fn (.yield i.l) [], xptr x, vptr vs] [.fn (.yield i.l) [], xptr x, vptr vs] := by
    refine ⟨?_, rfl, hnd, hlt, rfl⟩
    simp [-renB, g0, g3, hl0]
  refine Gives.mk_walkK (N := 20) (args := [.fn (.yield i.l) [], xptr x, vptr vs]) [b0, lam] []
    [(0, some (resC false)), (1, some (.loop i (evT 0 w) none))] [(1, some (.loop i (evT 0 w) (jmpB (evAll (vsF vs) w x.args)))), (0, some (resC false))] 2 0 (.tup []) (fun _ => []) (up1 := [(lam, some (.loop i (evT b0 w) (jmpB (evAll (vsF vs) w x.args)))), (b0, some (resC false))]) Tryz.func59 rfl rfl rfl (by simp) rfl
    hL (by simp) rfl rfl (by simp) rfl ?_
  simp [-renB]
  refine XLoop.go [0, 2, 7, 8] [0] 0 [] (fun _ => []) (fun _ (j : Nat) => [(9, .p (.int .i64 j))]) (fun _ _ => [(1, some (.loop i (evT 0 w) none))]) (fun j => j ≤ x.args.length ∧ evAll (vsF vs) w (x.args.take j) = true) (fun j => x.args.length - j) 0 ⟨by omega, rfl⟩ ?_ ?_
  · simp [-renB, r9]
    try decide
  rintro j ⟨hj, hp⟩
  simp [-renB]
  refine xif_split (fun h => ?_) (fun h => ?_)
  · simp at h
    obtain ⟨y, e⟩ := get_lt h
    have hy := ih y (List.mem_of_getElem? e)
    simp [-renB, h, e, -getElem?_pos, List.getElem?_cons_zero, List.getElem?_cons_succ]
    refine xcall_pure hy ?_
    simp [-renB]
    refine xycall_gives (hY (evX (vsF vs) y) _ _ 0 1 (by simp) (by simp) rfl rfl) ?_
    cases hv : (evX (vsF vs) y == w) with
    | true =>
      have hj2 : evAll (vsF vs) w (x.args.take (j + 1)) = true := by rw [take_snoc e, evAll_append, hp, evAll_one, hv]; rfl
      simp [-renB, jmpB]
      exact ⟨wrap_i64 (by omega) (by omega), j + 1, ⟨by omega, hj2⟩, by omega, by omega, .inl rfl⟩
    | false =>
      have hall : evAll (vsF vs) w x.args = false := by
        have h2 : evAll (vsF vs) w (x.args.take (j + 1) ++ x.args.drop (j + 1)) = false := by rw [evAll_append, take_snoc e, evAll_append, hp, evAll_one, hv]; rfl
        rw [List.take_append_drop] at h2
        exact h2
      rw [hall]
      simp [-renB, jmpB]
      exact rfl
  · simp at h
    have hjl : j = x.args.length := by omega
    subst hjl
    rw [List.take_length] at hp
    rw [hp]
    simp [-renB, r9, jmpB]
    try decide
theorem c_every1 (w : Bool) (x : Ex) (vs : List Bool) (hl : x.args.length < 2305843009213693952) (ih : ∀ y ∈ x.args, Pure Tryz.prog GL 27 [y.av, .p (.lst 1 (vs.map benc))] (.p (.bool (evX (vsF vs) y)))) :
    Pure Tryz.prog GL 126 [.fn (.func 59) [xptr x, vptr vs], .iptr 1 [[.bool w]] 0 0] (.p (.bool (evAll (vsF vs) w x.args))) := by
  refine Pure.of_walk (N := 10) Tryz.func126 rfl rfl rfl (by simp) rfl ?_
  simp
  refine XRange.intro [1, 3] Tryz.func59 rfl rfl fun l0 fn => ?_
  refine ⟨_, _, _, _, jmpB (evAll (vsF vs) w x.args), g_eval1 (i := ⟨l0, 10, fn, #[6], _, _⟩) (w := w) ?_ x vs hl ih _ _ 0 1 (by simp) (by simp) rfl rfl, rfl, ?_⟩
  · intro b s nx b0 lam hnd hlt g0 g3
    have hnd2 : [b0].Nodup := (List.nodup_cons.1 hnd).2
    have hlt2 : ∀ b ∈ [b0], b < nx := fun b hb => hlt b (List.mem_cons_of_mem _ hb)
    have hw := GivesY.of_walk (P := Tryz.prog) (G := GL) (i := ⟨l0, 10, fn, #[6], _, _⟩) (tl := evT b0 w) (σ := [b0]) (t0 := evT 0 w) (args := [.p (.bool b)]) (args' := [.p (.bool b)]) (free := []) (m := 1) (x := 0) (j := jmpB (b == w)) (nx := nx) (lam := lam) (s := s)
      (s0 := [(0, some (resC false))]) (s1 := [(0, some (resC false))]) (up1 := [(b0, some (resC false))])
      (fun _ => []) rfl ⟨?_, rfl, hnd2, hlt2, rfl⟩ g3 (List.nodup_cons.1 hnd).1 (hlt lam (by simp)) rfl rfl (by simp) (by simp) rfl ?_
    · rw [jmpB_none] at hw
      exact hw
    · simp [-renB, g0]
    · simp [roundSlots, evT, resC]
      cases b <;> cases w
      all_goals
        simp
        refine XEndYL.of ?_
        simp [-renB, XEndY, jmpB, jumpOf, resC, renB_cellsR]
        try decide
  · cases h : evAll (vsF vs) w x.args with
    | true =>
      simp [jmpB, afterJump, resC]
      simp [XEndT]
    | false =>
      simp [jmpB, afterJump, resC]
      simp [XEndT]
theorem c_boolexp_every (w : Bool) : Pure Tryz.prog GL 99 [.p (.bool w)] (.fn (.func 126) [.iptr 1 [[.bool w]] 0 0]) := by
  refine Pure.of_walk (N := 4) Tryz.func99 rfl rfl rfl (by simp) (by first | (simp; done) | simp [*]) ?_
  simp [XEndT]
theorem c_shapes1 (x : Ex) (vs : List Bool) (hl : x.args.length < 2305843009213693952) (ih : ∀ y ∈ x.args, Pure Tryz.prog GL 27 [y.av, .p (.lst 1 (vs.map benc))] (.p (.bool (evX (vsF vs) y)))) :
    Pure Tryz.prog GL 100 [.fn (.func 59) [xptr x, vptr vs]] (.p (.bool (!evAll (vsF vs) false x.args))) := by
  refine Pure.of_walk (N := 7) Tryz.func100 rfl rfl rfl (by simp) rfl ?_
  have hE := c_boolexp_every false
  have h1 := c_every1 false x vs hl ih
  simp
  refine xcall_pure hE ?_
  simp
  refine xcall_pure h1 ?_
  simp [XEndT]
abbrev evFn (w : Bool) : AV := .fn (.func 126) [.iptr 1 [[.bool w]] 0 0]
theorem c_boolexp_shapes  : Pure Tryz.prog GL 58 [] (.agg [.p (.int .i64 0), .p (.int .i64 0), .p .nilf, .p (.int .i64 0), .p (.int .i64 0), .p .nilf, .p (.int .i64 1), .p (.int .i64 1), evFn false, .p (.int .i64 2), .p (.int .i64 256), evFn true, .p (.int .i64 2), .p (.int .i64 256), .fn (.func 100) []]) := by
  refine Pure.of_walk (N := 9) Tryz.func58 rfl rfl rfl (by simp) (by first | (simp; done) | simp [*]) ?_
  have h1 := c_boolexp_every false
  have h2 := c_boolexp_every true
  simp
  refine xcall_pure h1 ?_
  simp
  refine xcall_pure h2 ?_
  simp [XEndT]
  exact ⟨toV_refl _ rfl, toV_refl _ rfl⟩
theorem evX_eq {v : Nat → Bool} {x : Ex} : evX v x = if x.op = 0 then decide (x.idx = 1) else if x.op = 1 then v x.idx.toNat else if x.op = 2 then evAll v false x.args else if x.op = 3 then evAll v true x.args else !evAll v false x.args := by cases x; rfl
theorem nodE_zero {n : Int} {x : Ex} (h : nodE n x = 0) : (x.op = 0 ∨ x.op = 1 ∨ x.op = 2 ∨ x.op = 3 ∨ x.op = 4) ∧ 0 ≤ x.idx ∧ (x.op = 1 → x.idx < n) ∧ (x.op = 0 → x.idx < 2) ∧ (x.op ≤ 1 → x.args = []) ∧ (x.op = 2 → x.args.length = 1) ∧ (3 ≤ x.op → 2 ≤ x.args.length) ∧ (2 ≤ x.op → x.idx = 0) := by
  unfold nodE at h
  by_cases h1 : x.op < 0 ∨ 5 ≤ x.op
  · rw [if_pos h1] at h; cases h
  rw [if_neg h1] at h
  by_cases h2 : (x.op ≤ 1 ∧ x.args.length ≠ 0) ∨ (x.op = 2 ∧ x.args.length ≠ 1) ∨ (3 ≤ x.op ∧ x.args.length < 2)
  · rw [if_pos h2] at h; cases h
  rw [if_neg h2] at h
  by_cases h3 : x.idx < 0 ∨ (if x.op = 0 then 2 else if x.op = 1 then n else 1) ≤ x.idx
  · rw [if_pos h3] at h; cases h
  refine ⟨by omega, by omega, fun e => ?_, fun e => ?_, fun e => ?_, fun e => by omega, fun e => by omega, fun e => ?_⟩
  · rw [if_neg (by omega), if_pos e] at h3; omega
  · rw [if_pos e] at h3; omega
  · exact List.length_eq_zero_iff.1 (by omega)
  · rw [if_neg (by omega), if_neg (by omega)] at h3; omega
theorem c_eval (vs : List Bool) (hv : vs.length ≤ 6) : ∀ x : Ex, okX x → nodsX vs.length x = 0 → Pure Tryz.prog GL 27 [x.av, .p (.lst 1 (vs.map benc))] (.p (.bool (evX (vsF vs) x))) := Ex.ind' (fun x ih hok hr => by
  obtain ⟨hl, ho⟩ := okX_args hok
  obtain ⟨hr0, hra⟩ := nodsX_zero hr
  obtain ⟨f1, f2, f3, f4, f5, f6, f7, f8⟩ := nodE_zero hr0
  have ih2 : ∀ y ∈ x.args, Pure Tryz.prog GL 27 [y.av, .p (.lst 1 (vs.map benc))] (.p (.bool (evX (vsF vs) y))) := fun y hy => ih y hy (ho y hy) (hra y hy)
  have e0 := @evX_eq (vsF vs) x
  have hS := c_boolexp_shapes
  refine Pure.of_walk (N := 26) Tryz.func27 rfl rfl rfl (by simp) rfl ?_
  rcases f1 with h | h | h | h | h
  · rw [h] at e0
    simp at e0
    rw [e0]
    simp [h, XEndT]
  · rw [h] at e0
    simp at e0
    have hi := f3 h
    obtain ⟨k, hk⟩ : ∃ k : Nat, x.idx = k := ⟨x.idx.toNat, by omega⟩
    have hkl : k < vs.length := by omega
    obtain ⟨b, e⟩ := get_lt hkl
    have hvs : vsF vs k = b := by unfold vsF; rw [List.getD_eq_getElem?_getD, e]; rfl
    rw [hk] at e0
    simp at e0
    rw [e0, hvs]
    simp [h, hk, hkl, e, -getElem?_pos, List.getElem?_cons_zero, List.getElem?_cons_succ]
    simp [XEndT]
  · have h1 := c_every1 false x vs hl ih2
    unfold xptr at h1
    rw [h] at h1 e0
    simp at e0
    rw [e0]
    simp [h]
    refine XDraw.intro (by kernel_rfl) ?_
    simp [h]
    refine xcall_pure hS ?_
    simp
    refine xcall_given ?_
    simp
    refine ⟨_, h1, ?_⟩
    exact ⟨.of (by kernel_rfl), by simp [XEndT]⟩
  · have h1 := c_every1 true x vs hl ih2
    unfold xptr at h1
    rw [h] at h1 e0
    simp at e0
    rw [e0]
    simp [h]
    refine XDraw.intro (by kernel_rfl) ?_
    simp [h]
    refine xcall_pure hS ?_
    simp
    refine xcall_given ?_
    simp
    refine ⟨_, h1, ?_⟩
    exact ⟨.of (by kernel_rfl), by simp [XEndT]⟩
  · have h1 := c_shapes1 x vs hl ih2
    unfold xptr at h1
    rw [h] at h1 e0
    simp at e0
    rw [e0]
    simp [h]
    refine XDraw.intro (by kernel_rfl) ?_
    simp [h]
    refine xcall_pure hS ?_
    simp
    refine xcall_given ?_
    simp
    refine ⟨_, h1, ?_⟩
    exact ⟨.of (by kernel_rfl), by simp [XEndT]⟩)
end Go.Am
/- Contracts: the nodes of expressions, one by one; measure; chapter 5. -/
namespace Go.Am
open Go Go.Proofs Go.Pn

mutual
def mxX (k d : Nat) : Ex → Nat
  | .mk _ _ al => mxL (k + 1) (max d k) al
def mxL (k d : Nat) : List Ex → Nat
  | [] => d
  | x :: xs => mxL k (mxX k d x) xs
end
theorem mxX_eq {k d : Nat} {x : Ex} : mxX k d x = mxL (k + 1) (max d k) x.args := by cases x; rfl
theorem mxL_append {k : Nat} : ∀ {l m : List Ex} {d : Nat}, mxL k d (l ++ m) = mxL k (mxL k d l) m
  | [], m, d => rfl
  | x :: xs, m, d => by rw [List.cons_append, mxL, mxL, mxL_append]
theorem szX_eq {x : Ex} : szX x = 1 + szL x.args := by cases x; rfl
theorem szL_append : ∀ {l m : List Ex}, szL (l ++ m) = szL l + szL m
  | [], m => by rw [szL, List.nil_append, Nat.zero_add]
  | x :: xs, m => by rw [List.cons_append, szL, szL, szL_append, Nat.add_assoc]
theorem szL_one {x : Ex} : szL [x] = szX x := by rw [szL, szL, Nat.add_zero]
theorem szL_take {l : List Ex} {j : Nat} : szL (l.take j) ≤ szL l := by
  have h : szL l = szL (l.take j ++ l.drop j) := by rw [List.take_append_drop]
  rw [h, szL_append]
  exact Nat.le_add_right ..
theorem deepX_step {k : Nat} {x y : Ex} (h : deepX k x = true) (hy : y ∈ x.args) : ∃ m, k = m + 2 ∧ deepX (m + 1) y = true := by
  match k with
  | 0 => cases h
  | 1 =>
    rw [deepX, List.isEmpty_iff] at h
    rw [h] at hy; cases hy
  | m + 2 =>
    rw [deepX, List.all_eq_true] at h
    exact ⟨m, rfl, h y hy⟩

def msT (b2 b3 b4 b5 b6 : Nat) : Slots := [(2, .ptr b2 1 0 0), (3, .ptr b3 1 0 0), (4, .ptr b4 1 0 0), (5, .ptr b5 1 0 0), (6, .ptr b6 1 0 0)]
def RoundMs (i : LoopI) : Prop :=
  ∀ (n d k : Nat) (y : Ex) (s : Store) (nx b2 b3 b4 b5 b6 lam : Nat), n < 256 → k ≤ 16 → d ≤ 16 → [lam, b2, b3, b4, b5, b6].Nodup → (∀ b ∈ [lam, b2, b3, b4, b5, b6], b < nx) → get s b2 = some (intC 0) → get s b3 = some (intC 0) → get s b4 = some (resC false) → get s b5 = some (intC n) → get s b6 = some (intC d) →
    get s lam = some (.loop i (msT b2 b3 b4 b5 b6) none) →
    GivesY Tryz.prog GL i.l [.p (.int .i64 k), y.av] s nx (.p (.bool true)) [lam, b2, b3, b4, b5, b6] [(lam, some (.loop i (msT b2 b3 b4 b5 b6) none)), (b5, some (intC (n + 1))), (b6, some (intC (max d k)))] nx
def visC (a b : Nat) : ABlk := .cells 1 [[.fn (.func 56) [.ptr a 1 0 0, .ptr b 1 0 0]]]
def yldC (l : Nat) : ABlk := .cells 1 [[.fn (.yield l) []]]
def msS (i : LoopI) (n d : Nat) : Store := [(0, some (intC 0)), (1, some (intC 0)), (2, some (resC false)), (3, some (intC n)), (4, some (intC d)), (5, some (.loop i (msT 0 1 2 3 4) none)), (6, some (yldC i.l)), (7, some (visC 6 7))]
theorem ms_lends {i : LoopI} {n d : Nat} {s : Store} {nx b2 b3 b4 b5 b6 lam a b : Nat} {x : Ex} {y : PV} (hnd : [b2, b3, b4, b5, b6, lam, a, b].Nodup) (hlt : ∀ x ∈ [b2, b3, b4, b5, b6, lam, a, b], x < nx)
    (g0 : get s b2 = some (intC 0)) (g1 : get s b3 = some (intC 0)) (g2 : get s b4 = some (resC false)) (g3 : get s b5 = some (intC n)) (g4 : get s b6 = some (intC d)) (g5 : get s lam = some (.loop i (msT b2 b3 b4 b5 b6) none)) (g6 : get s a = some (yldC i.l)) (g7 : get s b = some (visC a b)) :
    LendsX [b2, b3, b4, b5, b6, lam, a, b] nx (msS i n d) s [x.av, .p y, .ptr 6 1 0 0, .ptr 7 1 0 0] [x.av, .p y, .ptr a 1 0 0, .ptr b 1 0 0] := by
  have e5 : renB [b2, b3, b4, b5, b6, lam, a, b] (.loop i (msT 0 1 2 3 4) none) = some (.loop i (msT b2 b3 b4 b5 b6) none) := rfl
  have e6 : renB [b2, b3, b4, b5, b6, lam, a, b] (yldC i.l) = some (yldC i.l) := rfl
  have e7 : renB [b2, b3, b4, b5, b6, lam, a, b] (visC 6 7) = some (visC a b) := rfl
  refine ⟨?_, rfl, hnd, hlt, rfl⟩
  simp [-renB, msS, g0, g1, g2, g3, g4, g5, g6, g7, e5, e6, e7, intC_ren]
theorem deep_k {k : Nat} {x : Ex} (h : deepX (17 - k) x = true) : k ≤ 16 := by
  apply Classical.byContradiction
  intro hk
  rw [show 17 - k = 0 by omega] at h
  cases h
theorem deep_arg {k : Nat} {x y : Ex} (h : deepX (17 - k) x = true) (hy : y ∈ x.args) : k ≤ 15 ∧ deepX (17 - (k + 1)) y = true := by
  obtain ⟨m, hm, hdy⟩ := deepX_step h hy
  exact ⟨by omega, by rw [show 17 - (k + 1) = m + 1 by omega]; exact hdy⟩
theorem mxX_le : ∀ (x : Ex) (k d : Nat), deepX (17 - k) x = true → d ≤ 16 → mxX k d x ≤ 16 := Ex.ind' (fun x ih k d h hd => by
  have hk := deep_k h
  rw [mxX_eq]
  have key : ∀ (l : List Ex) (d : Nat), (∀ y ∈ l, y ∈ x.args) → d ≤ 16 → mxL (k + 1) d l ≤ 16 := by
    intro l
    induction l with
    | nil => exact fun d _ hd => hd
    | cons y ys ihl =>
      intro d hs hd
      rw [mxL]
      have hy := hs y List.mem_cons_self
      exact ihl _ (fun z hz => hs z (List.mem_cons_of_mem _ hz)) (ih y hy (k + 1) d (deep_arg h hy).2 hd)
  exact key _ _ (fun y hy => hy) (by omega))
theorem mxL_le {x : Ex} {k d j : Nat} (h : deepX (17 - k) x = true) (hd : d ≤ 16) : mxL (k + 1) d (x.args.take j) ≤ 16 := by
  induction j with
  | zero => exact hd
  | succ j ihj =>
    by_cases hj : j < x.args.length
    · obtain ⟨y, e⟩ := get_lt hj
      rw [take_snoc e, mxL_append]
      exact mxX_le y (k + 1) _ (deep_arg h (List.mem_of_getElem? e)).2 ihj
    · rw [List.take_of_length_le (by omega)]
      rw [List.take_of_length_le (by omega)] at ihj
      exact ihj
set_option maxRecDepth 20000 in
theorem g_visMs {i : LoopI} (hY : RoundMs i) : ∀ x : Ex, okX x → ∀ (k n d : Nat) (s : Store) (nx b2 b3 b4 b5 b6 lam a b : Nat), deepX (17 - k) x = true → n + szX x ≤ 256 → d ≤ 16 → [b2, b3, b4, b5, b6, lam, a, b].Nodup → (∀ x ∈ [b2, b3, b4, b5, b6, lam, a, b], x < nx) →
    get s b2 = some (intC 0) → get s b3 = some (intC 0) → get s b4 = some (resC false) → get s b5 = some (intC n) → get s b6 = some (intC d) → get s lam = some (.loop i (msT b2 b3 b4 b5 b6) none) → get s a = some (yldC i.l) → get s b = some (visC a b) →
    Gives Tryz.prog GL 56 [x.av, .p (.int .i64 k), .ptr a 1 0 0, .ptr b 1 0 0] s nx (.p (.bool true)) [b2, b3, b4, b5, b6, lam, a, b] [(b5, some (intC (n + szX x))), (b6, some (intC (mxX k d x)))] nx := Ex.ind' (fun x ih hok k n d s nx b2 b3 b4 b5 b6 lam a b hdp hsz hd16 hnd hlt g0 g1 g2 g3 g4 g5 g6 g7 => by
  obtain ⟨hl, ho⟩ := okX_args hok
  have hk16 := deep_k hdp
  have hdm : max d k ≤ 16 := by omega
  have hszx := @szX_eq x
  have hmx := fun j => @mxL_le x k (max d k) j hdp hdm
  have hst : ∀ j, szL (x.args.take j) ≤ szL x.args := fun j => szL_take
  have hme := @mxX_eq k d x
  rw [hme, hszx]
  rw [hszx] at hsz
  refine Gives.mk_walkK (N := 32) (args := [x.av, .p (.int .i64 k), .ptr 6 1 0 0, .ptr 7 1 0 0]) [b2, b3, b4, b5, b6, lam, a, b] []
    (msS i n d) [(3, some (intC (n + (1 + szL x.args)))), (4, some (intC (mxL (k + 1) (max d k) x.args)))] 8 0 (.p (.bool true)) (fun _ => []) (up1 := [(b5, some (intC (n + (1 + szL x.args)))), (b6, some (intC (mxL (k + 1) (max d k) x.args)))]) Tryz.func56 rfl rfl rfl (by simp) rfl
    (ms_lends hnd hlt g0 g1 g2 g3 g4 g5 g6 g7) (by simp) rfl rfl (by simp) rfl ?_
  have r8 : renB (List.range 8) (.loop i (msT 0 1 2 3 4) none) = some (.loop i (msT 0 1 2 3 4) none) := rfl
  have r9 : renB (List.range 9) (.loop i (msT 0 1 2 3 4) none) = some (.loop i (msT 0 1 2 3 4) none) := rfl
  simp [-renB, msS, yldC, visC]
  refine xycall_gives (hY n d k x _ _ 0 1 2 3 4 5 (by omega) hk16 hd16 (by simp) (by simp) rfl rfl rfl rfl rfl rfl) ?_
  simp [-renB]
  refine XLoop.go [1, 3, 15, 16] [0, 1, 2, 5, 6, 7, 8] 0 [] (fun _ => []) (fun _ (j : Nat) => [(17, .p (.int .i64 j))]) (fun _ j => [(3, some (intC (n + 1 + szL (x.args.take j)))), (4, some (intC (mxL (k + 1) (max d k) (x.args.take j))))]) (fun j => j ≤ x.args.length) (fun j => x.args.length - j) 0 (by omega) ?_ ?_
  · simp [-renB, r9, renB_cellsR, intC_ren, szL, mxL]
    try decide
  intro j hj
  simp [-renB]
  refine xif_split (fun h => ?_) (fun h => ?_)
  · simp at h
    obtain ⟨y, e⟩ := get_lt h
    have hy := List.mem_of_getElem? e
    obtain ⟨hk15, hdy⟩ := deep_arg hdp hy
    have hki : (k : Int) ≤ 16 := by omega
    have hsn : szL (x.args.take (j + 1)) = szL (x.args.take j) + szX y := by rw [take_snoc e, szL_append, szL_one]
    have hmn : mxL (k + 1) (max d k) (x.args.take (j + 1)) = mxX (k + 1) (mxL (k + 1) (max d k) (x.args.take j)) y := by rw [take_snoc e, mxL_append]; rfl
    have hs1 := hst (j + 1)
    simp [-renB, h, e, hki, -getElem?_pos, List.getElem?_cons_zero, List.getElem?_cons_succ]
    refine ⟨wrap_i64 (by omega) (by omega), ?_⟩
    refine xcall_gives (ih y hy (ho y hy) (k + 1) (n + 1 + szL (x.args.take j)) (mxL (k + 1) (max d k) (x.args.take j)) _ _ 0 1 2 3 4 5 6 7 hdy (by omega) (hmx j) (by simp) (by simp) rfl rfl rfl rfl rfl rfl rfl rfl) ?_
    rw [Nat.add_assoc (n + 1), ← hsn, ← hmn]
    simp [-renB, r9, renB_cellsR, intC_ren]
    exact ⟨wrap_i64 (by omega) (by omega), j + 1, by omega, by omega, by omega, ⟨.inl rfl, .inl rfl⟩, by decide⟩
  · simp at h
    have hjl : j = x.args.length := by omega
    subst hjl
    rw [List.take_length]
    rw [Nat.add_assoc n]
    simp [-renB, r8, renB_cellsR, intC_ren, msS, yldC, visC]
    decide)
set_option maxRecDepth 20000 in
theorem g_preMs {i : LoopI} (hY : RoundMs i) (x : Ex) (hok : okX x) (hdp : deepX 16 x = true) (hsz : szX x ≤ 256) (s : Store) (nx b2 b3 b4 b5 b6 lam : Nat) (hnd : [b2, b3, b4, b5, b6, lam].Nodup) (hlt : ∀ x ∈ [b2, b3, b4, b5, b6, lam], x < nx)
    (g0 : get s b2 = some (intC 0)) (g1 : get s b3 = some (intC 0)) (g2 : get s b4 = some (resC false)) (g3 : get s b5 = some (intC 0)) (g4 : get s b6 = some (intC 0)) (g5 : get s lam = some (.loop i (msT b2 b3 b4 b5 b6) none)) :
    Gives Tryz.prog GL 55 [.fn (.yield i.l) [], xptr x] s nx (.tup []) [b2, b3, b4, b5, b6, lam] [(b5, some (intC (szX x))), (b6, some (intC (mxX 1 0 x)))] nx := by
  have e5 : renB [b2, b3, b4, b5, b6, lam] (.loop i (msT 0 1 2 3 4) none) = some (.loop i (msT b2 b3 b4 b5 b6) none) := rfl
  have r6 : renB (List.range 6) (.loop i (msT 0 1 2 3 4) none) = some (.loop i (msT 0 1 2 3 4) none) := rfl
  have hL : LendsX [b2, b3, b4, b5, b6, lam] nx [(0, some (intC 0)), (1, some (intC 0)), (2, some (resC false)), (3, some (intC 0)), (4, some (intC 0)), (5, some (.loop i (msT 0 1 2 3 4) none))] s [.fn (.yield i.l) [], xptr x] [.fn (.yield i.l) [], xptr x] := by
    refine ⟨?_, rfl, hnd, hlt, rfl⟩
    simp [-renB, g0, g1, g2, g3, g4, g5, e5, intC_ren]
  refine Gives.mk_walkK (N := 8) (args := [.fn (.yield i.l) [], xptr x]) [b2, b3, b4, b5, b6, lam] []
    [(0, some (intC 0)), (1, some (intC 0)), (2, some (resC false)), (3, some (intC 0)), (4, some (intC 0)), (5, some (.loop i (msT 0 1 2 3 4) none))] [(3, some (intC (szX x))), (4, some (intC (mxX 1 0 x)))] 6 0 (.tup []) (fun _ => []) (up1 := [(b5, some (intC (szX x))), (b6, some (intC (mxX 1 0 x)))]) Tryz.func55 rfl rfl rfl (by simp) rfl
    hL (by simp) rfl rfl (by simp) rfl ?_
  simp [-renB]
  refine xcall_gives (g_visMs hY x hok 1 0 0 _ _ 0 1 2 3 4 5 6 7 hdp (by omega) (by omega) (by simp) (by simp) rfl rfl rfl rfl rfl rfl rfl rfl) ?_
  rw [Nat.zero_add]
  simp [-renB, r6, intC_ren]
  try decide
theorem c_boolexp_preorder (x : Ex) : Pure Tryz.prog GL 24 [x.av] (.fn (.func 55) [xptr x]) := by
  refine Pure.of_walk (N := 4) Tryz.func24 rfl rfl rfl (by simp) (by first | (simp; done) | simp [*]) ?_
  simp [XEndT]
set_option maxRecDepth 20000 in
theorem c_boolexp_measure (x : Ex) (hok : okX x) (hdp : deepX 16 x = true) (hsz : szX x ≤ 256) : Pure Tryz.prog GL 53 [x.av] (.tup [.p (.int .i64 (szX x)), .p (.int .i64 (mxX 1 0 x)), .p (.bool true)]) := by
  refine Pure.of_walk (N := 25) Tryz.func53 rfl rfl rfl (by simp) (by first | (simp; done) | simp [*]) ?_
  have hP := c_boolexp_preorder x
  simp
  refine xcall_pure hP ?_
  simp
  refine XRange.intro [2, 3, 4, 5, 6] Tryz.func55 rfl rfl fun l0 fn => ?_
  refine ⟨_, _, _, _, none, g_preMs (i := ⟨l0, 25, fn, #[10, 11], _, _⟩) ?_ x hok hdp hsz _ _ 1 2 3 4 5 6 (by simp) (by simp) rfl rfl rfl rfl rfl rfl, rfl, ?_⟩
  · intro n d k y s nx b2 b3 b4 b5 b6 lam hn hk hd hnd hlt g0 g1 g2 g3 g4 g5
    have hnd2 : [b2, b3, b4, b5, b6].Nodup := (List.nodup_cons.1 hnd).2
    have hlt2 : ∀ b ∈ [b2, b3, b4, b5, b6], b < nx := fun b hb => hlt b (List.mem_cons_of_mem _ hb)
    refine GivesY.of_walk (σ := [b2, b3, b4, b5, b6]) (t0 := msT 0 1 2 3 4) (args := [.p (.int .i64 k), y.av]) (free := []) (m := 5) (x := 0) (j := none)
      (s0 := [(0, some (intC 0)), (1, some (intC 0)), (2, some (resC false)), (3, some (intC n)), (4, some (intC d))])
      (s1 := [(3, some (intC (n + 1))), (4, some (intC (max d k)))])
      (fun _ => []) rfl ⟨?_, rfl, hnd2, hlt2, rfl⟩ g5 (List.nodup_cons.1 hnd).1 (hlt lam (by simp)) rfl rfl (by simp) (by simp) rfl ?_
    · simp [-renB, g0, g1, g2, g3, g4, intC_ren]
    · have h1 : ¬ (256 : Int) < n + 1 := by omega
      have h2 : ¬ (16 : Int) < k := by omega
      have hmax : max (d : Int) (k : Int) = ((max d k : Nat) : Int) := max_nat
      simp [roundSlots, msT, intC, resC, h1, h2, hmax]
      refine ⟨wrap_i64 (by omega) (by omega), XEndYL.of ⟨rfl, ?_⟩⟩
      simp [-renB, renB_cellsR]
      try decide
  · simp [afterJump, intC, resC]
    refine XDraw.intro (by kernel_rfl) ?_
    simp
    exact ⟨.of (by kernel_rfl), by simp [XEndT]⟩
end Go.Am
/- Contracts: boolexp.Check; chapter 5. -/
namespace Go.Am
open Go Go.Proofs Go.Pn

set_option maxRecDepth 100000 in
theorem c_bnodeV (rows : List (List PV)) (n o i : Int) (hl : rows.length ≤ 256) (hn : 0 ≤ n ∧ n ≤ 1000) (h : nodV n o i rows.length = 0) : Pure Tryz.prog GL 54 [.agg [.p (.int .i64 o), .p (.int .i64 i), .p (.lst 3 rows)], .p (.int .i64 n)] (.p (.int .i64 0)) := by
  have hS := c_boolexp_shapes
  refine Pure.of_walk (N := 50) Tryz.func54 rfl rfl rfl (by simp) rfl ?_
  unfold nodV at h
  by_cases a0 : o < 0 ∨ 5 ≤ o
  · rw [if_pos a0] at h; cases h
  rw [if_neg a0] at h
  by_cases a1 : (o ≤ 1 ∧ rows.length ≠ 0) ∨ (o = 2 ∧ rows.length ≠ 1) ∨ (3 ≤ o ∧ rows.length < 2)
  · rw [if_pos a1] at h; cases h
  rw [if_neg a1] at h
  by_cases a2 : i < 0 ∨ (if o = 0 then 2 else if o = 1 then n else 1) ≤ i
  · rw [if_pos a2] at h; cases h
  clear h
  have c1 : ¬ i < 0 := by omega
  rcases (by omega : o = 0 ∨ o = 1 ∨ o = 2 ∨ o = 3 ∨ o = 4) with rfl | rfl | rfl | rfl | rfl
  · have b1 : rows = [] := List.length_eq_zero_iff.1 (by omega)
    subst b1
    have c2 : ¬ (1 : Int) < i := by rw [if_pos rfl] at a2; omega
    simp
    refine XDraw.intro (by kernel_rfl) ?_
    simp
    refine xcall_pure hS ?_
    simp [c1, c2]
    exact ⟨.of (by kernel_rfl), by simp [XEndT]⟩
  · have b1 : rows = [] := List.length_eq_zero_iff.1 (by omega)
    subst b1
    have c2 : ¬ n - 1 < i := by rw [if_neg (by decide), if_pos rfl] at a2; omega
    simp
    refine XDraw.intro (by kernel_rfl) ?_
    simp
    refine xcall_pure hS ?_
    simp [c1, c2]
    exact ⟨.of (by kernel_rfl), wrap_i64 (by omega) (by omega), by simp [XEndT]⟩
  · have b1 : rows.length = 1 := by omega
    have c2 : ¬ (0 : Int) < i := by rw [if_neg (by decide), if_neg (by decide)] at a2; omega
    simp
    refine XDraw.intro (by kernel_rfl) ?_
    simp
    refine xcall_pure hS ?_
    simp [c1, c2, b1]
    exact ⟨.of (by kernel_rfl), by simp [XEndT]⟩
  all_goals
    have b1 : ¬ (rows.length : Int) < 2 := by omega
    have b2 : ¬ (256 : Int) < rows.length := by omega
    have c2 : ¬ (0 : Int) < i := by rw [if_neg (by decide), if_neg (by decide)] at a2; omega
    simp
    refine XDraw.intro (by kernel_rfl) ?_
    simp
    refine xcall_pure hS ?_
    simp [c1, c2, b1, b2]
    exact ⟨.of (by kernel_rfl), by simp [XEndT]⟩
theorem c_bnode (x : Ex) (n : Int) (hl : x.args.length ≤ 256) (hn : 0 ≤ n ∧ n ≤ 1000) (h : nodE n x = 0) : Pure Tryz.prog GL 54 [x.av, .p (.int .i64 n)] (.p (.int .i64 0)) :=
  c_bnodeV (x.args.map Ex.enc) n x.op x.idx (by rw [List.length_map]; exact hl) hn (by rw [List.length_map, ← nodV_eq]; exact h)
theorem szL_len : ∀ {l : List Ex}, l.length ≤ szL l
  | [] => Nat.le_refl _
  | x :: xs => by
    have := @szL_len xs
    have : 1 ≤ szX x := by rw [szX_eq]; omega
    rw [szL, List.length_cons]; omega
theorem szX_args {x : Ex} : x.args.length < szX x := by
  have := @szL_len x.args
  rw [szX_eq]; omega
theorem szX_mem {x y : Ex} (h : y ∈ x.args) : szX y ≤ szX x := by
  obtain ⟨j, hj, e⟩ := List.getElem_of_mem h
  have h1 : x.args[j]? = some y := by rw [List.getElem?_eq_getElem hj, e]
  have h2 := @szL_take x.args (j + 1)
  rw [take_snoc h1, szL_append, szL_one] at h2
  rw [@szX_eq x]; omega
def ckT (b3 b4 : Nat) : Slots := [(3, .ptr b3 1 0 0), (4, .ptr b4 1 0 0)]
def RoundCk (i : LoopI) (n : Nat) : Prop :=
  ∀ (k : Nat) (y : Ex) (s : Store) (nx b3 b4 lam : Nat), nodE n y = 0 → y.args.length ≤ 256 → [lam, b3, b4].Nodup → (∀ b ∈ [lam, b3, b4], b < nx) → get s b3 = some (intC n) → get s b4 = some (intC 0) → get s lam = some (.loop i (ckT b3 b4) none) →
    GivesY Tryz.prog GL i.l [.p (.int .i64 k), y.av] s nx (.p (.bool true)) [lam, b3, b4] [(lam, some (.loop i (ckT b3 b4) none))] nx
def ckS (i : LoopI) (n : Nat) : Store := [(0, some (intC n)), (1, some (intC 0)), (2, some (.loop i (ckT 0 1) none)), (3, some (yldC i.l)), (4, some (visC 3 4))]
theorem ck_lends {i : LoopI} {n : Nat} {s : Store} {nx b3 b4 lam a b : Nat} {x : Ex} {y : PV} (hnd : [b3, b4, lam, a, b].Nodup) (hlt : ∀ x ∈ [b3, b4, lam, a, b], x < nx)
    (g3 : get s b3 = some (intC n)) (g4 : get s b4 = some (intC 0)) (g5 : get s lam = some (.loop i (ckT b3 b4) none)) (g6 : get s a = some (yldC i.l)) (g7 : get s b = some (visC a b)) :
    LendsX [b3, b4, lam, a, b] nx (ckS i n) s [x.av, .p y, .ptr 3 1 0 0, .ptr 4 1 0 0] [x.av, .p y, .ptr a 1 0 0, .ptr b 1 0 0] := by
  have e5 : renB [b3, b4, lam, a, b] (.loop i (ckT 0 1) none) = some (.loop i (ckT b3 b4) none) := rfl
  have e6 : renB [b3, b4, lam, a, b] (yldC i.l) = some (yldC i.l) := rfl
  have e7 : renB [b3, b4, lam, a, b] (visC 3 4) = some (visC a b) := rfl
  refine ⟨?_, rfl, hnd, hlt, rfl⟩
  simp [-renB, ckS, g3, g4, g5, g6, g7, e5, e6, e7, intC_ren]
set_option maxRecDepth 20000 in
theorem g_visCk {i : LoopI} {n : Nat} (hY : RoundCk i n) : ∀ x : Ex, okX x → ∀ (k : Nat) (s : Store) (nx b3 b4 lam a b : Nat), deepX (17 - k) x = true → szX x ≤ 256 → nodsX n x = 0 → [b3, b4, lam, a, b].Nodup → (∀ x ∈ [b3, b4, lam, a, b], x < nx) →
    get s b3 = some (intC n) → get s b4 = some (intC 0) → get s lam = some (.loop i (ckT b3 b4) none) → get s a = some (yldC i.l) → get s b = some (visC a b) →
    Gives Tryz.prog GL 56 [x.av, .p (.int .i64 k), .ptr a 1 0 0, .ptr b 1 0 0] s nx (.p (.bool true)) [b3, b4, lam, a, b] [] nx := Ex.ind' (fun x ih hok k s nx b3 b4 lam a b hdp hsz hr hnd hlt g3 g4 g5 g6 g7 => by
  obtain ⟨hl, ho⟩ := okX_args hok
  obtain ⟨hr0, hra⟩ := nodsX_zero hr
  have hk16 := deep_k hdp
  have hal := @szX_args x
  refine Gives.mk_walkK (N := 32) (args := [x.av, .p (.int .i64 k), .ptr 3 1 0 0, .ptr 4 1 0 0]) [b3, b4, lam, a, b] []
    (ckS i n) [] 5 0 (.p (.bool true)) (fun _ => []) (up1 := []) Tryz.func56 rfl rfl rfl (by simp) rfl
    (ck_lends hnd hlt g3 g4 g5 g6 g7) (by simp) rfl rfl (by simp) rfl ?_
  have r8 : renB (List.range 5) (.loop i (ckT 0 1) none) = some (.loop i (ckT 0 1) none) := rfl
  have r9 : renB (List.range 6) (.loop i (ckT 0 1) none) = some (.loop i (ckT 0 1) none) := rfl
  simp [-renB, ckS, yldC, visC]
  refine xycall_gives (hY k x _ _ 0 1 2 hr0 (by omega) (by simp) (by simp) rfl rfl rfl) ?_
  simp [-renB]
  refine XLoop.go [1, 3, 15, 16] [0, 1, 2, 3, 4, 5] 0 [] (fun _ => []) (fun _ (j : Nat) => [(17, .p (.int .i64 j))]) (fun _ _ => []) (fun j => j ≤ x.args.length) (fun j => x.args.length - j) 0 (by omega) ?_ ?_
  · simp [-renB, r9, renB_cellsR, intC_ren]
    try decide
  intro j hj
  simp [-renB]
  refine xif_split (fun h => ?_) (fun h => ?_)
  · simp at h
    obtain ⟨y, e⟩ := get_lt h
    have hy := List.mem_of_getElem? e
    obtain ⟨hk15, hdy⟩ := deep_arg hdp hy
    have hki : (k : Int) ≤ 16 := by omega
    have hsy := szX_mem hy
    simp [-renB, h, e, hki, -getElem?_pos, List.getElem?_cons_zero, List.getElem?_cons_succ]
    refine ⟨wrap_i64 (by omega) (by omega), ?_⟩
    refine xcall_gives (ih y hy (ho y hy) (k + 1) _ _ 0 1 2 3 4 hdy (by omega) (hra y hy) (by simp) (by simp) rfl rfl rfl rfl rfl) ?_
    simp [-renB, r9, renB_cellsR, intC_ren]
    exact ⟨wrap_i64 (by omega) (by omega), j + 1, by omega, by omega, by omega⟩
  · simp at h
    simp [-renB, r8, renB_cellsR, intC_ren, ckS, yldC, visC]
    decide)
set_option maxRecDepth 20000 in
theorem g_preCk {i : LoopI} {n : Nat} (hY : RoundCk i n) (x : Ex) (hok : okX x) (hdp : deepX 16 x = true) (hsz : szX x ≤ 256) (hr : nodsX n x = 0) (s : Store) (nx b3 b4 lam : Nat) (hnd : [b3, b4, lam].Nodup) (hlt : ∀ x ∈ [b3, b4, lam], x < nx)
    (g3 : get s b3 = some (intC n)) (g4 : get s b4 = some (intC 0)) (g5 : get s lam = some (.loop i (ckT b3 b4) none)) :
    Gives Tryz.prog GL 55 [.fn (.yield i.l) [], xptr x] s nx (.tup []) [b3, b4, lam] [] nx := by
  have e5 : renB [b3, b4, lam] (.loop i (ckT 0 1) none) = some (.loop i (ckT b3 b4) none) := rfl
  have r6 : renB (List.range 3) (.loop i (ckT 0 1) none) = some (.loop i (ckT 0 1) none) := rfl
  have hL : LendsX [b3, b4, lam] nx [(0, some (intC n)), (1, some (intC 0)), (2, some (.loop i (ckT 0 1) none))] s [.fn (.yield i.l) [], xptr x] [.fn (.yield i.l) [], xptr x] := by
    refine ⟨?_, rfl, hnd, hlt, rfl⟩
    simp [-renB, g3, g4, g5, e5, intC_ren]
  refine Gives.mk_walkK (N := 8) (args := [.fn (.yield i.l) [], xptr x]) [b3, b4, lam] []
    [(0, some (intC n)), (1, some (intC 0)), (2, some (.loop i (ckT 0 1) none))] [] 3 0 (.tup []) (fun _ => []) (up1 := []) Tryz.func55 rfl rfl rfl (by simp) rfl
    hL (by simp) rfl rfl (by simp) rfl ?_
  simp [-renB]
  refine xcall_gives (g_visCk hY x hok 1 _ _ 0 1 2 3 4 hdp hsz hr (by simp) (by simp) rfl rfl rfl rfl rfl) ?_
  simp [-renB, r6, intC_ren]
  try decide
set_option maxRecDepth 20000 in
theorem c_boolexp_Check (x : Ex) (n : Nat) (hn : n ≤ 256) (hok : okX x) (hdp : deepX 16 x = true) (hsz : szX x ≤ 256) (hr : nodsX n x = 0) : Pure Tryz.prog GL 23 [x.av, .p (.int .i64 n)] (.p (.int .i64 0)) := by
  refine Pure.of_walk (N := 35) Tryz.func23 rfl rfl rfl (by simp) (by first | (simp; done) | simp [*]) ?_
  have hP := c_boolexp_preorder x
  have hM := c_boolexp_measure x hok hdp hsz
  have h1 : ¬ (n : Int) < 0 := by omega
  have h2 : ¬ (256 : Int) < n := by omega
  simp [h1, h2]
  refine xcall_pure hM ?_
  simp
  refine xcall_pure hP ?_
  simp
  refine XRange.intro [3, 4] Tryz.func55 rfl rfl fun l0 fn => ?_
  refine ⟨_, _, _, _, none, g_preCk (i := ⟨l0, 35, fn, #[27, 28], _, _⟩) (n := n) ?_ x hok hdp hsz hr _ _ 1 2 3 (by simp) (by simp) rfl rfl rfl, rfl, ?_⟩
  · intro k y s nx b3 b4 lam hny hly hnd hlt g3 g4 g5
    have hnd2 : [b3, b4].Nodup := (List.nodup_cons.1 hnd).2
    have hlt2 : ∀ b ∈ [b3, b4], b < nx := fun b hb => hlt b (List.mem_cons_of_mem _ hb)
    have hN := c_bnode y n hly (by omega) hny
    refine GivesY.of_walk (σ := [b3, b4]) (t0 := ckT 0 1) (args := [.p (.int .i64 k), y.av]) (free := []) (m := 2) (x := 0) (j := none)
      (s0 := [(0, some (intC n)), (1, some (intC 0))]) (s1 := [])
      (fun _ => []) rfl ⟨?_, rfl, hnd2, hlt2, rfl⟩ g5 (List.nodup_cons.1 hnd).1 (hlt lam (by simp)) rfl rfl (by simp) (by simp) rfl ?_
    · simp [-renB, g3, g4, intC_ren]
    · simp [roundSlots, ckT, intC]
      refine xcall_pure hN ?_
      simp
      refine XEndYL.of ⟨rfl, ?_⟩
      simp [-renB, renB_cellsR, intC]
      try decide
  · simp [afterJump, intC]
    simp [XEndT]
end Go.Am
/- Contracts: boolexp.Eval, Table; chapter 5. -/
namespace Go.Am
open Go Go.Proofs Go.Pn

structure RtX (n : Nat) (x : Ex) : Prop where
  ok : okX x
  deep : deepX 16 x = true
  size : szX x ≤ 256
  nods : nodsX n x = 0
theorem chk_right {n : Nat} {x : Ex} (hok : okX x) (h : chkE n x = 0) : RtX n x := by
  unfold chkE at h
  by_cases h1 : (n : Int) < 0 ∨ 256 < (n : Int)
  · rw [if_pos h1] at h; cases h
  rw [if_neg h1] at h
  cases h2 : (decide (cntX 256 x ≤ 256) && deepX 16 x) with
  | false => rw [h2, if_pos rfl] at h; cases h
  | true =>
    rw [h2, if_neg (by decide)] at h
    rw [Bool.and_eq_true, decide_eq_true_eq] at h2
    have := (cnt_facts x 256).2.2 h2.1
    exact ⟨hok, h2.2, by omega, h⟩
theorem vrX_lt {n : Nat} : ∀ x : Ex, nodsX n x = 0 → ∀ j ∈ vrX x, j < n := Ex.ind' (fun x ih h j hj => by
  obtain ⟨h0, ha⟩ := nodsX_zero h
  obtain ⟨_, h2, h3, _⟩ := nodE_zero h0
  have e : vrX x = (if x.op = 1 then [x.idx.toNat] else []) ++ vrL x.args := by cases x; rfl
  rw [e] at hj
  rcases List.mem_append.1 hj with hj | hj
  · by_cases h1 : x.op = 1
    · rw [if_pos h1] at hj
      have := List.mem_singleton.1 hj
      have := h3 h1
      omega
    · rw [if_neg h1] at hj; cases hj
  · rw [vrL_eq] at hj
    obtain ⟨y, hy, hj⟩ := List.mem_flatMap.1 hj
    exact ih y hy (ha y hy) j hj)
theorem vsF_pnt {k n j : Nat} (h : j < n) : vsF (pntT k n) j = k.testBit j := by
  unfold vsF pntT
  rw [List.getD_eq_getElem?_getD, List.getElem?_map, List.getElem?_range h]; rfl
theorem ev_pnt {n k : Nat} {x : Ex} (h : nodsX n x = 0) : evX (vsF (pntT k n)) x = evX (bitV k) x := evX_congr x fun j hj => vsF_pnt (vrX_lt x h j hj)
theorem c_boolexp_Eval (x : Ex) (vs : List Bool) (hv : vs.length ≤ 6) (hx : RtX vs.length x) : Pure Tryz.prog GL 10 [x.av, .p (.lst 1 (vs.map benc))] (.tup [.p (.bool (evX (vsF vs) x)), .p (.int .i64 0)]) := by
  refine Pure.of_walk (N := 17) Tryz.func10 rfl rfl rfl (by simp) (by first | (simp; done) | simp [*]) ?_
  have hC := c_boolexp_Check x vs.length (by omega) hx.ok hx.deep hx.size hx.nods
  have hE := c_eval vs hv x hx.ok hx.nods
  simp
  refine xcall_pure hC ?_
  simp
  refine xcall_pure hE ?_
  simp [XEndT]
theorem tabX_fold {n : Nat} {x : Ex} : foldB (fun k => evX (bitV k) x) (p2 n) = tabX n x := rfl
@[simp] theorem unpR_brow (l : List Bool) : unpR (l.map brow) = some (l.map benc) := by rw [unpR_map (f := brow) (g := benc) (fun _ => rfl)]
theorem take_set_snoc {α : Type} {l : List α} {i : Nat} {v : α} (h : i < l.length) : (l.set i v).take (i + 1) = l.take i ++ [v] := by
  rw [List.take_add_one, List.take_set, List.set_eq_of_length_le (by simp; omega), List.getElem?_set]
  simp [h]
theorem shrN_le (a b : Nat) : shrN a b ≤ a := by unfold shrN; exact Nat.div_le_self _ _
structure TbS where
  k : Nat
  q : List Bool
set_option maxRecDepth 20000 in
theorem c_boolexp_Table (x : Ex) (n : Nat) (hn : n ≤ 4) (hx : RtX n x) : Pure Tryz.prog GL 21 [x.av, .p (.int .i64 n)] (.tup [.agg [.p (.int .i64 n), .p (.int .u64 (tabX n x))], .p (.int .i64 0)]) := by
  refine Pure.of_walk (N := 59) Tryz.func21 rfl rfl rfl (by simp) (by first | (simp; done) | simp [*]) ?_
  have hC := c_boolexp_Check x n (by omega) hx.ok hx.deep hx.size hx.nods
  have h16 := p2_16 hn
  have h1 : ¬ (n : Int) < 0 := by omega
  have h2 : ¬ (6 : Int) < n := by omega
  simp [h1, h2]
  refine xcall_pure hC ?_
  simp
  refine ⟨by omega, by omega, ⟨by omega, wrap_n (by omega)⟩, ?_⟩
  refine XLoop.go [2, 4, 7, 8, 30] [0, 1] 0 [] (fun _ => []) (fun _ (g : TbS) => [(31, .p (.int .i64 g.k))]) (fun _ g => [(2, some (tabC n (foldB (fun k => evX (bitV k) x) g.k))), (3, some (.cells 1 (g.q.map brow)))]) (fun g => g.k ≤ p2 n ∧ g.q.length = n) (fun g => p2 n - g.k) ⟨0, List.replicate n false⟩ ⟨by simp, by simp⟩ ?_ ?_
  · simp [foldB_zero, tabC, List.map_replicate]
    try decide
  rintro ⟨k, q⟩ ⟨hk, hq⟩
  simp only at hk hq
  have hlt := @foldB_lt (fun k => evX (bitV k) x) k (by omega)
  have hsn := @foldB_snoc (fun k => evX (bitV k) x) k
  simp [tabC]
  refine xif_split (fun h => ?_) (fun h => ?_)
  · simp at h
    simp
    refine XLoop.go [2, 4, 7, 8, 9, 30, 31, 35] [0, 1, 2] 0 [] (fun _ => []) (fun _ (g : TbS) => [(36, .p (.int .i64 g.k))]) (fun _ g => [(3, some (.cells 1 (g.q.map brow)))]) (fun g => g.k ≤ n ∧ g.q.length = n ∧ g.q.take g.k = pntT k g.k) (fun g => n - g.k) ⟨0, q⟩ ⟨by simp, hq, rfl⟩ ?_ ?_
    · simp
      decide
    rintro ⟨i, r⟩ ⟨hi, hr, ht⟩
    simp only at hi hr ht
    simp
    refine xif_split (fun h2 => ?_) (fun h2 => ?_)
    · simp at h2
      simp [hr, h2]
      have h3 := shrN_le k i
      refine ⟨by omega, bit_i64 (b := 1) (by omega) (by omega), wrap_i64 (by omega) (by omega), ⟨i + 1, r.set i (k.testBit i)⟩, ⟨by show i + 1 ≤ n; omega, by simp [hr], ?_⟩, by show n - (i + 1) < n - i; omega, by show (i : Int) + 1 = ((i + 1 : Nat) : Int); omega, ?_, by decide⟩
      · show (r.set i (k.testBit i)).take (i + 1) = pntT k (i + 1)
        rw [take_set_snoc (by omega), ht]; unfold pntT; rw [List.range_succ, List.map_append]; rfl
      · show wknR _ (List.map brow (r.set i (k.testBit i)))
        rw [List.map_set]; exact wknR_refl _
    · simp at h2
      have hin : i = n := by omega
      subst hin
      have hrp : r = pntT k i := by rw [← ht, List.take_of_length_le (by omega)]
      have hE := c_eval (pntT k i) (by rw [pntT_len]; omega) x hx.ok (by rw [pntT_len]; exact hx.nods)
      rw [ev_pnt hx.nods] at hE
      rw [hrp]
      simp
      refine xcall_lent ?_
      have htk : (List.map brow (pntT k i)).take i = List.map brow (pntT k i) := List.take_of_length_le (by simp [pntT_len])
      simp [pntT_len, htk]
      refine ⟨_, hE, rfl, ?_⟩
      cases hv : evX (bitV k) x with
      | false =>
        have e : foldB (fun k => evX (bitV k) x) (k + 1) = foldB (fun k => evX (bitV k) x) k := by rw [hsn]; unfold stepB; rw [if_neg (show ¬ evX (bitV k) x = true by rw [hv]; exact Bool.false_ne_true)]
        simp
        refine ⟨wrap_i64 (by omega) (by omega), ⟨k + 1, pntT k i⟩, ⟨by show k + 1 ≤ _; omega, pntT_len⟩, by show p2 i - (k + 1) < p2 i - k; omega, by show (k : Int) + 1 = ((k + 1 : Nat) : Int); omega, ?_⟩
        refine ⟨⟨?_, wknR_refl _⟩, by decide⟩
        simp only [tabC]
        rw [e]
        simp
        trace_state
      | true =>
        have e : foldB (fun k => evX (bitV k) x) (k + 1) = foldB (fun k => evX (bitV k) x) k ||| p2 k := by rw [hsn]; unfold stepB; rw [if_pos hv]
        simp
        refine XDraw.intro (by kernel_rfl) ?_
        simp
        refine ⟨⟨by omega, wrapu_n (p2_u64 (by omega))⟩, bit_u64 hlt (p2_u64 (by omega)), .of (by kernel_rfl), wrap_i64 (by omega) (by omega), ⟨k + 1, pntT k i⟩, ⟨by show k + 1 ≤ _; omega, pntT_len⟩, by show p2 i - (k + 1) < p2 i - k; omega, by show (k : Int) + 1 = ((k + 1 : Nat) : Int); omega, ?_⟩
        refine ⟨⟨?_, wknR_refl _⟩, by decide⟩
        simp only [tabC]
        rw [e]
        simp
        trace_state
  · simp at h
    have hkn : k = p2 n := by omega
    subst hkn
    rw [tabX_fold]
    simp [XEndT]
end Go.Am
/- Contracts: boolexp.Variables; chapter 5. -/
namespace Go.Am
open Go Go.Proofs Go.Pn

theorem post_move {G : Globs} {F : Nat → Prop} {φ : Places} {s1 : Store} {w : World} {v : PV} {up : Store} {nx b0 b1 n : Nat} {rows : List (List PV)} {v' : Value} {w' : World} (h : Post G F φ s1 w (.p v) up nx nx v' w') (h01 : b0 ≠ b1) (l0 : b0 < nx) (l1 : b1 < nx)
    (g0 : get (up ++ s1) b0 = some (.cells 1 [[.acc b1 1 n]])) (g1 : get (up ++ s1) b1 = accB 1 (rows.map (·.map .p))) (hfr : φ nx = none) :
    Post G F φ s1 w (.p v) ((b0, some (.cells 1 [[.acc nx 1 n]])) :: (nx, accB 1 (rows.map (·.map .p))) :: (b1, none) :: up) nx (nx + 1) v' w' := by
  obtain ⟨φ1, hle, hout, hsr, hv, hst⟩ := h
  have hn1 : φ1 nx = none := by rw [hout nx (.inr (Nat.le_refl _)), hfr]
  have hsn : get (up ++ s1) nx = none := by
    cases hg : get (up ++ s1) nx with
    | none => rfl
    | some x =>
      obtain ⟨p, hp, _⟩ := (hsr.blk nx x hg).place
      rw [hn1] at hp; cases hp
  let φ2 : Places := fun b => if b = nx then φ1 b1 else φ1 b
  have e2 : ∀ b, b ≠ nx → φ2 b = φ1 b := fun b hb => if_neg hb
  have en : φ2 nx = φ1 b1 := if_pos rfl
  have hle2 : φ1.le φ2 := fun b p hp => by
    have hb : b ≠ nx := fun e => by subst e; rw [hn1] at hp; cases hp
    rw [e2 b hb]; exact hp
  have key : ∀ S2 : Store, get S2 b0 = some (.cells 1 [[.acc nx 1 n]]) → get S2 nx = accB 1 (rows.map (·.map .p)) → get S2 b1 = none → (∀ b, b ≠ b0 → b ≠ nx → b ≠ b1 → get S2 b = get (up ++ s1) b) →
      SR G F φ2 S2 w' ∧ (∀ F' : Nat → Prop, ownF F' φ2 S2 = ownF F' φ1 (up ++ s1)) := by
    intro S2 q0 qn q1 qo
    have back : ∀ b x, get S2 b = some x → b ≠ b1 ∧ ∃ y, get (up ++ s1) (if b = nx then b1 else b) = some y ∧ φ2 b = φ1 (if b = nx then b1 else b) := by
      intro b x hx
      by_cases h1 : b = b1
      · subst h1; rw [q1] at hx; cases hx
      refine ⟨h1, ?_⟩
      by_cases h2 : b = nx
      · subst h2
        rw [if_pos rfl, g1, ← qn, hx]
        exact ⟨_, rfl, en⟩
      · rw [if_neg h2]
        by_cases h3 : b = b0
        · subst h3
          exact ⟨_, g0, e2 b h2⟩
        · exact ⟨x, by rw [← qo b h3 h2 h1, hx], e2 b h2⟩
    have own : ∀ β, ownS φ2 S2 β ↔ ownS φ1 (up ++ s1) β := by
      intro β
      constructor
      · rintro ⟨b, x, p, hx, hp, he⟩
        obtain ⟨_, y, hy, hφ⟩ := back b x hx
        exact ⟨_, y, p, hy, by rw [← hφ]; exact hp, he⟩
      · rintro ⟨b, x, p, hx, hp, he⟩
        have h2 : b ≠ nx := fun e => by subst e; rw [hn1] at hp; cases hp
        by_cases h1 : b = b1
        · subst h1
          exact ⟨nx, x, p, by rw [qn, ← g1, hx], by rw [en]; exact hp, he⟩
        by_cases h3 : b = b0
        · subst h3
          exact ⟨b, _, p, q0, by rw [e2 b h2]; exact hp, he⟩
        · exact ⟨b, x, p, by rw [qo b h3 h2 h1, hx], by rw [e2 b h2]; exact hp, he⟩
    have ow : ∀ F' : Nat → Prop, ownF F' φ2 S2 = ownF F' φ1 (up ++ s1) := fun F' => funext fun β => by
      show (F' β ∨ ownS φ2 S2 β) = (F' β ∨ ownS φ1 (up ++ s1) β)
      rw [propext (own β)]
    refine ⟨⟨?_, ?_, ?_, hsr.fsize, ?_⟩, ow⟩
    · intro b x hx
      change BR φ2 (ownF F φ2 S2) w' b x
      rw [ow]
      obtain ⟨h1, y, hy, hφ⟩ := back b x hx
      by_cases h2 : b = nx
      · subst h2
        rw [qn, ← g1] at hx
        have hb := hsr.blk b1 x hx
        rw [g1] at hx
        unfold accB at hx
        split at hx
        · cases hx
        · cases hx
          obtain ⟨β, δ, arr, T, i1, i2, i3⟩ := hb
          refine ⟨β, δ, arr, T, by rw [en]; exact i1, i2, CellsAt.mono hle2 (Step.refl _ _) i3⟩
      · by_cases h3 : b = b0
        · subst h3
          rw [q0] at hx; cases hx
          obtain ⟨β, δ, arr, T, i1, i2, i3⟩ := hsr.blk b _ g0
          refine ⟨β, δ, arr, T, by rw [e2 b h2]; exact i1, i2, ?_⟩
          intro i j row z hr hz
          match i, j, hr with
          | 0, 0, hr =>
            cases hr; cases hz
            obtain ⟨hj, u, hu, hvr⟩ := i3 0 0 _ _ rfl rfl
            refine ⟨hj, u, hu, ?_⟩
            cases hvr with
            | acc0 b k a => exact .acc0 _ _ _
            | acc b k n β δ cap hφ h0 hn room => exact .acc _ _ _ β δ cap (by rw [en]; exact hφ) h0 hn room
          | 0, j + 1, hr => cases hr; cases hz
          | i + 1, j, hr => cases hr
        · rw [qo b h3 h2 h1] at hx
          exact BR.mono hle2 (Step.refl _ _) (hsr.blk b x hx) fun _ _ => rfl
    · intro b b' x x' p p' hx hx' hp hp' he
      obtain ⟨h1, y, hy, hφ⟩ := back b x hx
      obtain ⟨h1', y', hy', hφ'⟩ := back b' x' hx'
      rw [hφ] at hp; rw [hφ'] at hp'
      have := hsr.inj _ _ y y' p p' hy hy' hp hp' he
      by_cases h2 : b = nx <;> by_cases h2' : b' = nx
      · rw [h2, h2']
      · rw [if_pos h2, if_neg h2'] at this; exact absurd this.symm h1'
      · rw [if_neg h2, if_pos h2'] at this; exact absurd this h1
      · rw [if_neg h2, if_neg h2'] at this; exact this
    · intro b x p hx hp
      obtain ⟨_, y, hy, hφ⟩ := back b x hx
      rw [hφ] at hp
      exact hsr.disj _ y p hy hp
    · intro g k rows hg
      have := hsr.glob g k rows hg
      change g < w'.heap.size ∧ ¬ (ownF F φ2 S2) g ∧ GlobAt (ownF F φ2 S2) w' k rows g
      rw [ow]
      exact this
  have hk := key ((b0, some (.cells 1 [[.acc nx 1 n]])) :: (nx, accB 1 (rows.map (·.map .p))) :: (b1, none) :: up ++ s1) (get_cons_same) ?_ ?_ ?_
  · refine ⟨φ2, fun b p hp => hle2 b p (hle b p hp), fun b hb => ?_, hk.1, ?_, fun F' => ?_⟩
    · rw [e2 b (by omega)]; exact hout b (by omega)
    · rw [hk.2]; exact hv.mono hle2 (Step.refl _ _)
    · rw [hk.2]; exact hst F'
  · rw [List.cons_append, get_cons_ne (by omega), List.cons_append, get_cons_same]
  · rw [List.cons_append, get_cons_ne h01, List.cons_append, get_cons_ne (by omega), List.cons_append, get_cons_same]
  · intro b h1 h2 h3
    rw [List.cons_append, get_cons_ne (Ne.symm h1), List.cons_append, get_cons_ne (Ne.symm h2), List.cons_append, get_cons_ne (Ne.symm h3)]
theorem GivesY.move {l : Nat} {args : List AV} {s : Store} {nx b0 b1 n : Nat} {v : PV} {rd : List Nat} {up : Store} {rows : List (List PV)} (h : GivesY Tryz.prog GL l args s nx (.p v) rd up nx) (h01 : b0 ≠ b1) (l0 : b0 < nx) (l1 : b1 < nx) (r0 : b0 ∈ rd) (r1 : b1 ∈ rd)
    (g0 : ∀ s1 : Store, Agrees s s1 rd → get (up ++ s1) b0 = some (.cells 1 [[.acc b1 1 n]])) (g1 : ∀ s1 : Store, Agrees s s1 rd → get (up ++ s1) b1 = accB 1 (rows.map (·.map .p))) :
    GivesY Tryz.prog GL l args s nx (.p v) rd ((b0, some (.cells 1 [[.acc nx 1 n]])) :: (nx, accB 1 (rows.map (·.map .p))) :: (b1, none) :: up) (nx + 1) :=
  ⟨by have := h.le; omega, fun F φ s1 w vs hag hs hfr hl hvs => (h.calls F φ s1 w vs hag hs (fun b hb hb2 => absurd hb2 (by omega)) hl hvs).mono fun _ _ hp => post_move hp h01 l0 l1 (g0 s1 hag) (g1 s1 hag) (hfr nx (Nat.le_refl _) (by omega))⟩
theorem GivesY.move1 {l : Nat} {args : List AV} {s : Store} {nx lam b0 b1 n : Nat} {v : PV} {rd : List Nat} {X : ABlk} {rows : List (List PV)} (h : GivesY Tryz.prog GL l args s nx (.p v) rd [(lam, some X)] nx) (h01 : b0 ≠ b1) (hl0 : lam ≠ b0) (hl1 : lam ≠ b1) (ll : lam < nx) (l0 : b0 < nx) (l1 : b1 < nx) (r0 : b0 ∈ rd) (r1 : b1 ∈ rd)
    (g0 : get s b0 = some (.cells 1 [[.acc b1 1 n]])) (g1 : get s b1 = accB 1 (rows.map (·.map .p))) :
    GivesY Tryz.prog GL l args s nx (.p v) rd [(lam, some X), (b0, some (.cells 1 [[.acc nx 1 n]])), (nx, accB 1 (rows.map (·.map .p))), (b1, none)] (nx + 1) := by
  have hm := GivesY.move h h01 l0 l1 r0 r1 (n := n) (rows := rows) (fun s1 hag => by rw [List.cons_append, get_cons_ne hl0, List.nil_append, hag b0 r0, g0]) (fun s1 hag => by rw [List.cons_append, get_cons_ne hl1, List.nil_append, hag b1 r1, g1])
  refine ⟨hm.le, fun F φ s1 w vs hag hs hf hl hv => (hm.calls F φ s1 w vs hag hs hf hl hv).mono fun _ _ hp => post_congr hp (fun b => ?_) (Nat.le_refl _) fun _ _ h => h⟩
  have q1 : nx ≠ lam := by omega
  have q2 : nx ≠ b0 := by omega
  have q3 : nx ≠ b1 := by omega
  by_cases e : lam = b
  · subst e
    simp [Ne.symm hl0, Ne.symm hl1, q1]
  · by_cases e0 : b0 = b
    · subst e0; simp [hl0]
    · by_cases e1 : nx = b
      · subst e1; simp [e0, e]
      · by_cases e2 : b1 = b
        · subst e2; simp [e0, e1, e]
        · simp [e0, e1, e2, e]
theorem Gives.nil0 {P : Program} {G : Globs} {f : Nat} {args : List AV} {s : Store} {nx nx' b0 : Nat} {v : AV} {rd : List Nat} {up : Store} (h0 : get s b0 = some (.cells 1 [[.nils]])) (hn : get s nx = none) (l0 : b0 < nx)
    (hup : ∀ (s1 : Store) (y : Option ABlk), ∀ b, get (up ++ (b0, y) :: s1) b = get (up ++ s1) b)
    (h : Gives P G f args ((b0, some (.cells 1 [[.acc nx 1 0]])) :: s) (nx + 1) v (b0 :: nx :: rd) up nx') : Gives P G f args s nx v (b0 :: rd) up nx' := by
  refine ⟨by have := h.le; omega, fun F φ s1 w vs hag hs hf hl hv => ?_⟩
  have hg0 : get s1 b0 = some (.cells 1 [[.nils]]) := by rw [hag b0 List.mem_cons_self, h0]
  have hgn : get s1 nx = none := by
    cases hg : get s1 nx with
    | none => rfl
    | some x =>
      obtain ⟨p, hp, _⟩ := (hs.blk nx x hg).place
      have hle := h.le
      rw [hf nx (Nat.le_refl _) (by omega)] at hp; cases hp
  have back : ∀ b x, get ((b0, some (.cells 1 [[.acc nx 1 0]])) :: s1) b = some x → ∃ y, get s1 b = some y := by
    intro b x hx
    by_cases e : b0 = b
    · subst e; exact ⟨_, hg0⟩
    · rw [get_cons_ne e] at hx; exact ⟨x, hx⟩
  have own : ∀ β, ownS φ ((b0, some (.cells 1 [[.acc nx 1 0]])) :: s1) β ↔ ownS φ s1 β := by
    intro β
    constructor
    · rintro ⟨b, x, p, hx, hp, he⟩
      obtain ⟨y, hy⟩ := back b x hx
      exact ⟨b, y, p, hy, hp, he⟩
    · rintro ⟨b, x, p, hx, hp, he⟩
      by_cases e : b0 = b
      · subst e; exact ⟨b0, _, p, get_cons_same, hp, he⟩
      · exact ⟨b, x, p, by rw [get_cons_ne e]; exact hx, hp, he⟩
  have ow : ∀ F' : Nat → Prop, ownF F' φ ((b0, some (.cells 1 [[.acc nx 1 0]])) :: s1) = ownF F' φ s1 := fun F' => funext fun β => by
    show (F' β ∨ ownS φ _ β) = (F' β ∨ ownS φ s1 β)
    rw [propext (own β)]
  have hs2 : SR G F φ ((b0, some (.cells 1 [[.acc nx 1 0]])) :: s1) w := by
    refine ⟨?_, ?_, ?_, hs.fsize, ?_⟩
    · intro b x hx
      change BR φ (ownF F φ _) w b x
      rw [ow]
      by_cases e : b0 = b
      · subst e
        rw [get_cons_same] at hx; cases hx
        obtain ⟨β, δ, arr, T, i1, i2, i3⟩ := hs.blk b0 _ hg0
        refine ⟨β, δ, arr, T, i1, i2, ?_⟩
        intro i j row z hr hz
        match i, j, hr with
        | 0, 0, hr =>
          cases hr; cases hz
          obtain ⟨hj, u, hu, hvr⟩ := i3 0 0 _ _ rfl rfl
          refine ⟨hj, u, hu, ?_⟩
          cases hvr with
          | nils a => exact .acc0 _ _ _
        | 0, j + 1, hr => cases hr; cases hz
        | i + 1, j, hr => cases hr
      · rw [get_cons_ne e] at hx
        exact hs.blk b x hx
    · intro b b' x x' p p' hx hx' hp hp' he
      obtain ⟨y, hy⟩ := back b x hx
      obtain ⟨y', hy'⟩ := back b' x' hx'
      exact hs.inj b b' y y' p p' hy hy' hp hp' he
    · intro b x p hx hp
      obtain ⟨y, hy⟩ := back b x hx
      exact hs.disj b y p hy hp
    · intro g k rows hg
      have := hs.glob g k rows hg
      change g < w.heap.size ∧ ¬ (ownF F φ _) g ∧ GlobAt (ownF F φ _) w k rows g
      rw [ow]
      exact this
  have hv2 : ∀ (i : Nat) x u, args[i]? = some x → vs[i]? = some u → VR φ (ownF F φ ((b0, some (.cells 1 [[.acc nx 1 0]])) :: s1)) w x u := by rw [ow]; exact hv
  refine (h.calls F φ ((b0, some (.cells 1 [[.acc nx 1 0]])) :: s1) w vs (fun b hb => ?_) hs2 (fun b hb => hf b (by omega)) hl hv2).mono fun v' w' hp => ?_
  · by_cases e : b0 = b
    · subst e; rw [get_cons_same, get_cons_same]
    · rw [get_cons_ne e, get_cons_ne e]
      rcases List.mem_cons.1 hb with hb | hb
      · exact absurd hb.symm e
      · rcases List.mem_cons.1 hb with hb | hb
        · subst hb; rw [hgn, hn]
        · exact hag b (List.mem_cons_of_mem _ hb)
  · obtain ⟨φ', i1, i2, i3, i4, i5⟩ := hp
    have ow2 : ∀ F' : Nat → Prop, ownF F' φ' (up ++ (b0, some (.cells 1 [[.acc nx 1 0]])) :: s1) = ownF F' φ' (up ++ s1) := fun F' => ownF_congr fun b => hup s1 _ b
    refine ⟨φ', i1, fun b hb => i2 b (by omega), i3.congr fun b => hup s1 _ b, ?_, fun F' => ?_⟩
    · rw [ow2] at i4; exact i4
    · have := i5 F'
      rw [ow2, ow] at this; exact this
def ownX (x : Ex) : List Nat := if x.op = 1 then [x.idx.toNat] else []
theorem vrX_own {x : Ex} : vrX x = ownX x ++ vrL x.args := by cases x; rfl
theorem vrL_snoc {l : List Ex} {y : Ex} : vrL (l ++ [y]) = vrL l ++ vrX y := by rw [vrL_eq, vrL_eq, List.flatMap_append]; simp
def vbT (b0 : Nat) : Slots := [(7, .ptr b0 1 0 0)]
def RoundVb (i : LoopI) (n : Nat) : Prop :=
  ∀ (l : List Nat) (k : Nat) (y : Ex) (s : Store) (nx b0 b1 lam : Nat), nodE n y = 0 → l.length ≤ 1000 → [lam, b0, b1].Nodup → (∀ b ∈ [lam, b0, b1], b < nx) → get s b0 = some (outI b1 l) → get s b1 = accB 1 (l.map nrow) → get s lam = some (.loop i (vbT b0) none) →
    GivesY Tryz.prog GL i.l [.p (.int .i64 k), y.av] s nx (.p (.bool true)) [lam, b0, b1] [(lam, some (.loop i (vbT b0) none)), (b0, some (outI nx (l ++ ownX y))), (nx, accB 1 ((l ++ ownX y).map nrow)), (b1, none)] (nx + 1)
def vbS (i : LoopI) (l : List Nat) : Store := [(0, some (outI 1 l)), (1, accB 1 (l.map nrow)), (2, some (.loop i (vbT 0) none)), (3, some (yldC i.l)), (4, some (visC 3 4))]
theorem vb_lends {i : LoopI} {l : List Nat} {s : Store} {nx b0 b1 lam a b : Nat} {x : Ex} {y : PV} (hnd : [b0, b1, lam, a, b].Nodup) (hlt : ∀ x ∈ [b0, b1, lam, a, b], x < nx)
    (g0 : get s b0 = some (outI b1 l)) (g1 : get s b1 = accB 1 (l.map nrow)) (g5 : get s lam = some (.loop i (vbT b0) none)) (g6 : get s a = some (yldC i.l)) (g7 : get s b = some (visC a b)) :
    LendsXA [b0, b1, lam, a, b] nx (vbS i l) s [x.av, .p y, .ptr 3 1 0 0, .ptr 4 1 0 0] [x.av, .p y, .ptr a 1 0 0, .ptr b 1 0 0] := by
  have e5 : renB [b0, b1, lam, a, b] (.loop i (vbT 0) none) = some (.loop i (vbT b0) none) := rfl
  have e6 : renB [b0, b1, lam, a, b] (yldC i.l) = some (yldC i.l) := rfl
  have e7 : renB [b0, b1, lam, a, b] (visC 3 4) = some (visC a b) := rfl
  have e1 : renB [b0, b1, lam, a, b] (outI 1 l) = some (outI b1 l) := rfl
  refine ⟨?_, ?_, hnd, hlt, rfl⟩
  · by_cases h : l = []
    · subst h
      simp [-renB, vbS, g0, g5, g6, g7, e1, e5, e6, e7]
    · have e : accB 1 (l.map nrow) = some (.cells 1 (l.map nrow)) := by simp [accB, h]
      have e3 : renB [b0, b1, lam, a, b] (.cells 1 (l.map nrow)) = some (.cells 1 (l.map nrow)) := by show (renR _ _).map _ = _; rw [renR_map fun x => rfl]; rfl
      rw [e] at g1
      simp [-renB, vbS, e, g0, g1, g5, g6, g7, e1, e3, e5, e6, e7]
  · intro c b' hb hg
    match c, hb with
    | 0, _ => exact ⟨_, rfl⟩
    | 1, hb =>
      simp at hb
      subst hb
      rw [g1] at hg
      exact Option.ne_none_iff_exists'.1 hg
    | 2, _ => exact ⟨_, rfl⟩
    | 3, _ => exact ⟨_, rfl⟩
    | 4, _ => exact ⟨_, rfl⟩
theorem renS_vb {b0 b1 lam a b nx : Nat} {L : List Nat} : renS (namesOf [b0, b1, lam, a, b] nx 1) [(0, some (outI 5 L)), (5, accB 1 (L.map nrow))] = some [(b0, some (outI nx L)), (nx, accB 1 (L.map nrow))] := by
  by_cases h : L = []
  · subst h; rfl
  · have e : accB 1 (L.map nrow) = some (.cells 1 (L.map nrow)) := by simp [accB, h]
    have e2 : ∀ ρ, renR ρ (L.map nrow) = some (L.map nrow) := fun ρ => renR_map fun x => rfl
    rw [e]
    have e3 : renB [b0, b1, lam, a, b, nx] (.cells 1 (L.map nrow)) = some (.cells 1 (L.map nrow)) := by show (renR _ _).map _ = _; rw [e2]; rfl
    have e4 : renB [b0, b1, lam, a, b, nx] (outI 5 L) = some (outI nx L) := rfl
    simp [-renB, renS, e3, e4, namesOf]
theorem vrX_len : ∀ x : Ex, (vrX x).length ≤ szX x := Ex.ind' (fun x ih => by
  have key : ∀ l : List Ex, (∀ y ∈ l, y ∈ x.args) → (vrL l).length ≤ szL l := by
    intro l
    induction l with
    | nil => intro _; exact Nat.le_refl _
    | cons y ys ihl =>
      intro h
      rw [vrL, szL, List.length_append]
      have := ih y (h y List.mem_cons_self)
      have := ihl fun z hz => h z (List.mem_cons_of_mem _ hz)
      omega
  have h1 := key x.args fun y hy => hy
  have h2 : (ownX x).length ≤ 1 := by unfold ownX; split <;> simp
  rw [vrX_own, szX_eq, List.length_append]
  omega)
def accV (l : List Nat) (x : Ex) (j : Nat) : List Nat := l ++ ownX x ++ vrL (x.args.take j)
theorem accV_zero {l : List Nat} {x : Ex} : accV l x 0 = l ++ ownX x := by unfold accV; rw [List.take_zero, vrL, List.append_nil]
theorem accV_all {l : List Nat} {x : Ex} : accV l x x.args.length = l ++ vrX x := by unfold accV; rw [List.take_length, vrX_own, List.append_assoc]
theorem accV_snoc {l : List Nat} {x y : Ex} {j : Nat} (e : x.args[j]? = some y) : accV l x (j + 1) = accV l x j ++ vrX y := by
  unfold accV
  rw [take_snoc e, vrL_snoc, List.append_assoc, List.append_assoc, List.append_assoc]
theorem vrL_len {l : List Ex} : (vrL l).length ≤ szL l := by
  induction l with
  | nil => exact Nat.le_refl _
  | cons y ys ih =>
    rw [vrL, szL, List.length_append]
    have := vrX_len y
    omega
theorem accV_len {l : List Nat} {x y : Ex} {j : Nat} (e : x.args[j]? = some y) : (accV l x j).length + szX y ≤ l.length + szX x := by
  unfold accV
  have h1 := @vrL_len (x.args.take j)
  have h2 := @szL_take x.args (j + 1)
  rw [take_snoc e, szL_append, szL_one] at h2
  have h3 : (ownX x).length ≤ 1 := by unfold ownX; split <;> simp
  have h4 := @szX_eq x
  rw [List.length_append, List.length_append]
  omega
set_option maxRecDepth 20000 in
theorem g_visVb {i : LoopI} {n : Nat} (hY : RoundVb i n) : ∀ x : Ex, okX x → ∀ (l : List Nat) (k : Nat) (s : Store) (nx b0 b1 lam a b : Nat), deepX (17 - k) x = true → l.length + szX x ≤ 256 → nodsX n x = 0 → [b0, b1, lam, a, b].Nodup → (∀ x ∈ [b0, b1, lam, a, b], x < nx) →
    get s b0 = some (outI b1 l) → get s b1 = accB 1 (l.map nrow) → get s lam = some (.loop i (vbT b0) none) → get s a = some (yldC i.l) → get s b = some (visC a b) →
    Gives Tryz.prog GL 56 [x.av, .p (.int .i64 k), .ptr a 1 0 0, .ptr b 1 0 0] s nx (.p (.bool true)) [b0, b1, lam, a, b] [(b0, some (outI nx (l ++ vrX x))), (nx, accB 1 ((l ++ vrX x).map nrow)), (b1, none)] (nx + 1) := Ex.ind' (fun x ih hok l k s nx b0 b1 lam a b hdp hsz hr hnd hlt g3 g4 g5 g6 g7 => by
  obtain ⟨hl, ho⟩ := okX_args hok
  obtain ⟨hr0, hra⟩ := nodsX_zero hr
  have hk16 := deep_k hdp
  have hal := @szX_args x
  have r8 : renB [0, 1, 2, 3, 4, 5, 6] (.loop i (vbT 0) none) = some (.loop i (vbT 0) none) := rfl
  have r9 : renB [0, 1, 2, 3, 4, 5, 8] (.loop i (vbT 0) none) = some (.loop i (vbT 0) none) := rfl
  have r7 : renB (List.range 5 ++ [6]) (.loop i (vbT 0) none) = some (.loop i (vbT 0) none) := rfl
  have o7 : ∀ l : List Nat, renB (List.range 5 ++ [6]) (outI 5 l) = some (outI 6 l) := fun _ => rfl
  have o8 : ∀ l : List Nat, renB [0, 1, 2, 3, 4, 5, 6] (outI 6 l) = some (outI 6 l) := fun _ => rfl
  have o9 : ∀ l : List Nat, renB [0, 1, 2, 3, 4, 5, 8] (outI 6 l) = some (outI 8 l) := fun _ => rfl
  refine Gives.mk_walkA (N := 32) (args := [x.av, .p (.int .i64 k), .ptr 3 1 0 0, .ptr 4 1 0 0]) [b0, b1, lam, a, b] [1]
    (vbS i l) [(0, some (outI 5 (l ++ vrX x))), (5, accB 1 ((l ++ vrX x).map nrow))] 5 1 (.p (.bool true)) (fun st => [cellNm 0 st]) (up1 := [(b0, some (outI nx (l ++ vrX x))), (nx, accB 1 ((l ++ vrX x).map nrow))]) Tryz.func56 rfl rfl rfl (by simp) rfl
    (vb_lends hnd hlt g3 g4 g5 g6 g7) (by simp) rfl renS_vb (by simp) rfl ?_
  simp [-renB, vbS, yldC, visC]
  refine xycall_gives (hY l k x _ _ 0 1 2 hr0 (by omega) (by simp) (by simp) rfl ?_ rfl) ?_
  · simp
  simp [-renB]
  refine XLoop.goe [1, 3, 15, 16] [2, 3, 4, 5] 0 (fun _ (j : Nat) => [(17, .p (.int .i64 j))]) (fun _ j => [(0, some (outI 6 (accV l x j))), (6, accB 1 ((accV l x j).map nrow))]) (fun j => j ≤ x.args.length) (fun j => x.args.length - j) 0 (by omega) ⟨[0, 1, 2, 3, 4, 5, 6], ?_⟩ ?_
  · rw [accV_zero, ← List.map_append]
    simp [-renB, renB_cellsR, -List.map_append, r8, o8]
    try decide
  intro j hj
  simp [-renB]
  refine xif_split (fun h => ?_) (fun h => ?_)
  · simp at h
    obtain ⟨y, e⟩ := get_lt h
    have hy := List.mem_of_getElem? e
    obtain ⟨hk15, hdy⟩ := deep_arg hdp hy
    have hki : (k : Int) ≤ 16 := by omega
    have hsy := szX_mem hy
    have hsn := accV_snoc (l := l) e
    have hvl := accV_len (l := l) e
    simp [-renB, h, e, hki, -getElem?_pos, List.getElem?_cons_zero, List.getElem?_cons_succ]
    refine ⟨wrap_i64 (by omega) (by omega), ?_⟩
    refine xcall_gives (ih y hy (ho y hy) (accV l x j) (k + 1) _ _ 0 6 2 3 4 hdy ?_ (hra y hy) (by simp) (by simp) rfl rfl rfl rfl rfl) ?_
    · omega
    rw [← hsn]
    simp [-renB]
    refine ⟨wrap_i64 (by omega) (by omega), j + 1, by omega, by omega, [0, 1, 2, 3, 4, 5, 8], ?_⟩
    simp [-renB, r9, o9, renB_cellsR]
    try decide
  · simp at h
    have hjx : j = x.args.length := by omega
    subst hjx
    rw [accV_all]
    simp [-renB, r7, o7, renB_cellsR, -List.map_append, vbS, yldC, visC]
    exact ⟨acc_sameI, by decide⟩)
set_option maxRecDepth 20000 in
theorem g_preVb {i : LoopI} {n : Nat} (hY : RoundVb i n) (x : Ex) (hok : okX x) (hdp : deepX 16 x = true) (hsz : szX x ≤ 256) (hr : nodsX n x = 0) (s : Store) (nx b0 lam : Nat) (hnd : [b0, lam].Nodup) (hlt : ∀ x ∈ [b0, lam], x < nx)
    (g0 : get s b0 = some (.cells 1 [[.nils]])) (g5 : get s lam = some (.loop i (vbT b0) none)) :
    Gives Tryz.prog GL 55 [.fn (.yield i.l) [], xptr x] s nx (.tup []) [b0, lam] [(b0, some (outI nx (vrX x))), (nx, accB 1 ((vrX x).map nrow))] (nx + 1) := by
  have e5 : renB [b0, lam] (.loop i (vbT 0) none) = some (.loop i (vbT b0) none) := rfl
  have hL : LendsX [b0, lam] nx [(0, some (.cells 1 [[.nils]])), (1, some (.loop i (vbT 0) none))] s [.fn (.yield i.l) [], xptr x] [.fn (.yield i.l) [], xptr x] := by
    refine ⟨?_, rfl, hnd, hlt, rfl⟩
    simp [-renB, g0, g5, e5]
    try exact rfl
  refine Gives.mk_walkK (N := 8) (args := [.fn (.yield i.l) [], xptr x]) [b0, lam] []
    [(0, some (.cells 1 [[.nils]])), (1, some (.loop i (vbT 0) none))] [(0, some (outI 2 (vrX x))), (2, accB 1 ((vrX x).map nrow))] 2 1 (.tup []) (fun st => [cellNm 0 st]) (up1 := [(b0, some (outI nx (vrX x))), (nx, accB 1 ((vrX x).map nrow))]) Tryz.func55 rfl rfl rfl (by simp) rfl
    hL (by simp) rfl renS_outI (by simp) rfl ?_
  have r7 : renB (List.range 2 ++ [5]) (.loop i (vbT 0) none) = some (.loop i (vbT 0) none) := rfl
  have o7 : ∀ l : List Nat, renB (List.range 2 ++ [5]) (outI 2 l) = some (outI 5 l) := fun _ => rfl
  simp [-renB]
  refine xcall_gives (Gives.nil0 (b0 := 0) (rd := [1, 2, 3]) (by simp) (by simp) (by omega) ?_ ((g_visVb hY x hok [] 1 _ _ 0 4 1 2 3 hdp (by simpa using hsz) hr (by simp) (by simp) rfl rfl rfl rfl rfl))) ?_
  · intro s1 y b
    by_cases e : 0 = b
    · subst e; rfl
    · simp [e]
  simp only [List.nil_append]
  simp [-renB, r7, o7]
  exact ⟨acc_sameI, by decide⟩
set_option maxRecDepth 20000 in
theorem c_boolexp_Variables (x : Ex) (n : Nat) (hn : n ≤ 256) (hx : RtX n x) : Pure Tryz.prog GL 8 [x.av, .p (.int .i64 n)] (.tup [.p (.lst 1 ((compI (sortI (ints (vrX x)))).map Int.enc)), .p (.int .i64 0)]) := by
  refine Pure.of_walk (N := 32) Tryz.func8 rfl rfl rfl (by simp) (by first | (simp; done) | simp [*]) ?_
  have hC := c_boolexp_Check x n hn hx.ok hx.deep hx.size hx.nods
  have hP := c_boolexp_preorder x
  simp
  refine xcall_pure hC ?_
  simp
  refine xcall_pure hP ?_
  simp
  refine XRange.intro [7] Tryz.func55 rfl rfl fun l0 fn => ?_
  refine ⟨_, _, _, _, none, g_preVb (i := ⟨l0, 32, fn, #[18, 19], _, _⟩) (n := n) ?_ x hx.ok hx.deep hx.size hx.nods _ _ 1 2 (by simp) (by simp) rfl rfl, rfl, ?_⟩
  · intro l k y s nx b0 b1 lam hny hll hnd hlt g0 g1 g5
    have hnd2 : [b0, b1].Nodup := (List.nodup_cons.1 hnd).2
    have hlt2 : ∀ b ∈ [b0, b1], b < nx := fun b hb => hlt b (List.mem_cons_of_mem _ hb)
    by_cases ho : y.op = 1
    · obtain ⟨_, hi0, _, _⟩ := nodE_zero hny
      have ev : ownX y = [y.idx.toNat] := if_pos ho
      rw [ev]
      obtain ⟨v, hv⟩ : ∃ v : Nat, y.idx = v := ⟨y.idx.toNat, by omega⟩
      have hv2 : y.idx.toNat = v := by omega
      rw [hv2]
      refine GivesY.of_walkA (σ := [b0, b1]) (t0 := vbT 0) (args := [.p (.int .i64 k), y.av]) (free := [1]) (m := 2) (x := 1) (j := none)
        (s0 := [(0, some (outI 1 l)), (1, accB 1 (l.map nrow))])
        (s1 := [(0, some (outI 2 (l ++ [v]))), (2, accB 1 ((l ++ [v]).map nrow))])
        (fun st => [cellNm 0 st]) rfl ⟨lends_ap g0 g1, lend_allI g1, hnd2, hlt2, rfl⟩ g5 (List.nodup_cons.1 hnd).1 (hlt lam (by simp)) rfl rfl (by simp) (by simp) renS_outI ?_
      simp [-renB, roundSlots, vbT, outI, ho, hv]
      refine ⟨by omega, XEndYL.of ⟨rfl, ?_⟩⟩
      have em : List.map nrow l ++ [[AV.p (PV.int IntKind.i64 ↑v)]] = (l ++ [v]).map nrow := by simp
      rw [em]
      have ea : accB 1 ((l ++ [v]).map nrow) = some (.cells 1 ((l ++ [v]).map nrow)) := by simp [accB]
      rw [ea]
      have e1 : renB [0, 1, 4] (.cells 1 [[.acc 2 1 (l.length + 1)]]) = some (.cells 1 [[.acc 4 1 (l.length + 1)]]) := rfl
      have e3 : renB [0, 1, 4] (.cells 1 ((l ++ [v]).map nrow)) = some (.cells 1 ((l ++ [v]).map nrow)) := by show (renR _ _).map _ = _; rw [renR_map fun x => rfl]; rfl
      refine ⟨?_, show [0, 1, 4].Nodup by decide, show [0, 1, 4].length ≤ 3 by decide⟩
      show outOk [0, 1, 4] _ _ _
      simp [-renB, e1, e3, -List.map_append]
    · have ev : ownX y = [] := if_neg ho
      rw [ev, List.append_nil]
      have hrow : l.map nrow = (l.map nenc).map (·.map .p) := by rw [List.map_map]; rfl
      rw [hrow] at g1
      rw [hrow]
      unfold outI
      refine GivesY.move1 ?_ ?_ ?_ ?_ (hlt lam (by simp)) (hlt b0 (by simp)) (hlt b1 (by simp)) (by simp) (by simp) g0 g1
      rw [← hrow] at g1
      · refine GivesY.of_walkA (σ := [b0, b1]) (t0 := vbT 0) (args := [.p (.int .i64 k), y.av]) (free := []) (m := 2) (x := 0) (j := none)
          (s0 := [(0, some (outI 1 l)), (1, accB 1 (l.map nrow))]) (s1 := []) (fun _ => []) rfl ⟨lends_ap g0 g1, lend_allI g1, hnd2, hlt2, rfl⟩ g5 (List.nodup_cons.1 hnd).1 (hlt lam (by simp)) rfl rfl (by simp) (by simp) rfl ?_
        simp [-renB, roundSlots, vbT, outI, ho]
        refine XEndYL.of ⟨rfl, ?_⟩
        have e1 : renB [0, 1] (.cells 1 [[.acc 1 1 l.length]]) = some (.cells 1 [[.acc 1 1 l.length]]) := rfl
        refine ⟨?_, show [0, 1].Nodup by decide, show [0, 1].length ≤ 2 by decide⟩
        show outOk [0, 1] _ _ _
        simp [-renB, e1]
        try exact acc_sameI
      all_goals
        intro e
        subst e
        simp at hnd
  · simp [afterJump, outI]
    have hvl := vrX_len x
    have hsz := hx.size
    by_cases hC : vrX x = []
    · rw [hC]
      have hfin : compI (sortI (ints [])) = [] := by simp [compI, sortI, ddT, ints]
      rw [hfin]
      refine xcall_gives (Gives.of_acc (rest := []) (fun _ => g_SortI0 _ _) (fun h => absurd h (by simp))) ?_
      simp
      refine xcall_gives (Gives.of_acc (rest := []) (fun _ => g_CompI0 _ _) (fun h => absurd h (by simp))) ?_
      simp [XEndT]
    · have hacC : accB 1 ((vrX x).map nrow) = some (.cells 1 ((ints (vrX x)).map Int.row)) := by rw [← ints_row]; simp [accB, hC]
      have hln : (vrX x).length = (ints (vrX x)).length := by unfold ints; rw [List.length_map]
      have hCl : 0 < (ints (vrX x)).length := by rw [← hln]; exact List.length_pos_iff.2 hC
      rw [hln] at hvl
      rw [hacC, hln]
      generalize ints (vrX x) = C at *
      have hsl := @sortI_len C
      have hsne : sortI C ≠ [] := fun e => by rw [e] at hsl; simp at hsl; omega
      refine xcall_gives (Gives.of_acc (rest := []) (fun h => absurd h (by omega)) (fun _ => g_SortI C _ _ 3 none (by simp) (by omega))) ?_
      simp
      have hgc := fun s nx => g_CompI (sortI C) s nx 3
      rw [hsl] at hgc
      refine xcall_gives (Gives.of_acc (rest := []) (fun h => absurd h (by omega)) (fun _ => hgc _ _ (by simp) (by simp) (by omega) hsne)) ?_
      simp [XEndT]
end Go.Am
