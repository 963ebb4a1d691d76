/- Lemmas and contracts for the proof of a statement of this seat. -/
import Derived.Test.YtebnpnkcoibooaaGreatDoorZCI
set_option linter.unusedVariables false
set_option linter.unusedSimpArgs false
/- Contracts: slices.Compact, slices.Clone at int. -/
namespace Go.Am
open Go Go.Proofs Go.Pn


theorem g_CloneI (l : List Int) (s : Store) (nx : Nat) (hn : l.length < 1000000) :
    Gives Go.Proofs.Tryz.prog GL 83 [Ints.av l] s nx (.acc nx 1 l.length) [] [(nx, accB 1 (l.map Int.row))] (nx + 1) := by
  refine Gives.mk_walkK (N := 8) (args := [Ints.av l]) [] [] [] [(0, accB 1 (l.map Int.row))] 0 1 (.acc 0 1 l.length) (nms [2]) (up1 := [(nx, accB 1 (l.map Int.row))]) Go.Proofs.Tryz.func83 rfl rfl rfl (by simp) rfl (by simp) (by simp) (by simp) (renS_acc rfl (renR_map fun _ => rfl)) (by simp) rfl ?_
  simp
  refine xdec_split (fun h => ?_) (fun h => ?_)
  · subst h
    simp
  · have h0 : 0 < l.length := List.length_pos_iff.2 h
    have hrow : (fun x => List.map AV.p x) ∘ Int.enc = Int.row := rfl
    simp [h, h0, hrow, accB, Nat.pos_iff_ne_zero]
    omega

/- ## no two alike beside each other -/
def newAt (l : List Int) (i : Nat) : Bool := decide (i = 0) || decide (l[i]? ≠ l[i - 1]?)
def ddT (l : List Int) (k : Nat) : List Int := ((List.range k).filter (newAt l)).map fun i => l[i]?.getD 0
theorem ddT_snoc {l : List Int} {k : Nat} {x : Int} (e : l[k]? = some x) : ddT l (k + 1) = ddT l k ++ if newAt l k then [x] else [] := by
  unfold ddT
  rw [List.range_succ, List.filter_append, List.map_append]
  congr 1
  cases h : newAt l k <;> simp [h, e, -getElem?_pos]
theorem ddT_all {l : List Int} {k : Nat} (hk : k ≤ l.length) (h : ∀ i, i < k → newAt l i = true) : ddT l k = l.take k := by
  induction k with
  | zero => simp [ddT]
  | succ k ih =>
    obtain ⟨x, e⟩ := get_lt (xs := l) (k := k) (by omega)
    rw [ddT_snoc e, ih (by omega) (fun i hi => h i (by omega)), h k (by omega), take_snoc e]
    simp
/-- The row as it stands, and how far it was looked at. -/
structure DSt where
  T : List Int
  j : Nat
def compI (l : List Int) : List Int := ddT l l.length

theorem g_CompI (l : List Int) (s : Store) (nx b : Nat) (hb : b < nx) (hg : get s b = some (.cells 1 (l.map Int.row))) (hl : l.length < 1000000) (h0 : l ≠ []) :
    Gives Go.Proofs.Tryz.prog GL 85 [.ref b 1 0 l.length none] s nx (.ref b 1 0 (compI l).length none) [b] [(b, some (.cells 1 ((compI l ++ List.replicate (l.length - (compI l).length) 0).map Int.row)))] nx := by
  refine Gives.mk_walkK (N := 61) (args := [.ref 0 1 0 l.length none]) [b] [] [(0, some (.cells 1 (l.map Int.row)))] [(0, some (.cells 1 ((compI l ++ List.replicate (l.length - (compI l).length) 0).map Int.row)))] 1 0 (.ref 0 1 0 (compI l).length none) (fun _ => []) (up1 := [(b, some (.cells 1 ((compI l ++ List.replicate (l.length - (compI l).length) 0).map Int.row)))]) Go.Proofs.Tryz.func85 rfl rfl rfl (by simp) rfl (by simp [hg, hb]) (by simp) (by simp) (by simp) (by simp) rfl ?_
  have h1 : 1 ≤ l.length := List.length_pos_iff.2 h0
  simp
  refine xif_split (fun h => ?_) (fun h => ?_)
  · simp at h
    have hl1 : l.length = 1 := by omega
    have hfin : compI l = l := by
      rw [compI, ddT_all (Nat.le_refl _) (fun i hi => ?_), List.take_length]
      have e : i = 0 := by omega
      subst e
      rfl
    rw [hfin]
    simp
  · simp at h
    simp
    have hd1 : ∀ i, i < 1 → newAt l i = true := fun i hi => by
      have e : i = 0 := by omega
      subst e
      rfl
    refine XLoop.go [0] [0] 0 [] (fun _ => []) (fun _ (k : Nat) => [(3, .p (.int .i64 k))]) (fun _ k => []) (fun k => 1 ≤ k ∧ k ≤ l.length ∧ ∀ i, i < k → newAt l i = true) (fun k => l.length - k) 1 ⟨by omega, by omega, hd1⟩ ?_ ?_
    · simp
    · rintro k ⟨hk1, hk2, hd⟩
      simp
      refine xif_split (fun h3 => ?_) (fun h3 => ?_)
      · simp at h3
        obtain ⟨x, e⟩ := get_lt h3
        obtain ⟨y, e'⟩ := get_lt (xs := l) (k := k - 1) (by omega)
        have hw : IntKind.i64.wrap ((k : Int) - 1) = ((k - 1 : Nat) : Int) := by rw [wrap_i64 (by omega) (by omega)]; omega
        have hlt : k - 1 < l.length := by omega
        simp
        refine XDraw.intro (by kernel_rfl) ?_
        simp [h3, e, hw, e', hlt, -getElem?_pos, List.getElem?_cons_zero, List.getElem?_cons_succ]
        refine ⟨by omega, by omega, by omega, .of (by kernel_rfl), ?_⟩
        refine xif_split (fun h4 => ?_) (fun h4 => ?_)
        · simp at h4
          have hnk : newAt l k = false := by simp [newAt, e, e', h4, -getElem?_pos]; omega
          have hk0 : ddT l (k + 1) = l.take k := by rw [ddT_snoc e, hnk, ddT_all hk2 hd]; simp
          have hk0l : (ddT l (k + 1)).length = k := by rw [hk0]; simp; omega
          have hkne : ¬ k = l.length := by omega
          simp [hk2, hkne]
          refine XLoop.go [0, 4] [] 0 [] (fun _ => []) (fun _ (g : DSt) => [(3, .p (.int .i64 (ddT l (k + g.j)).length)), (5, .p (.int .i64 g.j))]) (fun _ g => [(0, some (.cells 1 (g.T.map Int.row)))]) (fun g => g.T.length = l.length ∧ 1 ≤ g.j ∧ k + g.j ≤ l.length ∧ (ddT l (k + g.j)).length + 1 ≤ k + g.j ∧ g.T.take (ddT l (k + g.j)).length = ddT l (k + g.j) ∧ ∀ (i : Nat), k + g.j ≤ i + 1 → g.T[i]? = l[i]?) (fun g => l.length - k - g.j) ⟨l, 1⟩ ⟨rfl, by simp, by dsimp only; omega, by dsimp only; omega, by dsimp only; rw [hk0l, hk0], fun _ _ => rfl⟩ ?_ ?_
          · simp [hk0l]
          · rintro ⟨T, j⟩ ⟨q1, q2, q3, q4, q5, q6⟩
            dsimp only at q1 q2 q3 q4 q5 q6
            have hds := fun {x : Int} (e : l[k + j]? = some x) => ddT_snoc e
            have hde : k + j = l.length → ddT l (k + j) = compI l := fun e => by rw [e]; rfl
            have hassoc : k + (j + 1) = k + j + 1 := by omega
            generalize ddT l (k + j) = D at q4 q5 hds hde
            simp
            refine xif_split (fun h5 => ?_) (fun h5 => ?_)
            · simp at h5
              have hj : k + j < l.length := by omega
              obtain ⟨x2, e2⟩ := get_lt (xs := l) (k := k + j) hj
              obtain ⟨y2, e3⟩ := get_lt (xs := l) (k := k + j - 1) (by omega)
              have t2 : T[k + j]? = some x2 := by rw [q6 _ (by omega)]; exact e2
              have t3 : T[k + (j - 1)]? = some y2 := by rw [q6 _ (by omega), ← e3]; congr 1; omega
              have hw2 : IntKind.i64.wrap ((j : Int) - 1) = ((j - 1 : Nat) : Int) := by rw [wrap_i64 (by omega) (by omega)]; omega
              have hds := hds e2
              rw [← hassoc] at hds
              have hjn : j < l.length - k := by omega
              have hjn2 : j - 1 < l.length - k := by omega
              simp
              refine XDraw.intro (by kernel_rfl) ?_
              simp [hjn, hjn2, t2, t3, hw2, -getElem?_pos, List.getElem?_cons_zero, List.getElem?_cons_succ]
              refine ⟨by omega, by omega, by omega, .of (by kernel_rfl), ?_⟩
              have hkj : ¬ k + j = 0 := by omega
              refine xif_split (fun h6 => ?_) (fun h6 => ?_)
              · simp at h6
                have hnw : newAt l (k + j) = true := by simp [newAt, e2, e3, h6, -getElem?_pos]
                rw [hnw, if_pos rfl] at hds
                have hDl : D.length < l.length := by omega
                obtain ⟨T', hT'⟩ : ∃ T', T' = T.set D.length x2 := ⟨_, rfl⟩
                have hms : (T.map Int.row).set D.length [.p (.int .i64 x2)] = T'.map Int.row := by rw [hT', List.map_set]
                obtain ⟨z, t4⟩ := get_lt (xs := T) (k := D.length) (by omega)
                simp [hjn, hDl, t2, t4, -getElem?_pos, List.getElem?_cons_zero, List.getElem?_cons_succ]
                refine ⟨wrap_i64 (by omega) (by omega), wrap_i64 (by omega) (by omega), ⟨T', j + 1⟩, ⟨by rw [hT']; simpa using q1, by dsimp only; omega, by dsimp only; omega, by dsimp only; rw [hds]; simp; omega, ?_, fun i hi => ?_⟩, by dsimp only; omega, ?_⟩
                · dsimp only
                  rw [hds, hT', List.length_append]
                  have : T.length > D.length := by omega
                  rw [show D.length + [x2].length = D.length + 1 from rfl, List.take_add_one, List.take_set_of_le (Nat.le_refl _), q5, List.getElem?_set_self (by omega)]
                  rfl
                · dsimp only at hi ⊢
                  rw [hT', List.getElem?_set_ne (by omega)]
                  exact q6 i (by omega)
                · simp [hds, hms]
              · simp at h6
                have hnw : newAt l (k + j) = false := by simp [newAt, e2, e3, h6, hkj, -getElem?_pos]; omega
                rw [hnw] at hds
                simp at hds
                simp
                refine ⟨wrap_i64 (by omega) (by omega), ⟨T, j + 1⟩, ⟨q1, by dsimp only; omega, by dsimp only; omega, by dsimp only; rw [hds]; omega, by dsimp only; rw [hds]; exact q5, fun i hi => q6 i (by dsimp only at hi; omega)⟩, by dsimp only; omega, ?_⟩
                simp [hds]
            · simp at h5
              have hD := hde (by omega)
              have hDl : D.length ≤ l.length := by omega
              have hDne : ¬ D.length = l.length := by omega
              simp [hDl, hDne]
              refine ⟨by omega, by omega, by rw [hD], ?_⟩
              rw [← hD, layRows, ← List.map_take, q5, List.drop_eq_nil_of_le (by simp; omega)]
              simp
        · simp at h4
          have hnk : newAt l k = true := by simp [newAt, e, e', h4, -getElem?_pos]
          simp
          refine ⟨wrap_i64 (by omega) (by omega), k + 1, ⟨by omega, by omega, fun i hi => ?_⟩, by omega, ?_⟩
          · rcases (by omega : i = k ∨ i < k) with rfl | hh
            · exact hnk
            · exact hd i hh
          · simp
      · simp at h3
        have hkl : k = l.length := by omega
        subst hkl
        have hfin : compI l = l := by rw [compI, ddT_all (Nat.le_refl _) hd, List.take_length]
        rw [hfin]
        simp

theorem g_CompI0 (s : Store) (nx : Nat) : Gives Go.Proofs.Tryz.prog GL 85 [.nils] s nx .nils [] [] nx := by
  refine Gives.mk_walkK (N := 61) (args := [.nils]) [] [] [] [] 0 0 .nils (fun _ => []) (up1 := []) Go.Proofs.Tryz.func85 rfl rfl rfl (by simp) rfl (by simp) (by simp) (by simp) (by simp) (by simp) rfl ?_
  simp

end Go.Am
/- Contracts: package pressure: Rest. -/
namespace Go.Am
open Go Go.Proofs Go.Pn


theorem sorted_ext : ∀ {a b : List Int}, a.Pairwise (· < ·) → b.Pairwise (· < ·) → (∀ x, x ∈ a ↔ x ∈ b) → a = b
  | [], [], _, _, _ => rfl
  | [], y :: b, _, _, h => absurd ((h y).2 (by simp)) (by simp)
  | x :: a, [], _, _, h => absurd ((h x).1 (by simp)) (by simp)
  | x :: a, y :: b, ha, hb, h => by
    rw [List.pairwise_cons] at ha hb
    have hxy : x = y := by
      rcases List.mem_cons.1 ((h x).1 (by simp)) with e | h1
      · exact e
      · rcases List.mem_cons.1 ((h y).2 (by simp)) with e | h2
        · exact e.symm
        · have := ha.1 y h2
          have := hb.1 x h1
          omega
    subst hxy
    rw [sorted_ext ha.2 hb.2 fun z => ?_]
    constructor
    · intro hz
      rcases List.mem_cons.1 ((h z).1 (by simp [hz])) with e | hh
      · have := ha.1 z hz; omega
      · exact hh
    · intro hz
      rcases List.mem_cons.1 ((h z).2 (by simp [hz])) with e | hh
      · have := hb.1 z hz; omega
      · exact hh

theorem ddT_sorted {l : List Int} (hs : l.Pairwise (· ≤ ·)) : ∀ {k : Nat}, k ≤ l.length → (ddT l k).Pairwise (· < ·) ∧ ∀ x, x ∈ ddT l k ↔ x ∈ l.take k
  | 0, _ => by simp [ddT]
  | k + 1, hk => by
    obtain ⟨h1, h2⟩ := ddT_sorted hs (k := k) (by omega)
    obtain ⟨x, e⟩ := get_lt (xs := l) (k := k) (by omega)
    have hle : ∀ (i j : Nat) (a b : Int), i ≤ j → l[i]? = some a → l[j]? = some b → a ≤ b := fun i j a b hij ha hb => by
      rcases Nat.lt_or_eq_of_le hij with hlt | rfl
      · obtain ⟨p1, p2⟩ := List.getElem?_eq_some_iff.1 ha
        obtain ⟨r1, r2⟩ := List.getElem?_eq_some_iff.1 hb
        rw [← p2, ← r2]
        exact List.pairwise_iff_getElem.1 hs i j p1 r1 hlt
      · rw [ha] at hb; cases hb; exact Int.le_refl _
    rw [ddT_snoc e, take_snoc e]
    cases hn : newAt l k with
    | true =>
      rw [if_pos rfl]
      refine ⟨?_, fun z => by rw [List.mem_append, List.mem_append, h2]⟩
      rw [List.pairwise_append]
      refine ⟨h1, by simp, fun a ha b hb => ?_⟩
      rw [List.mem_singleton] at hb
      subst hb
      obtain ⟨i, hi, ei⟩ := List.mem_iff_getElem.1 ((h2 a).1 ha)
      have hik : i < k := by simp at hi; omega
      have ea : l[i]? = some a := by
        rw [← ei, List.getElem_take]
        exact List.getElem?_eq_getElem _
      obtain ⟨y, ey⟩ := get_lt (xs := l) (k := k - 1) (by omega)
      have l1 := hle i (k - 1) a y (by omega) ea ey
      have l2 := hle (k - 1) k y b (by omega) ey e
      have hne : b ≠ y := fun hh => by
        subst hh
        simp only [newAt, e, ey, Bool.or_eq_true, decide_eq_true_eq, ne_eq, not_true_eq_false, or_false] at hn
        omega
      omega
    | false =>
      have hk0 : k ≠ 0 := fun h0 => by subst h0; simp [newAt] at hn
      obtain ⟨y, ey⟩ := get_lt (xs := l) (k := k - 1) (by omega)
      have hxy : x = y := by
        simp only [newAt, e, ey, Bool.or_eq_false_iff, decide_eq_false_iff_not, ne_eq, Decidable.not_not, Option.some.injEq] at hn
        exact hn.2
      rw [if_neg (by simp), List.append_nil]
      refine ⟨h1, fun z => ?_⟩
      rw [h2, List.mem_append, List.mem_singleton]
      refine ⟨.inl, fun hh => hh.elim id fun hz => ?_⟩
      subst hz
      subst hxy
      refine List.mem_iff_getElem?.2 ⟨k - 1, ?_⟩
      rw [List.getElem?_take_of_lt (by omega)]
      exact ey
theorem comp_sort {l m : List Int} (hm : m.Pairwise (· < ·)) (h : ∀ x, x ∈ m ↔ x ∈ l) : compI (sortI l) = m := by
  have hs : (sortI l).Pairwise (· ≤ ·) := by
    have := List.pairwise_mergeSort (le := fun x y : Int => decide (x ≤ y)) (fun a b c h1 h2 => by simp at *; omega) (fun a b => by simp; omega) l
    exact this.imp fun h => by simpa using h
  obtain ⟨h1, h2⟩ := ddT_sorted hs (k := (sortI l).length) (Nat.le_refl _)
  refine sorted_ext h1 hm fun x => ?_
  rw [compI] 
  rw [h2, List.take_length, h, sortI, List.mem_mergeSort]

def badsN (c : Circuit) (l : List Int) (n : Nat) : List Int := (List.range n).flatMap fun m => badL c (posN c l m)
theorem badsN_succ {c : Circuit} {l : List Int} {n : Nat} : badsN c l (n + 1) = badsN c l n ++ badL c (posN c l n) := by simp [badsN, List.range_succ]
theorem badsN_len {c : Circuit} {l : List Int} {n : Nat} : (badsN c l n).length ≤ n * c.parts.length := by
  induction n with
  | zero => simp [badsN]
  | succ n ih =>
    rw [badsN_succ, List.length_append, Nat.succ_mul]
    have := @badT_len c (posN c l n) c.parts.length
    have e : badT c (posN c l n) c.parts.length = badL c (posN c l n) := rfl
    rw [e] at this
    omega
theorem badsN_comp {c : Circuit} {l : List Int} {n : Nat} : compI (sortI (badsN c l (n + 1))) = allT c l n c.parts.length := by
  refine comp_sort ?_ fun x => ?_
  · unfold allT
    rw [List.pairwise_map]
    refine (List.Pairwise.filter _ List.pairwise_lt_range).imp fun h => by omega
  · unfold allT badsN
    simp only [List.mem_map, List.mem_filter, List.mem_range, List.mem_flatMap]
    constructor
    · rintro ⟨i, ⟨hi, hs⟩, rfl⟩
      simp only [sawB, Bool.or_eq_true, List.any_eq_true, List.mem_range, List.contains_iff_mem, List.take_zero, List.not_mem_nil, or_false] at hs
      exact hs
    · rintro ⟨m, hm, hx⟩
      obtain ⟨j, ej⟩ := List.mem_iff_getElem?.1 hx
      obtain ⟨i, rfl, hi⟩ := bad_mem ej
      refine ⟨i, ⟨hi, ?_⟩, rfl⟩
      simp only [sawB, Bool.or_eq_true, List.any_eq_true, List.mem_range, List.contains_iff_mem, List.take_zero, List.not_mem_nil, or_false]
      exact ⟨m, hm, hx⟩

theorem Gives.res {P : Program} {G : Globs} {f : Nat} {args : List AV} {s : Store} {nx : Nat} {v v1 : AV} {rd : List Nat} {up : Store} {nx' : Nat} (h : Gives P G f args s nx v rd up nx') (hv : ∀ φ own w u, VR φ own w v u → VR φ own w v1 u) : Gives P G f args s nx v1 rd up nx' :=
  ⟨h.le, fun F φ s1 w vs hag hs hf hl hx => (h.calls F φ s1 w vs hag hs hf hl hx).mono fun _ _ hp => post_congr hp (fun _ => rfl) (Nat.le_refl _) fun _ _ => hv _ _ _ _⟩
theorem VR.tup2 {φ : Places} {own : Nat → Prop} {w : World} {a x y : AV} {u : Value} (h : VR φ own w (.tup [a, x]) u) (hv : ∀ z, VR φ own w x z → VR φ own w y z) : VR φ own w (.tup [a, y]) u := by
  cases h with
  | tup cs vs hl h =>
    refine .tup _ _ hl fun i c v hc hu => ?_
    match i with
    | 0 => simp at hc; subst hc; exact h 0 _ _ rfl hu
    | 1 => simp at hc; subst hc; exact hv _ (h 1 _ _ rfl hu)
    | i + 2 => simp at hc

set_option maxRecDepth 20000 in
theorem c_pressure_Rest (c : Circuit) (l : List Int) (hs : Sized c) (hl : l.length < 4611686018427387904) : Pure Go.Proofs.Tryz.prog GL 34 [c.av, Ints.av l] (.tup [Ints.av (restPos c l), Ints.av (restBad c l), .p (.int .i64 (restErr c l))]) := by
  refine Pure.of_walk (N := 45) Go.Proofs.Tryz.func34 rfl rfl rfl (by simp) (by first | (simp; done) | simp [*]) ?_
  simp
  by_cases h : checkQ c l = 0
  · have h2 := check_parts (checkQ_zero h).1
    have hll : l.length ≤ 64 := by have := (checkQ_zero h).2.1; omega
    refine xcall_gives (g_of c l hs hl h _ _) ?_
    simp
    refine xcall_gives (g_CloneI l _ _ (by omega)) ?_
    simp
    refine XLoop.goN [7] [1, 2] 4 (fun (n : Nat) => [(9, .p (.lst 1 ((posN c l n).map Int.enc))), (10, .acc 3 1 (badsN c l n).length), (24, .p (.int .i64 n))]) (fun n => [(3, accB 1 ((badsN c l n).map Int.row))]) (fun n => n ≤ 65 ∧ ∀ m, m < n → onceL c (posN c l m) ≠ posN c l m) (fun n => 65 - n) 0 ⟨by omega, fun m hm => by omega⟩ ?_ ?_
    · refine Leads.frz_sub (B := [3]) (ρ := [0, 1, 2, 4]) [(9, .p (.lst 1 (l.map Int.enc)))] [(3, none)] (Freeze.of _ _ ?_ (by simp) (by simp [keys])) ?_
      · intro p hp
        simp only [List.mem_cons, List.not_mem_nil, or_false] at hp
        subst hp
        exact FrzK.accRows (rows := l.map Int.row) (by simp) (by simp [get]) (by simp) (by simp)
      · simp [posN, badsN, plumRow, prA_pure]
        try decide
    · rintro n ⟨hn, hb⟩
      have hok := posN_ok h (n := n)
      have hl1 : (posN c l n).length = c.parts.length := (checkQ_zero hok).2.1
      have hl2 := @onceL_len c (posN c l n)
      have hnext : posN c l (n + 1) = onceL c (posN c l n) := rfl
      have hbl := @badsN_len c l n
      have hbs := @badsN_succ c l n
      have hbn : n * c.parts.length ≤ 65 * 64 := Nat.mul_le_mul hn h2.2.1
      have hbb : (badL c (posN c l n)).length ≤ 64 := by
        have := @badT_len c (posN c l n) c.parts.length
        have e : badT c (posN c l n) c.parts.length = badL c (posN c l n) := rfl
        rw [e] at this; omega
      simp
      refine xif_split (fun h3 => ?_) (fun h3 => ?_)
      · simp at h3
        simp
        by_cases hbe : badL c (posN c l n) = []
        · refine xcall_gives ((g_step c (posN c l n) hok 1 2 _ _ (by simp) (by simp) (by simp) (by simp) (by simp)).res (v1 := .tup [.acc 4 1 (onceL c (posN c l n)).length, .nils]) fun _ _ _ _ hu => hu.tup2 fun z hz => by rw [hbe] at hz; exact hz.acc_nil) ?_
          rw [hbe, List.append_nil] at hbs
          rw [← hbs]
          rw [← hbs] at hbl
          have hr : True := trivial
          have hlen : True := trivial
          simp
          refine ⟨by omega, ?_⟩
          have hbl1 := @badsN_len c l (n + 1)
          have hbn1 : (n + 1) * c.parts.length ≤ 65 * 64 := Nat.mul_le_mul (by omega) h2.2.1
          have hcomp := @badsN_comp c l n
          refine xcall_lent ?_
          simp [hr, hlen]
          refine ⟨_, c_Eq_Int (onceL c (posN c l n)) (posN c l n) (by omega), rfl, ?_⟩
          simp [hr, hlen]
          refine xif_split (fun h5 => ?_) (fun h5 => ?_)
          · simp at h5
            have hix := restIx_at (by omega) h5 hb
            have r1 : restErr c l = 0 := by simp [restErr, h, hix]
            have r2 : restPos c l = posN c l n := by simp [restPos, h, hix]
            have r3 : restBad c l = compI (sortI (badsN c l (n + 1))) := by simp [restBad, h, hix, hcomp]
            by_cases hC : badsN c l (n + 1) = []
            · have hr3 : restBad c l = [] := by rw [r3, hC]; simp [compI, sortI, ddT]
              simp [hC, hr, hlen]
              refine xcall_gives (Gives.of_acc (rest := []) (fun _ => g_SortI0 _ _) (fun h => absurd h (by simp))) ?_
              simp [hr, hlen]
              refine xcall_gives (Gives.of_acc (rest := []) (fun _ => g_CompI0 _ _) (fun h => absurd h (by simp))) ?_
              simp [hr, hlen]
              simp [XEndT, r1, r2, hr3, hr, hlen]
            · have hacC : accB 1 ((badsN c l (n + 1)).map Int.row) = some (.cells 1 ((badsN c l (n + 1)).map Int.row)) := by simp [accB, hC]
              simp [hr, hlen]
              generalize badsN c l (n + 1) = C at *
              have hCl : 0 < C.length := List.length_pos_iff.2 hC
              have hsl := @sortI_len C
              have hsne : sortI C ≠ [] := fun e => by rw [e] at hsl; simp at hsl; omega
              refine xcall_gives (Gives.of_acc (rest := []) (fun h => absurd h (by omega)) (fun _ => g_SortI C _ _ 6 none (by simp [hacC, hr, hlen]) (by omega))) ?_
              simp [hr, hlen]
              have hgc := fun s nx => g_CompI (sortI C) s nx 6
              rw [hsl] at hgc
              refine xcall_gives (Gives.of_acc (rest := []) (fun h => absurd h (by omega)) (fun _ => hgc _ _ (by simp) (by simp) (by omega) hsne)) ?_
              rw [← r3]
              simp [hr, hlen]
              simp [XEndT, r1, r2, hr, hlen]
          · simp at h5
            simp [hr, hlen]
            refine ⟨wrap_i64 (by omega) (by omega), n + 1, ⟨by omega, fun m hm => ?_⟩, by omega, ?_⟩
            · rcases (by omega : m = n ∨ m < n) with rfl | hh
              · exact h5
              · exact hb m hh
            · rw [hnext]
              refine Leads.frz_sub (B := [4]) (ρ := [0, 1, 2, 6]) [(9, .p (.lst 1 ((onceL c (posN c l n)).map Int.enc)))] [(4, none)] (Freeze.of _ _ ?_ (by simp) (by simp [keys])) ?_
              · intro p hp
                simp only [List.mem_cons, List.not_mem_nil, or_false] at hp
                subst hp
                exact FrzK.accRows (rows := (onceL c (posN c l n)).map Int.row) (by simp) (by simp [get]) (by simp) (by simp)
              · simp [plumRow, prA_pure, hr, hlen]
                try decide
        · have hac : accB 1 ((badL c (posN c l n)).map Int.row) = some (.cells 1 ((badL c (posN c l n)).map Int.row)) := by simp [accB, hbe]
          have hr : (badsN c l n).map Int.row ++ (badL c (posN c l n)).map Int.row = (badsN c l (n + 1)).map Int.row := by rw [hbs, List.map_append]
          have hlen : (badsN c l n).length + (badL c (posN c l n)).length = (badsN c l (n + 1)).length := by rw [hbs, List.length_append]
          refine xcall_gives ((g_step c (posN c l n) hok 1 2 _ _ (by simp) (by simp) (by simp) (by simp) (by simp)).res (v1 := .tup [.acc 4 1 (onceL c (posN c l n)).length, .ref 5 1 0 (badL c (posN c l n)).length none]) fun _ _ _ _ hu => hu.tup2 fun z hz => hz.acc_ref (List.length_pos_iff.2 hbe)) ?_
          generalize badL c (posN c l n) = B at *
          simp [hac]
          simp [hr, hlen]
          refine ⟨by omega, ?_⟩
          have hbl1 := @badsN_len c l (n + 1)
          have hbn1 : (n + 1) * c.parts.length ≤ 65 * 64 := Nat.mul_le_mul (by omega) h2.2.1
          have hcomp := @badsN_comp c l n
          refine xcall_lent ?_
          simp [hr, hlen]
          refine ⟨_, c_Eq_Int (onceL c (posN c l n)) (posN c l n) (by omega), rfl, ?_⟩
          simp [hr, hlen]
          refine xif_split (fun h5 => ?_) (fun h5 => ?_)
          · simp at h5
            have hix := restIx_at (by omega) h5 hb
            have r1 : restErr c l = 0 := by simp [restErr, h, hix]
            have r2 : restPos c l = posN c l n := by simp [restPos, h, hix]
            have r3 : restBad c l = compI (sortI (badsN c l (n + 1))) := by simp [restBad, h, hix, hcomp]
            by_cases hC : badsN c l (n + 1) = []
            · have hr3 : restBad c l = [] := by rw [r3, hC]; simp [compI, sortI, ddT]
              simp [hC, hr, hlen]
              refine xcall_gives (Gives.of_acc (rest := []) (fun _ => g_SortI0 _ _) (fun h => absurd h (by simp))) ?_
              simp [hr, hlen]
              refine xcall_gives (Gives.of_acc (rest := []) (fun _ => g_CompI0 _ _) (fun h => absurd h (by simp))) ?_
              simp [hr, hlen]
              simp [XEndT, r1, r2, hr3, hr, hlen]
            · have hacC : accB 1 ((badsN c l (n + 1)).map Int.row) = some (.cells 1 ((badsN c l (n + 1)).map Int.row)) := by simp [accB, hC]
              simp [hr, hlen]
              generalize badsN c l (n + 1) = C at *
              have hCl : 0 < C.length := List.length_pos_iff.2 hC
              have hsl := @sortI_len C
              have hsne : sortI C ≠ [] := fun e => by rw [e] at hsl; simp at hsl; omega
              refine xcall_gives (Gives.of_acc (rest := []) (fun h => absurd h (by omega)) (fun _ => g_SortI C _ _ 6 none (by simp [hacC, hr, hlen]) (by omega))) ?_
              simp [hr, hlen]
              have hgc := fun s nx => g_CompI (sortI C) s nx 6
              rw [hsl] at hgc
              refine xcall_gives (Gives.of_acc (rest := []) (fun h => absurd h (by omega)) (fun _ => hgc _ _ (by simp) (by simp) (by omega) hsne)) ?_
              rw [← r3]
              simp [hr, hlen]
              simp [XEndT, r1, r2, hr, hlen]
          · simp at h5
            simp [hr, hlen]
            refine ⟨wrap_i64 (by omega) (by omega), n + 1, ⟨by omega, fun m hm => ?_⟩, by omega, ?_⟩
            · rcases (by omega : m = n ∨ m < n) with rfl | hh
              · exact h5
              · exact hb m hh
            · rw [hnext]
              refine Leads.frz_sub (B := [4]) (ρ := [0, 1, 2, 6]) [(9, .p (.lst 1 ((onceL c (posN c l n)).map Int.enc)))] [(4, none)] (Freeze.of _ _ ?_ (by simp) (by simp [keys])) ?_
              · intro p hp
                simp only [List.mem_cons, List.not_mem_nil, or_false] at hp
                subst hp
                exact FrzK.accRows (rows := (onceL c (posN c l n)).map Int.row) (by simp) (by simp [get]) (by simp) (by simp)
              · simp [plumRow, prA_pure, hr, hlen]
                try decide
      · simp at h3
        have hnn : n = 65 := by omega
        subst hnn
        have hix := restIx_none hb
        simp [XEndT, restErr, restPos, restBad, h, hix]
  · refine xcall_pure (c_pressure_of c l hs hl h) ?_
    simp [h]
    simp [XEndT, restPos, restBad, restErr, h]

end Go.Am
