/- Contracts: the reference's orders and columns. -/
import Derived.Test.YtfcljeghfckabaaGreatDoorZD4
import Derived.Test.YtfcljeghfckabaaGreatDoorZCG
set_option linter.unusedVariables false
set_option linter.unusedSimpArgs false
namespace Go.Am
open Go Go.Proofs Go.Pn

def Ints.row1 (o : List Int) : List AV := [.p (.lst 1 (o.map Int.enc))]
def Ints.enc1 (o : List Int) : List PV := [.lst 1 (o.map Int.enc)]
@[simp] theorem unpR_Ints1 {l : List (List Int)} : unpR (l.map Ints.row1) = some (l.map Ints.enc1) := unpR_map (f := Ints.row1) (g := Ints.enc1) (fun _ => rfl) l

@[simp] theorem row1_pure {o : List Int} : pureL (Ints.row1 o) = true := rfl
@[simp] theorem renL_row1 {ρ : List Nat} {o : List Int} : renL ρ (Ints.row1 o) = some (Ints.row1 o) := renL_pure rfl
@[simp] theorem renR_row1 {ρ : List Nat} {L : List (List Int)} : renR ρ (L.map Ints.row1) = some (L.map Ints.row1) := renR_map fun _ => rfl
/-- The reference's orders so far. -/
def outI (l : List Int) (n i : Nat) : List (List Int) := (List.range i).flatMap fun i => (ordersF n (l.take i ++ l.drop (i + 1))).map fun o => (l[i]?.getD 0) :: o
theorem outI_snoc {l : List Int} {n i : Nat} {x : Int} (e : l[i]? = some x) : outI l n (i + 1) = outI l n i ++ (ordersF n (l.take i ++ l.drop (i + 1))).map (x :: ·) := by
  unfold outI; rw [List.range_succ, List.flatMap_append]; simp [e]
def outK (ou os : List (List Int)) (x : Int) (k : Nat) : List (List Int) := ou ++ (os.take k).map (x :: ·)
theorem outK_zero {ou os : List (List Int)} {x : Int} : outK ou os x 0 = ou := by simp [outK]
theorem outK_len {ou os : List (List Int)} {x : Int} {k : Nat} (h : k ≤ os.length) : (outK ou os x k).length = ou.length + k := by simp [outK]; omega
theorem outK_snoc {ou os : List (List Int)} {x : Int} {k : Nat} {o : List Int} (e : os[k]? = some o) : outK ou os x (k + 1) = outK ou os x k ++ [x :: o] := by unfold outK; rw [take_snoc e]; simp
theorem outK_all {ou os : List (List Int)} {x : Int} : outK ou os x os.length = ou ++ os.map (x :: ·) := by simp [outK]
theorem outI_all {l : List Int} {n : Nat} : outI l n l.length = ordersF (n + 1) l := rfl
theorem FrzB.lastOne {s : Store} {B : List Nat} {k : Nat} {A : List (List AV)} {z x : AV} (h : FrzK s (· ∈ B) z x) : FrzB s B (.cells k (A ++ [[z]])) (.cells k (A ++ [[x]])) := by
  refine .inr ⟨k, _, _, rfl, rfl, fun i j row x' h1 h2 => ?_⟩
  by_cases hi : i < A.length
  · rw [List.getElem?_append_left hi] at h1
    exact ⟨row, x', by rw [List.getElem?_append_left hi]; exact h1, h2, .keep _⟩
  · rw [List.getElem?_append_right (by omega)] at h1
    have h3 : i - A.length = 0 := by
      have := (List.getElem?_eq_some_iff.1 h1).1
      simp at this; omega
    rw [h3] at h1
    simp at h1
    subst h1
    match j with
    | 0 =>
      simp at h2
      subst h2
      exact ⟨[z], z, by rw [List.getElem?_append_right (by omega), h3]; rfl, rfl, h⟩
    | j + 1 => simp at h2
def facN : Nat → Nat
  | 0 => 1
  | n + 1 => (n + 1) * facN n
theorem facN_le {n : Nat} (h : n ≤ 5) : facN n ≤ 120 := by
  match n, h with
  | 0, _ => decide
  | 1, _ => decide
  | 2, _ => decide
  | 3, _ => decide
  | 4, _ => decide
  | 5, _ => decide
theorem sum_const {α : Type} {l : List α} {f : α → Nat} {b : Nat} (h : ∀ x ∈ l, f x = b) : (l.map f).sum = l.length * b := by
  induction l with
  | nil => simp
  | cons x l ih =>
    simp only [List.map_cons, List.sum_cons, List.length_cons, Nat.succ_mul]
    rw [ih fun y hy => h y (by simp [hy]), h x (by simp)]
    omega
theorem ordersF_len : ∀ {n : Nat} {l : List Int}, l.length = n → (ordersF n l).length = facN n
  | 0, _, _ => rfl
  | n + 1, l, hl => by
    simp only [ordersF, List.length_flatMap, List.length_map, facN]
    rw [sum_const (b := facN n) fun i hi => ordersF_len (strike_len hl (by simpa using hi))]
    simp [hl]
theorem outI_len {l : List Int} {n i : Nat} (hl : l.length = n + 1) (hi : i ≤ l.length) : (outI l n i).length = i * facN n := by
  unfold outI
  simp only [List.length_flatMap, List.length_map]
  rw [sum_const (b := facN n) fun j hj => ordersF_len (strike_len hl (by have := List.mem_range.1 hj; omega))]
  simp


set_option maxRecDepth 20000 in
theorem c_pneumaticref25_orders : ∀ (n : Nat) (l : List Int), l.length = n → n ≤ 5 → Pure Go.Proofs.Tryz.prog GL 45 [.p (.lst 1 (l.map Int.enc))] (.p (.lst 1 ((ordersF n l).map Ints.enc1))) := by
  intro n
  induction n with
  | zero =>
    intro l hl _
    have hr : l = [] := List.length_eq_zero_iff.1 hl
    subst hr
    refine Pure.of_xc (N := 50) Go.Proofs.Tryz.func45 rfl rfl rfl (by simp) rfl ?_
    simp
    refine ⟨.inl rfl, [.ref 0 1 0 1 (some 1)], by simp, ?_⟩
    refine .one _ _ (.ref 0 1 0 1 (some 1) [[.nils]] [[.lst 1 []]] (fun _ _ => .nils) trivial rfl rfl (fun p j row x h1 h2 => ?_) fun p j row x h1 h2 => ?_)
    · match p, j with
      | 0, 0 => exact ⟨_, rfl, rfl⟩
      | 0, j + 1 => simp at h1; subst h1; simp at h2
      | p + 1, _ => simp at h1
    · match p, j with
      | 0, 0 => simp at h1; subst h1; simp at h2; subst h2; exact .nils 1
      | 0, j + 1 => simp at h1; subst h1; simp at h2
      | p + 1, _ => simp at h1
  | succ n ih =>
    intro l hl hn
    refine Pure.of_walk (N := 50) Go.Proofs.Tryz.func45 rfl rfl rfl (by simp) rfl ?_
    simp
    refine xif_split (fun h => ?_) (fun h => ?_)
    · simp at h; subst h; simp at hl
    simp
    refine XLoop.goN [0] [] 1 (fun (i : Nat) => [(3, .acc 0 1 (outI l n i).length), (4, .p (.int .i64 i))]) (fun i => [(0, accB 1 ((outI l n i).map Ints.row1))]) (fun i => i ≤ l.length) (fun i => l.length - i) 0 (by omega) ?_ ?_
    · refine Leads.subx (ρ := [0]) ?_
      simp [outI]
    intro i hi
    simp
    refine xif_split (fun h3 => ?_) (fun h3 => ?_)
    · simp at h3
      obtain ⟨x, e⟩ := get_lt h3
      simp
      refine XDraw.intro (by kernel_rfl) ?_
      have hile : i ≤ l.length := by omega
      simp [h3, e, hile, -getElem?_pos, List.getElem?_cons_zero, List.getElem?_cons_succ]
      have hrow : (fun x => List.map AV.p x) ∘ Int.enc = Int.row := rfl
      rw [hrow]
      refine ⟨fun r hr => irow_len r (List.mem_of_mem_take hr), by omega, ?_⟩
      refine xdec_split (fun h4 => ?_) (fun h4 => ?_)
      · simp
        have hle2 : (0 : Int) ≤ (i : Int) + 1 ∧ (i : Int) + 1 ≤ (l.length : Int) := by omega
        rw [if_pos hle2]
        refine ⟨wrap_i64 (by omega) (by omega), ?_⟩
        simp
        rw [hrow]
        have hD : List.take (l.length - (i + 1)) (List.drop (i + 1) (List.map Int.row l)) = List.drop (i + 1) (List.map Int.row l) := List.take_of_length_le (by simp)
        rw [hD]
        refine ⟨fun r hr => irow_len r (List.mem_of_mem_drop hr), ?_⟩
        have hmin : min i l.length = i := by omega
        have htk : List.take i (List.take i (List.map Int.row l)) = List.take i (List.map Int.row l) := by rw [List.take_take]; simp
        rw [hmin, htk]
        refine ⟨by omega, fun r hr => irow_len r (List.mem_of_mem_take hr), .of (by kernel_rfl), ?_⟩
        have hrl : (l.take i ++ l.drop (i + 1)).length = n := strike_len hl h3
        rw [show i + (l.length - (i + 1)) = (l.take i ++ l.drop (i + 1)).length from by rw [hrl]; omega]
        rw [show List.take i (List.map Int.row l) ++ List.drop (i + 1) (List.map Int.row l) = (l.take i ++ l.drop (i + 1)).map Int.row from by simp]
        have hsn := outI_snoc (n := n) e
        have hol := outI_len (n := n) hl hile
        have hfl := ordersF_len (n := n) hrl
        generalize l.take i ++ l.drop (i + 1) = r at hrl hsn hfl ⊢
        refine xcall_given ?_
        simp
        refine ⟨_, ih r hrl (by omega), ?_⟩
        have hfb := facN_le (n := n) (by omega)
        have hib : i * facN n ≤ 5 * 120 := Nat.mul_le_mul (by omega) hfb
        have hom : ∀ o ∈ ordersF n r, o.length = n := fun o ho => (ordersF_mem hrl ho).1
        generalize ordersF n r = os at hsn hfl hom ⊢
        generalize hou : outI l n i = ou at hsn hol ⊢
        refine XLoop.goN [0, 4, 6] [] 1 (fun (k : Nat) => [(3, .acc 0 1 (outK ou os x k).length), (7, .p (.int .i64 k))]) (fun k => [(0, accB 1 ((outK ou os x k).map Ints.row1))]) (fun k => k ≤ os.length) (fun k => os.length - k) 0 (by omega) ?_ ?_
        · refine Leads.subx (ρ := [0]) ?_
          simp [outK_zero]
        intro k hk
        have hRl := @outK_len ou os x k hk
        have hRr : ∀ a ∈ outK ou os x k, (Ints.row1 a).length = 1 := fun a _ => rfl
        simp
        refine xif_split (fun h5 => ?_) (fun h5 => ?_)
        · simp at h5
          obtain ⟨o, eo⟩ := get_lt h5
          simp
          refine XDraw.intro (by kernel_rfl) ?_
          simp [h5, eo, h3, e, Ints.enc1, -getElem?_pos, List.getElem?_cons_zero, List.getElem?_cons_succ]
          have hon := hom o (List.mem_of_getElem? eo)
          have hRs := outK_snoc (ou := ou) (x := x) eo
          generalize outK ou os x k = R at hRl hRr hRs ⊢
          have hac : ∀ r : List AV, accB 1 (R.map Ints.row1 ++ [r]) = some (.cells 1 (R.map Ints.row1 ++ [r])) := fun r => by simp [accB]
          refine ⟨by omega, ?_⟩
          refine xdec_split (fun h6 => ?_) (fun h6 => ?_)
          · simp
            refine ⟨by omega, hRr, .of (by kernel_rfl), wrap_i64 (by omega) (by omega), k + 1, by omega, by omega, ?_⟩
            rw [hRs]
            refine Leads.frz_sub (B := [2]) (ρ := [4]) [] [(2, none), (4, some (.cells 1 (R.map Ints.row1 ++ [Ints.row1 (x :: o)])))] (Freeze.of [] _ (by simp) ?_ (by simp [keys])) ?_
            · intro p hp' y hy
              simp only [List.mem_cons, List.not_mem_nil, or_false] at hp'
              rcases hp' with rfl | rfl
              · cases hy
              · simp only [Option.some.injEq] at hy
                subst hy
                refine ⟨by simp, _, by simp only [get, if_pos]; exact hac _, FrzB.lastOne ?_⟩
                exact FrzK.refRows (rows := (x :: o).map Int.row) (r := (x :: o).map Int.enc) (by simp) (by simp [get]) (by rw [List.drop_zero, List.take_of_length_le (by simp; try omega), List.map_map]; rfl) (by simp; try omega)
            · simp [hac]
              try decide
          · have ho0 : o = [] := List.length_eq_zero_iff.1 (by omega)
            subst ho0
            simp
            refine ⟨by omega, hRr, .of (by kernel_rfl), wrap_i64 (by omega) (by omega), k + 1, by omega, by omega, ?_⟩
            rw [hRs]
            refine Leads.frz_sub (B := [1]) (ρ := [3]) [] [(1, none), (3, some (.cells 1 (R.map Ints.row1 ++ [Ints.row1 (x :: [])])))] (Freeze.of [] _ (by simp) ?_ (by simp [keys])) ?_
            · intro p hp' y hy
              simp only [List.mem_cons, List.not_mem_nil, or_false] at hp'
              rcases hp' with rfl | rfl
              · cases hy
              · simp only [Option.some.injEq] at hy
                subst hy
                refine ⟨by simp, _, by simp only [get, if_pos]; exact hac _, FrzB.lastOne ?_⟩
                exact FrzK.refRows (rows := (x :: []).map Int.row) (r := (x :: []).map Int.enc) (by simp) (by simp [get]) (by rw [List.drop_zero, List.take_of_length_le (by simp; try omega), List.map_map]; rfl) (by simp; try omega)
            · simp [hac]
              try decide
        · simp at h5
          have hko : k = os.length := by omega
          subst hko
          simp
          refine ⟨wrap_i64 (by omega) (by omega), i + 1, by omega, by omega, ?_⟩
          rw [hsn, ← outK_all]
          refine Leads.subx (ρ := [0]) ?_
          simp
      · have hi0 : i = 0 := by omega
        refine xdec_split (fun _ => ?_) (fun h => absurd (by simp [hi0]) h)
        simp
        have hle2 : (0 : Int) ≤ (i : Int) + 1 ∧ (i : Int) + 1 ≤ (l.length : Int) := by omega
        rw [if_pos hle2]
        refine ⟨wrap_i64 (by omega) (by omega), ?_⟩
        simp
        rw [hrow]
        have hD : List.take (l.length - (i + 1)) (List.drop (i + 1) (List.map Int.row l)) = List.drop (i + 1) (List.map Int.row l) := List.take_of_length_le (by simp)
        rw [hD]
        refine ⟨fun r hr => irow_len r (List.mem_of_mem_drop hr), by omega, ?_⟩
        have hrl : (l.take i ++ l.drop (i + 1)).length = n := strike_len hl h3
        rw [show l.length - (i + 1) = (l.take i ++ l.drop (i + 1)).length from by rw [hrl]; omega]
        rw [show List.drop (i + 1) (List.map Int.row l) = (l.take i ++ l.drop (i + 1)).map Int.row from by simp [hi0]]
        have hsn := outI_snoc (n := n) e
        have hol := outI_len (n := n) hl hile
        have hfl := ordersF_len (n := n) hrl
        generalize l.take i ++ l.drop (i + 1) = r at hrl hsn hfl ⊢
        refine xdec_split (fun h7 => ?_) (fun h7 => ?_)
        · simp
          refine ⟨.of (by kernel_rfl), ?_⟩
          refine xcall_given ?_
          simp
          refine ⟨_, ih r hrl (by omega), ?_⟩
          have hfb := facN_le (n := n) (by omega)
          have hib : i * facN n ≤ 5 * 120 := Nat.mul_le_mul (by omega) hfb
          have hom : ∀ o ∈ ordersF n r, o.length = n := fun o ho => (ordersF_mem hrl ho).1
          generalize ordersF n r = os at hsn hfl hom ⊢
          generalize hou : outI l n i = ou at hsn hol ⊢
          refine XLoop.goN [0, 4, 6] [] 1 (fun (k : Nat) => [(3, .acc 0 1 (outK ou os x k).length), (7, .p (.int .i64 k))]) (fun k => [(0, accB 1 ((outK ou os x k).map Ints.row1))]) (fun k => k ≤ os.length) (fun k => os.length - k) 0 (by omega) ?_ ?_
          · refine Leads.subx (ρ := [0]) ?_
            simp [outK_zero]
          intro k hk
          have hRl := @outK_len ou os x k hk
          have hRr : ∀ a ∈ outK ou os x k, (Ints.row1 a).length = 1 := fun a _ => rfl
          simp
          refine xif_split (fun h5 => ?_) (fun h5 => ?_)
          · simp at h5
            obtain ⟨o, eo⟩ := get_lt h5
            simp
            refine XDraw.intro (by kernel_rfl) ?_
            simp [h5, eo, h3, e, Ints.enc1, -getElem?_pos, List.getElem?_cons_zero, List.getElem?_cons_succ]
            have hon := hom o (List.mem_of_getElem? eo)
            have hRs := outK_snoc (ou := ou) (x := x) eo
            generalize outK ou os x k = R at hRl hRr hRs ⊢
            have hac : ∀ r : List AV, accB 1 (R.map Ints.row1 ++ [r]) = some (.cells 1 (R.map Ints.row1 ++ [r])) := fun r => by simp [accB]
            refine ⟨by omega, ?_⟩
            refine xdec_split (fun h6 => ?_) (fun h6 => ?_)
            · simp
              refine ⟨by omega, hRr, .of (by kernel_rfl), wrap_i64 (by omega) (by omega), k + 1, by omega, by omega, ?_⟩
              rw [hRs]
              refine Leads.frz_sub (B := [2]) (ρ := [4]) [] [(2, none), (4, some (.cells 1 (R.map Ints.row1 ++ [Ints.row1 (x :: o)])))] (Freeze.of [] _ (by simp) ?_ (by simp [keys])) ?_
              · intro p hp' y hy
                simp only [List.mem_cons, List.not_mem_nil, or_false] at hp'
                rcases hp' with rfl | rfl
                · cases hy
                · simp only [Option.some.injEq] at hy
                  subst hy
                  refine ⟨by simp, _, by simp only [get, if_pos]; exact hac _, FrzB.lastOne ?_⟩
                  exact FrzK.refRows (rows := (x :: o).map Int.row) (r := (x :: o).map Int.enc) (by simp) (by simp [get]) (by rw [List.drop_zero, List.take_of_length_le (by simp; try omega), List.map_map]; rfl) (by simp; try omega)
              · simp [hac]
                try decide
            · have ho0 : o = [] := List.length_eq_zero_iff.1 (by omega)
              subst ho0
              simp
              refine ⟨by omega, hRr, .of (by kernel_rfl), wrap_i64 (by omega) (by omega), k + 1, by omega, by omega, ?_⟩
              rw [hRs]
              refine Leads.frz_sub (B := [1]) (ρ := [3]) [] [(1, none), (3, some (.cells 1 (R.map Ints.row1 ++ [Ints.row1 (x :: [])])))] (Freeze.of [] _ (by simp) ?_ (by simp [keys])) ?_
              · intro p hp' y hy
                simp only [List.mem_cons, List.not_mem_nil, or_false] at hp'
                rcases hp' with rfl | rfl
                · cases hy
                · simp only [Option.some.injEq] at hy
                  subst hy
                  refine ⟨by simp, _, by simp only [get, if_pos]; exact hac _, FrzB.lastOne ?_⟩
                  exact FrzK.refRows (rows := (x :: []).map Int.row) (r := (x :: []).map Int.enc) (by simp) (by simp [get]) (by rw [List.drop_zero, List.take_of_length_le (by simp; try omega), List.map_map]; rfl) (by simp; try omega)
              · simp [hac]
                try decide
          · simp at h5
            have hko : k = os.length := by omega
            subst hko
            simp
            refine ⟨wrap_i64 (by omega) (by omega), i + 1, by omega, by omega, ?_⟩
            rw [hsn, ← outK_all]
            refine Leads.subx (ρ := [0]) ?_
            simp
        · have hr0 : r = [] := List.length_eq_zero_iff.1 (by omega)
          subst hr0
          simp
          refine ⟨.of (by kernel_rfl), ?_⟩
          refine xcall_given ?_
          simp
          refine ⟨_, ih [] hrl (by omega), ?_⟩
          have hfb := facN_le (n := n) (by omega)
          have hib : i * facN n ≤ 5 * 120 := Nat.mul_le_mul (by omega) hfb
          have hom : ∀ o ∈ ordersF n [], o.length = n := fun o ho => (ordersF_mem hrl ho).1
          generalize ordersF n [] = os at hsn hfl hom ⊢
          generalize hou : outI l n i = ou at hsn hol ⊢
          refine XLoop.goN [0, 4, 6] [] 1 (fun (k : Nat) => [(3, .acc 0 1 (outK ou os x k).length), (7, .p (.int .i64 k))]) (fun k => [(0, accB 1 ((outK ou os x k).map Ints.row1))]) (fun k => k ≤ os.length) (fun k => os.length - k) 0 (by omega) ?_ ?_
          · refine Leads.subx (ρ := [0]) ?_
            simp [outK_zero]
          intro k hk
          have hRl := @outK_len ou os x k hk
          have hRr : ∀ a ∈ outK ou os x k, (Ints.row1 a).length = 1 := fun a _ => rfl
          simp
          refine xif_split (fun h5 => ?_) (fun h5 => ?_)
          · simp at h5
            obtain ⟨o, eo⟩ := get_lt h5
            simp
            refine XDraw.intro (by kernel_rfl) ?_
            simp [h5, eo, h3, e, Ints.enc1, -getElem?_pos, List.getElem?_cons_zero, List.getElem?_cons_succ]
            have hon := hom o (List.mem_of_getElem? eo)
            have hRs := outK_snoc (ou := ou) (x := x) eo
            generalize outK ou os x k = R at hRl hRr hRs ⊢
            have hac : ∀ r : List AV, accB 1 (R.map Ints.row1 ++ [r]) = some (.cells 1 (R.map Ints.row1 ++ [r])) := fun r => by simp [accB]
            refine ⟨by omega, ?_⟩
            refine xdec_split (fun h6 => ?_) (fun h6 => ?_)
            · simp
              refine ⟨by omega, hRr, .of (by kernel_rfl), wrap_i64 (by omega) (by omega), k + 1, by omega, by omega, ?_⟩
              rw [hRs]
              refine Leads.frz_sub (B := [2]) (ρ := [4]) [] [(2, none), (4, some (.cells 1 (R.map Ints.row1 ++ [Ints.row1 (x :: o)])))] (Freeze.of [] _ (by simp) ?_ (by simp [keys])) ?_
              · intro p hp' y hy
                simp only [List.mem_cons, List.not_mem_nil, or_false] at hp'
                rcases hp' with rfl | rfl
                · cases hy
                · simp only [Option.some.injEq] at hy
                  subst hy
                  refine ⟨by simp, _, by simp only [get, if_pos]; exact hac _, FrzB.lastOne ?_⟩
                  exact FrzK.refRows (rows := (x :: o).map Int.row) (r := (x :: o).map Int.enc) (by simp) (by simp [get]) (by rw [List.drop_zero, List.take_of_length_le (by simp; try omega), List.map_map]; rfl) (by simp; try omega)
              · simp [hac]
                try decide
            · have ho0 : o = [] := List.length_eq_zero_iff.1 (by omega)
              subst ho0
              simp
              refine ⟨by omega, hRr, .of (by kernel_rfl), wrap_i64 (by omega) (by omega), k + 1, by omega, by omega, ?_⟩
              rw [hRs]
              refine Leads.frz_sub (B := [1]) (ρ := [3]) [] [(1, none), (3, some (.cells 1 (R.map Ints.row1 ++ [Ints.row1 (x :: [])])))] (Freeze.of [] _ (by simp) ?_ (by simp [keys])) ?_
              · intro p hp' y hy
                simp only [List.mem_cons, List.not_mem_nil, or_false] at hp'
                rcases hp' with rfl | rfl
                · cases hy
                · simp only [Option.some.injEq] at hy
                  subst hy
                  refine ⟨by simp, _, by simp only [get, if_pos]; exact hac _, FrzB.lastOne ?_⟩
                  exact FrzK.refRows (rows := (x :: []).map Int.row) (r := (x :: []).map Int.enc) (by simp) (by simp [get]) (by rw [List.drop_zero, List.take_of_length_le (by simp; try omega), List.map_map]; rfl) (by simp; try omega)
              · simp [hac]
                try decide
          · simp at h5
            have hko : k = os.length := by omega
            subst hko
            simp
            refine ⟨wrap_i64 (by omega) (by omega), i + 1, by omega, by omega, ?_⟩
            rw [hsn, ← outK_all]
            refine Leads.subx (ρ := [0]) ?_
            simp
    simp at h3
    have hil : i = l.length := by omega
    subst hil
    simp [XEndT, outI_all]
    exact fun a _ => rfl
end Go.Am
