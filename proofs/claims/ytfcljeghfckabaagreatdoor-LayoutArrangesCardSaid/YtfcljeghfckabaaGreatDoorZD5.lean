/- Lemmas and contracts for the proof of a statement of this seat. -/
import Derived.Test.YtfcljeghfckabaaGreatDoorZD3
import Derived.Test.YtfcljeghfckabaaGreatDoorZCG
import Derived.Test.YtfcljeghfckabaaGreatDoorZA8
set_option linter.unusedVariables false
set_option linter.unusedSimpArgs false
/- Contracts: the reference's orders and columns. -/
namespace Go.Am
open Go Go.Proofs Go.Pn

def Ints.row1 (o : List Int) : List AV := [.p (.lst 1 (o.map Int.enc))]
def Ints.enc1 (o : List Int) : List PV := [.lst 1 (o.map Int.enc)]
@[simp] theorem unpR_Ints1 {l : List (List Int)} : unpR (l.map Ints.row1) = some (l.map Ints.enc1) := unpR_map (f := Ints.row1) (g := Ints.enc1) (fun _ => rfl) l

@[simp] theorem row1_pure {o : List Int} : pureL (Ints.row1 o) = true := rfl
@[simp] theorem renL_row1 {ρ : List Nat} {o : List Int} : renL ρ (Ints.row1 o) = some (Ints.row1 o) := renL_pure rfl
@[simp] theorem renR_row1 {ρ : List Nat} {L : List (List Int)} : renR ρ (L.map Ints.row1) = some (L.map Ints.row1) := renR_map fun _ => rfl
/-- The reference's orders so far. -/
def outI (l : List Int) (n i : Nat) : List (List Int) := (List.range i).flatMap fun i => (ordersF n (l.take i ++ l.drop (i + 1))).map fun o => (l[i]?.getD 0) :: o
theorem outI_snoc {l : List Int} {n i : Nat} {x : Int} (e : l[i]? = some x) : outI l n (i + 1) = outI l n i ++ (ordersF n (l.take i ++ l.drop (i + 1))).map (x :: ·) := by
  unfold outI; rw [List.range_succ, List.flatMap_append]; simp [e]
def outK (ou os : List (List Int)) (x : Int) (k : Nat) : List (List Int) := ou ++ (os.take k).map (x :: ·)
theorem outK_zero {ou os : List (List Int)} {x : Int} : outK ou os x 0 = ou := by simp [outK]
theorem outK_len {ou os : List (List Int)} {x : Int} {k : Nat} (h : k ≤ os.length) : (outK ou os x k).length = ou.length + k := by simp [outK]; omega
theorem outK_snoc {ou os : List (List Int)} {x : Int} {k : Nat} {o : List Int} (e : os[k]? = some o) : outK ou os x (k + 1) = outK ou os x k ++ [x :: o] := by unfold outK; rw [take_snoc e]; simp
theorem outK_all {ou os : List (List Int)} {x : Int} : outK ou os x os.length = ou ++ os.map (x :: ·) := by simp [outK]
theorem outI_all {l : List Int} {n : Nat} : outI l n l.length = ordersF (n + 1) l := rfl
theorem FrzB.lastOne {s : Store} {B : List Nat} {k : Nat} {A : List (List AV)} {z x : AV} (h : FrzK s (· ∈ B) z x) : FrzB s B (.cells k (A ++ [[z]])) (.cells k (A ++ [[x]])) := by
  refine .inr ⟨k, _, _, rfl, rfl, fun i j row x' h1 h2 => ?_⟩
  by_cases hi : i < A.length
  · rw [List.getElem?_append_left hi] at h1
    exact ⟨row, x', by rw [List.getElem?_append_left hi]; exact h1, h2, .keep _⟩
  · rw [List.getElem?_append_right (by omega)] at h1
    have h3 : i - A.length = 0 := by
      have := (List.getElem?_eq_some_iff.1 h1).1
      simp at this; omega
    rw [h3] at h1
    simp at h1
    subst h1
    match j with
    | 0 =>
      simp at h2
      subst h2
      exact ⟨[z], z, by rw [List.getElem?_append_right (by omega), h3]; rfl, rfl, h⟩
    | j + 1 => simp at h2
def facN : Nat → Nat
  | 0 => 1
  | n + 1 => (n + 1) * facN n
theorem facN_le {n : Nat} (h : n ≤ 5) : facN n ≤ 120 := by
  match n, h with
  | 0, _ => decide
  | 1, _ => decide
  | 2, _ => decide
  | 3, _ => decide
  | 4, _ => decide
  | 5, _ => decide
theorem sum_const {α : Type} {l : List α} {f : α → Nat} {b : Nat} (h : ∀ x ∈ l, f x = b) : (l.map f).sum = l.length * b := by
  induction l with
  | nil => simp
  | cons x l ih =>
    simp only [List.map_cons, List.sum_cons, List.length_cons, Nat.succ_mul]
    rw [ih fun y hy => h y (by simp [hy]), h x (by simp)]
    omega
theorem ordersF_len : ∀ {n : Nat} {l : List Int}, l.length = n → (ordersF n l).length = facN n
  | 0, _, _ => rfl
  | n + 1, l, hl => by
    simp only [ordersF, List.length_flatMap, List.length_map, facN]
    rw [sum_const (b := facN n) fun i hi => ordersF_len (strike_len hl (by simpa using hi))]
    simp [hl]
theorem outI_len {l : List Int} {n i : Nat} (hl : l.length = n + 1) (hi : i ≤ l.length) : (outI l n i).length = i * facN n := by
  unfold outI
  simp only [List.length_flatMap, List.length_map]
  rw [sum_const (b := facN n) fun j hj => ordersF_len (strike_len hl (by have := List.mem_range.1 hj; omega))]
  simp


set_option maxRecDepth 20000 in
theorem c_pneumaticref25_orders : ∀ (n : Nat) (l : List Int), l.length = n → n ≤ 5 → Pure Go.Proofs.Tryz.prog GL 45 [.p (.lst 1 (l.map Int.enc))] (.p (.lst 1 ((ordersF n l).map Ints.enc1))) := by
  intro n
  induction n with
  | zero =>
    intro l hl _
    have hr : l = [] := List.length_eq_zero_iff.1 hl
    subst hr
    refine Pure.of_xc (N := 50) Go.Proofs.Tryz.func45 rfl rfl rfl (by simp) rfl ?_
    simp
    refine ⟨.inl rfl, [.ref 0 1 0 1 (some 1)], by simp, ?_⟩
    refine .one _ _ (.ref 0 1 0 1 (some 1) [[.nils]] [[.lst 1 []]] (fun _ _ => .nils) trivial rfl rfl (fun p j row x h1 h2 => ?_) fun p j row x h1 h2 => ?_)
    · match p, j with
      | 0, 0 => exact ⟨_, rfl, rfl⟩
      | 0, j + 1 => simp at h1; subst h1; simp at h2
      | p + 1, _ => simp at h1
    · match p, j with
      | 0, 0 => simp at h1; subst h1; simp at h2; subst h2; exact .nils 1
      | 0, j + 1 => simp at h1; subst h1; simp at h2
      | p + 1, _ => simp at h1
  | succ n ih =>
    intro l hl hn
    refine Pure.of_walk (N := 50) Go.Proofs.Tryz.func45 rfl rfl rfl (by simp) rfl ?_
    simp
    refine xif_split (fun h => ?_) (fun h => ?_)
    · simp at h; subst h; simp at hl
    simp
    refine XLoop.goN [0] [] 1 (fun (i : Nat) => [(3, .acc 0 1 (outI l n i).length), (4, .p (.int .i64 i))]) (fun i => [(0, accB 1 ((outI l n i).map Ints.row1))]) (fun i => i ≤ l.length) (fun i => l.length - i) 0 (by omega) ?_ ?_
    · refine Leads.subx (ρ := [0]) ?_
      simp [outI]
    intro i hi
    simp
    refine xif_split (fun h3 => ?_) (fun h3 => ?_)
    · simp at h3
      obtain ⟨x, e⟩ := get_lt h3
      simp
      refine XDraw.intro (by kernel_rfl) ?_
      have hile : i ≤ l.length := by omega
      simp [h3, e, hile, -getElem?_pos, List.getElem?_cons_zero, List.getElem?_cons_succ]
      have hrow : (fun x => List.map AV.p x) ∘ Int.enc = Int.row := rfl
      rw [hrow]
      refine ⟨fun r hr => irow_len r (List.mem_of_mem_take hr), by omega, ?_⟩
      refine xdec_split (fun h4 => ?_) (fun h4 => ?_)
      · simp
        have hle2 : (0 : Int) ≤ (i : Int) + 1 ∧ (i : Int) + 1 ≤ (l.length : Int) := by omega
        rw [if_pos hle2]
        refine ⟨wrap_i64 (by omega) (by omega), ?_⟩
        simp
        rw [hrow]
        have hD : List.take (l.length - (i + 1)) (List.drop (i + 1) (List.map Int.row l)) = List.drop (i + 1) (List.map Int.row l) := List.take_of_length_le (by simp)
        rw [hD]
        refine ⟨fun r hr => irow_len r (List.mem_of_mem_drop hr), ?_⟩
        have hmin : min i l.length = i := by omega
        have htk : List.take i (List.take i (List.map Int.row l)) = List.take i (List.map Int.row l) := by rw [List.take_take]; simp
        rw [hmin, htk]
        refine ⟨by omega, fun r hr => irow_len r (List.mem_of_mem_take hr), .of (by kernel_rfl), ?_⟩
        have hrl : (l.take i ++ l.drop (i + 1)).length = n := strike_len hl h3
        rw [show i + (l.length - (i + 1)) = (l.take i ++ l.drop (i + 1)).length from by rw [hrl]; omega]
        rw [show List.take i (List.map Int.row l) ++ List.drop (i + 1) (List.map Int.row l) = (l.take i ++ l.drop (i + 1)).map Int.row from by simp]
        have hsn := outI_snoc (n := n) e
        have hol := outI_len (n := n) hl hile
        have hfl := ordersF_len (n := n) hrl
        generalize l.take i ++ l.drop (i + 1) = r at hrl hsn hfl ⊢
        refine xcall_given ?_
        simp
        refine ⟨_, ih r hrl (by omega), ?_⟩
        have hfb := facN_le (n := n) (by omega)
        have hib : i * facN n ≤ 5 * 120 := Nat.mul_le_mul (by omega) hfb
        have hom : ∀ o ∈ ordersF n r, o.length = n := fun o ho => (ordersF_mem hrl ho).1
        generalize ordersF n r = os at hsn hfl hom ⊢
        generalize hou : outI l n i = ou at hsn hol ⊢
        refine XLoop.goN [0, 4, 6] [] 1 (fun (k : Nat) => [(3, .acc 0 1 (outK ou os x k).length), (7, .p (.int .i64 k))]) (fun k => [(0, accB 1 ((outK ou os x k).map Ints.row1))]) (fun k => k ≤ os.length) (fun k => os.length - k) 0 (by omega) ?_ ?_
        · refine Leads.subx (ρ := [0]) ?_
          simp [outK_zero]
        intro k hk
        have hRl := @outK_len ou os x k hk
        have hRr : ∀ a ∈ outK ou os x k, (Ints.row1 a).length = 1 := fun a _ => rfl
        simp
        refine xif_split (fun h5 => ?_) (fun h5 => ?_)
        · simp at h5
          obtain ⟨o, eo⟩ := get_lt h5
          simp
          refine XDraw.intro (by kernel_rfl) ?_
          simp [h5, eo, h3, e, Ints.enc1, -getElem?_pos, List.getElem?_cons_zero, List.getElem?_cons_succ]
          have hon := hom o (List.mem_of_getElem? eo)
          have hRs := outK_snoc (ou := ou) (x := x) eo
          generalize outK ou os x k = R at hRl hRr hRs ⊢
          have hac : ∀ r : List AV, accB 1 (R.map Ints.row1 ++ [r]) = some (.cells 1 (R.map Ints.row1 ++ [r])) := fun r => by simp [accB]
          refine ⟨by omega, ?_⟩
          refine xdec_split (fun h6 => ?_) (fun h6 => ?_)
          · simp
            refine ⟨by omega, hRr, .of (by kernel_rfl), wrap_i64 (by omega) (by omega), k + 1, by omega, by omega, ?_⟩
            rw [hRs]
            refine Leads.frz_sub (B := [2]) (ρ := [4]) [] [(2, none), (4, some (.cells 1 (R.map Ints.row1 ++ [Ints.row1 (x :: o)])))] (Freeze.of [] _ (by simp) ?_ (by simp [keys])) ?_
            · intro p hp' y hy
              simp only [List.mem_cons, List.not_mem_nil, or_false] at hp'
              rcases hp' with rfl | rfl
              · cases hy
              · simp only [Option.some.injEq] at hy
                subst hy
                refine ⟨by simp, _, by simp only [get, if_pos]; exact hac _, FrzB.lastOne ?_⟩
                exact FrzK.refRows (rows := (x :: o).map Int.row) (r := (x :: o).map Int.enc) (by simp) (by simp [get]) (by rw [List.drop_zero, List.take_of_length_le (by simp; try omega), List.map_map]; rfl) (by simp; try omega)
            · simp [hac]
              try decide
          · have ho0 : o = [] := List.length_eq_zero_iff.1 (by omega)
            subst ho0
            simp
            refine ⟨by omega, hRr, .of (by kernel_rfl), wrap_i64 (by omega) (by omega), k + 1, by omega, by omega, ?_⟩
            rw [hRs]
            refine Leads.frz_sub (B := [1]) (ρ := [3]) [] [(1, none), (3, some (.cells 1 (R.map Ints.row1 ++ [Ints.row1 (x :: [])])))] (Freeze.of [] _ (by simp) ?_ (by simp [keys])) ?_
            · intro p hp' y hy
              simp only [List.mem_cons, List.not_mem_nil, or_false] at hp'
              rcases hp' with rfl | rfl
              · cases hy
              · simp only [Option.some.injEq] at hy
                subst hy
                refine ⟨by simp, _, by simp only [get, if_pos]; exact hac _, FrzB.lastOne ?_⟩
                exact FrzK.refRows (rows := (x :: []).map Int.row) (r := (x :: []).map Int.enc) (by simp) (by simp [get]) (by rw [List.drop_zero, List.take_of_length_le (by simp; try omega), List.map_map]; rfl) (by simp; try omega)
            · simp [hac]
              try decide
        · simp at h5
          have hko : k = os.length := by omega
          subst hko
          simp
          refine ⟨wrap_i64 (by omega) (by omega), i + 1, by omega, by omega, ?_⟩
          rw [hsn, ← outK_all]
          refine Leads.subx (ρ := [0]) ?_
          simp
      · have hi0 : i = 0 := by omega
        refine xdec_split (fun _ => ?_) (fun h => absurd (by simp [hi0]) h)
        simp
        have hle2 : (0 : Int) ≤ (i : Int) + 1 ∧ (i : Int) + 1 ≤ (l.length : Int) := by omega
        rw [if_pos hle2]
        refine ⟨wrap_i64 (by omega) (by omega), ?_⟩
        simp
        rw [hrow]
        have hD : List.take (l.length - (i + 1)) (List.drop (i + 1) (List.map Int.row l)) = List.drop (i + 1) (List.map Int.row l) := List.take_of_length_le (by simp)
        rw [hD]
        refine ⟨fun r hr => irow_len r (List.mem_of_mem_drop hr), by omega, ?_⟩
        have hrl : (l.take i ++ l.drop (i + 1)).length = n := strike_len hl h3
        rw [show l.length - (i + 1) = (l.take i ++ l.drop (i + 1)).length from by rw [hrl]; omega]
        rw [show List.drop (i + 1) (List.map Int.row l) = (l.take i ++ l.drop (i + 1)).map Int.row from by simp [hi0]]
        have hsn := outI_snoc (n := n) e
        have hol := outI_len (n := n) hl hile
        have hfl := ordersF_len (n := n) hrl
        generalize l.take i ++ l.drop (i + 1) = r at hrl hsn hfl ⊢
        refine xdec_split (fun h7 => ?_) (fun h7 => ?_)
        · simp
          refine ⟨.of (by kernel_rfl), ?_⟩
          refine xcall_given ?_
          simp
          refine ⟨_, ih r hrl (by omega), ?_⟩
          have hfb := facN_le (n := n) (by omega)
          have hib : i * facN n ≤ 5 * 120 := Nat.mul_le_mul (by omega) hfb
          have hom : ∀ o ∈ ordersF n r, o.length = n := fun o ho => (ordersF_mem hrl ho).1
          generalize ordersF n r = os at hsn hfl hom ⊢
          generalize hou : outI l n i = ou at hsn hol ⊢
          refine XLoop.goN [0, 4, 6] [] 1 (fun (k : Nat) => [(3, .acc 0 1 (outK ou os x k).length), (7, .p (.int .i64 k))]) (fun k => [(0, accB 1 ((outK ou os x k).map Ints.row1))]) (fun k => k ≤ os.length) (fun k => os.length - k) 0 (by omega) ?_ ?_
          · refine Leads.subx (ρ := [0]) ?_
            simp [outK_zero]
          intro k hk
          have hRl := @outK_len ou os x k hk
          have hRr : ∀ a ∈ outK ou os x k, (Ints.row1 a).length = 1 := fun a _ => rfl
          simp
          refine xif_split (fun h5 => ?_) (fun h5 => ?_)
          · simp at h5
            obtain ⟨o, eo⟩ := get_lt h5
            simp
            refine XDraw.intro (by kernel_rfl) ?_
            simp [h5, eo, h3, e, Ints.enc1, -getElem?_pos, List.getElem?_cons_zero, List.getElem?_cons_succ]
            have hon := hom o (List.mem_of_getElem? eo)
            have hRs := outK_snoc (ou := ou) (x := x) eo
            generalize outK ou os x k = R at hRl hRr hRs ⊢
            have hac : ∀ r : List AV, accB 1 (R.map Ints.row1 ++ [r]) = some (.cells 1 (R.map Ints.row1 ++ [r])) := fun r => by simp [accB]
            refine ⟨by omega, ?_⟩
            refine xdec_split (fun h6 => ?_) (fun h6 => ?_)
            · simp
              refine ⟨by omega, hRr, .of (by kernel_rfl), wrap_i64 (by omega) (by omega), k + 1, by omega, by omega, ?_⟩
              rw [hRs]
              refine Leads.frz_sub (B := [2]) (ρ := [4]) [] [(2, none), (4, some (.cells 1 (R.map Ints.row1 ++ [Ints.row1 (x :: o)])))] (Freeze.of [] _ (by simp) ?_ (by simp [keys])) ?_
              · intro p hp' y hy
                simp only [List.mem_cons, List.not_mem_nil, or_false] at hp'
                rcases hp' with rfl | rfl
                · cases hy
                · simp only [Option.some.injEq] at hy
                  subst hy
                  refine ⟨by simp, _, by simp only [get, if_pos]; exact hac _, FrzB.lastOne ?_⟩
                  exact FrzK.refRows (rows := (x :: o).map Int.row) (r := (x :: o).map Int.enc) (by simp) (by simp [get]) (by rw [List.drop_zero, List.take_of_length_le (by simp; try omega), List.map_map]; rfl) (by simp; try omega)
              · simp [hac]
                try decide
            · have ho0 : o = [] := List.length_eq_zero_iff.1 (by omega)
              subst ho0
              simp
              refine ⟨by omega, hRr, .of (by kernel_rfl), wrap_i64 (by omega) (by omega), k + 1, by omega, by omega, ?_⟩
              rw [hRs]
              refine Leads.frz_sub (B := [1]) (ρ := [3]) [] [(1, none), (3, some (.cells 1 (R.map Ints.row1 ++ [Ints.row1 (x :: [])])))] (Freeze.of [] _ (by simp) ?_ (by simp [keys])) ?_
              · intro p hp' y hy
                simp only [List.mem_cons, List.not_mem_nil, or_false] at hp'
                rcases hp' with rfl | rfl
                · cases hy
                · simp only [Option.some.injEq] at hy
                  subst hy
                  refine ⟨by simp, _, by simp only [get, if_pos]; exact hac _, FrzB.lastOne ?_⟩
                  exact FrzK.refRows (rows := (x :: []).map Int.row) (r := (x :: []).map Int.enc) (by simp) (by simp [get]) (by rw [List.drop_zero, List.take_of_length_le (by simp; try omega), List.map_map]; rfl) (by simp; try omega)
              · simp [hac]
                try decide
          · simp at h5
            have hko : k = os.length := by omega
            subst hko
            simp
            refine ⟨wrap_i64 (by omega) (by omega), i + 1, by omega, by omega, ?_⟩
            rw [hsn, ← outK_all]
            refine Leads.subx (ρ := [0]) ?_
            simp
        · have hr0 : r = [] := List.length_eq_zero_iff.1 (by omega)
          subst hr0
          simp
          refine ⟨.of (by kernel_rfl), ?_⟩
          refine xcall_given ?_
          simp
          refine ⟨_, ih [] hrl (by omega), ?_⟩
          have hfb := facN_le (n := n) (by omega)
          have hib : i * facN n ≤ 5 * 120 := Nat.mul_le_mul (by omega) hfb
          have hom : ∀ o ∈ ordersF n [], o.length = n := fun o ho => (ordersF_mem hrl ho).1
          generalize ordersF n [] = os at hsn hfl hom ⊢
          generalize hou : outI l n i = ou at hsn hol ⊢
          refine XLoop.goN [0, 4, 6] [] 1 (fun (k : Nat) => [(3, .acc 0 1 (outK ou os x k).length), (7, .p (.int .i64 k))]) (fun k => [(0, accB 1 ((outK ou os x k).map Ints.row1))]) (fun k => k ≤ os.length) (fun k => os.length - k) 0 (by omega) ?_ ?_
          · refine Leads.subx (ρ := [0]) ?_
            simp [outK_zero]
          intro k hk
          have hRl := @outK_len ou os x k hk
          have hRr : ∀ a ∈ outK ou os x k, (Ints.row1 a).length = 1 := fun a _ => rfl
          simp
          refine xif_split (fun h5 => ?_) (fun h5 => ?_)
          · simp at h5
            obtain ⟨o, eo⟩ := get_lt h5
            simp
            refine XDraw.intro (by kernel_rfl) ?_
            simp [h5, eo, h3, e, Ints.enc1, -getElem?_pos, List.getElem?_cons_zero, List.getElem?_cons_succ]
            have hon := hom o (List.mem_of_getElem? eo)
            have hRs := outK_snoc (ou := ou) (x := x) eo
            generalize outK ou os x k = R at hRl hRr hRs ⊢
            have hac : ∀ r : List AV, accB 1 (R.map Ints.row1 ++ [r]) = some (.cells 1 (R.map Ints.row1 ++ [r])) := fun r => by simp [accB]
            refine ⟨by omega, ?_⟩
            refine xdec_split (fun h6 => ?_) (fun h6 => ?_)
            · simp
              refine ⟨by omega, hRr, .of (by kernel_rfl), wrap_i64 (by omega) (by omega), k + 1, by omega, by omega, ?_⟩
              rw [hRs]
              refine Leads.frz_sub (B := [2]) (ρ := [4]) [] [(2, none), (4, some (.cells 1 (R.map Ints.row1 ++ [Ints.row1 (x :: o)])))] (Freeze.of [] _ (by simp) ?_ (by simp [keys])) ?_
              · intro p hp' y hy
                simp only [List.mem_cons, List.not_mem_nil, or_false] at hp'
                rcases hp' with rfl | rfl
                · cases hy
                · simp only [Option.some.injEq] at hy
                  subst hy
                  refine ⟨by simp, _, by simp only [get, if_pos]; exact hac _, FrzB.lastOne ?_⟩
                  exact FrzK.refRows (rows := (x :: o).map Int.row) (r := (x :: o).map Int.enc) (by simp) (by simp [get]) (by rw [List.drop_zero, List.take_of_length_le (by simp; try omega), List.map_map]; rfl) (by simp; try omega)
              · simp [hac]
                try decide
            · have ho0 : o = [] := List.length_eq_zero_iff.1 (by omega)
              subst ho0
              simp
              refine ⟨by omega, hRr, .of (by kernel_rfl), wrap_i64 (by omega) (by omega), k + 1, by omega, by omega, ?_⟩
              rw [hRs]
              refine Leads.frz_sub (B := [1]) (ρ := [3]) [] [(1, none), (3, some (.cells 1 (R.map Ints.row1 ++ [Ints.row1 (x :: [])])))] (Freeze.of [] _ (by simp) ?_ (by simp [keys])) ?_
              · intro p hp' y hy
                simp only [List.mem_cons, List.not_mem_nil, or_false] at hp'
                rcases hp' with rfl | rfl
                · cases hy
                · simp only [Option.some.injEq] at hy
                  subst hy
                  refine ⟨by simp, _, by simp only [get, if_pos]; exact hac _, FrzB.lastOne ?_⟩
                  exact FrzK.refRows (rows := (x :: []).map Int.row) (r := (x :: []).map Int.enc) (by simp) (by simp [get]) (by rw [List.drop_zero, List.take_of_length_le (by simp; try omega), List.map_map]; rfl) (by simp; try omega)
              · simp [hac]
                try decide
          · simp at h5
            have hko : k = os.length := by omega
            subst hko
            simp
            refine ⟨wrap_i64 (by omega) (by omega), i + 1, by omega, by omega, ?_⟩
            rw [hsn, ← outK_all]
            refine Leads.subx (ρ := [0]) ?_
            simp
    simp at h3
    have hil : i = l.length := by omega
    subst hil
    simp [XEndT, outI_all]
    exact fun a _ => rfl
end Go.Am
/- Contracts: the reference's columns. -/
namespace Go.Am
open Go Go.Proofs Go.Pn

def colK (l : List Plc) (ps : List Int) (c : Int) : Nat → List Int
  | 0 => []
  | i + 1 => match ps[i]? with
    | some x => if (plcAt l x).col = c then colK l ps c i ++ [c] else colK l ps c i
    | none => colK l ps c i
def colsR (l : List Plc) (ps : List Int) : Nat → List Int
  | 0 => []
  | c + 1 => colsR l ps c ++ colK l ps c ps.length
theorem colK_len {l : List Plc} {ps : List Int} {c : Int} : ∀ {k : Nat}, (colK l ps c k).length ≤ k
  | 0 => by simp [colK]
  | k + 1 => by
    have ih := @colK_len l ps c k
    simp only [colK]
    cases ps[k]? with
    | none => simp only; omega
    | some p => simp only; split <;> simp <;> omega
theorem colsR_len {l : List Plc} {ps : List Int} : ∀ {c : Nat}, (colsR l ps c).length ≤ c * ps.length
  | 0 => by simp [colsR]
  | c + 1 => by
    have ih := @colsR_len l ps c
    have := @colK_len l ps c ps.length
    simp only [colsR, List.length_append, Nat.succ_mul]; omega
theorem colK_count {l : List Plc} {ps : List Int} {c y : Int} : ∀ {k : Nat}, k ≤ ps.length → (colK l ps c k).count y = if y = c then ((ps.take k).map fun x => (plcAt l x).col).count y else 0
  | 0, _ => by simp [colK]
  | k + 1, h => by
    have ih := @colK_count l ps c y k (by omega)
    obtain ⟨x, e⟩ := get_lt (show k < ps.length by omega)
    simp only [colK, e]
    rw [take_snoc e, List.map_append, List.count_append]
    by_cases h1 : (plcAt l x).col = c
    · rw [if_pos h1, List.count_append, ih]
      by_cases h2 : y = c
      · subst h2; simp [h1]
      · rw [if_neg h2, if_neg h2]
        simp [Ne.symm h2]
    · rw [if_neg h1, ih]
      by_cases h2 : y = c
      · subst h2; simp [h1]
      · rw [if_neg h2, if_neg h2]
theorem colsR_count {l : List Plc} {ps : List Int} {y : Int} : ∀ {c : Nat}, (colsR l ps c).count y = if 0 ≤ y ∧ y < c then (ps.map fun x => (plcAt l x).col).count y else 0
  | 0 => by
    rw [if_neg (by omega)]; simp [colsR]
  | c + 1 => by
    have ih := @colsR_count l ps y c
    rw [colsR, List.count_append, ih, colK_count (Nat.le_refl _), List.take_length]
    by_cases h1 : y = c
    · rw [if_neg (by omega), if_pos h1, if_pos (by omega)]; simp
    · by_cases h2 : 0 ≤ y ∧ y < c
      · rw [if_pos h2, if_neg h1, if_pos (by omega)]; simp
      · rw [if_neg h2, if_neg h1, if_neg (by omega)]
theorem colK_all {l : List Plc} {ps : List Int} {c y : Int} : ∀ {k : Nat}, y ∈ colK l ps c k → y = c
  | 0, h => by simp [colK] at h
  | k + 1, h => by
    simp only [colK] at h
    cases e : ps[k]? with
    | none => rw [e] at h; exact colK_all h
    | some x =>
      rw [e] at h
      simp only at h
      split at h
      · rcases List.mem_append.1 h with h | h
        · exact colK_all h
        · simpa using h
      · exact colK_all h
theorem pw_const {L : List Int} {c : Int} (h : ∀ y ∈ L, y = c) : L.Pairwise (· ≤ ·) := by
  rw [List.pairwise_iff_getElem]
  intro i j hi hj _
  rw [h _ (List.getElem_mem hi), h _ (List.getElem_mem hj)]
  exact Int.le_refl _
theorem colsR_lt {l : List Plc} {ps : List Int} {y : Int} : ∀ {c : Nat}, y ∈ colsR l ps c → y < c
  | 0, h => by simp [colsR] at h
  | c + 1, h => by
    rw [colsR] at h
    rcases List.mem_append.1 h with h | h
    · have := colsR_lt h; omega
    · have := colK_all h; omega
theorem colsR_sorted {l : List Plc} {ps : List Int} : ∀ {c : Nat}, (colsR l ps c).Pairwise (· ≤ ·)
  | 0 => by simp [colsR]
  | c + 1 => by
    rw [colsR, List.pairwise_append]
    refine ⟨colsR_sorted, pw_const fun y hy => colK_all hy, fun a ha b hb => ?_⟩
    have h1 := colsR_lt ha
    have h2 := colK_all hb
    omega
/-- The sorted columns of a row's parts are those that the reference counts out. -/
theorem colsR_eq {l : List Plc} {ps : List Int} {L : List Int} (hm : ps.map (fun x => (plcAt l x).col) = L) (h : ∀ y ∈ L, 0 ≤ y ∧ y < 64) : colsR l ps 64 = sortI L := by
  have hp : (colsR l ps 64).Perm L := by
    rw [List.perm_iff_count]
    intro y
    rw [colsR_count, hm]
    by_cases hy : y ∈ L
    · rw [if_pos]; have := h y hy; omega
    · rw [List.count_eq_zero_of_not_mem hy]; simp
  have hs : (sortI L).Pairwise (· ≤ ·) := by
    have := List.pairwise_mergeSort (le := fun x y : Int => decide (x ≤ y)) (by intro a b c h1 h2; simp at *; omega) (by intro a b; simp; omega) L
    simpa [sortI] using this
  exact List.Perm.eq_of_pairwise (fun a b _ _ h1 h2 => by omega) colsR_sorted hs (hp.trans (List.mergeSort_perm L _).symm)

/-- The list while a column's parts are looked at. -/
def colM (l : List Plc) (ps : List Int) (c k : Nat) : List Int := colsR l ps c ++ colK l ps c k
theorem colM_len {l : List Plc} {ps : List Int} {c k : Nat} : (colM l ps c k).length ≤ c * ps.length + k := by
  have h1 := @colsR_len l ps c
  have h2 := @colK_len l ps c k
  simp [colM]; omega

set_option maxRecDepth 20000 in
theorem c_pneumaticref25_columns (l : List Plc) (ps : List Int) (hp : ∀ x ∈ ps, ∃ i : Nat, x = i ∧ i < l.length) (hn : ps.length ≤ 100) : Pure Go.Proofs.Tryz.prog GL 44 [.p (.lst 2 (l.map Plc.enc)), .p (.lst 1 (ps.map Int.enc))] (.p (.lst 1 ((colsR l ps 64).map Int.enc))) := by
  refine Pure.of_walk (N := 33) Go.Proofs.Tryz.func44 rfl rfl rfl (by simp) (by first | (simp; done) | simp [*]) ?_
  simp
  refine XLoop.goN [0, 1] [] 1 (fun (c : Nat) => [(5, .acc 0 1 (colsR l ps c).length), (6, .p (.int .i64 c))]) (fun c => [(0, accB 1 ((colsR l ps c).map Int.row))]) (fun c => c ≤ 64) (fun c => 64 - c) 0 (by omega) ?_ ?_
  · refine Leads.subx (ρ := [0]) ?_
    simp [colsR]
  intro c hc
  simp
  refine xif_split (fun h3 => ?_) (fun h3 => ?_)
  · simp at h3
    simp
    refine XLoop.goN [0, 1, 6] [] 1 (fun (k : Nat) => [(5, .acc 0 1 (colM l ps c k).length), (7, .p (.int .i64 k))]) (fun k => [(0, accB 1 ((colM l ps c k).map Int.row))]) (fun k => k ≤ ps.length) (fun k => ps.length - k) 0 (by omega) ?_ ?_
    · refine Leads.subx (ρ := [0]) ?_
      simp [colM, colK]
    intro k hk
    simp
    refine xif_split (fun h5 => ?_) (fun h5 => ?_)
    · simp at h5
      obtain ⟨x, e⟩ := get_lt h5
      obtain ⟨i, rfl, hi⟩ := hp x (List.mem_of_getElem? e)
      obtain ⟨p, ep⟩ := get_lt hi
      have hpa : plcAt l (i : Int) = p := by simp [plcAt, ep]
      have hml := @colM_len l ps c k
      have hcc : c * ps.length ≤ 64 * 100 := Nat.mul_le_mul (by omega) (by omega)
      simp [h5, e, hi, ep, -getElem?_pos, List.getElem?_cons_zero, List.getElem?_cons_succ]
      refine xif_split (fun h6 => ?_) (fun h6 => ?_)
      · simp at h6
        have hS : colM l ps c (k + 1) = colM l ps c k ++ [(c : Int)] := by simp [colM, colK, e, hpa, h6]
        simp
        refine ⟨by omega, wrap_i64 (by omega) (by omega), k + 1, by omega, by omega, ?_⟩
        rw [hS]
        refine Leads.subx (ρ := [2]) ?_
        simp
        done
      · simp at h6
        have hS : colM l ps c (k + 1) = colM l ps c k := by simp [colM, colK, e, hpa, h6]
        simp
        refine ⟨wrap_i64 (by omega) (by omega), k + 1, by omega, by omega, ?_⟩
        rw [hS]
        refine Leads.subx (ρ := [0]) ?_
        simp
    · simp at h5
      have hkl : k = ps.length := by omega
      subst hkl
      simp
      refine ⟨wrap_i64 (by omega) (by omega), c + 1, by omega, by omega, ?_⟩
      rw [show colsR l ps (c + 1) = colM l ps c ps.length from rfl]
      refine Leads.subx (ρ := [0]) ?_
      simp
  simp at h3
  have hc64 : c = 64 := by omega
  subst hc64
  simp [XEndT]
end Go.Am
/- Contracts: the reference's Arrange. -/
namespace Go.Am
open Go Go.Proofs Go.Pn

theorem sumL_near {c : Circuit} {l : List Plc} (h : Near l) : 0 ≤ sumL c l := (lenT_near h).1
/-- The reference's best places after the first orders. -/
def bstG (c : Circuit) (l : List Plc) (cols : List Int) (os : List (List Int)) (k : Nat) : BSt := (os.take k).foldl (arrStep c l cols) ⟨l, -1⟩
def bstL (c : Circuit) (l : List Plc) (cols : List Int) (os : List (List Int)) (k : Nat) : List Plc := if k = 0 then [] else (bstG c l cols os k).b
theorem bstG_snoc {c : Circuit} {l : List Plc} {cols : List Int} {os : List (List Int)} {k : Nat} {o : List Int} (e : os[k]? = some o) : bstG c l cols os (k + 1) = arrStep c l cols (bstG c l cols os k) o := by
  unfold bstG; rw [take_snoc e, List.foldl_append]; rfl
theorem bstG_ok {c : Circuit} {l : List Plc} {cols : List Int} {os : List (List Int)} (hn : Near l) (hc : ∀ x ∈ cols, 0 ≤ x ∧ x < 64) : ∀ {k : Nat}, 0 < k → k ≤ os.length →
    (bstG c l cols os k).n = sumL c (bstG c l cols os k).b ∧ Near (bstG c l cols os k).b ∧ (bstG c l cols os k).b.length = l.length
  | 0, h, _ => by omega
  | k + 1, _, hk => by
    obtain ⟨o, e⟩ := get_lt (show k < os.length by omega)
    rw [bstG_snoc e]
    unfold arrStep
    have hm := @nowN_near l cols o hn hc o.length
    have hl := @nowN_len l cols o o.length
    simp only
    by_cases h1 : (bstG c l cols os k).n < 0 ∨ sumL c (nowN l cols o o.length) < (bstG c l cols os k).n
    · rw [if_pos h1]; exact ⟨rfl, hm, hl⟩
    · rw [if_neg h1]
      have h0 : 0 < k := by
        rcases Nat.eq_zero_or_pos k with rfl | h
        · exact absurd (.inl (by simp [bstG])) h1
        · exact h
      exact bstG_ok hn hc h0 (by omega)
/-- Whether an order is taken, as the reference asks. -/
theorem bst_take {c : Circuit} {l : List Plc} {cols : List Int} {os : List (List Int)} {k : Nat} {o : List Int} (hn : Near l) (hc : ∀ x ∈ cols, 0 ≤ x ∧ x < 64) (e : os[k]? = some o) (hk : 0 < k) :
    bstL c l cols os (k + 1) = if sumL c (nowN l cols o o.length) < sumL c (bstL c l cols os k) then nowN l cols o o.length else bstL c l cols os k := by
  have hkl := (List.getElem?_eq_some_iff.1 e).1
  obtain ⟨h1, h2, _⟩ := bstG_ok (c := c) (os := os) hn hc hk (by omega)
  have hs := sumL_near (c := c) h2
  have hk0 : ¬ k = 0 := by omega
  have hk1 : ¬ k + 1 = 0 := by omega
  unfold bstL
  simp only [if_neg hk0, if_neg hk1]
  rw [bstG_snoc e]
  unfold arrStep
  simp only
  rw [h1]
  by_cases h3 : sumL c (nowN l cols o o.length) < sumL c (bstG c l cols os k).b
  · rw [if_pos (.inr h3), if_pos h3]
  · rw [if_neg (by omega), if_neg h3]
theorem bst_first {c : Circuit} {l : List Plc} {cols : List Int} {os : List (List Int)} {o : List Int} (e : os[0]? = some o) : bstL c l cols os 1 = nowN l cols o o.length := by
  unfold bstL
  rw [if_neg (by omega), bstG_snoc e]
  unfold arrStep
  simp [bstG]
theorem bst_ok {c : Circuit} {l : List Plc} {cols : List Int} {os : List (List Int)} (hn : Near l) (hc : ∀ x ∈ cols, 0 ≤ x ∧ x < 64) {k : Nat} (h : 0 < k) (hk : k ≤ os.length) : Near (bstL c l cols os k) ∧ (bstL c l cols os k).length = l.length := by
  unfold bstL
  rw [if_neg (by omega)]
  exact (bstG_ok hn hc h hk).2
theorem colsN_parts {l : List Plc} {row : Int} : ∀ {k : Nat}, k ≤ l.length → (partsN l row k).map (fun x => (plcAt l x).col) = colsN l row k
  | 0, _ => rfl
  | k + 1, h => by
    obtain ⟨p, e⟩ := get_lt (show k < l.length by omega)
    have ih := @colsN_parts l row k (by omega)
    simp only [partsN, colsN, e]
    split
    · rw [List.map_append, ih]; simp [plcAt, e]
    · exact ih


set_option maxRecDepth 20000 in
theorem c_pneumaticref25_Arrange (c : Circuit) (l : List Plc) (row : Int) (hs : Sized c) : Pure Go.Proofs.Tryz.prog GL 17 [c.av, .p (.lst 2 (l.map Plc.enc)), .p (.int .i64 row)] (.tup [.p (.lst 2 ((arrRes c l row).map Plc.enc)), .p (.int .i64 (arrErr c l row))]) := by
  refine Pure.of_aevT (N := 96) Go.Proofs.Tryz.func17 rfl rfl rfl (by simp) rfl ?_
  refine AEv.seqY ?_
  simp
  refine AEv.seqY ?_
  simp
  refine xcall_pure (c_pneumaticref25_Check c l hs) ?_
  simp
  by_cases h : ¬ layE c l = 0
  · have e1 : arrErr c l row = layE c l := if_pos h
    have e2 : arrRes c l row = [] := if_pos (by rw [e1]; exact h)
    simp [h, XEndT, e1, e2]
  simp only [Decidable.not_not] at h
  obtain ⟨hc, hL⟩ := layE_zero.1 h
  have hlen : l.length ≤ 64 := by rw [hL.len]; exact (check_parts hc).2.1
  simp [h]
  have hbad : row < 0 ∨ 5 ≤ row → arrErr c l row = 2 ∧ arrRes c l row = [] := fun hr2 => by
    have e1 : arrErr c l row = 2 := by unfold arrErr; rw [if_neg (by simpa using h), if_pos hr2]
    exact ⟨e1, if_pos (by rw [e1]; simp)⟩
  refine AEv.seqY ?_
  simp
  refine xif_split (fun hr => ?_) (fun hr => ?_)
  · simp at hr
    have hr0 : ¬ row < 0 := by omega
    simp [hr0]
    refine xif_split (fun hr5 => ?_) (fun hr5 => ?_)
    · simp at hr5
      simp [XEndT, hbad (.inr (by omega : 5 ≤ row))]
    simp at hr5
    simp
    refine AEv.seqY ?_
    simp
    refine AEv.seqY ?_
    simp
    refine XLoop.goN [1, 2, 3] [0] 2 (fun (k : Nat) => [(9, .acc 1 1 (partsN l row k).length), (10, .p (.int .i64 k))]) (fun k => [(1, accB 1 ((partsN l row k).map Int.row))]) (fun k => k ≤ l.length) (fun k => l.length - k) 0 (by omega) ?_ ?_
    · refine Leads.subx (ρ := [0, 1]) ?_
      simp [partsN]
    intro k hk
    simp
    refine xif_split (fun h3 => ?_) (fun h3 => ?_)
    · simp at h3
      obtain ⟨p, e⟩ := get_lt h3
      have hpl := @partsN_len l row k
      simp [h3, e, -getElem?_pos, List.getElem?_cons_zero, List.getElem?_cons_succ]
      refine xif_split (fun h4 => ?_) (fun h4 => ?_)
      · simp at h4
        have eP : partsN l row (k + 1) = partsN l row k ++ [(k : Int)] := by simp [partsN, e, h4]
        simp
        refine ⟨by omega, wrap_i64 (by omega) (by omega), k + 1, by omega, by omega, ?_⟩
        rw [eP]
        refine Leads.subx (ρ := [0, 3]) ?_
        simp
      · simp at h4
        have eP : partsN l row (k + 1) = partsN l row k := by simp [partsN, e, h4]
        simp
        refine ⟨wrap_i64 (by omega) (by omega), k + 1, by omega, by omega, ?_⟩
        rw [eP]
        refine Leads.subx (ρ := [0, 1]) ?_
        simp
    simp at h3
    have hkl : k = l.length := by omega
    subst hkl
    have hpl := @partsN_len l row l.length
    simp
    refine AEv.seqY ?_
    simp
    refine xif_split (fun h5 => ?_) (fun h5 => ?_)
    · simp at h5
      have e1 : arrErr c l row = 12 := by unfold arrErr; rw [if_neg (by simpa using h), if_neg (by omega), if_pos (by omega)]
      have e2 : arrRes c l row = [] := if_pos (by rw [e1]; simp)
      simp [XEndT, e1, e2]
    simp at h5
    have e1 : arrErr c l row = 0 := by unfold arrErr; rw [if_neg (by simpa using h), if_neg (by omega), if_neg (by omega)]
    have e2 : arrRes c l row = ((ordersL (partsN l row l.length)).foldl (arrStep c l (sortI (colsN l row l.length))) ⟨l, -1⟩).b := if_neg (by simp [e1])
    simp
    have hpm : ∀ x ∈ partsN l row l.length, ∃ i : Nat, x = i ∧ i < l.length := fun x hx => by
      obtain ⟨i, p, h1, h2, _⟩ := partsN_mem hx
      exact ⟨i, h1, h2⟩
    generalize hP : partsN l row l.length = ps at hpm hpl h5 e2 ⊢
    refine AEv.leads (st := ⟨[(9, .p (.lst 1 (ps.map Int.enc))), (1, .p (.lst 2 (l.map Plc.enc))), (3, .ptr 0 2 0 0)], [(0, some (.cells 2 [[.p (.lst 3 (c.parts.map Part.enc)), .p (.lst 4 (c.pipes.map Pipe.enc))]]))], 1⟩) ?_ (xc_sound ?_)
    · refine Leads.frz_sub (B := [1]) (ρ := [0]) [(9, .p (.lst 1 (ps.map Int.enc)))] [(1, none)] (Freeze.of _ _ ?_ (by simp) (by simp [keys])) ?_
      · intro p hp
        simp only [List.mem_cons, List.not_mem_nil, or_false] at hp
        subst hp
        exact FrzK.accRows (rows := ps.map Int.row) (by simp) (by simp [get]) (by simp) (by simp)
      · simp
    simp
    refine xcall_pure (c_pneumaticref25_columns l ps hpm (by omega)) ?_
    simp
    refine xcall_pure (c_pneumaticref25_orders ps.length ps rfl (by omega)) ?_
    simp
    have hcn : ∀ x ∈ colsN l row l.length, 0 ≤ x ∧ x < 64 := fun x hx => by
      obtain ⟨p, hp, rfl⟩ := colsN_mem hx
      exact hL.col p hp
    have hcr : colsR l ps 64 = sortI (colsN l row l.length) := colsR_eq (by rw [← hP]; exact colsN_parts (Nat.le_refl _)) hcn
    rw [← hcr] at e2
    have hcl : (colsR l ps 64).length = ps.length := by rw [hcr, sortI_len, colsN_len, hP]
    have hcm : ∀ x ∈ colsR l ps 64, 0 ≤ x ∧ x < 64 := fun x hx => by rw [hcr] at hx; exact hcn x (sortI_mem.1 hx)
    have hol : (ordersF ps.length ps).length ≤ 120 := by rw [ordersF_len rfl]; exact facN_le (by omega)
    have hom : ∀ o ∈ ordersF ps.length ps, o.length = ps.length ∧ ∀ x ∈ o, ∃ i : Nat, x = i ∧ i < l.length := fun o ho => by
      obtain ⟨h1, h2⟩ := ordersF_mem rfl ho
      exact ⟨h1, fun x hx => hpm x (h2 x hx)⟩
    unfold ordersL at e2
    have hn0 : 0 < (ordersF ps.length ps).length := by
      rw [ordersF_len rfl]
      generalize ps.length = n
      induction n with
      | zero => decide
      | succ n ih => exact Nat.mul_pos (by omega) ih
    generalize colsR l ps 64 = cols at e2 hcl hcm ⊢
    generalize ordersF ps.length ps = os at e2 hol hom hn0 ⊢
    clear hcr
    refine XLoop.goN [1, 3, 9, 11, 13] [0] 1 (fun (k : Nat) => [(12, .p (.lst 2 ((bstL c l cols os k).map Plc.enc))), (14, .p (.int .i64 k))]) (fun _ => []) (fun k => k ≤ os.length) (fun k => os.length - k) 0 (by omega) ?_ ?_
    · refine Leads.frz_sub (B := []) (ρ := [0]) [(12, .p (.lst 2 []))] [] (Freeze.of _ _ ?_ (by simp) (by simp [keys])) ?_
      · intro p hp
        simp only [List.mem_cons, List.not_mem_nil, or_false] at hp
        subst hp
        exact .frz _ _ (.one _ _ (.nils 2))
      · simp [bstL]
    intro k hk
    simp
    refine xif_split (fun h6 => ?_) (fun h6 => ?_)
    · simp at h6
      obtain ⟨o, eo⟩ := get_lt h6
      obtain ⟨ho1, ho2⟩ := hom o (List.mem_of_getElem? eo)
      have hrow : (fun x => List.map AV.p x) ∘ Plc.enc = Plc.row_ := rfl
      simp
      refine ⟨by omega, ?_⟩
      refine xdec_split (fun h7 => ?_) (fun h7 => ?_)
      · simp
        refine XLoop.goN [1, 3, 9, 11, 12, 13, 14] [0] 2 (fun (j : Nat) => [(15, .ref 1 2 0 l.length none), (16, .p (.int .i64 j))]) (fun j => [(1, some (.cells 2 ((nowN l cols o j).map Plc.row_)))]) (fun j => j ≤ ps.length) (fun j => ps.length - j) 0 (by omega) ?_ ?_
        · refine Leads.subx (ρ := [0, 2]) ?_
          simp [nowN, hrow]
        intro j hj
        have hnl := @nowN_len l cols o j
        simp
        refine xif_split (fun h8 => ?_) (fun h8 => ?_)
        · simp at h8
          obtain ⟨x, ex⟩ := get_lt (show j < o.length by omega)
          obtain ⟨i, rfl, hi⟩ := ho2 x (List.mem_of_getElem? ex)
          obtain ⟨y, ey⟩ := get_lt (show j < cols.length by omega)
          have hi2 : i < (nowN l cols o j).length := by omega
          obtain ⟨p, ep⟩ := get_lt hi2
          have hjc : j < cols.length := by omega
          have hjo : j < o.length := by omega
          have hnow : nowN l cols o (j + 1) = (nowN l cols o j).set i ⟨p.row, y⟩ := by simp [nowN, ex, ey, plcAt, ep]
          simp
          refine XDraw.intro (by kernel_rfl) ?_
          simp [h6, eo, ex, ey, hi, hi2, hnl, ep, hjc, hjo, Ints.enc1, -getElem?_pos, List.getElem?_cons_zero, List.getElem?_cons_succ]
          refine ⟨.of (by kernel_rfl), wrap_i64 (by omega) (by omega), j + 1, by omega, by omega, ?_⟩
          rw [hnow, set_rowP]
          refine Leads.subx (ρ := [0, 1]) ?_
          generalize (nowN l cols o j).set i ⟨p.row, y⟩ = m2
          simp
        simp at h8
        have hjl : j = o.length := by omega
        subst hjl
        have hm := @nowN_near l cols o hL.near hcm o.length
        have hSn := c_pneumaticref25_Sum c (nowN l cols o o.length) hc (by rw [nowN_len, hL.len]) hm
        simp
        refine XDraw.intro (by kernel_rfl) ?_
        have hml : (nowN l cols o o.length).length = l.length := nowN_len
        have hbs := fun h => bst_first (c := c) (l := l) (cols := cols) (os := os) (o := o) h
        have hbt := fun h => bst_take (c := c) (k := k) hL.near hcm eo h
        generalize nowN l cols o o.length = m at hm hSn hml hbs hbt ⊢
        have htk : List.take l.length (List.map Plc.row_ m) = List.map Plc.row_ m := List.take_of_length_le (by simp [hml])
        by_cases hk0 : k = 0
        · subst hk0
          have hbs := hbs eo
          simp
          refine ⟨.of (by kernel_rfl), 1, by omega, by omega, ?_⟩
          rw [hbs]
          refine Leads.frz_sub (B := [1]) (ρ := [0]) [(12, .p (.lst 2 (m.map Plc.enc)))] [(1, none)] (Freeze.of _ _ ?_ (by simp) (by simp [keys])) ?_
          · intro p hp
            simp only [List.mem_cons, List.not_mem_nil, or_false] at hp
            subst hp
            exact FrzK.refRows (rows := m.map Plc.row_) (by simp) (by simp [get]) (by rw [List.drop_zero, List.take_of_length_le (by simp [hml]), List.map_map]; rfl) (by simpa using hml)
          · simp
        · have hbt := hbt (by omega)
          obtain ⟨hb1, hb2⟩ := bst_ok (c := c) (os := os) hL.near hcm (show 0 < k by omega) hk
          have hSb := c_pneumaticref25_Sum c (bstL c l cols os k) hc (by rw [hb2, hL.len]) hb1
          simp [hk0]
          refine xcall_lent ?_
          simp [hml, htk]
          refine ⟨_, hSn, rfl, ?_⟩
          refine xcall_pure hSb ?_
          simp
          refine ⟨.of (by kernel_rfl), ?_⟩
          refine xif_split (fun h9 => ?_) (fun h9 => ?_)
          · simp at h9
            rw [if_pos h9] at hbt
            simp
            refine ⟨wrap_i64 (by omega) (by omega), k + 1, by omega, by omega, ?_⟩
            rw [hbt]
            refine Leads.frz_sub (B := [1]) (ρ := [0]) [(12, .p (.lst 2 (m.map Plc.enc)))] [(1, none)] (Freeze.of _ _ ?_ (by simp) (by simp [keys])) ?_
            · intro p hp
              simp only [List.mem_cons, List.not_mem_nil, or_false] at hp
              subst hp
              exact FrzK.refRows (rows := m.map Plc.row_) (by simp) (by simp [get]) (by rw [List.drop_zero, List.take_of_length_le (by simp [hml]), List.map_map]; rfl) (by simpa using hml)
            · simp
          · simp at h9
            rw [if_neg (by omega)] at hbt
            simp
            refine ⟨wrap_i64 (by omega) (by omega), k + 1, by omega, by omega, ?_⟩
            rw [hbt]
            refine Leads.subx (ρ := [0]) ?_
            simp
      · have hl0 : l = [] := List.length_eq_zero_iff.1 (by omega)
        refine xdec_split (fun _ => ?_) (fun h => absurd (by simp [hl0]) h)
        simp
        refine XLoop.goN [1, 3, 9, 11, 12, 13, 14] [0] 2 (fun (j : Nat) => [(15, .ref 1 2 0 l.length none), (16, .p (.int .i64 j))]) (fun j => [(1, some (.cells 2 ((nowN l cols o j).map Plc.row_)))]) (fun j => j ≤ ps.length) (fun j => ps.length - j) 0 (by omega) ?_ ?_
        · refine Leads.subx (ρ := [0, 1]) ?_
          simp [nowN, hl0]
        intro j hj
        have hnl := @nowN_len l cols o j
        simp
        refine xif_split (fun h8 => ?_) (fun h8 => ?_)
        · simp at h8
          obtain ⟨x, ex⟩ := get_lt (show j < o.length by omega)
          obtain ⟨i, rfl, hi⟩ := ho2 x (List.mem_of_getElem? ex)
          obtain ⟨y, ey⟩ := get_lt (show j < cols.length by omega)
          have hi2 : i < (nowN l cols o j).length := by omega
          obtain ⟨p, ep⟩ := get_lt hi2
          have hjc : j < cols.length := by omega
          have hjo : j < o.length := by omega
          have hnow : nowN l cols o (j + 1) = (nowN l cols o j).set i ⟨p.row, y⟩ := by simp [nowN, ex, ey, plcAt, ep]
          simp
          refine XDraw.intro (by kernel_rfl) ?_
          simp [h6, eo, ex, ey, hi, hi2, hnl, ep, hjc, hjo, Ints.enc1, -getElem?_pos, List.getElem?_cons_zero, List.getElem?_cons_succ]
          refine ⟨.of (by kernel_rfl), wrap_i64 (by omega) (by omega), j + 1, by omega, by omega, ?_⟩
          rw [hnow, set_rowP]
          refine Leads.subx (ρ := [0, 1]) ?_
          generalize (nowN l cols o j).set i ⟨p.row, y⟩ = m2
          simp
        simp at h8
        have hjl : j = o.length := by omega
        subst hjl
        have hm := @nowN_near l cols o hL.near hcm o.length
        have hSn := c_pneumaticref25_Sum c (nowN l cols o o.length) hc (by rw [nowN_len, hL.len]) hm
        simp
        refine XDraw.intro (by kernel_rfl) ?_
        have hml : (nowN l cols o o.length).length = l.length := nowN_len
        have hbs := fun h => bst_first (c := c) (l := l) (cols := cols) (os := os) (o := o) h
        have hbt := fun h => bst_take (c := c) (k := k) hL.near hcm eo h
        generalize nowN l cols o o.length = m at hm hSn hml hbs hbt ⊢
        have htk : List.take l.length (List.map Plc.row_ m) = List.map Plc.row_ m := List.take_of_length_le (by simp [hml])
        by_cases hk0 : k = 0
        · subst hk0
          have hbs := hbs eo
          simp
          refine ⟨.of (by kernel_rfl), 1, by omega, by omega, ?_⟩
          rw [hbs]
          refine Leads.frz_sub (B := [1]) (ρ := [0]) [(12, .p (.lst 2 (m.map Plc.enc)))] [(1, none)] (Freeze.of _ _ ?_ (by simp) (by simp [keys])) ?_
          · intro p hp
            simp only [List.mem_cons, List.not_mem_nil, or_false] at hp
            subst hp
            exact FrzK.refRows (rows := m.map Plc.row_) (by simp) (by simp [get]) (by rw [List.drop_zero, List.take_of_length_le (by simp [hml]), List.map_map]; rfl) (by simpa using hml)
          · simp
        · have hbt := hbt (by omega)
          obtain ⟨hb1, hb2⟩ := bst_ok (c := c) (os := os) hL.near hcm (show 0 < k by omega) hk
          have hSb := c_pneumaticref25_Sum c (bstL c l cols os k) hc (by rw [hb2, hL.len]) hb1
          simp [hk0]
          refine xcall_lent ?_
          simp [hml, htk]
          refine ⟨_, hSn, rfl, ?_⟩
          refine xcall_pure hSb ?_
          simp
          refine ⟨.of (by kernel_rfl), ?_⟩
          refine xif_split (fun h9 => ?_) (fun h9 => ?_)
          · simp at h9
            rw [if_pos h9] at hbt
            simp
            refine ⟨wrap_i64 (by omega) (by omega), k + 1, by omega, by omega, ?_⟩
            rw [hbt]
            refine Leads.frz_sub (B := [1]) (ρ := [0]) [(12, .p (.lst 2 (m.map Plc.enc)))] [(1, none)] (Freeze.of _ _ ?_ (by simp) (by simp [keys])) ?_
            · intro p hp
              simp only [List.mem_cons, List.not_mem_nil, or_false] at hp
              subst hp
              exact FrzK.refRows (rows := m.map Plc.row_) (by simp) (by simp [get]) (by rw [List.drop_zero, List.take_of_length_le (by simp [hml]), List.map_map]; rfl) (by simpa using hml)
            · simp
          · simp at h9
            rw [if_neg (by omega)] at hbt
            simp
            refine ⟨wrap_i64 (by omega) (by omega), k + 1, by omega, by omega, ?_⟩
            rw [hbt]
            refine Leads.subx (ρ := [0]) ?_
            simp
    simp at h6
    have hkl : k = os.length := by omega
    subst hkl
    have hfin : bstL c l cols os os.length = (os.foldl (arrStep c l cols) ⟨l, -1⟩).b := by
      unfold bstL bstG
      rw [if_neg (by omega), List.take_length]
    simp [XEndT, e1, e2, hfin]
  · simp at hr
    simp [hr]
    simp [XEndT, hbad (.inl hr)]
end Go.Am
