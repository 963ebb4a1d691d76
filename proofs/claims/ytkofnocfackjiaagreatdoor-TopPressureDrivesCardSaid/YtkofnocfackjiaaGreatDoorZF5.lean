/- Lemmas and contracts for the proof of a statement of this seat. -/
import Derived.Test.YtkofnocfackjiaaGreatDoorZF4
import Derived.Test.YtkofnocfackjiaaGreatDoorZF3
import Derived.Test.YtkofnocfackjiaaGreatDoorZF2
import Derived.Test.YtkofnocfackjiaaGreatDoorZCX
import Derived.Test.YtkofnocfackjiaaGreatDoorZC7
import Derived.Test.YtkofnocfackjiaaGreatDoorZA8
import Derived.Test.YtkofnocfackjiaaGreatDoorZA6
set_option linter.unusedVariables false
set_option linter.unusedSimpArgs false
/- Contracts: label.Groups; chapter 26. -/
namespace Go.Am
open Go Go.Proofs Go.Pn

def itP (c : Circuit) (k : Nat) : List Int := iterT (fun i => actK c (i : Int)) c.parts.length (firstT c 64 c.parts.length) k
def nxP (c : Circuit) (g : List Int) (i : Nat) : List Int := nextT (fun i => actK c (i : Int)) g i
theorem itP_len {c : Circuit} {k : Nat} : (itP c k).length = 64 := by unfold itP; rw [iterT_len, firstT_len]
theorem itP_lo {c : Circuit} {k : Nat} : ∀ x ∈ itP c k, -1 ≤ x := iterT_lo firstT_lo
theorem itP_next {c : Circuit} {k : Nat} : nxP c (itP c k) c.parts.length = itP c (k + 1) := rfl
theorem itP_none {c : Circuit} {k : Nat} (hp : ∀ j, j < k → itP c (j + 1) ≠ itP c j) : k ≤ 64 := by
  have h1 := @iter_none (fun i => actK c (i : Int)) c.parts.length (firstT c 64 c.parts.length) k hp
  have h2 := @noneN_len (firstT c 64 c.parts.length)
  rw [firstT_len] at h2
  omega
theorem itP_end {c : Circuit} (hn : c.parts.length ≤ 64) {k : Nat} (hp : ∀ j, j < k → itP c (j + 1) ≠ itP c j) (he : itP c (k + 1) = itP c k) : itP c k = padT (rawG c) 64 := by
  rw [← end_act hn]
  exact end_of hp he
theorem actK_range {c : Circuit} {i : Nat} (hi : i < c.parts.length) {x : Int} (hx : x ∈ actK c i) : 0 ≤ x ∧ x < c.parts.length :=
  dirL_range ⟨by omega, by omega⟩ (mem_actK.1 hx)
theorem nA_ok {g : List Int} : ∀ x ∈ g.map nA, (match x with
    | AV.agg _ => false
    | AV.tup _ => false
    | AV.any => false
    | _ => true) = true := by
  intro x hx
  obtain ⟨i, _, rfl⟩ := List.mem_map.1 hx
  rfl
def zeros : List AV := List.replicate 64 (.p (.int .i64 0))
def actRow (c : Circuit) : List AV := (tabP (actR c)).map fun l => .p (.lst 1 l)
theorem actRow_len {c : Circuit} : (actRow c).length = 64 := by simp [actRow, tabP]
theorem actRow_at {c : Circuit} (h : checkP c = 0) {i : Nat} (hi : i < c.parts.length) (hn : c.parts.length ≤ 64) : (actRow c)[i]? = some (.p (.lst 1 ((actK c i).map fun x => [PV.int .i64 x]))) := by
  have : i < 64 := by omega
  simp [actRow, tabP, this, actR, h, hi]
theorem actRow_ok {c : Circuit} : ∀ x ∈ actRow c, (match x with
    | AV.agg _ => false
    | AV.tup _ => false
    | AV.any => false
    | _ => true) = true := by
  intro x hx
  obtain ⟨i, _, rfl⟩ := List.mem_map.1 hx
  rfl
@[simp] theorem actRow_ren {c : Circuit} {ρ : List Nat} : renL ρ (actRow c) = some (actRow c) := by
  refine renL_pure ?_
  unfold actRow
  induction tabP (actR c) with
  | nil => rfl
  | cons i l ih => rw [List.map_cons, pureL, ih]; rfl
theorem nA_okI {g : List Int} : ∀ x ∈ g, (match nA x with
    | AV.agg _ => false
    | AV.tup _ => false
    | AV.any => false
    | _ => true) = true := fun _ _ => rfl
theorem actK_len {c : Circuit} {i : Nat} (h : checkP c = 0) : (actK c i).length ≤ 1500000 := by
  have h2 := check_parts h
  have h3 := outP_len (k := (allP c).length) (i := i) (allP_len h2.1 (by omega))
  have h4 : ((limL c i).filter fun x => decide (0 ≤ x)).length ≤ 2 := by
    refine Nat.le_trans (List.length_filter_le ..) ?_
    unfold limL; split <;> simp
  unfold outP at h3
  rw [List.take_length] at h3
  unfold actK
  rw [List.length_append]
  omega
theorem eqI_ints {y : TyI} (h1 : y.agg = false) (h2 : y.size = 1) {eq : AV → AV → Option Bool} (heq : ∀ a b, eq (.p (.int .i64 a)) (.p (.int .i64 b)) = some (decide (a = b))) {g h : List Int} (hg : ∀ x ∈ g, -1 ≤ x) (hh : ∀ x ∈ h, -1 ≤ x) :
    ∀ (is : List Nat), (∀ i ∈ is, i < g.length ∧ i < h.length) → eqI eq y (g.map nA) (h.map nA) is = some (decide (∀ i ∈ is, g[i]? = h[i]?))
  | [], _ => by simp [eqI]
  | i :: is, hi => by
    obtain ⟨a, ea⟩ := get_lt (hi i (by simp)).1
    obtain ⟨b, eb⟩ := get_lt (hi i (by simp)).2
    have ih := eqI_ints h1 h2 heq hg hh is fun j hj => hi j (by simp [hj])
    have ha := hg a (List.mem_of_getElem? ea)
    have hb := hh b (List.mem_of_getElem? eb)
    have e1 : (g.map nA)[i]? = some (.p (.int .i64 (toN a))) := by rw [List.getElem?_map, ea]; rfl
    have e2 : (h.map nA)[i]? = some (.p (.int .i64 (toN b))) := by rw [List.getElem?_map, eb]; rfl
    have hiff : toN a = toN b ↔ a = b := ⟨toN_inj ha hb, fun h => by rw [h]⟩
    simp only [eqI, partA, h1, h2, Nat.mul_one, Bool.false_eq_true, if_false, e1, e2, Option.bind_some, heq, ih, Option.map_some, Option.some.injEq]
    simp only [List.mem_cons, forall_eq_or_imp, ea, eb, Option.some.injEq]
    by_cases hab : a = b <;> simp [hab, hiff]
theorem rows_eq {g h : List Int} (hgl : g.length = 64) (hhl : h.length = 64) (hg : ∀ x ∈ g, -1 ≤ x) (hh : ∀ x ∈ h, -1 ≤ x) (f : Bool → Prop) (k : f (decide (g = h))) : VEq Tryz.prog 99 (g.map nA) (h.map nA) f := by
  refine ⟨by kernel_rfl, ?_⟩
  have e : eqA Tryz.prog 8 99 (.agg (g.map nA)) (.agg (h.map nA)) = some (decide (g = h)) := by
    have hty : ∃ y, tyOf Tryz.prog 3 = some y ∧ y.agg = false ∧ y.size = 1 := ⟨_, ty3, rfl, rfl⟩
    obtain ⟨y, e1, e2, e3⟩ := hty
    have hu : Tryz.prog.underlying 99 = some (.array 64 3) := by kernel_rfl
    unfold eqA
    rw [hu]
    simp only [e1, Option.bind_some]
    rw [eqI_ints e2 e3 (fun a b => by unfold eqA; rw [show Tryz.prog.underlying 3 = some (.int .i64) by kernel_rfl]; simp) hg hh (List.range 64) (fun i hi => by rw [List.mem_range] at hi; omega)]
    refine congrArg some (decide_eq_decide.2 ?_)
    constructor
    · intro h
      apply List.ext_getElem?
      intro i
      by_cases hi : i < 64
      · exact h i (by simp [hi])
      · rw [List.getElem?_eq_none (by omega), List.getElem?_eq_none (by omega)]
    · rintro rfl _ _; rfl
  rw [e]
  exact k
def upG (c : Circuit) (k : Nat) : List Int := (groupsL c).take k
theorem upG_zero {c : Circuit} : upG c 0 = [] := rfl
def rowM (l : List Int) (i : Nat) (m : Int) : List Int := l.set i m
theorem rowM_len {l : List Int} {i : Nat} {m : Int} : (rowM l i m).length = l.length := List.length_set
theorem rowM_at {l : List Int} {i : Nat} {m : Int} (h : i < l.length) : (rowM l i m)[i]? = some m := List.getElem?_set_self h
theorem rowM_set {l : List Int} {i : Nat} {m y : Int} (hy : y ≠ -1) : ((rowM l i m).map nA).set i (.p (.int .i64 y)) = (rowM l i y).map nA := by
  rw [show AV.p (.int .i64 y) = nA y by unfold nA; rw [toN_ne hy], ← List.map_set]
  unfold rowM
  rw [List.set_set]

set_option maxRecDepth 20000 in
theorem c_label_Groups (c : Circuit) (hs : Sized c) : Pure Tryz.prog GL 15 [c.av] (.tup [.p (.lst 1 ((if checkP c = 0 then groupsL c else []).map Int.enc)), .p (.int .i64 (checkP c))]) := by
  refine Pure.of_walk (N := 85) Tryz.func15 rfl rfl rfl (by simp) (by first | (simp; done) | simp [*]) ?_
  have hD := c_label_direct c hs
  simp
  refine xcall_pure hD ?_
  rw [show List.map (fun l => AV.p (PV.lst 1 l)) (tabP (actR c)) = actRow c from rfl]
  have hal := @actRow_len c
  by_cases h : checkP c = 0
  · have h2 := check_parts h
    have hn : c.parts.length ≤ 64 := h2.2.1
    have hF := c_label_first c hs h
    have hfl := @firstT_len c 64 c.parts.length
    simp [h, hal]
    rw [show ([AV.nils, AV.nils, AV.nils, AV.nils, AV.nils, AV.nils, AV.nils, AV.nils, AV.nils, AV.nils, AV.nils, AV.nils, AV.nils, AV.nils, AV.nils, AV.nils, AV.nils, AV.nils, AV.nils, AV.nils, AV.nils, AV.nils, AV.nils, AV.nils, AV.nils, AV.nils, AV.nils, AV.nils, AV.nils, AV.nils, AV.nils, AV.nils, AV.nils, AV.nils, AV.nils, AV.nils, AV.nils, AV.nils, AV.nils, AV.nils, AV.nils, AV.nils, AV.nils, AV.nils, AV.nils, AV.nils, AV.nils, AV.nils, AV.nils, AV.nils, AV.nils, AV.nils, AV.nils, AV.nils, AV.nils, AV.nils, AV.nils, AV.nils, AV.nils, AV.nils, AV.nils, AV.nils, AV.nils, AV.nils] : List AV) = nilRow from rfl, lay_whole nilRow (actRow c) (by rw [hal]; rfl)]
    refine ⟨actRow_ok, ?_⟩
    refine xcall_pure hF ?_
    simp [hfl]
    rw [show ([AV.p (.int .i64 0), AV.p (.int .i64 0), AV.p (.int .i64 0), AV.p (.int .i64 0), AV.p (.int .i64 0), AV.p (.int .i64 0), AV.p (.int .i64 0), AV.p (.int .i64 0), AV.p (.int .i64 0), AV.p (.int .i64 0), AV.p (.int .i64 0), AV.p (.int .i64 0), AV.p (.int .i64 0), AV.p (.int .i64 0), AV.p (.int .i64 0), AV.p (.int .i64 0), AV.p (.int .i64 0), AV.p (.int .i64 0), AV.p (.int .i64 0), AV.p (.int .i64 0), AV.p (.int .i64 0), AV.p (.int .i64 0), AV.p (.int .i64 0), AV.p (.int .i64 0), AV.p (.int .i64 0), AV.p (.int .i64 0), AV.p (.int .i64 0), AV.p (.int .i64 0), AV.p (.int .i64 0), AV.p (.int .i64 0), AV.p (.int .i64 0), AV.p (.int .i64 0), AV.p (.int .i64 0), AV.p (.int .i64 0), AV.p (.int .i64 0), AV.p (.int .i64 0), AV.p (.int .i64 0), AV.p (.int .i64 0), AV.p (.int .i64 0), AV.p (.int .i64 0), AV.p (.int .i64 0), AV.p (.int .i64 0), AV.p (.int .i64 0), AV.p (.int .i64 0), AV.p (.int .i64 0), AV.p (.int .i64 0), AV.p (.int .i64 0), AV.p (.int .i64 0), AV.p (.int .i64 0), AV.p (.int .i64 0), AV.p (.int .i64 0), AV.p (.int .i64 0), AV.p (.int .i64 0), AV.p (.int .i64 0), AV.p (.int .i64 0), AV.p (.int .i64 0), AV.p (.int .i64 0), AV.p (.int .i64 0), AV.p (.int .i64 0), AV.p (.int .i64 0), AV.p (.int .i64 0), AV.p (.int .i64 0), AV.p (.int .i64 0), AV.p (.int .i64 0)] : List AV) = zeros from rfl, lay_whole zeros ((firstT c 64 c.parts.length).map nA) (by rw [List.length_map, hfl]; rfl)]
    refine ⟨nA_okI, ?_⟩
    refine XLoop.go [1, 4, 6] [0, 1] 0 [] (fun _ => []) (fun _ (_ : Nat) => []) (fun _ k => [(2, some (.cells 64 [(itP c k).map nA]))]) (fun k => ∀ j, j < k → itP c (j + 1) ≠ itP c j) (fun k => 64 - k) 0 (fun j hj => by omega) ?_ ?_
    · simp
      exact wknL_refl _
    intro k hk
    have hil := @itP_len c k
    have hlo := @itP_lo c k
    have hnx := @itP_next c k
    have hend := @itP_end c hn k hk
    have hkn := itP_none hk
    generalize hg : itP c k = g at *
    have hml : (List.map nA g).length = 64 := by rw [List.length_map, hil]
    have ht : List.take 64 (List.map nA g) = List.map nA g := List.take_of_length_le (by omega)
    simp [hil, ht]
    rw [show ([AV.p (.int .i64 0), AV.p (.int .i64 0), AV.p (.int .i64 0), AV.p (.int .i64 0), AV.p (.int .i64 0), AV.p (.int .i64 0), AV.p (.int .i64 0), AV.p (.int .i64 0), AV.p (.int .i64 0), AV.p (.int .i64 0), AV.p (.int .i64 0), AV.p (.int .i64 0), AV.p (.int .i64 0), AV.p (.int .i64 0), AV.p (.int .i64 0), AV.p (.int .i64 0), AV.p (.int .i64 0), AV.p (.int .i64 0), AV.p (.int .i64 0), AV.p (.int .i64 0), AV.p (.int .i64 0), AV.p (.int .i64 0), AV.p (.int .i64 0), AV.p (.int .i64 0), AV.p (.int .i64 0), AV.p (.int .i64 0), AV.p (.int .i64 0), AV.p (.int .i64 0), AV.p (.int .i64 0), AV.p (.int .i64 0), AV.p (.int .i64 0), AV.p (.int .i64 0), AV.p (.int .i64 0), AV.p (.int .i64 0), AV.p (.int .i64 0), AV.p (.int .i64 0), AV.p (.int .i64 0), AV.p (.int .i64 0), AV.p (.int .i64 0), AV.p (.int .i64 0), AV.p (.int .i64 0), AV.p (.int .i64 0), AV.p (.int .i64 0), AV.p (.int .i64 0), AV.p (.int .i64 0), AV.p (.int .i64 0), AV.p (.int .i64 0), AV.p (.int .i64 0), AV.p (.int .i64 0), AV.p (.int .i64 0), AV.p (.int .i64 0), AV.p (.int .i64 0), AV.p (.int .i64 0), AV.p (.int .i64 0), AV.p (.int .i64 0), AV.p (.int .i64 0), AV.p (.int .i64 0), AV.p (.int .i64 0), AV.p (.int .i64 0), AV.p (.int .i64 0), AV.p (.int .i64 0), AV.p (.int .i64 0), AV.p (.int .i64 0), AV.p (.int .i64 0)] : List AV) = zeros from rfl, lay_whole zeros (List.map nA g) (by rw [List.length_map, hil]; rfl)]
    refine ⟨nA_okI, ?_⟩
    refine XLoop.go [1, 4, 6, 7, 27] [0, 1, 2] 0 [] (fun _ => []) (fun _ (i : Nat) => [(28, .p (.int .i64 i))]) (fun _ i => [(3, some (.cells 64 [(nxP c g i).map nA]))]) (fun i => i ≤ c.parts.length) (fun i => c.parts.length - i) 0 (by omega) ?_ ?_
    · simp [nxP, nextT_zero]
      try decide
    intro i hi
    have hnl : (nxP c g i).length = 64 := by unfold nxP; rw [nextT_len, hil]
    have hst := @nextT_step (fun i => actK c (i : Int)) g i
    rw [show nextT (fun i => actK c (i : Int)) g (i + 1) = nxP c g (i + 1) from rfl, show nextT (fun i => actK c (i : Int)) g i = nxP c g i from rfl] at hst
    simp
    refine xif_split (fun h3 => ?_) (fun h3 => ?_)
    · simp at h3
      have hi64 : i < 64 := by omega
      have hst := hst (by omega)
      obtain ⟨x, ex⟩ := get_lt (show i < g.length by omega)
      have hxl := hlo x (List.mem_of_getElem? ex)
      rw [gAt_nat ex] at hst
      have har := actRow_at h (show i < c.parts.length by omega) hn
      have hnax : nA x = .p (.int .i64 (toN x)) := rfl
      simp [h3, ex, hil, hi64, hnax, -getElem?_pos, List.getElem?_cons_zero, List.getElem?_cons_succ]
      refine ⟨by omega, ?_⟩
      by_cases hx : x = -1
      · rw [if_pos hx] at hst
        subst hx
        have hnx : (nxP c g i)[i]? = some (-1) := by unfold nxP; rw [nextT_at (by omega), if_neg (by omega), gAt_nat ex]
        have hset : rowM (nxP c g i) i (minG g ((actK c i).take 0) (-1)) = nxP c g i := by
          unfold rowM
          rw [List.take_zero]
          apply List.ext_getElem?
          intro j
          by_cases hj : i = j
          · subst hj; rw [List.getElem?_set_self (by omega), hnx]; rfl
          · rw [List.getElem?_set_ne hj]
        have hAl := @actK_len c i h
        have hAr := fun {y : Int} => @actK_range c i (by omega) y
        generalize actK c (i : Int) = A at *
        simp [hi64, hil, har, hal, toN_none, -getElem?_pos, List.getElem?_cons_zero, List.getElem?_cons_succ]
        refine ⟨by omega, ?_⟩
        refine XLoop.go [1, 4, 6, 7, 8, 27, 28, 37, 38] [0, 1, 2] 0 [] (fun _ => []) (fun _ (j : Nat) => [(39, .p (.int .i64 j))]) (fun _ j => [(3, some (.cells 64 [(rowM (nxP c g i) i (minG g (A.take j) (-1))).map nA]))]) (fun j => j ≤ A.length) (fun j => A.length - j) 0 (by omega) ?_ ?_
        · rw [hset]
          simp
          exact List.nodup_range
        intro j hj
        have hr4 : List.range 4 = [0, 1, 2, 3] := rfl
        have hm1 := @minG_one g (A.take j)
        have hms := fun {k : Int} => @minG_snoc g k (A.take j) (-1)
        have hat : (rowM (nxP c g i) i (minG g (A.take j) (-1)))[i]? = some (minG g (A.take j) (-1)) := rowM_at (by omega)
        have hrl := (@rowM_len (nxP c g i) i (minG g (A.take j) (-1))).trans hnl
        have hss := fun {y : Int} => @rowM_set (nxP c g i) i (minG g (A.take j) (-1)) y
        generalize hm : minG g (A.take j) (-1) = m at *
        have hnaM : nA m = .p (.int .i64 (toN m)) := rfl
        simp
        refine xif_split (fun h4 => ?_) (fun h4 => ?_)
        · simp at h4
          obtain ⟨a, ea⟩ := get_lt h4
          have har := hAr (List.mem_of_getElem? ea)
          obtain ⟨y, ey⟩ := get_lt (show a.toNat < g.length by omega)
          have hyl := hlo y (List.mem_of_getElem? ey)
          have hga : gAt g a = y := by unfold gAt; rw [ey]
          have hms := @hms a
          rw [hga] at hms
          have hts : A.take (j + 1) = A.take j ++ [a] := take_snoc ea
          have hnaY : nA y = .p (.int .i64 (toN y)) := rfl
          rw [← hts] at hms
          by_cases hy1 : 1 ≤ y
          · have hty : toN y = y := toN_ne (by omega)
            by_cases hm0 : m = -1
            · subst hm0
              rw [if_pos ⟨hy1, .inl rfl⟩] at hms
              simp [h4, ea, ey, hil, hr4, hnaY, hi64, hnl, hrl, hty, hy1, hat, hnaM, toN_none, -getElem?_pos, List.getElem?_cons_zero, List.getElem?_cons_succ]
              exact ⟨by omega, by omega, by omega, by omega, wrap_i64 (by omega) (by omega), j + 1, by omega, by omega, by omega, by rw [hms, hss (by omega)]; exact wknL_refl _⟩
            · have htm : toN m = m := toN_ne hm0
              have hm9 : ¬ m = -1099511627776 := by have := hm1 hm0; omega
              by_cases hlt : y < m
              · rw [if_pos ⟨hy1, .inr hlt⟩] at hms
                simp [h4, ea, ey, hil, hr4, hnaY, hi64, hnl, hrl, hty, hy1, hat, hnaM, htm, hlt, hm9, -getElem?_pos, List.getElem?_cons_zero, List.getElem?_cons_succ]
                exact ⟨by omega, by omega, by omega, by omega, wrap_i64 (by omega) (by omega), j + 1, by omega, by omega, by omega, by rw [hms, hss (by omega)]; exact wknL_refl _⟩
              · rw [if_neg (by omega)] at hms
                simp [h4, ea, ey, hil, hr4, hnaY, hi64, hnl, hrl, hty, hy1, hat, hnaM, htm, hlt, hm9, -getElem?_pos, List.getElem?_cons_zero, List.getElem?_cons_succ]
                exact ⟨by omega, by omega, by omega, wrap_i64 (by omega) (by omega), j + 1, by omega, by omega, by omega, by rw [hms]; exact wknL_refl _⟩
          · rw [if_neg (by omega)] at hms
            have hty : ¬ 1 ≤ toN y := by unfold toN; split <;> omega
            simp [h4, ea, ey, hil, hr4, hnaY, hi64, hnl, hrl, hty, -getElem?_pos, List.getElem?_cons_zero, List.getElem?_cons_succ]
            exact ⟨by omega, by omega, wrap_i64 (by omega) (by omega), j + 1, by omega, by omega, by omega, by rw [hms]; exact wknL_refl _⟩
        · simp at h4
          have hj2 : j = A.length := by omega
          subst hj2
          rw [List.take_length] at hm
          simp [hr4]
          exact ⟨wrap_i64 (by omega) (by omega), i + 1, by omega, by omega, by omega, by rw [hst, ← hm]; exact wknL_refl _⟩
      · rw [if_neg hx] at hst
        have hne : ¬ toN x = -1099511627776 := by rw [toN_ne hx]; omega
        simp [hne]
        exact ⟨wrap_i64 (by omega) (by omega), i + 1, by omega, by omega, by omega, by rw [hst]; exact ⟨wknL_refl _, List.nodup_range⟩⟩
    · simp at h3
      have hk2 : i = c.parts.length := by omega
      subst hk2
      have hnlo : ∀ x ∈ nxP c g c.parts.length, -1 ≤ x := nextT_lo hlo
      have ht2 : List.take 64 (List.map nA (nxP c g c.parts.length)) = List.map nA (nxP c g c.parts.length) := List.take_of_length_le (by rw [List.length_map]; omega)
      simp [hnl, hil, ht, ht2]
      refine rows_eq hnl hil hnlo hlo _ ?_
      rw [hnx] at hnl hnlo ht2 ⊢
      by_cases he : itP c (k + 1) = g
      · have hend := hend he
        simp [he]
        have hgat : ∀ {i : Nat} {x : Int}, (rawG c)[i]? = some x → g[i]? = some x := fun {i x} e => by
          have hi := (List.getElem?_eq_some_iff.1 e).1
          rw [rawG_len] at hi
          rw [hend, padT_at (by omega), gAt_nat e]
        refine XLoop.go [6, 72] [2] 1 [4] (nms [12]) (fun nx (k : Nat) => [(12, .acc nx 1 (upG c k).length), (73, .p (.int .i64 k))]) (fun nx k => [(nx, accB 1 ((upG c k).map rowI))]) (fun k => k ≤ c.parts.length) (fun k => c.parts.length - k) 0 (by omega) ?_ ?_
        · simp [upG_zero]
          try decide
        intro m hm
        have hgl := @groupsL_len c
        have hrl := @rawG_len c
        simp
        refine xif_split (fun h5 => ?_) (fun h5 => ?_)
        · simp at h5
          obtain ⟨x, ex⟩ := get_lt (show m < (rawG c).length by omega)
          have ex2 := hgat ex
          have hxl := hlo x (List.mem_of_getElem? ex2)
          have hmx : max (toN x) 0 = max x 0 := by unfold toN; split <;> omega
          have hts : upG c (m + 1) = upG c m ++ [max x 0] := by
            refine take_snoc ?_
            unfold groupsL
            rw [List.getElem?_map, ex]; rfl
          have htl : (upG c m).length = m := by unfold upG; rw [List.length_take]; omega
          have hrm : ∀ r ∈ (upG c m).map rowI, r.length = 1 := fun r hr => by obtain ⟨_, _, rfl⟩ := List.mem_map.1 hr; rfl
          have hr4 : List.range 4 = [0, 1, 2, 3] := rfl
          have hnaX : nA x = .p (.int .i64 (toN x)) := rfl
          have hm64 : m < 64 := by omega
          simp [h5, ex2, hnaX, hmx, hil, htl, hm64, hr4, -getElem?_pos, List.getElem?_cons_zero, List.getElem?_cons_succ]
          refine ⟨by omega, by omega, fun _ _ => rfl, wrap_i64 (by omega) (by omega), m + 1, by omega, by omega, ⟨by rw [hts, List.length_append, htl]; rfl, by omega⟩, ?_⟩
          rw [hts, List.map_append]
          simp [rowI]
        · simp at h5
          have hm2 : m = c.parts.length := by omega
          subst hm2
          have htg : upG c c.parts.length = groupsL c := by unfold upG; rw [← hgl, List.take_length]
          simp [XEndT, h, htg]
          exact fun _ _ => rfl
      · have hk1 : k + 1 ≤ 64 := itP_none fun j hj => by
          by_cases hjk : j = k
          · subst hjk; rw [hg]; exact he
          · exact hk j (by omega)
        simp [he, hnl, hil, ht2]
        refine ⟨nA_okI, k + 1, fun j hj => ?_, by omega, ?_⟩
        · by_cases hjk : j = k
          · subst hjk; rw [hg]; exact he
          · exact hk j (by omega)
        · rw [lay_whole _ _ (by rw [List.length_map, List.length_map, hnl, hil])]
          exact wknL_refl _
  · simp [h, hal, XEndT]
    exact actRow_ok
end Go.Am
/- Contracts: label.Labels, text, Format; chapter 26. -/
namespace Go.Am
open Go Go.Proofs Go.Pn

theorem letter_is {k : Nat} (h : k < 14) : letterOf k = letterN k := by
  rcases (by omega : k = 0 ∨ k = 1 ∨ k = 2 ∨ k = 3 ∨ k = 4 ∨ k = 5 ∨ k = 6 ∨ k = 7 ∨ k = 8 ∨ k = 9 ∨ k = 10 ∨ k = 11 ∨ k = 12 ∨ k = 13) with rfl|rfl|rfl|rfl|rfl|rfl|rfl|rfl|rfl|rfl|rfl|rfl|rfl|rfl <;> rfl
theorem keyLbl : KeyOk Tryz.prog 24 IsISI := keyISI (by kernel_rfl) (fun w em n s m => by kernel_rfl) (fun n m s t a b => by rw [eq24]; simp [Bool.decide_and])
def keyA (y : Int × Txt) : AV := .agg [.p (.int .i64 y.1), .p (.str y.2), .p (.int .i64 0)]
theorem keyA_inj {y z : Int × Txt} : keyA y = keyA z ↔ y = z := by
  unfold keyA
  constructor
  · intro h
    simp only [AV.agg.injEq, List.cons.injEq, AV.p.injEq, PV.int.injEq, PV.str.injEq] at h
    exact Prod.ext h.1.2 h.2.1
  · rintro rfl; rfl
open Classical in
theorem assocA_setA {x v y : AV} : ∀ {es : List (AV × AV)}, assocA (setA es x v) y = if x = y then some v else assocA es y
  | [] => by
    rw [setA, assocA_cons]
  | (k, u) :: es => by
    rw [setA]
    by_cases h : k = x
    · rw [if_pos h, assocA_cons, assocA_cons]
      by_cases h2 : x = y
      · rw [if_pos h2, if_pos h2]
      · rw [if_neg h2, if_neg h2, if_neg (fun h3 => h2 (h.symm.trans h3))]
    · rw [if_neg h, assocA_cons, assocA_cons, assocA_setA]
      by_cases h2 : k = y
      · rw [if_pos h2, if_pos h2, if_neg (fun h3 => h (h2.trans h3.symm))]
      · rw [if_neg h2, if_neg h2]
theorem setA_keys {K : AV → Prop} {x v : AV} (hx : K x) : ∀ {es : List (AV × AV)}, (∀ e ∈ es, K e.1) → ∀ e ∈ setA es x v, K e.1
  | [], _, e, he => by
    rw [setA, List.mem_singleton] at he
    subst he; exact hx
  | (k, u) :: es, h, e, he => by
    rw [setA] at he
    split at he
    · rcases List.mem_cons.1 he with rfl | he
      · exact hx
      · exact h e (List.mem_cons_of_mem _ he)
    · rcases List.mem_cons.1 he with rfl | he
      · exact h (k, u) (by simp)
      · exact setA_keys hx (fun e he => h e (List.mem_cons_of_mem _ he)) e he
theorem assocA_tail {es : List (AV × AV)} {x z : AV} (h : assocA es x = none) : assocA (es ++ [(x, z)]) x = some z := by
  induction es with
  | nil => rw [List.nil_append, assocA_cons, if_pos rfl]
  | cons e es ih =>
    rw [assocA_cons] at h
    rw [List.cons_append, assocA_cons]
    by_cases he : e.1 = x
    · rw [if_pos he] at h; cases h
    · rw [if_neg he] at h
      rw [if_neg he, ih h]
theorem entA_assoc {es : List (AV × AV)} {x z : AV} : assocA (entA es x z) x = some ((assocA es x).getD z) := by
  unfold entA
  cases h : assocA es x with
  | none => exact assocA_tail h
  | some v => exact h
theorem entA_keys {K : AV → Prop} {es : List (AV × AV)} {x z : AV} (h : ∀ e ∈ es, K e.1) (hx : K x) : ∀ e ∈ entA es x z, K e.1 := by
  intro e he
  unfold entA at he
  split at he
  · exact h e he
  · rcases List.mem_append.1 he with he | he
    · exact h e he
    · rw [List.mem_singleton] at he; subst he; exact hx
noncomputable def cntE (c : Circuit) : Nat → List (AV × AV)
  | 0 => []
  | k + 1 => setA (cntE c k) (keyA (keyG c k)) (.p (.int .i64 ((cntG c (keyG c k) k : Nat) + 1)))
theorem cntE_at {c : Circuit} {y : Int × Txt} : ∀ {k : Nat}, assocA (cntE c k) (keyA y) = if cntG c y k = 0 then none else some (.p (.int .i64 (cntG c y k : Nat)))
  | 0 => by rw [if_pos (by simp [cntG])]; rfl
  | k + 1 => by
    rw [cntE, assocA_setA, cntE_at, cntG_step]
    by_cases h : keyG c k = y
    · rw [if_pos (keyA_inj.2 h), if_pos h, if_neg (by omega), h]
      simp
    · rw [if_neg (fun h2 => h (keyA_inj.1 h2)), if_neg h]
      simp
theorem cntE_isi {c : Circuit} : ∀ {k : Nat}, ∀ e ∈ cntE c k, IsISI e.1
  | 0, _, he => by cases he
  | k + 1, e, he => setA_keys (K := IsISI) ⟨_, _, _, rfl⟩ cntE_isi e he
theorem setA_all {K : AV × AV → Prop} {x v : AV} (hx : K (x, v)) : ∀ {es : List (AV × AV)}, (∀ e ∈ es, K e) → ∀ e ∈ setA es x v, K e
  | [], _, e, he => by
    rw [setA, List.mem_singleton] at he
    subst he; exact hx
  | (k, u) :: es, h, e, he => by
    rw [setA] at he
    split at he
    · rcases List.mem_cons.1 he with rfl | he
      · exact hx
      · exact h e (List.mem_cons_of_mem _ he)
    · rcases List.mem_cons.1 he with rfl | he
      · exact h (k, u) (by simp)
      · exact setA_all hx (fun e he => h e (List.mem_cons_of_mem _ he)) e he
theorem cntE_pure {c : Circuit} : ∀ {k : Nat}, ∀ e ∈ cntE c k, pureA e.1 = true ∧ pureA e.2 = true
  | 0, _, he => by cases he
  | k + 1, e, he => setA_all (K := fun e => pureA e.1 = true ∧ pureA e.2 = true) ⟨rfl, rfl⟩ cntE_pure e he
theorem renE_pure' {ρ : List Nat} : ∀ {es : List (AV × AV)}, (∀ e ∈ es, pureA e.1 = true ∧ pureA e.2 = true) → renE ρ es = some es
  | [], _ => rfl
  | e :: es, h => by
    obtain ⟨h1, h2⟩ := h e (by simp)
    rw [renE, renA_pure.1 _ h1, renA_pure.1 _ h2, renE_pure' fun e he => h e (List.mem_cons_of_mem _ he)]
    rfl
@[simp] theorem ren_cntE {c : Circuit} {k : Nat} {ρ : List Nat} : renE ρ (cntE c k) = some (cntE c k) := renE_pure' cntE_pure
@[simp] theorem keys_cntE {c : Circuit} {k : Nat} {a : Int} {s : Txt} : KeysIn Tryz.prog 24 (cntE c k) (.agg [.p (.int .i64 a), .p (.str s), .p (.int .i64 0)]) = True :=
  eq_true ⟨_, keyLbl, ⟨_, _, _, rfl⟩, cntE_isi⟩

@[simp] theorem keys_cntN {c : Circuit} {k : Nat} {a : Int} {s : Txt} {x z : AV} (hx : IsISI x) : KeysIn Tryz.prog 24 (entA (cntE c k) x z) (.agg [.p (.int .i64 a), .p (.str s), .p (.int .i64 0)]) = True :=
  eq_true ⟨_, keyLbl, ⟨_, _, _, rfl⟩, entA_keys cntE_isi hx⟩

set_option maxRecDepth 20000 in
theorem c_label_Labels (c : Circuit) (hs : Sized c) : Pure Tryz.prog GL 17 [c.av] (.tup [.p (.lst 3 ((if checkP c = 0 then labelsL c else []).map Lbl.enc)), .p (.int .i64 (checkP c))]) := by
  refine Pure.of_walk (N := 63) Tryz.func17 rfl rfl rfl (by simp) (by first | (simp; done) | simp [*]) ?_
  have hG := c_label_Groups c hs
  simp
  refine xcall_pure hG ?_
  by_cases h : checkP c = 0
  · have h2 := check_parts h
    have hn : c.parts.length ≤ 64 := h2.2.1
    have hgl := @groupsL_len c
    simp [h]
    refine XLoop.go [1, 6, 22, 23] [0] 1 [2] (nms [7]) (fun nx (k : Nat) => [(7, .acc nx 3 (labelsT c k).length), (24, .p (.int .i64 k))]) (fun nx k => [(1, some (.map (cntE c k))), (nx, accB 3 ((labelsT c k).map Lbl.row_))]) (fun k => k ≤ c.parts.length) (fun k => c.parts.length - k) 0 (by omega) ?_ ?_
    · simp [labelsT, cntE]
      try decide
    intro k hk
    have htl := @labelsT_len c k
    simp [hgl]
    refine xif_split (fun h3 => ?_) (fun h3 => ?_)
    · simp at h3
      obtain ⟨p, ep⟩ := get_lt h3
      obtain ⟨g, eg⟩ := get_lt (show k < (groupsL c).length by omega)
      have hpk := part_kind h ep
      have hke := kindErr_ok.2 hpk
      have hLe := c_part_Letter p.kind
      have hlt : letterOf p.kind.toNat = letterN p.kind := by
        have := @letter_is p.kind.toNat (by omega)
        rw [this]; congr 1; omega
      rw [hke, if_pos rfl, hlt] at hLe
      have hkey : keyG c k = (g, letterN p.kind) := by unfold keyG; rw [gAt_nat eg, kind_at ep]
      have hat := @cntE_at c (keyG c k) k
      have hnx : cntE c (k + 1) = setA (cntE c k) (keyA (keyG c k)) (.p (.int .i64 ((cntG c (keyG c k) k : Nat) + 1))) := rfl
      have hat' := @cntE_at c (keyG c k) (k + 1)
      rw [cntG_step, if_pos rfl, if_neg (by omega)] at hat'
      have hcl := @cntG_le c (keyG c k) k
      have hlb : lblN c k = ⟨g, letterN p.kind, ((cntG c (keyG c k) k : Nat) : Int) + 1⟩ := by unfold lblN; rw [hkey]
      have hls := @labelsT_step c k
      rw [hlb] at hls
      generalize hcn : cntG c (keyG c k) k = n at *
      rw [hkey] at hat hnx hat'
      simp only [keyA] at hat hnx hat'
      simp [h3, ep, eg, hgl, -getElem?_pos, List.getElem?_cons_zero, List.getElem?_cons_succ]
      refine xcall_pure hLe ?_
      simp
      refine XDraw.late 2 4 _ (by kernel_rfl) rfl rfl ?_
      have hhit : hit false (AV.p (PV.int IntKind.i64 0)) (if n = 0 then none else some (AV.p (PV.int IntKind.i64 ↑n))) = .p (.int .i64 n) := by
        by_cases hn0 : n = 0 <;> simp [hit, hn0]
      have hw : IntKind.i64.wrap ((n : Int) + 1) = n + 1 := wrap_i64 (by omega) (by omega)
      have hput := @putE_entA (cntE c k) (AV.agg [AV.p (PV.int IntKind.i64 g), AV.p (PV.str (letterN p.kind)), AV.p (PV.int IntKind.i64 0)]) (.p (.int .i64 0)) (AV.p (PV.int IntKind.i64 (↑n + 1)))
      have hilt := @idxA_lt (cntE c k) (AV.agg [AV.p (PV.int IntKind.i64 g), AV.p (PV.str (letterN p.kind)), AV.p (PV.int IntKind.i64 0)]) (.p (.int .i64 0))
      rw [← hnx] at hput
      have hr2 : List.range 2 = [0, 1] := rfl
      simp [hat, hhit, hw, hput, hilt, hat', htl, hr2, -getElem?_pos, List.getElem?_cons_zero, List.getElem?_cons_succ]
      refine ⟨.of (by kernel_rfl), ⟨?_, ?_⟩, by omega, wrap_i64 (by omega) (by omega), k + 1, by omega, by omega, ?_⟩
      · rw [keys_cntN ⟨_, _, _, rfl⟩]; trivial
      · rw [entA_assoc, hat]
        by_cases hn0 : n = 0 <;> simp [hit, hn0]
      rw [hls]
      simp [htl, hgl]
    · simp at h3
      have hk2 : k = c.parts.length := by omega
      subst hk2
      rw [show labelsT c c.parts.length = labelsL c from rfl]
      simp [XEndT, h]
  · simp [h, XEndT]
end Go.Am
