/- Lemmas and contracts for the proof of a statement of this seat. -/
import Derived.Test.YtkofnocfackjiaaGreatDoorZC7
import Derived.Test.YtkofnocfackjiaaGreatDoorZCP
import Derived.Test.YtkofnocfackjiaaGreatDoorZS2
set_option linter.unusedVariables false
set_option linter.unusedSimpArgs false
/- Contracts: chapter 20, positions: the reference. -/
namespace Go.Am
open Go Go.Proofs Go.Pn

end Go.Am
namespace Go.Pn
open Go Go.Proofs Go.Am
@[simp] def Pass.enc (p : Pass) : List PV := [.str p.to, .lst 1 (p.fr.map Txt.enc), .bool p.all]
end Go.Pn
namespace Go.Am
open Go Go.Proofs Go.Pn

theorem netP_at3 {c : Circuit} (h : checkP c = 0) {p : Port} (hp : p ∈ allP c) : givenErr c p = 0 ∧ ∃ (i : Nat) (g : List Port), netP c p = i ∧ i < (nets c).length ∧ (nets c)[i]? = some g ∧ p ∈ g ∧ g.length < 100000 := by
  refine ⟨allP_mem.1 hp, ?_⟩
  obtain ⟨i, g, h1, h2, h3⟩ := netP_at h hp
  exact ⟨i, g, h1, (List.getElem?_eq_some_iff.1 h2).1, h2, h3, by have := (netsL h).2 g (List.mem_of_getElem? h2); omega⟩

end Go.Am
/- Contracts: package part: positions, passes, vents, pilots, next, role. -/
namespace Go.Am
open Go Go.Proofs Go.Pn

end Go.Am
/- Contracts: package part: placed, Passes, Vents, Positions, Pilots, Next, Role. -/
namespace Go.Am
open Go Go.Proofs Go.Pn


theorem catRow_facts {k : Nat} (h : k < 14) : (catRow k)[9]? = some (.p (.int .i64 (manyOf k))) ∧ (catRow k)[7]? = some (.p (.str (pilotsOf k).1)) ∧ (catRow k)[8]? = some (.p (.str (pilotsOf k).2)) ∧
    ((catRow k).drop 2).take 5 = (roles k).map (fun l => .p (.lst 1 (l.map Txt.enc))) ∧ (roles k).length = 5 := by
  rcases (by omega : k = 0 ∨ k = 1 ∨ k = 2 ∨ k = 3 ∨ k = 4 ∨ k = 5 ∨ k = 6 ∨ k = 7 ∨ k = 8 ∨ k = 9 ∨ k = 10 ∨ k = 11 ∨ k = 12 ∨ k = 13) with rfl|rfl|rfl|rfl|rfl|rfl|rfl|rfl|rfl|rfl|rfl|rfl|rfl|rfl <;> exact ⟨rfl, rfl, rfl, rfl, rfl⟩
end Go.Am
/- Contracts: package part: Passes, Vents, Next, Role. -/
namespace Go.Am
open Go Go.Proofs Go.Pn


theorem pureL_map {α : Type} {f : α → AV} (h : ∀ x, pureA (f x) = true) : ∀ {l : List α}, pureL (l.map f) = true
  | [] => rfl
  | x :: l => by simp [pureL, h x, pureL_map h (l := l)]

def roleOf (k : Nat) (s : Txt) : Int := idxI (roles k) fun l => decide (s ∈ l)

theorem c_part_Role (k : Int) (s : Txt) (hk : 0 ≤ k ∧ k < 14) : Pure Tryz.prog GL 90 [.p (.int .i64 k), .p (.str s)] (.tup [.p (.int .i64 (if roleOf k.toNat s < 0 then 0 else roleOf k.toNat s)), .p (.int .i64 (if roleOf k.toNat s < 0 then 6 else 0))]) := by
  refine Pure.of_walk (N := 29) Tryz.func90 rfl rfl rfl (by simp) (by first | (simp; done) | simp [*]) ?_
  simp
  refine xcall_pure (c_part_find k) ?_
  have h3 : kindErr k = 0 := kindErr_ok.2 hk
  have hl := catRow_len (k := k.toNat)
  have h6 := catRow_one (k := k.toNat)
  obtain ⟨f1, f2, f3, f4, f5⟩ := catRow_facts (k := k.toNat) (by omega)
  have hsh : ∀ l ∈ roles k.toNat, l.length < 100 := (by decide : ∀ k, k < 14 → ∀ l ∈ roles k, l.length < 100) k.toNat (by omega)
  simp [h3, hl, lay_whole]
  refine ⟨by simpa using h6, ?_⟩
  have hren := fun ρ => renL_pure (ρ := ρ) (pureL_map (f := fun l : List Txt => AV.p (PV.lst 1 (l.map Txt.enc))) (fun _ => rfl) (l := roles k.toNat))
  simp [f4]
  refine XLoop.go [1, 19] [] 0 [] (fun _ => []) (fun _ (r : Nat) => [(20, .p (.int .i64 r))]) (fun _ _ => []) (fun r => r ≤ 5 ∧ ∀ (j : Nat) x, j < r → (roles k.toNat)[j]? = some x → decide (s ∈ x) = false) (fun r => 5 - r) 0 ⟨by omega, fun j x h => by omega⟩ ?_ ?_
  · simp [hren]
  · rintro r ⟨hr, hp⟩
    simp
    refine xif_split (fun h => ?_) (fun h => ?_)
    · simp at h
      obtain ⟨x, e⟩ := get_lt (xs := roles k.toNat) (k := r) (by omega)
      simp [h, e, f5, -getElem?_pos, List.getElem?_cons_zero, List.getElem?_cons_succ]
      refine xcall_pure (c_Con_Txt x s (by have := hsh x (List.mem_of_getElem? e); omega)) ?_
      simp
      by_cases h2 : s ∈ x
      · have hro : roleOf k.toNat s = r := idxI_at (q := fun l => decide (s ∈ l)) e (by simpa using h2) hp
        have h0 : ¬ (r : Int) < 0 := by omega
        simp [h2]
        simp [XEndT, hro, h0]
      · simp [h2]
        refine ⟨wrap_i64 (by omega) (by omega), r + 1, ⟨by omega, ?_⟩, by omega, ?_⟩
        · simpa using below_next (P := fun l => decide (s ∈ l) = false) hp e (by simpa using h2)
        · simp [hren]
    · simp at h
      have h7 : r = (roles k.toNat).length := by omega
      subst h7
      have hro : roleOf k.toNat s = -1 := idxI_none (q := fun l => decide (s ∈ l)) (below_all hp)
      simp [XEndT, hro]

end Go.Am
/- Contracts: everyday functions of package slices, at int and at ports. -/
namespace Go.Am
open Go Go.Proofs Go.Pn


theorem c_Eq_Int (xs ys : List Int) (hl : xs.length < 4611686018427387904) : Pure Tryz.prog GL 19 [.p (.lst 1 (xs.map Int.enc)), .p (.lst 1 (ys.map Int.enc))] (.p (.bool (decide (xs = ys)))) := by
  refine Pure.of_walk (N := 26) Tryz.func19 rfl rfl rfl (by simp) (by first | (simp; done) | simp [*]) ?_
  simp
  refine xif_split (fun h0 => ?_) (fun h0 => ?_)
  · simp at h0
    have hne : ¬ xs = ys := fun h => h0 (by rw [h])
    simp [XEndT, hne]
  · simp at h0
    simp
    refine XLoop.go [0, 1, 12] [] 0 [] (fun _ => []) (fun _ (k : Nat) => [(13, .p (.int .i64 k))]) (fun _ _ => []) (fun k => k ≤ xs.length ∧ ∀ (j : Nat), j < k → xs[j]? = ys[j]?) (fun k => xs.length - k) 0 ⟨by omega, fun j h => by omega⟩ ?_ ?_
    · simp
    · rintro k ⟨hk, hp⟩
      simp
      refine xif_split (fun h => ?_) (fun h => ?_)
      · simp at h
        obtain ⟨x, e⟩ := get_lt h
        have h2 : k < ys.length := by omega
        obtain ⟨y, e2⟩ := get_lt h2
        simp
        refine XDraw.intro (by kernel_rfl) ?_
        simp [h, e, h2, e2, -getElem?_pos, List.getElem?_cons_zero, List.getElem?_cons_succ]
        refine ⟨.of (by kernel_rfl), ?_⟩
        refine xif_split (fun h3 => ?_) (fun h3 => ?_)
        · have hne : ¬ xs = ys := fun h => by subst h; rw [e] at e2; cases e2; simp at h3
          simp [XEndT, hne]
        · have hxy : x = y := by simpa using h3
          subst hxy
          simp
          refine ⟨wrap_i64 (by omega) (by omega), k + 1, ⟨by omega, fun j hj => ?_⟩, by omega, ?_⟩
          · by_cases hjk : j = k
            · subst hjk; rw [e, e2]
            · exact hp j (by omega)
          · simp
      · simp at h
        have hk2 : k = xs.length := by omega
        have hxy : xs = ys := List.ext_getElem? fun j => by
          by_cases hj : j < k
          · exact hp j hj
          · rw [List.getElem?_eq_none (by omega), List.getElem?_eq_none (by omega)]
        simp [XEndT, hxy]


end Go.Am
/- Contracts: chapter 24: Check of both, Few; in, feeds, back of the reference. -/
namespace Go.Am
open Go Go.Proofs Go.Pn

@[simp] abbrev Ints.av (l : List Int) : AV := .p (.lst 1 (l.map Int.enc))
end Go.Am
/- Contracts: chapter 24, the reference: in, feeds, back, open, Acts. -/
namespace Go.Am
open Go Go.Proofs Go.Pn

def netN (c : Circuit) (i : Int) (s : Txt) : Nat := (netP c ⟨i, s⟩).toNat
theorem netN_at {c : Circuit} (h : checkP c = 0) {i : Int} {s : Txt} (hp : (⟨i, s⟩ : Port) ∈ allP c) : netP c ⟨i, s⟩ = netN c i s ∧ netN c i s < (nets c).length := by
  obtain ⟨_, n, g, h1, h2, _⟩ := netP_at3 h hp
  unfold netN
  rw [h1]
  exact ⟨by omega, by omega⟩

end Go.Am
/- Contracts: chapter 24, the reference: feeds, back, open, Acts. -/
namespace Go.Am
open Go Go.Proofs Go.Pn

def posOf (l : List Int) (i : Int) : Int := (l[i.toNat]?).getD 0
def passAt (c : Circuit) (l : List Int) (i : Int) : List Pass := passedOf (kindAt c i).toNat (decide (posOf l i = 1))
end Go.Am
