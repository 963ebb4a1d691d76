/- Lemmas and contracts for the proof of a statement of this seat. -/
import Derived.Test.YtmgemgdljjblmaaGreatDoorZC9
import Derived.Test.YtmgemgdljjblmaaGreatDoorZCP
import Derived.Test.YtmgemgdljjblmaaGreatDoorZS2
set_option linter.unusedVariables false
set_option linter.unusedSimpArgs false
/- Contracts: chapter 20, positions: the reference. -/
namespace Go.Am
open Go Go.Proofs Go.Pn

end Go.Am
namespace Go.Pn
open Go Go.Proofs Go.Am
@[simp] def Pass.enc (p : Pass) : List PV := [.str p.to, .lst 1 (p.fr.map Txt.enc), .bool p.all]
end Go.Pn
namespace Go.Am
open Go Go.Proofs Go.Pn

theorem c_pneumaticref20_Open (k : Nat) (pos : Int) (hk : k < 14) : Pure Go.Proofs.Tryz.prog GL 64 [.p (.int .i64 k), .p (.int .i64 pos)] (.tup [.p (.str (openOf k (decide (pos = 1))).1), .p (.str (openOf k (decide (pos = 1))).2)]) := by
  refine Pure.of_walk (N := 29) Go.Proofs.Tryz.func64 rfl rfl rfl (by simp) (by first | (simp; done) | simp [*]) ?_
  by_cases hp : pos = 1
  · subst hp
    rcases (by omega : k = 0 ∨ k = 1 ∨ k = 2 ∨ k = 3 ∨ k = 4 ∨ k = 5 ∨ k = 6 ∨ k = 7 ∨ k = 8 ∨ k = 9 ∨ k = 10 ∨ k = 11 ∨ k = 12 ∨ k = 13) with rfl|rfl|rfl|rfl|rfl|rfl|rfl|rfl|rfl|rfl|rfl|rfl|rfl|rfl <;> (simp; simp [XEndT, openOf, t2, t4])
  · rcases (by omega : k = 0 ∨ k = 1 ∨ k = 2 ∨ k = 3 ∨ k = 4 ∨ k = 5 ∨ k = 6 ∨ k = 7 ∨ k = 8 ∨ k = 9 ∨ k = 10 ∨ k = 11 ∨ k = 12 ∨ k = 13) with rfl|rfl|rfl|rfl|rfl|rfl|rfl|rfl|rfl|rfl|rfl|rfl|rfl|rfl <;> (simp [hp]; simp [XEndT, openOf, hp, t2, t4])

theorem c_pneumaticref20_Piloted (k : Nat) (hk : k < 14) : Pure Go.Proofs.Tryz.prog GL 186 [.p (.int .i64 k)] (.tup [.p (.str (pilotsOf k).1), .p (.str (pilotsOf k).2)]) := by
  refine Pure.of_walk (N := 15) Go.Proofs.Tryz.func186 rfl rfl rfl (by simp) (by first | (simp; done) | simp [*]) ?_
  rcases (by omega : k = 0 ∨ k = 1 ∨ k = 2 ∨ k = 3 ∨ k = 4 ∨ k = 5 ∨ k = 6 ∨ k = 7 ∨ k = 8 ∨ k = 9 ∨ k = 10 ∨ k = 11 ∨ k = 12 ∨ k = 13) with rfl|rfl|rfl|rfl|rfl|rfl|rfl|rfl|rfl|rfl|rfl|rfl|rfl|rfl <;> (simp; simp [XEndT, pilotsOf, t14, t12, t10])

theorem c_pneumaticref20_Moved (k : Nat) (pos : Int) (plus minus : Bool) (hk : k < 14) : Pure Go.Proofs.Tryz.prog GL 187 [.p (.int .i64 k), .p (.int .i64 pos), .p (.bool plus), .p (.bool minus)] (.tup [.p (.int .i64 (movedOf k pos plus minus).1), .p (.bool (movedOf k pos plus minus).2)]) := by
  refine Pure.of_walk (N := 31) Go.Proofs.Tryz.func187 rfl rfl rfl (by simp) (by first | (simp; done) | simp [*]) ?_
  simp
  refine xcall_pure (c_pneumaticref20_Piloted k hk) ?_
  unfold movedOf
  generalize pilotsOf k = ab
  obtain ⟨a, b⟩ := ab
  by_cases ha : a = []
  · simp [ha]
    simp [XEndT]
  · simp [ha]
    by_cases hb : b = []
    · simp [hb]
      cases plus <;> simp <;> simp [XEndT, ha, hb]
    · simp [hb]
      cases plus <;> cases minus <;> simp <;> simp [XEndT, ha, hb]

theorem c_pneumaticref20_Many (k : Nat) (hk : k < 14) : Pure Go.Proofs.Tryz.prog GL 132 [.p (.int .i64 k)] (.p (.int .i64 (manyOf k))) := by
  refine Pure.of_walk (N := 14) Go.Proofs.Tryz.func132 rfl rfl rfl (by simp) (by first | (simp; done) | simp [*]) ?_
  simp
  refine xcall_pure c_pneumaticref20_Rows ?_
  have hk2 : k < refRows.length := by simpa [refRows] using hk
  rcases (by omega : k = 0 ∨ k = 1 ∨ k = 2 ∨ k = 3 ∨ k = 4 ∨ k = 5 ∨ k = 6 ∨ k = 7 ∨ k = 8 ∨ k = 9 ∨ k = 10 ∨ k = 11 ∨ k = 12 ∨ k = 13) with rfl|rfl|rfl|rfl|rfl|rfl|rfl|rfl|rfl|rfl|rfl|rfl|rfl|rfl <;> (simp [refRows, refRow, refPorts]; simp [XEndT, manyOf, roles])

theorem names_ins {k : Nat} (h : k < 14) : namesL (((refPorts k)[0]?).getD []) = insOf k := (by decide +kernel : ∀ k, k < 14 → namesL (((refPorts k)[0]?).getD []) = insOf k) k h

theorem c_pneumaticref20_Passed (k : Nat) (pos : Int) (hk : k < 14) : Pure Go.Proofs.Tryz.prog GL 129 [.p (.int .i64 k), .p (.int .i64 pos)] (.p (.lst 3 ((passedOf k (decide (pos = 1))).map Pass.enc))) := by
  refine Pure.of_walk (N := 27) Go.Proofs.Tryz.func129 rfl rfl rfl (by simp) (by first | (simp; done) | simp [*]) ?_
  simp
  refine xcall_pure (c_pneumaticref20_Open k pos hk) ?_
  unfold passedOf
  generalize (openOf k (decide (pos = 1))).1 = to
  generalize (openOf k (decide (pos = 1))).2 = ve
  by_cases ht : to = []
  · simp [ht]
    simp [XEndT]
  · simp [ht]
    refine xcall_pure c_pneumaticref20_Rows ?_
    have hk2 : k < refRows.length := by simpa [refRows] using hk
    have hl := refPorts_len hk
    obtain ⟨x, e⟩ := get_lt (xs := refPorts k) (k := 0) (by omega)
    have e2 : (refRow k)[2]? = some (.str x) := by
      rw [refRow, show 2 = 0 + 1 + 1 from rfl, List.getElem?_cons_succ, List.getElem?_cons_succ, List.getElem?_map, e]; rfl
    have hin := names_ins hk
    rw [e] at hin
    simp at hin
    simp [refRows_at hk, hk2, e2, -getElem?_pos, List.getElem?_cons_zero, List.getElem?_cons_succ]
    refine xcall_pure (c_pneumaticref20_names x (by have := refPorts_short hk (List.mem_of_getElem? e); omega)) ?_
    simp
    rw [hin]
    simp [XEndT, ht]
    omega

theorem netP_at3 {c : Circuit} (h : checkP c = 0) {p : Port} (hp : p ∈ allP c) : givenErr c p = 0 ∧ ∃ (i : Nat) (g : List Port), netP c p = i ∧ i < (nets c).length ∧ (nets c)[i]? = some g ∧ p ∈ g ∧ g.length < 100000 := by
  refine ⟨allP_mem.1 hp, ?_⟩
  obtain ⟨i, g, h1, h2, h3⟩ := netP_at h hp
  exact ⟨i, g, h1, (List.getElem?_eq_some_iff.1 h2).1, h2, h3, by have := (netsL h).2 g (List.mem_of_getElem? h2); omega⟩

end Go.Am
/- Contracts: package part: positions, passes, vents, pilots, next, role. -/
namespace Go.Am
open Go Go.Proofs Go.Pn

def Passes.av (l : List Pass) : AV := .p (.lst 3 (l.map Pass.enc))

theorem frz_pass {s : Store} {b b2 n : Nat} {c c2 : Option Nat} {to : Txt} {frs : List Txt} {all : Bool} (hg : get s b = some (.cells 3 [[.p (.str to), .ref b2 1 0 n c2, .p (.bool all)]]))
    (hg2 : get s b2 = some (.cells 1 (frs.map Txt.row))) (hn : frs.length = n) : FrzA s (fun _ => True) (.ref b 3 0 1 c) (Passes.av [⟨to, frs, all⟩]) := by
  have h2 : Frz s (fun _ => True) (.ref b2 1 0 n c2) (.lst 1 (frs.map Txt.enc)) := .rows trivial hg2 (by simp [List.take_of_length_le, ← hn]) (by simpa using hn)
  refine .one _ _ (.ref b 3 0 1 c _ _ (fun _ j => ([.p (.str to), .ref b2 1 0 n c2, .p (.bool all)] : List AV)[j]?.getD .any) trivial hg rfl (fun p j row x h1 h3 => ?_) (fun p j row x h1 h3 => ?_))
  · match p with
    | 0 =>
      simp at h1; subst h1
      match j with
      | 0 => exact ⟨_, rfl, rfl⟩
      | 1 => exact ⟨_, rfl, rfl⟩
      | 2 => exact ⟨_, rfl, rfl⟩
      | j + 3 => simp at h3
    | p + 1 => simp at h1
  · match p with
    | 0 =>
      simp at h1; subst h1
      match j with
      | 0 => simp at h3; subst h3; exact .p _
      | 1 => simp at h3; subst h3; exact h2
      | 2 => simp at h3; subst h3; exact .p _
      | j + 3 => simp at h3
    | p + 1 => simp at h1

theorem c_part_pass (to fr : Txt) : Pure Go.Proofs.Tryz.prog GL 241 [.p (.str to), .p (.str fr)] (Passes.av [⟨to, [fr], false⟩]) := by
  refine Pure.of_walkZ (N := 10) Go.Proofs.Tryz.func241 rfl rfl rfl (by simp) (by simp) ?_
  simp
  refine ⟨.inl rfl, [.ref 1 3 0 1 (some 1)], by simp, ?_⟩
  exact frz_pass (b := 1) (b2 := 0) (n := 1) (c2 := some 1) (by simp [get]) (by simp [get]) rfl

theorem c_part_merge_1 (x : Bool) (pos : Int) : Pure Go.Proofs.Tryz.prog GL 244 [.p (.int .i64 pos), .iptr 1 [[.bool x]] 0 0] (Passes.av [⟨t2, [t1, t11], x⟩]) := by
  refine Pure.of_walkZ (N := 8) Go.Proofs.Tryz.func244 rfl rfl rfl (by simp) (by simp) ?_
  simp
  refine ⟨.inl rfl, [.ref 1 3 0 1 (some 1)], by simp, ?_⟩
  exact frz_pass (b := 1) (b2 := 0) (n := 2) (c2 := some 2) (by simp [get, t2]) (by simp [get, t1, t11]) rfl

theorem c_part_nothing (pos : Int) : Pure Go.Proofs.Tryz.prog GL 202 [.p (.int .i64 pos)] (Passes.av []) := by
  refine Pure.of_walk (N := 3) Go.Proofs.Tryz.func202 rfl rfl rfl (by simp) (by first | (simp; done) | simp [*]) ?_
  simp
  simp [XEndT, Passes.av]

theorem c_part_shut (pos : Int) : Pure Go.Proofs.Tryz.prog GL 203 [.p (.int .i64 pos)] (.p (.lst 1 (([] : List Txt).map Txt.enc))) := by
  refine Pure.of_walk (N := 3) Go.Proofs.Tryz.func203 rfl rfl rfl (by simp) (by first | (simp; done) | simp [*]) ?_
  simp
  simp [XEndT]

theorem c_part_through (pos : Int) : Pure Go.Proofs.Tryz.prog GL 209 [.p (.int .i64 pos)] (Passes.av [⟨t2, [t1], false⟩]) := by
  refine Pure.of_walk (N := 4) Go.Proofs.Tryz.func209 rfl rfl rfl (by simp) (by first | (simp; done) | simp [*]) ?_
  simp
  refine xcall_pure (c_part_pass [50] [49]) ?_
  simp [Passes.av]
  simp [XEndT, t2, t1]

def posI (b : Bool) : Int := if b then 1 else 0

theorem c_part_change (b : Bool) : Pure Go.Proofs.Tryz.prog GL 204 [.p (.int .i64 (posI b))] (Passes.av [⟨if b then t4 else t2, [t1], false⟩]) := by
  refine Pure.of_walk (N := 8) Go.Proofs.Tryz.func204 rfl rfl rfl (by simp) (by first | (simp; done) | simp [*]) ?_
  cases b
  · simp [posI]
    refine xcall_pure (c_part_pass [50] [49]) ?_
    simp [Passes.av]
    simp [XEndT, t2, t1]
  · simp [posI]
    refine xcall_pure (c_part_pass [52] [49]) ?_
    simp [Passes.av]
    simp [XEndT, t4, t1]

theorem c_part_changeVents (b : Bool) : Pure Go.Proofs.Tryz.prog GL 205 [.p (.int .i64 (posI b))] (.p (.lst 1 ([if b then t2 else t4].map Txt.enc))) := by
  refine Pure.of_walk (N := 8) Go.Proofs.Tryz.func205 rfl rfl rfl (by simp) (by first | (simp; done) | simp [*]) ?_
  cases b
  · simp [posI]
    simp [XEndT, t4]
  · simp [posI]
    simp [XEndT, t2]

theorem c_part_gate_1 (n pos : Int) : Pure Go.Proofs.Tryz.prog GL 242 [.p (.int .i64 pos), .iptr 1 [[.int .i64 n]] 0 0] (Passes.av (if pos = n then [⟨t2, [t1], false⟩] else [])) := by
  refine Pure.of_walk (N := 8) Go.Proofs.Tryz.func242 rfl rfl rfl (by simp) (by first | (simp; done) | simp [*]) ?_
  simp
  by_cases h : pos = n
  · simp [h]
    refine xcall_pure (c_part_pass [50] [49]) ?_
    simp [Passes.av]
    simp [XEndT, t2, t1, h]
  · simp [h]
    simp [XEndT, Passes.av, h]

theorem c_part_gateVents_1 (n pos : Int) : Pure Go.Proofs.Tryz.prog GL 243 [.p (.int .i64 pos), .iptr 1 [[.int .i64 n]] 0 0] (.p (.lst 1 ((if pos = n then [] else [t2]).map Txt.enc))) := by
  refine Pure.of_walk (N := 8) Go.Proofs.Tryz.func243 rfl rfl rfl (by simp) (by first | (simp; done) | simp [*]) ?_
  simp
  by_cases h : pos = n
  · simp [h]
    simp [XEndT, h]
  · simp [h]
    simp [XEndT, t2, h]

theorem fn_passes (k : Nat) (hk : k < 14) (b : Bool) : ∃ m cap, (catRow k)[10]? = some (.fn (.func m) cap) ∧ pureL cap = true ∧ Pure Go.Proofs.Tryz.prog GL m (.p (.int .i64 (posI b)) :: cap) (Passes.av (passedOf k b)) := by
  have g1 := c_part_gate_1 1 (posI b)
  have g0 := c_part_gate_1 0 (posI b)
  have ch := c_part_change b
  have no := c_part_nothing (posI b)
  have th := c_part_through (posI b)
  have m0 := c_part_merge_1 false (posI b)
  have m1 := c_part_merge_1 true (posI b)
  cases b
  all_goals
    simp only [posI, Bool.false_eq_true, if_true, if_false] at g1 g0 ch no th m0 m1 ⊢
    rcases (by omega : k = 0 ∨ k = 1 ∨ k = 2 ∨ k = 3 ∨ k = 4 ∨ k = 5 ∨ k = 6 ∨ k = 7 ∨ k = 8 ∨ k = 9 ∨ k = 10 ∨ k = 11 ∨ k = 12 ∨ k = 13) with rfl|rfl|rfl|rfl|rfl|rfl|rfl|rfl|rfl|rfl|rfl|rfl|rfl|rfl
    all_goals first
      | exact ⟨_, _, rfl, rfl, no⟩
      | exact ⟨_, _, rfl, rfl, ch⟩
      | exact ⟨_, _, rfl, rfl, g1⟩
      | exact ⟨_, _, rfl, rfl, g0⟩
      | exact ⟨_, _, rfl, rfl, th⟩
      | exact ⟨_, _, rfl, rfl, m0⟩
      | exact ⟨_, _, rfl, rfl, m1⟩

theorem fn_vents (k : Nat) (hk : k < 14) (b : Bool) : ∃ m cap, (catRow k)[11]? = some (.fn (.func m) cap) ∧ pureL cap = true ∧ Pure Go.Proofs.Tryz.prog GL m (.p (.int .i64 (posI b)) :: cap) (.p (.lst 1 ((ventsOf k b).map Txt.enc))) := by
  have g1 := c_part_gateVents_1 1 (posI b)
  have g0 := c_part_gateVents_1 0 (posI b)
  have ch := c_part_changeVents b
  have no := c_part_shut (posI b)
  cases b
  all_goals
    simp only [posI, Bool.false_eq_true, if_true, if_false] at g1 g0 ch no ⊢
    rcases (by omega : k = 0 ∨ k = 1 ∨ k = 2 ∨ k = 3 ∨ k = 4 ∨ k = 5 ∨ k = 6 ∨ k = 7 ∨ k = 8 ∨ k = 9 ∨ k = 10 ∨ k = 11 ∨ k = 12 ∨ k = 13) with rfl|rfl|rfl|rfl|rfl|rfl|rfl|rfl|rfl|rfl|rfl|rfl|rfl|rfl
    all_goals first
      | exact ⟨_, _, rfl, rfl, no⟩
      | exact ⟨_, _, rfl, rfl, ch⟩
      | exact ⟨_, _, rfl, rfl, g1⟩
      | exact ⟨_, _, rfl, rfl, g0⟩

end Go.Am
/- Contracts: package part: placed, Passes, Vents, Positions, Pilots, Next, Role. -/
namespace Go.Am
open Go Go.Proofs Go.Pn


theorem catRow_facts {k : Nat} (h : k < 14) : (catRow k)[9]? = some (.p (.int .i64 (manyOf k))) ∧ (catRow k)[7]? = some (.p (.str (pilotsOf k).1)) ∧ (catRow k)[8]? = some (.p (.str (pilotsOf k).2)) ∧
    ((catRow k).drop 2).take 5 = (roles k).map (fun l => .p (.lst 1 (l.map Txt.enc))) ∧ (roles k).length = 5 := by
  rcases (by omega : k = 0 ∨ k = 1 ∨ k = 2 ∨ k = 3 ∨ k = 4 ∨ k = 5 ∨ k = 6 ∨ k = 7 ∨ k = 8 ∨ k = 9 ∨ k = 10 ∨ k = 11 ∨ k = 12 ∨ k = 13) with rfl|rfl|rfl|rfl|rfl|rfl|rfl|rfl|rfl|rfl|rfl|rfl|rfl|rfl <;> exact ⟨rfl, rfl, rfl, rfl, rfl⟩
theorem manyOf_le {k : Nat} : 1 ≤ manyOf k ∧ manyOf k ≤ 2 := by unfold manyOf; split <;> omega

theorem c_part_Positions (k : Int) : Pure Go.Proofs.Tryz.prog GL 131 [.p (.int .i64 k)] (.tup [.p (.int .i64 (if kindErr k = 0 then manyOf k.toNat else 0)), .p (.int .i64 (kindErr k))]) := by
  refine Pure.of_walk (N := 14) Go.Proofs.Tryz.func131 rfl rfl rfl (by simp) (by first | (simp; done) | simp [*]) ?_
  simp
  refine xcall_pure (c_part_find k) ?_
  by_cases hk : 0 ≤ k ∧ k < 14
  · have h3 : kindErr k = 0 := kindErr_ok.2 hk
    have hl := catRow_len (k := k.toNat)
    have h6 := catRow_one (k := k.toNat)
    obtain ⟨f1, f2, f3, f4, f5⟩ := catRow_facts (k := k.toNat) (by omega)
    obtain ⟨_, f1'⟩ := List.getElem?_eq_some_iff.1 f1
    simp [h3, hl, lay_whole]
    refine ⟨by simpa using h6, ?_⟩
    simp [XEndT, h3, f1']
  · have h3 : kindErr k = 1 := kindErr_bad hk
    simp [h3, catRow, lay]
    simp [XEndT, h3]

theorem c_part_Pilots (k : Int) : Pure Go.Proofs.Tryz.prog GL 71 [.p (.int .i64 k)] (.tup [.p (.str (if kindErr k = 0 then (pilotsOf k.toNat).1 else [])), .p (.str (if kindErr k = 0 then (pilotsOf k.toNat).2 else [])), .p (.int .i64 (kindErr k))]) := by
  refine Pure.of_walk (N := 17) Go.Proofs.Tryz.func71 rfl rfl rfl (by simp) (by first | (simp; done) | simp [*]) ?_
  simp
  refine xcall_pure (c_part_find k) ?_
  by_cases hk : 0 ≤ k ∧ k < 14
  · have h3 : kindErr k = 0 := kindErr_ok.2 hk
    have hl := catRow_len (k := k.toNat)
    have h6 := catRow_one (k := k.toNat)
    obtain ⟨f1, f2, f3, f4, f5⟩ := catRow_facts (k := k.toNat) (by omega)
    simp [h3, hl, lay_whole]
    refine ⟨by simpa using h6, ?_⟩
    refine XDraw.intro (by kernel_rfl) ?_
    simp [f2, f3, -getElem?_pos, List.getElem?_cons_zero, List.getElem?_cons_succ]
    refine ⟨.of (by kernel_rfl), ?_⟩
    simp [XEndT, h3]
  · have h3 : kindErr k = 1 := kindErr_bad hk
    simp [h3, catRow, lay]
    refine XDraw.intro (by kernel_rfl) ?_
    simp
    refine ⟨.of (by kernel_rfl), ?_⟩
    simp [XEndT, h3]

theorem c_part_placed (k pos : Int) : Pure Go.Proofs.Tryz.prog GL 133 [.p (.int .i64 k), .p (.int .i64 pos)] (.tup [.agg (catRow (if placedErr k pos = 0 then k.toNat else 14)), .p (.int .i64 (placedErr k pos))]) := by
  refine Pure.of_walk (N := 29) Go.Proofs.Tryz.func133 rfl rfl rfl (by simp) (by first | (simp; done) | simp [*]) ?_
  simp
  refine xcall_pure (c_part_find k) ?_
  by_cases hk : 0 ≤ k ∧ k < 14
  · have h3 : kindErr k = 0 := kindErr_ok.2 hk
    have hl := catRow_len (k := k.toNat)
    have h6 := catRow_one (k := k.toNat)
    have h7 := catRow_pure (k := k.toNat)
    have h8 : (catRow k.toNat).take 12 = catRow k.toNat := List.take_of_length_le (by omega)
    obtain ⟨f1, f2, f3, f4, f5⟩ := catRow_facts (k := k.toNat) (by omega)
    simp [h3, hl, lay_whole]
    refine ⟨by simpa using h6, ?_⟩
    by_cases h1 : pos < 0
    · have hp : placedErr k pos = 2 := by simp [placedErr, h3, h1]
      simp [h1]
      simp [XEndT, hp, catRow]
    · by_cases h2 : (manyOf k.toNat : Int) ≤ pos
      · have hp : placedErr k pos = 2 := by simp [placedErr, h3, h2]
        simp [h1, f1, h2, -getElem?_pos, List.getElem?_cons_zero, List.getElem?_cons_succ]
        simp [XEndT, hp, catRow]
      · have hp : placedErr k pos = 0 := by simp [placedErr, h3, h1, h2]
        simp [h1, f1, h2, hl, lay_whole, h8, -getElem?_pos, List.getElem?_cons_zero, List.getElem?_cons_succ]
        refine ⟨by simpa using h6, ?_⟩
        simp [XEndT, hp, hl, h8, toL_refl _ h7]
  · have h3 : kindErr k = 1 := kindErr_bad hk
    have hp : placedErr k pos = 1 := by simp [placedErr, h3]
    simp [h3, catRow, lay]
    simp [XEndT, hp, catRow]

end Go.Am
/- Contracts: package part: Passes, Vents, Next, Role. -/
namespace Go.Am
open Go Go.Proofs Go.Pn


theorem placed_ok {k pos : Int} (h : placedErr k pos = 0) : (0 ≤ k ∧ k < 14) ∧ ∃ b : Bool, pos = posI b := by
  unfold placedErr at h
  by_cases hk : 0 ≤ k ∧ k < 14
  · refine ⟨hk, ?_⟩
    rw [kindErr_ok.2 hk] at h
    simp only [ne_eq, not_true_eq_false, if_false] at h
    have h2 : ¬ (pos < 0 ∨ (manyOf k.toNat : Int) ≤ pos) := by
      intro h2; rw [if_pos h2] at h; cases h
    have h3 := (@manyOf_le k.toNat).2
    by_cases h4 : pos = 0
    · exact ⟨false, h4⟩
    · exact ⟨true, by simp only [posI, if_true]; omega⟩
  · rw [kindErr_bad hk] at h; simp at h

/-- What is passed and vented, for the position as it is given. -/
def passedAt (k pos : Int) : List Pass := if placedErr k pos = 0 then passedOf k.toNat (decide (pos = 1)) else []
def ventsAt (k pos : Int) : List Txt := if placedErr k pos = 0 then ventsOf k.toNat (decide (pos = 1)) else []
theorem posI_one {b : Bool} : decide (posI b = 1) = b := by cases b <;> rfl

theorem c_part_Passes (k pos : Int) : Pure Go.Proofs.Tryz.prog GL 60 [.p (.int .i64 k), .p (.int .i64 pos)] (.tup [Passes.av (passedAt k pos), .p (.int .i64 (placedErr k pos))]) := by
  refine Pure.of_walk (N := 21) Go.Proofs.Tryz.func60 rfl rfl rfl (by simp) (by first | (simp; done) | simp [*]) ?_
  simp
  refine xcall_pure (c_part_placed k pos) ?_
  by_cases hp : placedErr k pos = 0
  · obtain ⟨hk, b, hb⟩ := placed_ok hp
    have hl := catRow_len (k := k.toNat)
    have h6 := catRow_one (k := k.toNat)
    obtain ⟨m, cap, g1, g2, g3⟩ := fn_passes k.toNat (by omega) b
    have hpa : passedAt k pos = passedOf k.toNat b := by rw [passedAt, if_pos hp, hb, posI_one]
    have hren := fun ρ => (renA_pure (ρ := ρ)).2 cap g2
    simp [hp, hl, lay_whole]
    refine ⟨by simpa using h6, ?_⟩
    obtain ⟨_, g1'⟩ := List.getElem?_eq_some_iff.1 g1
    simp [g1']
    rw [hb]
    refine xcall_pure g3 ?_
    simp
    rw [← hb]
    simp [XEndT, hpa, hp, Passes.av]
  · simp [hp, catRow, lay]
    simp [XEndT, passedAt, hp, Passes.av]

theorem c_part_Vents (k pos : Int) : Pure Go.Proofs.Tryz.prog GL 222 [.p (.int .i64 k), .p (.int .i64 pos)] (.tup [.p (.lst 1 ((ventsAt k pos).map Txt.enc)), .p (.int .i64 (placedErr k pos))]) := by
  refine Pure.of_walk (N := 21) Go.Proofs.Tryz.func222 rfl rfl rfl (by simp) (by first | (simp; done) | simp [*]) ?_
  simp
  refine xcall_pure (c_part_placed k pos) ?_
  by_cases hp : placedErr k pos = 0
  · obtain ⟨hk, b, hb⟩ := placed_ok hp
    have hl := catRow_len (k := k.toNat)
    have h6 := catRow_one (k := k.toNat)
    obtain ⟨m, cap, g1, g2, g3⟩ := fn_vents k.toNat (by omega) b
    have hpa : ventsAt k pos = ventsOf k.toNat b := by rw [ventsAt, if_pos hp, hb, posI_one]
    simp [hp, hl, lay_whole]
    refine ⟨by simpa using h6, ?_⟩
    obtain ⟨_, g1'⟩ := List.getElem?_eq_some_iff.1 g1
    simp [g1']
    rw [hb]
    refine xcall_pure g3 ?_
    simp
    rw [← hb]
    simp [XEndT, hpa, hp]
  · simp [hp, catRow, lay]
    simp [XEndT, ventsAt, hp]

def movedAt (k pos : Int) (plus minus : Bool) : Int × Bool := if placedErr k pos = 0 then movedOf k.toNat pos plus minus else (0, false)

theorem c_part_Next (k pos : Int) (plus minus : Bool) : Pure Go.Proofs.Tryz.prog GL 185 [.p (.int .i64 k), .p (.int .i64 pos), .p (.bool plus), .p (.bool minus)] (.tup [.p (.int .i64 (movedAt k pos plus minus).1), .p (.bool (movedAt k pos plus minus).2), .p (.int .i64 (placedErr k pos))]) := by
  refine Pure.of_walk (N := 44) Go.Proofs.Tryz.func185 rfl rfl rfl (by simp) (by first | (simp; done) | simp [*]) ?_
  simp
  refine xcall_pure (c_part_placed k pos) ?_
  by_cases hp : placedErr k pos = 0
  · obtain ⟨hk, b, hb⟩ := placed_ok hp
    have hl := catRow_len (k := k.toNat)
    have h6 := catRow_one (k := k.toNat)
    obtain ⟨f1, f2, f3, f4, f5⟩ := catRow_facts (k := k.toNat) (by omega)
    have hm : movedAt k pos plus minus = movedOf k.toNat pos plus minus := by rw [movedAt, if_pos hp]
    unfold movedOf at hm
    obtain ⟨_, f2⟩ := List.getElem?_eq_some_iff.1 f2
    generalize pilotsOf k.toNat = ab at *
    obtain ⟨a, b⟩ := ab
    simp at hm f2 f3
    simp [hp, hl, lay_whole]
    refine ⟨by simpa using h6, ?_⟩
    by_cases ha : a = []
    · simp [f2, ha]
      simp [XEndT, hm, hp, ha]
    · simp [f2, ha]
      by_cases hb : b = []
      · simp [f3, hb, -getElem?_pos, List.getElem?_cons_zero, List.getElem?_cons_succ]
        cases plus <;> (try simp) <;> simp [XEndT, hm, hp, ha, hb]
      · simp [f3, hb, -getElem?_pos, List.getElem?_cons_zero, List.getElem?_cons_succ]
        cases plus <;> cases minus <;> (try simp) <;> simp [XEndT, hm, hp, ha, hb]
  · simp [hp, catRow, lay]
    simp [XEndT, movedAt, hp]

theorem pureL_map {α : Type} {f : α → AV} (h : ∀ x, pureA (f x) = true) : ∀ {l : List α}, pureL (l.map f) = true
  | [] => rfl
  | x :: l => by simp [pureL, h x, pureL_map h (l := l)]

/-- The role of a port, or -1. -/
def roleOf (k : Nat) (s : Txt) : Int := idxI (roles k) fun l => decide (s ∈ l)

theorem c_part_Role (k : Int) (s : Txt) (hk : 0 ≤ k ∧ k < 14) : Pure Go.Proofs.Tryz.prog GL 223 [.p (.int .i64 k), .p (.str s)] (.tup [.p (.int .i64 (if roleOf k.toNat s < 0 then 0 else roleOf k.toNat s)), .p (.int .i64 (if roleOf k.toNat s < 0 then 6 else 0))]) := by
  refine Pure.of_walk (N := 29) Go.Proofs.Tryz.func223 rfl rfl rfl (by simp) (by first | (simp; done) | simp [*]) ?_
  simp
  refine xcall_pure (c_part_find k) ?_
  have h3 : kindErr k = 0 := kindErr_ok.2 hk
  have hl := catRow_len (k := k.toNat)
  have h6 := catRow_one (k := k.toNat)
  obtain ⟨f1, f2, f3, f4, f5⟩ := catRow_facts (k := k.toNat) (by omega)
  have hsh : ∀ l ∈ roles k.toNat, l.length < 100 := (by decide : ∀ k, k < 14 → ∀ l ∈ roles k, l.length < 100) k.toNat (by omega)
  simp [h3, hl, lay_whole]
  refine ⟨by simpa using h6, ?_⟩
  have hren := fun ρ => renL_pure (ρ := ρ) (pureL_map (f := fun l : List Txt => AV.p (PV.lst 1 (l.map Txt.enc))) (fun _ => rfl) (l := roles k.toNat))
  simp [f4]
  refine XLoop.go [1, 19] [] 0 [] (fun _ => []) (fun _ (r : Nat) => [(20, .p (.int .i64 r))]) (fun _ _ => []) (fun r => r ≤ 5 ∧ ∀ (j : Nat) x, j < r → (roles k.toNat)[j]? = some x → decide (s ∈ x) = false) (fun r => 5 - r) 0 ⟨by omega, fun j x h => by omega⟩ ?_ ?_
  · simp [hren]
  · rintro r ⟨hr, hp⟩
    simp
    refine xif_split (fun h => ?_) (fun h => ?_)
    · simp at h
      obtain ⟨x, e⟩ := get_lt (xs := roles k.toNat) (k := r) (by omega)
      simp [h, e, f5, -getElem?_pos, List.getElem?_cons_zero, List.getElem?_cons_succ]
      refine xcall_pure (c_Con_Txt x s (by have := hsh x (List.mem_of_getElem? e); omega)) ?_
      simp
      by_cases h2 : s ∈ x
      · have hro : roleOf k.toNat s = r := idxI_at (q := fun l => decide (s ∈ l)) e (by simpa using h2) hp
        have h0 : ¬ (r : Int) < 0 := by omega
        simp [h2]
        simp [XEndT, hro, h0]
      · simp [h2]
        refine ⟨wrap_i64 (by omega) (by omega), r + 1, ⟨by omega, ?_⟩, by omega, ?_⟩
        · simpa using below_next (P := fun l => decide (s ∈ l) = false) hp e (by simpa using h2)
        · simp [hren]
    · simp at h
      have h7 : r = (roles k.toNat).length := by omega
      subst h7
      have hro : roleOf k.toNat s = -1 := idxI_none (q := fun l => decide (s ∈ l)) (below_all hp)
      simp [XEndT, hro]

end Go.Am
/- Contracts: everyday functions of package slices, at int and at ports. -/
namespace Go.Am
open Go Go.Proofs Go.Pn


theorem c_IdxF_Int (xs : List Int) (q : Int → Bool) (m : Nat) (cap : List AV) (hcap : pureL cap = true) (hl : xs.length < 4611686018427387904) (hq : ∀ x ∈ xs, Pure Go.Proofs.Tryz.prog GL m ((Int.av x) :: cap) (.p (.bool (q x)))) : Pure Go.Proofs.Tryz.prog GL 142 [.p (.lst 1 (xs.map Int.enc)), .fn (.func m) cap] (.p (.int .i64 (idxI xs q))) := by
  refine Pure.of_walk (N := 19) Go.Proofs.Tryz.func142 rfl rfl rfl (by simp) (by first | (simp; done) | simp [*]) ?_
  have hren := fun ρ => (renA_pure (ρ := ρ)).2 cap hcap
  simp
  refine XLoop.go [0, 1, 7] [] 0 [] (fun _ => []) (fun _ (k : Nat) => [(8, .p (.int .i64 k))]) (fun _ _ => []) (fun k => k ≤ xs.length ∧ ∀ (j : Nat) x, j < k → xs[j]? = some x → q x = false) (fun k => xs.length - k) 0 ⟨by omega, fun j b h => by omega⟩ ?_ ?_
  · simp [hren]
  · rintro k ⟨hk, hp⟩
    simp
    refine xif_split (fun h => ?_) (fun h => ?_)
    · simp at h
      obtain ⟨x, e⟩ := get_lt h
      simp [h, e, -getElem?_pos, List.getElem?_cons_zero, List.getElem?_cons_succ]
      refine xcall_pure (hq x (List.mem_of_getElem? e)) ?_
      simp
      refine xif_split (fun h2 => ?_) (fun h2 => ?_)
      · simp [XEndT, idxI_at e h2 hp]
      · simp [hren]
        refine ⟨wrap_i64 (by omega) (by omega), k + 1, ⟨by omega, below_next hp e h2⟩, by omega, ?_⟩
        simp [hren]
    · simp at h
      have hk2 : k = xs.length := by omega
      subst hk2
      simp [XEndT, idxI_none (below_all hp)]

theorem c_IdxF_Port (xs : List Port) (q : Port → Bool) (m : Nat) (cap : List AV) (hcap : pureL cap = true) (hl : xs.length < 4611686018427387904) (hq : ∀ x ∈ xs, Pure Go.Proofs.Tryz.prog GL m ((Port.av x) :: cap) (.p (.bool (q x)))) : Pure Go.Proofs.Tryz.prog GL 135 [.p (.lst 2 (xs.map Port.enc)), .fn (.func m) cap] (.p (.int .i64 (idxI xs q))) := by
  refine Pure.of_walk (N := 19) Go.Proofs.Tryz.func135 rfl rfl rfl (by simp) (by first | (simp; done) | simp [*]) ?_
  have hren := fun ρ => (renA_pure (ρ := ρ)).2 cap hcap
  simp
  refine XLoop.go [0, 1, 7] [] 0 [] (fun _ => []) (fun _ (k : Nat) => [(8, .p (.int .i64 k))]) (fun _ _ => []) (fun k => k ≤ xs.length ∧ ∀ (j : Nat) x, j < k → xs[j]? = some x → q x = false) (fun k => xs.length - k) 0 ⟨by omega, fun j b h => by omega⟩ ?_ ?_
  · simp [hren]
  · rintro k ⟨hk, hp⟩
    simp
    refine xif_split (fun h => ?_) (fun h => ?_)
    · simp at h
      obtain ⟨x, e⟩ := get_lt h
      simp [h, e, -getElem?_pos, List.getElem?_cons_zero, List.getElem?_cons_succ]
      refine xcall_pure (hq x (List.mem_of_getElem? e)) ?_
      simp
      refine xif_split (fun h2 => ?_) (fun h2 => ?_)
      · simp [XEndT, idxI_at e h2 hp]
      · simp [hren]
        refine ⟨wrap_i64 (by omega) (by omega), k + 1, ⟨by omega, below_next hp e h2⟩, by omega, ?_⟩
        simp [hren]
    · simp at h
      have hk2 : k = xs.length := by omega
      subst hk2
      simp [XEndT, idxI_none (below_all hp)]

theorem c_ConF_Int (xs : List Int) (q : Int → Bool) (m : Nat) (cap : List AV) (hcap : pureL cap = true) (hl : xs.length < 4611686018427387904) (hq : ∀ x ∈ xs, Pure Go.Proofs.Tryz.prog GL m ((Int.av x) :: cap) (.p (.bool (q x)))) : Pure Go.Proofs.Tryz.prog GL 69 [.p (.lst 1 (xs.map Int.enc)), .fn (.func m) cap] (.p (.bool (xs.any q))) := by
  refine Pure.of_walk (N := 9) Go.Proofs.Tryz.func69 rfl rfl rfl (by simp) (by first | (simp; done) | simp [*]) ?_
  simp
  refine xcall_pure (c_IdxF_Int xs q m cap hcap hl hq) ?_
  simp [XEndT]
  rw [Bool.eq_iff_iff]
  simp [idxI_nonneg]

theorem c_ConF_Port (xs : List Port) (q : Port → Bool) (m : Nat) (cap : List AV) (hcap : pureL cap = true) (hl : xs.length < 4611686018427387904) (hq : ∀ x ∈ xs, Pure Go.Proofs.Tryz.prog GL m ((Port.av x) :: cap) (.p (.bool (q x)))) : Pure Go.Proofs.Tryz.prog GL 62 [.p (.lst 2 (xs.map Port.enc)), .fn (.func m) cap] (.p (.bool (xs.any q))) := by
  refine Pure.of_walk (N := 9) Go.Proofs.Tryz.func62 rfl rfl rfl (by simp) (by first | (simp; done) | simp [*]) ?_
  simp
  refine xcall_pure (c_IdxF_Port xs q m cap hcap hl hq) ?_
  simp [XEndT]
  rw [Bool.eq_iff_iff]
  simp [idxI_nonneg]

theorem c_Idx_Int (xs : List Int) (v : Int) (hl : xs.length < 4611686018427387904) : Pure Go.Proofs.Tryz.prog GL 134 [.p (.lst 1 (xs.map Int.enc)), Int.av v] (.p (.int .i64 (idxI xs fun x => decide (x = v)))) := by
  refine Pure.of_walk (N := 19) Go.Proofs.Tryz.func134 rfl rfl rfl (by simp) (by first | (simp; done) | simp [*]) ?_
  simp
  refine XLoop.go [0, 1, 7] [] 0 [] (fun _ => []) (fun _ (k : Nat) => [(8, .p (.int .i64 k))]) (fun _ _ => []) (fun k => k ≤ xs.length ∧ ∀ (j : Nat) x, j < k → xs[j]? = some x → decide (x = v) = false) (fun k => xs.length - k) 0 ⟨by omega, fun j b h => by omega⟩ ?_ ?_
  · simp
  · rintro k ⟨hk, hp⟩
    simp
    refine xif_split (fun h => ?_) (fun h => ?_)
    · simp at h
      obtain ⟨x, e⟩ := get_lt h
      skip
      simp [h, e, -getElem?_pos, List.getElem?_cons_zero, List.getElem?_cons_succ]
      skip
      refine xif_split (fun h2 => ?_) (fun h2 => ?_)
      · have h3 : decide (x = v) = true := by grind
        simp [XEndT, idxI_at (q := fun x => decide (x = v)) e h3 hp]
      · have h3 : decide (x = v) = false := by grind
        simp
        refine ⟨wrap_i64 (by omega) (by omega), k + 1, ⟨by omega, ?_⟩, by omega, ?_⟩
        · simpa using below_next (P := fun x => decide (x = v) = false) hp e h3
        · simp
    · simp at h
      have hk2 : k = xs.length := by omega
      subst hk2
      simp [XEndT, idxI_none (q := fun x => decide (x = v)) (below_all hp)]

theorem c_Con_Int (xs : List Int) (v : Int) (hl : xs.length < 4611686018427387904) : Pure Go.Proofs.Tryz.prog GL 61 [.p (.lst 1 (xs.map Int.enc)), Int.av v] (.p (.bool (decide (v ∈ xs)))) := by
  refine Pure.of_walk (N := 9) Go.Proofs.Tryz.func61 rfl rfl rfl (by simp) (by first | (simp; done) | simp [*]) ?_
  simp
  refine xcall_pure (c_Idx_Int xs v hl) ?_
  simp [XEndT, idxI_nonneg]

theorem c_Eq_Int (xs ys : List Int) (hl : xs.length < 4611686018427387904) : Pure Go.Proofs.Tryz.prog GL 55 [.p (.lst 1 (xs.map Int.enc)), .p (.lst 1 (ys.map Int.enc))] (.p (.bool (decide (xs = ys)))) := by
  refine Pure.of_walk (N := 26) Go.Proofs.Tryz.func55 rfl rfl rfl (by simp) (by first | (simp; done) | simp [*]) ?_
  simp
  refine xif_split (fun h0 => ?_) (fun h0 => ?_)
  · simp at h0
    have hne : ¬ xs = ys := fun h => h0 (by rw [h])
    simp [XEndT, hne]
  · simp at h0
    simp
    refine XLoop.go [0, 1, 12] [] 0 [] (fun _ => []) (fun _ (k : Nat) => [(13, .p (.int .i64 k))]) (fun _ _ => []) (fun k => k ≤ xs.length ∧ ∀ (j : Nat), j < k → xs[j]? = ys[j]?) (fun k => xs.length - k) 0 ⟨by omega, fun j h => by omega⟩ ?_ ?_
    · simp
    · rintro k ⟨hk, hp⟩
      simp
      refine xif_split (fun h => ?_) (fun h => ?_)
      · simp at h
        obtain ⟨x, e⟩ := get_lt h
        have h2 : k < ys.length := by omega
        obtain ⟨y, e2⟩ := get_lt h2
        simp
        refine XDraw.intro (by kernel_rfl) ?_
        simp [h, e, h2, e2, -getElem?_pos, List.getElem?_cons_zero, List.getElem?_cons_succ]
        refine ⟨.of (by kernel_rfl), ?_⟩
        refine xif_split (fun h3 => ?_) (fun h3 => ?_)
        · have hne : ¬ xs = ys := fun h => by subst h; rw [e] at e2; cases e2; simp at h3
          simp [XEndT, hne]
        · have hxy : x = y := by simpa using h3
          subst hxy
          simp
          refine ⟨wrap_i64 (by omega) (by omega), k + 1, ⟨by omega, fun j hj => ?_⟩, by omega, ?_⟩
          · by_cases hjk : j = k
            · subst hjk; rw [e, e2]
            · exact hp j (by omega)
          · simp
      · simp at h
        have hk2 : k = xs.length := by omega
        have hxy : xs = ys := List.ext_getElem? fun j => by
          by_cases hj : j < k
          · exact hp j hj
          · rw [List.getElem?_eq_none (by omega), List.getElem?_eq_none (by omega)]
        simp [XEndT, hxy]


end Go.Am
/- Contracts: chapter 24: Check of both, Few; in, feeds, back of the reference. -/
namespace Go.Am
open Go Go.Proofs Go.Pn

@[simp] abbrev Ints.av (l : List Int) : AV := .p (.lst 1 (l.map Int.enc))
def Ints.enc (l : List Int) : List PV := [.lst 1 (l.map Int.enc)]

/-- The error of a position. -/
def posAt (c : Circuit) (l : List Int) (i : Nat) : Int := match c.parts[i]?, l[i]? with
  | some p, some a => if a < 0 ∨ (manyOf p.kind.toNat : Int) ≤ a then 2 else 0
  | _, _ => 0
def checkQ (c : Circuit) (l : List Int) : Int := if checkP c ≠ 0 then checkP c else if l.length ≠ c.parts.length then 8 else firstErr (posAt c l) l.length

theorem checkQ_zero {c : Circuit} {l : List Int} (h : checkQ c l = 0) : checkP c = 0 ∧ l.length = c.parts.length ∧ ∀ (i : Nat) p, c.parts[i]? = some p → ∃ a, l[i]? = some a ∧ placedErr p.kind a = 0 ∧ (0 ≤ p.kind ∧ p.kind < 14) := by
  unfold checkQ at h
  have h1 : checkP c = 0 := by
    apply Decidable.byContradiction
    intro hn
    rw [if_pos hn] at h; exact hn h
  rw [if_neg (by simpa using h1)] at h
  have h2 : l.length = c.parts.length := by
    apply Decidable.byContradiction
    intro hn
    rw [if_pos hn] at h; cases h
  rw [if_neg (by simpa using h2)] at h
  refine ⟨h1, h2, fun i p hp => ?_⟩
  have hi : i < l.length := by rw [h2]; exact (List.getElem?_eq_some_iff.1 hp).1
  obtain ⟨a, ha⟩ := get_lt hi
  have h3 := firstErr_iff.1 h i hi
  have hk := (check_parts h1).1 p (List.mem_of_getElem? hp)
  simp only [posAt, hp, ha] at h3
  refine ⟨a, ha, ?_, hk⟩
  unfold placedErr
  rw [kindErr_ok.2 hk]
  simpa using h3

set_option maxRecDepth 20000 in
theorem c_pressure_Check (c : Circuit) (l : List Int) (hs : Sized c) (hl : l.length < 4611686018427387904) : Pure Go.Proofs.Tryz.prog GL 53 [c.av, Ints.av l] (.p (.int .i64 (checkQ c l))) := by
  refine Pure.of_walk (N := 49) Go.Proofs.Tryz.func53 rfl rfl rfl (by simp) (by first | (simp; done) | simp [*]) ?_
  simp [Ints.av]
  refine xcall_pure (c_circuit_Check c hs) ?_
  by_cases hc : checkP c = 0
  · have h2 := check_parts hc
    simp [hc]
    by_cases hn : l.length = c.parts.length
    · simp [hn]
      refine XLoop.go [2, 21, 22] [0] 0 [] (fun _ => []) (fun _ (k : Nat) => [(23, .p (.int .i64 k))]) (fun _ _ => []) (fun k => k ≤ l.length ∧ firstErr (posAt c l) k = 0) (fun k => l.length - k) 0 ⟨by omega, rfl⟩ ?_ ?_
      · simp
        try decide
      · rintro k ⟨hk, hp⟩
        simp
        refine xif_split (fun h => ?_) (fun h => ?_)
        · simp at h
          obtain ⟨x, e⟩ := get_lt h
          obtain ⟨a, e2⟩ := get_lt (xs := l) (k := k) (by omega)
          have hkx := h2.1 x (List.mem_of_getElem? e)
          have h3 : kindErr x.kind = 0 := kindErr_ok.2 hkx
          have hpa : posAt c l k = if a < 0 ∨ (manyOf x.kind.toNat : Int) ≤ a then 2 else 0 := by simp only [posAt, e, e2]
          have hkl : k < l.length := by omega
          simp [h, e, e2, hkl, -getElem?_pos, List.getElem?_cons_zero, List.getElem?_cons_succ]
          refine xcall_pure (c_part_Positions x.kind) ?_
          simp [h3]
          by_cases b1 : a < 0 ∨ (manyOf x.kind.toNat : Int) ≤ a
          · have hq : checkQ c l = 2 := by
              rw [if_pos b1] at hpa
              rw [checkQ, if_neg (by simpa using hc), if_neg (by simpa using hn), firstErr_at hp hkl (by rw [hpa]; decide), hpa]
            by_cases b2 : a < 0
            · simp [b2]
              simp [XEndT, hq]
            · have b3 : (manyOf x.kind.toNat : Int) ≤ a := by omega
              simp [b2, b3]
              simp [XEndT, hq]
          · have b2 : ¬ a < 0 := by omega
            have b3 : ¬ (manyOf x.kind.toNat : Int) ≤ a := by omega
            rw [if_neg b1] at hpa
            simp [b2, b3]
            refine ⟨wrap_i64 (by omega) (by omega), k + 1, ⟨by omega, firstErr_next hp hpa⟩, by omega, ?_⟩
            simp
            try decide
        · simp at h
          have hk2 : k = l.length := by omega
          have hq : checkQ c l = 0 := by rw [checkQ, if_neg (by simpa using hc), if_neg (by simpa using hn), ← hk2, hp]
          simp [XEndT, hq]
    · have hn2 : ¬ (l.length : Int) = c.parts.length := by omega
      simp [hn2]
      simp [XEndT, checkQ, hc, hn]
  · simp [hc, XEndT, checkQ]

set_option maxRecDepth 20000 in
theorem c_pneumaticref24_Check (c : Circuit) (l : List Int) (hs : Sized c) (hl : l.length < 4611686018427387904) : Pure Go.Proofs.Tryz.prog GL 54 [c.av, Ints.av l] (.p (.int .i64 (checkQ c l))) := by
  refine Pure.of_walk (N := 43) Go.Proofs.Tryz.func54 rfl rfl rfl (by simp) (by first | (simp; done) | simp [*]) ?_
  simp [Ints.av]
  refine xcall_pure (c_pneumaticref21_Check c hs) ?_
  by_cases hc : checkP c = 0
  · have h2 := check_parts hc
    simp [hc]
    by_cases hn : l.length = c.parts.length
    · simp [hn]
      refine XLoop.go [1, 2] [0] 0 [] (fun _ => []) (fun _ (k : Nat) => [(6, .p (.int .i64 k))]) (fun _ _ => []) (fun k => k ≤ l.length ∧ firstErr (posAt c l) k = 0) (fun k => l.length - k) 0 ⟨by omega, rfl⟩ ?_ ?_
      · simp
        try decide
      · rintro k ⟨hk, hp⟩
        simp
        refine xif_split (fun h => ?_) (fun h => ?_)
        · simp at h
          obtain ⟨a, e2⟩ := get_lt h
          obtain ⟨x, e⟩ := get_lt (xs := c.parts) (k := k) (by omega)
          have hkx := h2.1 x (List.mem_of_getElem? e)
          have hpa : posAt c l k = if a < 0 ∨ (manyOf x.kind.toNat : Int) ≤ a then 2 else 0 := by simp only [posAt, e, e2]
          have hkc : k < c.parts.length := by omega
          have hkk : ((x.kind.toNat : Nat) : Int) = x.kind := by omega
          have hmany := c_pneumaticref20_Many x.kind.toNat (by omega)
          rw [hkk] at hmany
          simp
          refine XDraw.intro (by kernel_rfl) ?_
          simp [h, e2, -getElem?_pos, List.getElem?_cons_zero, List.getElem?_cons_succ]
          by_cases b2 : a < 0
          · simp [b2]
            refine ⟨.of (by kernel_rfl), ?_⟩
            have hq : checkQ c l = 2 := by
              rw [if_pos (.inl b2)] at hpa
              rw [checkQ, if_neg (by simpa using hc), if_neg (by simpa using hn), firstErr_at hp h (by rw [hpa]; decide), hpa]
            simp [XEndT, hq]
          · simp [b2, h, e2, hkc, e, -getElem?_pos, List.getElem?_cons_zero, List.getElem?_cons_succ]
            refine xcall_pure hmany ?_
            simp
            refine ⟨.of (by kernel_rfl), ?_⟩
            by_cases b3 : (manyOf x.kind.toNat : Int) ≤ a
            · have hq : checkQ c l = 2 := by
                rw [if_pos (.inr b3)] at hpa
                rw [checkQ, if_neg (by simpa using hc), if_neg (by simpa using hn), firstErr_at hp h (by rw [hpa]; decide), hpa]
              simp [b3]
              simp [XEndT, hq]
            · rw [if_neg (by omega)] at hpa
              simp [b3]
              refine ⟨wrap_i64 (by omega) (by omega), k + 1, ⟨by omega, firstErr_next hp hpa⟩, by omega, ?_⟩
              simp
              try decide
        · simp at h
          have hk2 : k = l.length := by omega
          have hq : checkQ c l = 0 := by rw [checkQ, if_neg (by simpa using hc), if_neg (by simpa using hn), ← hk2, hp]
          simp [XEndT, hq]
    · have hn2 : ¬ (l.length : Int) = c.parts.length := by omega
      simp [hn2]
      simp [XEndT, checkQ, hc, hn]
  · simp [hc, XEndT, checkQ]

theorem c_pneumaticref24_Few (c : Circuit) (l : List Int) (hs : Sized c) : Pure Go.Proofs.Tryz.prog GL 43 [c.av, Ints.av l] (.p (.bool (fewP c && decide (l.length ≤ 200)))) := by
  refine Pure.of_walk (N := 12) Go.Proofs.Tryz.func43 rfl rfl rfl (by simp) (by first | (simp; done) | simp [*]) ?_
  simp [Ints.av]
  refine xcall_pure (c_pneumaticref21_Few c hs) ?_
  cases h : fewP c with
  | true =>
    simp
    simp [XEndT]
    omega
  | false => simp [XEndT]

theorem c_pneumaticlaw24_right (c : Circuit) (l : List Int) (hs : Sized c) (hl : l.length < 4611686018427387904) : Pure Go.Proofs.Tryz.prog GL 56 [c.av, Ints.av l] (.p (.bool (fewP c && decide (l.length ≤ 200) && decide (checkQ c l = 0)))) := by
  refine Pure.of_walk (N := 14) Go.Proofs.Tryz.func56 rfl rfl rfl (by simp) (by first | (simp; done) | simp [*]) ?_
  simp
  refine xcall_pure (c_pneumaticref24_Few c l hs) ?_
  cases h : (fewP c && decide (l.length ≤ 200)) with
  | true =>
    simp
    refine xcall_pure (c_pneumaticref24_Check c l hs hl) ?_
    simp [XEndT]
  | false => simp [XEndT]

end Go.Am
/- Contracts: chapter 24, the reference: in, feeds, back, open, Acts. -/
namespace Go.Am
open Go Go.Proofs Go.Pn

abbrev Bool.enc (b : Bool) : List PV := [.bool b]
abbrev Bool.row (b : Bool) : List AV := [.p (.bool b)]
abbrev Bools.av (l : List Bool) : AV := .p (.lst 1 (l.map Bool.enc))

def netN (c : Circuit) (i : Int) (s : Txt) : Nat := (netP c ⟨i, s⟩).toNat
theorem netN_at {c : Circuit} (h : checkP c = 0) {i : Int} {s : Txt} (hp : (⟨i, s⟩ : Port) ∈ allP c) : netP c ⟨i, s⟩ = netN c i s ∧ netN c i s < (nets c).length := by
  obtain ⟨_, n, g, h1, h2, _⟩ := netP_at3 h hp
  unfold netN
  rw [h1]
  exact ⟨by omega, by omega⟩

def mkd (m : List Bool) (n : Nat) : Bool := (m[n]?).getD false
def cntIn (c : Circuit) (m : List Bool) (i : Int) (ns : List Txt) : Nat := (ns.filter fun s => mkd m (netN c i s)).length

theorem c_pneumaticref24_in (c : Circuit) (hc : checkP c = 0) (m : List Bool) (i : Int) (ns : List Txt) (hm : m.length = (nets c).length) (hn : ∀ s ∈ ns, (⟨i, s⟩ : Port) ∈ allP c) (hl : ns.length < 1000) : Pure Go.Proofs.Tryz.prog GL 183 [.p (.lst 1 ((nets c).map Ports.enc)), Bools.av m, .p (.int .i64 i), .p (.lst 1 (ns.map Txt.enc))] (.tup [.p (.int .i64 (cntIn c m i ns)), .p (.int .i64 ns.length)]) := by
  refine Pure.of_walk (N := 34) Go.Proofs.Tryz.func183 rfl rfl rfl (by simp) (by first | (simp; done) | simp [*]) ?_
  have hnl := netsL hc
  simp
  refine XLoop.go [0, 1, 2, 3] [] 0 [] (fun _ => []) (fun _ (k : Nat) => [(10, .p (.int .i64 (cntIn c m i (ns.take k)))), (11, .p (.int .i64 k))]) (fun _ _ => []) (fun k => k ≤ ns.length) (fun k => ns.length - k) 0 (by omega) ?_ ?_
  · simp [cntIn]
  · intro k hk
    have hsn := fun (x : Txt) (e : ns[k]? = some x) => filter_snoc (p := fun s => mkd m (netN c i s)) e
    have hle : cntIn c m i (ns.take k) ≤ k := by
      have := List.length_filter_le (fun s => mkd m (netN c i s)) (ns.take k)
      simp at this
      unfold cntIn
      omega
    simp
    refine xif_split (fun h => ?_) (fun h => ?_)
    · simp at h
      obtain ⟨s, e⟩ := get_lt h
      obtain ⟨g1, g2⟩ := netN_at hc (hn s (List.mem_of_getElem? e))
      have hsn : cntIn c m i (ns.take (k + 1)) = cntIn c m i (ns.take k) + if mkd m (netN c i s) then 1 else 0 := by
        unfold cntIn
        rw [hsn s e, List.length_append]
        split <;> simp
      have hlt : netN c i s < m.length := by omega
      obtain ⟨b, e2⟩ := get_lt hlt
      have hmk : mkd m (netN c i s) = b := by simp [mkd, e2, -getElem?_pos]
      simp [h, e, -getElem?_pos, List.getElem?_cons_zero, List.getElem?_cons_succ]
      refine xcall_pure (c_pneumaticref21_Which (nets c) ⟨i, s⟩ (by omega) (fun l hl => by have := hnl.2 l hl; omega)) ?_
      rw [← netP, g1]
      simp [hlt, e2, -getElem?_pos, List.getElem?_cons_zero, List.getElem?_cons_succ]
      cases b with
      | true =>
        simp
        refine ⟨wrap_i64 (by omega) (by omega), wrap_i64 (by omega) (by omega), k + 1, by omega, by omega, ?_⟩
        simp [hsn, hmk]
      | false =>
        simp
        refine ⟨wrap_i64 (by omega) (by omega), k + 1, by omega, by omega, ?_⟩
        simp [hsn, hmk]
    · simp at h
      have h3 : k = ns.length := by omega
      subst h3
      simp [XEndT]

end Go.Am
/- Contracts: chapter 24, the reference: feeds, back, open, Acts. -/
namespace Go.Am
open Go Go.Proofs Go.Pn

def posOf (l : List Int) (i : Int) : Int := (l[i.toNat]?).getD 0
def passAt (c : Circuit) (l : List Int) (i : Int) : List Pass := passedOf (kindAt c i).toNat (decide (posOf l i = 1))
def feed1 (c : Circuit) (m : List Bool) (p : Port) (y : Pass) : Bool := decide (y.to = p.name) && (decide (cntIn c m p.part y.fr = y.fr.length) || (decide (0 < cntIn c m p.part y.fr) && !y.all))
def back1 (c : Circuit) (m : List Bool) (p : Port) (y : Pass) : Bool := decide (y.to = p.name) && decide (0 < cntIn c m p.part y.fr)
def feedsB (c : Circuit) (l : List Int) (m : List Bool) (p : Port) : Bool := (passAt c l p.part).any (feed1 c m p)
def backB (c : Circuit) (l : List Int) (m : List Bool) (p : Port) : Bool := (passAt c l p.part).any (back1 c m p)
def ventAt (c : Circuit) (l : List Int) (i : Int) : Txt := (openOf (kindAt c i).toNat (decide (posOf l i = 1))).2
def openB (c : Circuit) (l : List Int) (p : Port) : Bool := decide (ventAt c l p.part = p.name) || decide (playsN (kindAt c p.part).toNat p.name = 2)

theorem passed_facts {k : Nat} (h : k < 14) (b : Bool) : ∀ y ∈ passedOf k b, y.to ∈ kindPorts k ∧ (∀ s ∈ y.fr, s ∈ kindPorts k) ∧ 1 ≤ y.fr.length ∧ y.fr.length ≤ 2 := by
  have t1 := (by decide : ∀ k, k < 14 → ∀ y ∈ passedOf k true, y.to ∈ kindPorts k ∧ (∀ s ∈ y.fr, s ∈ kindPorts k) ∧ 1 ≤ y.fr.length ∧ y.fr.length ≤ 2) k h
  have t2 := (by decide : ∀ k, k < 14 → ∀ y ∈ passedOf k false, y.to ∈ kindPorts k ∧ (∀ s ∈ y.fr, s ∈ kindPorts k) ∧ 1 ≤ y.fr.length ∧ y.fr.length ≤ 2) k h
  cases b
  · exact t2
  · exact t1
theorem passed_len {k : Nat} {b : Bool} : (passedOf k b).length ≤ 1 := by unfold passedOf; split <;> simp

structure PortFacts (c : Circuit) (l : List Int) (i : Nat) (q : Part) (a : Int) : Prop where
  here : c.parts[i]? = some q
  pos : l[i]? = some a
  lt : i < c.parts.length
  ltl : i < l.length
  kind : 0 ≤ q.kind ∧ q.kind < 14
  placed : placedErr q.kind a = 0
  pass : passAt c l i = passedOf q.kind.toNat (decide (a = 1))
  vent : ventAt c l i = (openOf q.kind.toNat (decide (a = 1))).2
  kat : kindAt c i = q.kind
  mem : ∀ s, s ∈ kindPorts q.kind.toNat → (⟨i, s⟩ : Port) ∈ allP c
  passes : passedAt q.kind a = passAt c l i
  vents : ventsAt q.kind a = ventsOf q.kind.toNat (decide (a = 1))

theorem part_facts {c : Circuit} {l : List Int} (h : checkQ c l = 0) {i : Nat} {q : Part} (e : c.parts[i]? = some q) : ∃ a, PortFacts c l i q a := by
  obtain ⟨h1, h2, h3⟩ := checkQ_zero h
  obtain ⟨a, ha, hpl, hk⟩ := h3 i q e
  have hi := (List.getElem?_eq_some_iff.1 e).1
  have hka : kindAt c (i : Int) = q.kind := by rw [kindAt, Int.toNat_natCast, e]; rfl
  have hpo : posOf l (i : Int) = a := by rw [posOf, Int.toNat_natCast, ha]; rfl
  have hpass : passAt c l i = passedOf q.kind.toNat (decide (a = 1)) := by rw [passAt, hka, hpo]
  refine ⟨a, ⟨e, ha, hi, by omega, hk, hpl, hpass, by rw [ventAt, hka, hpo], hka, fun s hs => ?_, by rw [hpass, passedAt, if_pos hpl], by rw [ventsAt, if_pos hpl]⟩⟩
  exact allP_mem.2 (given_mem.2 ⟨q, by rw [Int.toNat_natCast]; exact e, by simp, hs⟩)

theorem port_facts {c : Circuit} {l : List Int} (h : checkQ c l = 0) {p : Port} (hp : p ∈ allP c) : ∃ (i : Nat) (q : Part) (a : Int), p.part = (i : Int) ∧ p.name ∈ kindPorts q.kind.toNat ∧ PortFacts c l i q a := by
  obtain ⟨q, h1, h2, h3⟩ := given_mem.1 (allP_mem.1 hp)
  obtain ⟨a, ha⟩ := part_facts h h1
  exact ⟨p.part.toNat, q, a, by omega, h3, ha⟩


set_option maxRecDepth 20000 in
theorem c_pneumaticref24_feeds (c : Circuit) (l : List Int) (h : checkQ c l = 0) (m : List Bool) (hm : m.length = (nets c).length) (p : Port) (hp : p ∈ allP c) : Pure Go.Proofs.Tryz.prog GL 130 [c.av, Ints.av l, .p (.lst 1 ((nets c).map Ports.enc)), Bools.av m, p.av] (.p (.bool (feedsB c l m p))) := by
  refine Pure.of_walk (N := 70) Go.Proofs.Tryz.func130 rfl rfl rfl (by simp) (by first | (simp; done) | simp [*]) ?_
  have hc := (checkQ_zero h).1
  have hnl := netsL hc
  obtain ⟨i, q, a, hi, hnm, F⟩ := port_facts h hp
  obtain ⟨pi, pn⟩ := p
  simp only at hi hnm
  subst hi
  obtain ⟨f1, f2, f3, f4, f5, f6, f7, f8, f9, f10, _, _⟩ := F
  have hkk : ((q.kind.toNat : Nat) : Int) = q.kind := by omega
  have hq14 : q.kind.toNat < 14 := by omega
  have hpa := c_pneumaticref20_Passed q.kind.toNat a hq14
  have hpf := passed_facts hq14 (decide (a = 1))
  have hpl := @passed_len q.kind.toNat (decide (a = 1))
  rw [hkk] at hpa
  unfold feedsB
  rw [f7]
  generalize passedOf q.kind.toNat (decide (a = 1)) = L at hpa hpf hpl
  simp
  refine XDraw.intro (by kernel_rfl) ?_
  simp [f1, f2, f3, f4, -getElem?_pos, List.getElem?_cons_zero, List.getElem?_cons_succ]
  refine xcall_pure hpa ?_
  simp
  refine ⟨.of (by kernel_rfl), ?_⟩
  refine XLoop.go [2, 3, 9, 11] [1] 0 [] (fun _ => []) (fun _ (k : Nat) => [(12, .p (.int .i64 k))]) (fun _ _ => []) (fun k => k ≤ L.length ∧ ∀ (j : Nat) y, j < k → L[j]? = some y → feed1 c m ⟨i, pn⟩ y = false) (fun k => L.length - k) 0 ⟨by omega, fun j x h => by omega⟩ ?_ ?_
  · simp
    try decide
  · rintro k ⟨hk, hb⟩
    simp
    refine xif_split (fun h2 => ?_) (fun h2 => ?_)
    · simp at h2
      obtain ⟨y, e⟩ := get_lt h2
      have hy := List.mem_of_getElem? e
      obtain ⟨y1, y2, y3, y4⟩ := hpf y hy
      simp [h2, e, -getElem?_pos, List.getElem?_cons_zero, List.getElem?_cons_succ]
      refine XDraw.intro (by kernel_rfl) ?_
      simp [h2, e, -getElem?_pos, List.getElem?_cons_zero, List.getElem?_cons_succ]
      refine ⟨.of (by kernel_rfl), ?_⟩
      by_cases ht : y.to = pn
      · simp [ht]
        refine XDraw.intro (by kernel_rfl) ?_
        simp [h2, e, -getElem?_pos, List.getElem?_cons_zero, List.getElem?_cons_succ]
        refine xcall_pure (c_pneumaticref24_in c hc m i y.fr hm (fun s hs => f10 s (y2 s hs)) (by omega)) ?_
        simp
        refine ⟨.of (by kernel_rfl), ?_⟩
        by_cases hA : cntIn c m i y.fr = y.fr.length
        · have hres : (L.any (feed1 c m ⟨i, pn⟩)) = true := List.any_eq_true.2 ⟨y, hy, by simp [feed1, ht, hA]⟩
          simp [hA]
          simp [XEndT, hres]
        · have hA2 : ¬ ((cntIn c m i y.fr : Nat) : Int) = y.fr.length := by omega
          by_cases hB : 0 < cntIn c m i y.fr
          · have hB2 : (0 : Int) < (cntIn c m i y.fr : Nat) := by omega
            simp [hA2, hB, h2, e, -getElem?_pos, List.getElem?_cons_zero, List.getElem?_cons_succ]
            cases hall : y.all with
            | true =>
              simp
              refine ⟨wrap_i64 (by omega) (by omega), k + 1, ⟨by omega, below_next (P := fun y => feed1 c m ⟨i, pn⟩ y = false) hb e (by simp [feed1, hA, hall])⟩, by omega, ?_⟩
              simp
              try decide
            | false =>
              have hres : (L.any (feed1 c m ⟨i, pn⟩)) = true := List.any_eq_true.2 ⟨y, hy, by simp [feed1, ht, hB, hall]⟩
              simp
              simp [XEndT, hres]
          · have hB2 : ¬ (0 : Int) < (cntIn c m i y.fr : Nat) := by omega
            simp [hA2, hB]
            refine ⟨wrap_i64 (by omega) (by omega), k + 1, ⟨by omega, below_next (P := fun y => feed1 c m ⟨i, pn⟩ y = false) hb e (by simp [feed1, hA, hB])⟩, by omega, ?_⟩
            simp
            try decide
      · simp [ht]
        refine ⟨wrap_i64 (by omega) (by omega), k + 1, ⟨by omega, below_next (P := fun y => feed1 c m ⟨i, pn⟩ y = false) hb e (by simp [feed1, ht])⟩, by omega, ?_⟩
        simp
        try decide
    · simp at h2
      have hk3 : k = L.length := by omega
      subst hk3
      have hres : (L.any (feed1 c m ⟨i, pn⟩)) = false := List.any_eq_false.2 fun y hy => by
        have := below_all hb y hy
        simp [this]
      rw [hres]
      simp [XEndT]

set_option maxRecDepth 20000 in
theorem c_pneumaticref24_back (c : Circuit) (l : List Int) (h : checkQ c l = 0) (m : List Bool) (hm : m.length = (nets c).length) (p : Port) (hp : p ∈ allP c) : Pure Go.Proofs.Tryz.prog GL 178 [c.av, Ints.av l, .p (.lst 1 ((nets c).map Ports.enc)), Bools.av m, p.av] (.p (.bool (backB c l m p))) := by
  refine Pure.of_walk (N := 59) Go.Proofs.Tryz.func178 rfl rfl rfl (by simp) (by first | (simp; done) | simp [*]) ?_
  have hc := (checkQ_zero h).1
  have hnl := netsL hc
  obtain ⟨i, q, a, hi, hnm, F⟩ := port_facts h hp
  obtain ⟨pi, pn⟩ := p
  simp only at hi hnm
  subst hi
  obtain ⟨f1, f2, f3, f4, f5, f6, f7, f8, f9, f10, _, _⟩ := F
  have hkk : ((q.kind.toNat : Nat) : Int) = q.kind := by omega
  have hq14 : q.kind.toNat < 14 := by omega
  have hpa := c_pneumaticref20_Passed q.kind.toNat a hq14
  have hpf := passed_facts hq14 (decide (a = 1))
  have hpl := @passed_len q.kind.toNat (decide (a = 1))
  rw [hkk] at hpa
  unfold backB
  rw [f7]
  generalize passedOf q.kind.toNat (decide (a = 1)) = L at hpa hpf hpl
  simp
  refine XDraw.intro (by kernel_rfl) ?_
  simp [f1, f2, f3, f4, -getElem?_pos, List.getElem?_cons_zero, List.getElem?_cons_succ]
  refine xcall_pure hpa ?_
  simp
  refine ⟨.of (by kernel_rfl), ?_⟩
  refine XLoop.go [2, 3, 9, 11] [1] 0 [] (fun _ => []) (fun _ (k : Nat) => [(12, .p (.int .i64 k))]) (fun _ _ => []) (fun k => k ≤ L.length ∧ ∀ (j : Nat) y, j < k → L[j]? = some y → back1 c m ⟨i, pn⟩ y = false) (fun k => L.length - k) 0 ⟨by omega, fun j x h => by omega⟩ ?_ ?_
  · simp
    try decide
  · rintro k ⟨hk, hb⟩
    simp
    refine xif_split (fun h2 => ?_) (fun h2 => ?_)
    · simp at h2
      obtain ⟨y, e⟩ := get_lt h2
      have hy := List.mem_of_getElem? e
      obtain ⟨y1, y2, y3, y4⟩ := hpf y hy
      simp [h2, e, -getElem?_pos, List.getElem?_cons_zero, List.getElem?_cons_succ]
      refine XDraw.intro (by kernel_rfl) ?_
      simp [h2, e, -getElem?_pos, List.getElem?_cons_zero, List.getElem?_cons_succ]
      refine xcall_pure (c_pneumaticref24_in c hc m i y.fr hm (fun s hs => f10 s (y2 s hs)) (by omega)) ?_
      simp
      refine ⟨.of (by kernel_rfl), ?_⟩
      refine XDraw.intro (by kernel_rfl) ?_
      simp [h2, e, -getElem?_pos, List.getElem?_cons_zero, List.getElem?_cons_succ]
      by_cases ht : y.to = pn
      · simp [ht]
        refine ⟨.of (by kernel_rfl), ?_⟩
        by_cases hB : 0 < cntIn c m i y.fr
        · have hB2 : (0 : Int) < (cntIn c m i y.fr : Nat) := by omega
          have hres : (L.any (back1 c m ⟨i, pn⟩)) = true := List.any_eq_true.2 ⟨y, hy, by simp [back1, ht, hB]⟩
          simp [hB]
          simp [XEndT, hres]
        · have hB2 : ¬ (0 : Int) < (cntIn c m i y.fr : Nat) := by omega
          simp [hB]
          refine ⟨wrap_i64 (by omega) (by omega), k + 1, ⟨by omega, below_next (P := fun y => back1 c m ⟨i, pn⟩ y = false) hb e (by simp [back1, hB])⟩, by omega, ?_⟩
          simp
          try decide
      · simp [ht]
        refine ⟨.of (by kernel_rfl), ?_⟩
        refine ⟨wrap_i64 (by omega) (by omega), k + 1, ⟨by omega, below_next (P := fun y => back1 c m ⟨i, pn⟩ y = false) hb e (by simp [back1, ht])⟩, by omega, ?_⟩
        simp
        try decide
    · simp at h2
      have hk3 : k = L.length := by omega
      subst hk3
      have hres : (L.any (back1 c m ⟨i, pn⟩)) = false := List.any_eq_false.2 fun y hy => by
        have := below_all hb y hy
        simp [this]
      rw [hres]
      simp [XEndT]

set_option maxRecDepth 20000 in
theorem c_pneumaticref24_open (c : Circuit) (l : List Int) (h : checkQ c l = 0) (p : Port) (hp : p ∈ allP c) : Pure Go.Proofs.Tryz.prog GL 177 [c.av, Ints.av l, p.av] (.p (.bool (openB c l p))) := by
  refine Pure.of_walk (N := 42) Go.Proofs.Tryz.func177 rfl rfl rfl (by simp) (by first | (simp; done) | simp [*]) ?_
  have hc := (checkQ_zero h).1
  have hnl := netsL hc
  obtain ⟨i, q, a, hi, hnm, F⟩ := port_facts h hp
  obtain ⟨pi, pn⟩ := p
  simp only at hi hnm
  subst hi
  obtain ⟨f1, f2, f3, f4, f5, f6, f7, f8, f9, f10, _, _⟩ := F
  have hkk : ((q.kind.toNat : Nat) : Int) = q.kind := by omega
  have hq14 : q.kind.toNat < 14 := by omega
  have hpa := c_pneumaticref20_Open q.kind.toNat a hq14
  have hpy := c_pneumaticref20_Plays q.kind.toNat pn hq14
  rw [hkk] at hpa hpy
  unfold openB
  rw [f8, f9]
  simp
  refine XDraw.intro (by kernel_rfl) ?_
  simp [f1, f2, f3, f4, -getElem?_pos, List.getElem?_cons_zero, List.getElem?_cons_succ]
  refine xcall_pure hpa ?_
  generalize openOf q.kind.toNat (decide (a = 1)) = vo
  simp
  refine ⟨.of (by kernel_rfl), ?_⟩
  refine XDraw.intro (by kernel_rfl) ?_
  simp
  by_cases hv : vo.2 = pn
  · simp [hv]
    refine ⟨.of (by kernel_rfl), ?_⟩
    simp [XEndT]
  · simp [hv, f1, f3, -getElem?_pos, List.getElem?_cons_zero, List.getElem?_cons_succ]
    refine xcall_pure hpy ?_
    simp
    refine ⟨.of (by kernel_rfl), ?_⟩
    simp [XEndT, hv]

def actsB (c : Circuit) (m : List Bool) (i : Int) (s : Txt) : Bool := if s = [] then false else mkd m (netN c i s)

theorem c_pneumaticref24_Acts (c : Circuit) (hc : checkP c = 0) (m : List Bool) (hm : m.length = (nets c).length) (i : Int) (s : Txt) (hs : s ≠ [] → (⟨i, s⟩ : Port) ∈ allP c) : Pure Go.Proofs.Tryz.prog GL 126 [.p (.lst 1 ((nets c).map Ports.enc)), Bools.av m, .p (.int .i64 i), .p (.str s)] (.p (.bool (actsB c m i s))) := by
  refine Pure.of_walk (N := 19) Go.Proofs.Tryz.func126 rfl rfl rfl (by simp) (by first | (simp; done) | simp [*]) ?_
  have hnl := netsL hc
  simp
  by_cases h : s = []
  · simp [h]
    simp [XEndT, actsB]
  · obtain ⟨g1, g2⟩ := netN_at hc (hs h)
    have hlt : netN c i s < m.length := by omega
    obtain ⟨b, e2⟩ := get_lt hlt
    have hmk : mkd m (netN c i s) = b := by simp [mkd, e2, -getElem?_pos]
    simp [h]
    refine xcall_pure (c_pneumaticref21_Which (nets c) ⟨i, s⟩ (by omega) (fun l hl => by have := hnl.2 l hl; omega)) ?_
    rw [← netP, g1]
    simp [hlt, e2, -getElem?_pos, List.getElem?_cons_zero, List.getElem?_cons_succ]
    simp [XEndT, actsB, h, hmk]

end Go.Am
