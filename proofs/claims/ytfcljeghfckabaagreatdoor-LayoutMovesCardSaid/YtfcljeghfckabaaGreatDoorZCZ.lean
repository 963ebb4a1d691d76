/- Lemmas and contracts for the proof of a statement of this seat. -/
import Derived.Test.YtfcljeghfckabaaGreatDoorZCY
set_option linter.unusedVariables false
set_option linter.unusedSimpArgs false
/- Contracts: lengths and crossings; chapter 25. -/
namespace Go.Am
open Go Go.Proofs Go.Pn

def plcAt (l : List Plc) (i : Int) : Plc := (l[i.toNat]?).getD ⟨0, 0⟩
def farI (a b : Int) : Int := max (a - b) (b - a)
def pipeLen (l : List Plc) (x : Pipe) : Int := farI (plcAt l x.fr.part).row (plcAt l x.to.part).row + farI (plcAt l x.fr.part).col (plcAt l x.to.part).col
def lenT (l : List Plc) (ps : List Pipe) (k : Nat) : Int := ((ps.take k).map (pipeLen l)).sum
/-- The sum of the lengths of all pipes. -/
def sumL (c : Circuit) (l : List Plc) : Int := lenT l c.pipes c.pipes.length
theorem lenT_zero {l : List Plc} {ps : List Pipe} : lenT l ps 0 = 0 := rfl
theorem lenT_snoc {l : List Plc} {ps : List Pipe} {k : Nat} {x : Pipe} (e : ps[k]? = some x) : lenT l ps (k + 1) = lenT l ps k + pipeLen l x := by
  unfold lenT
  rw [take_snoc e, List.map_append, List.sum_append]; simp
/-- Places within bounds. -/
def Near (l : List Plc) : Prop := ∀ p ∈ l, (0 ≤ p.row ∧ p.row ≤ 4) ∧ 0 ≤ p.col ∧ p.col < 64
theorem plcAt_near {l : List Plc} (h : Near l) (i : Int) : (0 ≤ (plcAt l i).row ∧ (plcAt l i).row ≤ 4) ∧ 0 ≤ (plcAt l i).col ∧ (plcAt l i).col < 64 := by
  unfold plcAt
  cases e : l[i.toNat]? with
  | none => simp
  | some p => exact h p (List.mem_of_getElem? e)
theorem pipeLen_near {l : List Plc} (h : Near l) (x : Pipe) : 0 ≤ pipeLen l x ∧ pipeLen l x ≤ 67 := by
  have h1 := plcAt_near h x.fr.part
  have h2 := plcAt_near h x.to.part
  unfold pipeLen farI
  omega
theorem lenT_near {l : List Plc} (h : Near l) {ps : List Pipe} : ∀ {k : Nat}, 0 ≤ lenT l ps k ∧ lenT l ps k ≤ 67 * k
  | 0 => by simp [lenT_zero]
  | k + 1 => by
    have ih := @lenT_near l h ps k
    by_cases hk : k < ps.length
    · obtain ⟨x, e⟩ := get_lt hk
      have := pipeLen_near h x
      rw [lenT_snoc e]; omega
    · have : lenT l ps (k + 1) = lenT l ps k := by unfold lenT; rw [List.take_of_length_le (by omega), List.take_of_length_le (by omega)]
      rw [this]; omega
theorem LayOk.near {c : Circuit} {l : List Plc} (h : LayOk c l) : Near l := fun p hp => by
  obtain ⟨i, hi⟩ := List.mem_iff_getElem?.1 hp
  have h1 := h.row i p hi
  have h2 := h.col p hp
  have h3 := @level_range c i
  rw [h1]; exact ⟨h3, h2⟩
theorem pipe_parts {c : Circuit} (h : checkP c = 0) {l : List Plc} (hl : l.length = c.parts.length) {x : Pipe} (hx : x ∈ c.pipes) :
    ∃ (a b : Nat) (p q : Plc), x.fr.part = a ∧ x.to.part = b ∧ a < l.length ∧ b < l.length ∧ l[a]? = some p ∧ l[b]? = some q ∧ plcAt l x.fr.part = p ∧ plcAt l x.to.part = q := by
  obtain ⟨⟨h1, h2⟩, h3, h4⟩ := check_range h x hx
  obtain ⟨a, ha⟩ : ∃ a : Nat, x.fr.part = a := ⟨x.fr.part.toNat, by omega⟩
  obtain ⟨b, hb⟩ : ∃ b : Nat, x.to.part = b := ⟨x.to.part.toNat, by omega⟩
  obtain ⟨p, ep⟩ := get_lt (xs := l) (k := a) (by omega)
  obtain ⟨q, eq⟩ := get_lt (xs := l) (k := b) (by omega)
  exact ⟨a, b, p, q, ha, hb, by omega, by omega, ep, eq, by rw [plcAt, ha, Int.toNat_natCast, ep]; rfl, by rw [plcAt, hb, Int.toNat_natCast, eq]; rfl⟩

theorem c_layout_far (a b : Int) (ha : 0 ≤ a ∧ a ≤ 1000) (hb : 0 ≤ b ∧ b ≤ 1000) : Pure Go.Proofs.Tryz.prog GL 62 [.p (.int .i64 a), .p (.int .i64 b)] (.p (.int .i64 (farI a b))) := by
  refine Pure.of_walk (N := 12) Go.Proofs.Tryz.func62 rfl rfl rfl (by simp) (by first | (simp; done) | simp [*]) ?_
  simp
  refine ⟨wrap_i64 (by omega) (by omega), wrap_i64 (by omega) (by omega), ?_⟩
  simp [XEndT, farI]
theorem c_pneumaticref25_away (a b : Int) (ha : 0 ≤ a ∧ a ≤ 1000) (hb : 0 ≤ b ∧ b ≤ 1000) : Pure Go.Proofs.Tryz.prog GL 63 [.p (.int .i64 a), .p (.int .i64 b)] (.p (.int .i64 (farI a b))) := by
  refine Pure.of_walk (N := 12) Go.Proofs.Tryz.func63 rfl rfl rfl (by simp) (by first | (simp; done) | simp [*]) ?_
  simp
  refine ⟨wrap_i64 (by omega) (by omega), wrap_i64 (by omega) (by omega), ?_⟩
  simp [XEndT, farI]

set_option maxRecDepth 20000 in
theorem c_layout_length (c : Circuit) (l : List Plc) (h : checkP c = 0) (hl : l.length = c.parts.length) (hn : Near l) : Pure Go.Proofs.Tryz.prog GL 39 [c.av, .p (.lst 2 (l.map Plc.enc))] (.p (.int .i64 (sumL c l))) := by
  refine Pure.of_walk (N := 44) Go.Proofs.Tryz.func39 rfl rfl rfl (by simp) (by first | (simp; done) | simp [*]) ?_
  have h2 := check_parts h
  simp
  refine XLoop.go [1, 11, 12] [0] 0 [] (fun _ => []) (fun _ (k : Nat) => [(5, .p (.int .i64 (lenT l c.pipes k))), (13, .p (.int .i64 k))]) (fun _ _ => []) (fun k => k ≤ c.pipes.length) (fun k => c.pipes.length - k) 0 (by omega) ?_ ?_
  · simp [lenT_zero]
    try decide
  · intro k hk
    simp
    refine xif_split (fun h3 => ?_) (fun h3 => ?_)
    · simp at h3
      obtain ⟨x, e⟩ := get_lt h3
      obtain ⟨a, b, p, q, ha, hb, hal, hbl, ep, eq, pa, pb⟩ := pipe_parts h hl (List.mem_of_getElem? e)
      have hp := hn p (List.mem_of_getElem? ep)
      have hq := hn q (List.mem_of_getElem? eq)
      have hF1 := c_layout_far p.row q.row (by omega) (by omega)
      have hF2 := c_layout_far p.col q.col (by omega) (by omega)
      have hs : lenT l c.pipes (k + 1) = lenT l c.pipes k + (farI p.row q.row + farI p.col q.col) := by rw [lenT_snoc e, pipeLen, pa, pb]
      have hb1 := @lenT_near l hn c.pipes k
      have f1 : 0 ≤ farI p.row q.row ∧ farI p.row q.row ≤ 100 := by unfold farI; omega
      have f2 : 0 ≤ farI p.col q.col ∧ farI p.col q.col ≤ 100 := by unfold farI; omega
      generalize farI p.row q.row = u at *
      generalize farI p.col q.col = v at *
      generalize lenT l c.pipes k = S at *
      simp [h3, e, Pipe.enc, -getElem?_pos, List.getElem?_cons_zero, List.getElem?_cons_succ]
      refine XDraw.intro (by kernel_rfl) ?_
      simp [h3, e, Pipe.enc, ha, hb, hal, hbl, ep, eq, Plc.enc, -getElem?_pos, List.getElem?_cons_zero, List.getElem?_cons_succ]
      refine ⟨.of (by kernel_rfl), ?_⟩
      refine XDraw.intro (by kernel_rfl) ?_
      simp
      refine xcall_pure hF1 ?_
      simp
      refine xcall_pure hF2 ?_
      simp
      refine ⟨wrap_i64 (by omega) (by omega), wrap_i64 (by omega) (by omega), .of (by kernel_rfl), ?_⟩
      refine ⟨wrap_i64 (by omega) (by omega), k + 1, by omega, by omega, ?_⟩
      simp [hs]
    · simp at h3
      have hk2 : k = c.pipes.length := by omega
      subst hk2
      simp [XEndT, sumL]

set_option maxRecDepth 20000 in
theorem c_pneumaticref25_Sum (c : Circuit) (l : List Plc) (h : checkP c = 0) (hl : l.length = c.parts.length) (hn : Near l) : Pure Go.Proofs.Tryz.prog GL 40 [c.av, .p (.lst 2 (l.map Plc.enc))] (.p (.int .i64 (sumL c l))) := by
  refine Pure.of_walk (N := 50) Go.Proofs.Tryz.func40 rfl rfl rfl (by simp) (by first | (simp; done) | simp [*]) ?_
  have h2 := check_parts h
  simp
  refine XLoop.go [1, 2] [0] 0 [] (fun _ => []) (fun _ (k : Nat) => [(5, .p (.int .i64 (lenT l c.pipes k))), (6, .p (.int .i64 k))]) (fun _ _ => []) (fun k => k ≤ c.pipes.length) (fun k => c.pipes.length - k) 0 (by omega) ?_ ?_
  · simp [lenT_zero]
    try decide
  · intro k hk
    simp
    refine xif_split (fun h3 => ?_) (fun h3 => ?_)
    · simp at h3
      obtain ⟨x, e⟩ := get_lt h3
      obtain ⟨a, b, p, q, ha, hb, hal, hbl, ep, eq, pa, pb⟩ := pipe_parts h hl (List.mem_of_getElem? e)
      have hp := hn p (List.mem_of_getElem? ep)
      have hq := hn q (List.mem_of_getElem? eq)
      have hF1 := c_pneumaticref25_away p.row q.row (by omega) (by omega)
      have hF2 := c_pneumaticref25_away p.col q.col (by omega) (by omega)
      have hs : lenT l c.pipes (k + 1) = lenT l c.pipes k + (farI p.row q.row + farI p.col q.col) := by rw [lenT_snoc e, pipeLen, pa, pb]
      have hb1 := @lenT_near l hn c.pipes k
      have f1 : 0 ≤ farI p.row q.row ∧ farI p.row q.row ≤ 100 := by unfold farI; omega
      have f2 : 0 ≤ farI p.col q.col ∧ farI p.col q.col ≤ 100 := by unfold farI; omega
      generalize farI p.row q.row = u at *
      generalize farI p.col q.col = v at *
      generalize lenT l c.pipes k = S at *
      simp [h3, e, Pipe.enc, -getElem?_pos, List.getElem?_cons_zero, List.getElem?_cons_succ]
      refine XDraw.intro (by kernel_rfl) ?_
      simp [h3, e, Pipe.enc, ha, hb, hal, hbl, ep, eq, Plc.enc, -getElem?_pos, List.getElem?_cons_zero, List.getElem?_cons_succ]
      refine ⟨.of (by kernel_rfl), ?_⟩
      refine XDraw.intro (by kernel_rfl) ?_
      simp
      refine xcall_pure hF1 ?_
      simp
      refine xcall_pure hF2 ?_
      simp
      refine ⟨wrap_i64 (by omega) (by omega), wrap_i64 (by omega) (by omega), .of (by kernel_rfl), ?_⟩
      refine ⟨wrap_i64 (by omega) (by omega), k + 1, by omega, by omega, ?_⟩
      simp [hs]
    · simp at h3
      have hk2 : k = c.pipes.length := by omega
      subst hk2
      simp [XEndT, sumL]

def lenRes (c : Circuit) (l : List Plc) : Int := if layE c l = 0 then sumL c l else 0
theorem c_layout_Length (c : Circuit) (l : List Plc) (hs : Sized c) : Pure Go.Proofs.Tryz.prog GL 12 [c.av, .p (.lst 2 (l.map Plc.enc))] (.tup [.p (.int .i64 (lenRes c l)), .p (.int .i64 (layE c l))]) := by
  refine Pure.of_walk (N := 16) Go.Proofs.Tryz.func12 rfl rfl rfl (by simp) (by first | (simp; done) | simp [*]) ?_
  simp
  refine xcall_pure (c_layout_Check c l hs) ?_
  unfold lenRes
  by_cases h : layE c l = 0
  · obtain ⟨h1, h2⟩ := layE_zero.1 h
    have hS := c_layout_length c l h1 h2.len h2.near
    simp [h]
    refine xcall_pure hS ?_
    simp [XEndT, h]
  · simp [h, XEndT]
theorem c_pneumaticref25_Length (c : Circuit) (l : List Plc) (hs : Sized c) : Pure Go.Proofs.Tryz.prog GL 13 [c.av, .p (.lst 2 (l.map Plc.enc))] (.tup [.p (.int .i64 (lenRes c l)), .p (.int .i64 (layE c l))]) := by
  refine Pure.of_walk (N := 16) Go.Proofs.Tryz.func13 rfl rfl rfl (by simp) (by first | (simp; done) | simp [*]) ?_
  simp
  refine xcall_pure (c_pneumaticref25_Check c l hs) ?_
  unfold lenRes
  by_cases h : layE c l = 0
  · obtain ⟨h1, h2⟩ := layE_zero.1 h
    have hS := c_pneumaticref25_Sum c l h1 h2.len h2.near
    simp [h]
    refine xcall_pure hS ?_
    simp [XEndT, h]
  · simp [h, XEndT]

/- ## crossings -/
/-- The places of a pipe's parts, that in the lesser row first. -/
def ordP (l : List Plc) (x : Pipe) : Plc × Plc := if (plcAt l x.fr.part).row > (plcAt l x.to.part).row then (plcAt l x.to.part, plcAt l x.fr.part) else (plcAt l x.fr.part, plcAt l x.to.part)
def crossB (l : List Plc) (x y : Pipe) : Bool := decide ((ordP l x).1.row ≠ (ordP l x).2.row ∧ (ordP l x).1.row = (ordP l y).1.row ∧ (ordP l x).2.row = (ordP l y).2.row) &&
  (decide ((ordP l x).1.col < (ordP l y).1.col ∧ (ordP l x).2.col > (ordP l y).2.col) || decide ((ordP l x).1.col > (ordP l y).1.col ∧ (ordP l x).2.col < (ordP l y).2.col))
theorem ordP_near {l : List Plc} (h : Near l) (x : Pipe) : ((0 ≤ (ordP l x).1.row ∧ (ordP l x).1.row ≤ 4) ∧ 0 ≤ (ordP l x).1.col ∧ (ordP l x).1.col < 64) ∧ (0 ≤ (ordP l x).2.row ∧ (ordP l x).2.row ≤ 4) ∧ 0 ≤ (ordP l x).2.col ∧ (ordP l x).2.col < 64 := by
  have h1 := plcAt_near h x.fr.part
  have h2 := plcAt_near h x.to.part
  unfold ordP
  split
  · exact ⟨h2, h1⟩
  · exact ⟨h1, h2⟩
theorem mul_near {x y : Int} (hx : -64 < x ∧ x < 64) (hy : -64 < y ∧ y < 64) : -4096 ≤ x * y ∧ x * y ≤ 4096 := by
  have h1 : (x * y).natAbs = x.natAbs * y.natAbs := Int.natAbs_mul x y
  have h2 : x.natAbs * y.natAbs ≤ 64 * 64 := Nat.mul_le_mul (by omega) (by omega)
  omega
theorem mul_neg {x y : Int} : x * y < 0 ↔ (x < 0 ∧ 0 < y) ∨ (0 < x ∧ y < 0) := by
  constructor
  · intro h
    rcases Int.lt_trichotomy x 0 with h1 | h1 | h1
    · rcases Int.lt_trichotomy y 0 with h2 | h2 | h2
      · have := Int.mul_pos_of_neg_of_neg h1 h2; omega
      · subst h2; simp at h
      · exact .inl ⟨h1, h2⟩
    · subst h1; simp at h
    · rcases Int.lt_trichotomy y 0 with h2 | h2 | h2
      · exact .inr ⟨h1, h2⟩
      · subst h2; simp at h
      · have := Int.mul_pos h1 h2; omega
  · rintro (⟨h1, h2⟩ | ⟨h1, h2⟩)
    · exact Int.mul_neg_of_neg_of_pos h1 h2
    · exact Int.mul_neg_of_pos_of_neg h1 h2
def crossIn (l : List Plc) (ps : List Pipe) (x : Pipe) (k : Nat) : Nat := ((ps.take k).filter (crossB l x)).length
def crossN (l : List Plc) (ps : List Pipe) : Nat → Nat
  | 0 => 0
  | k + 1 => crossN l ps k + match ps[k]? with | some x => crossIn l ps x k | none => 0
theorem crossN_snoc {l : List Plc} {ps : List Pipe} {k : Nat} {x : Pipe} (e : ps[k]? = some x) : crossN l ps (k + 1) = crossN l ps k + crossIn l ps x k := by simp [crossN, e]
theorem crossIn_zero {l : List Plc} {ps : List Pipe} {x : Pipe} : crossIn l ps x 0 = 0 := rfl
theorem crossIn_snoc {l : List Plc} {ps : List Pipe} {x y : Pipe} {j : Nat} (e : ps[j]? = some y) : crossIn l ps x (j + 1) = crossIn l ps x j + if crossB l x y = true then 1 else 0 := by
  unfold crossIn
  rw [take_snoc e, List.filter_append, List.length_append]
  by_cases h : crossB l x y = true <;> simp [h]
theorem crossIn_le {l : List Plc} {ps : List Pipe} {x : Pipe} {j : Nat} : crossIn l ps x j ≤ j := by
  have h1 := List.length_filter_le (crossB l x) (ps.take j)
  have h2 := List.length_take_le j ps
  unfold crossIn; omega
theorem crossN_le {l : List Plc} {ps : List Pipe} : ∀ {k : Nat}, crossN l ps k ≤ k * k
  | 0 => by simp [crossN]
  | k + 1 => by
    have ih := @crossN_le l ps k
    have h2 : (match ps[k]? with | some x => crossIn l ps x k | none => 0) ≤ k := by
      split
      · exact crossIn_le
      · omega
    have h3 : (k + 1) * (k + 1) = k * k + k + k + 1 := by rw [Nat.add_mul, Nat.mul_add]; omega
    unfold crossN; omega
theorem crossN_small {l : List Plc} {ps : List Pipe} {k : Nat} (h : k ≤ 256) : crossN l ps k ≤ 65536 := by
  have h1 := @crossN_le l ps k
  have h2 : k * k ≤ 256 * 256 := Nat.mul_le_mul h h
  omega

theorem c_layout_ends (l : List Plc) (x : Pipe) (hx : ∃ (a b : Nat) (p q : Plc), x.fr.part = a ∧ x.to.part = b ∧ a < l.length ∧ b < l.length ∧ l[a]? = some p ∧ l[b]? = some q ∧ plcAt l x.fr.part = p ∧ plcAt l x.to.part = q) : Pure Go.Proofs.Tryz.prog GL 41 [.p (.lst 2 (l.map Plc.enc)), x.av] (.agg [.p (.int .i64 (ordP l x).1.row), .p (.int .i64 (ordP l x).1.col), .p (.int .i64 (ordP l x).2.row), .p (.int .i64 (ordP l x).2.col)]) := by
  refine Pure.of_walk (N := 33) Go.Proofs.Tryz.func41 rfl rfl rfl (by simp) (by first | (simp; done) | simp [*]) ?_
  obtain ⟨a, b, p, q, ha, hb, hal, hbl, ep, eq, pa, pb⟩ := hx
  simp
  refine XDraw.intro (by kernel_rfl) ?_
  simp [ha, hb, hal, hbl, ep, eq, Plc.enc, -getElem?_pos, List.getElem?_cons_zero, List.getElem?_cons_succ]
  refine ⟨.of (by kernel_rfl), ?_⟩
  by_cases hr : p.row > q.row
  · have ho : ordP l x = (q, p) := by unfold ordP; rw [pa, pb, if_pos hr]
    have hr2 : q.row < p.row := hr
    rw [ho]
    simp [hr2]
    simp [XEndT]
  · have ho : ordP l x = (p, q) := by unfold ordP; rw [pa, pb, if_neg hr]
    have hr2 : ¬ q.row < p.row := hr
    rw [ho]
    simp [hr2]
    simp [XEndT]

theorem c_pneumaticref25_ordered (l : List Plc) (x : Pipe) (hx : ∃ (a b : Nat) (p q : Plc), x.fr.part = a ∧ x.to.part = b ∧ a < l.length ∧ b < l.length ∧ l[a]? = some p ∧ l[b]? = some q ∧ plcAt l x.fr.part = p ∧ plcAt l x.to.part = q) : Pure Go.Proofs.Tryz.prog GL 64 [.p (.lst 2 (l.map Plc.enc)), x.av] (.tup [(ordP l x).1.av, (ordP l x).2.av]) := by
  refine Pure.of_walk (N := 29) Go.Proofs.Tryz.func64 rfl rfl rfl (by simp) (by first | (simp; done) | simp [*]) ?_
  obtain ⟨a, b, p, q, ha, hb, hal, hbl, ep, eq, pa, pb⟩ := hx
  simp
  refine XDraw.intro (by kernel_rfl) ?_
  simp [ha, hb, hal, hbl, ep, eq, Plc.enc, -getElem?_pos, List.getElem?_cons_zero, List.getElem?_cons_succ]
  refine ⟨.of (by kernel_rfl), ?_⟩
  by_cases hr : p.row > q.row
  · have ho : ordP l x = (q, p) := by unfold ordP; rw [pa, pb, if_pos hr]
    have hr2 : q.row < p.row := hr
    rw [ho]
    simp [hr2]
    refine XDraw.intro (by kernel_rfl) ?_
    simp
    refine ⟨.of (by kernel_rfl), ?_⟩
    simp [XEndT]
  · have ho : ordP l x = (p, q) := by unfold ordP; rw [pa, pb, if_neg hr]
    have hr2 : ¬ q.row < p.row := hr
    rw [ho]
    simp [hr2]
    refine XDraw.intro (by kernel_rfl) ?_
    simp
    refine ⟨.of (by kernel_rfl), ?_⟩
    simp [XEndT]

end Go.Am
/- Contracts: crossings; chapter 25. -/
namespace Go.Am
open Go Go.Proofs Go.Pn

set_option maxRecDepth 20000 in
theorem c_pneumaticref25_Cross (l : List Plc) (x y : Pipe) (hx : ∃ (a b : Nat) (p q : Plc), x.fr.part = a ∧ x.to.part = b ∧ a < l.length ∧ b < l.length ∧ l[a]? = some p ∧ l[b]? = some q ∧ plcAt l x.fr.part = p ∧ plcAt l x.to.part = q) (hy : ∃ (a b : Nat) (p q : Plc), y.fr.part = a ∧ y.to.part = b ∧ a < l.length ∧ b < l.length ∧ l[a]? = some p ∧ l[b]? = some q ∧ plcAt l y.fr.part = p ∧ plcAt l y.to.part = q) : Pure Go.Proofs.Tryz.prog GL 42 [.p (.lst 2 (l.map Plc.enc)), x.av, y.av] (.p (.bool (crossB l x y))) := by
  refine Pure.of_walk (N := 68) Go.Proofs.Tryz.func42 rfl rfl rfl (by simp) (by first | (simp; done) | simp [*]) ?_
  have h1 := c_pneumaticref25_ordered l x hx
  have h2 := c_pneumaticref25_ordered l y hy
  unfold crossB
  generalize ordP l x = u at *
  generalize ordP l y = v at *
  obtain ⟨a, b⟩ := u
  obtain ⟨d, e⟩ := v
  simp
  refine xcall_pure h1 ?_
  simp
  refine xcall_pure h2 ?_
  by_cases q1 : a.row = b.row
  · simp [q1, XEndT]
  · by_cases q2 : a.row = d.row
    · by_cases q3 : b.row = e.row
      · have q4 : ¬ (d.row = e.row) := by rw [← q2, ← q3]; exact q1
        by_cases q5 : a.col < d.col
        · by_cases q6 : e.col < b.col
          · simp [q1, q2, q3, q4, q5, q6, XEndT]
          · have q7 : ¬ d.col < a.col := by omega
            simp [q1, q2, q3, q4, q5, q6, q7, XEndT]
        · by_cases q6 : d.col < a.col
          · by_cases q7 : b.col < e.col
            · simp [q1, q2, q3, q4, q5, q6, q7, XEndT]
            · simp [q1, q2, q3, q4, q5, q6, q7, XEndT]
          · simp [q1, q2, q3, q4, q5, q6, XEndT]
      · have q4 : ¬ (d.row = b.row) := by rw [← q2]; exact q1
        simp [q1, q2, q3, q4, XEndT]
    · simp [q1, q2, XEndT]

def crossRes (c : Circuit) (l : List Plc) : Int := if layE c l = 0 then (crossN l c.pipes c.pipes.length : Int) else 0

set_option maxRecDepth 20000 in
theorem c_pneumaticref25_Crossings (c : Circuit) (l : List Plc) (hs : Sized c) : Pure Go.Proofs.Tryz.prog GL 15 [c.av, .p (.lst 2 (l.map Plc.enc))] (.tup [.p (.int .i64 (crossRes c l)), .p (.int .i64 (layE c l))]) := by
  refine Pure.of_walk (N := 43) Go.Proofs.Tryz.func15 rfl rfl rfl (by simp) (by first | (simp; done) | simp [*]) ?_
  simp
  refine xcall_pure (c_pneumaticref25_Check c l hs) ?_
  unfold crossRes
  by_cases h : layE c l = 0
  · obtain ⟨hc, hl⟩ := layE_zero.1 h
    have h2 := check_parts hc
    rw [if_pos h]
    simp [h]
    refine XLoop.go [1, 2] [0] 0 [] (fun _ => []) (fun _ (k : Nat) => [(7, .p (.int .i64 (crossN l c.pipes k : Int))), (8, .p (.int .i64 k))]) (fun _ _ => []) (fun k => k ≤ c.pipes.length) (fun k => c.pipes.length - k) 0 (by omega) ?_ ?_
    · simp [crossN]
      try decide
    · intro k hk
      have hcs := @crossN_small l c.pipes k (by omega)
      simp
      refine xif_split (fun h3 => ?_) (fun h3 => ?_)
      · simp at h3
        obtain ⟨x, e⟩ := get_lt h3
        have hx := pipe_parts hc hl.len (List.mem_of_getElem? e)
        have hsn := crossN_snoc (l := l) e
        simp
        refine XLoop.go [1, 2, 8] [0] 0 [] (fun _ => []) (fun _ (j : Nat) => [(7, .p (.int .i64 ((crossN l c.pipes k : Int) + crossIn l c.pipes x j))), (9, .p (.int .i64 j))]) (fun _ _ => []) (fun j => j ≤ k) (fun j => k - j) 0 (by omega) ?_ ?_
        · simp [crossIn_zero]
          try decide
        · intro j hj
          have hci := @crossIn_le l c.pipes x j
          simp
          refine xif_split (fun h4 => ?_) (fun h4 => ?_)
          · simp at h4
            obtain ⟨y, ey⟩ := get_lt (xs := c.pipes) (k := j) (by omega)
            have hy := pipe_parts hc hl.len (List.mem_of_getElem? ey)
            have hjl : j < c.pipes.length := by omega
            have hX := c_pneumaticref25_Cross l x y hx hy
            have hss := crossIn_snoc (l := l) (x := x) ey
            simp
            refine XDraw.intro (by kernel_rfl) ?_
            simp [h3, e, hjl, ey, Pipe.enc, -getElem?_pos, List.getElem?_cons_zero, List.getElem?_cons_succ]
            refine xcall_pure hX ?_
            simp
            refine ⟨.of (by kernel_rfl), ?_⟩
            cases hb : crossB l x y with
            | true =>
              rw [hb] at hss
              simp
              refine ⟨wrap_i64 (by omega) (by omega), wrap_i64 (by omega) (by omega), j + 1, by omega, by omega, ?_⟩
              simp [hss]
              omega
            | false =>
              rw [hb] at hss
              simp
              refine ⟨wrap_i64 (by omega) (by omega), j + 1, by omega, by omega, ?_⟩
              simp [hss]
          · simp at h4
            have hjk : j = k := by omega
            subst hjk
            simp
            refine ⟨wrap_i64 (by omega) (by omega), j + 1, by omega, by omega, ?_⟩
            simp [hsn]
      · simp at h3
        have hk2 : k = c.pipes.length := by omega
        subst hk2
        simp [XEndT, h]
  · rw [if_neg h]
    simp [h, XEndT]

set_option maxRecDepth 20000 in
theorem c_layout_Crossings (c : Circuit) (l : List Plc) (hs : Sized c) : Pure Go.Proofs.Tryz.prog GL 14 [c.av, .p (.lst 2 (l.map Plc.enc))] (.tup [.p (.int .i64 (crossRes c l)), .p (.int .i64 (layE c l))]) := by
  refine Pure.of_walk (N := 89) Go.Proofs.Tryz.func14 rfl rfl rfl (by simp) (by first | (simp; done) | simp [*]) ?_
  simp
  refine xcall_pure (c_layout_Check c l hs) ?_
  unfold crossRes
  by_cases h : layE c l = 0
  · obtain ⟨hc, hl⟩ := layE_zero.1 h
    have h2 := check_parts hc
    have hnear := hl.near
    rw [if_pos h]
    simp [h]
    refine XLoop.go [1, 2, 21, 22] [0] 0 [] (fun _ => []) (fun _ (k : Nat) => [(7, .p (.int .i64 (crossN l c.pipes k : Int))), (23, .p (.int .i64 k))]) (fun _ _ => []) (fun k => k ≤ c.pipes.length) (fun k => c.pipes.length - k) 0 (by omega) ?_ ?_
    · simp [crossN]
      try decide
    · intro k hk
      have hcs := @crossN_small l c.pipes k (by omega)
      simp
      refine xif_split (fun h3 => ?_) (fun h3 => ?_)
      · simp at h3
        obtain ⟨x, e⟩ := get_lt h3
        have hx := pipe_parts hc hl.len (List.mem_of_getElem? e)
        have hsn := crossN_snoc (l := l) e
        have hE := c_layout_ends l x hx
        have hk3 : k ≤ c.pipes.length := by omega
        have hox := ordP_near hnear x
        simp [h3, e, Pipe.enc, -getElem?_pos, List.getElem?_cons_zero, List.getElem?_cons_succ]
        refine xcall_pure hE ?_
        simp [hk3]
        refine XLoop.go [1, 2, 10, 21, 22, 23, 34, 35] [0, 2] 0 [] (fun _ => []) (fun _ (j : Nat) => [(7, .p (.int .i64 ((crossN l c.pipes k : Int) + crossIn l c.pipes x j))), (36, .p (.int .i64 j))]) (fun _ _ => []) (fun j => j ≤ k) (fun j => k - j) 0 (by omega) ?_ ?_
        · simp [crossIn_zero]
          try decide
        · intro j hj
          have hci := @crossIn_le l c.pipes x j
          simp
          refine xif_split (fun h4 => ?_) (fun h4 => ?_)
          · simp at h4
            obtain ⟨y, ey⟩ := get_lt (xs := c.pipes) (k := j) (by omega)
            have hy := pipe_parts hc hl.len (List.mem_of_getElem? ey)
            have hjl : j < c.pipes.length := by omega
            have hjk : j < k := by omega
            have hE2 := c_layout_ends l y hy
            have hss := crossIn_snoc (l := l) (x := x) ey
            have hoy := ordP_near hnear y
            have hcb : crossB l x y = (decide ((ordP l x).1.row ≠ (ordP l x).2.row ∧ (ordP l x).1.row = (ordP l y).1.row ∧ (ordP l x).2.row = (ordP l y).2.row) &&
              (decide ((ordP l x).1.col < (ordP l y).1.col ∧ (ordP l x).2.col > (ordP l y).2.col) || decide ((ordP l x).1.col > (ordP l y).1.col ∧ (ordP l x).2.col < (ordP l y).2.col))) := rfl
            generalize ordP l x = u at *
            generalize ordP l y = v at *
            obtain ⟨a, b⟩ := u
            obtain ⟨d, f⟩ := v
            simp only at hox hoy hcb
            have hw1 := mul_near (x := a.col - d.col) (y := b.col - f.col) (by omega) (by omega)
            simp [hjl, hjk, ey, Pipe.enc, List.getElem?_take, h4, -getElem?_pos, List.getElem?_cons_zero, List.getElem?_cons_succ]
            refine ⟨by omega, ?_⟩
            refine xcall_pure hE2 ?_
            have fin0 : crossB l x y = false → crossIn l c.pipes x (j + 1) = crossIn l c.pipes x j := fun hb => by rw [hss, hb]; simp
            have fin1 : crossB l x y = true → crossIn l c.pipes x (j + 1) = crossIn l c.pipes x j + 1 := fun hb => by rw [hss, hb]; simp
            by_cases q1 : a.row = b.row
            · have hb := fin0 (by rw [hcb]; simp [q1])
              simp [q1]
              refine ⟨wrap_i64 (by omega) (by omega), j + 1, by omega, by omega, ?_⟩
              simp [hb]
              try decide
            · by_cases q2 : a.row = d.row
              · by_cases q3 : b.row = f.row
                · have q4 : ¬ (d.row = f.row) := by rw [← q2, ← q3]; exact q1
                  simp [q1, q2, q3, q4]
                  refine ⟨wrap_i64 (by omega) (by omega), wrap_i64 (by omega) (by omega), wrap_i64 (by omega) (by omega), ?_⟩
                  by_cases q5 : (a.col - d.col) * (b.col - f.col) < 0
                  · have q6 := mul_neg.1 q5
                    have hb := fin1 (by
                      rw [hcb]
                      have : (a.col < d.col ∧ f.col < b.col) ∨ (d.col < a.col ∧ b.col < f.col) := by omega
                      simp [q1, q2, q3, q4]
                      exact this)
                    simp [q5]
                    refine ⟨wrap_i64 (by omega) (by omega), wrap_i64 (by omega) (by omega), j + 1, by omega, by omega, ?_⟩
                    simp [hb, ← q2, ← q3]
                    all_goals first | omega | decide
                  · have q6 := fun hh => q5 (mul_neg.2 hh)
                    have hb := fin0 (by
                      rw [hcb]
                      have : ¬ ((a.col < d.col ∧ f.col < b.col) ∨ (d.col < a.col ∧ b.col < f.col)) := fun hh => q6 (by omega)
                      simp only [not_or, not_and] at this
                      simp [q1, q2, q3, q4]
                      exact ⟨by have := this.1; omega, by have := this.2; omega⟩)
                    simp [q5]
                    refine ⟨wrap_i64 (by omega) (by omega), j + 1, by omega, by omega, ?_⟩
                    simp [hb, ← q2, ← q3]
                    try decide
                · have q4 : ¬ (d.row = b.row) := by rw [← q2]; exact q1
                  have hb := fin0 (by rw [hcb]; simp [q3])
                  simp [q1, q2, q3, q4]
                  refine ⟨wrap_i64 (by omega) (by omega), j + 1, by omega, by omega, ?_⟩
                  simp [hb, ← q2]
                  try decide
              · have hb := fin0 (by rw [hcb]; simp [q2])
                simp [q1, q2]
                refine ⟨wrap_i64 (by omega) (by omega), j + 1, by omega, by omega, ?_⟩
                simp [hb]
                try decide
          · simp at h4
            have hjk : j = k := by omega
            subst hjk
            simp
            refine ⟨wrap_i64 (by omega) (by omega), j + 1, by omega, by omega, ?_⟩
            simp [hsn]
      · simp at h3
        have hk2 : k = c.pipes.length := by omega
        subst hk2
        simp [XEndT, h]
  · rw [if_neg h]
    simp [h, XEndT]

end Go.Am
