/- Lemmas and contracts for the proof of a statement of this seat. -/
import Derived.Test.YtfcljeghfckabaaGreatDoorZCX
import Derived.Test.YtfcljeghfckabaaGreatDoorZC6
import Derived.Test.YtfcljeghfckabaaGreatDoorZA8
import Derived.Test.YtfcljeghfckabaaGreatDoorZCH
set_option linter.unusedVariables false
set_option linter.unusedSimpArgs false
/- Contracts: lengths and crossings; chapter 25. -/
namespace Go.Am
open Go Go.Proofs Go.Pn

def plcAt (l : List Plc) (i : Int) : Plc := (l[i.toNat]?).getD ⟨0, 0⟩
def farI (a b : Int) : Int := max (a - b) (b - a)
def pipeLen (l : List Plc) (x : Pipe) : Int := farI (plcAt l x.fr.part).row (plcAt l x.to.part).row + farI (plcAt l x.fr.part).col (plcAt l x.to.part).col
def lenT (l : List Plc) (ps : List Pipe) (k : Nat) : Int := ((ps.take k).map (pipeLen l)).sum
def sumL (c : Circuit) (l : List Plc) : Int := lenT l c.pipes c.pipes.length
theorem lenT_zero {l : List Plc} {ps : List Pipe} : lenT l ps 0 = 0 := rfl
theorem lenT_snoc {l : List Plc} {ps : List Pipe} {k : Nat} {x : Pipe} (e : ps[k]? = some x) : lenT l ps (k + 1) = lenT l ps k + pipeLen l x := by
  unfold lenT
  rw [take_snoc e, List.map_append, List.sum_append]; simp
def Near (l : List Plc) : Prop := ∀ p ∈ l, (0 ≤ p.row ∧ p.row ≤ 4) ∧ 0 ≤ p.col ∧ p.col < 64
theorem plcAt_near {l : List Plc} (h : Near l) (i : Int) : (0 ≤ (plcAt l i).row ∧ (plcAt l i).row ≤ 4) ∧ 0 ≤ (plcAt l i).col ∧ (plcAt l i).col < 64 := by
  unfold plcAt
  cases e : l[i.toNat]? with
  | none => simp
  | some p => exact h p (List.mem_of_getElem? e)
theorem pipeLen_near {l : List Plc} (h : Near l) (x : Pipe) : 0 ≤ pipeLen l x ∧ pipeLen l x ≤ 67 := by
  have h1 := plcAt_near h x.fr.part
  have h2 := plcAt_near h x.to.part
  unfold pipeLen farI
  omega
theorem lenT_near {l : List Plc} (h : Near l) {ps : List Pipe} : ∀ {k : Nat}, 0 ≤ lenT l ps k ∧ lenT l ps k ≤ 67 * k
  | 0 => by simp [lenT_zero]
  | k + 1 => by
    have ih := @lenT_near l h ps k
    by_cases hk : k < ps.length
    · obtain ⟨x, e⟩ := get_lt hk
      have := pipeLen_near h x
      rw [lenT_snoc e]; omega
    · have : lenT l ps (k + 1) = lenT l ps k := by unfold lenT; rw [List.take_of_length_le (by omega), List.take_of_length_le (by omega)]
      rw [this]; omega
theorem LayOk.near {c : Circuit} {l : List Plc} (h : LayOk c l) : Near l := fun p hp => by
  obtain ⟨i, hi⟩ := List.mem_iff_getElem?.1 hp
  have h1 := h.row i p hi
  have h2 := h.col p hp
  have h3 := @level_range c i
  rw [h1]; exact ⟨h3, h2⟩
theorem pipe_parts {c : Circuit} (h : checkP c = 0) {l : List Plc} (hl : l.length = c.parts.length) {x : Pipe} (hx : x ∈ c.pipes) :
    ∃ (a b : Nat) (p q : Plc), x.fr.part = a ∧ x.to.part = b ∧ a < l.length ∧ b < l.length ∧ l[a]? = some p ∧ l[b]? = some q ∧ plcAt l x.fr.part = p ∧ plcAt l x.to.part = q := by
  obtain ⟨⟨h1, h2⟩, h3, h4⟩ := check_range h x hx
  obtain ⟨a, ha⟩ : ∃ a : Nat, x.fr.part = a := ⟨x.fr.part.toNat, by omega⟩
  obtain ⟨b, hb⟩ : ∃ b : Nat, x.to.part = b := ⟨x.to.part.toNat, by omega⟩
  obtain ⟨p, ep⟩ := get_lt (xs := l) (k := a) (by omega)
  obtain ⟨q, eq⟩ := get_lt (xs := l) (k := b) (by omega)
  exact ⟨a, b, p, q, ha, hb, by omega, by omega, ep, eq, by rw [plcAt, ha, Int.toNat_natCast, ep]; rfl, by rw [plcAt, hb, Int.toNat_natCast, eq]; rfl⟩

theorem c_layout_far (a b : Int) (ha : 0 ≤ a ∧ a ≤ 1000) (hb : 0 ≤ b ∧ b ≤ 1000) : Pure Go.Proofs.Tryz.prog GL 62 [.p (.int .i64 a), .p (.int .i64 b)] (.p (.int .i64 (farI a b))) := by
  refine Pure.of_walk (N := 12) Go.Proofs.Tryz.func62 rfl rfl rfl (by simp) (by first | (simp; done) | simp [*]) ?_
  simp
  refine ⟨wrap_i64 (by omega) (by omega), wrap_i64 (by omega) (by omega), ?_⟩
  simp [XEndT, farI]
set_option maxRecDepth 20000 in
theorem c_layout_length (c : Circuit) (l : List Plc) (h : checkP c = 0) (hl : l.length = c.parts.length) (hn : Near l) : Pure Go.Proofs.Tryz.prog GL 39 [c.av, .p (.lst 2 (l.map Plc.enc))] (.p (.int .i64 (sumL c l))) := by
  refine Pure.of_walk (N := 44) Go.Proofs.Tryz.func39 rfl rfl rfl (by simp) (by first | (simp; done) | simp [*]) ?_
  have h2 := check_parts h
  simp
  refine XLoop.go [1, 11, 12] [0] 0 [] (fun _ => []) (fun _ (k : Nat) => [(5, .p (.int .i64 (lenT l c.pipes k))), (13, .p (.int .i64 k))]) (fun _ _ => []) (fun k => k ≤ c.pipes.length) (fun k => c.pipes.length - k) 0 (by omega) ?_ ?_
  · simp [lenT_zero]
    try decide
  · intro k hk
    simp
    refine xif_split (fun h3 => ?_) (fun h3 => ?_)
    · simp at h3
      obtain ⟨x, e⟩ := get_lt h3
      obtain ⟨a, b, p, q, ha, hb, hal, hbl, ep, eq, pa, pb⟩ := pipe_parts h hl (List.mem_of_getElem? e)
      have hp := hn p (List.mem_of_getElem? ep)
      have hq := hn q (List.mem_of_getElem? eq)
      have hF1 := c_layout_far p.row q.row (by omega) (by omega)
      have hF2 := c_layout_far p.col q.col (by omega) (by omega)
      have hs : lenT l c.pipes (k + 1) = lenT l c.pipes k + (farI p.row q.row + farI p.col q.col) := by rw [lenT_snoc e, pipeLen, pa, pb]
      have hb1 := @lenT_near l hn c.pipes k
      have f1 : 0 ≤ farI p.row q.row ∧ farI p.row q.row ≤ 100 := by unfold farI; omega
      have f2 : 0 ≤ farI p.col q.col ∧ farI p.col q.col ≤ 100 := by unfold farI; omega
      generalize farI p.row q.row = u at *
      generalize farI p.col q.col = v at *
      generalize lenT l c.pipes k = S at *
      simp [h3, e, Pipe.enc, -getElem?_pos, List.getElem?_cons_zero, List.getElem?_cons_succ]
      refine XDraw.intro (by kernel_rfl) ?_
      simp [h3, e, Pipe.enc, ha, hb, hal, hbl, ep, eq, Plc.enc, -getElem?_pos, List.getElem?_cons_zero, List.getElem?_cons_succ]
      refine ⟨.of (by kernel_rfl), ?_⟩
      refine XDraw.intro (by kernel_rfl) ?_
      simp
      refine xcall_pure hF1 ?_
      simp
      refine xcall_pure hF2 ?_
      simp
      refine ⟨wrap_i64 (by omega) (by omega), wrap_i64 (by omega) (by omega), .of (by kernel_rfl), ?_⟩
      refine ⟨wrap_i64 (by omega) (by omega), k + 1, by omega, by omega, ?_⟩
      simp [hs]
    · simp at h3
      have hk2 : k = c.pipes.length := by omega
      subst hk2
      simp [XEndT, sumL]

def lenRes (c : Circuit) (l : List Plc) : Int := if layE c l = 0 then sumL c l else 0
theorem c_layout_Length (c : Circuit) (l : List Plc) (hs : Sized c) : Pure Go.Proofs.Tryz.prog GL 12 [c.av, .p (.lst 2 (l.map Plc.enc))] (.tup [.p (.int .i64 (lenRes c l)), .p (.int .i64 (layE c l))]) := by
  refine Pure.of_walk (N := 16) Go.Proofs.Tryz.func12 rfl rfl rfl (by simp) (by first | (simp; done) | simp [*]) ?_
  simp
  refine xcall_pure (c_layout_Check c l hs) ?_
  unfold lenRes
  by_cases h : layE c l = 0
  · obtain ⟨h1, h2⟩ := layE_zero.1 h
    have hS := c_layout_length c l h1 h2.len h2.near
    simp [h]
    refine xcall_pure hS ?_
    simp [XEndT, h]
  · simp [h, XEndT]
def ordP (l : List Plc) (x : Pipe) : Plc × Plc := if (plcAt l x.fr.part).row > (plcAt l x.to.part).row then (plcAt l x.to.part, plcAt l x.fr.part) else (plcAt l x.fr.part, plcAt l x.to.part)
def crossB (l : List Plc) (x y : Pipe) : Bool := decide ((ordP l x).1.row ≠ (ordP l x).2.row ∧ (ordP l x).1.row = (ordP l y).1.row ∧ (ordP l x).2.row = (ordP l y).2.row) &&
  (decide ((ordP l x).1.col < (ordP l y).1.col ∧ (ordP l x).2.col > (ordP l y).2.col) || decide ((ordP l x).1.col > (ordP l y).1.col ∧ (ordP l x).2.col < (ordP l y).2.col))
theorem ordP_near {l : List Plc} (h : Near l) (x : Pipe) : ((0 ≤ (ordP l x).1.row ∧ (ordP l x).1.row ≤ 4) ∧ 0 ≤ (ordP l x).1.col ∧ (ordP l x).1.col < 64) ∧ (0 ≤ (ordP l x).2.row ∧ (ordP l x).2.row ≤ 4) ∧ 0 ≤ (ordP l x).2.col ∧ (ordP l x).2.col < 64 := by
  have h1 := plcAt_near h x.fr.part
  have h2 := plcAt_near h x.to.part
  unfold ordP
  split
  · exact ⟨h2, h1⟩
  · exact ⟨h1, h2⟩
theorem mul_near {x y : Int} (hx : -64 < x ∧ x < 64) (hy : -64 < y ∧ y < 64) : -4096 ≤ x * y ∧ x * y ≤ 4096 := by
  have h1 : (x * y).natAbs = x.natAbs * y.natAbs := Int.natAbs_mul x y
  have h2 : x.natAbs * y.natAbs ≤ 64 * 64 := Nat.mul_le_mul (by omega) (by omega)
  omega
theorem mul_neg {x y : Int} : x * y < 0 ↔ (x < 0 ∧ 0 < y) ∨ (0 < x ∧ y < 0) := by
  constructor
  · intro h
    rcases Int.lt_trichotomy x 0 with h1 | h1 | h1
    · rcases Int.lt_trichotomy y 0 with h2 | h2 | h2
      · have := Int.mul_pos_of_neg_of_neg h1 h2; omega
      · subst h2; simp at h
      · exact .inl ⟨h1, h2⟩
    · subst h1; simp at h
    · rcases Int.lt_trichotomy y 0 with h2 | h2 | h2
      · exact .inr ⟨h1, h2⟩
      · subst h2; simp at h
      · have := Int.mul_pos h1 h2; omega
  · rintro (⟨h1, h2⟩ | ⟨h1, h2⟩)
    · exact Int.mul_neg_of_neg_of_pos h1 h2
    · exact Int.mul_neg_of_pos_of_neg h1 h2
def crossIn (l : List Plc) (ps : List Pipe) (x : Pipe) (k : Nat) : Nat := ((ps.take k).filter (crossB l x)).length
def crossN (l : List Plc) (ps : List Pipe) : Nat → Nat
  | 0 => 0
  | k + 1 => crossN l ps k + match ps[k]? with | some x => crossIn l ps x k | none => 0
theorem crossN_snoc {l : List Plc} {ps : List Pipe} {k : Nat} {x : Pipe} (e : ps[k]? = some x) : crossN l ps (k + 1) = crossN l ps k + crossIn l ps x k := by simp [crossN, e]
theorem crossIn_zero {l : List Plc} {ps : List Pipe} {x : Pipe} : crossIn l ps x 0 = 0 := rfl
theorem crossIn_snoc {l : List Plc} {ps : List Pipe} {x y : Pipe} {j : Nat} (e : ps[j]? = some y) : crossIn l ps x (j + 1) = crossIn l ps x j + if crossB l x y = true then 1 else 0 := by
  unfold crossIn
  rw [take_snoc e, List.filter_append, List.length_append]
  by_cases h : crossB l x y = true <;> simp [h]
theorem crossIn_le {l : List Plc} {ps : List Pipe} {x : Pipe} {j : Nat} : crossIn l ps x j ≤ j := by
  have h1 := List.length_filter_le (crossB l x) (ps.take j)
  have h2 := List.length_take_le j ps
  unfold crossIn; omega
theorem crossN_le {l : List Plc} {ps : List Pipe} : ∀ {k : Nat}, crossN l ps k ≤ k * k
  | 0 => by simp [crossN]
  | k + 1 => by
    have ih := @crossN_le l ps k
    have h2 : (match ps[k]? with | some x => crossIn l ps x k | none => 0) ≤ k := by
      split
      · exact crossIn_le
      · omega
    have h3 : (k + 1) * (k + 1) = k * k + k + k + 1 := by rw [Nat.add_mul, Nat.mul_add]; omega
    unfold crossN; omega
theorem crossN_small {l : List Plc} {ps : List Pipe} {k : Nat} (h : k ≤ 256) : crossN l ps k ≤ 65536 := by
  have h1 := @crossN_le l ps k
  have h2 : k * k ≤ 256 * 256 := Nat.mul_le_mul h h
  omega

theorem c_layout_ends (l : List Plc) (x : Pipe) (hx : ∃ (a b : Nat) (p q : Plc), x.fr.part = a ∧ x.to.part = b ∧ a < l.length ∧ b < l.length ∧ l[a]? = some p ∧ l[b]? = some q ∧ plcAt l x.fr.part = p ∧ plcAt l x.to.part = q) : Pure Go.Proofs.Tryz.prog GL 41 [.p (.lst 2 (l.map Plc.enc)), x.av] (.agg [.p (.int .i64 (ordP l x).1.row), .p (.int .i64 (ordP l x).1.col), .p (.int .i64 (ordP l x).2.row), .p (.int .i64 (ordP l x).2.col)]) := by
  refine Pure.of_walk (N := 33) Go.Proofs.Tryz.func41 rfl rfl rfl (by simp) (by first | (simp; done) | simp [*]) ?_
  obtain ⟨a, b, p, q, ha, hb, hal, hbl, ep, eq, pa, pb⟩ := hx
  simp
  refine XDraw.intro (by kernel_rfl) ?_
  simp [ha, hb, hal, hbl, ep, eq, Plc.enc, -getElem?_pos, List.getElem?_cons_zero, List.getElem?_cons_succ]
  refine ⟨.of (by kernel_rfl), ?_⟩
  by_cases hr : p.row > q.row
  · have ho : ordP l x = (q, p) := by unfold ordP; rw [pa, pb, if_pos hr]
    have hr2 : q.row < p.row := hr
    rw [ho]
    simp [hr2]
    simp [XEndT]
  · have ho : ordP l x = (p, q) := by unfold ordP; rw [pa, pb, if_neg hr]
    have hr2 : ¬ q.row < p.row := hr
    rw [ho]
    simp [hr2]
    simp [XEndT]

theorem c_pneumaticref25_ordered (l : List Plc) (x : Pipe) (hx : ∃ (a b : Nat) (p q : Plc), x.fr.part = a ∧ x.to.part = b ∧ a < l.length ∧ b < l.length ∧ l[a]? = some p ∧ l[b]? = some q ∧ plcAt l x.fr.part = p ∧ plcAt l x.to.part = q) : Pure Go.Proofs.Tryz.prog GL 64 [.p (.lst 2 (l.map Plc.enc)), x.av] (.tup [(ordP l x).1.av, (ordP l x).2.av]) := by
  refine Pure.of_walk (N := 29) Go.Proofs.Tryz.func64 rfl rfl rfl (by simp) (by first | (simp; done) | simp [*]) ?_
  obtain ⟨a, b, p, q, ha, hb, hal, hbl, ep, eq, pa, pb⟩ := hx
  simp
  refine XDraw.intro (by kernel_rfl) ?_
  simp [ha, hb, hal, hbl, ep, eq, Plc.enc, -getElem?_pos, List.getElem?_cons_zero, List.getElem?_cons_succ]
  refine ⟨.of (by kernel_rfl), ?_⟩
  by_cases hr : p.row > q.row
  · have ho : ordP l x = (q, p) := by unfold ordP; rw [pa, pb, if_pos hr]
    have hr2 : q.row < p.row := hr
    rw [ho]
    simp [hr2]
    refine XDraw.intro (by kernel_rfl) ?_
    simp
    refine ⟨.of (by kernel_rfl), ?_⟩
    simp [XEndT]
  · have ho : ordP l x = (p, q) := by unfold ordP; rw [pa, pb, if_neg hr]
    have hr2 : ¬ q.row < p.row := hr
    rw [ho]
    simp [hr2]
    refine XDraw.intro (by kernel_rfl) ?_
    simp
    refine ⟨.of (by kernel_rfl), ?_⟩
    simp [XEndT]

end Go.Am
/- Contracts: crossings; chapter 25. -/
namespace Go.Am
open Go Go.Proofs Go.Pn

set_option maxRecDepth 20000 in
theorem c_pneumaticref25_Cross (l : List Plc) (x y : Pipe) (hx : ∃ (a b : Nat) (p q : Plc), x.fr.part = a ∧ x.to.part = b ∧ a < l.length ∧ b < l.length ∧ l[a]? = some p ∧ l[b]? = some q ∧ plcAt l x.fr.part = p ∧ plcAt l x.to.part = q) (hy : ∃ (a b : Nat) (p q : Plc), y.fr.part = a ∧ y.to.part = b ∧ a < l.length ∧ b < l.length ∧ l[a]? = some p ∧ l[b]? = some q ∧ plcAt l y.fr.part = p ∧ plcAt l y.to.part = q) : Pure Go.Proofs.Tryz.prog GL 42 [.p (.lst 2 (l.map Plc.enc)), x.av, y.av] (.p (.bool (crossB l x y))) := by
  refine Pure.of_walk (N := 68) Go.Proofs.Tryz.func42 rfl rfl rfl (by simp) (by first | (simp; done) | simp [*]) ?_
  have h1 := c_pneumaticref25_ordered l x hx
  have h2 := c_pneumaticref25_ordered l y hy
  unfold crossB
  generalize ordP l x = u at *
  generalize ordP l y = v at *
  obtain ⟨a, b⟩ := u
  obtain ⟨d, e⟩ := v
  simp
  refine xcall_pure h1 ?_
  simp
  refine xcall_pure h2 ?_
  by_cases q1 : a.row = b.row
  · simp [q1, XEndT]
  · by_cases q2 : a.row = d.row
    · by_cases q3 : b.row = e.row
      · have q4 : ¬ (d.row = e.row) := by rw [← q2, ← q3]; exact q1
        by_cases q5 : a.col < d.col
        · by_cases q6 : e.col < b.col
          · simp [q1, q2, q3, q4, q5, q6, XEndT]
          · have q7 : ¬ d.col < a.col := by omega
            simp [q1, q2, q3, q4, q5, q6, q7, XEndT]
        · by_cases q6 : d.col < a.col
          · by_cases q7 : b.col < e.col
            · simp [q1, q2, q3, q4, q5, q6, q7, XEndT]
            · simp [q1, q2, q3, q4, q5, q6, q7, XEndT]
          · simp [q1, q2, q3, q4, q5, q6, XEndT]
      · have q4 : ¬ (d.row = b.row) := by rw [← q2]; exact q1
        simp [q1, q2, q3, q4, XEndT]
    · simp [q1, q2, XEndT]

def crossRes (c : Circuit) (l : List Plc) : Int := if layE c l = 0 then (crossN l c.pipes c.pipes.length : Int) else 0

set_option maxRecDepth 20000 in
theorem c_pneumaticref25_Crossings (c : Circuit) (l : List Plc) (hs : Sized c) : Pure Go.Proofs.Tryz.prog GL 15 [c.av, .p (.lst 2 (l.map Plc.enc))] (.tup [.p (.int .i64 (crossRes c l)), .p (.int .i64 (layE c l))]) := by
  refine Pure.of_walk (N := 43) Go.Proofs.Tryz.func15 rfl rfl rfl (by simp) (by first | (simp; done) | simp [*]) ?_
  simp
  refine xcall_pure (c_pneumaticref25_Check c l hs) ?_
  unfold crossRes
  by_cases h : layE c l = 0
  · obtain ⟨hc, hl⟩ := layE_zero.1 h
    have h2 := check_parts hc
    rw [if_pos h]
    simp [h]
    refine XLoop.go [1, 2] [0] 0 [] (fun _ => []) (fun _ (k : Nat) => [(7, .p (.int .i64 (crossN l c.pipes k : Int))), (8, .p (.int .i64 k))]) (fun _ _ => []) (fun k => k ≤ c.pipes.length) (fun k => c.pipes.length - k) 0 (by omega) ?_ ?_
    · simp [crossN]
      try decide
    · intro k hk
      have hcs := @crossN_small l c.pipes k (by omega)
      simp
      refine xif_split (fun h3 => ?_) (fun h3 => ?_)
      · simp at h3
        obtain ⟨x, e⟩ := get_lt h3
        have hx := pipe_parts hc hl.len (List.mem_of_getElem? e)
        have hsn := crossN_snoc (l := l) e
        simp
        refine XLoop.go [1, 2, 8] [0] 0 [] (fun _ => []) (fun _ (j : Nat) => [(7, .p (.int .i64 ((crossN l c.pipes k : Int) + crossIn l c.pipes x j))), (9, .p (.int .i64 j))]) (fun _ _ => []) (fun j => j ≤ k) (fun j => k - j) 0 (by omega) ?_ ?_
        · simp [crossIn_zero]
          try decide
        · intro j hj
          have hci := @crossIn_le l c.pipes x j
          simp
          refine xif_split (fun h4 => ?_) (fun h4 => ?_)
          · simp at h4
            obtain ⟨y, ey⟩ := get_lt (xs := c.pipes) (k := j) (by omega)
            have hy := pipe_parts hc hl.len (List.mem_of_getElem? ey)
            have hjl : j < c.pipes.length := by omega
            have hX := c_pneumaticref25_Cross l x y hx hy
            have hss := crossIn_snoc (l := l) (x := x) ey
            simp
            refine XDraw.intro (by kernel_rfl) ?_
            simp [h3, e, hjl, ey, Pipe.enc, -getElem?_pos, List.getElem?_cons_zero, List.getElem?_cons_succ]
            refine xcall_pure hX ?_
            simp
            refine ⟨.of (by kernel_rfl), ?_⟩
            cases hb : crossB l x y with
            | true =>
              rw [hb] at hss
              simp
              refine ⟨wrap_i64 (by omega) (by omega), wrap_i64 (by omega) (by omega), j + 1, by omega, by omega, ?_⟩
              simp [hss]
              omega
            | false =>
              rw [hb] at hss
              simp
              refine ⟨wrap_i64 (by omega) (by omega), j + 1, by omega, by omega, ?_⟩
              simp [hss]
          · simp at h4
            have hjk : j = k := by omega
            subst hjk
            simp
            refine ⟨wrap_i64 (by omega) (by omega), j + 1, by omega, by omega, ?_⟩
            simp [hsn]
      · simp at h3
        have hk2 : k = c.pipes.length := by omega
        subst hk2
        simp [XEndT, h]
  · rw [if_neg h]
    simp [h, XEndT]

set_option maxRecDepth 20000 in
theorem c_layout_Crossings (c : Circuit) (l : List Plc) (hs : Sized c) : Pure Go.Proofs.Tryz.prog GL 14 [c.av, .p (.lst 2 (l.map Plc.enc))] (.tup [.p (.int .i64 (crossRes c l)), .p (.int .i64 (layE c l))]) := by
  refine Pure.of_walk (N := 89) Go.Proofs.Tryz.func14 rfl rfl rfl (by simp) (by first | (simp; done) | simp [*]) ?_
  simp
  refine xcall_pure (c_layout_Check c l hs) ?_
  unfold crossRes
  by_cases h : layE c l = 0
  · obtain ⟨hc, hl⟩ := layE_zero.1 h
    have h2 := check_parts hc
    have hnear := hl.near
    rw [if_pos h]
    simp [h]
    refine XLoop.go [1, 2, 21, 22] [0] 0 [] (fun _ => []) (fun _ (k : Nat) => [(7, .p (.int .i64 (crossN l c.pipes k : Int))), (23, .p (.int .i64 k))]) (fun _ _ => []) (fun k => k ≤ c.pipes.length) (fun k => c.pipes.length - k) 0 (by omega) ?_ ?_
    · simp [crossN]
      try decide
    · intro k hk
      have hcs := @crossN_small l c.pipes k (by omega)
      simp
      refine xif_split (fun h3 => ?_) (fun h3 => ?_)
      · simp at h3
        obtain ⟨x, e⟩ := get_lt h3
        have hx := pipe_parts hc hl.len (List.mem_of_getElem? e)
        have hsn := crossN_snoc (l := l) e
        have hE := c_layout_ends l x hx
        have hk3 : k ≤ c.pipes.length := by omega
        have hox := ordP_near hnear x
        simp [h3, e, Pipe.enc, -getElem?_pos, List.getElem?_cons_zero, List.getElem?_cons_succ]
        refine xcall_pure hE ?_
        simp [hk3]
        refine XLoop.go [1, 2, 10, 21, 22, 23, 34, 35] [0, 2] 0 [] (fun _ => []) (fun _ (j : Nat) => [(7, .p (.int .i64 ((crossN l c.pipes k : Int) + crossIn l c.pipes x j))), (36, .p (.int .i64 j))]) (fun _ _ => []) (fun j => j ≤ k) (fun j => k - j) 0 (by omega) ?_ ?_
        · simp [crossIn_zero]
          try decide
        · intro j hj
          have hci := @crossIn_le l c.pipes x j
          simp
          refine xif_split (fun h4 => ?_) (fun h4 => ?_)
          · simp at h4
            obtain ⟨y, ey⟩ := get_lt (xs := c.pipes) (k := j) (by omega)
            have hy := pipe_parts hc hl.len (List.mem_of_getElem? ey)
            have hjl : j < c.pipes.length := by omega
            have hjk : j < k := by omega
            have hE2 := c_layout_ends l y hy
            have hss := crossIn_snoc (l := l) (x := x) ey
            have hoy := ordP_near hnear y
            have hcb : crossB l x y = (decide ((ordP l x).1.row ≠ (ordP l x).2.row ∧ (ordP l x).1.row = (ordP l y).1.row ∧ (ordP l x).2.row = (ordP l y).2.row) &&
              (decide ((ordP l x).1.col < (ordP l y).1.col ∧ (ordP l x).2.col > (ordP l y).2.col) || decide ((ordP l x).1.col > (ordP l y).1.col ∧ (ordP l x).2.col < (ordP l y).2.col))) := rfl
            generalize ordP l x = u at *
            generalize ordP l y = v at *
            obtain ⟨a, b⟩ := u
            obtain ⟨d, f⟩ := v
            simp only at hox hoy hcb
            have hw1 := mul_near (x := a.col - d.col) (y := b.col - f.col) (by omega) (by omega)
            simp [hjl, hjk, ey, Pipe.enc, List.getElem?_take, h4, -getElem?_pos, List.getElem?_cons_zero, List.getElem?_cons_succ]
            refine ⟨by omega, ?_⟩
            refine xcall_pure hE2 ?_
            have fin0 : crossB l x y = false → crossIn l c.pipes x (j + 1) = crossIn l c.pipes x j := fun hb => by rw [hss, hb]; simp
            have fin1 : crossB l x y = true → crossIn l c.pipes x (j + 1) = crossIn l c.pipes x j + 1 := fun hb => by rw [hss, hb]; simp
            by_cases q1 : a.row = b.row
            · have hb := fin0 (by rw [hcb]; simp [q1])
              simp [q1]
              refine ⟨wrap_i64 (by omega) (by omega), j + 1, by omega, by omega, ?_⟩
              simp [hb]
              try decide
            · by_cases q2 : a.row = d.row
              · by_cases q3 : b.row = f.row
                · have q4 : ¬ (d.row = f.row) := by rw [← q2, ← q3]; exact q1
                  simp [q1, q2, q3, q4]
                  refine ⟨wrap_i64 (by omega) (by omega), wrap_i64 (by omega) (by omega), wrap_i64 (by omega) (by omega), ?_⟩
                  by_cases q5 : (a.col - d.col) * (b.col - f.col) < 0
                  · have q6 := mul_neg.1 q5
                    have hb := fin1 (by
                      rw [hcb]
                      have : (a.col < d.col ∧ f.col < b.col) ∨ (d.col < a.col ∧ b.col < f.col) := by omega
                      simp [q1, q2, q3, q4]
                      exact this)
                    simp [q5]
                    refine ⟨wrap_i64 (by omega) (by omega), wrap_i64 (by omega) (by omega), j + 1, by omega, by omega, ?_⟩
                    simp [hb, ← q2, ← q3]
                    all_goals first | omega | decide
                  · have q6 := fun hh => q5 (mul_neg.2 hh)
                    have hb := fin0 (by
                      rw [hcb]
                      have : ¬ ((a.col < d.col ∧ f.col < b.col) ∨ (d.col < a.col ∧ b.col < f.col)) := fun hh => q6 (by omega)
                      simp only [not_or, not_and] at this
                      simp [q1, q2, q3, q4]
                      exact ⟨by have := this.1; omega, by have := this.2; omega⟩)
                    simp [q5]
                    refine ⟨wrap_i64 (by omega) (by omega), j + 1, by omega, by omega, ?_⟩
                    simp [hb, ← q2, ← q3]
                    try decide
                · have q4 : ¬ (d.row = b.row) := by rw [← q2]; exact q1
                  have hb := fin0 (by rw [hcb]; simp [q3])
                  simp [q1, q2, q3, q4]
                  refine ⟨wrap_i64 (by omega) (by omega), j + 1, by omega, by omega, ?_⟩
                  simp [hb, ← q2]
                  try decide
              · have hb := fin0 (by rw [hcb]; simp [q2])
                simp [q1, q2]
                refine ⟨wrap_i64 (by omega) (by omega), j + 1, by omega, by omega, ?_⟩
                simp [hb]
                try decide
          · simp at h4
            have hjk : j = k := by omega
            subst hjk
            simp
            refine ⟨wrap_i64 (by omega) (by omega), j + 1, by omega, by omega, ?_⟩
            simp [hsn]
      · simp at h3
        have hk2 : k = c.pipes.length := by omega
        subst hk2
        simp [XEndT, h]
  · rw [if_neg h]
    simp [h, XEndT]

end Go.Am
/- Contracts: clones of lists of numbers and of places; a number is struck out. -/
namespace Go.Am
open Go Go.Proofs Go.Pn


theorem g_CloneInt (l : List Int) (s : Store) (nx : Nat) (hn : l.length < 1000000) :
    Gives Go.Proofs.Tryz.prog GL 67 [.p (.lst 1 (l.map Int.enc))] s nx (.acc nx 1 l.length) [] [(nx, accB 1 (l.map Int.row))] (nx + 1) := by
  refine Gives.mk_walkK (N := 8) (args := [.p (.lst 1 (l.map Int.enc))]) [] [] [] [(0, accB 1 (l.map Int.row))] 0 1 (.acc 0 1 l.length) (nms [2]) (up1 := [(nx, accB 1 (l.map Int.row))]) Go.Proofs.Tryz.func67 rfl rfl rfl (by simp) rfl (by simp) (by simp) (by simp) (renS_acc rfl (renR_map fun _ => rfl)) (by simp) rfl ?_
  simp
  refine xdec_split (fun h => ?_) (fun h => ?_)
  · subst h
    simp
  · have h0 : 0 < l.length := List.length_pos_iff.2 h
    have hrow : (fun x => List.map AV.p x) ∘ Int.enc = Int.row := rfl
    simp [h, h0, hrow, accB, Nat.pos_iff_ne_zero]
    omega

theorem g_ClonePlc (l : List Plc) (s : Store) (nx : Nat) (hn : l.length < 1000000) :
    Gives Go.Proofs.Tryz.prog GL 21 [.p (.lst 2 (l.map Plc.enc))] s nx (.acc nx 2 l.length) [] [(nx, accB 2 (l.map Plc.row_))] (nx + 1) := by
  refine Gives.mk_walkK (N := 8) (args := [.p (.lst 2 (l.map Plc.enc))]) [] [] [] [(0, accB 2 (l.map Plc.row_))] 0 1 (.acc 0 2 l.length) (nms [2]) (up1 := [(nx, accB 2 (l.map Plc.row_))]) Go.Proofs.Tryz.func21 rfl rfl rfl (by simp) rfl (by simp) (by simp) (by simp) (renS_acc rfl (renR_map fun _ => rfl)) (by simp) rfl ?_
  simp
  refine xdec_split (fun h => ?_) (fun h => ?_)
  · subst h
    simp
  · have h0 : 0 < l.length := List.length_pos_iff.2 h
    have hrow : (fun x => List.map AV.p x) ∘ Plc.enc = Plc.row_ := rfl
    simp [h, h0, hrow, accB, Nat.pos_iff_ne_zero]
    omega


theorem c_ClonePlc (l : List Plc) (hn : l.length < 1000000) : Pure Go.Proofs.Tryz.prog GL 21 [.p (.lst 2 (l.map Plc.enc))] (.p (.lst 2 (l.map Plc.enc))) := by
  refine Pure.of_walk (N := 8) Go.Proofs.Tryz.func21 rfl rfl rfl (by simp) (by first | (simp; done) | simp [*]) ?_
  simp
  refine xdec_split (fun h => ?_) (fun h => ?_)
  · subst h
    simp [XEndT]
  · have h0 : 0 < l.length := List.length_pos_iff.2 h
    simp [XEndT, h, h0]
    try omega

theorem irow_len {l : List Int} : ∀ r ∈ l.map Int.row, r.length = 1 := fun r hr => by
  obtain ⟨x, _, rfl⟩ := List.mem_map.1 hr; rfl
theorem irow_one {l : List Int} {i : Nat} : ∀ r ∈ (l.map Int.row).drop i, ∀ c ∈ r, AV.oneCell c = true := fun r hr c hc => by
  obtain ⟨x, _, rfl⟩ := List.mem_map.1 (List.mem_of_mem_drop hr)
  simp at hc; subst hc; rfl
theorem irow_drop {l : List Int} {i : Nat} : ∀ r ∈ (l.map Int.row).drop i, r.length = 1 := fun r hr => irow_len r (List.mem_of_mem_drop hr)
theorem del_k {R : List (List AV)} {i n k : Nat} (hn : R.length = n) (hi : i < n) (hR : ∀ x ∈ R, x.length = k) :
    ∃ M, layRows R i (R.drop (i + 1)) = M ∧ M.length = n ∧ (∀ x ∈ M, x.length = k) ∧ M.take (n - 1) = R.take i ++ R.drop (i + 1) := by
  refine ⟨_, rfl, ?_, ?_, ?_⟩
  · simp [layRows]; omega
  · intro x hx
    rcases List.mem_append.1 hx with hx | hx
    · exact hR x (List.mem_of_mem_take hx)
    · rcases List.mem_append.1 hx with hx | hx
      · exact hR x (List.mem_of_mem_drop hx)
      · exact hR x (List.mem_of_mem_drop hx)
  · rw [layRows, ← List.append_assoc, List.take_append_of_le_length (by simp; omega), List.take_of_length_le (by simp; omega)]

theorem delI_ref (l : List Int) (i : Nat) (b cp : Nat) (s : Store) (nx : Nat) (hb : b < nx) (hi : i < l.length) (hl : l.length < 100000) (hcp : l.length ≤ cp) (hg : get s b = some (.cells 1 (l.map Int.row))) :
    Gives Go.Proofs.Tryz.prog GL 68 [.ref b 1 0 l.length (some cp), .p (.int .i64 i), .p (.int .i64 (i + 1))] s nx (.p (.lst 1 ((l.take i ++ l.drop (i + 1)).map Int.enc))) [b] [(b, none)] nx := by
  refine Gives.of_walkF (N := 33) (args := [.ref 0 1 0 l.length (some cp), .p (.int .i64 i), .p (.int .i64 (i + 1))]) (σ := [b]) (s0 := [(0, some (.cells 1 (l.map Int.row)))]) (m := 1) Go.Proofs.Tryz.func68 rfl rfl rfl (by simp) rfl (by simp [hg, hb]) (by simp) rfl ?_
  have e1 : i ≤ l.length := by omega
  have e2 : (i : Int) + 1 ≤ l.length := by omega
  have e3 : ¬ ((i : Int) = i + 1) := by omega
  have e4 : (0 : Int) ≤ i + 1 := by omega
  have e5 : (i : Int) ≤ i + 1 := by omega
  have e9 : ¬ l.length < i := by omega
  simp [e1, e2, e3, e4, e5, hi]
  refine ⟨by omega, XDraw.intro (by kernel_rfl) ?_⟩
  by_cases hil : i + 1 = l.length
  · have e6 : ¬ cp < i := by omega
    have e10 : l ≠ [] := by rintro rfl; simp at hi
    have e7 : (i : Int) < l.length := by omega
    have e8 : (l.length : Int) ≤ cp := by omega
    simp [e1, e2, e3, e4, e5, hi, hil, e6, e7, e8, e9, e10]
    refine ⟨by omega, .of (by kernel_rfl), by omega, ?_⟩
    simp [XEndT, layRows]
    refine ⟨by omega, ?_⟩
    rw [List.take_append_of_le_length (by simp; omega), List.take_of_length_le (by simp; omega)]
    rfl
  · have hq := @irow_one l (i + 1)
    simp at hq
    have hD1 : List.take (l.length - (i + 1)) (List.drop (i + 1) (List.map Int.row l)) = List.drop (i + 1) (List.map Int.row l) := List.take_of_length_le (by simp)
    have hne : List.drop (i + 1) (List.map Int.row l) ≠ [] := fun h => by
      have := congrArg List.length h
      simp at this
      omega
    simp [e1, e2, e3, e4, e5, hi, hil, hD1, e9]
    rw [if_pos ⟨by omega, hq⟩]
    simp [hne]
    refine ⟨irow_drop, by omega, e1, ?_⟩
    have e11 : i + (l.length - (i + 1)) = l.length - 1 := by omega
    have e12 : ¬ cp < l.length - 1 := by omega
    have e13 : l.length - 1 < l.length := by omega
    have e14 : (l.length : Int) ≤ cp := by omega
    have e15 : ((l.length - 1 : Nat) : Int) < l.length := by omega
    obtain ⟨M, hM, m1, m2, m3⟩ := del_k (R := l.map Int.row) (n := l.length) (i := i) (by simp) hi irow_len
    simp [e11, e12, e13, e14, e15, hne]
    rw [hM]
    simp [m1]
    refine ⟨.of (by kernel_rfl), by omega, by first | exact m2 | omega, ?_⟩
    have m4 : (layRows M (l.length - 1) (List.replicate (l.length - (l.length - 1)) [AV.p (PV.int IntKind.i64 0)])).take (l.length - 1) = M.take (l.length - 1) := by
      rw [layRows, List.take_append_of_le_length (by simp; omega), List.take_take]
      congr 1
      omega
    simp [XEndT, m3, m4]
    exact ⟨by omega, rfl⟩

theorem g_DelInt (l : List Int) (i : Nat) (b : Nat) (s : Store) (nx : Nat) (hb : b < nx) (hi : i < l.length) (hl : l.length < 100000) (hg : get s b = accB 1 (l.map Int.row)) :
    Gives Go.Proofs.Tryz.prog GL 68 [.acc b 1 l.length, .p (.int .i64 i), .p (.int .i64 (i + 1))] s nx (.p (.lst 1 ((l.take i ++ l.drop (i + 1)).map Int.enc))) [b] [(b, none)] nx := by
  refine Gives.of_acc (fun h => by omega) (fun h => ?_)
  have hg2 : get s b = some (.cells 1 (l.map Int.row)) := by
    rw [hg, accB, if_neg]
    simp
    rintro rfl
    simp at h
  refine Gives.capped (j := 0) rfl (fun cp hcp => ?_)
  exact delI_ref l i b cp s nx hb hi hl hcp hg2

end Go.Am
/- Contracts: the orders of a list, yielded one by one; chapter 25. -/
namespace Go.Am
open Go Go.Proofs Go.Pn

def ordersF : Nat → List Int → List (List Int)
  | 0, _ => [[]]
  | n + 1, l => (List.range l.length).flatMap fun i => (ordersF n (l.take i ++ l.drop (i + 1))).map fun o => (l[i]?.getD 0) :: o
def ordersL (l : List Int) : List (List Int) := ordersF l.length l
theorem strike_len {l : List Int} {i n : Nat} (hl : l.length = n + 1) (hi : i < l.length) : (l.take i ++ l.drop (i + 1)).length = n := by simp; omega

structure BSt where
  b : List Plc
  n : Int
def bestC (g : BSt) : ABlk := .cells 1 [[.p (.lst 2 (g.b.map Plc.enc))]]
def leastC (g : BSt) : ABlk := .cells 1 [[.p (.int .i64 g.n)]]
theorem renB_loop {ρ : List Nat} {i : LoopI} {t : Slots} {j : Option Code} : renB ρ (.loop i t j) = (renT ρ t).map (.loop i · j) := rfl
theorem renB_cells {ρ : List Nat} {k : Nat} {rows : List (List AV)} : renB ρ (.cells k rows) = (renR ρ rows).map (.cells k) := rfl
@[simp] theorem bestC_ren {ρ : List Nat} {g : BSt} : renB ρ (bestC g) = some (bestC g) := rfl
@[simp] theorem leastC_ren {ρ : List Nat} {g : BSt} : renB ρ (leastC g) = some (leastC g) := rfl

def loopT (bc bl bk bb bm : Nat) : Slots := [(3, .ptr bc 2 0 0), (4, .ptr bl 1 0 0), (10, .ptr bk 1 0 0), (13, .ptr bb 1 0 0), (14, .ptr bm 1 0 0)]

def RoundOK (i : LoopI) (X0 X1 X2 : ABlk) (step : BSt → List Int → BSt) (ok : List Int → Prop) : Prop :=
  ∀ (g : BSt) (o : List Int) (s : Store) (nx bc bl bk bb bm lam : Nat), ok o → [lam, bc, bl, bk, bb, bm].Nodup → (∀ b ∈ [lam, bc, bl, bk, bb, bm], b < nx) → get s bc = some X0 → get s bl = some X1 → get s bk = some X2 →
    get s bb = some (bestC g) → get s bm = some (leastC g) → get s lam = some (.loop i (loopT bc bl bk bb bm) none) →
    GivesY Go.Proofs.Tryz.prog GL i.l [.p (.lst 1 (o.map Int.enc))] s nx (.p (.bool true)) [lam, bc, bl, bk, bb, bm] [(lam, some (.loop i (loopT bc bl bk bb bm) none)), (bb, some (bestC (step g o))), (bm, some (leastC (step g o)))] nx

def subT (step : BSt → List Int → BSt) (g : BSt) (begun : List Int) (n : Nat) (rest : List Int) (k : Nat) : BSt :=
  (((List.range k).flatMap fun i => (ordersF n (rest.take i ++ rest.drop (i + 1))).map fun o => begun ++ ((rest[i]?.getD 0) :: o))).foldl step g
theorem subT_zero {step : BSt → List Int → BSt} {g : BSt} {begun : List Int} {n : Nat} {rest : List Int} : subT step g begun n rest 0 = g := rfl
theorem subT_snoc {step : BSt → List Int → BSt} {g : BSt} {begun : List Int} {n : Nat} {rest : List Int} {k : Nat} {x : Int} (e : rest[k]? = some x) :
    subT step g begun n rest (k + 1) = ((ordersF n (rest.take k ++ rest.drop (k + 1))).map fun o => (begun ++ [x]) ++ o).foldl step (subT step g begun n rest k) := by
  unfold subT
  rw [List.range_succ, List.flatMap_append, List.foldl_append]
  simp [e, List.append_assoc]
theorem subT_all {step : BSt → List Int → BSt} {g : BSt} {begun : List Int} {n : Nat} {rest : List Int} : subT step g begun n rest rest.length = ((ordersF (n + 1) rest).map fun o => begun ++ o).foldl step g := by
  unfold subT
  rw [ordersF, List.map_flatMap]
  simp [List.map_map, Function.comp_def]

section
variable {i : LoopI} {X0 X1 X2 : ABlk} {step : BSt → List Int → BSt} {ok : List Int → Prop}

def nextS (i : LoopI) (X0 X1 X2 : ABlk) (g : BSt) : Store :=
  [(0, some X0), (1, some X1), (2, some X2), (3, some (bestC g)), (4, some (leastC g)), (5, some (.loop i (loopT 0 1 2 3 4) none)), (6, some (.cells 1 [[.fn (.yield i.l) []]])), (7, some (.cells 1 [[.fn (.func 66) [.ptr 6 1 0 0, .ptr 7 1 0 0]]]))]

theorem next_lends {g : BSt} {s : Store} {nx bc bl bk bb bm lam a b : Nat} {x y : PV} (r0 : ∀ ρ, renB ρ X0 = some X0) (r1 : ∀ ρ, renB ρ X1 = some X1) (r2 : ∀ ρ, renB ρ X2 = some X2)
    (hnd : [bc, bl, bk, bb, bm, lam, a, b].Nodup) (hlt : ∀ x ∈ [bc, bl, bk, bb, bm, lam, a, b], x < nx)
    (g0 : get s bc = some X0) (g1 : get s bl = some X1) (g2 : get s bk = some X2) (g3 : get s bb = some (bestC g)) (g4 : get s bm = some (leastC g)) (g5 : get s lam = some (.loop i (loopT bc bl bk bb bm) none))
    (g6 : get s a = some (.cells 1 [[.fn (.yield i.l) []]])) (g7 : get s b = some (.cells 1 [[.fn (.func 66) [.ptr a 1 0 0, .ptr b 1 0 0]]])) :
    LendsX [bc, bl, bk, bb, bm, lam, a, b] nx (nextS i X0 X1 X2 g) s [.p x, .p y, .ptr 6 1 0 0, .ptr 7 1 0 0] [.p x, .p y, .ptr a 1 0 0, .ptr b 1 0 0] := by
  have hl0 : renB [bc, bl, bk, bb, bm, lam, a, b] (.loop i (loopT 0 1 2 3 4) none) = some (.loop i (loopT bc bl bk bb bm) none) := rfl
  have hl6 : renB [bc, bl, bk, bb, bm, lam, a, b] (.cells 1 [[.fn (.yield i.l) []]]) = some (.cells 1 [[.fn (.yield i.l) []]]) := rfl
  have hl7 : renB [bc, bl, bk, bb, bm, lam, a, b] (.cells 1 [[.fn (.func 66) [.ptr 6 1 0 0, .ptr 7 1 0 0]]]) = some (.cells 1 [[.fn (.func 66) [.ptr a 1 0 0, .ptr b 1 0 0]]]) := rfl
  refine ⟨?_, rfl, hnd, hlt, rfl⟩
  simp [-renB, nextS, g0, g1, g2, g3, g4, g5, g6, g7, r0, r1, r2, hl0, hl6, hl7]

set_option maxRecDepth 20000 in
theorem g_next (hY : RoundOK i X0 X1 X2 step ok) (r0 : ∀ ρ, renB ρ X0 = some X0) (r1 : ∀ ρ, renB ρ X1 = some X1) (r2 : ∀ ρ, renB ρ X2 = some X2) :
    ∀ (n : Nat) (begun rest : List Int) (g : BSt) (s : Store) (nx bc bl bk bb bm lam a b : Nat), rest.length = n → begun.length + n ≤ 100 → (∀ o ∈ ordersF n rest, ok (begun ++ o)) → [bc, bl, bk, bb, bm, lam, a, b].Nodup → (∀ x ∈ [bc, bl, bk, bb, bm, lam, a, b], x < nx) →
      get s bc = some X0 → get s bl = some X1 → get s bk = some X2 → get s bb = some (bestC g) → get s bm = some (leastC g) → get s lam = some (.loop i (loopT bc bl bk bb bm) none) →
      get s a = some (.cells 1 [[.fn (.yield i.l) []]]) → get s b = some (.cells 1 [[.fn (.func 66) [.ptr a 1 0 0, .ptr b 1 0 0]]]) →
      Gives Go.Proofs.Tryz.prog GL 66 [.p (.lst 1 (begun.map Int.enc)), .p (.lst 1 (rest.map Int.enc)), .ptr a 1 0 0, .ptr b 1 0 0] s nx (.p (.bool true)) [bc, bl, bk, bb, bm, lam, a, b]
        [(bb, some (bestC (((ordersF n rest).map fun o => begun ++ o).foldl step g))), (bm, some (leastC (((ordersF n rest).map fun o => begun ++ o).foldl step g)))] nx := by
  intro n
  induction n with
  | zero =>
    intro begun rest g s nx bc bl bk bb bm lam a b hl hsm hok hnd hlt g0 g1 g2 g3 g4 g5 g6 g7
    have hr : rest = [] := List.length_eq_zero_iff.1 hl
    subst hr
    refine Gives.mk_walkK (N := 37) (args := [.p (.lst 1 (begun.map Int.enc)), .p (.lst 1 []), .ptr 6 1 0 0, .ptr 7 1 0 0]) [bc, bl, bk, bb, bm, lam, a, b] []
      (nextS i X0 X1 X2 g) [(3, some (bestC (step g (begun ++ [])))), (4, some (leastC (step g (begun ++ []))))] 8 0 (.p (.bool true)) (fun _ => []) (up1 := [(bb, some (bestC (step g (begun ++ [])))), (bm, some (leastC (step g (begun ++ []))))]) Go.Proofs.Tryz.func66 rfl rfl rfl (by simp) rfl
      (next_lends r0 r1 r2 hnd hlt g0 g1 g2 g3 g4 g5 g6 g7) (by simp) rfl rfl (by simp [ordersF]) rfl ?_
    simp [nextS]
    refine xycall_gives (hY g begun _ _ 0 1 2 3 4 5 (by simpa [ordersF] using hok) (by simp) (by simp) rfl rfl rfl rfl rfl rfl) ?_
    simp [-renB, renB_loop, renB_cells, loopT, nextS, r0, r1, r2]
    try decide
  | succ n ih =>
    intro begun rest g s nx bc bl bk bb bm lam a b hl hsm hok hnd hlt g0 g1 g2 g3 g4 g5 g6 g7
    have hfin := subT_all (step := step) (g := g) (begun := begun) (n := n) (rest := rest)
    rw [← hfin]
    refine Gives.mk_walkK (N := 37) (args := [.p (.lst 1 (begun.map Int.enc)), .p (.lst 1 (rest.map Int.enc)), .ptr 6 1 0 0, .ptr 7 1 0 0]) [bc, bl, bk, bb, bm, lam, a, b] []
      (nextS i X0 X1 X2 g) [(3, some (bestC (subT step g begun n rest rest.length))), (4, some (leastC (subT step g begun n rest rest.length)))] 8 0 (.p (.bool true)) (fun _ => []) (up1 := [(bb, some (bestC (subT step g begun n rest rest.length))), (bm, some (leastC (subT step g begun n rest rest.length)))]) Go.Proofs.Tryz.func66 rfl rfl rfl (by simp) rfl
      (next_lends r0 r1 r2 hnd hlt g0 g1 g2 g3 g4 g5 g6 g7) (by simp) rfl rfl (by simp) rfl ?_
    simp [nextS]
    refine xif_split (fun h => ?_) (fun h => ?_)
    · simp at h; subst h; simp at hl
    simp
    refine XLoop.go [0, 1, 3, 15, 16] [0, 1, 2, 5, 6, 7] 0 [] (fun _ => []) (fun _ (k : Nat) => [(17, .p (.int .i64 k))]) (fun _ k => [(3, some (bestC (subT step g begun n rest k))), (4, some (leastC (subT step g begun n rest k)))]) (fun k => k ≤ rest.length) (fun k => rest.length - k) 0 (by simp) ?_ ?_
    · simp [-renB, renB_loop, renB_cells, loopT, r0, r1, r2, subT_zero]
      try decide
    intro k hk
    simp [-renB]
    refine xif_split (fun h3 => ?_) (fun h3 => ?_)
    · simp at h3
      obtain ⟨x, e⟩ := get_lt h3
      simp [-renB, h3, e, -getElem?_pos, List.getElem?_cons_zero, List.getElem?_cons_succ]
      have hbl : begun.length < 1000000 := by omega
      have hrl : rest.length < 100000 := by omega
      refine XDraw.intro (by kernel_rfl) ?_
      simp [-renB]
      refine xcall_gives (g_CloneInt begun _ _ (by omega)) ?_
      simp [-renB]
      refine ⟨by omega, xcall_gives (g_CloneInt rest _ _ (by omega)) ?_⟩
      simp [-renB]
      refine ⟨wrap_i64 (by omega) (by omega), xcall_gives (g_DelInt rest k 11 _ _ (by omega) h3 hrl (by simp)) ?_⟩
      simp [-renB]
      rw [show List.take k (List.map Int.enc rest) ++ List.drop (k + 1) (List.map Int.enc rest) = (rest.take k ++ rest.drop (k + 1)).map Int.enc from by simp]
      refine xcall_give1 (x := .p (.lst 1 ((begun ++ [x]).map Int.enc))) (B := [10]) ?_ (ih (begun ++ [x]) (rest.take k ++ rest.drop (k + 1)) (subT step g begun n rest k) _ 12 0 1 2 3 4 5 6 7 (strike_len hl h3) (by simp; omega) ?_ (by simp) (by simp) ?_ ?_ ?_ ?_ ?_ ?_ ?_ ?_) ?_ ?_
      · simp
        done
      · intro o ho
        have h5 : x :: o ∈ ordersF (n + 1) rest := by
          simp only [ordersF, List.mem_flatMap, List.mem_map, List.mem_range]
          exact ⟨k, h3, o, ho, by simp [e]⟩
        simpa using hok _ h5
      any_goals rfl
      rw [← subT_snoc e]
      simp [-renB, renB_loop, renB_cells, loopT, r0, r1, r2]
      exact ⟨.of (by kernel_rfl), wrap_i64 (by omega) (by omega), k + 1, by omega, by omega, by simp, by simp, by decide⟩
    · simp at h3
      have hkl : k = rest.length := by omega
      subst hkl
      simp [-renB, renB_loop, renB_cells, loopT, nextS, r0, r1, r2]
      try decide

end
end Go.Am
/- Contracts: the loop over the orders of a list. -/
namespace Go.Am
open Go Go.Proofs Go.Pn

theorem c_layout_orders (l : List Int) : Pure Go.Proofs.Tryz.prog GL 43 [.p (.lst 1 (l.map Int.enc))] (.fn (.func 65) [.iptr 1 [[.lst 1 (l.map Int.enc)]] 0 0]) := by
  refine Pure.of_walk (N := 4) Go.Proofs.Tryz.func43 rfl rfl rfl (by simp) (by first | (simp; done) | simp [*]) ?_
  simp [XEndT]

section
variable {i : LoopI} {X0 X1 X2 : ABlk} {step : BSt → List Int → BSt} {ok : List Int → Prop}

set_option maxRecDepth 20000 in
theorem g_orders1 (hY : RoundOK i X0 X1 X2 step ok) (r0 : ∀ ρ, renB ρ X0 = some X0) (r1 : ∀ ρ, renB ρ X1 = some X1) (r2 : ∀ ρ, renB ρ X2 = some X2)
    (l : List Int) (g : BSt) (s : Store) (nx bc bl bk bb bm lam : Nat) (hl : l.length ≤ 100) (hok : ∀ o ∈ ordersL l, ok o) (hnd : [bc, bl, bk, bb, bm, lam].Nodup) (hlt : ∀ x ∈ [bc, bl, bk, bb, bm, lam], x < nx)
    (g0 : get s bc = some X0) (g1 : get s bl = some X1) (g2 : get s bk = some X2) (g3 : get s bb = some (bestC g)) (g4 : get s bm = some (leastC g)) (g5 : get s lam = some (.loop i (loopT bc bl bk bb bm) none)) :
    Gives Go.Proofs.Tryz.prog GL 65 [.fn (.yield i.l) [], .iptr 1 [[.lst 1 (l.map Int.enc)]] 0 0] s nx (.tup []) [bc, bl, bk, bb, bm, lam]
      [(bb, some (bestC ((ordersL l).foldl step g))), (bm, some (leastC ((ordersL l).foldl step g)))] nx := by
  have hl0 : renB [bc, bl, bk, bb, bm, lam] (.loop i (loopT 0 1 2 3 4) none) = some (.loop i (loopT bc bl bk bb bm) none) := rfl
  have hL : LendsX [bc, bl, bk, bb, bm, lam] nx [(0, some X0), (1, some X1), (2, some X2), (3, some (bestC g)), (4, some (leastC g)), (5, some (.loop i (loopT 0 1 2 3 4) none))] s [.fn (.yield i.l) [], .iptr 1 [[.lst 1 (l.map Int.enc)]] 0 0] [.fn (.yield i.l) [], .iptr 1 [[.lst 1 (l.map Int.enc)]] 0 0] := by
    refine ⟨?_, rfl, hnd, hlt, rfl⟩
    simp [-renB, g0, g1, g2, g3, g4, g5, r0, r1, r2, hl0]
  refine Gives.mk_walkK (N := 8) (args := [.fn (.yield i.l) [], .iptr 1 [[.lst 1 (l.map Int.enc)]] 0 0]) [bc, bl, bk, bb, bm, lam] []
    [(0, some X0), (1, some X1), (2, some X2), (3, some (bestC g)), (4, some (leastC g)), (5, some (.loop i (loopT 0 1 2 3 4) none))] [(3, some (bestC ((ordersL l).foldl step g))), (4, some (leastC ((ordersL l).foldl step g)))] 6 0 (.tup []) (fun _ => []) (up1 := [(bb, some (bestC ((ordersL l).foldl step g))), (bm, some (leastC ((ordersL l).foldl step g)))]) Go.Proofs.Tryz.func65 rfl rfl rfl (by simp) rfl
    hL (by simp) rfl rfl (by simp) rfl ?_
  simp [-renB]
  have hN := g_next hY r0 r1 r2 l.length [] l g [(7, some (.cells 1 [[.fn (.func 66) [.ptr 6 1 0 0, .ptr 7 1 0 0]]])), (7, some (.cells 1 [[.p .nilf]])), (6, some (.cells 1 [[.fn (.yield i.l) []]])), (0, some X0), (1, some X1), (2, some X2), (3, some (bestC g)), (4, some (leastC g)), (5, some (.loop i (loopT 0 1 2 3 4) none))] 8 0 1 2 3 4 5 6 7 rfl (by simpa using hl) (by simpa [ordersL] using hok) (by simp) (by simp) rfl rfl rfl rfl rfl rfl rfl rfl
  simp only [List.nil_append, List.map_id'] at hN
  refine xcall_gives (Gives.give1 (B := []) (.one _ _ (.nils 1)) (by simp) hN) ?_
  simp [-renB, ordersL, renB_loop, renB_cells, loopT, r0, r1, r2]
  done

end
end Go.Am
/- Contracts: the best order of a row's places. -/
namespace Go.Am
open Go Go.Proofs Go.Pn


def partsN (l : List Plc) (row : Int) : Nat → List Int
  | 0 => []
  | k + 1 => match l[k]? with
    | some p => if p.row = row then partsN l row k ++ [(k : Int)] else partsN l row k
    | none => partsN l row k
def colsN (l : List Plc) (row : Int) : Nat → List Int
  | 0 => []
  | k + 1 => match l[k]? with
    | some p => if p.row = row then colsN l row k ++ [p.col] else colsN l row k
    | none => colsN l row k
theorem colsN_len {l : List Plc} {row : Int} : ∀ {k : Nat}, (colsN l row k).length = (partsN l row k).length
  | 0 => rfl
  | k + 1 => by
    have ih := @colsN_len l row k
    simp only [colsN, partsN]
    cases l[k]? with
    | none => exact ih
    | some p => simp only; split <;> simp [ih]
theorem partsN_mem {l : List Plc} {row : Int} : ∀ {k : Nat} {x : Int}, x ∈ partsN l row k → ∃ (i : Nat) (p : Plc), x = (i : Int) ∧ i < k ∧ l[i]? = some p ∧ p.row = row
  | 0, x, h => by simp [partsN] at h
  | k + 1, x, h => by
    simp only [partsN] at h
    have ih : x ∈ partsN l row k → ∃ (i : Nat) (p : Plc), x = (i : Int) ∧ i < k + 1 ∧ l[i]? = some p ∧ p.row = row := fun h => by
      obtain ⟨i, p, h1, h2, h3⟩ := partsN_mem h; exact ⟨i, p, h1, by omega, h3⟩
    cases e : l[k]? with
    | none => rw [e] at h; exact ih h
    | some p =>
      rw [e] at h
      simp only at h
      split at h
      · rename_i hp
        rcases List.mem_append.1 h with h | h
        · exact ih h
        · exact ⟨k, p, by simpa using h, by omega, e, hp⟩
      · exact ih h
theorem colsN_mem {l : List Plc} {row : Int} : ∀ {k : Nat} {x : Int}, x ∈ colsN l row k → ∃ p ∈ l, p.col = x
  | 0, x, h => by simp [colsN] at h
  | k + 1, x, h => by
    simp only [colsN] at h
    cases e : l[k]? with
    | none => rw [e] at h; exact colsN_mem h
    | some p =>
      rw [e] at h
      simp only at h
      split at h
      · rcases List.mem_append.1 h with h | h
        · exact colsN_mem h
        · exact ⟨p, List.mem_of_getElem? e, (by simpa using h : x = p.col).symm⟩
      · exact colsN_mem h
theorem partsN_len {l : List Plc} {row : Int} : ∀ {k : Nat}, (partsN l row k).length ≤ k
  | 0 => by simp [partsN]
  | k + 1 => by
    have ih := @partsN_len l row k
    simp only [partsN]
    cases l[k]? with
    | none => simp only; omega
    | some p => simp only; split <;> simp <;> omega

theorem ordersF_mem : ∀ {n : Nat} {l o : List Int}, l.length = n → o ∈ ordersF n l → o.length = n ∧ ∀ x ∈ o, x ∈ l
  | 0, l, o, _, h => by
    simp [ordersF] at h; subst h; simp
  | n + 1, l, o, hl, h => by
    simp only [ordersF, List.mem_flatMap, List.mem_map, List.mem_range] at h
    obtain ⟨i, hi, o', ho, rfl⟩ := h
    obtain ⟨h1, h2⟩ := ordersF_mem (strike_len hl hi) ho
    refine ⟨by simp [h1], fun x hx => ?_⟩
    rcases List.mem_cons.1 hx with rfl | hx
    · rw [List.getElem?_eq_getElem hi]; exact List.getElem_mem hi
    · rcases List.mem_append.1 (h2 x hx) with h | h
      · exact List.mem_of_mem_take h
      · exact List.mem_of_mem_drop h

def nowN (l : List Plc) (cols o : List Int) : Nat → List Plc
  | 0 => l
  | k + 1 => let m := nowN l cols o k; let x := o[k]?.getD 0; m.set x.toNat ⟨(plcAt m x).row, cols[k]?.getD 0⟩
theorem nowN_len {l : List Plc} {cols o : List Int} : ∀ {k : Nat}, (nowN l cols o k).length = l.length
  | 0 => rfl
  | k + 1 => by simp [nowN, @nowN_len l cols o k]
theorem nowN_near {l : List Plc} {cols o : List Int} (h : Near l) (hc : ∀ x ∈ cols, 0 ≤ x ∧ x < 64) : ∀ {k : Nat}, Near (nowN l cols o k)
  | 0 => h
  | k + 1 => by
    have ih := @nowN_near l cols o h hc k
    intro p hp
    rcases List.mem_or_eq_of_mem_set hp with hp | rfl
    · exact ih p hp
    · refine ⟨(plcAt_near ih _).1, ?_⟩
      cases e : cols[k]? with
      | none => simp
      | some x => exact hc x (List.mem_of_getElem? e)
def arrStep (c : Circuit) (l : List Plc) (cols : List Int) (g : BSt) (o : List Int) : BSt :=
  let m := nowN l cols o o.length
  if g.n < 0 ∨ sumL c m < g.n then ⟨m, sumL c m⟩ else g
def arrErr (c : Circuit) (l : List Plc) (row : Int) : Int := if layE c l ≠ 0 then layE c l else if row < 0 ∨ 5 ≤ row then 2 else if 5 < (partsN l row l.length).length then 12 else 0
def arrRes (c : Circuit) (l : List Plc) (row : Int) : List Plc := if arrErr c l row ≠ 0 then [] else ((ordersL (partsN l row l.length)).foldl (arrStep c l (sortI (colsN l row l.length))) ⟨l, -1⟩).b

theorem g_SortIA (l : List Int) (s : Store) (nx b : Nat) (hg : get s b = accB 1 (l.map Int.row)) (hl : l.length < 1000000) (hb : b < nx) :
    Gives Go.Proofs.Tryz.prog GL 22 [.acc b 1 l.length] s nx (.tup []) [b] [(b, accB 1 ((sortI l).map Int.row))] nx := by
  by_cases h : l = []
  · subst h
    have hs : sortI [] = [] := by simp [sortI]
    refine Gives.more (rd := []) (up := []) (Gives.of_acc (rest := []) (fun _ => g_SortI0 _ _) (fun h => absurd h (by simp))) (by simp) fun s1 hag b' => ?_
    by_cases e : b' = b
    · subst e
      have := hag b' (by simp)
      simp [hs] at hg ⊢
      rw [this, hg]
    · simp [get_cons_ne (Ne.symm e)]
  · have hac : accB 1 (l.map Int.row) = some (.cells 1 (l.map Int.row)) := by simp [accB, h]
    have h2 : sortI l ≠ [] := fun e => h (by have := @sortI_len l; rw [e] at this; simpa using this.symm)
    have hac2 : accB 1 ((sortI l).map Int.row) = some (.cells 1 ((sortI l).map Int.row)) := by simp [accB, h2]
    rw [hac2]
    exact Gives.of_acc (rest := []) (fun e => absurd (List.length_eq_zero_iff.1 e) h) (fun _ => g_SortI l _ _ b none (by rw [hg, hac]) (by omega))
end Go.Am
