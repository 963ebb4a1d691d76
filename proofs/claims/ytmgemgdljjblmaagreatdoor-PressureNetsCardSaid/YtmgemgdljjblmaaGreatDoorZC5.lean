/- Lemmas and contracts for the proof of a statement of this seat. -/
import Derived.Test.YtmgemgdljjblmaaGreatDoorZC4
set_option linter.unusedVariables false
set_option linter.unusedSimpArgs false
/- Contracts: the reference of chapter 21: Around, Joined, Nets, Net. -/
namespace Go.Am
open Go Go.Proofs Go.Pn

theorem allP_len {c : Circuit} (hk : kindsOk c) (hn : c.parts.length ≤ 100) : (allP c).length ≤ 1200 := by
  have := allUp_len hk (k := c.parts.length)
  unfold allP
  omega

theorem filter_snoc {α : Type} {p : α → Bool} {xs : List α} {k : Nat} {x : α} (e : xs[k]? = some x) : (xs.take (k + 1)).filter p = (xs.take k).filter p ++ (if p x then [x] else []) := by
  rw [take_snoc e, List.filter_append]
  congr 1
  simp [List.filter_cons]
theorem arStep_len {a : List Port × Bool} {x : Pipe} : (arStep a x).1.length ≤ a.1.length + 2 := by
  unfold arStep
  dsimp only
  by_cases h1 : x.fr ∈ a.1 ∧ ¬ x.to ∈ a.1
  · rw [if_pos h1]
    dsimp only
    split <;> simp
  · rw [if_neg h1]
    split <;> simp
theorem arFold_len : ∀ {ps : List Pipe} {a : List Port × Bool}, (ps.foldl arStep a).1.length ≤ a.1.length + 2 * ps.length
  | [], a => by simp
  | x :: ps, a => by
    have h1 := arStep_len (a := a) (x := x)
    have h2 := arFold_len (ps := ps) (a := arStep a x)
    simp only [List.foldl_cons, List.length_cons]
    omega

theorem c_pneumaticref21_Around (c : Circuit) (p : Port) (hk : kindsOk c) (hn : c.parts.length ≤ 100) (hm : c.pipes.length ≤ 1000) : Pure Go.Proofs.Tryz.prog GL 163 [c.av, p.av] (.p (.lst 2 ((around c p).map Port.enc))) := by
  refine Pure.of_walk (N := 81) Go.Proofs.Tryz.func163 rfl rfl rfl (by simp) (by first | (simp; done) | simp [*]) ?_
  have hal := allP_len hk hn
  simp
  refine XLoop.gor [2] [0] [0, 2] (fun st => [0, nameOf (slot st.t 5)]) (fun (g : Nat × List Port × Bool) => [(5, .acc 1 2 g.2.1.length), (6, .p (.bool g.2.2))]) (fun g => [(1, accB 2 (g.2.1.map Port.row))]) (fun g => ArInv c p g.1 g.2.1 ∧ g.1 + 1 ≤ g.2.1.length + (if g.2.2 = true then 0 else 1) ∧ (g.2.2 = false → (arRound c g.2.1).1 = g.2.1)) (fun g => 2 * (2 * c.pipes.length + 2 - g.2.1.length) + (if g.2.2 = true then 1 else 0)) (0, [p], true) ⟨⟨rfl, by simp, by simp⟩, by simp, by simp⟩ ?_ ?_
  · simp
  · rintro ⟨j, l, m⟩ ⟨h1, h2, h3⟩
    have hle := h1.le
    simp at h1 h2 h3 hle
    obtain ⟨n1, n2, n3⟩ := h1.next
    cases m with
    | true =>
      simp at h2
      simp
      refine XLoop.gor [2] [0] [0, 1] (fun st => [0, nameOf (slot st.t 5)]) (fun (i : Nat) => [(5, .acc 1 2 ((c.pipes.take i).foldl arStep (l, false)).1.length), (6, .p (.bool ((c.pipes.take i).foldl arStep (l, false)).2)), (7, .p (.int .i64 i))]) (fun i => [(1, accB 2 (((c.pipes.take i).foldl arStep (l, false)).1.map Port.row))]) (fun i => i ≤ c.pipes.length) (fun i => c.pipes.length - i) 0 (by omega) ?_ ?_
      · simp
      · intro i hi
        have hs := @foldl_snoc _ _ arStep (l, false) c.pipes i
        have hfl : ((c.pipes.take i).foldl arStep (l, false)).1.length ≤ l.length + 2 * i := by
          obtain ⟨e, k1, k2, k3, _⟩ := arFold_keep (ps := c.pipes.take i) (a := (l, false))
          have := arFold_len (ps := c.pipes.take i) (a := (l, false))
          simp at this
          omega
        generalize hA : (c.pipes.take i).foldl arStep (l, false) = A at hs hfl
        obtain ⟨o, d⟩ := A
        simp at hfl
        simp
        refine xif_split (fun h => ?_) (fun h => ?_)
        · simp at h
          obtain ⟨x, e⟩ := get_lt h
          have hs := hs e
          simp [h, e, -getElem?_pos, List.getElem?_cons_zero, List.getElem?_cons_succ]
          refine xcall_lent ?_
          simp
          refine ⟨_, c_pneumaticref21_Has o x.fr (by omega), rfl, ?_⟩
          simp
          by_cases a1 : x.fr ∈ o <;> by_cases a2 : x.to ∈ o
          · simp [a1]
            refine xcall_lent ?_
            simp
            refine ⟨_, c_pneumaticref21_Has o x.to (by omega), rfl, ?_⟩
            simp [a2]
            refine xcall_lent ?_
            simp
            refine ⟨_, c_pneumaticref21_Has o x.to (by omega), rfl, ?_⟩
            simp [a2]
            refine xcall_lent ?_
            simp
            refine ⟨_, c_pneumaticref21_Has o x.fr (by omega), rfl, ?_⟩
            simp [a1, a2]
            refine ⟨wrap_i64 (by omega) (by omega), i + 1, by omega, by omega, ?_⟩
            simp [hs, arStep, a1, a2]
          · simp [a1]
            refine xcall_lent ?_
            simp
            refine ⟨_, c_pneumaticref21_Has o x.to (by omega), rfl, ?_⟩
            simp [a2]
            refine ⟨by omega, ?_⟩
            obtain ⟨O, hO⟩ : ∃ O, O = o ++ [x.to] := ⟨_, rfl⟩
            have q1 : o.map Port.row ++ [[AV.p (PV.int IntKind.i64 x.to.part), AV.p (PV.str x.to.name)]] = O.map Port.row := by subst hO; simp
            have q2 : o.length + 1 = O.length := by subst hO; simp
            have q3 : x.to ∈ O := by subst hO; simp
            have q4 : x.fr ∈ O := by subst hO; simp [a1]
            rw [q1, q2]
            refine xcall_lent ?_
            simp
            refine ⟨_, c_pneumaticref21_Has O x.to (by omega), rfl, ?_⟩
            simp [q3]
            refine xcall_lent ?_
            simp
            refine ⟨_, c_pneumaticref21_Has O x.fr (by omega), rfl, ?_⟩
            simp [q4]
            refine ⟨wrap_i64 (by omega) (by omega), i + 1, by omega, by omega, ?_⟩
            simp [hs, arStep, a1, a2, hO]
          · simp [a1]
            refine xcall_lent ?_
            simp
            refine ⟨_, c_pneumaticref21_Has o x.to (by omega), rfl, ?_⟩
            simp [a2]
            refine xcall_lent ?_
            simp
            refine ⟨_, c_pneumaticref21_Has o x.fr (by omega), rfl, ?_⟩
            simp [a1, a2]
            refine ⟨by omega, wrap_i64 (by omega) (by omega), i + 1, by omega, by omega, ?_⟩
            simp [hs, arStep, a1, a2]
          · simp [a1]
            refine xcall_lent ?_
            simp
            refine ⟨_, c_pneumaticref21_Has o x.to (by omega), rfl, ?_⟩
            simp [a2]
            refine ⟨wrap_i64 (by omega) (by omega), i + 1, by omega, by omega, ?_⟩
            simp [hs, arStep, a1, a2]
        · simp at h
          have h3 : i = c.pipes.length := by omega
          subst h3
          rw [List.take_length] at hA
          have hA' : arRound c l = (o, d) := hA
          rw [hA'] at n1 n2 n3
          simp at n1 n2 n3
          have hle2 := n1.le
          simp
          refine ⟨j + 1, o, ?_⟩
          cases d
          · refine .inl ?_
            simp at n3
            subst n3
            simp [hA', n1, h2]
          · refine .inr ?_
            simp at n2
            simp [n1]
            omega
    | false =>
      simp at h2 h3
      have hcl := closure_of h1 (by omega) h3
      have har : around c p = (allP c).filter fun q => decide (q ∈ l) := by rw [around, hcl]
      have hlen : ∀ i, (((allP c).take i).filter fun q => decide (q ∈ l)).length ≤ 1200 := fun i => Nat.le_trans (List.length_filter_le ..) (Nat.le_trans (List.length_take_le' ..) hal)
      rw [har]
      simp
      refine xcall_pure (c_pneumaticref21_All c hk (by omega)) ?_
      simp
      refine XLoop.go [5, 10] [1] 1 [3] (nms [9]) (fun nx (i : Nat) => [(9, .acc nx 2 (((allP c).take i).filter fun q => decide (q ∈ l)).length), (11, .p (.int .i64 i))]) (fun nx i => [(nx, accB 2 ((((allP c).take i).filter fun q => decide (q ∈ l)).map Port.row))]) (fun i => i ≤ (allP c).length) (fun i => (allP c).length - i) 0 (by omega) ?_ ?_
      · simp
        decide
      · intro i hi
        have hli := hlen i
        have hf := @filter_snoc _ (fun q => decide (q ∈ l)) (allP c) i
        generalize hA : (((allP c).take i).filter fun q => decide (q ∈ l)) = A at hf hli
        simp
        refine xif_split (fun h => ?_) (fun h => ?_)
        · simp at h
          obtain ⟨x, e⟩ := get_lt h
          have hf := hf e
          simp [h, e, -getElem?_pos, List.getElem?_cons_zero, List.getElem?_cons_succ]
          refine xcall_lent ?_
          simp
          refine ⟨_, c_pneumaticref21_Has l x (by omega), rfl, ?_⟩
          simp
          by_cases a1 : x ∈ l
          · simp [a1, e, -getElem?_pos, List.getElem?_cons_zero, List.getElem?_cons_succ]
            refine ⟨by omega, by omega, wrap_i64 (by omega) (by omega), i + 1, by omega, by omega, ?_⟩
            simp [hf, a1]
            try decide
          · simp [a1]
            refine ⟨wrap_i64 (by omega) (by omega), i + 1, by omega, by omega, ?_⟩
            simp [hf, a1]
            try decide
        · simp at h
          have h3 : i = (allP c).length := by omega
          subst h3
          rw [List.take_length] at hA
          subst hA
          simp [XEndT]

end Go.Am
/- Contracts: the reference of chapter 21: Joined, Nets, Net. -/
namespace Go.Am
open Go Go.Proofs Go.Pn

theorem arIter_mem {c : Circuit} {p : Port} {l : List Port} (h : p ∈ l) : ∀ n, p ∈ arIter c l n
  | 0 => h
  | n + 1 => by
    obtain ⟨e, h1, _⟩ := arFold_keep (ps := c.pipes) (a := (arIter c l n, false))
    have h1' : (arRound c (arIter c l n)).1 = arIter c l n ++ e := h1
    rw [arIter, h1']
    exact List.mem_append_left _ (arIter_mem h n)
theorem around_self {c : Circuit} {p : Port} (h : p ∈ allP c) : p ∈ around c p := by
  rw [around, List.mem_filter]
  exact ⟨h, by simp; exact arIter_mem (by simp) _⟩
theorem around_len {c : Circuit} {p : Port} : (around c p).length ≤ (allP c).length := List.length_filter_le ..

def isFirst (c : Circuit) (p : Port) : Prop := (around c p)[0]? = some p
instance (c : Circuit) (p : Port) : Decidable (isFirst c p) := inferInstanceAs (Decidable ((around c p)[0]? = some p))
def netsIn (c : Circuit) (l : List Port) : List (List Port) := (l.filter fun p => decide (isFirst c p)).map (around c)
def nets (c : Circuit) : List (List Port) := netsIn c (allP c)
@[simp] def Ports.row (l : List Port) : List AV := [.p (.lst 2 (l.map Port.enc))]
@[simp] theorem unpR_Ports {l : List (List Port)} : unpR (l.map Ports.row) = some (l.map Ports.enc) := unpR_map (f := Ports.row) (g := Ports.enc) (fun _ => rfl) l
theorem netsIn_snoc {c : Circuit} {l : List Port} {k : Nat} {x : Port} (e : l[k]? = some x) : netsIn c (l.take (k + 1)) = netsIn c (l.take k) ++ (if isFirst c x then [around c x] else []) := by
  rw [netsIn, filter_snoc e, List.map_append, netsIn]
  by_cases h : isFirst c x <;> simp [h]
theorem netsIn_len {c : Circuit} {l : List Port} {k : Nat} : (netsIn c (l.take k)).length ≤ l.length := by
  unfold netsIn
  rw [List.length_map]
  exact Nat.le_trans (List.length_filter_le ..) (List.length_take_le' ..)

theorem c_pneumaticref21_Joined (c : Circuit) (hk : kindsOk c) (hn : c.parts.length ≤ 100) (hm : c.pipes.length ≤ 1000) : Pure Go.Proofs.Tryz.prog GL 107 [c.av] (.p (.lst 1 ((nets c).map Ports.enc))) := by
  refine Pure.of_walk (N := 34) Go.Proofs.Tryz.func107 rfl rfl rfl (by simp) (by first | (simp; done) | simp [*]) ?_
  have hal := allP_len hk hn
  simp
  refine xcall_pure (c_pneumaticref21_All c hk hn) ?_
  simp
  refine XLoop.go [1, 4] [0] 1 [1] (nms [3]) (fun nx (i : Nat) => [(3, .acc nx 1 (netsIn c ((allP c).take i)).length), (5, .p (.int .i64 i))]) (fun nx i => [(nx, accB 1 ((netsIn c ((allP c).take i)).map Ports.row))]) (fun i => i ≤ (allP c).length) (fun i => (allP c).length - i) 0 (by omega) ?_ ?_
  · simp [netsIn]
  · intro i hi
    have hli := @netsIn_len c (allP c) i
    have hf := @netsIn_snoc c (allP c) i
    have hA : i = (allP c).length → netsIn c ((allP c).take i) = nets c := fun h => by rw [h, List.take_length]; rfl
    generalize netsIn c ((allP c).take i) = A at hf hli hA
    simp
    refine xif_split (fun h => ?_) (fun h => ?_)
    · simp at h
      obtain ⟨x, e⟩ := get_lt h
      have hf := hf e
      have hsf := around_self (List.mem_of_getElem? e)
      simp
      refine XDraw.intro (by kernel_rfl) ?_
      simp [h, e, -getElem?_pos, List.getElem?_cons_zero, List.getElem?_cons_succ]
      refine xcall_pure (c_pneumaticref21_Around c x hk hn hm) ?_
      simp
      refine ⟨.of (by kernel_rfl), ?_⟩
      have hlen := @around_len c x
      have hfi : isFirst c x ↔ (around c x)[0]? = some x := Iff.rfl
      generalize around c x = B at hf hsf hlen hfi
      obtain ⟨y, e2⟩ : ∃ y, B[0]? = some y := get_lt (List.length_pos_of_mem hsf)
      rw [e2] at hfi
      refine XDraw.intro (by kernel_rfl) ?_
      simp [h, e, e2, -getElem?_pos, List.getElem?_cons_zero, List.getElem?_cons_succ]
      refine ⟨List.length_pos_of_mem hsf, ?_⟩
      refine ⟨.of (by kernel_rfl), ?_⟩
      refine xif_split (fun h2 => ?_) (fun h2 => ?_)
      · have h3 : isFirst c x := by rw [hfi]; simpa using h2
        rw [if_pos h3] at hf
        simp
        refine ⟨by omega, wrap_i64 (by omega) (by omega), i + 1, by omega, by omega, ?_⟩
        simp [hf]
      · have h3 : ¬ isFirst c x := by rw [hfi]; simpa using h2
        rw [if_neg h3] at hf
        simp
        refine ⟨wrap_i64 (by omega) (by omega), i + 1, by omega, by omega, ?_⟩
        simp [hf]
    · simp at h
      have h3 : i = (allP c).length := by omega
      rw [hA h3]
      simp [XEndT]

theorem netsL {c : Circuit} (h : checkP c = 0) : (nets c).length ≤ 1200 ∧ ∀ l ∈ nets c, l.length ≤ 1200 := by
  have h2 := check_parts h
  have hal := allP_len h2.1 (by omega)
  refine ⟨?_, fun l hl => ?_⟩
  · unfold nets netsIn
    rw [List.length_map]
    exact Nat.le_trans (List.length_filter_le ..) hal
  · unfold nets netsIn at hl
    obtain ⟨p, _, rfl⟩ := List.mem_map.1 hl
    exact Nat.le_trans around_len hal

theorem c_pneumaticref21_Nets (c : Circuit) (hs : Sized c) : Pure Go.Proofs.Tryz.prog GL 33 [c.av] (.tup [.p (.lst 1 ((if checkP c ≠ 0 then [] else nets c).map Ports.enc)), .p (.int .i64 (checkP c))]) := by
  refine Pure.of_walk (N := 12) Go.Proofs.Tryz.func33 rfl rfl rfl (by simp) (by first | (simp; done) | simp [*]) ?_
  simp
  refine xcall_pure (c_pneumaticref21_Check c hs) ?_
  by_cases h : checkP c = 0
  · have h2 := check_parts h
    simp [h]
    refine xcall_pure (c_pneumaticref21_Joined c h2.1 (by omega) (by omega)) ?_
    simp [XEndT, h]
  · simp [h, XEndT]

def givenErr (c : Circuit) (p : Port) : Int := if rangeErr c p ≠ 0 then rangeErr c p else nameErr c p
def netP (c : Circuit) (p : Port) : Int := idxI (nets c) fun l => decide (p ∈ l)

theorem c_pneumaticref21_Net (c : Circuit) (p : Port) (hs : Sized c) : Pure Go.Proofs.Tryz.prog GL 35 [c.av, p.av] (.tup [.p (.int .i64 (if checkP c ≠ 0 then 0 else if givenErr c p ≠ 0 then 0 else netP c p)), .p (.int .i64 (if checkP c ≠ 0 then checkP c else givenErr c p))]) := by
  refine Pure.of_walk (N := 23) Go.Proofs.Tryz.func35 rfl rfl rfl (by simp) (by first | (simp; done) | simp [*]) ?_
  simp
  refine xcall_pure (c_pneumaticref21_Check c hs) ?_
  by_cases h : checkP c = 0
  · have h2 := check_parts h
    simp [h]
    refine xcall_pure (c_pneumaticref21_given c p h2.1) ?_
    rw [← givenErr]
    generalize givenErr c p = e
    by_cases h3 : e = 0
    · subst h3
      simp
      refine XDraw.intro (by kernel_rfl) ?_
      simp
      refine xcall_pure (c_pneumaticref21_Joined c h2.1 (by omega) (by omega)) ?_
      simp
      refine xcall_pure (c_pneumaticref21_Which (nets c) p (by have := (netsL h).1; omega) (fun l hl => by have := (netsL h).2 l hl; omega)) ?_
      rw [← netP]
      simp
      refine ⟨.of (by kernel_rfl), ?_⟩
      simp [XEndT, h]
    · simp [h3, XEndT, h]
  · simp [h, XEndT]

end Go.Am
/- Contracts: the reference of chapter 21: moved, piped, Join, Add, Remove. -/
namespace Go.Am
open Go Go.Proofs Go.Pn

def mvPort (f b : Int) (p : Port) : Port := if f ≤ p.part then ⟨p.part + b, p.name⟩ else p
def mvPipe (f b : Int) (x : Pipe) : Pipe := ⟨mvPort f b x.fr, mvPort f b x.to⟩
def movedP (f b : Int) (l : List Pipe) : List Pipe := l.map (mvPipe f b)
theorem movedP_snoc {f b : Int} {l : List Pipe} {k : Nat} {x : Pipe} (e : l[k]? = some x) : movedP f b (l.take (k + 1)) = movedP f b (l.take k) ++ [mvPipe f b x] := by simp only [movedP]; rw [take_snoc e]; simp
theorem movedP_len {f b : Int} {l : List Pipe} : (movedP f b l).length = l.length := by simp [movedP]

theorem c_pneumaticref21_moved (l : List Pipe) (f b : Int) (hl : l.length ≤ 1000) (hb : -1 ≤ b ∧ b ≤ 1) (hx : ∀ x ∈ l, -1000 ≤ x.fr.part ∧ x.fr.part ≤ 1000 ∧ -1000 ≤ x.to.part ∧ x.to.part ≤ 1000) : Pure Go.Proofs.Tryz.prog GL 85 [.p (.lst 4 (l.map Pipe.enc)), .p (.int .i64 f), .p (.int .i64 b)] (.p (.lst 4 ((movedP f b l).map Pipe.enc))) := by
  refine Pure.of_walk (N := 49) Go.Proofs.Tryz.func85 rfl rfl rfl (by simp) (by first | (simp; done) | simp [*]) ?_
  simp
  refine XLoop.go [0, 1, 2] [0] 1 [0] (nms [7]) (fun nx (i : Nat) => [(7, .acc nx 4 (movedP f b (l.take i)).length), (8, .p (.int .i64 i))]) (fun nx i => [(nx, accB 4 ((movedP f b (l.take i)).map Pipe.row))]) (fun i => i ≤ l.length) (fun i => l.length - i) 0 (by omega) ?_ ?_
  · simp [movedP]
  · intro i hi
    have hf := @movedP_snoc f b l i
    have hli := @movedP_len f b (l.take i)
    have hA : i = l.length → movedP f b (l.take i) = movedP f b l := fun h => by rw [h, List.take_length]
    generalize movedP f b (l.take i) = A at hf hA hli
    simp at hli
    simp
    refine xif_split (fun h => ?_) (fun h => ?_)
    · simp at h
      obtain ⟨x, e⟩ := get_lt h
      have hf := hf e
      have hp := hx x (List.mem_of_getElem? e)
      simp [h, e, -getElem?_pos, List.getElem?_cons_zero, List.getElem?_cons_succ]
      by_cases a1 : f ≤ x.fr.part <;> by_cases a2 : f ≤ x.to.part
      · simp [a1]
        refine ⟨wrap_i64 (by omega) (by omega), ?_⟩
        simp [a2]
        refine ⟨wrap_i64 (by omega) (by omega), by omega, wrap_i64 (by omega) (by omega), i + 1, by omega, by omega, ?_⟩
        simp [hf, mvPipe, mvPort, a1, a2]
      · simp [a1, a2]
        refine ⟨wrap_i64 (by omega) (by omega), by omega, wrap_i64 (by omega) (by omega), i + 1, by omega, by omega, ?_⟩
        simp [hf, mvPipe, mvPort, a1, a2]
      · simp [a1, a2]
        refine ⟨wrap_i64 (by omega) (by omega), by omega, wrap_i64 (by omega) (by omega), i + 1, by omega, by omega, ?_⟩
        simp [hf, mvPipe, mvPort, a1, a2]
      · simp [a1, a2]
        refine ⟨by omega, wrap_i64 (by omega) (by omega), i + 1, by omega, by omega, ?_⟩
        simp [hf, mvPipe, mvPort, a1, a2]
    · simp at h
      have h3 : i = l.length := by omega
      rw [hA h3]
      simp [XEndT]

def nmB : Option ABlk → Nat → Nat
  | some (.cells _ (r :: _)), k => nameOf (r[k]?.getD .nils)
  | _, _ => 0
@[simp] theorem nmB_two {w : Nat} {x y : AV} {rs : List (List AV)} : nmB (some (.cells w ([x, y] :: rs))) 1 = nameOf y := (rfl)

def pipedStep (x : Pipe) (a : List Pipe × Bool) (y : Pipe) : List Pipe × Bool :=
  let a := if !a.2 && pipeLt x y then (a.1 ++ [x], true) else a
  (a.1 ++ [y], a.2)
def pipedA (l : List Pipe) (x : Pipe) : List Pipe × Bool := l.foldl (pipedStep x) ([], false)
def pipedL (l : List Pipe) (x : Pipe) : List Pipe := if (pipedA l x).2 then (pipedA l x).1 else (pipedA l x).1 ++ [x]
theorem pipedA_snoc {l : List Pipe} {x y : Pipe} {k : Nat} (e : l[k]? = some y) : pipedA (l.take (k + 1)) x = pipedStep x (pipedA (l.take k) x) y := foldl_snoc e
theorem pipedF_len {x : Pipe} : ∀ {l : List Pipe} {a : List Pipe × Bool}, (l.foldl (pipedStep x) a).1.length ≤ a.1.length + 2 * l.length
  | [], a => by simp
  | y :: l, a => by
    have h1 := pipedF_len (x := x) (l := l) (a := pipedStep x a y)
    have h2 : (pipedStep x a y).1.length ≤ a.1.length + 2 := by
      unfold pipedStep
      split <;> simp
    simp only [List.foldl_cons, List.length_cons]
    omega


theorem c_pneumaticref21_piped (c : Circuit) (x : Pipe) (hn : c.parts.length ≤ 100) (hm : c.pipes.length ≤ 1000) : Pure Go.Proofs.Tryz.prog GL 120 [c.av, x.av] ((⟨c.parts, pipedL c.pipes x⟩ : Circuit).av) := by
  refine Pure.of_walk (N := 56) Go.Proofs.Tryz.func120 rfl rfl rfl (by simp) (by first | (simp; done) | simp [*]) ?_
  simp
  refine ⟨by omega, ?_⟩
  refine xdec_split (fun h => ?_) (fun h => ?_)
  · simp
    refine XLoop.go [2, 3, 4, 5] [0, 1, 2, 4] 1 [6] (fun st => [nmB (get st.s 5) 1]) (fun nx (i : Nat) => [(6, .p (.bool (pipedA (c.pipes.take i) x).2)), (7, .p (.int .i64 i))]) (fun nx i => [(5, some (.cells 2 [[(AV.ref 4 3 0 c.parts.length none), .acc nx 4 (pipedA (c.pipes.take i) x).1.length]])), (nx, accB 4 ((pipedA (c.pipes.take i) x).1.map Pipe.row))]) (fun i => i ≤ c.pipes.length) (fun i => c.pipes.length - i) 0 (by omega) ?_ ?_
    · simp [pipedA]
      decide
    · intro i hi
      have hl := @pipedF_len x (c.pipes.take i) ([], false)
      have hf := fun (y : Pipe) (e : c.pipes[i]? = some y) => pipedA_snoc (x := x) e
      rw [← pipedA] at hl
      have hA : i = c.pipes.length → pipedA (c.pipes.take i) x = pipedA c.pipes x := fun h => by rw [h, List.take_length]
      generalize pipedA (c.pipes.take i) x = A at hf hA hl
      obtain ⟨o, d⟩ := A
      simp at hl
      simp
      refine xif_split (fun h2 => ?_) (fun h2 => ?_)
      · simp at h2
        obtain ⟨y, e⟩ := get_lt h2
        have hf := hf y e
        simp
        refine XDraw.intro (by kernel_rfl) ?_
        simp [h2, e, -getElem?_pos, List.getElem?_cons_zero, List.getElem?_cons_succ]
        cases d
        · simp
          simp [h2, e, -getElem?_pos, List.getElem?_cons_zero, List.getElem?_cons_succ]
          refine xcall_pure (c_pneumaticref21_Earlier x y) ?_
          simp
          refine ⟨.of (by kernel_rfl), ?_⟩
          refine xif_split (fun h4 => ?_) (fun h4 => ?_)
          · simp
            refine ⟨by omega, ?_⟩
            refine XDraw.intro (by kernel_rfl) ?_
            simp [h2, e, -getElem?_pos, List.getElem?_cons_zero, List.getElem?_cons_succ]
            refine ⟨by omega, .of (by kernel_rfl), wrap_i64 (by omega) (by omega), i + 1, by omega, by omega, ?_⟩
            simp [hf, pipedStep, h4]
            decide
          · simp
            refine XDraw.intro (by kernel_rfl) ?_
            simp [h2, e, -getElem?_pos, List.getElem?_cons_zero, List.getElem?_cons_succ]
            refine ⟨by omega, .of (by kernel_rfl), wrap_i64 (by omega) (by omega), i + 1, by omega, by omega, ?_⟩
            simp [hf, pipedStep, h4]
            decide
        · simp
          refine ⟨.of (by kernel_rfl), ?_⟩
          refine XDraw.intro (by kernel_rfl) ?_
          simp [h2, e, -getElem?_pos, List.getElem?_cons_zero, List.getElem?_cons_succ]
          refine ⟨by omega, .of (by kernel_rfl), wrap_i64 (by omega) (by omega), i + 1, by omega, by omega, ?_⟩
          simp [hf, pipedStep]
          decide
      · simp at h2
        have h3 : i = c.pipes.length := by omega
        have hA := hA h3
        have hpl : pipedL c.pipes x = if d then o else o ++ [x] := by rw [pipedL, ← hA]
        rw [hpl]
        cases d
        · simp [XEndT]
          first | exact ⟨by omega, List.take_of_length_le (by simp)⟩ | (simp [hp]; omega)
        · simp [XEndT]
          first | exact List.take_of_length_le (by simp) | simp [hp]
  · simp
    have hp : c.parts = [] := by simpa using h
    simp [hp]
    refine XLoop.go [2, 3, 4, 5] [0, 1, 2, 3] 1 [5] (fun st => [nmB (get st.s 4) 1]) (fun nx (i : Nat) => [(6, .p (.bool (pipedA (c.pipes.take i) x).2)), (7, .p (.int .i64 i))]) (fun nx i => [(4, some (.cells 2 [[(AV.ref 3 3 0 0 (some 0)), .acc nx 4 (pipedA (c.pipes.take i) x).1.length]])), (nx, accB 4 ((pipedA (c.pipes.take i) x).1.map Pipe.row))]) (fun i => i ≤ c.pipes.length) (fun i => c.pipes.length - i) 0 (by omega) ?_ ?_
    · simp [pipedA]
      decide
    · intro i hi
      have hl := @pipedF_len x (c.pipes.take i) ([], false)
      have hf := fun (y : Pipe) (e : c.pipes[i]? = some y) => pipedA_snoc (x := x) e
      rw [← pipedA] at hl
      have hA : i = c.pipes.length → pipedA (c.pipes.take i) x = pipedA c.pipes x := fun h => by rw [h, List.take_length]
      generalize pipedA (c.pipes.take i) x = A at hf hA hl
      obtain ⟨o, d⟩ := A
      simp at hl
      simp
      refine xif_split (fun h2 => ?_) (fun h2 => ?_)
      · simp at h2
        obtain ⟨y, e⟩ := get_lt h2
        have hf := hf y e
        simp
        refine XDraw.intro (by kernel_rfl) ?_
        simp [h2, e, -getElem?_pos, List.getElem?_cons_zero, List.getElem?_cons_succ]
        cases d
        · simp
          simp [h2, e, -getElem?_pos, List.getElem?_cons_zero, List.getElem?_cons_succ]
          refine xcall_pure (c_pneumaticref21_Earlier x y) ?_
          simp
          refine ⟨.of (by kernel_rfl), ?_⟩
          refine xif_split (fun h4 => ?_) (fun h4 => ?_)
          · simp
            refine ⟨by omega, ?_⟩
            refine XDraw.intro (by kernel_rfl) ?_
            simp [h2, e, -getElem?_pos, List.getElem?_cons_zero, List.getElem?_cons_succ]
            refine ⟨by omega, .of (by kernel_rfl), wrap_i64 (by omega) (by omega), i + 1, by omega, by omega, ?_⟩
            simp [hf, pipedStep, h4]
            decide
          · simp
            refine XDraw.intro (by kernel_rfl) ?_
            simp [h2, e, -getElem?_pos, List.getElem?_cons_zero, List.getElem?_cons_succ]
            refine ⟨by omega, .of (by kernel_rfl), wrap_i64 (by omega) (by omega), i + 1, by omega, by omega, ?_⟩
            simp [hf, pipedStep, h4]
            decide
        · simp
          refine ⟨.of (by kernel_rfl), ?_⟩
          refine XDraw.intro (by kernel_rfl) ?_
          simp [h2, e, -getElem?_pos, List.getElem?_cons_zero, List.getElem?_cons_succ]
          refine ⟨by omega, .of (by kernel_rfl), wrap_i64 (by omega) (by omega), i + 1, by omega, by omega, ?_⟩
          simp [hf, pipedStep]
          decide
      · simp at h2
        have h3 : i = c.pipes.length := by omega
        have hA := hA h3
        have hpl : pipedL c.pipes x = if d then o else o ++ [x] := by rw [pipedL, ← hA]
        rw [hpl]
        cases d
        · simp [XEndT]
          first | exact ⟨by omega, List.take_of_length_le (by simp)⟩ | (simp [hp]; omega)
        · simp [XEndT]
          first | exact List.take_of_length_le (by simp) | simp [hp]

end Go.Am
/- Contracts: the reference of chapter 21: Join. -/
namespace Go.Am
open Go Go.Proofs Go.Pn

def pipeOf (a b : Port) : Pipe := if portLt b a then ⟨b, a⟩ else ⟨a, b⟩
def joinErr (c : Circuit) (a b : Port) : Int :=
  if checkP c ≠ 0 then checkP c else if givenErr c a ≠ 0 then givenErr c a else if givenErr c b ≠ 0 then givenErr c b else
  if pipeOf a b ∈ c.pipes then 7 else if a = b then 7 else if c.pipes.length = 256 then 5 else 0
def joinP (c : Circuit) (a b : Port) : Circuit := if joinErr c a b ≠ 0 then ⟨[], []⟩ else ⟨c.parts, pipedL c.pipes (pipeOf a b)⟩

theorem pipe_eq {y : Pipe} {a b : Port} : (decide (y.fr.part = a.part) && (decide (y.fr.name = a.name) && decide (y.to = b))) = decide (y = ⟨a, b⟩) := by
  rcases y with ⟨⟨p, n⟩, t⟩
  rcases a with ⟨ap, an⟩
  by_cases h1 : p = ap <;> by_cases h2 : n = an <;> by_cases h3 : t = b <;> simp [h1, h2, h3]


theorem c_pneumaticref21_Join (c : Circuit) (a b : Port) (hs : Sized c) : Pure Go.Proofs.Tryz.prog GL 42 [c.av, a.av, b.av] (.tup [(joinP c a b).av, .p (.int .i64 (joinErr c a b))]) := by
  refine Pure.of_walk (N := 69) Go.Proofs.Tryz.func42 rfl rfl rfl (by simp) (by first | (simp; done) | simp [*]) ?_
  simp
  refine xcall_pure (c_pneumaticref21_Check c hs) ?_
  by_cases hc : checkP c = 0
  · have h2 := check_parts hc
    simp [hc]
    refine xcall_pure (c_pneumaticref21_given c a h2.1) ?_
    rw [← givenErr]
    by_cases hga : givenErr c a = 0
    · simp [hga]
      refine xcall_pure (c_pneumaticref21_given c b h2.1) ?_
      rw [← givenErr]
      by_cases hgb : givenErr c b = 0
      · simp [hgb]
        refine xcall_pure (c_pneumaticref21_Before b a) ?_
        simp
        refine xif_split (fun h => ?_) (fun h => ?_)
        · have hpo : pipeOf a b = ⟨b, a⟩ := by rw [pipeOf, if_pos h]
          simp
          refine XLoop.go [3, 4, 5, 6, 11] [0, 1, 2, 3, 4] 0 [] (fun _ => []) (fun _ (i : Nat) => [(12, .p (.int .i64 i))]) (fun _ _ => []) (fun i => i ≤ c.pipes.length ∧ ∀ (j : Nat) y, j < i → c.pipes[j]? = some y → ¬ y = (⟨b, a⟩ : Pipe)) (fun i => c.pipes.length - i) 0 ⟨by omega, fun j x h => by omega⟩ ?_ ?_
          · simp
            try decide
          · rintro i ⟨hi, hb⟩
            simp
            refine xif_split (fun h2 => ?_) (fun h2 => ?_)
            · simp at h2
              obtain ⟨y, e⟩ := get_lt h2
              simp
              refine XDraw.intro (by kernel_rfl) ?_
              simp [h2, e, -getElem?_pos, List.getElem?_cons_zero, List.getElem?_cons_succ]
              refine ⟨.of (by kernel_rfl), ?_⟩
              rw [pipe_eq]
              refine xif_split (fun h4 => ?_) (fun h4 => ?_)
              · have h5 : y = (⟨b, a⟩ : Pipe) := by simpa using h4
                have hm : (⟨b, a⟩ : Pipe) ∈ c.pipes := h5 ▸ List.mem_of_getElem? e
                have hj : joinErr c a b = 7 := by simp [joinErr, hc, hga, hgb, hpo, hm]
                simp [joinP, hj, XEndT]
              · have h5 : ¬ y = (⟨b, a⟩ : Pipe) := by simpa using h4
                simp
                refine ⟨wrap_i64 (by omega) (by omega), i + 1, ⟨by omega, below_next (P := fun y => ¬ y = (⟨b, a⟩ : Pipe)) hb e h5⟩, by omega, ?_⟩
                simp
                try decide
            · simp at h2
              have h3 : i = c.pipes.length := by omega
              subst h3
              have hm : ¬ (⟨b, a⟩ : Pipe) ∈ c.pipes := fun hm => below_all hb _ hm rfl
              have hj : joinErr c a b = if a = b then 7 else if c.pipes.length = 256 then 5 else 0 := by simp [joinErr, hc, hga, hgb, hpo, hm]
              simp
              refine xif_split (fun h4 => ?_) (fun h4 => ?_)
              · have h4 : a = b := by simpa using h4
                rw [if_pos h4] at hj
                simp [joinP, hj, XEndT]
              · have h4 : ¬ a = b := by simpa using h4
                rw [if_neg h4] at hj
                simp
                by_cases h5 : c.pipes.length = 256
                · rw [if_pos h5] at hj
                  simp [h5]
                  simp [joinP, hj, XEndT]
                · rw [if_neg h5] at hj
                  have h6 : ¬ ((c.pipes.length : Int) = 256) := by omega
                  simp [h6]
                  refine xcall_pure (c_pneumaticref21_piped c (⟨b, a⟩ : Pipe) (by omega) (by omega)) ?_
                  simp [joinP, hj, hpo, XEndT]
        · have hpo : pipeOf a b = ⟨a, b⟩ := by rw [pipeOf, h]; rfl
          simp
          refine XLoop.go [3, 4, 5, 6, 11] [0, 1, 2, 3, 4] 0 [] (fun _ => []) (fun _ (i : Nat) => [(12, .p (.int .i64 i))]) (fun _ _ => []) (fun i => i ≤ c.pipes.length ∧ ∀ (j : Nat) y, j < i → c.pipes[j]? = some y → ¬ y = (⟨a, b⟩ : Pipe)) (fun i => c.pipes.length - i) 0 ⟨by omega, fun j x h => by omega⟩ ?_ ?_
          · simp
            try decide
          · rintro i ⟨hi, hb⟩
            simp
            refine xif_split (fun h2 => ?_) (fun h2 => ?_)
            · simp at h2
              obtain ⟨y, e⟩ := get_lt h2
              simp
              refine XDraw.intro (by kernel_rfl) ?_
              simp [h2, e, -getElem?_pos, List.getElem?_cons_zero, List.getElem?_cons_succ]
              refine ⟨.of (by kernel_rfl), ?_⟩
              rw [pipe_eq]
              refine xif_split (fun h4 => ?_) (fun h4 => ?_)
              · have h5 : y = (⟨a, b⟩ : Pipe) := by simpa using h4
                have hm : (⟨a, b⟩ : Pipe) ∈ c.pipes := h5 ▸ List.mem_of_getElem? e
                have hj : joinErr c a b = 7 := by simp [joinErr, hc, hga, hgb, hpo, hm]
                simp [joinP, hj, XEndT]
              · have h5 : ¬ y = (⟨a, b⟩ : Pipe) := by simpa using h4
                simp
                refine ⟨wrap_i64 (by omega) (by omega), i + 1, ⟨by omega, below_next (P := fun y => ¬ y = (⟨a, b⟩ : Pipe)) hb e h5⟩, by omega, ?_⟩
                simp
                try decide
            · simp at h2
              have h3 : i = c.pipes.length := by omega
              subst h3
              have hm : ¬ (⟨a, b⟩ : Pipe) ∈ c.pipes := fun hm => below_all hb _ hm rfl
              have hj : joinErr c a b = if a = b then 7 else if c.pipes.length = 256 then 5 else 0 := by simp [joinErr, hc, hga, hgb, hpo, hm]
              simp
              refine xif_split (fun h4 => ?_) (fun h4 => ?_)
              · have h4 : a = b := by simpa using h4
                rw [if_pos h4] at hj
                simp [joinP, hj, XEndT]
              · have h4 : ¬ a = b := by simpa using h4
                rw [if_neg h4] at hj
                simp
                by_cases h5 : c.pipes.length = 256
                · rw [if_pos h5] at hj
                  simp [h5]
                  simp [joinP, hj, XEndT]
                · rw [if_neg h5] at hj
                  have h6 : ¬ ((c.pipes.length : Int) = 256) := by omega
                  simp [h6]
                  refine xcall_pure (c_pneumaticref21_piped c (⟨a, b⟩ : Pipe) (by omega) (by omega)) ?_
                  simp [joinP, hj, hpo, XEndT]
      · simp [hgb, hga, hc, XEndT, joinErr, joinP]
    · simp [hga, hc, XEndT, joinErr, joinP]
  · simp [hc, XEndT, joinErr, joinP]

end Go.Am
/- Contracts: the reference of chapter 21: switches, Add, Remove. -/
namespace Go.Am
open Go Go.Proofs Go.Pn

def kindAt (c : Circuit) (k : Int) : Int := (c.parts[k.toNat]?.map (·.kind)).getD 0
def partI (c : Circuit) (s : Txt) : Int := idxI c.parts fun p => decide (p.name = s)
def swK (c : Circuit) (k : Int) : Int := if 0 ≤ k ∧ kindAt c k ≠ 6 then -1 else k
theorem partI_cases (c : Circuit) (s : Txt) : partI c s = -1 ∨ ∃ (i : Nat) (x : Part), partI c s = i ∧ c.parts[i]? = some x ∧ x.name = s := by
  rcases idxI_cases c.parts (fun p => decide (p.name = s)) with ⟨_, h⟩ | ⟨i, x, _, h1, h2, h3⟩
  · exact .inl h
  · exact .inr ⟨i, x, h1, h2, by simpa using h3⟩
def swAt (c : Circuit) (s : Txt) : Int := swK c (partI c s)


theorem c_pneumaticref21_switches (c : Circuit) (s : Txt) (hs : Sized c) (hl : s.length < 4611686018427387900) : Pure Go.Proofs.Tryz.prog GL 92 [c.av, .p (.str s)] (.tup [.p (.int .i64 (swAt c (s ++ [48]))), .p (.int .i64 (swAt c (s ++ [49])))]) := by
  refine Pure.of_walk (N := 47) Go.Proofs.Tryz.func92 rfl rfl rfl (by simp) (by first | (simp; done) | simp [*]) ?_
  simp
  refine XDraw.intro (by kernel_rfl) ?_
  simp
  refine ⟨by omega, ?_⟩
  refine xcall_pure (c_pneumaticref21_Index c (s ++ [48]) hs) ?_
  simp
  refine ⟨by omega, ?_⟩
  refine xcall_pure (c_pneumaticref21_Index c (s ++ [49]) hs) ?_
  simp
  refine ⟨.of (by kernel_rfl), ?_⟩
  rw [← partI, ← partI, swAt, swAt]
  have h0 := partI_cases c (s ++ [48])
  have h1 := partI_cases c (s ++ [49])
  generalize partI c (s ++ [48]) = k0 at *
  generalize partI c (s ++ [49]) = k1 at *
  refine XLoop.go [2, 6] [0] 0 [] (fun _ => []) (fun _ (i : Nat) => [(7, .p (.int .i64 i))]) (fun _ i => [(1, some (.cells 1 [[.p (.int .i64 (if 1 ≤ i then swK c k0 else k0))], [.p (.int .i64 (if 2 ≤ i then swK c k1 else k1))]]))]) (fun i => i ≤ 2) (fun i => 2 - i) 0 (by omega) ?_ ?_
  · simp
    decide
  · intro i hi
    obtain rfl | rfl | rfl : i = 0 ∨ i = 1 ∨ i = 2 := by omega
    · skip
      simp
      refine XDraw.intro (by kernel_rfl) ?_
      rcases h0 with hk | ⟨j, x, hk, e, _⟩
      · simp [hk]
        refine ⟨.of (by kernel_rfl), ?_⟩
        refine ⟨1, by omega, by omega, ?_⟩
        simp [swK, hk]
        try decide
      · have hj := List.getElem?_eq_some_iff.1 e
        obtain ⟨hj, _⟩ := hj
        have hk0 : 0 ≤ k0 := by omega
        simp [hk]
        simp [hj, e, -getElem?_pos, List.getElem?_cons_zero, List.getElem?_cons_succ]
        refine ⟨.of (by kernel_rfl), ?_⟩
        have hka : kindAt c k0 = x.kind := by rw [kindAt, hk, Int.toNat_natCast, e]; rfl
        refine xif_split (fun h4 => ?_) (fun h4 => ?_)
        · have h5 : ¬ x.kind = 6 := by simpa using h4
          have hsw : swK c (j : Int) = -1 := by rw [← hk, swK, hka, if_pos ⟨hk0, h5⟩]
          simp
          refine ⟨1, by omega, by omega, ?_⟩
          simp [hsw, hk]
          try decide
        · have h5 : x.kind = 6 := by simpa using h4
          have hsw : swK c (j : Int) = j := by rw [← hk, swK, hka, if_neg (fun h => h.2 h5), hk]
          simp
          refine ⟨1, by omega, by omega, ?_⟩
          simp [hsw, hk]
          try decide
    · skip
      simp
      refine XDraw.intro (by kernel_rfl) ?_
      rcases h1 with hk | ⟨j, x, hk, e, _⟩
      · simp [hk]
        refine ⟨.of (by kernel_rfl), ?_⟩
        refine ⟨2, by omega, by omega, ?_⟩
        simp [swK, hk]
        try decide
      · have hj := List.getElem?_eq_some_iff.1 e
        obtain ⟨hj, _⟩ := hj
        have hk0 : 0 ≤ k1 := by omega
        simp [hk]
        simp [hj, e, -getElem?_pos, List.getElem?_cons_zero, List.getElem?_cons_succ]
        refine ⟨.of (by kernel_rfl), ?_⟩
        have hka : kindAt c k1 = x.kind := by rw [kindAt, hk, Int.toNat_natCast, e]; rfl
        refine xif_split (fun h4 => ?_) (fun h4 => ?_)
        · have h5 : ¬ x.kind = 6 := by simpa using h4
          have hsw : swK c (j : Int) = -1 := by rw [← hk, swK, hka, if_pos ⟨hk0, h5⟩]
          simp
          refine ⟨2, by omega, by omega, ?_⟩
          simp [hsw, hk]
          try decide
        · have h5 : x.kind = 6 := by simpa using h4
          have hsw : swK c (j : Int) = j := by rw [← hk, swK, hka, if_neg (fun h => h.2 h5), hk]
          simp
          refine ⟨2, by omega, by omega, ?_⟩
          simp [hsw, hk]
          try decide
    · simp
      refine XDraw.intro (by kernel_rfl) ?_
      simp
      refine ⟨.of (by kernel_rfl), ?_⟩
      simp [XEndT]

end Go.Am
/- Contracts: the reference of chapter 21: Add. -/
namespace Go.Am
open Go Go.Proofs Go.Pn

theorem check_range {c : Circuit} (h : checkP c = 0) : ∀ x ∈ c.pipes, (0 ≤ x.fr.part ∧ x.fr.part < c.parts.length) ∧ 0 ≤ x.to.part ∧ x.to.part < c.parts.length := by
  have h0 : firstErr (pipeAt c) c.pipes.length = 0 := by unfold checkP at h; grind
  intro x hx
  obtain ⟨j, hj, rfl⟩ := List.getElem_of_mem hx
  have h7 := firstErr_zero h0 hj
  simp only [pipeAt, List.getElem?_eq_getElem hj] at h7
  have h8 : pipeErr c c.pipes[j] = 0 := by
    apply Classical.byContradiction
    intro hne
    rw [if_pos hne] at h7
    exact hne h7
  have h9 : rangeErrs c [c.pipes[j].fr, c.pipes[j].to] = 0 := by
    apply Classical.byContradiction
    intro hne
    rw [pipeErr, if_pos hne] at h8
    exact hne h8
  have h10 := rangeErrs_two h9
  exact ⟨h10 _ (by simp), h10 _ (by simp)⟩

/-- The place of a further part. -/
def addAt (ps : List Part) (s : Txt) : Nat := (ps.takeWhile fun q => Op.bytesLess q.name s).length
theorem addAt_le {ps : List Part} {s : Txt} : addAt ps s ≤ ps.length := by
  unfold addAt
  exact (List.takeWhile_sublist _).length_le
theorem addAt_of {ps : List Part} {s : Txt} : ∀ {k : Nat}, k ≤ ps.length → (∀ (j : Nat) y, j < k → ps[j]? = some y → Op.bytesLess y.name s = true) → (∀ y, ps[k]? = some y → Op.bytesLess y.name s = false) → addAt ps s = k := by
  unfold addAt
  induction ps with
  | nil => intro k h _ _; simp at h; simp [h]
  | cons q ps ih =>
    intro k h h1 h2
    cases k with
    | zero =>
      have := h2 q (by simp)
      simp [List.takeWhile_cons, this]
    | succ k =>
      have h3 := h1 0 q (by omega) (by simp)
      simp only [List.takeWhile_cons, h3, if_true, List.length_cons]
      have := ih (k := k) (by simpa using h) (fun j y hj e => h1 (j + 1) y (by omega) (by simpa using e)) (fun y e => h2 y (by simpa using e))
      omega
def addOut (c : Circuit) (p : Part) : Circuit := ⟨c.parts.take (addAt c.parts p.name) ++ p :: c.parts.drop (addAt c.parts p.name), movedP (addAt c.parts p.name) 1 c.pipes⟩
def addErr (c : Circuit) (p : Part) : Int := if checkP c ≠ 0 then checkP c else if 0 ≤ partI c p.name then 7 else checkP (addOut c p)
def addP (c : Circuit) (p : Part) : Circuit := if addErr c p ≠ 0 then ⟨[], []⟩ else addOut c p

@[simp] theorem takeL_map {α β : Type} {f : α → β} {l : List α} : List.take l.length (l.map f) = l.map f := List.take_of_length_le (by simp)
theorem rows3_take {ps : List Part} {k : Nat} : ∀ r ∈ List.take k (List.map ((fun x => List.map AV.p x) ∘ Part.enc) ps), r.length = 3 := by
  intro r hr
  have := List.mem_of_mem_take hr
  simp only [List.mem_map] at this
  obtain ⟨q, _, rfl⟩ := this
  rfl

theorem rows3_tt {ps : List Part} {k : Nat} : ∀ r ∈ List.take k (List.take k (List.map ((fun x => List.map AV.p x) ∘ Part.enc) ps)), r.length = 3 := fun r hr => rows3_take r (List.mem_of_mem_take hr)
theorem rows3_td {ps : List Part} {k j : Nat} : ∀ r ∈ List.take j (List.drop k (List.map ((fun x => List.map AV.p x) ∘ Part.enc) ps)), r.length = 3 := by
  intro r hr
  have := List.mem_of_mem_drop (List.mem_of_mem_take hr)
  simp only [List.mem_map] at this
  obtain ⟨q, _, rfl⟩ := this
  rfl
theorem addrows1 {ps : List Part} {k : Nat} {p : Part} (hk : k ≤ ps.length) : List.take (k + 1) (List.take k (List.take k (List.map ((fun x => List.map AV.p x) ∘ Part.enc) ps)) ++ [[AV.p (PV.int IntKind.i64 p.kind), AV.p (PV.str p.name), AV.p (PV.int IntKind.i64 p.delay)]]) ++ List.take (ps.length - k) (List.drop k (List.map ((fun x => List.map AV.p x) ∘ Part.enc) ps)) = (ps.take k ++ p :: ps.drop k).map Part.row := by
  have hR : List.map ((fun x => List.map AV.p x) ∘ Part.enc) ps = ps.map Part.row := rfl
  rw [hR, List.take_of_length_le (by simp; omega), List.take_of_length_le (l := List.drop k _) (by simp), List.take_of_length_le (l := List.take k _) (by simp; omega)]
  simp [List.map_take, List.map_drop]
theorem addrows0 {ps : List Part} {k : Nat} {p : Part} (hk : k = 0) : [AV.p (PV.int IntKind.i64 p.kind), AV.p (PV.str p.name), AV.p (PV.int IntKind.i64 p.delay)] :: List.take (ps.length - k) (List.drop k (List.map ((fun x => List.map AV.p x) ∘ Part.enc) ps)) = (ps.take k ++ p :: ps.drop k).map Part.row := by
  subst hk
  have hR : List.map ((fun x => List.map AV.p x) ∘ Part.enc) ps = ps.map Part.row := rfl
  rw [hR, List.take_of_length_le (by simp)]
  simp
theorem moved_hx {c : Circuit} (h : checkP c = 0) : ∀ x ∈ c.pipes, -1000 ≤ x.fr.part ∧ x.fr.part ≤ 1000 ∧ -1000 ≤ x.to.part ∧ x.to.part ≤ 1000 := by
  intro x hx
  have h1 := check_range h x hx
  have h2 := (check_parts h).2.1
  omega

theorem addOut_sized {c : Circuit} {p : Part} (hs : Sized c) (h : c.parts.length ≤ 64) (h2 : c.pipes.length ≤ 256) (hp : p.name.length < 4611686018427387900) : Sized (addOut c p) := by
  have ha := @addAt_le c.parts p.name
  refine ⟨?_, ?_, ?_⟩
  · simp [addOut]; omega
  · simp [addOut, movedP]; omega
  · intro q hq
    simp [addOut] at hq
    rcases hq with hq | rfl | hq
    · exact hs.names q (List.mem_of_mem_take hq)
    · exact hp
    · exact hs.names q (List.mem_of_mem_drop hq)


theorem c_pneumaticref21_Add (c : Circuit) (p : Part) (hs : Sized c) (hp : p.name.length < 4611686018427387900) : Pure Go.Proofs.Tryz.prog GL 18 [c.av, p.av] (.tup [(addP c p).av, .p (.int .i64 (addErr c p))]) := by
  refine Pure.of_walk (N := 66) Go.Proofs.Tryz.func18 rfl rfl rfl (by simp) (by first | (simp; done) | simp [*]) ?_
  simp
  refine xcall_pure (c_pneumaticref21_Check c hs) ?_
  by_cases hc : checkP c = 0
  · have h2 := check_parts hc
    have hmx := moved_hx hc
    simp [hc]
    refine xcall_pure (c_pneumaticref21_Index c p.name hs) ?_
    rw [← partI]
    by_cases hi : 0 ≤ partI c p.name
    · simp [hi]
      simp [addP, addErr, hc, hi, XEndT]
    · simp [hi]
      refine XLoop.go [2, 3, 4] [0, 1, 2] 0 [] (fun _ => []) (fun _ (k : Nat) => [(7, .p (.int .i64 k))]) (fun _ _ => []) (fun k => k ≤ c.parts.length ∧ ∀ (j : Nat) x, j < k → c.parts[j]? = some x → Op.bytesLess x.name p.name = true) (fun k => c.parts.length - k) 0 ⟨by omega, fun j x h => by omega⟩ ?_ ?_
      · simp
        try decide
      · rintro k ⟨hk, hb⟩
        simp
        refine XDraw.intro (by kernel_rfl) ?_
        by_cases h3 : k < c.parts.length
        · obtain ⟨x, e⟩ := get_lt h3
          simp [h3, e, -getElem?_pos, List.getElem?_cons_zero, List.getElem?_cons_succ]
          refine ⟨.of (by kernel_rfl), ?_⟩
          refine xif_split (fun h4 => ?_) (fun h4 => ?_)
          · simp
            refine ⟨wrap_i64 (by omega) (by omega), k + 1, ⟨by omega, ?_⟩, by omega, ?_⟩
            · intro j y hj e2
              by_cases hjk : j = k
              · subst hjk
                rw [e] at e2
                cases e2
                exact h4
              · exact hb j y (by omega) e2
            · simp
              try decide
          · have hat : addAt c.parts p.name = k := addAt_of hk hb (fun y e2 => by rw [e] at e2; cases e2; exact h4)
            simp
            have hsO := addOut_sized hs h2.2.1 h2.2.2 hp
            obtain ⟨O, hO⟩ : ∃ O, O = addOut c p := ⟨_, rfl⟩
            have q1 : c.parts.take k ++ p :: c.parts.drop k = O.parts := by rw [hO, addOut, hat]
            have q2 : k + 1 + (c.parts.length - k) = O.parts.length := by rw [← q1]; simp; omega
            have q3 : movedP k 1 c.pipes = O.pipes := by rw [hO, addOut, hat]
            rw [← hO] at hsO
            refine XDraw.intro (by kernel_rfl) ?_
            simp [hk]
            refine ⟨rows3_take, by omega, ?_⟩
            refine xdec_split (fun k1 => ?_) (fun k1 => ?_)
            · simp [hk]
              refine ⟨by omega, rows3_take, rows3_td, by omega, rows3_tt, ?_⟩
              rw [addrows1 hk, q1, q2]
              refine xcall_pure (c_pneumaticref21_moved c.pipes k 1 (by omega) (by omega) hmx) ?_
              rw [q3]
              simp [hk]
              refine ⟨.of (by kernel_rfl), ?_⟩
              refine xcall_lent ?_
              simp
              refine ⟨_, c_pneumaticref21_Check O hsO, rfl, ?_⟩
              simp
              by_cases hco : checkP O = 0
              · simp [hco]
                simp [addP, addErr, hc, hi, ← hO, hco, XEndT]
              · simp [hco]
                simp [addP, addErr, hc, hi, ← hO, hco, XEndT]
            · simp [hk]
              have h9 : k = 0 ∨ c.parts = [] := .inl (by omega)
              simp [h9, hk]
              refine ⟨rows3_td, by omega, ?_⟩
              rw [addrows0 (by omega), q1, show 1 + (c.parts.length - k) = O.parts.length by omega]
              refine xcall_pure (c_pneumaticref21_moved c.pipes k 1 (by omega) (by omega) hmx) ?_
              rw [q3]
              simp [hk]
              refine ⟨.of (by kernel_rfl), ?_⟩
              refine xcall_lent ?_
              simp
              refine ⟨_, c_pneumaticref21_Check O hsO, rfl, ?_⟩
              simp
              by_cases hco : checkP O = 0
              · simp [hco]
                simp [addP, addErr, hc, hi, ← hO, hco, XEndT]
              · simp [hco]
                simp [addP, addErr, hc, hi, ← hO, hco, XEndT]
        · have hk3 : k = c.parts.length := by omega
          have hat : addAt c.parts p.name = k := addAt_of hk hb (fun y e2 => by rw [hk3] at e2; simp at e2)
          simp [h3]
          refine ⟨.of (by kernel_rfl), ?_⟩
          have hsO := addOut_sized hs h2.2.1 h2.2.2 hp
          obtain ⟨O, hO⟩ : ∃ O, O = addOut c p := ⟨_, rfl⟩
          have q1 : c.parts.take k ++ p :: c.parts.drop k = O.parts := by rw [hO, addOut, hat]
          have q2 : k + 1 + (c.parts.length - k) = O.parts.length := by rw [← q1]; simp; omega
          have q3 : movedP k 1 c.pipes = O.pipes := by rw [hO, addOut, hat]
          rw [← hO] at hsO
          refine XDraw.intro (by kernel_rfl) ?_
          simp [hk]
          refine ⟨rows3_take, by omega, ?_⟩
          refine xdec_split (fun k1 => ?_) (fun k1 => ?_)
          · simp [hk]
            refine ⟨by omega, rows3_take, rows3_td, by omega, rows3_tt, ?_⟩
            rw [addrows1 hk, q1, q2]
            refine xcall_pure (c_pneumaticref21_moved c.pipes k 1 (by omega) (by omega) hmx) ?_
            rw [q3]
            simp [hk]
            refine ⟨.of (by kernel_rfl), ?_⟩
            refine xcall_lent ?_
            simp
            refine ⟨_, c_pneumaticref21_Check O hsO, rfl, ?_⟩
            simp
            by_cases hco : checkP O = 0
            · simp [hco]
              simp [addP, addErr, hc, hi, ← hO, hco, XEndT]
            · simp [hco]
              simp [addP, addErr, hc, hi, ← hO, hco, XEndT]
          · simp [hk]
            have h9 : k = 0 ∨ c.parts = [] := .inl (by omega)
            simp [h9, hk]
            refine ⟨rows3_td, by omega, ?_⟩
            rw [addrows0 (by omega), q1, show 1 + (c.parts.length - k) = O.parts.length by omega]
            refine xcall_pure (c_pneumaticref21_moved c.pipes k 1 (by omega) (by omega) hmx) ?_
            rw [q3]
            simp [hk]
            refine ⟨.of (by kernel_rfl), ?_⟩
            refine xcall_lent ?_
            simp
            refine ⟨_, c_pneumaticref21_Check O hsO, rfl, ?_⟩
            simp
            by_cases hco : checkP O = 0
            · simp [hco]
              simp [addP, addErr, hc, hi, ← hO, hco, XEndT]
            · simp [hco]
              simp [addP, addErr, hc, hi, ← hO, hco, XEndT]
  · simp [hc, XEndT, addErr, addP]

end Go.Am
/- Contracts: the reference of chapter 21: Limits, Remove. -/
namespace Go.Am
open Go Go.Proofs Go.Pn

def limErr (c : Circuit) (s : Txt) : Int := if checkP c ≠ 0 then checkP c else if partI c s < 0 then 6 else if kindAt c (partI c s) ≠ 1 then 1 else 0
def limAt (c : Circuit) (s : Txt) (d : UInt8) : Int := if limErr c s ≠ 0 then 0 else swAt c (s ++ [d])

theorem c_pneumaticref21_Limits (c : Circuit) (s : Txt) (hs : Sized c) (hl : s.length < 4611686018427387900) : Pure Go.Proofs.Tryz.prog GL 22 [c.av, .p (.str s)] (.tup [.p (.int .i64 (limAt c s 48)), .p (.int .i64 (limAt c s 49)), .p (.int .i64 (limErr c s))]) := by
  refine Pure.of_walk (N := 36) Go.Proofs.Tryz.func22 rfl rfl rfl (by simp) (by first | (simp; done) | simp [*]) ?_
  simp
  refine xcall_pure (c_pneumaticref21_Check c hs) ?_
  by_cases hc : checkP c = 0
  · simp [hc]
    refine xcall_pure (c_pneumaticref21_Index c s hs) ?_
    rw [← partI]
    rcases partI_cases c s with hk | ⟨j, x, hk, e, _⟩
    · simp [hk]
      simp [limErr, limAt, hc, hk, XEndT]
    · obtain ⟨hj, _⟩ := List.getElem?_eq_some_iff.1 e
      have hka : kindAt c (j : Int) = x.kind := by rw [kindAt, Int.toNat_natCast, e]; rfl
      have hk0 : ¬ (j : Int) < 0 := by omega
      simp [hk, hk0]
      simp [hj, e, -getElem?_pos, List.getElem?_cons_zero, List.getElem?_cons_succ]
      by_cases h1 : x.kind = 1
      · simp [h1]
        refine xcall_pure (c_pneumaticref21_switches c s hs hl) ?_
        simp
        simp [limErr, limAt, hc, hk, hka, h1, XEndT, hk0]
      · simp [h1]
        simp [limErr, limAt, hc, hk, hka, h1, XEndT, hk0]
  · simp [hc, XEndT, limErr, limAt]

def remErr (c : Circuit) (s : Txt) : Int :=
  if checkP c ≠ 0 then checkP c else if partI c s < 0 then 6 else if kindAt c (partI c s) = 1 ∧ (0 ≤ swAt c (s ++ [48]) ∨ 0 ≤ swAt c (s ++ [49])) then 14 else 0
def restIn (k : Nat) (l : List Pipe) : List Pipe := l.filter fun x => !decide (x.fr.part = k) && !decide (x.to.part = k)
def remOut (c : Circuit) (k : Nat) : Circuit := ⟨c.parts.take k ++ c.parts.drop (k + 1), movedP k (-1) (restIn k c.pipes)⟩
def remP (c : Circuit) (s : Txt) : Circuit := if remErr c s ≠ 0 then ⟨[], []⟩ else remOut c (partI c s).toNat
theorem restIn_snoc {k : Nat} {l : List Pipe} {i : Nat} {x : Pipe} (e : l[i]? = some x) : restIn k (l.take (i + 1)) = restIn k (l.take i) ++ (if !decide (x.fr.part = k) && !decide (x.to.part = k) then [x] else []) := filter_snoc e
theorem restIn_len {k : Nat} {l : List Pipe} : (restIn k l).length ≤ l.length := List.length_filter_le ..

theorem restIn_mem {k : Nat} {l : List Pipe} {y : Pipe} (h : y ∈ restIn k l) : y ∈ l := (List.mem_filter.1 h).1
theorem remrows {ps : List Part} {j : Nat} (hk : j < ps.length) : List.take j (List.take j (List.map ((fun x => List.map AV.p x) ∘ Part.enc) ps)) ++ List.take (ps.length - (j + 1)) (List.drop (j + 1) (List.map ((fun x => List.map AV.p x) ∘ Part.enc) ps)) = (ps.take j ++ ps.drop (j + 1)).map Part.row := by
  have hR : List.map ((fun x => List.map AV.p x) ∘ Part.enc) ps = ps.map Part.row := rfl
  rw [hR, List.take_of_length_le (l := List.drop _ _) (by simp), List.take_of_length_le (l := List.take _ _) (by simp; omega)]
  simp [List.map_take, List.map_drop]


theorem c_pneumaticref21_Remove (c : Circuit) (s : Txt) (hs : Sized c) (hl : s.length < 4611686018427387900) : Pure Go.Proofs.Tryz.prog GL 20 [c.av, .p (.str s)] (.tup [(remP c s).av, .p (.int .i64 (remErr c s))]) := by
  refine Pure.of_walk (N := 97) Go.Proofs.Tryz.func20 rfl rfl rfl (by simp) (by first | (simp; done) | simp [*]) ?_
  simp
  refine xcall_pure (c_pneumaticref21_Check c hs) ?_
  by_cases hc : checkP c = 0
  · have hp := check_parts hc
    have hmx := moved_hx hc
    simp [hc]
    refine xcall_pure (c_pneumaticref21_Index c s hs) ?_
    rw [← partI]
    rcases partI_cases c s with hk | ⟨j, x, hk, e, _⟩
    · simp [hk]
      simp [remErr, remP, hc, hk, XEndT]
    · obtain ⟨hj, _⟩ := List.getElem?_eq_some_iff.1 e
      have hka : kindAt c (j : Int) = x.kind := by rw [kindAt, Int.toNat_natCast, e]; rfl
      have hk0 : ¬ (j : Int) < 0 := by omega
      simp [hk, hk0]
      refine xcall_pure (c_pneumaticref21_switches c s hs hl) ?_
      have hre : remErr c s = if x.kind = 1 ∧ (0 ≤ swAt c (s ++ [48]) ∨ 0 ≤ swAt c (s ++ [49])) then 14 else 0 := by
        simp [remErr, hc, hk, hk0, hka]
      have hrp : remErr c s = 0 → remP c s = remOut c j := fun h => by simp [remP, h, hk]
      have hrn : remErr c s ≠ 0 → remP c s = ⟨[], []⟩ := fun h => by simp [remP, h]
      generalize swAt c (s ++ [48]) = a at hre
      generalize swAt c (s ++ [49]) = b at hre
      generalize remErr c s = E at hre hrp hrn
      generalize remP c s = O at hrp hrn
      simp [hj, e, -getElem?_pos, List.getElem?_cons_zero, List.getElem?_cons_succ]
      by_cases hb : x.kind = 1 ∧ (0 ≤ a ∨ 0 ≤ b)
      · rw [if_pos hb] at hre
        subst hre
        have hO := hrn (by omega)
        subst hO
        obtain ⟨hb1, hb2⟩ := hb
        simp [hb1]
        by_cases ha : 0 ≤ a
        · simp [ha]
          simp [XEndT]
        · have hb3 : 0 ≤ b := by omega
          simp [ha, hb3]
          simp [XEndT]
      · rw [if_neg hb] at hre
        subst hre
        have hO := hrp rfl
        subst hO
        by_cases h1 : x.kind = 1
        · have ha : ¬ 0 ≤ a := fun h => hb ⟨h1, .inl h⟩
          have hb3 : ¬ 0 ≤ b := fun h => hb ⟨h1, .inr h⟩
          simp [h1]
          simp [ha, hb3]
          refine XLoop.go [2, 4, 7] [0, 1] 1 [2] (nms [10]) (fun nx (i : Nat) => [(10, .acc nx 4 (restIn j (c.pipes.take i)).length), (11, .p (.int .i64 i))]) (fun nx i => [(nx, accB 4 ((restIn j (c.pipes.take i)).map Pipe.row))]) (fun i => i ≤ c.pipes.length) (fun i => c.pipes.length - i) 0 (by omega) ?_ ?_
          · simp [restIn]
            try decide
          · intro i hi
            have hli := Nat.le_trans (@restIn_len j (c.pipes.take i)) (List.length_take_le' ..)
            have hf := fun (x : Pipe) (e : c.pipes[i]? = some x) => restIn_snoc (k := j) e
            have hA : i = c.pipes.length → restIn j (c.pipes.take i) = restIn j c.pipes := fun h => by rw [h, List.take_length]
            generalize restIn j (c.pipes.take i) = A at hf hA hli
            simp
            refine xif_split (fun h => ?_) (fun h => ?_)
            · simp at h
              obtain ⟨y, e2⟩ := get_lt h
              have hf := hf y e2
              simp [h, e2, -getElem?_pos, List.getElem?_cons_zero, List.getElem?_cons_succ]
              by_cases b1 : y.fr.part = j
              · simp [b1]
                refine ⟨wrap_i64 (by omega) (by omega), i + 1, by omega, by omega, ?_⟩
                simp [hf, b1]
                try decide
              · simp [b1]
                simp [h, e2, -getElem?_pos, List.getElem?_cons_zero, List.getElem?_cons_succ]
                by_cases b2 : y.to.part = j
                · simp [b2]
                  refine ⟨wrap_i64 (by omega) (by omega), i + 1, by omega, by omega, ?_⟩
                  simp [hf, b1, b2]
                  try decide
                · simp [b2]
                  simp [h, e2, -getElem?_pos, List.getElem?_cons_zero, List.getElem?_cons_succ]
                  refine ⟨by omega, wrap_i64 (by omega) (by omega), i + 1, by omega, by omega, ?_⟩
                  simp [hf, b1, b2]
                  try decide
            · simp at h
              have h3 : i = c.pipes.length := by omega
              rw [hA h3]
              obtain ⟨O, hO⟩ : ∃ O, O = remOut c j := ⟨_, rfl⟩
              have r1 : c.parts.take j ++ c.parts.drop (j + 1) = O.parts := by rw [hO, remOut]
              have r2 : j + (c.parts.length - (j + 1)) = O.parts.length := by rw [← r1]; simp; omega
              have r3 : movedP j (-1) (restIn j c.pipes) = O.pipes := by rw [hO, remOut]
              rw [← hO]
              have hrl := @restIn_len j c.pipes
              simp
              refine XDraw.intro (by kernel_rfl) ?_
              simp [Nat.le_of_lt hj]
              refine ⟨rows3_take, by omega, ?_⟩
              refine xdec_split (fun k1 => ?_) (fun k1 => ?_)
              · simp [Nat.le_of_lt hj]
                refine ⟨wrap_i64 (by omega) (by omega), ?_⟩
                rw [if_pos ⟨by omega, by omega⟩]
                simp
                refine ⟨rows3_td, by omega, by omega, rows3_take, ?_⟩
                rw [remrows hj, r1, r2]
                refine xcall_given ?_
                simp
                refine ⟨_, c_pneumaticref21_moved (restIn j c.pipes) j (-1) (by omega) (by omega) (fun y hy => hmx y (restIn_mem hy)), ?_⟩
                rw [r3]
                simp
                refine ⟨.of (by kernel_rfl), ?_⟩
                simp [XEndT]
              · simp [Nat.le_of_lt hj]
                have h9 : j = 0 ∨ c.parts = [] := .inl (by omega)
                simp [h9, Nat.le_of_lt hj]
                refine ⟨wrap_i64 (by omega) (by omega), ?_⟩
                rw [if_pos ⟨by omega, by omega⟩]
                simp
                refine ⟨rows3_td, by omega, ?_⟩
                refine xdec_split (fun k2 => ?_) (fun k2 => ?_)
                · skip
                  have r4 : List.take (c.parts.length - (j + 1)) (List.drop (j + 1) (List.map ((fun x => List.map AV.p x) ∘ Part.enc) c.parts)) = O.parts.map Part.row := by rw [← r1, ← remrows hj, show j = 0 by omega]; simp
                  have r5 : c.parts.length - (j + 1) = O.parts.length := by omega
                  simp
                  rw [r4, r5]
                  refine xcall_given ?_
                  simp
                  refine ⟨_, c_pneumaticref21_moved (restIn j c.pipes) j (-1) (by omega) (by omega) (fun y hy => hmx y (restIn_mem hy)), ?_⟩
                  rw [r3]
                  simp
                  refine ⟨.of (by kernel_rfl), ?_⟩
                  simp [XEndT]
                · skip
                  have r6 : O.parts = [] := List.eq_nil_of_length_eq_zero (by omega)
                  have h8 : c.parts.length - (j + 1) = 0 ∨ c.parts.length ≤ j + 1 := .inr (by omega)
                  simp [h8]
                  refine xcall_given ?_
                  simp
                  refine ⟨_, c_pneumaticref21_moved (restIn j c.pipes) j (-1) (by omega) (by omega) (fun y hy => hmx y (restIn_mem hy)), ?_⟩
                  rw [r3]
                  simp
                  refine ⟨.of (by kernel_rfl), ?_⟩
                  simp [XEndT, r6]
        · simp [h1]
          refine XLoop.go [2, 4, 7] [0, 1] 1 [2] (nms [10]) (fun nx (i : Nat) => [(10, .acc nx 4 (restIn j (c.pipes.take i)).length), (11, .p (.int .i64 i))]) (fun nx i => [(nx, accB 4 ((restIn j (c.pipes.take i)).map Pipe.row))]) (fun i => i ≤ c.pipes.length) (fun i => c.pipes.length - i) 0 (by omega) ?_ ?_
          · simp [restIn]
            try decide
          · intro i hi
            have hli := Nat.le_trans (@restIn_len j (c.pipes.take i)) (List.length_take_le' ..)
            have hf := fun (x : Pipe) (e : c.pipes[i]? = some x) => restIn_snoc (k := j) e
            have hA : i = c.pipes.length → restIn j (c.pipes.take i) = restIn j c.pipes := fun h => by rw [h, List.take_length]
            generalize restIn j (c.pipes.take i) = A at hf hA hli
            simp
            refine xif_split (fun h => ?_) (fun h => ?_)
            · simp at h
              obtain ⟨y, e2⟩ := get_lt h
              have hf := hf y e2
              simp [h, e2, -getElem?_pos, List.getElem?_cons_zero, List.getElem?_cons_succ]
              by_cases b1 : y.fr.part = j
              · simp [b1]
                refine ⟨wrap_i64 (by omega) (by omega), i + 1, by omega, by omega, ?_⟩
                simp [hf, b1]
                try decide
              · simp [b1]
                simp [h, e2, -getElem?_pos, List.getElem?_cons_zero, List.getElem?_cons_succ]
                by_cases b2 : y.to.part = j
                · simp [b2]
                  refine ⟨wrap_i64 (by omega) (by omega), i + 1, by omega, by omega, ?_⟩
                  simp [hf, b1, b2]
                  try decide
                · simp [b2]
                  simp [h, e2, -getElem?_pos, List.getElem?_cons_zero, List.getElem?_cons_succ]
                  refine ⟨by omega, wrap_i64 (by omega) (by omega), i + 1, by omega, by omega, ?_⟩
                  simp [hf, b1, b2]
                  try decide
            · simp at h
              have h3 : i = c.pipes.length := by omega
              rw [hA h3]
              obtain ⟨O, hO⟩ : ∃ O, O = remOut c j := ⟨_, rfl⟩
              have r1 : c.parts.take j ++ c.parts.drop (j + 1) = O.parts := by rw [hO, remOut]
              have r2 : j + (c.parts.length - (j + 1)) = O.parts.length := by rw [← r1]; simp; omega
              have r3 : movedP j (-1) (restIn j c.pipes) = O.pipes := by rw [hO, remOut]
              rw [← hO]
              have hrl := @restIn_len j c.pipes
              simp
              refine XDraw.intro (by kernel_rfl) ?_
              simp [Nat.le_of_lt hj]
              refine ⟨rows3_take, by omega, ?_⟩
              refine xdec_split (fun k1 => ?_) (fun k1 => ?_)
              · simp [Nat.le_of_lt hj]
                refine ⟨wrap_i64 (by omega) (by omega), ?_⟩
                rw [if_pos ⟨by omega, by omega⟩]
                simp
                refine ⟨rows3_td, by omega, by omega, rows3_take, ?_⟩
                rw [remrows hj, r1, r2]
                refine xcall_given ?_
                simp
                refine ⟨_, c_pneumaticref21_moved (restIn j c.pipes) j (-1) (by omega) (by omega) (fun y hy => hmx y (restIn_mem hy)), ?_⟩
                rw [r3]
                simp
                refine ⟨.of (by kernel_rfl), ?_⟩
                simp [XEndT]
              · simp [Nat.le_of_lt hj]
                have h9 : j = 0 ∨ c.parts = [] := .inl (by omega)
                simp [h9, Nat.le_of_lt hj]
                refine ⟨wrap_i64 (by omega) (by omega), ?_⟩
                rw [if_pos ⟨by omega, by omega⟩]
                simp
                refine ⟨rows3_td, by omega, ?_⟩
                refine xdec_split (fun k2 => ?_) (fun k2 => ?_)
                · skip
                  have r4 : List.take (c.parts.length - (j + 1)) (List.drop (j + 1) (List.map ((fun x => List.map AV.p x) ∘ Part.enc) c.parts)) = O.parts.map Part.row := by rw [← r1, ← remrows hj, show j = 0 by omega]; simp
                  have r5 : c.parts.length - (j + 1) = O.parts.length := by omega
                  simp
                  rw [r4, r5]
                  refine xcall_given ?_
                  simp
                  refine ⟨_, c_pneumaticref21_moved (restIn j c.pipes) j (-1) (by omega) (by omega) (fun y hy => hmx y (restIn_mem hy)), ?_⟩
                  rw [r3]
                  simp
                  refine ⟨.of (by kernel_rfl), ?_⟩
                  simp [XEndT]
                · skip
                  have r6 : O.parts = [] := List.eq_nil_of_length_eq_zero (by omega)
                  have h8 : c.parts.length - (j + 1) = 0 ∨ c.parts.length ≤ j + 1 := .inr (by omega)
                  simp [h8]
                  refine xcall_given ?_
                  simp
                  refine ⟨_, c_pneumaticref21_moved (restIn j c.pipes) j (-1) (by omega) (by omega) (fun y hy => hmx y (restIn_mem hy)), ?_⟩
                  rw [r3]
                  simp
                  refine ⟨.of (by kernel_rfl), ?_⟩
                  simp [XEndT, r6]
  · simp [hc, XEndT, remErr, remP]

end Go.Am
/- Contracts: the reference of chapter 21: Same, SameNets, Few. -/
namespace Go.Am
open Go Go.Proofs Go.Pn

theorem eq_of_all {α : Type} {xs ys : List α} (hl : xs.length = ys.length) (h : ∀ j, j < xs.length → xs[j]? = ys[j]?) : xs = ys := by
  apply List.ext_getElem? 
  intro j
  by_cases hj : j < xs.length
  · exact h j hj
  · rw [List.getElem?_eq_none (by omega), List.getElem?_eq_none (by omega)]


theorem c_pneumaticref21_Same (a b : Circuit) (ha : Sized a) (hb : Sized b) : Pure Go.Proofs.Tryz.prog GL 23 [a.av, b.av] (.p (.bool (decide (a.parts = b.parts) && decide (a.pipes = b.pipes)))) := by
  refine Pure.of_walk (N := 59) Go.Proofs.Tryz.func23 rfl rfl rfl (by simp) (by first | (simp; done) | simp [*]) ?_
  have ha1 := ha.parts
  have ha2 := ha.pipes
  simp
  by_cases h1 : a.parts.length = b.parts.length
  · simp [h1]
    by_cases h2 : a.pipes.length = b.pipes.length
    · simp [h2]
      refine XLoop.go [2, 3] [0, 1] 0 [] (fun _ => []) (fun _ (k : Nat) => [(5, .p (.int .i64 k))]) (fun _ _ => []) (fun k => k ≤ a.parts.length ∧ ∀ j, j < k → a.parts[j]? = b.parts[j]?) (fun k => a.parts.length - k) 0 ⟨by omega, fun j h => by omega⟩ ?_ ?_
      · simp
        try decide
      · rintro k ⟨hk, hp⟩
        simp
        refine xif_split (fun h => ?_) (fun h => ?_)
        · simp at h
          obtain ⟨x, e⟩ := get_lt h
          obtain ⟨y, e2⟩ := get_lt (show k < b.parts.length by omega)
          simp
          refine XDraw.intro (by kernel_rfl) ?_
          have hkb : k < b.parts.length := by omega
          simp [h, e, e2, hkb, -getElem?_pos, List.getElem?_cons_zero, List.getElem?_cons_succ]
          refine ⟨.of (by kernel_rfl), ?_⟩
          by_cases hxy : x = y
          · subst hxy
            simp
            refine ⟨wrap_i64 (by omega) (by omega), k + 1, ⟨by omega, fun j hj => ?_⟩, by omega, ?_⟩
            · by_cases hjk : j = k
              · rw [hjk, e, e2]
              · exact hp j (by omega)
            · simp
              try decide
          · have hne : ¬ a.parts = b.parts := fun hq => hxy (by rw [hq, e2] at e; cases e; rfl)
            simp [hxy]
            simp [XEndT, hne]
        · simp at h
          have hpe : a.parts = b.parts := eq_of_all h1 (fun j hj => hp j (by omega))
          clear hp
          simp
          refine XLoop.go [2, 3] [0, 1] 0 [] (fun _ => []) (fun _ (k : Nat) => [(6, .p (.int .i64 k))]) (fun _ _ => []) (fun k => k ≤ a.pipes.length ∧ ∀ j, j < k → a.pipes[j]? = b.pipes[j]?) (fun k => a.pipes.length - k) 0 ⟨by omega, fun j h => by omega⟩ ?_ ?_
          · simp
            try decide
          · clear hk h
            rintro k ⟨hk, hp⟩
            simp
            refine xif_split (fun h => ?_) (fun h => ?_)
            · simp at h
              obtain ⟨x, e⟩ := get_lt h
              obtain ⟨y, e2⟩ := get_lt (show k < b.pipes.length by omega)
              simp
              refine XDraw.intro (by kernel_rfl) ?_
              have hkb : k < b.pipes.length := by omega
              simp [h, e, e2, hkb, -getElem?_pos, List.getElem?_cons_zero, List.getElem?_cons_succ]
              refine ⟨.of (by kernel_rfl), ?_⟩
              by_cases hxy : x = y
              · subst hxy
                simp
                refine ⟨wrap_i64 (by omega) (by omega), k + 1, ⟨by omega, fun j hj => ?_⟩, by omega, ?_⟩
                · by_cases hjk : j = k
                  · rw [hjk, e, e2]
                  · exact hp j (by omega)
                · simp
                  try decide
              · have hne : ¬ a.pipes = b.pipes := fun hq => hxy (by rw [hq, e2] at e; cases e; rfl)
                simp [hxy]
                simp [XEndT, hne]
            · simp at h
              have hpi : a.pipes = b.pipes := eq_of_all h2 (fun j hj => hp j (by omega))
              simp [XEndT, hpe, hpi]
    · have h3 : ¬ a.pipes = b.pipes := fun h => h2 (by rw [h])
      have h4 : ¬ (a.pipes.length : Int) = b.pipes.length := by omega
      simp [h4]
      simp [XEndT, h3]
  · have h3 : ¬ a.parts = b.parts := fun h => h1 (by rw [h])
    have h4 : ¬ (a.parts.length : Int) = b.parts.length := by omega
    simp [h4]
    simp [XEndT, h3]

theorem c_pneumaticref21_SameNets (a b : List (List Port)) (ha : a.length < 4611686018427387904) (hb : b.length < 4611686018427387904) (hla : ∀ l ∈ a, l.length < 4611686018427387904) (hlb : ∀ l ∈ b, l.length < 4611686018427387904) : Pure Go.Proofs.Tryz.prog GL 36 [.p (.lst 1 (a.map Ports.enc)), .p (.lst 1 (b.map Ports.enc))] (.p (.bool (decide (a = b)))) := by
  refine Pure.of_walk (N := 53) Go.Proofs.Tryz.func36 rfl rfl rfl (by simp) (by first | (simp; done) | simp [*]) ?_
  simp
  by_cases h1 : a.length = b.length
  · simp [h1]
    refine XLoop.go [0, 1] [] 0 [] (fun _ => []) (fun _ (k : Nat) => [(5, .p (.int .i64 k))]) (fun _ _ => []) (fun k => k ≤ a.length ∧ ∀ j, j < k → a[j]? = b[j]?) (fun k => a.length - k) 0 ⟨by omega, fun j h => by omega⟩ ?_ ?_
    · simp
      try decide
    · rintro k ⟨hk, hp⟩
      simp
      refine xif_split (fun h => ?_) (fun h => ?_)
      · simp at h
        obtain ⟨x, e⟩ := get_lt h
        have hkb : k < b.length := by omega
        obtain ⟨y, e2⟩ := get_lt hkb
        have hx := hla x (List.mem_of_getElem? e)
        have hy := hlb y (List.mem_of_getElem? e2)
        simp
        refine XDraw.intro (by kernel_rfl) ?_
        simp [h, e, e2, hkb, -getElem?_pos, List.getElem?_cons_zero, List.getElem?_cons_succ]
        refine ⟨.of (by kernel_rfl), ?_⟩
        by_cases hl : x.length = y.length
        · simp [hl]
          refine XLoop.go [0, 1, 5] [] 0 [] (fun _ => []) (fun _ (i : Nat) => [(6, .p (.int .i64 i))]) (fun _ _ => []) (fun i => i ≤ x.length ∧ ∀ j, j < i → x[j]? = y[j]?) (fun i => x.length - i) 0 ⟨by omega, fun j h => by omega⟩ ?_ ?_
          · simp
            try decide
          · rintro i ⟨hi, hq⟩
            simp [h, e, -getElem?_pos, List.getElem?_cons_zero, List.getElem?_cons_succ]
            refine xif_split (fun h3 => ?_) (fun h3 => ?_)
            · simp at h3
              have h3b : i < y.length := by omega
              obtain ⟨u, f⟩ := get_lt h3
              obtain ⟨v, f2⟩ := get_lt h3b
              simp
              refine XDraw.intro (by kernel_rfl) ?_
              simp [h, e, e2, hkb, f, f2, h3, h3b, -getElem?_pos, List.getElem?_cons_zero, List.getElem?_cons_succ]
              refine ⟨.of (by kernel_rfl), ?_⟩
              by_cases huv : u = v
              · subst huv
                simp
                refine ⟨wrap_i64 (by omega) (by omega), i + 1, ⟨by omega, fun j hj => ?_⟩, by omega, ?_⟩
                · by_cases hjk : j = i
                  · rw [hjk, f, f2]
                  · exact hq j (by omega)
                · simp
                  try decide
              · have hxy : ¬ x = y := fun hq => huv (by rw [hq, f2] at f; cases f; rfl)
                have hne : ¬ a = b := fun hq => hxy (by rw [hq, e2] at e; cases e; rfl)
                simp [huv]
                simp [XEndT, hne]
            · simp at h3
              have hxy : x = y := eq_of_all hl (fun j hj => hq j (by omega))
              simp
              refine ⟨wrap_i64 (by omega) (by omega), k + 1, ⟨by omega, fun j hj => ?_⟩, by omega, ?_⟩
              · by_cases hjk : j = k
                · rw [hjk, e, e2, hxy]
                · exact hp j (by omega)
              · simp
                try decide
        · have hne : ¬ a = b := fun hq => hl (by rw [hq, e2] at e; cases e; rfl)
          have h4 : ¬ (x.length : Int) = y.length := by omega
          simp [h4]
          simp [XEndT, hne]
      · simp at h
        have hab : a = b := eq_of_all h1 (fun j hj => hp j (by omega))
        simp [XEndT, hab]
  · have h3 : ¬ a = b := fun h => h1 (by rw [h])
    have h4 : ¬ (a.length : Int) = b.length := by omega
    simp [h4]
    simp [XEndT, h3]

end Go.Am
/- Contracts: the reference of chapter 21: Few. -/
namespace Go.Am
open Go Go.Proofs Go.Pn

def pipesUp (c : Circuit) (k : Nat) : Prop := ∀ (j : Nat) x, j < k → c.pipes[j]? = some x → x.fr.name.length ≤ 60 ∧ x.to.name.length ≤ 60
def fewParts (c : Circuit) : Prop := ∀ (j : Nat) x, j < 12 → c.parts[j]? = some x → x.name.length ≤ 60
def fewPipes (c : Circuit) : Prop := ∀ (j : Nat) x, j < 24 → c.pipes[j]? = some x → x.fr.name.length ≤ 60 ∧ x.to.name.length ≤ 60
def fewLens (c : Circuit) : Prop := (c.parts.length ≤ 12 ∨ 64 < c.parts.length ∧ c.parts.length < 128) ∧ (c.pipes.length ≤ 24 ∨ 256 < c.pipes.length ∧ c.pipes.length < 512)
def fewOk (c : Circuit) : Prop := fewParts c ∧ fewPipes c ∧ fewLens c
open Classical in
noncomputable def fewP (c : Circuit) : Bool := decide (fewOk c)
instance (c : Circuit) : Decidable (fewLens c) := by unfold fewLens; infer_instance
theorem fewP_no {c : Circuit} (h : ¬ fewOk c) : fewP c = false := by simp [fewP, h]




set_option maxHeartbeats 2000000 in
theorem c_pneumaticref21_Few (c : Circuit) (hs : Sized c) : Pure Go.Proofs.Tryz.prog GL 72 [c.av] (.p (.bool (fewP c))) := by
  refine Pure.of_walk (N := 89) Go.Proofs.Tryz.func72 rfl rfl rfl (by simp) (by first | (simp; done) | simp [*]) ?_
  simp
  refine XLoop.go [1] [0] 0 [] (fun _ => []) (fun _ (k : Nat) => [(3, .p (.int .i64 k))]) (fun _ _ => []) (fun k => k ≤ c.parts.length ∧ k ≤ 12 ∧ ∀ (j : Nat) x, j < k → c.parts[j]? = some x → x.name.length ≤ 60) (fun k => c.parts.length - k) 0 ⟨by omega, by omega, fun j x h => by omega⟩ ?_ ?_
  · simp
  · rintro k ⟨hk, hk2, hp⟩
    simp
    by_cases h1 : k < c.parts.length ∧ k < 12
    · obtain ⟨h1, h2⟩ := h1
      obtain ⟨x, e⟩ := get_lt h1
      have hn := hs.names x (List.mem_of_getElem? e)
      have h2c : (k : Int) < 12 := by omega
      simp [h1]
      simp [h2c]
      simp [h1, e, -getElem?_pos, List.getElem?_cons_zero, List.getElem?_cons_succ]
      by_cases h4 : (60 : Int) < x.name.length
      · have hno : ¬ fewOk c := fun hq => by have := hq.1 k x h2 e; omega
        simp [h4]
        simp [XEndT, fewP_no hno]
      · simp [h4]
        refine ⟨wrap_i64 (by omega) (by omega), k + 1, ⟨by omega, by omega, fun j y hj e2 => ?_⟩, by omega, ?_⟩
        · by_cases hjk : j = k
          · subst hjk
            rw [e] at e2
            cases e2
            omega
          · exact hp j y (by omega) e2
        · simp
    · have hfp : fewParts c := by
        intro j x hj e
        obtain ⟨hj2, _⟩ := List.getElem?_eq_some_iff.1 e
        exact hp j x (by omega) e
      clear hp
      by_cases h2 : k < c.parts.length
      · have h3 : ¬ (k : Int) < 12 := by omega
        simp [h2]
        simp [h3]
        clear h2 h3 h1 hk2 hk
        refine XLoop.go [1] [0] 0 [] (fun _ => []) (fun _ (k : Nat) => [(4, .p (.int .i64 k))]) (fun _ _ => []) (fun k => k ≤ c.pipes.length ∧ k ≤ 24 ∧ pipesUp c k) (fun k => c.pipes.length - k) 0 ⟨by omega, by omega, fun j x h => by omega⟩ ?_ ?_
        · simp
        · rintro k ⟨hk, hk2, hp⟩
          simp
          by_cases h1 : k < c.pipes.length ∧ k < 24
          · obtain ⟨h1, h2⟩ := h1
            obtain ⟨x, e⟩ := get_lt h1
            have h2c : (k : Int) < 24 := by omega
            simp [h1]
            simp [h2c]
            simp [h1, e, -getElem?_pos, List.getElem?_cons_zero, List.getElem?_cons_succ]
            by_cases h4 : (60 : Int) < x.fr.name.length
            · have hno : ¬ fewOk c := fun hq => by have := (hq.2.1 k x h2 e).1; omega
              simp [h4]
              simp [XEndT, fewP_no hno]
            · simp [h4]
              simp [h1, e, -getElem?_pos, List.getElem?_cons_zero, List.getElem?_cons_succ]
              by_cases h5 : (60 : Int) < x.to.name.length
              · have hno : ¬ fewOk c := fun hq => by have := (hq.2.1 k x h2 e).2; omega
                simp [h5]
                simp [XEndT, fewP_no hno]
              · simp [h5]
                refine ⟨wrap_i64 (by omega) (by omega), k + 1, ⟨by omega, by omega, fun j y hj e2 => ?_⟩, by omega, ?_⟩
                · by_cases hjk : j = k
                  · subst hjk
                    rw [e] at e2
                    cases e2
                    omega
                  · exact hp j y (by omega) e2
                · simp
          · have hfq : fewPipes c := by
              intro j x hj e
              obtain ⟨hj2, _⟩ := List.getElem?_eq_some_iff.1 e
              exact hp j x (by omega) e
            clear hp
            have hfe : fewP c = decide (fewLens c) := by
              by_cases hq : fewLens c
              · simp [fewP, fewOk, hfp, hfq, hq]
              · simp [fewP, fewOk, hq]
            rw [hfe]
            by_cases h2 : k < c.pipes.length
            · have h3 : ¬ (k : Int) < 24 := by omega
              simp [h2]
              simp [h3]
              clear h2 h3 h1 hk2 hk
              clear hfe hfq hfp
              by_cases a1 : (c.parts.length : Int) ≤ 12
              · simp [a1]
                by_cases b1 : (c.pipes.length : Int) ≤ 24
                · simp [b1]
                  simp [XEndT]
                  unfold fewLens
                  omega
                · by_cases b2 : (256 : Int) < c.pipes.length
                  · by_cases b3 : (c.pipes.length : Int) < 512
                    · simp [b1]
                      simp [b2]
                      simp [b3]
                      simp [XEndT]
                      unfold fewLens
                      omega
                    · simp [b1]
                      simp [b2]
                      simp [b3]
                      simp [XEndT]
                      unfold fewLens
                      omega
                  · simp [b1]
                    simp [b2]
                    simp [XEndT]
                    unfold fewLens
                    omega
              · by_cases a2 : (64 : Int) < c.parts.length
                · by_cases a3 : (c.parts.length : Int) < 128
                  · simp [a1]
                    simp [a2]
                    simp [a3]
                    by_cases b1 : (c.pipes.length : Int) ≤ 24
                    · simp [b1]
                      simp [XEndT]
                      unfold fewLens
                      omega
                    · by_cases b2 : (256 : Int) < c.pipes.length
                      · by_cases b3 : (c.pipes.length : Int) < 512
                        · simp [b1]
                          simp [b2]
                          simp [b3]
                          simp [XEndT]
                          unfold fewLens
                          omega
                        · simp [b1]
                          simp [b2]
                          simp [b3]
                          simp [XEndT]
                          unfold fewLens
                          omega
                      · simp [b1]
                        simp [b2]
                        simp [XEndT]
                        unfold fewLens
                        omega
                  · simp [a1]
                    simp [a2]
                    simp [a3]
                    simp [XEndT]
                    unfold fewLens
                    omega
                · simp [a1]
                  simp [a2]
                  simp [XEndT]
                  unfold fewLens
                  omega
            · simp [h2]
              clear h2 h1 hk2 hk
              clear hfe hfq hfp
              by_cases a1 : (c.parts.length : Int) ≤ 12
              · simp [a1]
                by_cases b1 : (c.pipes.length : Int) ≤ 24
                · simp [b1]
                  simp [XEndT]
                  unfold fewLens
                  omega
                · by_cases b2 : (256 : Int) < c.pipes.length
                  · by_cases b3 : (c.pipes.length : Int) < 512
                    · simp [b1]
                      simp [b2]
                      simp [b3]
                      simp [XEndT]
                      unfold fewLens
                      omega
                    · simp [b1]
                      simp [b2]
                      simp [b3]
                      simp [XEndT]
                      unfold fewLens
                      omega
                  · simp [b1]
                    simp [b2]
                    simp [XEndT]
                    unfold fewLens
                    omega
              · by_cases a2 : (64 : Int) < c.parts.length
                · by_cases a3 : (c.parts.length : Int) < 128
                  · simp [a1]
                    simp [a2]
                    simp [a3]
                    by_cases b1 : (c.pipes.length : Int) ≤ 24
                    · simp [b1]
                      simp [XEndT]
                      unfold fewLens
                      omega
                    · by_cases b2 : (256 : Int) < c.pipes.length
                      · by_cases b3 : (c.pipes.length : Int) < 512
                        · simp [b1]
                          simp [b2]
                          simp [b3]
                          simp [XEndT]
                          unfold fewLens
                          omega
                        · simp [b1]
                          simp [b2]
                          simp [b3]
                          simp [XEndT]
                          unfold fewLens
                          omega
                      · simp [b1]
                        simp [b2]
                        simp [XEndT]
                        unfold fewLens
                        omega
                  · simp [a1]
                    simp [a2]
                    simp [a3]
                    simp [XEndT]
                    unfold fewLens
                    omega
                · simp [a1]
                  simp [a2]
                  simp [XEndT]
                  unfold fewLens
                  omega
      · simp [h2]
        clear h2 h1 hk2 hk
        refine XLoop.go [1] [0] 0 [] (fun _ => []) (fun _ (k : Nat) => [(4, .p (.int .i64 k))]) (fun _ _ => []) (fun k => k ≤ c.pipes.length ∧ k ≤ 24 ∧ pipesUp c k) (fun k => c.pipes.length - k) 0 ⟨by omega, by omega, fun j x h => by omega⟩ ?_ ?_
        · simp
        · rintro k ⟨hk, hk2, hp⟩
          simp
          by_cases h1 : k < c.pipes.length ∧ k < 24
          · obtain ⟨h1, h2⟩ := h1
            obtain ⟨x, e⟩ := get_lt h1
            have h2c : (k : Int) < 24 := by omega
            simp [h1]
            simp [h2c]
            simp [h1, e, -getElem?_pos, List.getElem?_cons_zero, List.getElem?_cons_succ]
            by_cases h4 : (60 : Int) < x.fr.name.length
            · have hno : ¬ fewOk c := fun hq => by have := (hq.2.1 k x h2 e).1; omega
              simp [h4]
              simp [XEndT, fewP_no hno]
            · simp [h4]
              simp [h1, e, -getElem?_pos, List.getElem?_cons_zero, List.getElem?_cons_succ]
              by_cases h5 : (60 : Int) < x.to.name.length
              · have hno : ¬ fewOk c := fun hq => by have := (hq.2.1 k x h2 e).2; omega
                simp [h5]
                simp [XEndT, fewP_no hno]
              · simp [h5]
                refine ⟨wrap_i64 (by omega) (by omega), k + 1, ⟨by omega, by omega, fun j y hj e2 => ?_⟩, by omega, ?_⟩
                · by_cases hjk : j = k
                  · subst hjk
                    rw [e] at e2
                    cases e2
                    omega
                  · exact hp j y (by omega) e2
                · simp
          · have hfq : fewPipes c := by
              intro j x hj e
              obtain ⟨hj2, _⟩ := List.getElem?_eq_some_iff.1 e
              exact hp j x (by omega) e
            clear hp
            have hfe : fewP c = decide (fewLens c) := by
              by_cases hq : fewLens c
              · simp [fewP, fewOk, hfp, hfq, hq]
              · simp [fewP, fewOk, hq]
            rw [hfe]
            by_cases h2 : k < c.pipes.length
            · have h3 : ¬ (k : Int) < 24 := by omega
              simp [h2]
              simp [h3]
              clear h2 h3 h1 hk2 hk
              clear hfe hfq hfp
              by_cases a1 : (c.parts.length : Int) ≤ 12
              · simp [a1]
                by_cases b1 : (c.pipes.length : Int) ≤ 24
                · simp [b1]
                  simp [XEndT]
                  unfold fewLens
                  omega
                · by_cases b2 : (256 : Int) < c.pipes.length
                  · by_cases b3 : (c.pipes.length : Int) < 512
                    · simp [b1]
                      simp [b2]
                      simp [b3]
                      simp [XEndT]
                      unfold fewLens
                      omega
                    · simp [b1]
                      simp [b2]
                      simp [b3]
                      simp [XEndT]
                      unfold fewLens
                      omega
                  · simp [b1]
                    simp [b2]
                    simp [XEndT]
                    unfold fewLens
                    omega
              · by_cases a2 : (64 : Int) < c.parts.length
                · by_cases a3 : (c.parts.length : Int) < 128
                  · simp [a1]
                    simp [a2]
                    simp [a3]
                    by_cases b1 : (c.pipes.length : Int) ≤ 24
                    · simp [b1]
                      simp [XEndT]
                      unfold fewLens
                      omega
                    · by_cases b2 : (256 : Int) < c.pipes.length
                      · by_cases b3 : (c.pipes.length : Int) < 512
                        · simp [b1]
                          simp [b2]
                          simp [b3]
                          simp [XEndT]
                          unfold fewLens
                          omega
                        · simp [b1]
                          simp [b2]
                          simp [b3]
                          simp [XEndT]
                          unfold fewLens
                          omega
                      · simp [b1]
                        simp [b2]
                        simp [XEndT]
                        unfold fewLens
                        omega
                  · simp [a1]
                    simp [a2]
                    simp [a3]
                    simp [XEndT]
                    unfold fewLens
                    omega
                · simp [a1]
                  simp [a2]
                  simp [XEndT]
                  unfold fewLens
                  omega
            · simp [h2]
              clear h2 h1 hk2 hk
              clear hfe hfq hfp
              by_cases a1 : (c.parts.length : Int) ≤ 12
              · simp [a1]
                by_cases b1 : (c.pipes.length : Int) ≤ 24
                · simp [b1]
                  simp [XEndT]
                  unfold fewLens
                  omega
                · by_cases b2 : (256 : Int) < c.pipes.length
                  · by_cases b3 : (c.pipes.length : Int) < 512
                    · simp [b1]
                      simp [b2]
                      simp [b3]
                      simp [XEndT]
                      unfold fewLens
                      omega
                    · simp [b1]
                      simp [b2]
                      simp [b3]
                      simp [XEndT]
                      unfold fewLens
                      omega
                  · simp [b1]
                    simp [b2]
                    simp [XEndT]
                    unfold fewLens
                    omega
              · by_cases a2 : (64 : Int) < c.parts.length
                · by_cases a3 : (c.parts.length : Int) < 128
                  · simp [a1]
                    simp [a2]
                    simp [a3]
                    by_cases b1 : (c.pipes.length : Int) ≤ 24
                    · simp [b1]
                      simp [XEndT]
                      unfold fewLens
                      omega
                    · by_cases b2 : (256 : Int) < c.pipes.length
                      · by_cases b3 : (c.pipes.length : Int) < 512
                        · simp [b1]
                          simp [b2]
                          simp [b3]
                          simp [XEndT]
                          unfold fewLens
                          omega
                        · simp [b1]
                          simp [b2]
                          simp [b3]
                          simp [XEndT]
                          unfold fewLens
                          omega
                      · simp [b1]
                        simp [b2]
                        simp [XEndT]
                        unfold fewLens
                        omega
                  · simp [a1]
                    simp [a2]
                    simp [a3]
                    simp [XEndT]
                    unfold fewLens
                    omega
                · simp [a1]
                  simp [a2]
                  simp [XEndT]
                  unfold fewLens
                  omega

end Go.Am
