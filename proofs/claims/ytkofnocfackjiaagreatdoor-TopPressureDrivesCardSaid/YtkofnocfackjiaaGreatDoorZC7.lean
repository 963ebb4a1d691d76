/- Lemmas and contracts for the proof of a statement of this seat. -/
import Derived.Test.YtkofnocfackjiaaGreatDoorZC6
import Derived.Test.YtkofnocfackjiaaGreatDoorZS2
import Derived.Test.YtkofnocfackjiaaGreatDoorZA6
set_option linter.unusedVariables false
set_option linter.unusedSimpArgs false
/- The plain law: the nets by roots are the nets of the reference. -/
namespace Go.Am
open Go Go.Proofs Go.Pn

theorem arStep_conn {ps : List Pipe} {p : Port} {x : Pipe} (hx : x ∈ ps) {a : List Port × Bool} (h : ∀ q ∈ a.1, Conn ps p q) : ∀ q ∈ (arStep a x).1, Conn ps p q := by
  obtain ⟨l, m⟩ := a
  intro q hq
  unfold arStep at hq
  by_cases h1 : x.fr ∈ l ∧ ¬ x.to ∈ l
  · simp only [h1, not_false_eq_true, and_self, if_true] at hq
    have h2 : ¬ (x.to ∈ l ++ [x.to] ∧ ¬ x.fr ∈ l ++ [x.to]) := fun h => h.2 (by simp [h1.1])
    rw [if_neg h2] at hq
    rcases List.mem_append.1 hq with hq | hq
    · exact h q hq
    · simp at hq; subst hq; exact .fwd _ x (h _ h1.1) hx
  · rw [if_neg h1] at hq
    by_cases h2 : x.to ∈ l ∧ ¬ x.fr ∈ l
    · rw [if_pos h2] at hq
      rcases List.mem_append.1 hq with hq | hq
      · exact h q hq
      · simp at hq; subst hq; exact .bwd _ x (h _ h2.1) hx
    · rw [if_neg h2] at hq
      exact h q hq
theorem arFold_conn {ps : List Pipe} {p : Port} : ∀ {qs : List Pipe} {a : List Port × Bool}, (∀ x ∈ qs, x ∈ ps) → (∀ q ∈ a.1, Conn ps p q) → ∀ q ∈ (qs.foldl arStep a).1, Conn ps p q
  | [], a, _, h => h
  | x :: qs, a, hs, h => arFold_conn (qs := qs) (fun y hy => hs y (List.mem_cons_of_mem _ hy)) (arStep_conn (hs x (List.mem_cons_self ..)) h)
theorem arIter_conn {c : Circuit} {p : Port} : ∀ {n : Nat}, ∀ q ∈ arIter c [p] n, Conn c.pipes p q
  | 0, q, h => by simp [arIter] at h; subst h; exact .refl _
  | n + 1, q, h => arFold_conn (fun _ h => h) (fun q hq => arIter_conn q hq) q h

theorem arStep_same {a : List Port × Bool} {x : Pipe} (h : (arStep a x).1 = a.1) : (x.fr ∈ a.1 → x.to ∈ a.1) ∧ (x.to ∈ a.1 → x.fr ∈ a.1) := by
  obtain ⟨l, m⟩ := a
  unfold arStep at h
  by_cases h1 : x.fr ∈ l ∧ ¬ x.to ∈ l
  · simp only [h1, not_false_eq_true, and_self, if_true] at h
    have h2 : ¬ (x.to ∈ l ++ [x.to] ∧ ¬ x.fr ∈ l ++ [x.to]) := fun h => h.2 (by simp [h1.1])
    rw [if_neg h2] at h
    have := congrArg List.length h
    simp at this
  · rw [if_neg h1] at h
    by_cases h2 : x.to ∈ l ∧ ¬ x.fr ∈ l
    · rw [if_pos h2] at h
      have := congrArg List.length h
      simp at this
    · exact ⟨fun h3 => Decidable.byContradiction fun h4 => h1 ⟨h3, h4⟩, fun h3 => Decidable.byContradiction fun h4 => h2 ⟨h3, h4⟩⟩
theorem arFold_same : ∀ {qs : List Pipe} {a : List Port × Bool}, (qs.foldl arStep a).1 = a.1 → ∀ x ∈ qs, (x.fr ∈ a.1 → x.to ∈ a.1) ∧ (x.to ∈ a.1 → x.fr ∈ a.1)
  | [], a, _, x, h => by cases h
  | y :: qs, a, he, x, h => by
    obtain ⟨e1, k1, _⟩ := arStep_keep (a := a) (x := y)
    obtain ⟨e2, k2, _⟩ := arFold_keep (ps := qs) (a := arStep a y)
    rw [List.foldl_cons, k2, k1] at he
    have hl := congrArg List.length he
    rw [List.length_append, List.length_append] at hl
    have e10 : e1 = [] := List.length_eq_zero_iff.1 (by omega)
    have e20 : e2 = [] := List.length_eq_zero_iff.1 (by omega)
    subst e10; subst e20
    rw [List.append_nil] at k1 k2
    rcases List.mem_cons.1 h with rfl | h
    · exact arStep_same k1
    · have := arFold_same (qs := qs) (a := arStep a y) k2 x h
      rwa [k1] at this

theorem arInv {c : Circuit} {p : Port} : ∀ {n : Nat}, ArInv c p n (arIter c [p] n)
  | 0 => ⟨rfl, by simp [arIter], by simp [arIter]⟩
  | n + 1 => (arInv (n := n)).next.1
theorem closure_stable {c : Circuit} {p : Port} : (arRound c (closure c p)).1 = closure c p := by
  have key : ∀ n, (∃ i, i ≤ n ∧ (arRound c (arIter c [p] i)).1 = arIter c [p] i) ∨ n + 2 ≤ (arIter c [p] (n + 1)).length := by
    intro n
    induction n with
    | zero =>
      have h := (arInv (c := c) (p := p) (n := 0)).next
      cases hf : (arRound c (arIter c [p] 0)).2 with
      | false => exact .inl ⟨0, by omega, h.2.2 hf⟩
      | true =>
        have := h.2.1 hf
        have e : (arIter c [p] 0).length = 1 := rfl
        exact .inr (by rw [e] at this; exact this)
    | succ n ih =>
      rcases ih with ⟨i, hi, h⟩ | ih
      · exact .inl ⟨i, by omega, h⟩
      · have h := (arInv (c := c) (p := p) (n := n + 1)).next
        cases hf : (arRound c (arIter c [p] (n + 1))).2 with
        | false => exact .inl ⟨n + 1, by omega, h.2.2 hf⟩
        | true =>
          have := h.2.1 hf
          exact .inr (by rw [arIter]; omega)
  rcases key (2 * c.pipes.length) with ⟨i, hi, h⟩ | h
  · have e : closure c p = arIter c [p] i := arIter_stable h _ (by omega)
    rw [e]; exact h
  · have := (arInv (c := c) (p := p) (n := 2 * c.pipes.length + 1)).le
    omega
theorem closure_iff {c : Circuit} {p q : Port} : q ∈ closure c p ↔ Conn c.pipes p q := by
  constructor
  · exact arIter_conn q
  · intro h
    have hs := arFold_same (a := (closure c p, false)) closure_stable
    induction h with
    | refl =>
      have h0 : ∀ n, p ∈ arIter c [p] n := by
        intro n
        induction n with
        | zero => simp [arIter]
        | succ n ih =>
          obtain ⟨e, k, _⟩ := arFold_keep (ps := c.pipes) (a := (arIter c [p] n, false))
          rw [arIter]
          show p ∈ (c.pipes.foldl arStep (arIter c [p] n, false)).1
          rw [k]
          exact List.mem_append.2 (.inl ih)
      exact h0 _
    | fwd x _ hm ih => exact (hs x hm).1 ih
    | bwd x _ hm ih => exact (hs x hm).2 ih

theorem nets_groups {c : Circuit} (hn : (allP c).Nodup) : groups (rootOf (upsOf c.pipes)) (allP c) = nets c := by
  obtain ⟨ok, hsp⟩ := ups_spec c.pipes
  rw [groups_first hn]
  have ha : ∀ p, (allP c).filter (fun q => decide (rootOf (upsOf c.pipes) q = rootOf (upsOf c.pipes) p)) = around c p := by
    intro p
    unfold around
    apply List.filter_congr
    intro q _
    rw [decide_eq_decide, hsp, closure_iff]
    exact ⟨Conn.symm, Conn.symm⟩
  simp only [ha]
  rfl

theorem kindPorts_nodup {k : Nat} (h : k < 14) : (kindPorts k).Nodup := (by decide : ∀ k, k < 14 → (kindPorts k).Nodup) k h
theorem allUp_part {c : Circuit} : ∀ {k : Nat} {q : Port}, q ∈ allUp c k → 0 ≤ q.part ∧ q.part < k
  | 0, q, h => by simp [allUp] at h
  | k + 1, q, h => by
    simp only [allUp] at h
    rcases List.mem_append.1 h with h | h
    · have := allUp_part h; omega
    · split at h
      · obtain ⟨s, _, rfl⟩ := List.mem_map.1 h
        simp; omega
      · cases h
theorem allUp_nodup {c : Circuit} (hk : kindsOk c) : ∀ {k : Nat}, (allUp c k).Nodup
  | 0 => by simp [allUp]
  | k + 1 => by
    simp only [allUp]
    rw [List.nodup_append]
    refine ⟨allUp_nodup hk, ?_, fun a ha b hb => ?_⟩
    · split
      · rename_i p hp
        have := hk p (List.mem_of_getElem? hp)
        have hn := kindPorts_nodup (k := p.kind.toNat) (by omega)
        rw [List.nodup_iff_pairwise_ne, List.pairwise_map]
        refine (List.nodup_iff_pairwise_ne.1 hn).imp fun {a b} hab h => hab ?_
        exact (Port.mk.inj h).2
      · exact List.nodup_nil
    · have h1 := allUp_part ha
      split at hb
      · obtain ⟨s, _, rfl⟩ := List.mem_map.1 hb
        rintro rfl
        simp at h1
      · cases hb
theorem allP_nodup {c : Circuit} (hk : kindsOk c) : (allP c).Nodup := allUp_nodup hk
theorem allP_le {c : Circuit} (hk : kindsOk c) (hn : c.parts.length ≤ 64) : (allP c).length ≤ 768 := by
  have := allUp_len hk (k := c.parts.length)
  unfold allP
  omega

end Go.Am
/- Contracts: package circuit: the first port of a net (nets$1). -/
namespace Go.Am
open Go Go.Proofs Go.Pn

def upsA (es : Ups) : List (AV × AV) := es.map fun e => (e.1.av, e.2.av)
theorem portAv_inj {p q : Port} (h : p.av = q.av) : p = q := by
  simp at h
  cases p; cases q; simp_all
theorem key56 : KeyOk Tryz.prog 82 IsIS := keyIS (by kernel_rfl) (fun w em n s => by kernel_rfl) (fun n m s t => by rw [eq82]; simp [Bool.decide_and])
theorem isPort (p : Port) : IsIS p.av := ⟨p.part, p.name, rfl⟩
theorem keysIn_map {α : Type} {l : List α} {f : α → Port} {g : α → AV} (p : Port) : KeysIn Tryz.prog 82 (l.map fun e => ((f e).av, g e)) p.av :=
  ⟨_, key56, isPort p, fun e he => by
    obtain ⟨a, _, rfl⟩ := List.mem_map.1 he
    exact isPort _⟩
theorem keysIn_ups (es : Ups) (p : Port) : KeysIn Tryz.prog 82 (upsA es) p.av := keysIn_map p
theorem assoc_ups {es : Ups} {p : Port} : assocA (upsA es) p.av = (upOf es p).map Port.av := by
  induction es with
  | nil => simp [upsA, assocA, upOf]
  | cons e es ih =>
    obtain ⟨a, b⟩ := e
    simp only [upsA, List.map_cons, upOf] at ih ⊢
    by_cases h : a = p
    · subst h
      simp [assocA]
    · have hne : a.av ≠ p.av := fun h2 => h (portAv_inj h2)
      rw [if_neg h, ← ih]
      unfold assocA
      rw [List.find?_cons_of_neg (by simpa using hne)]

@[simp] theorem look_ups {es : Ups} {p : Port} : (assocA (upsA es) (.agg [.p (.int .i64 p.part), .p (.str p.name)])) = (upOf es p).map Port.av := assoc_ups
@[simp] theorem keys_ups {es : Ups} {p : Port} : KeysIn Tryz.prog 82 (upsA es) (.agg [.p (.int .i64 p.part), .p (.str p.name)]) = True := eq_true (keysIn_ups es p)
def zport : Port := ⟨0, []⟩
theorem hit_ups {es : Ups} {p : Port} : hit true (.agg [.p (.int .i64 0), .p (.str [])]) ((upOf es p).map Port.av) = .tup [((upOf es p).getD zport).av, .p (.bool (upOf es p).isSome)] := by
  cases upOf es p <;> rfl
@[simp] theorem zs56 : zeroShape Tryz.prog 82 = some true := by kernel_rfl
@[simp] theorem hit_upsZ {es : Ups} {p : Port} : hit true (zeroV ⟨true, 2, 24, [.p (.int .i64 0), .p (.str [])], TD.struct [(0, 1, false), (1, 1, false)]⟩) ((upOf es p).map Port.av) = .tup [((upOf es p).getD zport).av, .p (.bool (upOf es p).isSome)] := hit_ups
theorem upsA_pure {es : Ups} {ρ : List Nat} : renE ρ (upsA es) = some (upsA es) := by
  unfold upsA
  induction es with
  | nil => rfl
  | cons e es ih => simp only [List.map_cons, renE, ih]; rfl

theorem g_root (es : Ups) (ok : UpsOk es) (p : Port) (b mb : Nat) (s : Store) (nx : Nat) (hb : b < nx) (hm : mb < nx) (hne : b ≠ mb) (hg : get s b = some (.cells 1 [[.map mb]])) (hgm : get s mb = some (.map (upsA es))) :
    Gives Tryz.prog GL 184 [p.av, .ptr b 1 0 0] s nx (rootOf es p).av [b, mb] [] nx := by
  refine Gives.mk_walkK (N := 22) (args := [p.av, .ptr 0 1 0 0]) [b, mb] [] [(0, some (.cells 1 [[.map 1]])), (1, some (.map (upsA es)))] [] 2 0 (rootOf es p).av (fun _ => []) (up1 := []) Tryz.func184 rfl rfl rfl (by simp) rfl (by simp [hg, hb, hm, hne, hgm, upsA_pure]; intro q hq; match q, hq with | 0, _ => simp | 1, _ => simp) (by simp) (by simp) (by simp) (by simp) rfl ?_
  simp
  refine XLoop.gor [1, 2, 3] [0, 1, 3] [0, 1, 2, 3, 4] (fun st => [0, 1, 2, 3] ++ nms [4] st) (fun (q : Port) => [(4, .ptr 4 2 0 0), (5, .p (.bool (upOf es q).isSome))]) (fun q => [(2, some (.cells 2 [q.row])), (4, some (.cells 2 [((upOf es q).getD zport).row]))]) (fun q => rootOf es q = rootOf es p) (fun q => upsBelow es q) p rfl ?_ ?_
  · simp [upsA_pure]
    try decide
  · intro q hq
    simp
    cases hu : upOf es q with
    | none =>
      simp
      exact ⟨by rw [← hq, root_self hu], by simp [upsA_pure], by decide⟩
    | some r =>
      simp
      exact ⟨r, by rw [← root_step ok hu]; exact hq, upsBelow_lt ok hu, rfl, ⟨rfl, rfl, by simp [upsA_pure]⟩, by decide⟩

end Go.Am
/- Contracts: package circuit: nets. -/
namespace Go.Am
open Go Go.Proofs Go.Pn

theorem set_ups {es : Ups} {a b : Port} (h : upOf es b = none) : setA (upsA es) (.agg [.p (.int .i64 b.part), .p (.str b.name)]) (.agg [.p (.int .i64 a.part), .p (.str a.name)]) = upsA (es ++ [(b, a)]) := by
  rw [setA_none]
  · simp [upsA]
  · intro e he
    obtain ⟨q, hq, rfl⟩ := List.mem_map.1 he
    intro h2
    have : q.1 = b := portAv_inj h2
    exact upOf_none h q.2 (by rw [← this]; exact hq)

theorem upsOf_snoc {l : List Pipe} {k : Nat} {x : Pipe} (e : l[k]? = some x) : upsOf (l.take (k + 1)) = joinUp (upsOf (l.take k)) x := by
  rw [take_snoc e, upsOf, List.foldl_append]; rfl

theorem cmpPort_gt {a b : Port} : 0 < cmpPort a b ↔ portLt b a = true := by
  constructor
  · intro h
    cases h2 : portLt b a with
    | true => rfl
    | false =>
      exfalso
      cases h3 : portLt a b with
      | true => have := cmpPort_lt.2 h3; omega
      | false =>
        have := portLt_total h3 h2
        have := cmpPort_eq.2 this
        omega
  · intro h
    have h1 : ¬ cmpPort a b < 0 := fun h2 => by
      have := portLt_asymm (cmpPort_lt.1 h2)
      rw [h] at this; cases this
    have h3 : cmpPort a b ≠ 0 := fun h2 => by
      have := cmpPort_eq.1 h2
      subst this
      rw [portLt_irrefl] at h; cases h
    omega

def posIn : List Port → Port → Option Nat
  | [], _ => none
  | k :: ks, r => if k = r then some 0 else (posIn ks r).map (· + 1)
def atFrom : Nat → List Port → List (AV × AV)
  | _, [] => []
  | n, k :: ks => (k.av, .p (.int .i64 n)) :: atFrom (n + 1) ks
theorem posIn_none : ∀ {ks : List Port} {r : Port}, posIn ks r = none ↔ r ∉ ks
  | [], r => by simp [posIn]
  | k :: ks, r => by
    have ih := posIn_none (ks := ks) (r := r)
    by_cases h : k = r
    · simp [posIn, h]
    · simp [posIn, h, ih, Ne.symm h]
theorem posIn_some : ∀ {ks : List Port} {r : Port} {j : Nat}, posIn ks r = some j → ks[j]? = some r
  | [], r, j, h => by simp [posIn] at h
  | k :: ks, r, j, h => by
    simp only [posIn] at h
    by_cases e : k = r
    · rw [if_pos e] at h; cases h; simp [e]
    · rw [if_neg e] at h
      obtain ⟨i, hi, rfl⟩ := Option.map_eq_some_iff.1 h
      simpa using posIn_some hi
theorem posIn_append {ks : List Port} {r : Port} (h : r ∉ ks) : posIn (ks ++ [r]) r = some ks.length := by
  induction ks with
  | nil => simp [posIn]
  | cons k ks ih =>
    simp at h
    simp [posIn, Ne.symm h.1, ih h.2]
theorem assoc_at : ∀ {ks : List Port} {n : Nat} {r : Port}, assocA (atFrom n ks) r.av = (posIn ks r).map fun j => AV.p (.int .i64 ((n + j : Nat) : Int))
  | [], n, r => by simp [atFrom, assocA, posIn]
  | k :: ks, n, r => by
    have ih := assoc_at (ks := ks) (n := n + 1) (r := r)
    simp only [atFrom, posIn]
    by_cases h : k = r
    · subst h
      simp [assocA]
    · have hne : k.av ≠ r.av := fun h2 => h (portAv_inj h2)
      rw [if_neg h]
      unfold assocA at ih ⊢
      rw [List.find?_cons_of_neg (by simpa using hne), ih]
      cases posIn ks r with
      | none => rfl
      | some j => simp; omega
theorem set_at : ∀ {ks : List Port} {n : Nat} {r : Port}, r ∉ ks → setA (atFrom n ks) r.av (.p (.int .i64 ((n + ks.length : Nat) : Int))) = atFrom n (ks ++ [r])
  | [], n, r, _ => by simp [atFrom, setA]
  | k :: ks, n, r, h => by
    simp at h
    have ih := set_at (ks := ks) (n := n + 1) (r := r) h.2
    have hne : k.av ≠ r.av := fun h2 => h.1 (portAv_inj h2).symm
    have e : n + (k :: ks).length = n + 1 + ks.length := by simp; omega
    rw [e]
    simp only [List.cons_append, atFrom, setA, if_neg hne]
    rw [← ih]
theorem at_pure {ρ : List Nat} : ∀ {ks : List Port} {n : Nat}, renE ρ (atFrom n ks) = some (atFrom n ks)
  | [], n => rfl
  | k :: ks, n => by simp only [atFrom, renE, at_pure]; rfl
theorem at_keys : ∀ {ks : List Port} {n : Nat}, ∀ e ∈ atFrom n ks, IsIS e.1
  | [], n, e, h => by simp [atFrom] at h
  | k :: ks, n, e, h => by
    simp only [atFrom, List.mem_cons] at h
    rcases h with rfl | h
    · exact isPort k
    · exact at_keys e h

def outRows : Nat → List (List Port) → List (List AV)
  | _, [] => []
  | n, g :: gs => [.acc n 2 g.length] :: outRows (n + 1) gs
def netBlks : Nat → List (List Port) → Store
  | _, [] => []
  | n, g :: gs => (n, accB 2 (g.map Port.row)) :: netBlks (n + 1) gs
theorem outRows_len : ∀ {gs : List (List Port)} {n : Nat}, (outRows n gs).length = gs.length
  | [], n => rfl
  | g :: gs, n => by simp [outRows, outRows_len]
theorem outRows_one : ∀ {gs : List (List Port)} {n : Nat}, ∀ r ∈ outRows n gs, r.length = 1
  | [], n, r, h => by simp [outRows] at h
  | g :: gs, n, r, h => by
    simp only [outRows, List.mem_cons] at h
    rcases h with rfl | h
    · rfl
    · exact outRows_one r h
theorem outRows_get : ∀ {gs : List (List Port)} {n k : Nat} {g : List Port}, gs[k]? = some g → (outRows n gs)[k]? = some [.acc (n + k) 2 g.length]
  | [], n, k, g, h => by simp at h
  | x :: gs, n, 0, g, h => by simp at h; subst h; simp [outRows]
  | x :: gs, n, k + 1, g, h => by
    have := outRows_get (gs := gs) (n := n + 1) (k := k) (g := g) (by simpa using h)
    simp [outRows, this]; omega
theorem netBlks_get : ∀ {gs : List (List Port)} {n k : Nat} {g : List Port} {s : Store}, gs[k]? = some g → get (netBlks n gs ++ s) (n + k) = accB 2 (g.map Port.row)
  | [], n, k, g, s, h => by simp at h
  | x :: gs, n, 0, g, s, h => by simp at h; subst h; simp [netBlks, get]
  | x :: gs, n, k + 1, g, s, h => by
    have := netBlks_get (gs := gs) (n := n + 1) (k := k) (g := g) (s := s) (by simpa using h)
    simp only [netBlks, List.cons_append, get]
    rw [if_neg (by omega), ← this]
    congr 1
    omega
theorem netBlks_lo : ∀ {gs : List (List Port)} {n b : Nat} {s : Store}, b < n → get (netBlks n gs ++ s) b = get s b
  | [], n, b, s, h => rfl
  | x :: gs, n, b, s, h => by
    simp only [netBlks, List.cons_append, get]
    rw [if_neg (by omega)]
    exact netBlks_lo (by omega)
def addNet (f : Port → Port) (ks : List Port) (gs : List (List Port)) (p : Port) : List (List Port) := match posIn ks (f p) with
  | none => gs ++ [[p]]
  | some k => gs.set k ((gs[k]?).getD [] ++ [p])
theorem groups_len {f : Port → Port} {l : List Port} : (groups f l).length = (rootsIn f l).length := by simp [groups]
theorem groups_snoc {f : Port → Port} {l : List Port} {p : Port} : groups f (l ++ [p]) = addNet f (rootsIn f l) (groups f l) p := by
  unfold addNet
  have hnd := @rootsIn_nodup f l
  cases h : posIn (rootsIn f l) (f p) with
  | none =>
    have h1 := posIn_none.1 h
    simp only
    rw [groups, rootsIn_snoc, if_neg h1, List.map_append, groups]
    congr 1
    · apply List.map_congr_left
      intro r hr
      have : f p ≠ r := by rintro rfl; exact h1 hr
      rw [List.filter_append]
      simp [this]
    · rw [List.map_cons, List.map_nil, List.filter_append]
      have : l.filter (fun q => decide (f q = f p)) = [] := by
        rw [List.filter_eq_nil_iff]
        intro q hq
        simp
        intro e
        exact h1 (rootsIn_mem.2 ⟨q, hq, e⟩)
      rw [this]
      simp
  | some k =>
    have h1 := posIn_some h
    simp only
    rw [groups, rootsIn_snoc, if_pos (List.mem_of_getElem? h1), groups]
    apply List.ext_getElem?
    intro i
    rw [List.getElem?_map, List.getElem?_set]
    by_cases hik : k = i
    · subst hik
      have hk : k < (rootsIn f l).length := (List.getElem?_eq_some_iff.1 h1).1
      rw [if_pos rfl, h1]
      have hk2 := (List.getElem?_eq_some_iff.1 h1).2
      simp [hk, h1, List.filter_append, hk2]
    · rw [if_neg hik, List.getElem?_map]
      cases hi : (rootsIn f l)[i]? with
      | none => rfl
      | some r =>
        simp only [Option.map_some]
        congr 1
        rw [List.filter_append]
        have : f p ≠ r := by
          rintro rfl
          obtain ⟨a1, e1⟩ := List.getElem?_eq_some_iff.1 h1
          obtain ⟨a2, e2⟩ := List.getElem?_eq_some_iff.1 hi
          exact hik ((List.getElem_inj hnd).1 (e1.trans e2.symm))
        simp [this]

theorem blksOk_nets {ρ : List Nat} {s' : Store} : ∀ {gs : List (List Port)} {n : Nat}, (∀ (j : Nat) g, gs[j]? = some g → blkOk ρ s' (n + j) (accB 2 (g.map Port.row))) → blksOk ρ s' (netBlks n gs)
  | [], n, _ => trivial
  | g :: gs, n, h => ⟨h 0 g rfl, blksOk_nets fun j g hj => by
      have := h (j + 1) g (by simpa using hj)
      rwa [← Nat.add_assoc, Nat.add_right_comm] at this⟩
theorem blkOk_of {ρ : List Nat} {s' : Store} {b b' : Nat} {x y z : ABlk} (h1 : ρ[b]? = some b') (h2 : renB ρ x = some z) (h3 : get s' b' = some y) (h4 : wknB y z) : blkOk ρ s' b (some x) := by
  rw [blkOk_some, h1, withSome_some, h2, withSome_some, h3, withSome_some]
  exact h4
theorem outRows_at {gs : List (List Port)} {n k : Nat} {row : List AV} (h : (outRows n gs)[k]? = some row) : ∃ g, gs[k]? = some g ∧ row = [.acc (n + k) 2 g.length] := by
  have hk : k < gs.length := by
    have := (List.getElem?_eq_some_iff.1 h).1
    rwa [outRows_len] at this
  obtain ⟨g, hg⟩ := get_lt hk
  rw [outRows_get hg] at h
  cases h
  exact ⟨g, hg, rfl⟩
theorem netSub {t' t : Slots} {s' rest : Store} {nx' O N k : Nat} {gs : List (List Port)} {ks : List Port} (hO : O = 4 ∨ 1000 < O) (hN : 1000 < N) (hON : O ≠ N) (hm : gs.length ≤ 900) (hsl : slotsOk (netNames O N k gs.length) t' t)
    (h3 : get s' 3 = some (.map (atFrom 0 ks))) (h4 : blkOk (netNames O N k gs.length) s' 4 (accB 1 (outRows 5 gs))) (hn : ∀ (j : Nat) g, gs[j]? = some g → blkOk (netNames O N k gs.length) s' (5 + j) (accB 2 (g.map Port.row)))
    (hr : blksOk (netNames O N k gs.length) s' rest) :
    SubX (netNames O N k gs.length) 0 ⟨t', s', nx'⟩ ⟨t, (3, some (.map (atFrom 0 ks))) :: (4, accB 1 (outRows 5 gs)) :: (netBlks 5 gs ++ rest), 1004⟩ := by
  refine ⟨hsl, ⟨?_, h4, blksOk_append (blksOk_nets hn) hr⟩, netNames_nodup hO hN hON hm, by show _ ≤ 1004; rw [netNames_len]; omega, rfl⟩
  exact blkOk_of (netNames_lo (by omega)) (by simp [renB, at_pure]) h3 (.inl rfl)

@[simp] theorem look_at {ks : List Port} {r : Port} : assocA (atFrom 0 ks) (.agg [.p (.int .i64 r.part), .p (.str r.name)]) = (posIn ks r).map fun (j : Nat) => AV.p (.int .i64 (j : Int)) := by
  have h := @assoc_at ks 0 r
  simp only [Nat.zero_add] at h
  exact h
@[simp] theorem keys_at {ks : List Port} {r : Port} : KeysIn Tryz.prog 82 (atFrom 0 ks) (.agg [.p (.int .i64 r.part), .p (.str r.name)]) = True := eq_true ⟨_, key56, isPort r, at_keys⟩
@[simp] theorem zs3 : zeroShape Tryz.prog 3 = some false := by kernel_rfl
@[simp] theorem hit_ts {z v : AV} : hit true z (some v) = .tup [v, .p (.bool true)] := (rfl)
@[simp] theorem hit_tn {z : AV} : hit true z none = .tup [z, .p (.bool false)] := (rfl)
@[simp] theorem hit_fs {z v : AV} : hit false z (some v) = v := (rfl)
@[simp] theorem zeroV_int {b s : Nat} {td : TD} {x : AV} : zeroV ⟨false, s, b, [x], td⟩ = x := (rfl)

theorem rootsIn_le {f : Port → Port} {l : List Port} : (rootsIn f l).length ≤ l.length := by
  have := nodup_le (l := rootsIn f l) (m := l.map f) rootsIn_nodup fun x hx => by
    obtain ⟨p, hp, rfl⟩ := rootsIn_mem.1 hx
    exact List.mem_map_of_mem hp
  simpa using this


theorem c_circuit_nets (c : Circuit) (hc : checkP c = 0) : Pure Tryz.prog GL 115 [c.av] (.p (.lst 1 ((nets c).map Ports.enc))) := by
  have hp := check_parts hc
  refine Pure.of_walkZ (N := 88) Tryz.func115 rfl rfl rfl (by simp) rfl ?_
  simp
  refine XLoop.go [1, 3, 4, 19, 20] [0, 2] 0 [] (fun _ => []) (fun _ (j : Nat) => [(21, .p (.int .i64 j))]) (fun _ j => [(1, some (.map (upsA (upsOf (c.pipes.take j)))))]) (fun j => j ≤ c.pipes.length) (fun j => c.pipes.length - j) 0 (by omega) ?_ ?_
  · simp [upsOf, upsA]
    decide
  · intro j hj
    have hsn := fun (x : Pipe) (e : c.pipes[j]? = some x) => upsOf_snoc e
    obtain ⟨ok, _⟩ := ups_spec (c.pipes.take j)
    have hend : j = c.pipes.length → upsOf (c.pipes.take j) = upsOf c.pipes := fun h => by rw [h, List.take_length]
    generalize upsOf (c.pipes.take j) = es at hsn ok hend
    simp
    refine xif_split (fun h => ?_) (fun h => ?_)
    · simp at h
      obtain ⟨x, e⟩ := get_lt h
      have hsn := hsn x e
      simp [h, e, -getElem?_pos, List.getElem?_cons_zero, List.getElem?_cons_succ]
      refine XDraw.intro (by kernel_rfl) ?_
      simp
      refine xcall_gives (g_root es ok x.fr 2 1 _ _ (by omega) (by omega) (by decide) (by simp [get]) (by simp [get])) ?_
      simp
      refine xcall_gives (g_root es ok x.to 2 1 _ _ (by omega) (by omega) (by decide) (by simp [get]) (by simp [get])) ?_
      have hra := root_none ok x.fr
      have hrb := root_none ok x.to
      have hju : joinUp es x = if rootOf es x.fr = rootOf es x.to then es else if portLt (rootOf es x.to) (rootOf es x.fr) then es ++ [(rootOf es x.fr, rootOf es x.to)] else es ++ [(rootOf es x.to, rootOf es x.fr)] := rfl
      generalize rootOf es x.fr = a at *
      generalize rootOf es x.to = b at *
      simp
      refine ⟨.of (by kernel_rfl), ?_⟩
      refine xcall_pure (c_circuit_compare a b) ?_
      simp
      refine xif_split (fun h2 => ?_) (fun h2 => ?_)
      · simp at h2
        simp
        have h3 := cmpPort_gt.1 h2
        have h4 : a ≠ b := by rintro rfl; rw [portLt_irrefl] at h3; cases h3
        rw [if_neg h4, if_pos h3] at hju
        simp [Ne.symm h4]
        rw [set_ups hra]
        refine ⟨wrap_i64 (by omega) (by omega), j + 1, by omega, by omega, by simp, ?_⟩
        rw [hsn, hju]
        simp [upsA_pure]
        decide
      · simp at h2
        simp
        have h3 : portLt b a = false := by
          cases h5 : portLt b a with
          | false => rfl
          | true => have := cmpPort_gt.2 h5; omega
        by_cases h4 : a = b
        · rw [if_pos h4] at hju
          simp [h4]
          refine ⟨wrap_i64 (by omega) (by omega), j + 1, by omega, by omega, by simp, ?_⟩
          rw [hsn, hju]
          simp [upsA_pure]
          decide
        · rw [if_neg h4, h3] at hju
          simp at hju
          simp [h4]
          rw [set_ups hrb]
          refine ⟨wrap_i64 (by omega) (by omega), j + 1, by omega, by omega, by simp, ?_⟩
          rw [hsn, hju]
          simp [upsA_pure]
          decide
    · simp at h
      have hj2 : j = c.pipes.length := by omega
      have hes := hend hj2
      subst hes
      simp
      refine xcall_pure (c_circuit_all c hp.1 (by omega)) ?_
      obtain ⟨f, hf⟩ : ∃ f, f = rootOf (upsOf c.pipes) := ⟨_, rfl⟩
      obtain ⟨l, hl⟩ : ∃ l, l = allP c := ⟨_, rfl⟩
      have hll : l.length ≤ 768 := by rw [hl]; exact allP_le hp.1 hp.2.1
      rw [← hl]
      simp
      refine XLoop.goe [4, 10, 48, 49] [0, 1, 2] 1000 (fun _ (i : Nat) => [(9, .acc 4 1 (groups f (l.take i)).length), (50, .p (.int .i64 i))]) (fun _ i => (3, some (.map (atFrom 0 (rootsIn f (l.take i))))) :: (4, accB 1 (outRows 5 (groups f (l.take i)))) :: netBlks 5 (groups f (l.take i))) (fun i => i ≤ l.length) (fun i => l.length - i) 0 (by omega) ⟨[0, 1, 2, 3, 4], ?_⟩ ?_
      · simp [groups, rootsIn, outRows, netBlks, atFrom, upsA_pure]
      · intro i hi
        have hsn := fun (p : Port) (e : l[i]? = some p) => @groups_snoc f (l.take i) p
        have hrn := fun (p : Port) (e : l[i]? = some p) => @rootsIn_snoc f (l.take i) p
        have htk := fun (p : Port) (e : l[i]? = some p) => take_snoc e
        have hgl := @groups_len f (l.take i)
        have hrl : (rootsIn f (l.take i)).length ≤ i := by
          have := @rootsIn_le f (l.take i)
          simp at this
          omega
        have hgm : ∀ g ∈ groups f (l.take i), g.length ≤ l.length := by
          intro g hg
          obtain ⟨r, _, rfl⟩ := List.mem_map.1 hg
          have := List.length_filter_le (fun p => decide (f p = r)) (l.take i)
          simp only [List.length_take] at this
          omega
        have hend : i = l.length → groups f (l.take i) = groups f l := fun h => by rw [h, List.take_length]
        generalize groups f (l.take i) = gs at hsn hgl hend hgm
        generalize rootsIn f (l.take i) = ks at hsn hrn hgl hrl
        have lo0 : ∀ s, get (netBlks 5 gs ++ s) 0 = get s 0 := fun s => netBlks_lo (by omega)
        have lo1 : ∀ s, get (netBlks 5 gs ++ s) 1 = get s 1 := fun s => netBlks_lo (by omega)
        have lo2 : ∀ s, get (netBlks 5 gs ++ s) 2 = get s 2 := fun s => netBlks_lo (by omega)
        simp
        refine xif_split (fun h2 => ?_) (fun h2 => ?_)
        · simp at h2
          obtain ⟨x, e⟩ := get_lt h2
          have hsn := hsn x e
          have hrn := hrn x e
          have htk := htk x e
          simp [h2, e, -getElem?_pos, List.getElem?_cons_zero, List.getElem?_cons_succ]
          refine xcall_gives (g_root (upsOf c.pipes) ok x 2 1 _ _ (by omega) (by omega) (by decide) (by simp [get, lo2]) (by simp [get, lo1])) ?_
          rw [← hf]
          simp
          cases hpos : posIn ks (f x) with
          | some k =>
            have hks := posIn_some hpos
            have hk1 : k < ks.length := (List.getElem?_eq_some_iff.1 hks).1
            obtain ⟨g, hg⟩ := get_lt (xs := gs) (k := k) (by omega)
            have hog := outRows_get (n := 5) hg
            have hng : ∀ s, get (netBlks 5 gs ++ s) (5 + k) = accB 2 (g.map Port.row) := fun s => netBlks_get hg
            have hol := @outRows_len gs 5
            have n1 : k < gs.length := by omega
            have n2 : gs ≠ [] := by rintro rfl; simp at n1
            have n3 : ¬ 1004 = 5 + k := by omega
            have n4 : ¬ 1005 = 5 + k := by omega
            have n5 : ¬ 1006 = 5 + k := by omega
            have n6 : ¬ 1007 = 5 + k := by omega
            have n7 : ¬ 3 = 5 + k := by omega
            have n8 : ¬ 4 = 5 + k := by omega
            simp [hpos]
            refine XDraw.intro (by kernel_rfl) ?_
            have n9 : ¬ outRows 5 gs = [] := fun h => by
              rw [h] at hol
              simp at hol
              omega
            have n13 : ¬ 5 + k = 4 := by omega
            have n14 : ¬ 5 + k = 3 := by omega
            have n15 : ¬ 5 + k = 2 := by omega
            have n16 : ¬ 5 + k = 1 := by omega
            have n17 : ¬ 5 + k = 0 := by omega
            have n10 : 5 + k < 1007 := by omega
            have n11 : ¬ 5 + k = 1006 := by omega
            have hgle : g.length ≤ l.length := hgm g (List.mem_of_getElem? hg)
            have n12 : (g.length + 1) * 24 ≤ 35184372088832 := by omega
            simp [hpos, hog, hng, hol, n1, n3, n4, n5, n6, n7, n8, n9, n10, n11, n12, n13, -getElem?_pos, List.getElem?_cons_zero, List.getElem?_cons_succ, -SubX]
            refine ⟨Bears.swap 999999 (5 + k) (fps' := [([], []), ([], []), ([1005], []), ([3], []), ([], []), ([], []), ([1005], []), ([3], []), ([], []), ([4], []), ([1004], []), ([], [1006]), ([999999, 1006], [1007, 999999]), ([], []), ([4], [4])]) (by simp [renF, swp, n3, n4, n5, n6, n7, n8]) (by kernel_rfl), wrap_i64 (by omega) (by omega), i + 1, by omega, by omega, netNames 4 1007 k gs.length, ?_⟩
            have hga : groups f (l.take (i + 1)) = gs.set k (g ++ [x]) := by rw [htk, hsn, addNet, hpos]; simp [hg]
            have hra : rootsIn f (l.take (i + 1)) = ks := by rw [htk, hrn, if_pos (List.mem_of_getElem? hks)]
            have hgsl : (gs.set k (g ++ [x])).length = gs.length := by simp
            rw [hga, hra, ← hgsl]
            refine netSub (.inl rfl) (by omega) (by decide) (by rw [hgsl]; omega) ?_ ?_ ?_ ?_ ?_
            · simp [netNames_lo, netNames_four]
            · simp [n14]
            · have hrow : outRows 5 (gs.set k (g ++ [x])) ≠ [] := fun h => by
                have h9 := @outRows_len (gs.set k (g ++ [x])) 5
                rw [h] at h9
                simp at h9
                omega
              rw [show accB 1 (outRows 5 (gs.set k (g ++ [x]))) = some (.cells 1 (outRows 5 (gs.set k (g ++ [x])))) from if_neg hrow]
              refine blkOk_of netNames_four (z := .cells 1 ((outRows 5 gs).set k [AV.acc 1007 2 (g.length + 1)])) ?_ (by simp [get]) (.inl rfl)
              simp only [renB, Option.map_eq_some_iff]
              refine ⟨_, renR_of ?_ ?_, rfl⟩
              · simp [outRows_len]
              · intro m row hrow
                obtain ⟨q, hq, rfl⟩ := outRows_at hrow
                have hm : m < gs.length := by have := (List.getElem?_eq_some_iff.1 hq).1; rwa [hgsl] at this
                by_cases hmk : k = m
                · subst hmk
                  rw [List.getElem?_set_self (by omega)] at hq
                  cases hq
                  refine ⟨[AV.acc 1007 2 (g.length + 1)], by rw [List.getElem?_set_self (by rw [hol]; omega)], ?_⟩
                  simp [renL, renA, netNames_at hm]
                · rw [List.getElem?_set_ne hmk] at hq
                  refine ⟨[AV.acc (5 + m) 2 q.length], by rw [List.getElem?_set_ne hmk]; exact outRows_get hq, ?_⟩
                  simp [renL, renA, netNames_at hm, Ne.symm hmk]
            · intro m q hq
              have hm : m < gs.length := by have := (List.getElem?_eq_some_iff.1 hq).1; rwa [hgsl] at this
              refine of_eq_true (blkOk_acc ?_ (renR_map fun _ => rfl))
              rw [hgsl, netNames_at hm]
              by_cases hmk : k = m
              · subst hmk
                rw [List.getElem?_set_self (by omega)] at hq
                cases hq
                simp
              · rw [List.getElem?_set_ne hmk] at hq
                have m1 : ¬ 1004 = 5 + m := by omega
                have m2 : ¬ 1005 = 5 + m := by omega
                have m3 : ¬ 1006 = 5 + m := by omega
                have m4 : ¬ 1007 = 5 + m := by omega
                have m5 : ¬ 3 = 5 + m := by omega
                have m6 : ¬ 4 = 5 + m := by omega
                have m7 : ¬ 5 + k = 5 + m := by omega
                simp [Ne.symm hmk, m1, m2, m3, m4, m5, m6, hmk, netBlks_get hq]
            · simp [netNames_lo, lo0, lo1, lo2, upsA_pure, n15, n16, n17]
          | none =>
            have hkn := posIn_none.1 hpos
            have hol := @outRows_len gs 5
            have hpos2 := posIn_append hkn
            have hset : setA (atFrom 0 ks) (.agg [.p (.int .i64 (f x).part), .p (.str (f x).name)]) (.p (.int .i64 gs.length)) = atFrom 0 (ks ++ [f x]) := by
              have := set_at (n := 0) hkn
              rw [Nat.zero_add, ← hgl] at this
              exact this
            have hone := @outRows_one gs 5
            have hlast : (outRows 5 gs ++ [[AV.nils]])[gs.length]? = some [AV.nils] := by
              rw [List.getElem?_append_right (by omega), hol]; simp
            simp [hpos, hset]
            refine ⟨by omega, hol, hone, XDraw.intro (by kernel_rfl) ?_⟩
            rw [hgl] at hlast hol
            simp [hpos2, hol, hlast, hgl, -getElem?_pos, List.getElem?_cons_zero, List.getElem?_cons_succ, -SubX]
            have hga : groups f (l.take (i + 1)) = gs ++ [[x]] := by rw [htk, hsn, addNet, hpos]
            have hra : rootsIn f (l.take (i + 1)) = ks ++ [f x] := by rw [htk, hrn, if_neg hkn]
            have hgsl : (gs ++ [[x]]).length = gs.length + 1 := by simp
            refine ⟨by omega, .of (by kernel_rfl), wrap_i64 (by omega) (by omega), i + 1, by omega, by omega, netNames 1007 1009 gs.length (gs ++ [[x]]).length, ?_⟩
            rw [hga, hra]
            refine netSub (.inr (by omega)) (by omega) (by decide) (by rw [hgsl]; omega) ?_ ?_ ?_ ?_ ?_
            · simp [netNames_lo, netNames_four, hgl]
            · simp
            · rw [hgsl]
              have hrow : outRows 5 (gs ++ [[x]]) ≠ [] := fun h => by
                have h9 := @outRows_len (gs ++ [[x]]) 5
                rw [h] at h9
                simp at h9
              rw [show accB 1 (outRows 5 (gs ++ [[x]])) = some (.cells 1 (outRows 5 (gs ++ [[x]]))) from if_neg hrow]
              refine blkOk_of netNames_four (z := .cells 1 (outRows 5 gs ++ [[AV.acc 1009 2 1]])) (y := .cells 1 (outRows 5 gs ++ [[AV.ref 1009 2 0 1 none]])) ?_ (by simp [get]) (.inr ⟨1, _, _, rfl, rfl, ?_⟩)
              · simp only [renB, Option.map_eq_some_iff]
                refine ⟨_, renR_of ?_ ?_, rfl⟩
                · simp [outRows_len]
                · intro m row hrow
                  obtain ⟨q, hq, rfl⟩ := outRows_at hrow
                  have hm : m < (gs ++ [[x]]).length := (List.getElem?_eq_some_iff.1 hq).1
                  rw [hgsl] at hm
                  by_cases hmk : m < gs.length
                  · rw [List.getElem?_append_left hmk] at hq
                    refine ⟨[AV.acc (5 + m) 2 q.length], by rw [List.getElem?_append_left (by rw [outRows_len]; exact hmk)]; exact outRows_get hq, ?_⟩
                    have m9 : m ≠ gs.length := by omega
                    simp [renL, renA, netNames_at hm, m9]
                  · have m9 : m = gs.length := by omega
                    subst m9
                    rw [List.getElem?_append_right (by omega)] at hq
                    simp at hq
                    subst hq
                    refine ⟨[AV.acc 1009 2 1], by rw [List.getElem?_append_right (by rw [outRows_len]; omega)]; simp [outRows_len], ?_⟩
                    simp [renL, renA, netNames_at hm]
              · refine wknR_of (by simp) fun m row hrow => ?_
                by_cases hmk : m < gs.length
                · rw [List.getElem?_append_left (by rw [outRows_len]; exact hmk)] at hrow ⊢
                  exact ⟨row, hrow, wknL_refl _⟩
                · have hm : m < (outRows 5 gs ++ [[AV.ref 1009 2 0 1 none]]).length := (List.getElem?_eq_some_iff.1 hrow).1
                  simp [outRows_len] at hm
                  have m9 : m = gs.length := by omega
                  subst m9
                  rw [List.getElem?_append_right (by rw [outRows_len]; omega)] at hrow
                  simp [outRows_len] at hrow
                  subst hrow
                  refine ⟨[AV.acc 1009 2 1], by rw [List.getElem?_append_right (by rw [outRows_len]; omega)]; simp [outRows_len], ?_⟩
                  simp [wknL]
            · intro m q hq
              have hm : m < (gs ++ [[x]]).length := (List.getElem?_eq_some_iff.1 hq).1
              refine of_eq_true (blkOk_acc ?_ (renR_map fun _ => rfl))
              rw [netNames_at hm]
              by_cases hmk : m < gs.length
              · rw [List.getElem?_append_left hmk] at hq
                have m0 : m ≠ gs.length := by omega
                have m1 : ¬ 1004 = 5 + m := by omega
                have m2 : ¬ 1005 = 5 + m := by omega
                have m3 : ¬ 1006 = 5 + m := by omega
                have m4 : ¬ 1007 = 5 + m := by omega
                have m5 : ¬ 3 = 5 + m := by omega
                have m6 : ¬ 4 = 5 + m := by omega
                have m7 : ¬ 1008 = 5 + m := by omega
                have m8 : ¬ 1009 = 5 + m := by omega
                simp [m0, m1, m2, m3, m4, m5, m6, m7, m8, netBlks_get hq]
              · have m9 : m = gs.length := by simp at hm; omega
                subst m9
                rw [List.getElem?_append_right (by omega)] at hq
                simp at hq
                subst hq
                simp
            · simp [netNames_lo, lo0, lo1, lo2, upsA_pure]
        · simp at h2
          have hil : i = l.length := by omega
          have hge : gs = nets c := by rw [hend hil, hf, hl]; exact nets_groups (allP_nodup hp.1)
          simp
          refine ⟨.inl rfl, [.acc 4 1 gs.length], by simp, ?_⟩
          rw [← hge]
          refine .one _ _ (.acc 4 1 gs.length (outRows 5 gs) (gs.map Ports.enc) (fun p _ => .acc (5 + p) 2 ((gs[p]?).getD []).length) trivial (by simp [get]) outRows_len (by simp) ?_ ?_)
          · intro p j row x h1 h3
            simp only [List.getElem?_map, Option.map_eq_some_iff] at h1
            obtain ⟨g, hg, rfl⟩ := h1
            refine ⟨_, outRows_get hg, ?_⟩
            match j with
            | 0 => simp [hg]
            | j + 1 => simp [Ports.enc] at h3
          · intro p j row x h1 h3
            simp only [List.getElem?_map, Option.map_eq_some_iff] at h1
            obtain ⟨g, hg, rfl⟩ := h1
            match j with
            | 0 =>
              simp [Ports.enc] at h3
              subst h3
              simp only [hg, Option.getD_some]
              have hng := netBlks_get (n := 5) (s := [(0, some (ABlk.cells 2 [[AV.p (PV.lst 3 (List.map Part.enc c.parts)), AV.p (PV.lst 4 (List.map Pipe.enc c.pipes))]])), (1, some (ABlk.map (upsA (upsOf c.pipes)))), (2, some (ABlk.cells 1 [[AV.map 1]]))]) hg
              have k1 : ¬ 3 = 5 + p := by omega
              have k2 : ¬ 4 = 5 + p := by omega
              refine Frz.accRows (arows := g.map Port.row) trivial ?_ (by rw [List.map_map]; rfl) (by simp)
              simp [k1, k2, hng]
            | j + 1 => simp [Ports.enc] at h3

end Go.Am
/- Contracts: package circuit: Nets, Net; the law's few and Four. -/
namespace Go.Am
open Go Go.Proofs Go.Pn


theorem c_circuit_Nets (c : Circuit) (hs : Sized c) : Pure Tryz.prog GL 105 [c.av] (.tup [.p (.lst 1 ((if checkP c ≠ 0 then [] else nets c).map Ports.enc)), .p (.int .i64 (checkP c))]) := by
  refine Pure.of_walk (N := 12) Tryz.func105 rfl rfl rfl (by simp) (by first | (simp; done) | simp [*]) ?_
  simp
  refine xcall_pure (c_circuit_Check c hs) ?_
  by_cases hc : checkP c = 0
  · simp [hc]
    refine xcall_pure (c_circuit_nets c hc) ?_
    simp [XEndT, hc]
  · simp [hc, XEndT]

theorem c_IdxF_Ports (xs : List (List Port)) (q : List Port → Bool) (m : Nat) (cap : List AV) (hcap : pureL cap = true) (hl : xs.length < 4611686018427387904) (hq : ∀ x ∈ xs, Pure Tryz.prog GL m ((Ports.av x) :: cap) (.p (.bool (q x)))) : Pure Tryz.prog GL 114 [.p (.lst 1 (xs.map Ports.enc)), .fn (.func m) cap] (.p (.int .i64 (idxI xs q))) := by
  refine Pure.of_walk (N := 19) Tryz.func114 rfl rfl rfl (by simp) (by first | (simp; done) | simp [*]) ?_
  have hren := fun ρ => (renA_pure (ρ := ρ)).2 cap hcap
  simp
  refine XLoop.go [0, 1, 7] [] 0 [] (fun _ => []) (fun _ (k : Nat) => [(8, .p (.int .i64 k))]) (fun _ _ => []) (fun k => k ≤ xs.length ∧ ∀ (j : Nat) x, j < k → xs[j]? = some x → q x = false) (fun k => xs.length - k) 0 ⟨by omega, fun j b h => by omega⟩ ?_ ?_
  · simp [hren]
  · rintro k ⟨hk, hp⟩
    simp
    refine xif_split (fun h => ?_) (fun h => ?_)
    · simp at h
      obtain ⟨x, e⟩ := get_lt h
      simp [h, e, Ports.enc, -getElem?_pos, List.getElem?_cons_zero, List.getElem?_cons_succ]
      refine xcall_pure (hq x (List.mem_of_getElem? e)) ?_
      simp
      refine xif_split (fun h2 => ?_) (fun h2 => ?_)
      · simp [XEndT, idxI_at e h2 hp]
      · simp [hren]
        refine ⟨wrap_i64 (by omega) (by omega), k + 1, ⟨by omega, below_next hp e h2⟩, by omega, ?_⟩
        simp [hren]
    · simp at h
      have hk2 : k = xs.length := by omega
      subst hk2
      simp [XEndT, idxI_none (below_all hp)]

theorem c_pneumaticlaw21_Four_1 (i : Int) (s : Txt) : Pure Tryz.prog GL 77 [.p (.int .i64 i), .p (.str s)] ((⟨i, s⟩ : Port).av) := by
  refine Pure.of_walk (N := 8) Tryz.func77 rfl rfl rfl (by simp) (by first | (simp; done) | simp [*]) ?_
  simp
  simp [XEndT]

def fourC : Circuit := ⟨[⟨1, [65], 0⟩, ⟨6, [65, 48], 0⟩, ⟨0, [83], 0⟩, ⟨3, [86], 0⟩], [⟨⟨0, [50]⟩, ⟨3, [50]⟩⟩, ⟨⟨0, [52]⟩, ⟨3, [52]⟩⟩, ⟨⟨1, [49]⟩, ⟨2, [49]⟩⟩, ⟨⟨2, [49]⟩, ⟨3, [49]⟩⟩]⟩

theorem c_pneumaticlaw21_Four : Pure Tryz.prog GL 42 [] fourC.av := by
  refine Pure.of_walk (N := 29) Tryz.func42 rfl rfl rfl (by simp) rfl ?_
  simp
  refine xcall_pure (c_pneumaticlaw21_Four_1 0 [50]) ?_
  simp
  refine xcall_pure (c_pneumaticlaw21_Four_1 3 [50]) ?_
  simp
  refine xcall_pure (c_pneumaticlaw21_Four_1 0 [52]) ?_
  simp
  refine xcall_pure (c_pneumaticlaw21_Four_1 3 [52]) ?_
  simp
  refine xcall_pure (c_pneumaticlaw21_Four_1 1 [49]) ?_
  simp
  refine xcall_pure (c_pneumaticlaw21_Four_1 2 [49]) ?_
  simp
  refine xcall_pure (c_pneumaticlaw21_Four_1 2 [49]) ?_
  simp
  refine xcall_pure (c_pneumaticlaw21_Four_1 3 [49]) ?_
  simp
  simp [XEndT, fourC]

end Go.Am
/- Contracts: the law's awake. -/
namespace Go.Am
open Go Go.Proofs Go.Pn


def fourD : Circuit := remOut fourC 3

theorem four_sized : Sized fourC ∧ Sized fourD := by
  refine ⟨⟨by decide +kernel, by decide +kernel, by decide +kernel⟩, ⟨by decide +kernel, by decide +kernel, by decide +kernel⟩⟩

end Go.Am
/- Contracts: the laws CircuitChecks and CircuitChanges. -/
namespace Go.Am
open Go Go.Proofs Go.Pn


end Go.Am
/- Contracts: package circuit: Net; the law CircuitNets. -/
namespace Go.Am
open Go Go.Proofs Go.Pn


theorem range_one {c : Circuit} {a : Port} : rangeErrs c [a] = rangeErr c a := by simp [rangeErrs, firstErr, errAt]
theorem name_one {c : Circuit} {a : Port} : nameErrs c [a] = nameErr c a := by simp [nameErrs, firstErr, errAt]
theorem range_ok {c : Circuit} {a : Port} (h : rangeErr c a = 0) : ∀ p ∈ [a], 0 ≤ p.part ∧ p.part < c.parts.length := by
  intro p hp
  simp at hp; subst hp
  unfold rangeErr at h
  split at h
  · cases h
  · omega

theorem c_circuit_Net (c : Circuit) (p : Port) (hs : Sized c) : Pure Tryz.prog GL 74 [c.av, p.av] (.tup [.p (.int .i64 (if checkP c ≠ 0 then 0 else if givenErr c p ≠ 0 then 0 else netP c p)), .p (.int .i64 (if checkP c ≠ 0 then checkP c else givenErr c p))]) := by
  refine Pure.of_walk (N := 32) Tryz.func74 rfl rfl rfl (by simp) (by first | (simp; done) | simp [*]) ?_
  simp
  refine xcall_pure (c_circuit_Check c hs) ?_
  by_cases h : checkP c = 0
  · have h2 := check_parts h
    simp [h]
    refine xcall_lent ?_
    simp
    refine ⟨_, c_circuit_indexed c [p] hs (by simp), rfl, ?_⟩
    rw [range_one]
    by_cases hr : rangeErr c p = 0
    · simp [hr]
      refine xcall_lent ?_
      simp
      refine ⟨_, c_circuit_exists c [p] hs (by simp) h2.1 (range_ok hr), rfl, ?_⟩
      rw [name_one]
      by_cases hn : nameErr c p = 0
      · simp [hn]
        refine xcall_pure (c_circuit_nets c h) ?_
        simp
        refine xcall_lent ?_
        simp
        refine ⟨_, c_IdxF_Ports (nets c) (fun l => decide (p ∈ l)) 116 [.iptr 2 [[.int .i64 p.part, .str p.name]] 0 0] rfl (by have := (netsL h).1; omega) (fun l hl => c_circuit_Net_1 p l (by have := (netsL h).2 l hl; omega)), rfl, ?_⟩
        rw [← netP]
        simp [XEndT, h, givenErr, hr, hn]
      · simp [hn]
        simp [XEndT, h, givenErr, hr, hn]
    · simp [hr]
      simp [XEndT, h, givenErr, hr]
  · simp [h, XEndT]

end Go.Am
