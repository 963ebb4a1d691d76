/- Lemmas and contracts for the proof of a statement of this seat. -/
import Derived.Test.YtkofnocfackjiaaGreatDoorZCE
import Derived.Test.YtkofnocfackjiaaGreatDoorZA6
set_option linter.unusedVariables false
set_option linter.unusedSimpArgs false
/- Contracts: package pressure: the net of a port, as a map. -/
namespace Go.Am
open Go Go.Proofs Go.Pn

def prA (es : List (Port × Nat)) : List (AV × AV) := es.map fun e => (e.1.av, .p (.int .i64 (e.2 : Nat)))
def findP : List (Port × Nat) → Port → Option Nat
  | [], _ => none
  | (a, n) :: es, p => if a = p then some n else findP es p
theorem findP_mem {p : Port} {n : Nat} : ∀ {es : List (Port × Nat)}, findP es p = some n → (p, n) ∈ es
  | [], h => by cases h
  | (a, m) :: es, h => by
    simp only [findP] at h
    split at h
    · rename_i e; cases h; subst e; simp
    · exact List.mem_cons_of_mem _ (findP_mem h)
theorem findP_none {p : Port} {n : Nat} : ∀ {es : List (Port × Nat)}, (p, n) ∈ es → findP es p ≠ none
  | [], h => by cases h
  | (a, m) :: es, h => by
    simp only [findP]
    split
    · simp
    · rename_i e
      rcases List.mem_cons.1 h with h | h
      · cases h; exact absurd rfl e
      · exact findP_none h
theorem assoc_prA {es : List (Port × Nat)} {p : Port} : assocA (prA es) p.av = (findP es p).map fun (n : Nat) => AV.p (.int .i64 n) := by
  induction es with
  | nil => simp [prA, assocA, findP]
  | cons e es ih =>
    obtain ⟨a, b⟩ := e
    simp only [prA, List.map_cons, findP] at ih ⊢
    by_cases h : a = p
    · subst h
      simp [assocA]
    · have hne : a.av ≠ p.av := fun h2 => h (portAv_inj h2)
      rw [if_neg h, ← ih]
      unfold assocA
      rw [List.find?_cons_of_neg (by simpa using hne)]
theorem look_prA2 {es : List (Port × Nat)} {i : Int} {s : Txt} : (assocA (prA es) (.agg [.p (.int .i64 i), .p (.str s)])) = (findP es ⟨i, s⟩).map fun (n : Nat) => AV.p (.int .i64 n) := assoc_prA (p := ⟨i, s⟩)
@[simp] theorem keys_prA {es : List (Port × Nat)} {i : Int} {s : Txt} : KeysIn Tryz.prog 82 (prA es) (.agg [.p (.int .i64 i), .p (.str s)]) = True := eq_true (keysIn_map (f := Prod.fst) (p := ⟨i, s⟩))
theorem set_prA {es : List (Port × Nat)} {p : Port} {n : Nat} (h : findP es p = none) : setA (prA es) (.agg [.p (.int .i64 p.part), .p (.str p.name)]) (.p (.int .i64 n)) = prA (es ++ [(p, n)]) := by
  rw [setA_none]
  · simp [prA]
  · intro e he
    obtain ⟨q, hq, rfl⟩ := List.mem_map.1 he
    intro h2
    have : q.1 = p := portAv_inj h2
    exact findP_none (n := q.2) (by rw [← this]; exact hq) h
theorem prA_pure {ρ : List Nat} {es : List (Port × Nat)} : renE ρ (prA es) = some (prA es) := by
  unfold prA
  induction es with
  | nil => rfl
  | cons e es ih => simp only [List.map_cons, renE, ih]; rfl

def pairsUp (c : Circuit) : Nat → List (Port × Nat)
  | 0 => []
  | k + 1 => pairsUp c k ++ match (nets c)[k]? with | some g => g.map (·, k) | none => []
def pairs (c : Circuit) : List (Port × Nat) := pairsUp c (nets c).length
def pairsIn (c : Circuit) (k : Nat) (g : List Port) (j : Nat) : List (Port × Nat) := pairsUp c k ++ (g.take j).map (·, k)
theorem pairsIn_zero {c : Circuit} {k : Nat} {g : List Port} : pairsIn c k g 0 = pairsUp c k := by simp [pairsIn]
theorem pairsIn_snoc {c : Circuit} {k j : Nat} {g : List Port} {p : Port} (e : g[j]? = some p) : pairsIn c k g (j + 1) = pairsIn c k g j ++ [(p, k)] := by
  unfold pairsIn
  rw [take_snoc e]; simp
theorem pairsIn_all {c : Circuit} {k : Nat} {g : List Port} (e : (nets c)[k]? = some g) : pairsIn c k g g.length = pairsUp c (k + 1) := by
  simp only [pairsIn, pairsUp, e, List.take_length]
theorem pairsUp_mem {c : Circuit} {p : Port} {n : Nat} : ∀ {k : Nat}, (p, n) ∈ pairsUp c k ↔ n < k ∧ ∃ g, (nets c)[n]? = some g ∧ p ∈ g
  | 0 => by simp [pairsUp]
  | k + 1 => by
    simp only [pairsUp, List.mem_append]
    rw [pairsUp_mem (k := k)]
    constructor
    · rintro (⟨h1, h2⟩ | h)
      · exact ⟨by omega, h2⟩
      · split at h
        · rename_i g e
          obtain ⟨q, hq, hh⟩ := List.mem_map.1 h
          cases hh
          exact ⟨by omega, g, e, hq⟩
        · cases h
    · rintro ⟨h1, g, e, hp⟩
      by_cases hn : n = k
      · subst hn
        right
        rw [e]
        exact List.mem_map.2 ⟨p, hp, rfl⟩
      · exact .inl ⟨by omega, g, e, hp⟩
theorem nets_nodup {c : Circuit} (h : checkP c = 0) {g : List Port} (hg : g ∈ nets c) : g.Nodup := by
  rw [nets_rt h] at hg
  obtain ⟨r, _, rfl⟩ := List.mem_map.1 hg
  exact (allP_nodup (check_parts h).1).filter _
theorem pairs_fresh {c : Circuit} (h : checkP c = 0) {k j : Nat} {g : List Port} {p : Port} (eg : (nets c)[k]? = some g) (e : g[j]? = some p) : findP (pairsIn c k g j) p = none := by
  cases hf : findP (pairsIn c k g j) p with
  | none => rfl
  | some n =>
    exfalso
    have hm := findP_mem hf
    unfold pairsIn at hm
    rcases List.mem_append.1 hm with hm | hm
    · obtain ⟨hn, g', e', hp⟩ := pairsUp_mem.1 hm
      have h1 := (netP_of h e' hp).1
      have h2 := (netP_of h eg (List.mem_of_getElem? e)).1
      omega
    · obtain ⟨q, hq, hh⟩ := List.mem_map.1 hm
      cases hh
      obtain ⟨i, hi, ei⟩ := List.getElem_of_mem hq
      have hi2 : i < j := by simp at hi; omega
      have : g[i]? = some p := by
        rw [← List.getElem?_take_of_lt hi2, List.getElem?_eq_getElem hi, ei]
      have := nodup_at (nets_nodup h (List.mem_of_getElem? eg)) this e
      omega
theorem find_pairs {c : Circuit} (h : checkP c = 0) {i : Int} {s : Txt} (hp : (⟨i, s⟩ : Port) ∈ allP c) : findP (pairs c) ⟨i, s⟩ = some (netN c i s) := by
  obtain ⟨g, e, hg⟩ := net_has h hp
  have hlt := (netN_at h hp).2
  have hm : ((⟨i, s⟩ : Port), netN c i s) ∈ pairs c := pairsUp_mem.2 ⟨hlt, g, e, hg⟩
  cases hf : findP (pairs c) ⟨i, s⟩ with
  | none => exact absurd hf (findP_none hm)
  | some n =>
    obtain ⟨_, g', e', hp'⟩ := pairsUp_mem.1 (findP_mem hf)
    rw [netN_of h e' hp']

def plumRow (c : Circuit) (mb : Nat) : List AV := [.p (.lst 3 (c.parts.map Part.enc)), .p (.lst 4 (c.pipes.map Pipe.enc)), .p (.int .i64 (nets c).length), .map mb]


theorem g_net (c : Circuit) (hc : checkP c = 0) (i : Int) (t : Txt) (hp : (⟨i, t⟩ : Port) ∈ allP c) (b mb : Nat) (s : Store) (nx : Nat) (hb : b < nx) (hm : mb < nx) (hne : b ≠ mb) (hg : get s b = some (.cells 4 [plumRow c mb])) (hgm : get s mb = some (.map (prA (pairs c)))) :
    Gives Tryz.prog GL 76 [.ptr b 4 0 0, .p (.int .i64 i), .p (.str t)] s nx (.p (.int .i64 (netN c i t))) [b, mb] [] nx := by
  have hf := find_pairs hc hp
  refine Gives.mk_walkK (N := 15) (args := [.ptr 0 4 0 0, .p (.int .i64 i), .p (.str t)]) [b, mb] [] [(0, some (.cells 4 [plumRow c 1])), (1, some (.map (prA (pairs c))))] [] 2 0 (.p (.int .i64 (netN c i t))) (fun _ => []) (up1 := []) Tryz.func76 rfl rfl rfl (by simp) rfl (by simp [hg, hb, hm, hne, hgm, prA_pure, plumRow]; intro q hq; match q, hq with | 0, _ => simp | 1, _ => simp) (by simp) (by simp) (by simp) (by simp) rfl ?_
  simp [plumRow]
  rw [look_prA2, hf]
  simp [hit, prA_pure]
  decide

theorem g_of (c : Circuit) (l : List Int) (hs : Sized c) (hl : l.length < 4611686018427387904) (h : checkQ c l = 0) (s : Store) (nx : Nat) :
    Gives Tryz.prog GL 73 [c.av, Ints.av l] s nx (.tup [.ptr nx 4 0 0, .p (.int .i64 0)]) [] [(nx, some (.cells 4 [plumRow c (nx + 1)])), (nx + 1, some (.map (prA (pairs c))))] (nx + 2) := by
  have hc := (checkQ_zero h).1
  have hnl := netsL hc
  refine Gives.mk_walkK (N := 56) (args := [c.av, Ints.av l]) [] [] [] [(0, some (.cells 4 [plumRow c 1])), (1, some (.map (prA (pairs c))))] 0 2 (.tup [.ptr 0 4 0 0, .p (.int .i64 0)]) (fun _ => [2, 1]) (up1 := [(nx, some (.cells 4 [plumRow c (nx + 1)])), (nx + 1, some (.map (prA (pairs c))))]) Tryz.func73 rfl rfl rfl (by simp) rfl (by simp) (by simp) (by simp) (by simp [plumRow, prA_pure]) (by simp) rfl ?_
  simp
  refine xcall_pure (c_pressure_Check c l hs hl) ?_
  simp [h]
  refine xcall_pure (c_circuit_Nets c hs) ?_
  simp [hc]
  refine XLoop.go [9, 34, 35] [0, 2] 0 [] (fun _ => []) (fun _ (k : Nat) => [(36, .p (.int .i64 k))]) (fun _ k => [(1, some (.map (prA (pairsUp c k))))]) (fun k => k ≤ (nets c).length) (fun k => (nets c).length - k) 0 (by omega) ?_ ?_
  · simp [pairsUp, prA]
    try decide
  · intro k hk
    simp
    refine xif_split (fun h3 => ?_) (fun h3 => ?_)
    · simp at h3
      obtain ⟨g, eg⟩ := get_lt h3
      have hgl := hnl.2 g (List.mem_of_getElem? eg)
      have hall := pairsIn_all eg
      simp [h3, eg, Ports.enc, -getElem?_pos, List.getElem?_cons_zero, List.getElem?_cons_succ]
      refine XLoop.go [9, 10, 34, 35, 36, 41, 42] [0, 2] 0 [] (fun _ => []) (fun _ (j : Nat) => [(43, .p (.int .i64 j))]) (fun _ j => [(1, some (.map (prA (pairsIn c k g j))))]) (fun j => j ≤ g.length) (fun j => g.length - j) 0 (by omega) ?_ ?_
      · simp [pairsIn_zero, prA_pure]
        try decide
      · intro j hj
        simp
        refine xif_split (fun h4 => ?_) (fun h4 => ?_)
        · simp at h4
          obtain ⟨p, ep⟩ := get_lt h4
          have hfr := pairs_fresh hc eg ep
          have hsn := pairsIn_snoc (c := c) (k := k) ep
          have hset := set_prA (n := k) hfr
          simp [h4, ep, -getElem?_pos, List.getElem?_cons_zero, List.getElem?_cons_succ]
          refine XDraw.intro (by kernel_rfl) ?_
          simp
          refine ⟨.of (by kernel_rfl), ?_⟩
          refine ⟨wrap_i64 (by omega) (by omega), j + 1, by omega, by omega, ?_⟩
          simp [hset, hsn, prA_pure]
          try decide
        · simp at h4
          have hjl : j = g.length := by omega
          subst hjl
          simp
          refine ⟨wrap_i64 (by omega) (by omega), k + 1, by omega, by omega, ?_⟩
          simp [hall, prA_pure]
          try decide
    · simp at h3
      have hkl : k = (nets c).length := by omega
      subst hkl
      have hpe : pairsUp c (nets c).length = pairs c := rfl
      rw [hpe]
      simp [plumRow, prA_pure]
      try decide

theorem c_pressure_of (c : Circuit) (l : List Int) (hs : Sized c) (hl : l.length < 4611686018427387904) (h : checkQ c l ≠ 0) : Pure Tryz.prog GL 73 [c.av, Ints.av l] (.tup [.nilp, .p (.int .i64 (checkQ c l))]) := by
  refine Pure.of_walk (N := 56) Tryz.func73 rfl rfl rfl (by simp) (by first | (simp; done) | simp [*]) ?_
  simp
  refine xcall_pure (c_pressure_Check c l hs hl) ?_
  simp [h]
  simp [XEndT]

end Go.Am
/- Contracts: package pressure: flows. -/
namespace Go.Am
open Go Go.Proofs Go.Pn

def nInts (l : List Nat) : List Int := l.map fun (n : Nat) => (n : Int)
@[simp] def Psg.enc (y : Psg) : List PV := [.int .i64 y.part, .int .i64 y.to, .lst 1 ((nInts y.fr).map Int.enc), .bool y.all]
@[simp] def Psg.row (y : Psg) : List AV := [.p (.int .i64 y.part), .p (.int .i64 y.to), .p (.lst 1 ((nInts y.fr).map Int.enc)), .p (.bool y.all)]
@[simp] def Psg.av (y : Psg) : AV := .agg [.p (.int .i64 y.part), .p (.int .i64 y.to), .p (.lst 1 ((nInts y.fr).map Int.enc)), .p (.bool y.all)]
@[simp] theorem unpR_Psg {l : List Psg} : unpR (l.map Psg.row) = some (l.map Psg.enc) := unpR_map (f := Psg.row) (g := Psg.enc) (fun _ => rfl) l

def isSt (S : List Int) (v : Int) (n : Nat) : Bool := decide (S[n]? = some v)
theorem isSt_at {S : List Int} {v x : Int} {n : Nat} (e : S[n]? = some x) : isSt S v n = decide (x = v) := by simp [isSt, e, -getElem?_pos]

theorem c_pressure_flows_1 (S : List Int) (n : Nat) (hn : n < S.length) : Pure Tryz.prog GL 187 [.p (.int .i64 n), .iptr 1 [[.lst 1 (S.map Int.enc)]] 0 0] (.p (.bool (isSt S 2 n))) := by
  refine Pure.of_walk (N := 9) Tryz.func187 rfl rfl rfl (by simp) (by first | (simp; done) | simp [*]) ?_
  obtain ⟨x, e⟩ := get_lt hn
  rw [isSt_at e]
  simp
  simp [hn, e, -getElem?_pos, List.getElem?_cons_zero, List.getElem?_cons_succ]
  simp [XEndT]

theorem g_flows2 (S : List Int) (n : Nat) (hn : n < S.length) (b d : Nat) (s : Store) (nx : Nat) (hb : b < nx) (hd : d < nx) (hne : d ≠ b) (hg : get s b = some (.cells 1 [[.fn (.func 187) [.ptr d 1 0 0]]])) (hgd : get s d = some (.cells 1 [[.p (.lst 1 (S.map Int.enc))]])) :
    Gives Tryz.prog GL 188 [.p (.int .i64 n), .ptr b 1 0 0] s nx (.p (.bool (!isSt S 2 n))) [d, b] [] nx := by
  refine Gives.mk_walkK (N := 8) (args := [.p (.int .i64 n), .ptr 1 1 0 0]) [d, b] [] [(0, some (.cells 1 [[.p (.lst 1 (S.map Int.enc))]])), (1, some (.cells 1 [[.fn (.func 187) [.ptr 0 1 0 0]]]))] [] 2 0 (.p (.bool (!isSt S 2 n))) (fun _ => []) (up1 := []) Tryz.func188 rfl rfl rfl (by simp) rfl (by simp [hg, hb, hd, hne, hgd]; intro q hq; match q, hq with | 0, _ => simp | 1, _ => simp) (by simp) (by simp) (by simp) (by simp) rfl ?_
  simp
  refine xcall_lent ?_
  simp
  refine ⟨_, c_pressure_flows_1 S n hn, rfl, ?_⟩
  simp
  try decide

theorem g_IdxF2 (S : List Int) (xs : List Nat) (hx : ∀ n ∈ xs, n < S.length) (hl : xs.length < 4611686018427387904) (b d : Nat) (s : Store) (nx : Nat) (hb : b < nx) (hd : d < nx) (hne : d ≠ b) (hg : get s b = some (.cells 1 [[.fn (.func 187) [.ptr d 1 0 0]]])) (hgd : get s d = some (.cells 1 [[.p (.lst 1 (S.map Int.enc))]])) :
    Gives Tryz.prog GL 191 [.p (.lst 1 ((nInts xs).map Int.enc)), .fn (.func 188) [.ptr b 1 0 0]] s nx (.p (.int .i64 (idxI xs fun n => !isSt S 2 n))) [d, b] [] nx := by
  have hnl : (nInts xs).length = xs.length := by simp [nInts]
  refine Gives.mk_walkK (N := 19) (args := [.p (.lst 1 ((nInts xs).map Int.enc)), .fn (.func 188) [.ptr 1 1 0 0]]) [d, b] [] [(0, some (.cells 1 [[.p (.lst 1 (S.map Int.enc))]])), (1, some (.cells 1 [[.fn (.func 187) [.ptr 0 1 0 0]]]))] [] 2 0 (.p (.int .i64 (idxI xs fun n => !isSt S 2 n))) (fun _ => []) (up1 := []) Tryz.func191 rfl rfl rfl (by simp) rfl (by simp [hg, hb, hd, hne, hgd]; intro q hq; match q, hq with | 0, _ => simp | 1, _ => simp) (by simp) (by simp) (by simp) (by simp) rfl ?_
  simp [hnl]
  refine XLoop.go [0, 1, 7] [0, 1] 0 [] (fun _ => []) (fun _ (k : Nat) => [(8, .p (.int .i64 k))]) (fun _ _ => []) (fun k => k ≤ xs.length ∧ ∀ (j : Nat) x, j < k → xs[j]? = some x → (!isSt S 2 x) = false) (fun k => xs.length - k) 0 ⟨by omega, fun j b h => by omega⟩ ?_ ?_
  · simp
    try decide
  · rintro k ⟨hk, hp⟩
    simp
    refine xif_split (fun h => ?_) (fun h => ?_)
    · simp at h
      obtain ⟨x, e⟩ := get_lt h
      have e2 : (nInts xs)[k]? = some (x : Int) := by simp [nInts, e, -getElem?_pos]
      have hk2 : k < (nInts xs).length := by omega
      simp [hk2, e2, -getElem?_pos, List.getElem?_cons_zero, List.getElem?_cons_succ]
      refine xcall_gives (g_flows2 S x (hx x (List.mem_of_getElem? e)) 1 0 _ _ (by simp) (by simp) (by simp) (by simp) (by simp)) ?_
      simp
      refine xif_split (fun h2 => ?_) (fun h2 => ?_)
      · simp [XEndT, idxI_at (q := fun n => !isSt S 2 n) e (by simpa using h2) hp]
        try decide
      · simp
        refine ⟨wrap_i64 (by omega) (by omega), k + 1, ⟨by omega, by simpa using below_next (P := fun n => (!isSt S 2 n) = false) hp e (by simpa using h2)⟩, by omega, ?_⟩
        simp
        try decide
    · simp at h
      have hk2 : k = xs.length := by omega
      subst hk2
      simp [XEndT, idxI_none (q := fun n => !isSt S 2 n) (below_all hp)]
      try decide

theorem g_ConF2 (S : List Int) (xs : List Nat) (hx : ∀ n ∈ xs, n < S.length) (hl : xs.length < 4611686018427387904) (b d : Nat) (s : Store) (nx : Nat) (hb : b < nx) (hd : d < nx) (hne : d ≠ b) (hg : get s b = some (.cells 1 [[.fn (.func 187) [.ptr d 1 0 0]]])) (hgd : get s d = some (.cells 1 [[.p (.lst 1 (S.map Int.enc))]])) :
    Gives Tryz.prog GL 124 [.p (.lst 1 ((nInts xs).map Int.enc)), .fn (.func 188) [.ptr b 1 0 0]] s nx (.p (.bool (xs.any fun n => !isSt S 2 n))) [d, b] [] nx := by
  refine Gives.mk_walkK (N := 9) (args := [.p (.lst 1 ((nInts xs).map Int.enc)), .fn (.func 188) [.ptr 1 1 0 0]]) [d, b] [] [(0, some (.cells 1 [[.p (.lst 1 (S.map Int.enc))]])), (1, some (.cells 1 [[.fn (.func 187) [.ptr 0 1 0 0]]]))] [] 2 0 (.p (.bool (xs.any fun n => !isSt S 2 n))) (fun _ => []) (up1 := []) Tryz.func124 rfl rfl rfl (by simp) rfl (by simp [hg, hb, hd, hne, hgd]; intro q hq; match q, hq with | 0, _ => simp | 1, _ => simp) (by simp) (by simp) (by simp) (by simp) rfl ?_
  simp
  refine xcall_gives (g_IdxF2 S xs hx hl 1 0 _ _ (by simp) (by simp) (by simp) (by simp) (by simp)) ?_
  have hq : decide ((0 : Int) ≤ idxI xs fun n => !isSt S 2 n) = xs.any (fun n => !isSt S 2 n) := by rw [Bool.eq_iff_iff]; simp [idxI_nonneg]
  simp [hq]
  try decide

theorem c_pressure_flows (S : List Int) (y : Psg) (hx : ∀ n ∈ y.fr, n < S.length) (hl : y.fr.length < 4611686018427387904) : Pure Tryz.prog GL 121 [.p (.lst 1 (S.map Int.enc)), y.av] (.p (.bool (flowsB (isSt S 2) y))) := by
  refine Pure.of_walk (N := 18) Tryz.func121 rfl rfl rfl (by simp) (by first | (simp; done) | simp [*]) ?_
  simp
  refine xif_split (fun h => ?_) (fun h => ?_)
  · simp
    refine xcall_gives (g_ConF2 S y.fr hx hl 2 0 _ _ (by simp) (by simp) (by simp) (by simp) (by simp)) ?_
    simp [XEndT, flowsB, h]
    rw [List.any_eq_not_all_not]
    simp
  · simp
    refine xcall_lent ?_
    simp
    have hcl : ∀ n ∈ nInts y.fr, Pure Tryz.prog GL 187 (Int.av n :: [.iptr 1 [[.lst 1 (S.map Int.enc)]] 0 0]) (.p (.bool (decide (S[n.toNat]? = some 2)))) := fun n hn => by
      obtain ⟨m, hm, rfl⟩ := List.mem_map.1 hn
      simpa [isSt] using c_pressure_flows_1 S m (hx m hm)
    refine ⟨_, c_ConF_Int (nInts y.fr) (fun n => decide (S[n.toNat]? = some 2)) 187 [.iptr 1 [[.lst 1 (S.map Int.enc)]] 0 0] (by simp) (by simpa [nInts] using hl) hcl, rfl, ?_⟩
    simp [XEndT, flowsB, h, isSt, nInts, List.any_map, Function.comp_def]
    rfl

end Go.Am
/- Contracts: package pressure: closures of states, closed. -/
namespace Go.Am
open Go Go.Proofs Go.Pn


@[simp] theorem range2_0 : (List.range 2)[0]? = some 0 := rfl
@[simp] theorem range2_1 : (List.range 2)[1]? = some 1 := rfl
@[simp] theorem range3_0 : (List.range 3)[0]? = some 0 := rfl
@[simp] theorem range3_1 : (List.range 3)[1]? = some 1 := rfl
@[simp] theorem range3_2 : (List.range 3)[2]? = some 2 := rfl
@[simp] theorem range2_nodup : (List.range 2).Nodup := List.nodup_range
@[simp] theorem range3_nodup : (List.range 3).Nodup := List.nodup_range

def cStep (q : List Int → Psg → Bool) (v : Int) (S : List Int) (y : Psg) : List Int := if S[y.to]? = some 0 ∧ q S y = true then S.set y.to v else S
def cRound (q : List Int → Psg → Bool) (v : Int) (l : List Psg) (S : List Int) : List Int := l.foldl (cStep q v) S
def zerosOf (S : List Int) : Nat := S.countP fun x => decide (x = 0)
def cFin (q : List Int → Psg → Bool) (v : Int) (l : List Psg) : Nat → List Int → List Int
  | 0, S => S
  | k + 1, S => if cRound q v l S = S then S else cFin q v l k (cRound q v l S)
def closedL (q : List Int → Psg → Bool) (v : Int) (l : List Psg) (S : List Int) : List Int := cFin q v l (zerosOf S + 1) S

theorem cStep_off {q v S y} (h : ¬(S[y.to]? = some 0 ∧ q S y = true)) : cStep q v S y = S := if_neg h
theorem cStep_on {q v S} {y : Psg} (h : S[y.to]? = some 0) (h2 : q S y = true) : cStep q v S y = S.set y.to v := if_pos ⟨h, h2⟩
theorem zeros_set {S : List Int} {n : Nat} {v : Int} (hv : v ≠ 0) (h : S[n]? = some 0) : zerosOf (S.set n v) < zerosOf S := by
  unfold zerosOf
  obtain ⟨hn, e⟩ := List.getElem?_eq_some_iff.1 h
  rw [List.countP_set hn]
  have h1 : 0 < S.countP fun x => decide (x = 0) := List.countP_pos_iff.2 ⟨0, List.mem_of_getElem? h, by simp⟩
  simp [e, hv]
  omega
theorem cStep_zeros {q} {v : Int} {S y} (hv : v ≠ 0) : zerosOf (cStep q v S y) < zerosOf S ∨ cStep q v S y = S := by
  unfold cStep
  split
  · rename_i h
    exact .inl (zeros_set hv h.1)
  · exact .inr rfl

inductive CReach (q : List Int → Psg → Bool) (v : Int) (l : List Psg) (S : List Int) : List Int → Prop
  | refl : CReach q v l S S
  | step {R : List Int} {y : Psg} (h : CReach q v l S R) (hm : y ∈ l) (h0 : R[y.to]? = some 0) (hq : q R y = true) : CReach q v l S (R.set y.to v)
theorem CReach.trans {q v l S R T} (h : CReach q v l S R) (k : CReach q v l R T) : CReach q v l S T := by
  induction k with
  | refl => exact h
  | step _ hm h0 hq ih => exact .step ih hm h0 hq
theorem CReach.one {q v l S} {y : Psg} (hm : y ∈ l) : CReach q v l S (cStep q v S y) := by
  unfold cStep
  split
  · rename_i h
    exact .step .refl hm h.1 h.2
  · exact .refl
theorem CReach.fold {q v l} : ∀ {l' : List Psg} {S : List Int}, (∀ y ∈ l', y ∈ l) → CReach q v l S (l'.foldl (cStep q v) S)
  | [], S, _ => .refl
  | y :: l', S, h => (CReach.one (h y (by simp))).trans (CReach.fold fun z hz => h z (by simp [hz]))
theorem cFin_reach {q v l} : ∀ {k : Nat} {S : List Int}, CReach q v l S (cFin q v l k S)
  | 0, S => .refl
  | k + 1, S => by
    unfold cFin
    split
    · exact .refl
    · exact (CReach.fold fun _ h => h).trans cFin_reach
theorem fold_zeros {q} {v : Int} (hv : v ≠ 0) : ∀ {l : List Psg} {S : List Int}, zerosOf (l.foldl (cStep q v) S) < zerosOf S ∨ l.foldl (cStep q v) S = S
  | [], S => .inr rfl
  | y :: l, S => by
    rw [List.foldl_cons]
    rcases fold_zeros (q := q) hv (l := l) (S := cStep q v S y) with h | h
    · rcases cStep_zeros (q := q) (S := S) (y := y) hv with k | k
      · exact .inl (by omega)
      · rw [k] at h ⊢; exact .inl h
    · rw [h]; exact cStep_zeros hv
theorem fold_still {q} {v : Int} (hv : v ≠ 0) : ∀ {l : List Psg} {S : List Int}, l.foldl (cStep q v) S = S → ∀ y ∈ l, cStep q v S y = S
  | [], S, _, y, hy => by cases hy
  | z :: l, S, h, y, hy => by
    rw [List.foldl_cons] at h
    have hz : cStep q v S z = S := by
      rcases cStep_zeros (q := q) (S := S) (y := z) hv with k | k
      · rcases fold_zeros (q := q) hv (l := l) (S := cStep q v S z) with j | j
        · rw [h] at j; omega
        · rw [h] at j; rw [← j] at k; omega
      · exact k
    rw [hz] at h
    rcases List.mem_cons.1 hy with rfl | hy
    · exact hz
    · exact fold_still hv h y hy
theorem cFin_still {q} {v : Int} {l : List Psg} (hv : v ≠ 0) : ∀ {k : Nat} {S : List Int}, zerosOf S < k → cRound q v l (cFin q v l k S) = cFin q v l k S
  | 0, S, h => by omega
  | k + 1, S, h => by
    unfold cFin
    split
    · assumption
    · rename_i hne
      refine cFin_still hv ?_
      rcases fold_zeros (q := q) hv (l := l) (S := S) with j | j
      · unfold cRound; omega
      · exact absurd j hne
theorem closedL_reach {q v l S} : CReach q v l S (closedL q v l S) := cFin_reach
theorem closedL_still {q} {v : Int} {l S} (hv : v ≠ 0) : ∀ y ∈ l, cStep q v (closedL q v l S) y = closedL q v l S :=
  fold_still hv (cFin_still hv (by omega))
theorem CReach.len {q v l S R} (h : CReach q v l S R) : R.length = S.length := by
  induction h with
  | refl => rfl
  | step _ _ _ _ ih => simp [ih]
theorem closedL_len {q v l S} : (closedL q v l S).length = S.length := closedL_reach.len

structure CSt where
  S : List Int
  b : Bool
  n : Nat

def Takes (N : Nat) (cp : Option Nat) (m : Nat) (q : List Int → Psg → Bool) (l : List Psg) : Prop := ∀ (S : List Int) (y : Psg), S.length = N → y ∈ l → ∀ (s : Store) (nx bs bo : Nat), bs < nx → bo < nx → bs ≠ bo →
  get s bs = some (.cells 1 (S.map Int.row)) → get s bo = some (.cells 1 [[.ref bs 1 0 N cp]]) → Gives Tryz.prog GL m [y.av, .ptr bo 1 0 0] s nx (.p (.bool (q S y))) [bs, bo] [] nx

theorem g_closed (S : List Int) (l : List Psg) (v : Int) (hv : v ≠ 0) (m : Nat) (q : List Int → Psg → Bool) (cp : Option Nat) (ht : Takes S.length cp m q l) (hto : ∀ y ∈ l, y.to < S.length) (hl : l.length < 4611686018427387904)
    (s : Store) (nx bs bo : Nat) (hb : bs < nx) (hd : bo < nx) (hne : bs ≠ bo) (hg : get s bs = some (.cells 1 (S.map Int.row))) (hgd : get s bo = some (.cells 1 [[.ref bs 1 0 S.length cp]])) :
    Gives Tryz.prog GL 119 [.ref bs 1 0 S.length cp, .p (.lst 4 (l.map Psg.enc)), .p (.int .i64 v), .fn (.func m) [.ptr bo 1 0 0]] s nx (.tup []) [bs, bo] [(bs, some (.cells 1 ((closedL q v l S).map Int.row)))] nx := by
  refine Gives.mk_walkK (N := 35) (args := [.ref 0 1 0 S.length cp, .p (.lst 4 (l.map Psg.enc)), .p (.int .i64 v), .fn (.func m) [.ptr 1 1 0 0]]) [bs, bo] [] [(0, some (.cells 1 (S.map Int.row))), (1, some (.cells 1 [[.ref 0 1 0 S.length cp]]))] [(0, some (.cells 1 ((closedL q v l S).map Int.row)))] 2 0 (.tup []) (fun _ => []) (up1 := [(bs, some (.cells 1 ((closedL q v l S).map Int.row)))]) Tryz.func119 rfl rfl rfl (by simp) rfl (by simp [hg, hb, hd, hne, hgd]; intro q hq; match q, hq with | 0, _ => simp | 1, _ => simp) (by simp) (by simp) (by simp) (by simp) rfl ?_
  simp
  refine XLoop.go [0, 1, 2, 3] [1] 0 [] (fun _ => []) (fun _ (g : CSt) => [(8, .p (.bool g.b))]) (fun _ g => [(0, some (.cells 1 (g.S.map Int.row)))]) (fun g => g.S.length = S.length ∧ (g.b = true → zerosOf g.S < g.n) ∧ (g.b = true → cFin q v l g.n g.S = closedL q v l S) ∧ (g.b = false → g.S = closedL q v l S)) (fun g => g.n + if g.b = true then 1 else 0) ⟨S, true, zerosOf S + 1⟩ ⟨rfl, fun _ => by simp, fun _ => rfl, by simp⟩ ?_ ?_
  · simp
    try decide
  · rintro ⟨T, more, k⟩ ⟨hlen, h0, h1, h2⟩
    dsimp only at hlen h0 h1 h2
    simp
    refine xif_split (fun h3 => ?_) (fun h3 => ?_)
    · subst h3
      have hz := h0 rfl
      have hfin := h1 rfl
      simp
      refine XLoop.go [0, 1, 2, 3, 12, 13] [1] 0 [] (fun _ => []) (fun _ (g : CSt) => [(8, .p (.bool g.b)), (14, .p (.int .i64 g.n))]) (fun _ g => [(0, some (.cells 1 (g.S.map Int.row)))]) (fun g => g.n ≤ l.length ∧ g.S.length = S.length ∧ g.S = (l.take g.n).foldl (cStep q v) T ∧ (g.b = true → zerosOf g.S < zerosOf T) ∧ (g.b = false → g.S = T)) (fun g => l.length - g.n) ⟨T, false, 0⟩ ⟨by simp, hlen, by simp, by simp, by simp⟩ ?_ ?_
      · simp
        try decide
      · rintro ⟨U, ch, j⟩ ⟨hj, hUl, hU, hc1, hc2⟩
        dsimp only at hj hUl hU hc1 hc2
        simp
        refine xif_split (fun h4 => ?_) (fun h4 => ?_)
        · simp at h4
          obtain ⟨y, ey⟩ := get_lt h4
          have hm := List.mem_of_getElem? ey
          have hyt := hto y hm
          obtain ⟨x, ex⟩ := get_lt (xs := U) (k := y.to) (by omega)
          simp [h4, ey, Psg.enc, hyt, ex, -getElem?_pos, List.getElem?_cons_zero, List.getElem?_cons_succ]
          have hsn : (l.take (j + 1)).foldl (cStep q v) T = cStep q v U y := by rw [foldl_snoc ey, ← hU]
          refine xif_split (fun h5 => ?_) (fun h5 => ?_)
          · simp at h5
            subst h5
            simp
            refine xcall_gives (ht U y hUl hm _ _ 0 1 (by simp) (by simp) (by simp) (by simp) (by simp)) ?_
            simp
            refine xif_split (fun h6 => ?_) (fun h6 => ?_)
            · have hon := cStep_on (v := v) ex h6
              have hz2 := zeros_set hv ex
              simp [h4, ey, Psg.enc, hyt, ex, -getElem?_pos, List.getElem?_cons_zero, List.getElem?_cons_succ]
              refine ⟨wrap_i64 (by omega) (by omega), ⟨U.set y.to v, true, j + 1⟩, ⟨by dsimp only; omega, by simpa using hUl, by rw [hsn, hon], fun _ => ?_, by simp⟩, by dsimp only; omega, ?_⟩
              · by_cases e : ch = true
                · have := hc1 e
                  dsimp only; omega
                · have := hc2 (by simpa using e)
                  subst this; exact hz2
              · simp
                try decide
            · have hoff := cStep_off (q := q) (v := v) (S := U) (y := y) (by simp [h6])
              simp
              refine ⟨wrap_i64 (by omega) (by omega), ⟨U, ch, j + 1⟩, ⟨by dsimp only; omega, hUl, by rw [hsn, hoff], hc1, hc2⟩, by dsimp only; omega, ?_⟩
              simp
              try decide
          · simp at h5
            have hoff := cStep_off (q := q) (v := v) (S := U) (y := y) (by rw [ex]; simp [h5])
            have hf5 : decide (x = 0) = false := by simp [h5]
            simp [hf5]
            refine ⟨wrap_i64 (by omega) (by omega), ⟨U, ch, j + 1⟩, ⟨by dsimp only; omega, hUl, by rw [hsn, hoff], hc1, hc2⟩, by dsimp only; omega, ?_⟩
            simp
            try decide
        · simp at h4
          have hjl : j = l.length := by omega
          subst hjl
          rw [List.take_length] at hU
          have hR : cRound q v l T = U := hU.symm
          simp
          cases ch with
          | true =>
            have hlt := hc1 rfl
            match k, hfin, hz with
            | k + 1, hfin, hz =>
              refine ⟨⟨U, true, k⟩, ⟨hUl, fun _ => by dsimp only; omega, fun _ => ?_, by simp⟩, by simp, ?_⟩
              · unfold cFin at hfin
                rw [hR, if_neg (by intro e; subst e; omega)] at hfin
                exact hfin
              · simp
                try decide
          | false =>
            have he := hc2 rfl
            subst he
            refine ⟨⟨U, false, 0⟩, ⟨hUl, by simp, by simp, fun _ => ?_⟩, by simp, ?_⟩
            · rw [← hfin]
              match k, hz with
              | k + 1, hz => unfold cFin; rw [if_pos hR]
            · simp
              try decide
    · have he := h2 h3
      subst he
      simp
      try decide

end Go.Am
/- Contracts: package pressure: the closures of states. -/
namespace Go.Am
open Go Go.Proofs Go.Pn


def venF (S : List Int) (y : Psg) : Bool := y.fr.any (isSt S 1)

theorem g_st21 (S : List Int) (n : Nat) (hn : n < S.length) (cp : Option Nat) (s : Store) (nx bs bo : Nat) (hb : bs < nx) (hd : bo < nx) (hne : bs ≠ bo) (hg : get s bs = some (.cells 1 (S.map Int.row))) (hgd : get s bo = some (.cells 1 [[.ref bs 1 0 S.length cp]])) :
    Gives Tryz.prog GL 125 [.p (.int .i64 n), .ptr bo 1 0 0] s nx (.p (.bool (isSt S 1 n))) [bs, bo] [] nx := by
  obtain ⟨x, e⟩ := get_lt hn
  rw [isSt_at e]
  refine Gives.mk_walkK (N := 9) (args := [.p (.int .i64 n), .ptr 1 1 0 0]) [bs, bo] [] [(0, some (.cells 1 (S.map Int.row))), (1, some (.cells 1 [[.ref 0 1 0 S.length cp]]))] [] 2 0 (.p (.bool (decide (x = 1)))) (fun _ => []) (up1 := []) Tryz.func125 rfl rfl rfl (by simp) rfl (by simp [hg, hb, hd, hne, hgd]; intro q hq; match q, hq with | 0, _ => simp | 1, _ => simp) (by simp) (by simp) (by simp) (by simp) rfl ?_
  simp
  simp [hn, e, -getElem?_pos, List.getElem?_cons_zero, List.getElem?_cons_succ]
  try decide

theorem g_IdxF3 (S : List Int) (xs : List Nat) (hx : ∀ n ∈ xs, n < S.length) (hl : xs.length < 4611686018427387904) (cp : Option Nat) (s : Store) (nx bs bo : Nat) (hb : bs < nx) (hd : bo < nx) (hne : bs ≠ bo) (hg : get s bs = some (.cells 1 (S.map Int.row))) (hgd : get s bo = some (.cells 1 [[.ref bs 1 0 S.length cp]])) :
    Gives Tryz.prog GL 191 [.p (.lst 1 ((nInts xs).map Int.enc)), .fn (.func 125) [.ptr bo 1 0 0]] s nx (.p (.int .i64 (idxI xs fun n => isSt S 1 n))) [bs, bo] [] nx := by
  have hnl : (nInts xs).length = xs.length := by simp [nInts]
  refine Gives.mk_walkK (N := 19) (args := [.p (.lst 1 ((nInts xs).map Int.enc)), .fn (.func 125) [.ptr 1 1 0 0]]) [bs, bo] [] [(0, some (.cells 1 (S.map Int.row))), (1, some (.cells 1 [[.ref 0 1 0 S.length cp]]))] [] 2 0 (.p (.int .i64 (idxI xs fun n => isSt S 1 n))) (fun _ => []) (up1 := []) Tryz.func191 rfl rfl rfl (by simp) rfl (by simp [hg, hb, hd, hne, hgd]; intro q hq; match q, hq with | 0, _ => simp | 1, _ => simp) (by simp) (by simp) (by simp) (by simp) rfl ?_
  simp [hnl]
  refine XLoop.go [0, 1, 7] [0, 1] 0 [] (fun _ => []) (fun _ (k : Nat) => [(8, .p (.int .i64 k))]) (fun _ _ => []) (fun k => k ≤ xs.length ∧ ∀ (j : Nat) x, j < k → xs[j]? = some x → (isSt S 1 x) = false) (fun k => xs.length - k) 0 ⟨by omega, fun j b h => by omega⟩ ?_ ?_
  · simp
    try decide
  · rintro k ⟨hk, hp⟩
    simp
    refine xif_split (fun h => ?_) (fun h => ?_)
    · simp at h
      obtain ⟨x, e⟩ := get_lt h
      have e2 : (nInts xs)[k]? = some (x : Int) := by simp [nInts, e, -getElem?_pos]
      have hk2 : k < (nInts xs).length := by omega
      simp [hk2, e2, -getElem?_pos, List.getElem?_cons_zero, List.getElem?_cons_succ]
      refine xcall_gives (g_st21 S x (hx x (List.mem_of_getElem? e)) cp _ _ 0 1 (by simp) (by simp) (by simp) (by simp) (by simp)) ?_
      simp
      refine xif_split (fun h2 => ?_) (fun h2 => ?_)
      · simp [XEndT, idxI_at (q := fun n => isSt S 1 n) e (by simpa using h2) hp]
        try decide
      · simp
        refine ⟨wrap_i64 (by omega) (by omega), k + 1, ⟨by omega, by simpa using below_next (P := fun n => isSt S 1 n = false) hp e (by simpa using h2)⟩, by omega, ?_⟩
        simp
        try decide
    · simp at h
      have hk2 : k = xs.length := by omega
      subst hk2
      simp [XEndT, idxI_none (q := fun n => isSt S 1 n) (below_all hp)]
      try decide

theorem g_ConF3 (S : List Int) (xs : List Nat) (hx : ∀ n ∈ xs, n < S.length) (hl : xs.length < 4611686018427387904) (cp : Option Nat) (s : Store) (nx bs bo : Nat) (hb : bs < nx) (hd : bo < nx) (hne : bs ≠ bo) (hg : get s bs = some (.cells 1 (S.map Int.row))) (hgd : get s bo = some (.cells 1 [[.ref bs 1 0 S.length cp]])) :
    Gives Tryz.prog GL 124 [.p (.lst 1 ((nInts xs).map Int.enc)), .fn (.func 125) [.ptr bo 1 0 0]] s nx (.p (.bool (xs.any (isSt S 1)))) [bs, bo] [] nx := by
  refine Gives.mk_walkK (N := 9) (args := [.p (.lst 1 ((nInts xs).map Int.enc)), .fn (.func 125) [.ptr 1 1 0 0]]) [bs, bo] [] [(0, some (.cells 1 (S.map Int.row))), (1, some (.cells 1 [[.ref 0 1 0 S.length cp]]))] [] 2 0 (.p (.bool (xs.any (isSt S 1)))) (fun _ => []) (up1 := []) Tryz.func124 rfl rfl rfl (by simp) rfl (by simp [hg, hb, hd, hne, hgd]; intro q hq; match q, hq with | 0, _ => simp | 1, _ => simp) (by simp) (by simp) (by simp) (by simp) rfl ?_
  simp
  refine xcall_gives (g_IdxF3 S xs hx hl cp _ _ 0 1 (by simp) (by simp) (by simp) (by simp) (by simp)) ?_
  have hq : decide ((0 : Int) ≤ idxI xs fun n => isSt S 1 n) = xs.any (isSt S 1) := by rw [Bool.eq_iff_iff]; simp [idxI_nonneg]
  simp [hq]
  try decide

theorem takes_1 {N : Nat} {cp : Option Nat} {l : List Psg} (hx : ∀ y ∈ l, ∀ n ∈ y.fr, n < N) (hl : ∀ y ∈ l, y.fr.length < 4611686018427387904) : Takes N cp 120 (fun S => flowsB (isSt S 2)) l := by
  intro S y hS hm s nx bs bo hb hd hne hg hgd
  subst hS
  refine Gives.mk_walkK (N := 7) (args := [y.av, .ptr 1 1 0 0]) [bs, bo] [] [(0, some (.cells 1 (S.map Int.row))), (1, some (.cells 1 [[.ref 0 1 0 S.length cp]]))] [] 2 0 (.p (.bool (flowsB (isSt S 2) y))) (fun _ => []) (up1 := []) Tryz.func120 rfl rfl rfl (by simp) rfl (by simp [hg, hb, hd, hne, hgd]; intro q hq; match q, hq with | 0, _ => simp | 1, _ => simp) (by simp) (by simp) (by simp) (by simp) rfl ?_
  simp
  refine xcall_lent ?_
  simp
  refine ⟨_, c_pressure_flows S y (hx y hm) (hl y hm), rfl, ?_⟩
  simp
  try decide

theorem takes_2 {N : Nat} {cp : Option Nat} {l : List Psg} (hx : ∀ y ∈ l, ∀ n ∈ y.fr, n < N) (hl : ∀ y ∈ l, y.fr.length < 4611686018427387904) : Takes N cp 123 venF l := by
  intro S y hS hm s nx bs bo hb hd hne hg hgd
  subst hS
  refine Gives.mk_walkK (N := 8) (args := [y.av, .ptr 1 1 0 0]) [bs, bo] [] [(0, some (.cells 1 (S.map Int.row))), (1, some (.cells 1 [[.ref 0 1 0 S.length cp]]))] [] 2 0 (.p (.bool (venF S y))) (fun _ => []) (up1 := []) Tryz.func123 rfl rfl rfl (by simp) rfl (by simp [hg, hb, hd, hne, hgd]; intro q hq; match q, hq with | 0, _ => simp | 1, _ => simp) (by simp) (by simp) (by simp) (by simp) rfl ?_
  simp
  refine xcall_gives (g_ConF3 S y.fr (hx y hm) (hl y hm) cp _ _ 0 1 (by simp) (by simp) (by simp) (by simp) (by simp)) ?_
  simp [venF]
  try decide

end Go.Am
/- Contracts: part.Vents as owned rows; pressure.open. -/
namespace Go.Am
open Go Go.Proofs Go.Pn

theorem g_changeVents (b : Bool) (s : Store) (nx : Nat) : Gives Tryz.prog GL 162 [.p (.int .i64 (posI b))] s nx (.acc nx 1 1) [] [(nx, accB 1 ([if b then t2 else t4].map Txt.row))] (nx + 1) := by
  refine Gives.mk_walkK (N := 8) (args := [.p (.int .i64 (posI b))]) [] [] [] [(0, accB 1 ([if b then t2 else t4].map Txt.row))] 0 1 (.acc 0 1 1) (nms [2]) (up1 := [(nx, accB 1 ([if b then t2 else t4].map Txt.row))]) Tryz.func162 rfl rfl rfl (by simp) rfl (by simp) (by simp) (by simp) (by cases b <;> simp [accB]) (by simp) rfl ?_
  cases b
  · simp [posI]
    rfl
  · simp [posI]
    rfl

theorem g_shut (pos : Int) (s : Store) (nx : Nat) : Gives Tryz.prog GL 160 [.p (.int .i64 pos)] s nx (.acc nx 1 0) [] [(nx, accB 1 [])] (nx + 1) := by
  refine Gives.mk_walkK (N := 3) (args := [.p (.int .i64 pos)]) [] [] [] [(0, accB 1 [])] 0 1 (.acc 0 1 0) (nms [2]) (up1 := [(nx, accB 1 [])]) Tryz.func160 rfl rfl rfl (by simp) rfl (by simp) (by simp) (by simp) (by simp [accB]) (by simp) rfl ?_
  simp

theorem g_gateVents (n pos : Int) (s : Store) (nx : Nat) : Gives Tryz.prog GL 212 [.p (.int .i64 pos), .iptr 1 [[.int .i64 n]] 0 0] s nx (.acc nx 1 (if pos = n then [] else [t2]).length) [] [(nx, accB 1 ((if pos = n then [] else [t2]).map Txt.row))] (nx + 1) := by
  refine Gives.mk_walkK (N := 8) (args := [.p (.int .i64 pos), .iptr 1 [[.int .i64 n]] 0 0]) [] [] [] [(0, accB 1 ((if pos = n then [] else [t2]).map Txt.row))] 0 1 (.acc 0 1 (if pos = n then [] else [t2]).length) (nms [4]) (up1 := [(nx, accB 1 ((if pos = n then [] else [t2]).map Txt.row))]) Tryz.func212 rfl rfl rfl (by simp) rfl (by simp) (by simp) (by simp) (by split <;> simp [accB]) (by simp) rfl ?_
  simp
  by_cases h : pos = n
  · simp [h]
  · simp [h]
    rfl

theorem gfn_vents (k : Nat) (hk : k < 14) (b : Bool) : ∃ m cap, (catRow k)[11]? = some (.fn (.func m) cap) ∧ pureL cap = true ∧ ∀ (s : Store) (nx : Nat), Gives Tryz.prog GL m (.p (.int .i64 (posI b)) :: cap) s nx (.acc nx 1 (ventsOf k b).length) [] [(nx, accB 1 ((ventsOf k b).map Txt.row))] (nx + 1) := by
  have g1 := g_gateVents 1 (posI b)
  have g0 := g_gateVents 0 (posI b)
  have ch := g_changeVents b
  have no := g_shut (posI b)
  cases b
  all_goals
    simp only [posI, Bool.false_eq_true, if_true, if_false] at g1 g0 ch no ⊢
    rcases (by omega : k = 0 ∨ k = 1 ∨ k = 2 ∨ k = 3 ∨ k = 4 ∨ k = 5 ∨ k = 6 ∨ k = 7 ∨ k = 8 ∨ k = 9 ∨ k = 10 ∨ k = 11 ∨ k = 12 ∨ k = 13) with rfl|rfl|rfl|rfl|rfl|rfl|rfl|rfl|rfl|rfl|rfl|rfl|rfl|rfl
    all_goals first
      | exact ⟨_, _, rfl, rfl, no⟩
      | exact ⟨_, _, rfl, rfl, ch⟩
      | exact ⟨_, _, rfl, rfl, g1⟩
      | exact ⟨_, _, rfl, rfl, g0⟩

theorem g_Vents (k pos : Int) (hp : placedErr k pos = 0) (s : Store) (nx : Nat) : Gives Tryz.prog GL 189 [.p (.int .i64 k), .p (.int .i64 pos)] s nx (.tup [.acc nx 1 (ventsAt k pos).length, .p (.int .i64 0)]) [] [(nx, accB 1 ((ventsAt k pos).map Txt.row))] (nx + 1) := by
  refine Gives.mk_walkK (N := 21) (args := [.p (.int .i64 k), .p (.int .i64 pos)]) [] [] [] [(0, accB 1 ((ventsAt k pos).map Txt.row))] 0 1 (.tup [.acc 0 1 (ventsAt k pos).length, .p (.int .i64 0)]) (nms [4]) (up1 := [(nx, accB 1 ((ventsAt k pos).map Txt.row))]) Tryz.func189 rfl rfl rfl (by simp) rfl (by simp) (by simp) (by simp) (by unfold accB; split <;> simp) (by simp) rfl ?_
  simp
  refine xcall_pure (c_part_placed k pos) ?_
  obtain ⟨hk, b, hb⟩ := placed_ok hp
  have hl := catRow_len (k := k.toNat)
  have h6 := catRow_one (k := k.toNat)
  obtain ⟨m, cap, g1, g2, g3⟩ := gfn_vents k.toNat (by omega) b
  have hpa : ventsAt k pos = ventsOf k.toNat b := by rw [ventsAt, if_pos hp, hb, posI_one]
  simp [hp, hl, lay_whole]
  refine ⟨by simpa using h6, ?_⟩
  obtain ⟨_, g1'⟩ := List.getElem?_eq_some_iff.1 g1
  simp [g1']
  rw [hb]
  refine xcall_gives (g3 _ _) ?_
  simp
  rw [← hb]
  simp [hpa, hp]
  cases ventsOf k.toNat b <;> simp [accB]

@[simp] theorem sliceElem_acc {P : Program} {e b k n : Nat} {K : Cont Prop} : @sliceElem P (.slice e) (.acc b k n) K = (@xTy P e ⟨fun _ => True⟩ ∧ K.k) := (rfl)

def opensK (k pos : Int) (n : Nat) : List Txt := ventsAt k pos ++ ((kindPorts k.toNat).take n).filter fun s => decide (roleOf k.toNat s = 2)
theorem opensK_snoc {k pos : Int} {n : Nat} {t : Txt} (e : (kindPorts k.toNat)[n]? = some t) : opensK k pos (n + 1) = opensK k pos n ++ if roleOf k.toNat t = 2 then [t] else [] := by
  unfold opensK
  rw [take_snoc e, List.filter_append, List.append_assoc]
  congr 2
  by_cases h : roleOf k.toNat t = 2 <;> simp [h]
theorem opensK_len {k pos : Int} (hp : placedErr k pos = 0) {n : Nat} : (opensK k pos n).length ≤ 1000 := by
  obtain ⟨hk, b, hb⟩ := placed_ok hp
  have h1 : (ventsAt k pos).length ≤ 100 := by
    rw [ventsAt, if_pos hp]
    exact (by decide +kernel : ∀ k, k < 14 → ∀ b, (ventsOf k b).length ≤ 100) k.toNat (by omega) _
  have h2 : (kindPorts k.toNat).length ≤ 100 := (by decide +kernel : ∀ k, k < 14 → (kindPorts k).length ≤ 100) k.toNat (by omega)
  have h3 := List.length_filter_le (fun s => decide (roleOf k.toNat s = 2)) ((kindPorts k.toNat).take n)
  have h4 : ((kindPorts k.toNat).take n).length ≤ (kindPorts k.toNat).length := by simp; omega
  unfold opensK
  rw [List.length_append]
  omega

set_option maxRecDepth 20000 in
theorem c_pressure_open (q : Part) (pos : Int) (hp : placedErr q.kind pos = 0) : Pure Tryz.prog GL 122 [q.av, .p (.int .i64 pos)] (.p (.lst 1 ((opensK q.kind pos (kindPorts q.kind.toNat).length).map Txt.enc))) := by
  refine Pure.of_walk (N := 52) Tryz.func122 rfl rfl rfl (by simp) (by first | (simp; done) | simp [*]) ?_
  obtain ⟨hk, _⟩ := placed_ok hp
  have hke : kindErr q.kind = 0 := kindErr_ok.2 hk
  have h2 : (kindPorts q.kind.toNat).length ≤ 100 := (by decide +kernel : ∀ k, k < 14 → (kindPorts k).length ≤ 100) q.kind.toNat (by omega)
  have h0 : opensK q.kind pos 0 = ventsAt q.kind pos := by simp [opensK]
  simp
  refine xcall_gives (g_Vents q.kind pos hp _ _) ?_
  simp
  refine xcall_pure (c_part_Ports q.kind) ?_
  simp [hke]
  rw [← h0]
  refine XLoop.gor [2, 26, 27] [0] [0, 1] (fun st => 0 :: nms [5] st) (fun (j : Nat) => [(5, .acc 1 1 (opensK q.kind pos j).length), (28, .p (.int .i64 j))]) (fun j => [(1, accB 1 ((opensK q.kind pos j).map Txt.row))]) (fun j => j ≤ (kindPorts q.kind.toNat).length) (fun j => (kindPorts q.kind.toNat).length - j) 0 (by omega) ?_ ?_
  · simp
    try decide
  · intro j hj
    have hol := opensK_len hp (n := j)
    simp
    refine xif_split (fun h3 => ?_) (fun h3 => ?_)
    · simp at h3
      obtain ⟨t, e⟩ := get_lt h3
      have hsn := opensK_snoc (pos := pos) e
      simp [h3, e, Txt.enc, -getElem?_pos, List.getElem?_cons_zero, List.getElem?_cons_succ]
      refine xcall_pure (c_part_Role q.kind t hk) ?_
      generalize opensK q.kind pos j = O at *
      generalize roleOf q.kind.toNat t = ro at *
      simp
      have hro : decide ((if ro < 0 then 0 else ro) = 2) = decide (ro = 2) := by
        by_cases hn : ro < 0
        · simp [hn]; omega
        · simp [hn]
      rw [hro]
      refine xif_split (fun h4 => ?_) (fun h4 => ?_)
      · simp at h4
        rw [if_pos h4] at hsn
        simp
        refine xdec_split (fun h5 => ?_) (fun h5 => ?_)
        · subst h5
          simp
          refine ⟨wrap_i64 (by omega) (by omega), j + 1, by omega, by omega, ?_⟩
          simp [hsn]
          try decide
        · simp
          refine ⟨by omega, h5, wrap_i64 (by omega) (by omega), j + 1, by omega, by omega, ?_⟩
          have hac : accB 1 (O.map Txt.row ++ [[.p (.str t)]]) = some (.cells 1 (O.map Txt.row ++ [[.p (.str t)]])) := by simp [accB]
          simp [hsn, hac]
          try decide
      · simp at h4
        rw [if_neg h4] at hsn
        simp at hsn
        simp
        refine ⟨wrap_i64 (by omega) (by omega), j + 1, by omega, by omega, ?_⟩
        simp [hsn]
        try decide
    · simp at h3
      have hjl : j = (kindPorts q.kind.toNat).length := by omega
      subst hjl
      generalize opensK q.kind pos (kindPorts q.kind.toNat).length = O at *
      simp [XEndT]

end Go.Am
/- Contracts: package pressure: passages. -/
namespace Go.Am
open Go Go.Proofs Go.Pn

section
variable {P : Program} {G : Globs} {N n0 : Nat}
theorem XLoop.goN {γ : Type} {c : Cont Code} {t : Slots} {s : Store} {nx : Nat} {Q : Cont KQ} (keep keepB : List Nat) (n : Nat) (M : γ → Slots) (B : γ → Store) (I : γ → Prop) (μ : γ → Nat) (g0 : γ) (hi : I g0)
    (h0 : Leads G N n0 ⟨t, s, nx⟩ ⟨M g0 ++ pick keep t, B g0 ++ pickS keepB s, n⟩)
    (round : ∀ g, I g → @xc P G N n0 c (M g ++ pick keep t) (B g ++ pickS keepB s) n ⟨fun x st' => @xthen x st' ⟨fun st' => ∃ g', I g' ∧ μ g' < μ g ∧
      Leads G N n0 st' ⟨M g' ++ pick keep t, B g' ++ pickS keepB s, n⟩⟩ Q⟩) : @XLoop P G N n0 c ⟨t, s, nx⟩ Q :=
  XLoop.goL (fun g => ⟨M g ++ pick keep t, B g ++ pickS keepB s, n⟩) I μ g0 hi h0 round
end

theorem FrzK.accRows {s : Store} {B : List Nat} {b k n : Nat} {rows : List (List AV)} {r : List (List PV)} (hB : b ∈ B) (hg : get s b = accB k rows) (hr : unpR rows = some r) (hn : rows.length = n) : FrzK s (· ∈ B) (.acc b k n) (.p (.lst k r)) := by
  have e := unpR_eq hr
  refine .frz _ _ (.one _ _ (.accRows hB hg e ?_))
  rw [← hn, e]; simp
theorem FrzB.last {s : Store} {B : List Nat} {k : Nat} {A : List (List AV)} {a b z x d : AV} (h : FrzK s (· ∈ B) z x) : FrzB s B (.cells k (A ++ [[a, b, z, d]])) (.cells k (A ++ [[a, b, x, d]])) := by
  refine .inr ⟨k, _, _, rfl, rfl, fun i j row x' h1 h2 => ?_⟩
  by_cases hi : i < A.length
  · rw [List.getElem?_append_left hi] at h1
    exact ⟨row, x', by rw [List.getElem?_append_left hi]; exact h1, h2, .keep _⟩
  · rw [List.getElem?_append_right (by omega)] at h1
    have hz : i - A.length = 0 := by
      cases e : i - A.length with
      | zero => rfl
      | succ m => rw [e] at h1; simp at h1
    rw [hz] at h1
    simp at h1
    subst h1
    refine ⟨[a, b, z, d], ?_⟩
    match j with
    | 0 => simp at h2; subst h2; exact ⟨a, by rw [List.getElem?_append_right (by omega), hz]; rfl, rfl, .keep _⟩
    | 1 => simp at h2; subst h2; exact ⟨b, by rw [List.getElem?_append_right (by omega), hz]; rfl, rfl, .keep _⟩
    | 2 => simp at h2; subst h2; exact ⟨z, by rw [List.getElem?_append_right (by omega), hz]; rfl, rfl, h⟩
    | 3 => simp at h2; subst h2; exact ⟨d, by rw [List.getElem?_append_right (by omega), hz]; rfl, rfl, .keep _⟩
    | j + 4 => simp at h2

@[simp] def thirdB : Option ABlk → Nat
  | some (.cells _ ([_, _, z, _] :: _)) => nameOf z
  | _ => 0

def pTs (c : Circuit) (l : List Int) (k : Nat) : List Psg := (List.range k).flatMap (psgsFrom c l)
theorem pTs_snoc {c : Circuit} {l : List Int} {k : Nat} : pTs c l (k + 1) = pTs c l k ++ psgsFrom c l k := by simp [pTs, List.range_succ]
theorem pTs_len {c : Circuit} {l : List Int} {k : Nat} : (pTs c l k).length ≤ k := by
  induction k with
  | zero => simp [pTs]
  | succ k ih =>
    rw [pTs_snoc, List.length_append]
    have : (psgsFrom c l k).length ≤ 1 := by
      unfold psgsFrom
      rcases pass_cases c l k with h | ⟨y, h⟩ <;> simp [h]
    omega

def frT (c : Circuit) (k : Nat) (y : Pass) (j : Nat) : List Int := (y.fr.take j).map fun t => (netN c k t : Int)
theorem frT_len {c : Circuit} {k : Nat} {y : Pass} {j : Nat} (h : j ≤ y.fr.length) : (frT c k y j).length = j := by simp [frT]; omega
theorem frT_snoc {c : Circuit} {k : Nat} {y : Pass} {j : Nat} {t : Txt} (e : y.fr[j]? = some t) : frT c k y (j + 1) = frT c k y j ++ [(netN c k t : Int)] := by simp [frT, take_snoc e]


set_option maxRecDepth 20000 in
theorem g_passages (c : Circuit) (l : List Int) (h : checkQ c l = 0) (b mb : Nat) (s : Store) (nx : Nat) (hb : b < nx) (hm : mb < nx) (hne : b ≠ mb) (hg : get s b = some (.cells 4 [plumRow c mb])) (hgm : get s mb = some (.map (prA (pairs c)))) :
    Gives Tryz.prog GL 118 [.ptr b 4 0 0, Ints.av l] s nx (.acc nx 4 (psgs c l).length) [b, mb] [(nx, accB 4 ((psgs c l).map Psg.row))] (nx + 1) := by
  have hc := (checkQ_zero h).1
  have h2 := check_parts hc
  have hend : pTs c l c.parts.length = psgs c l := rfl
  refine Gives.mk_walkK (N := 75) (args := [.ptr 0 4 0 0, Ints.av l]) [b, mb] [] [(0, some (.cells 4 [plumRow c 1])), (1, some (.map (prA (pairs c))))] [(2, accB 4 ((psgs c l).map Psg.row))] 2 1 (.acc 2 4 (psgs c l).length) (nms [4]) (up1 := [(nx, accB 4 ((psgs c l).map Psg.row))]) Tryz.func118 rfl rfl rfl (by simp) rfl (by simp [hg, hb, hm, hne, hgm, prA_pure, plumRow]; intro q hq; match q, hq with | 0, _ => simp | 1, _ => simp) (by simp) (by simp) (by unfold accB; split <;> simp) (by simp) rfl ?_
  simp [plumRow]
  refine XLoop.go [0, 1, 19, 20] [0, 1] 1 [2] (nms [5]) (fun nx (k : Nat) => [(5, .acc nx 4 (pTs c l k).length), (21, .p (.int .i64 k))]) (fun nx k => [(nx, accB 4 ((pTs c l k).map Psg.row))]) (fun k => k ≤ c.parts.length) (fun k => c.parts.length - k) 0 (by omega) ?_ ?_
  · simp [pTs, prA_pure]
    try decide
  · intro k hk
    have hpl := @pTs_len c l k
    have hps := @pTs_snoc c l k
    have hend1 : k = c.parts.length → pTs c l k = psgs c l := fun e => by rw [e]; rfl
    generalize pTs c l k = A at hpl hps hend1
    simp
    refine xif_split (fun h3 => ?_) (fun h3 => ?_)
    · simp at h3
      obtain ⟨q, e⟩ := get_lt h3
      obtain ⟨a, F⟩ := part_facts h e
      have f2 := F.pos
      have f4 := F.ltl
      simp [h3, e, Part.enc, -getElem?_pos, List.getElem?_cons_zero, List.getElem?_cons_succ]
      refine XDraw.intro (by kernel_rfl) ?_
      simp [f2, f4, Int.enc, -getElem?_pos, List.getElem?_cons_zero, List.getElem?_cons_succ]
      refine xcall_pure (c_part_Passes q.kind a) ?_
      rw [F.passes, F.placed]
      simp [Passes.av]
      refine ⟨.of (by kernel_rfl), ?_⟩
      rcases pass_cases c l k with hp | ⟨y, hp⟩
      · have hnone : pTs c l (k + 1) = A := by rw [hps]; simp [psgsFrom, hp]
        simp [hp]
        refine XLoop.goN [0, 1, 6, 19, 20, 21, 36, 37] [0, 1] 3 (fun (j : Nat) => [(5, .acc 2 4 A.length), (38, .p (.int .i64 0))]) (fun j => [(2, accB 4 (A.map Psg.row))]) (fun j => j = 0) (fun j => 1 - j) 0 rfl ?_ ?_
        · refine Leads.subx (ρ := [0, 1, 2]) ?_
          simp [prA_pure]
          try decide
        · intro j hj
          simp
          refine ⟨wrap_i64 (by omega) (by omega), k + 1, by omega, by omega, ?_⟩
          simp [hnone, prA_pure]
          try decide
      · obtain ⟨z, hz⟩ : ∃ z : Psg, z = ⟨k, netN c k y.to, y.fr.map (netN c k), y.all⟩ := ⟨_, rfl⟩
        have hone : pTs c l (k + 1) = A ++ [z] := by rw [hps, hz]; simp [psgsFrom, hp]
        obtain ⟨hto, hfr, _⟩ := pass_ports h h3 (z := y) (by rw [hp]; simp)
        have hq14 : q.kind.toNat < 14 := by have := F.kind; omega
        have hyl : y.fr.length ≤ 2 := (by decide +kernel : ∀ k, k < 14 → ∀ b, ∀ z ∈ passedOf k b, z.fr.length ≤ 2) q.kind.toNat hq14 (decide (a = 1)) y (by rw [← F.pass, hp]; simp)
        simp [hp]
        refine XLoop.goN [0, 1, 6, 19, 20, 21, 36, 37] [0, 1] 3 (fun (j : Nat) => [(5, .acc 2 4 (if j = 0 then A else A ++ [z]).length), (38, .p (.int .i64 j))]) (fun j => [(2, accB 4 ((if j = 0 then A else A ++ [z]).map Psg.row))]) (fun j => j ≤ 1) (fun j => 1 - j) 0 (by omega) ?_ ?_
        · refine Leads.subx (ρ := [0, 1, 2]) ?_
          simp [prA_pure]
          try decide
        · intro j hj
          obtain rfl | rfl : j = 0 ∨ j = 1 := by omega
          · simp
            refine XDraw.intro (by kernel_rfl) ?_
            simp
            refine xcall_gives (g_net c hc k y.to hto 0 1 _ _ (by simp) (by simp) (by simp) (by simp [plumRow]) (by simp)) ?_
            simp
            refine ⟨.of (by kernel_rfl), ?_⟩
            refine XLoop.go [0, 1, 5, 6, 12, 19, 20, 21, 36, 37, 38, 52, 53] [0, 1, 2] 1 [5] (fun st => [thirdB (get st.s 4)]) (fun nx (j : Nat) => [(54, .p (.int .i64 j))]) (fun nx j => [(nx, accB 1 ((frT c k y j).map Int.row)), (4, some (.cells 4 [[.p (.int .i64 k), .p (.int .i64 (netN c k y.to)), .acc nx 1 j, .p (.bool y.all)]]))]) (fun j => j ≤ y.fr.length) (fun j => y.fr.length - j) 0 (by omega) ?_ ?_
            · simp [frT, prA_pure]
              try decide
            · intro j hj
              have hfl := frT_len hj (c := c) (k := k)
              have hfs := @frT_snoc c k y j
              have hfe : j = y.fr.length → frT c k y j = nInts z.fr := fun e => by rw [e, hz]; simp [frT, nInts]
              generalize frT c k y j = T at hfl hfs hfe
              subst hfl
              simp
              refine xif_split (fun h4 => ?_) (fun h4 => ?_)
              · simp at h4
                obtain ⟨t, et⟩ := get_lt h4
                have hts := hfs et
                have htp := hfr t (List.mem_of_getElem? et)
                simp [h4, et, Txt.enc, -getElem?_pos, List.getElem?_cons_zero, List.getElem?_cons_succ]
                refine XDraw.intro (by kernel_rfl) ?_
                simp
                refine xcall_gives (g_net c hc k t htp 0 1 _ _ (by simp) (by simp) (by simp) (by simp [plumRow]) (by simp)) ?_
                simp
                refine ⟨by omega, .of (by kernel_rfl), wrap_i64 (by omega) (by omega), T.length + 1, by omega, by omega, ?_⟩
                simp [hts, prA_pure]
                try decide
              · simp at h4
                have hT := hfe (by omega)
                simp
                have hac : ∀ r : List AV, accB 4 (A.map Psg.row ++ [r]) = some (.cells 4 (A.map Psg.row ++ [r])) := fun r => by simp [accB]
                refine ⟨by omega, 1, by omega, by omega, ?_⟩
                refine Leads.frz_sub (B := [5]) (ρ := [0, 1, 7]) [] [(5, none), (7, some (.cells 4 (A.map Psg.row ++ [z.row])))] (Freeze.of [] _ (by simp) ?_ (by simp [keys])) ?_
                · intro p hp' x hx
                  simp only [List.mem_cons, List.not_mem_nil, or_false] at hp'
                  rcases hp' with rfl | rfl
                  · cases hx
                  · simp only [Option.some.injEq] at hx
                    subst hx
                    refine ⟨by simp, _, by simp only [get, if_pos]; exact hac _, ?_⟩
                    subst hz
                    refine FrzB.last ?_
                    exact FrzK.accRows (rows := T.map Int.row) (by simp) (by simp [get]) (by rw [hT]; simp) (by simp)
                · simp [hac, prA_pure]
                  try decide
          · simp
            refine ⟨wrap_i64 (by omega) (by omega), k + 1, by omega, by omega, ?_⟩
            simp [hone, prA_pure]
            try decide
    · simp at h3
      have hA := hend1 (by omega)
      clear hend1 hps
      subst hA
      simp
      generalize psgs c l = X
      cases X <;> simp [accB, plumRow, prA_pure] <;> decide

end Go.Am
