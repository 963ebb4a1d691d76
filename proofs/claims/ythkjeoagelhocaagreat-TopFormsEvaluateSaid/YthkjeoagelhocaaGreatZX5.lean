/- Lemmas and contracts for the proof of a statement of this seat. -/
import Derived.Test.YthkjeoagelhocaaGreatZX4
import Derived.Test.YthkjeoagelhocaaGreatZCA
import Derived.Test.YthkjeoagelhocaaGreatZA7
set_option linter.unusedVariables false
set_option linter.unusedSimpArgs false
/- Contracts: slices.AppendSeq, Collect and Sorted at ints; chapter 7. -/
namespace Go.Am
open Go Go.Proofs Go.Pn

def ints (l : List Nat) : List Int := l.map fun (k : Nat) => (k : Int)
theorem ints_row {l : List Nat} : l.map nrow = (ints l).map Int.row := by unfold ints; rw [List.map_map]; rfl
def srtN (l : List Nat) : List Nat := (sortI (ints l)).map Int.toNat
theorem srtN_perm {l : List Nat} : (srtN l).Perm l := by
  have h := (List.mergeSort_perm (ints l) (fun x y => decide (x ≤ y))).map Int.toNat
  have e : (ints l).map Int.toNat = l := by unfold ints; rw [List.map_map]; exact List.map_id'' (fun k => rfl) l
  rw [e] at h
  exact h
theorem srtN_len {l : List Nat} : (srtN l).length = l.length := srtN_perm.length_eq
theorem srtN_row {l : List Nat} : (sortI (ints l)).map Int.row = (srtN l).map nrow := by
  unfold srtN
  rw [List.map_map]
  refine List.map_congr_left fun x hx => ?_
  have h2 : x ∈ ints l := (List.mergeSort_perm (ints l) (fun x y => decide (x ≤ y))).mem_iff.1 hx
  obtain ⟨k, _, rfl⟩ := List.mem_map.1 h2
  rfl
theorem g_SortIN (l : List Nat) (s : Store) (nx b : Nat) (hg : get s b = accB 1 (l.map nrow)) (hl : l.length < 1000000) (hb : b < nx) :
    Gives Tryz.prog GL 25 [.acc b 1 l.length] s nx (.tup []) [b] [(b, accB 1 ((srtN l).map nrow))] nx := by
  by_cases h : l = []
  · subst h
    have hs : srtN [] = [] := by simp [srtN, sortI, ints]
    refine Gives.more (rd := []) (up := []) (Gives.of_acc (rest := []) (fun _ => g_SortI0 _ _) (fun h => absurd h (by simp))) (by simp) fun s1 hag b' => ?_
    by_cases e : b' = b
    · subst e
      have := hag b' (by simp)
      simp [hs] at hg ⊢
      rw [this, hg]
    · simp [get_cons_ne (Ne.symm e)]
  · have hac : accB 1 (l.map nrow) = some (.cells 1 (l.map nrow)) := by simp [accB, h]
    have h2 : srtN l ≠ [] := fun e => h (by have := @srtN_len l; rw [e] at this; simpa using this.symm)
    have hac2 : accB 1 ((srtN l).map nrow) = some (.cells 1 ((srtN l).map nrow)) := by simp [accB, h2]
    rw [hac2]
    refine Gives.of_acc (rest := []) (fun e => absurd (List.length_eq_zero_iff.1 e) h) (fun _ => ?_)
    have hs := g_SortI (ints l) s nx b none (by rw [hg, hac, ints_row]) (by unfold ints; rw [List.length_map]; omega)
    rw [srtN_row] at hs
    rw [show (ints l).length = l.length by unfold ints; rw [List.length_map]] at hs
    exact hs
@[simp] def seqN (l : List Nat) : AV := .fn (.func 137) [.iptr 1 [[.lst 1 (l.map nenc)]] 0 0]
theorem lends_ap {s : Store} {b0 b1 : Nat} {l : List Nat} (g0 : get s b0 = some (outI b1 l)) (g1 : get s b1 = accB 1 (l.map nrow)) :
    lendsOk [b0, b1] s [(0, some (outI 1 l)), (1, accB 1 (l.map nrow))] := by
  have e1 : renB [b0, b1] (outI 1 l) = some (outI b1 l) := rfl
  by_cases h : l = []
  · subst h
    simp [-renB, g0, e1]
  · have e : accB 1 (l.map nrow) = some (.cells 1 (l.map nrow)) := by simp [accB, h]
    have e3 : renB [b0, b1] (.cells 1 (l.map nrow)) = some (.cells 1 (l.map nrow)) := by show (renR _ _).map _ = _; rw [renR_map fun x => rfl]; rfl
    rw [e] at g1 ⊢
    simp [-renB, g0, g1, e1, e3]
theorem lend_allI {s : Store} {b0 b1 : Nat} {l : List Nat} (g1 : get s b1 = accB 1 (l.map nrow)) :
    ∀ b b', [b0, b1][b]? = some b' → get s b' ≠ none → ∃ y, get [(0, some (outI 1 l)), (1, accB 1 (l.map nrow))] b = some y := by
  intro b b' hb hg
  match b, hb with
  | 0, _ => exact ⟨_, rfl⟩
  | 1, hb =>
    simp at hb
    subst hb
    rw [g1] at hg
    exact Option.ne_none_iff_exists'.1 hg
set_option maxRecDepth 20000 in
theorem g_AppSeqI (l : List Nat) (hl : l.length ≤ 1000) (s : Store) (nx : Nat) :
    Gives Tryz.prog GL 145 [.nils, seqN l] s nx (.acc nx 1 l.length) [] [(nx, accB 1 (l.map nrow))] (nx + 1) := by
  refine Gives.mk_walkK (N := 13) (args := [.nils, seqN l]) [] [] [] [(0, accB 1 (l.map nrow))] 0 1 (.acc 0 1 l.length) (fun st => [nameOf (slot st.t 12)]) (up1 := [(nx, accB 1 (l.map nrow))]) Tryz.func145 rfl rfl rfl (by simp) rfl (by simp [seqN]) (by simp) (by simp) (renS_acc rfl (renR_map fun _ => rfl)) (by simp) rfl ?_
  simp [seqN]
  refine XRange.intro [2] Tryz.func137 rfl rfl fun l0 fn => ?_
  refine ⟨_, _, _, _, none, g_vals1 (i := ⟨l0, 13, fn, #[7], _, _⟩) ?_ l hl _ _ 0 1 (by simp) (by simp) rfl rfl, rfl, ?_⟩
  · intro l v s nx b0 b1 lam hlen hnd hlt g0 g1 g3
    have hnd2 : [b0, b1].Nodup := (List.nodup_cons.1 hnd).2
    have hlt2 : ∀ b ∈ [b0, b1], b < nx := fun b hb => hlt b (List.mem_cons_of_mem _ hb)
    refine GivesY.of_walkA (σ := [b0, b1]) (t0 := vaT 0) (args := [.p (.int .i64 v)]) (free := [1]) (m := 2) (x := 1) (j := none)
      (s0 := [(0, some (outI 1 l)), (1, accB 1 (l.map nrow))])
      (s1 := [(0, some (outI 2 (l ++ [v]))), (2, accB 1 ((l ++ [v]).map nrow))])
      (fun st => [cellNm 0 st]) rfl ⟨lends_ap g0 g1, lend_allI g1, hnd2, hlt2, rfl⟩ g3 (List.nodup_cons.1 hnd).1 (hlt lam (by simp)) rfl rfl (by simp) (by simp) renS_outI ?_
    simp [-renB, roundSlots, vaT, outI]
    refine ⟨by omega, XEndYL.of ⟨rfl, ?_⟩⟩
    have em : List.map nrow l ++ [[AV.p (PV.int IntKind.i64 ↑v)]] = (l ++ [v]).map nrow := by simp
    rw [em]
    have ea : accB 1 ((l ++ [v]).map nrow) = some (.cells 1 ((l ++ [v]).map nrow)) := by simp [accB]
    rw [ea]
    have e1 : renB [0, 1, 3] (.cells 1 [[.acc 2 1 (l.length + 1)]]) = some (.cells 1 [[.acc 3 1 (l.length + 1)]]) := rfl
    have e3 : renB [0, 1, 3] (.cells 1 ((l ++ [v]).map nrow)) = some (.cells 1 ((l ++ [v]).map nrow)) := by show (renR _ _).map _ = _; rw [renR_map fun x => rfl]; rfl
    refine ⟨?_, show [0, 1, 3].Nodup by decide, show [0, 1, 3].length ≤ 3 by decide⟩
    show outOk [0, 1, 3] _ _ _
    simp [-renB, e1, e3, -List.map_append]
  · simp [afterJump, outI]
    exact acc_sameI
theorem g_CollectI (l : List Nat) (hl : l.length ≤ 1000) (s : Store) (nx : Nat) :
    Gives Tryz.prog GL 136 [seqN l] s nx (.acc nx 1 l.length) [] [(nx, accB 1 (l.map nrow))] (nx + 1) := by
  refine Gives.mk_walkK (N := 5) (args := [seqN l]) [] [] [] [(0, accB 1 (l.map nrow))] 0 1 (.acc 0 1 l.length) (fun st => [nameOf (slot st.t 4)]) (up1 := [(nx, accB 1 (l.map nrow))]) Tryz.func136 rfl rfl rfl (by simp) rfl (by simp [seqN]) (by simp) (by simp) (renS_acc rfl (renR_map fun _ => rfl)) (by simp) rfl ?_
  simp
  refine xcall_gives (g_AppSeqI l hl _ _) ?_
  simp
  exact acc_sameI
theorem c_SortedI (l : List Nat) (hl : l.length ≤ 1000) : Pure Tryz.prog GL 117 [seqN l] (.p (.lst 1 ((srtN l).map nenc))) := by
  refine Pure.of_walk (N := 9) Tryz.func117 rfl rfl rfl (by simp) (by first | (simp; done) | simp [*]) ?_
  simp
  refine xcall_gives (g_CollectI l hl _ _) ?_
  simp
  refine xcall_gives (g_SortIN l _ _ 0 (by simp) (by omega) (by omega)) ?_
  simp [XEndT, srtN_len]
end Go.Am
/- Plain law: the counts of the search, the program's search as the plain one; chapter 7. -/
namespace Go.Am
open Go Go.Proofs Go.Pn

theorem withT_get {c : Cube} {L : List Nat} {i : Nat} : ∀ {j : Nat}, j ≤ L.length → (withT c L j).getD i 0 = if i < j ∧ c.has i = true then L.getD i 0 + 1 else L.getD i 0
  | 0, _ => by rw [withT_zero, if_neg (by omega)]
  | j + 1, h => by
    have ih := @withT_get c L i j (by omega)
    have hfar := @withT_far c L j j (Nat.le_refl _)
    have hl := @withT_len c L j
    rw [withT_snoc]
    by_cases hc : c.has j = true
    · rw [if_pos hc]
      by_cases hi : i = j
      · subst hi
        rw [if_pos ⟨by omega, hc⟩, hfar, List.getD_eq_getElem?_getD, List.getElem?_set_self (by omega)]
        rfl
      · rw [List.getD_eq_getElem?_getD, List.getElem?_set_ne (Ne.symm hi), ← List.getD_eq_getElem?_getD, ih]
        by_cases h2 : i < j ∧ c.has i = true
        · rw [if_pos h2, if_pos ⟨by omega, h2.2⟩]
        · rw [if_neg h2, if_neg (fun h3 => h2 ⟨by omega, h3.2⟩)]
    · rw [if_neg hc, ih]
      by_cases h2 : i < j ∧ c.has i = true
      · rw [if_pos h2, if_pos ⟨by omega, h2.2⟩]
      · rw [if_neg h2, if_neg (fun h3 => h2 ⟨by have := h3.1; have : i ≠ j := fun e => hc (e ▸ h3.2); omega, h3.2⟩)]
structure CntOk (x : Tsk) (l L : List Nat) : Prop where
  len : L.length = 64
  eq : ∀ k, L.getD k 0 = if k < p2 x.n then cntL (primesL x) l k else 0
theorem cnt_nil {x : Tsk} : CntOk x [] zeros := ⟨rfl, fun k => by
  have h0 : zeros.getD k 0 = 0 := by
    unfold zeros
    rw [List.getD_eq_getElem?_getD, List.getElem?_replicate]
    split <;> rfl
  rw [h0]
  split <;> rfl⟩
theorem cntL_le {P : List Cube} {l : List Nat} {k : Nat} : cntL P l k ≤ l.length := List.countP_le_length
theorem CntOk.le {x : Tsk} {l L : List Nat} (h : CntOk x l L) (k : Nat) : L.getD k 0 ≤ l.length := by
  rw [h.eq k]
  split
  · exact cntL_le
  · exact Nat.zero_le _
theorem CntOk.more {x : Tsk} {l L : List Nat} (h : CntOk x l L) (hn : x.n ≤ 4) (i : Nat) : CntOk x (l ++ [i]) (withT (atC (primesL x) i) L (p2 x.n)) := by
  have h16 := p2_16 hn
  have hl := h.len
  refine ⟨by rw [withT_len, hl], fun k => ?_⟩
  rw [withT_get (by omega), h.eq k]
  have e : cntL (primesL x) (l ++ [i]) k = cntL (primesL x) l k + (if (atC (primesL x) i).has k = true then 1 else 0) := by
    unfold cntL
    rw [List.countP_append, List.countP_cons, List.countP_nil, Nat.zero_add]
  by_cases hk : k < p2 x.n
  · rw [if_pos hk, if_pos hk, e]
    by_cases hc : (atC (primesL x) i).has k = true
    · rw [if_pos ⟨hk, hc⟩, if_pos hc]
    · rw [if_neg (fun h => hc h.2), if_neg hc]; rfl
  · rw [if_neg hk, if_neg hk, if_neg (fun h => hk h.1)]
theorem open_eq {x : Tsk} {l L : List Nat} (h : CntOk x l L) : openT x L (p2 x.n) = openL x (primesL x) l := by
  unfold openT openL
  refine List.filter_congr fun k hk => ?_
  have hk2 : k < p2 x.n := List.mem_range.1 hk
  rw [h.eq k, if_pos hk2]
theorem own_eq {P : List Cube} {k : Nat} : ownT P k P.length = ownersL P k := rfl
theorem pop_ones : ∀ a < 16, popN a = onesN a := by decide +kernel

/- The search's equations. -/
def betO (x : Tsk) (l : List Nat) (o : Option (List Nat)) : Bool := betB x o.isSome l (o.getD [])
theorem betO_none {x : Tsk} {l : List Nat} : betO x l none = true := rfl
def searchS (x : Tsk) (most n : Nat) (l : List Nat) (o : Option (List Nat)) : Option (List Nat) := coverS x (primesL x) (betO x) (fun l => srtN l) most n l o
def wideN (x : Tsk) : Nat := widestN x.n (primesL x)
theorem search_done {x : Tsk} {most n : Nat} {l : List Nat} {o : Option (List Nat)} (h : openL x (primesL x) l = []) : searchS x most n l o = if betO x (srtN l) o then some (srtN l) else o := by
  unfold searchS coverS
  rw [h]
theorem search_far {x : Tsk} {most n : Nat} {l : List Nat} {o : Option (List Nat)} (h : openL x (primesL x) l ≠ []) (h2 : (most - l.length) * wideN x < (openL x (primesL x) l).length) : searchS x most n l o = o := by
  unfold searchS coverS
  cases e : openL x (primesL x) l with
  | nil => exact absurd e h
  | cons k ks =>
    rw [e] at h2
    simp only
    rw [if_pos (by simpa [wideN] using h2)]
theorem search_step {x : Tsk} {most n : Nat} {l : List Nat} {o : Option (List Nat)} {k : Nat} (h : (openL x (primesL x) l)[0]? = some k) (h2 : ¬ (most - l.length) * wideN x < (openL x (primesL x) l).length) : searchS x most (n + 1) l o = (ownersL (primesL x) k).foldl (fun b i => searchS x most n (l ++ [i]) b) o := by
  unfold searchS
  rw [coverS]
  cases e : openL x (primesL x) l with
  | nil => rw [e] at h; cases h
  | cons a ks =>
    rw [e] at h h2
    have : a = k := by simpa using h
    subst this
    simp only
    rw [if_neg (by simpa [wideN] using h2)]
def tryF (x : Tsk) (most n : Nat) (l : List Nat) (o : Option (List Nat)) (O : List Nat) (j : Nat) : Option (List Nat) := (O.take j).foldl (fun b i => searchS x most n (l ++ [i]) b) o
theorem tryF_zero {x : Tsk} {most n : Nat} {l : List Nat} {o : Option (List Nat)} {O : List Nat} : tryF x most n l o O 0 = o := rfl
theorem tryF_snoc {x : Tsk} {most n : Nat} {l : List Nat} {o : Option (List Nat)} {O : List Nat} {j i : Nat} (e : O[j]? = some i) : tryF x most n l o O (j + 1) = searchS x most n (l ++ [i]) (tryF x most n l o O j) := by
  unfold tryF
  rw [take_snoc e, List.foldl_append]; rfl
theorem tryF_all {x : Tsk} {most n : Nat} {l : List Nat} {o : Option (List Nat)} {O : List Nat} : tryF x most n l o O O.length = O.foldl (fun b i => searchS x most n (l ++ [i]) b) o := by
  unfold tryF
  rw [List.take_length]
def GoodS (x : Tsk) (most : Nat) (o : Option (List Nat)) : Prop := GoodC x (primesL x) most o
theorem search_good {x : Tsk} {most n : Nat} {l : List Nat} {o : Option (List Nat)} (hl : l.length ≤ most) (hm : ∀ i ∈ l, i < (primesL x).length) (h : GoodS x most o) : GoodS x most (searchS x most n l o) :=
  coverS_sound (fun _ => srtN_perm) n l o hl hm h
theorem tryF_good {x : Tsk} {most n : Nat} {l : List Nat} {o : Option (List Nat)} {O : List Nat} (hl : l.length < most) (hm : ∀ i ∈ l, i < (primesL x).length) (hO : ∀ i ∈ O, i < (primesL x).length) (h : GoodS x most o) : ∀ {j : Nat}, GoodS x most (tryF x most n l o O j)
  | 0 => h
  | j + 1 => by
    have ih := @tryF_good x most n l o O hl hm hO h j
    cases e : O[j]? with
    | none =>
      have hj : O.length ≤ j := List.getElem?_eq_none_iff.1 e
      have : tryF x most n l o O (j + 1) = tryF x most n l o O j := by unfold tryF; rw [List.take_of_length_le (by omega), List.take_of_length_le hj]
      rw [this]; exact ih
    | some i =>
      rw [tryF_snoc e]
      refine search_good (by rw [List.length_append]; exact hl) (fun a ha => ?_) ih
      rcases List.mem_append.1 ha with ha | ha
      · exact hm a ha
      · have : a = i := by simpa using ha
        subst this
        exact hO a (List.mem_of_getElem? e)
theorem GoodS.get {x : Tsk} {most : Nat} {o : Option (List Nat)} (h : GoodS x most o) : (o.getD []).length ≤ most ∧ ∀ i ∈ o.getD [], i < (primesL x).length := by
  cases o with
  | none => exact ⟨Nat.zero_le _, fun i hi => by cases hi⟩
  | some b => exact ⟨(h b rfl).2.2, (h b rfl).1⟩
end Go.Am
/- Contracts: package minimal: the search for the best cover; chapter 7. -/
namespace Go.Am
open Go Go.Proofs Go.Pn

def bstC (o : Option (List Nat)) : ABlk := .cells 1 [[.p (.lst 1 ((o.getD []).map nenc))]]
def fndC (o : Option (List Nat)) : ABlk := .cells 1 [[.p (.bool o.isSome)]]
@[simp] theorem bstC_ren {ρ : List Nat} {o : Option (List Nat)} : renB ρ (bstC o) = some (bstC o) := rfl
@[simp] theorem fndC_ren {ρ : List Nat} {o : Option (List Nat)} : renB ρ (fndC o) = some (fndC o) := rfl
def cBet (bf bw bb : Nat) : ABlk := .cells 1 [[.fn (.func 113) [.ptr bf 1 0 0, .ptr bw 1 0 0, .ptr bb 1 0 0]]]
def cCov (bw bt bb bf bm bd bc : Nat) : ABlk := .cells 1 [[.fn (.func 115) [.ptr bw 1 0 0, .ptr bt 1 0 0, .ptr bb 1 0 0, .ptr bf 1 0 0, .ptr bm 1 0 0, .ptr bd 1 0 0, .ptr bc 1 0 0]]]
def wrkC (x : Tsk) : ABlk := .cells 1 [[x.work]]
def intC (n : Nat) : ABlk := .cells 1 [[.p (.int .i64 n)]]
theorem wrkC_ren {ρ : List Nat} {x : Tsk} : renB ρ (wrkC x) = some (wrkC x) := rfl
theorem intC_ren {ρ : List Nat} {n : Nat} : renB ρ (intC n) = some (intC n) := rfl
def covS (x : Tsk) (most : Nat) (o : Option (List Nat)) : Store :=
  [(0, some (wrkC x)), (1, some (cBet 3 0 2)), (2, some (bstC o)), (3, some (fndC o)), (4, some (intC most)), (5, some (intC (wideN x))), (6, some (cCov 0 1 2 3 4 5 6))]
theorem cov_lends {x : Tsk} {most : Nat} {o : Option (List Nat)} {s : Store} {nx bw bt bb bf bm bd bc : Nat} {L : List Nat} {y : PV} (hnd : [bw, bt, bb, bf, bm, bd, bc].Nodup) (hlt : ∀ b ∈ [bw, bt, bb, bf, bm, bd, bc], b < nx)
    (g0 : get s bw = some (wrkC x)) (g1 : get s bt = some (cBet bf bw bb)) (g2 : get s bb = some (bstC o)) (g3 : get s bf = some (fndC o)) (g4 : get s bm = some (intC most)) (g5 : get s bd = some (intC (wideN x))) (g6 : get s bc = some (cCov bw bt bb bf bm bd bc)) :
    LendsX [bw, bt, bb, bf, bm, bd, bc] nx (covS x most o) s [.agg (L.map nav), .p y, .ptr 0 1 0 0, .ptr 1 1 0 0, .ptr 2 1 0 0, .ptr 3 1 0 0, .ptr 4 1 0 0, .ptr 5 1 0 0, .ptr 6 1 0 0] [.agg (L.map nav), .p y, .ptr bw 1 0 0, .ptr bt 1 0 0, .ptr bb 1 0 0, .ptr bf 1 0 0, .ptr bm 1 0 0, .ptr bd 1 0 0, .ptr bc 1 0 0] := by
  have e1 : renB [bw, bt, bb, bf, bm, bd, bc] (cBet 3 0 2) = some (cBet bf bw bb) := rfl
  have e6 : renB [bw, bt, bb, bf, bm, bd, bc] (cCov 0 1 2 3 4 5 6) = some (cCov bw bt bb bf bm bd bc) := rfl
  refine ⟨?_, rfl, hnd, hlt, ?_⟩
  · simp [-renB, covS, g0, g1, g2, g3, g4, g5, g6, e1, e6, wrkC_ren, intC_ren]
  · simp
theorem wkn_bst {o : Option (List Nat)} : wknB (bstC o) (bstC o) := .inl rfl
theorem wkn_fnd {o : Option (List Nat)} : wknB (fndC o) (fndC o) := .inl rfl
theorem unp_snoc {l : List Nat} {i : Nat} : unpR (List.map ((fun x => List.map AV.p x) ∘ nenc) l ++ [[AV.p (PV.int IntKind.i64 ↑i)]]) = some (List.map nenc l ++ [[PV.int IntKind.i64 ↑i]]) := by
  have h := unpR_map (f := nrow) (g := nenc) (fun _ => rfl) (l ++ [i])
  rw [List.map_append, List.map_append] at h
  exact h
theorem widest_le {n W : Nat} : ∀ {P : List Cube} {w : Nat}, w ≤ W → 2 ^ n ≤ W → P.foldl (fun w c => max w (2 ^ (n - popN c.care))) w ≤ W
  | [], w, h, _ => h
  | c :: P, w, h, h2 => by
    rw [List.foldl_cons]
    refine widest_le ?_ h2
    have : 2 ^ (n - popN c.care) ≤ 2 ^ n := Nat.pow_le_pow_right (by decide) (by omega)
    omega
theorem wide_le {x : Tsk} (hn : x.n ≤ 4) : wideN x ≤ 16 := by
  unfold wideN widestN
  exact widest_le (by decide) (p2_16 hn)
def CoverOK (x : Tsk) (most n : Nat) : Prop := ∀ (l L : List Nat) (o : Option (List Nat)) (s : Store) (nx bw bt bb bf bm bd bc : Nat), n + l.length = most → (∀ i ∈ l, i < (primesL x).length) → CntOk x l L → GoodS x most o → [bw, bt, bb, bf, bm, bd, bc].Nodup → (∀ b ∈ [bw, bt, bb, bf, bm, bd, bc], b < nx) →
  get s bw = some (wrkC x) → get s bt = some (cBet bf bw bb) → get s bb = some (bstC o) → get s bf = some (fndC o) → get s bm = some (intC most) → get s bd = some (intC (wideN x)) → get s bc = some (cCov bw bt bb bf bm bd bc) →
  Gives Tryz.prog GL 115 [.agg (L.map nav), .p (.lst 1 (l.map nenc)), .ptr bw 1 0 0, .ptr bt 1 0 0, .ptr bb 1 0 0, .ptr bf 1 0 0, .ptr bm 1 0 0, .ptr bd 1 0 0, .ptr bc 1 0 0] s nx (.tup []) [bw, bt, bb, bf, bm, bd, bc]
    [(bb, some (bstC (searchS x most n l o))), (bf, some (fndC (searchS x most n l o)))] nx
set_option maxRecDepth 20000 in
theorem g_cover_step (x : Tsk) (hx : x.Right) (most n : Nat) (hm : most ≤ 256) (ih : ∀ m, n = m + 1 → CoverOK x most m) : CoverOK x most n := by
  intro l L o s nx bw bt bb bf bm bd bc hn hl hc ho hnd hlt g0 g1 g2 g3 g4 g5 g6
  refine Gives.mk_walkK (N := 69) (args := [.agg (L.map nav), .p (.lst 1 (l.map nenc)), .ptr 0 1 0 0, .ptr 1 1 0 0, .ptr 2 1 0 0, .ptr 3 1 0 0, .ptr 4 1 0 0, .ptr 5 1 0 0, .ptr 6 1 0 0]) [bw, bt, bb, bf, bm, bd, bc] []
    (covS x most o) [(2, some (bstC (searchS x most n l o))), (3, some (fndC (searchS x most n l o)))] 7 0 (.tup []) (fun _ => []) (up1 := [(bb, some (bstC (searchS x most n l o))), (bf, some (fndC (searchS x most n l o)))]) Tryz.func115 rfl rfl rfl (by simp) rfl
    (cov_lends hnd hlt g0 g1 g2 g3 g4 g5 g6) (by simp) rfl rfl (by simp) rfl ?_
  have hlen := hc.len
  have hO := c_minimal_work_open x L hx hc.len
  rw [open_eq hc] at hO
  have hw := wide_le hx.n
  have hob := ho.get
  have hdone := search_done (x := x) (most := most) (n := n) (l := l) (o := o)
  have hfar := search_far (x := x) (most := most) (n := n) (l := l) (o := o)
  have hstep := fun m k => search_step (x := x) (most := most) (n := m) (l := l) (o := o) (k := k)
  have hkm : ∀ k ∈ openL x (primesL x) l, k < p2 x.n := fun k hk => (openL_mem.1 hk).1
  have hll : (openL x (primesL x) l).length ≤ 16 := by
    have h1 := @openT_len x L (p2 x.n)
    rw [open_eq hc] at h1
    have := p2_16 hx.n
    omega
  generalize openL x (primesL x) l = left at hO hdone hfar hstep hkm hll
  rw [show most - l.length = n by omega] at hfar
  have hT : List.take 64 (List.map nav L) = List.map nav L := List.take_of_length_le (by rw [List.length_map, hlen]; exact Nat.le_refl _)
  simp [covS, hlen, wrkC, intC, cBet, cCov, hT]
  refine xcall_pure hO ?_
  simp
  refine xif_split (fun h => ?_) (fun h => ?_)
  · simp at h
    have hd := hdone (by first | exact h | exact List.length_eq_zero_iff.1 h)
    have hV := c_ValsI l
    have hS := c_SortedI l (by omega)
    have hsl : (srtN l).length ≤ 256 := by rw [srtN_len]; omega
    have hsm : ∀ i ∈ srtN l, i < (primesL x).length := fun i hi => hl i (srtN_perm.mem_iff.1 hi)
    simp
    refine xcall_pure hV ?_
    simp
    refine xcall_pure hS ?_
    simp
    refine xcall_gives (g_better x o.isSome (srtN l) (o.getD []) hx hsl hsm (by omega) hob.2 _ _ 3 0 2 (by simp) (by simp) rfl rfl rfl) ?_
    rw [show betB x o.isSome (srtN l) (o.getD []) = betO x (srtN l) o from rfl]
    cases hb : betO x (srtN l) o with
    | true =>
      rw [hb, if_pos rfl] at hd
      rw [hd]
      simp [-renB, bstC, fndC]
      simp [-renB, renB_cellsR, covS, wrkC, intC, cBet, cCov, bstC, fndC]
      try decide
    | false =>
      rw [hb, if_neg Bool.false_ne_true] at hd
      rw [hd]
      simp [-renB]
      simp [-renB, renB_cellsR, covS, wrkC, intC, cBet, cCov]
      try decide
  · simp at h
    have hne : left ≠ [] := by rintro rfl; simp at h
    obtain ⟨k, e⟩ := get_lt (List.length_pos_iff.2 hne)
    have hsub : (most : Int) - l.length = n := by omega
    obtain ⟨pr, hpr, hpe⟩ : ∃ pr : Nat, (n : Int) * (wideN x : Int) = pr ∧ n * wideN x = pr := ⟨_, (Int.natCast_mul ..).symm, rfl⟩
    have hpl : pr ≤ 256 * 16 := hpe ▸ Nat.mul_le_mul (by omega) hw
    simp [hsub, hpr]
    have hfar2 := hfar hne
    rw [hpe] at hfar2
    refine ⟨wrap_i64 (by omega) (by omega), wrap_i64 (by omega) (by omega), ?_⟩
    refine xif_split (fun h2 => ?_) (fun h2 => ?_)
    · simp at h2
      have hd := hfar2 h2
      rw [hd]
      simp [-renB]
      simp [-renB, renB_cellsR, covS, wrkC, intC, cBet, cCov]
      try decide
    simp at h2
    obtain ⟨m, rfl⟩ : ∃ m, n = m + 1 := by
      cases n with
      | zero =>
        rw [Nat.zero_mul] at hpe
        have := List.length_pos_iff.2 hne
        omega
      | succ m => exact ⟨m, rfl⟩
    have hst := hstep m k e (by rw [show most - l.length = m + 1 by omega, hpe]; omega)
    have hk := hkm k (List.mem_of_getElem? e)
    have hW := c_minimal_work_owners x k hx hk
    rw [own_eq] at hW
    have hpl2 := primesL_len hx.n
    have hOw : ∀ i ∈ ownersL (primesL x) k, i < (primesL x).length := fun i hi => (ownersL_mem.1 hi).1
    have hOl : (ownersL (primesL x) k).length ≤ 256 := by
      have := @ownT_len (primesL x) k (primesL x).length
      rw [own_eq] at this
      omega
    generalize ownersL (primesL x) k = O at hW hst hOw hOl
    rw [← tryF_all] at hst
    have h0 : 0 < left.length := List.length_pos_iff.2 hne
    simp
    refine XDraw.intro (by kernel_rfl) ?_
    simp [e, h0, -getElem?_pos, List.getElem?_cons_zero, List.getElem?_cons_succ]
    refine xcall_pure hW ?_
    simp
    refine ⟨.of (by kernel_rfl), ?_⟩
    have hlm : l.length < most := by omega
    refine XLoop.go [1, 2, 8, 9, 41, 42] [0, 1, 4, 5, 6, 7] 0 [] (fun _ => []) (fun _ (j : Nat) => [(43, .p (.int .i64 j))]) (fun _ j => [(2, some (bstC (tryF x most m l o O j))), (3, some (fndC (tryF x most m l o O j)))]) (fun j => j ≤ O.length) (fun j => O.length - j) 0 (by omega) ?_ ?_
    · simp [-renB, renB_cellsR, tryF_zero]
      try decide
    intro j hj
    simp [-renB]
    refine xif_split (fun h3 => ?_) (fun h3 => ?_)
    · simp at h3
      obtain ⟨i, e3⟩ := get_lt h3
      have hi := hOw i (List.mem_of_getElem? e3)
      obtain ⟨c, e4⟩ := get_lt hi
      have hcs := primes_small hx.n e4
      have hwi := c_minimal_work_with x L c hx hlen (fun q => by have := hc.le q; omega) (by omega)
      have hmo := hc.more hx.n i
      rw [atC_eq e4] at hmo
      have hgo : GoodS x most (tryF x most m l o O j) := tryF_good hlm hl hOw ho
      have hsn := tryF_snoc (x := x) (most := most) (n := m) (l := l) (o := o) e3
      have hl2 : ∀ a ∈ l ++ [i], a < (primesL x).length := fun a ha => by
        rcases List.mem_append.1 ha with ha | ha
        · exact hl a ha
        · rw [List.mem_singleton.1 ha]; exact hi
      simp [-renB, h3, e3, -getElem?_pos, List.getElem?_cons_zero, List.getElem?_cons_succ]
      refine XDraw.intro (by kernel_rfl) ?_
      simp [-renB, e4, hi, hT, -getElem?_pos, List.getElem?_cons_zero, List.getElem?_cons_succ]
      refine ⟨by omega, xcall_pure hwi ?_⟩
      simp [-renB]
      refine xdec_split (fun h4 => ?_) (fun h4 => ?_)
      · subst h4
        simp [-renB]
        refine xcall_give2 (x := .p (.lst 1 ((([] : List Nat) ++ [i]).map nenc))) (B := [9]) ?_ (ih m rfl (([] : List Nat) ++ [i]) (withT c L (p2 x.n)) (tryF x most m ([] : List Nat) o O j) _ 10 0 1 2 3 4 5 6 (by rw [List.length_append]; simp; omega) hl2 hmo hgo (by simp) (by simp) ?_ ?_ ?_ ?_ ?_ ?_ ?_) ?_ ?_
        · first | (simp; done) | (simp; rw [List.take_of_length_le (by simp)]; exact unp_snoc)
        any_goals rfl
        rw [← hsn]
        simp [-renB, renB_cellsR]
        exact ⟨.of (by kernel_rfl), wrap_i64 (by omega) (by omega), j + 1, by omega, by omega, by simp, ⟨wkn_bst, wkn_fnd⟩, by decide⟩
      · have h5 : ∀ r ∈ l, [r].length = 1 := fun _ _ => rfl
        simp [-renB, h4]
        refine ⟨by omega, ?_⟩
        refine xcall_give2 (x := .p (.lst 1 ((l ++ [i]).map nenc))) (B := [9]) ?_ (ih m rfl (l ++ [i]) (withT c L (p2 x.n)) (tryF x most m l o O j) _ 10 0 1 2 3 4 5 6 (by rw [List.length_append]; simp; omega) hl2 hmo hgo (by simp) (by simp) ?_ ?_ ?_ ?_ ?_ ?_ ?_) ?_ ?_
        · first | (simp; done) | (simp; rw [List.take_of_length_le (by simp)]; exact unp_snoc)
        any_goals rfl
        rw [← hsn]
        simp [-renB, renB_cellsR]
        exact ⟨.of (by kernel_rfl), wrap_i64 (by omega) (by omega), j + 1, by omega, by omega, by simp, ⟨wkn_bst, wkn_fnd⟩, by decide⟩
    · simp at h3
      have hjl : j = O.length := by omega
      subst hjl
      rw [← hst]
      simp [-renB]
      simp [-renB, renB_cellsR, covS, wrkC, intC, cBet, cCov]
      try decide
end Go.Am
/- Contracts: package minimal: covered, least, Form; chapter 7. -/
namespace Go.Am
open Go Go.Proofs Go.Pn

theorem g_cover (x : Tsk) (hx : x.Right) (most : Nat) (hm : most ≤ 256) : ∀ n, CoverOK x most n
  | 0 => g_cover_step x hx most 0 hm (fun m h => by cases h)
  | n + 1 => g_cover_step x hx most (n + 1) hm (fun m h => by
      have : m = n := by omega
      subst this
      exact g_cover x hx most hm m)
theorem ones_le4 : ∀ n < 5, ∀ a < 2 ^ n, onesN a ≤ n := by decide +kernel
theorem ones_n {n a : Nat} (hn : n ≤ 4) (h : a < 2 ^ n) : onesN a ≤ n := ones_le4 n (by omega) a h
def widT (n : Nat) (P : List Cube) (j : Nat) : Nat := (P.take j).foldl (fun w c => max w (2 ^ (n - popN c.care))) 1
theorem widT_zero {n : Nat} {P : List Cube} : widT n P 0 = 1 := rfl
theorem widT_snoc {n : Nat} {P : List Cube} {j : Nat} {c : Cube} (e : P[j]? = some c) (hc : c.care < 16) : widT n P (j + 1) = max (widT n P j) (p2 (n - onesN c.care)) := by
  unfold widT p2
  rw [take_snoc e, List.foldl_append, ← pop_ones _ hc]; rfl
theorem widT_all {x : Tsk} : widT x.n (primesL x) (primesL x).length = wideN x := by unfold widT wideN widestN; rw [List.take_length]
theorem widT_le {n : Nat} {P : List Cube} {j : Nat} (hn : n ≤ 4) : widT n P j ≤ 16 := widest_le (by decide) (p2_16 hn)
theorem max_nat {a b : Nat} : max (a : Int) (b : Int) = ((max a b : Nat) : Int) := by omega
def bestS (x : Tsk) (most : Nat) : Option (List Nat) := searchS x most most [] none
theorem good_none {x : Tsk} {most : Nat} : GoodS x most none := fun b h => by cases h
theorem bst_nil {ρ : List Nat} : withSome (renB ρ (bstC none)) fun z => wknB (.cells 1 [[.nils]]) z := .inr ⟨1, _, _, rfl, rfl, by simp⟩
set_option maxRecDepth 20000 in
theorem c_minimal_work_covered (x : Tsk) (most : Nat) (hx : x.Right) (hm : most ≤ 256) : Pure Tryz.prog GL 89 [x.work, .p (.int .i64 most)] (.tup [.p (.lst 1 (((bestS x most).getD []).map nenc)), .p (.bool (bestS x most).isSome)]) := by
  refine Pure.of_walk (N := 43) Tryz.func89 rfl rfl rfl (by simp) (by first | (simp; done) | simp [*]) ?_
  have hpl := primesL_len hx.n
  have hsm := @primes_small x hx.n
  have hok : ∀ (j : Nat) (c : Cube), (primesL x)[j]? = some c → c.care < 2 ^ x.n := fun j c e => (primesL_mem.1 (List.mem_of_getElem? e)).ok.care
  have hn := hx.n
  simp
  refine XLoop.go [2, 3, 6, 7, 8, 9, 17, 18] [0, 1, 3, 4] 0 [] (fun _ => []) (fun _ (j : Nat) => [(19, .p (.int .i64 j))]) (fun _ j => [(5, some (intC (widT x.n (primesL x) j))), (2, some (bstC none))]) (fun j => j ≤ (primesL x).length) (fun j => (primesL x).length - j) 0 (by omega) ?_ ?_
  · simp [widT_zero, intC]
    exact bst_nil (ρ := List.range 6)
  intro j hj
  simp [intC]
  refine xif_split (fun h => ?_) (fun h => ?_)
  · simp at h
    obtain ⟨c, e⟩ := get_lt h
    obtain ⟨hc1, hc2⟩ := hsm e
    have h4 := ones_n hx.n (hok j c e)
    have hO := c_math_bits_OnesCount c.care hc1
    have hsn := widT_snoc (n := x.n) e hc1
    have hw := @widT_le x.n (primesL x) j hx.n
    simp [h, e, -getElem?_pos, List.getElem?_cons_zero, List.getElem?_cons_succ]
    refine XDraw.intro (by kernel_rfl) ?_
    simp [e, -getElem?_pos, List.getElem?_cons_zero, List.getElem?_cons_succ]
    refine xcall_pure hO ?_
    simp
    have h16 : p2 (x.n - onesN c.care) ≤ 16 := p2_16 (by omega)
    refine ⟨wrap_i64 (by omega) (by omega), ⟨h4, by omega, wrap_n (by omega)⟩, .of (by kernel_rfl), wrap_i64 (by omega) (by omega), j + 1, by omega, by omega, by omega, ?_⟩
    rw [max_nat, ← hsn]
    exact ⟨.inl rfl, .inl rfl⟩
  · simp at h
    have hkn : j = (primesL x).length := by omega
    subst hkn
    simp [widT_all]
    refine xcall_gives (Gives.give2 (B := []) (.one _ _ (.nils 1)) (by simp) (g_cover x hx most hm most [] zeros none _ 7 0 4 2 3 1 5 6 (by simp) (fun i hi => by cases hi) cnt_nil good_none (by simp) (by simp) rfl rfl rfl rfl rfl rfl rfl)) ?_
    rw [show searchS x most most [] none = bestS x most from rfl]
    simp [-renB, bstC, fndC]
    refine XDraw.intro (by kernel_rfl) ?_
    simp
    exact ⟨.of (by kernel_rfl), by simp [XEndT]⟩

def leastN (x : Tsk) : List Nat := leastS x (primesL x) (betO x) (fun l => srtN l)
def leastF (x : Tsk) (fuel most : Nat) : Option (List Nat) := leastGo x (primesL x) (betO x) (fun l => srtN l) fuel most
theorem leastF_zero {x : Tsk} {j : Nat} : leastF x 0 j = none := rfl
theorem leastF_snoc {x : Tsk} {f j : Nat} : leastF x (f + 1) j = match bestS x j with
    | some l => some l
    | none => leastF x f (j + 1) := rfl
theorem leastN_eq {x : Tsk} : leastN x = (leastF x ((primesL x).length + 1) 0).getD [] := rfl
theorem all_cover {x : Tsk} : Covers x (primesL x) (List.range (primesL x).length) := fun k hk ho => by
  obtain ⟨c, hc, hh⟩ := primes_cover (x := x) k hk ho
  obtain ⟨i, hi, rfl⟩ := mem_atC hc
  exact ⟨i, List.mem_range.2 hi, hh⟩
theorem least_facts {x : Tsk} (hn : x.n ≤ 4) : (leastN x).length ≤ (primesL x).length ∧ (∀ i ∈ leastN x, i < (primesL x).length) ∧ Covers x (primesL x) (leastN x) := by
  obtain ⟨_, h1, h2, h3, _⟩ := least_cover (x := x) (P := primesL x) (bet := betO x) (srt := fun l => srtN l) hn (fun c hc => (primesL_mem.1 hc).ok) (fun _ => rfl) (fun _ => srtN_perm) all_cover
  exact ⟨h1, h2, h3⟩
theorem c_minimal_work_least (x : Tsk) (hx : x.Right) : Pure Tryz.prog GL 52 [x.work] (.p (.lst 1 ((leastN x).map nenc))) := by
  refine Pure.of_walk (N := 23) Tryz.func52 rfl rfl rfl (by simp) (by first | (simp; done) | simp [*]) ?_
  have hpl := primesL_len hx.n
  simp
  refine XLoop.go [0] [] 0 [] (fun _ => []) (fun _ (j : Nat) => [(3, .p (.int .i64 j))]) (fun _ _ => []) (fun j => j ≤ (primesL x).length + 1 ∧ leastF x ((primesL x).length + 1 - j) j = leastF x ((primesL x).length + 1) 0) (fun j => (primesL x).length + 1 - j) 0 ⟨by omega, rfl⟩ ?_ ?_
  · simp
    try decide
  rintro j ⟨hj, hq⟩
  simp
  refine xif_split (fun h => ?_) (fun h => ?_)
  · simp at h
    have hC := c_minimal_work_covered x j hx (by omega)
    have hs := leastF_snoc (x := x) (f := (primesL x).length - j) (j := j)
    rw [show (primesL x).length - j + 1 = (primesL x).length + 1 - j by omega, hq] at hs
    simp
    refine xcall_pure hC ?_
    cases hb : bestS x j with
    | some l =>
      rw [hb] at hs
      have e : leastN x = l := by rw [leastN_eq, hs]; rfl
      rw [e]
      simp [XEndT]
    | none =>
      rw [hb] at hs
      simp
      refine ⟨wrap_i64 (by omega) (by omega), j + 1, ⟨by omega, ?_⟩, by omega, by omega⟩
      rw [hs, show (primesL x).length + 1 - (j + 1) = (primesL x).length - j by omega]
  · simp at h
    have hkn : j = (primesL x).length + 1 := by omega
    subst hkn
    rw [Nat.sub_self, leastF_zero] at hq
    have e : leastN x = [] := by rw [leastN_eq, ← hq]; rfl
    rw [e]
    simp [XEndT]
def formN (x : Tsk) : List Cube := formS x (betO x) (fun l => srtN l)
theorem formN_eq {x : Tsk} : formN x = (leastN x).map (atC (primesL x)) := rfl
theorem c_minimal_Form (x : Tsk) (hx : x.Right) : Pure Tryz.prog GL 22 [x.av] (.tup [.p (.lst 2 ((formN x).map Cube.enc)), .p (.int .i64 0)]) := by
  refine Pure.of_walk (N := 18) Tryz.func22 rfl rfl rfl (by simp) (by first | (simp; done) | simp [*]) ?_
  have hA := c_minimal_few x hx
  have hB := c_minimal_work_least x hx
  obtain ⟨h1, h2, _⟩ := least_facts hx.n
  have hpl := primesL_len hx.n
  have hC := c_minimal_work_chosen x (leastN x) hx (by omega) h2
  rw [← formN_eq] at hC
  simp
  refine xcall_pure hA ?_
  simp
  refine xcall_pure hB ?_
  simp
  refine xcall_pure hC ?_
  simp [XEndT]
end Go.Am
