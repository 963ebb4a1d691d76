/- Lemmas and contracts for the proof of a statement of this seat. -/
import Derived.Test.YtmgemgdljjblmaaGreatDoorZC5
import Derived.Test.YtmgemgdljjblmaaGreatDoorZA6
set_option linter.unusedVariables false
set_option linter.unusedSimpArgs false
/- Contracts: package circuit: Limits. -/
namespace Go.Am
open Go Go.Proofs Go.Pn

theorem c_circuit_Limits_1 (c : Circuit) (s : Txt) (hs : Sized c) : Pure Go.Proofs.Tryz.prog GL 93 [.p (.str s), .iptr 2 [[.lst 3 (c.parts.map Part.enc), .lst 4 (c.pipes.map Pipe.enc)]] 0 0] (.p (.int .i64 (swAt c s))) := by
  refine Pure.of_walk (N := 20) Go.Proofs.Tryz.func93 rfl rfl rfl (by simp) (by first | (simp; done) | simp [*]) ?_
  simp
  refine xcall_pure (c_circuit_find c s hs) ?_
  rw [← partI, swAt]
  have h0 := partI_cases c s
  generalize partI c s = k at *
  rcases h0 with hk | ⟨j, x, hk, e, _⟩
  · simp [hk]
    simp [swK, XEndT]
  · obtain ⟨hj, _⟩ := List.getElem?_eq_some_iff.1 e
    have hka : kindAt c (j : Int) = x.kind := by rw [kindAt, Int.toNat_natCast, e]; rfl
    have hk0 : 0 ≤ (j : Int) := by omega
    simp [hk, hk0]
    simp [hj, e, -getElem?_pos, List.getElem?_cons_zero, List.getElem?_cons_succ]
    by_cases h1 : x.kind = 6
    · simp [h1]
      simp [XEndT, swK, hk, hka, h1]
    · simp [h1]
      simp [XEndT, swK, hk, hka, h1, hk0]

theorem c_circuit_Limits (c : Circuit) (s : Txt) (hs : Sized c) (hl : s.length < 4611686018427387900) : Pure Go.Proofs.Tryz.prog GL 21 [c.av, .p (.str s)] (.tup [.p (.int .i64 (limAt c s 48)), .p (.int .i64 (limAt c s 49)), .p (.int .i64 (limErr c s))]) := by
  refine Pure.of_walk (N := 38) Go.Proofs.Tryz.func21 rfl rfl rfl (by simp) (by first | (simp; done) | simp [*]) ?_
  simp
  refine xcall_pure (c_circuit_Check c hs) ?_
  by_cases hc : checkP c = 0
  · simp [hc]
    refine xcall_pure (c_circuit_find c s hs) ?_
    rw [← partI]
    rcases partI_cases c s with hk | ⟨j, x, hk, e, _⟩
    · simp [hk]
      simp [limErr, limAt, hc, hk, XEndT]
    · obtain ⟨hj, _⟩ := List.getElem?_eq_some_iff.1 e
      have hka : kindAt c (j : Int) = x.kind := by rw [kindAt, Int.toNat_natCast, e]; rfl
      have hk0 : ¬ (j : Int) < 0 := by omega
      simp [hk, hk0]
      simp [hj, e, -getElem?_pos, List.getElem?_cons_zero, List.getElem?_cons_succ]
      by_cases h1 : x.kind = 1
      · simp [h1]
        refine ⟨by omega, ?_⟩
        refine xcall_lent ?_
        simp
        refine ⟨_, c_circuit_Limits_1 c (s ++ [48]) hs, rfl, ?_⟩
        refine ⟨by omega, ?_⟩
        refine xcall_lent ?_
        simp
        refine ⟨_, c_circuit_Limits_1 c (s ++ [49]) hs, rfl, ?_⟩
        simp [limErr, limAt, hc, hk, hka, h1, XEndT, hk0]
      · simp [h1]
        simp [limErr, limAt, hc, hk, hka, h1, XEndT, hk0]
  · simp [hc, XEndT, limErr, limAt]

end Go.Am
/- Contracts: package circuit: moved. -/
namespace Go.Am
open Go Go.Proofs Go.Pn

def mapPipe (g : Int → Int) (x : Pipe) : Pipe := ⟨⟨g x.fr.part, x.fr.name⟩, ⟨g x.to.part, x.to.name⟩⟩
def mapPipes (g : Int → Int) (l : List Pipe) : List Pipe := l.map (mapPipe g)
theorem mapPipes_snoc {g : Int → Int} {l : List Pipe} {k : Nat} {x : Pipe} (e : l[k]? = some x) : mapPipes g (l.take (k + 1)) = mapPipes g (l.take k) ++ [mapPipe g x] := by simp only [mapPipes]; rw [take_snoc e]; simp
theorem mapPipes_len {g : Int → Int} {l : List Pipe} : (mapPipes g l).length = l.length := by simp [mapPipes]

theorem c_circuit_moved (l : List Pipe) (g : Int → Int) (m : Nat) (cap : List AV) (hcap : pureL cap = true) (hl : l.length ≤ 1000) (hg : ∀ x ∈ l, Pure Go.Proofs.Tryz.prog GL m ((.p (.int .i64 x.fr.part)) :: cap) (.p (.int .i64 (g x.fr.part))) ∧ Pure Go.Proofs.Tryz.prog GL m ((.p (.int .i64 x.to.part)) :: cap) (.p (.int .i64 (g x.to.part)))) : Pure Go.Proofs.Tryz.prog GL 82 [.p (.lst 4 (l.map Pipe.enc)), .fn (.func m) cap] (.p (.lst 4 ((mapPipes g l).map Pipe.enc))) := by
  refine Pure.of_walk (N := 34) Go.Proofs.Tryz.func82 rfl rfl rfl (by simp) (by first | (simp; done) | simp [*]) ?_
  have hren := fun ρ => (renA_pure (ρ := ρ)).2 cap hcap
  simp
  refine XLoop.go [1, 8, 9] [] 1 [0] (nms [5]) (fun nx (i : Nat) => [(5, .acc nx 4 (mapPipes g (l.take i)).length), (10, .p (.int .i64 i))]) (fun nx i => [(nx, accB 4 ((mapPipes g (l.take i)).map Pipe.row))]) (fun i => i ≤ l.length) (fun i => l.length - i) 0 (by omega) ?_ ?_
  · simp [mapPipes, hren]
  · intro i hi
    have hf := fun (x : Pipe) (e : l[i]? = some x) => mapPipes_snoc (g := g) e
    have hli := @mapPipes_len g (l.take i)
    have hA : i = l.length → mapPipes g (l.take i) = mapPipes g l := fun h => by rw [h, List.take_length]
    generalize mapPipes g (l.take i) = A at hf hA hli
    simp at hli
    simp
    refine xif_split (fun h => ?_) (fun h => ?_)
    · simp at h
      obtain ⟨x, e⟩ := get_lt h
      have hf := hf x e
      obtain ⟨g1, g2⟩ := hg x (List.mem_of_getElem? e)
      simp [h, e, -getElem?_pos, List.getElem?_cons_zero, List.getElem?_cons_succ]
      refine XDraw.intro (by kernel_rfl) ?_
      simp
      refine xcall_pure g1 ?_
      simp
      refine xcall_pure g2 ?_
      simp
      refine ⟨.of (by kernel_rfl), ?_⟩
      refine ⟨by omega, wrap_i64 (by omega) (by omega), i + 1, by omega, by omega, ?_⟩
      simp [hf, mapPipe, hren]
    · simp at h
      have h3 : i = l.length := by omega
      rw [hA h3]
      simp [XEndT]

end Go.Am
/- Contracts: package circuit: the functions that Add, Remove and Net hand over. -/
namespace Go.Am
open Go Go.Proofs Go.Pn

def upFrom (i k : Int) : Int := if i ≤ k then k + 1 else k
def downFrom (i k : Int) : Int := if i < k then k - 1 else k

theorem c_circuit_Add_2 (i k : Int) (hk : -1000 ≤ k ∧ k ≤ 1000) : Pure Go.Proofs.Tryz.prog GL 83 [.p (.int .i64 k), .iptr 1 [[.int .i64 i]] 0 0] (.p (.int .i64 (upFrom i k))) := by
  refine Pure.of_walk (N := 10) Go.Proofs.Tryz.func83 rfl rfl rfl (by simp) (by first | (simp; done) | simp [*]) ?_
  simp
  by_cases h : i ≤ k
  · simp [h]
    refine ⟨wrap_i64 (by omega) (by omega), ?_⟩
    simp [XEndT, upFrom, h]
  · simp [h]
    simp [XEndT, upFrom, h]

theorem c_circuit_Add_1 (q : Part) (s : Txt) : Pure Go.Proofs.Tryz.prog GL 78 [q.av, .p (.str s)] (.p (.int .i64 (Lib.compareBytes q.name s))) := by
  refine Pure.of_walk (N := 9) Go.Proofs.Tryz.func78 rfl rfl rfl (by simp) (by first | (simp; done) | simp [*]) ?_
  simp
  refine xcall_pure (c_strings_Compare q.name s) ?_
  simp [XEndT]

theorem c_circuit_Remove_2 (i k : Int) (hk : -1000 ≤ k ∧ k ≤ 1000) : Pure Go.Proofs.Tryz.prog GL 91 [.p (.int .i64 k), .iptr 1 [[.int .i64 i]] 0 0] (.p (.int .i64 (downFrom i k))) := by
  refine Pure.of_walk (N := 10) Go.Proofs.Tryz.func91 rfl rfl rfl (by simp) (by first | (simp; done) | simp [*]) ?_
  simp
  by_cases h : i < k
  · simp [h]
    refine ⟨wrap_i64 (by omega) (by omega), ?_⟩
    simp [XEndT, downFrom, h]
  · simp [h]
    simp [XEndT, downFrom, h]

theorem c_circuit_Remove_1 (i : Int) (x : Pipe) : Pure Go.Proofs.Tryz.prog GL 89 [x.av, .iptr 1 [[.int .i64 i]] 0 0] (.p (.bool (decide (x.fr.part = i) || decide (x.to.part = i)))) := by
  refine Pure.of_walk (N := 16) Go.Proofs.Tryz.func89 rfl rfl rfl (by simp) (by first | (simp; done) | simp [*]) ?_
  simp
  by_cases h : x.fr.part = i
  · simp [h]
    simp [XEndT]
  · simp [h]
    simp [XEndT]

theorem c_circuit_Net_1 (p : Port) (l : List Port) (hl : l.length < 4611686018427387904) : Pure Go.Proofs.Tryz.prog GL 108 [.p (.lst 2 (l.map Port.enc)), .iptr 2 [[.int .i64 p.part, .str p.name]] 0 0] (.p (.bool (decide (p ∈ l)))) := by
  refine Pure.of_walk (N := 7) Go.Proofs.Tryz.func108 rfl rfl rfl (by simp) (by first | (simp; done) | simp [*]) ?_
  simp
  refine xcall_pure (c_Con_Port l p hl) ?_
  simp [XEndT]

end Go.Am
/- Contracts: slices.BinarySearchFunc. -/
namespace Go.Am
open Go Go.Proofs Go.Pn


theorem c_Bin_Part (xs : List Part) (s : Txt) (f : Part → Int) (r m : Nat) (hl : xs.length < 1000000) (hf : ∀ x ∈ xs, Pure Go.Proofs.Tryz.prog GL m [x.av, .p (.str s)] (.p (.int .i64 (f x)))) (hr : r ≤ xs.length) (h1 : ∀ (j : Nat) x, j < r → xs[j]? = some x → f x < 0) (h2 : ∀ (j : Nat) x, r ≤ j → xs[j]? = some x → ¬ f x < 0) : Pure Go.Proofs.Tryz.prog GL 77 [.p (.lst 3 (xs.map Part.enc)), .p (.str s), .fn (.func m) []] (.tup [.p (.int .i64 r), .p (.bool (match xs[r]? with | some x => decide (f x = 0) | none => false))]) := by
  refine Pure.of_walk (N := 49) Go.Proofs.Tryz.func77 rfl rfl rfl (by simp) (by first | (simp; done) | simp [*]) ?_
  simp
  refine XLoop.go [0, 1, 2, 8] [] 0 [] (fun _ => []) (fun _ (k : Nat × Nat) => [(9, .p (.int .i64 k.1)), (10, .p (.int .i64 k.2))]) (fun _ _ => []) (fun k => k.1 ≤ r ∧ r ≤ k.2 ∧ k.2 ≤ xs.length) (fun k => k.2 - k.1) (0, xs.length) ⟨by simp, by simpa using hr, by simp⟩ ?_ ?_
  · simp
  · rintro ⟨i, j⟩ ⟨h3, h4, h5⟩
    simp at h3 h4 h5
    simp
    refine xif_split (fun h => ?_) (fun h => ?_)
    · simp at h
      have hd : ((i : Int) + j).fdiv 2 = (((i + j) / 2 : Nat) : Int) := by rw [Int.fdiv_eq_ediv_of_nonneg _ (by omega)]; omega
      have hm1 : (i + j) / 2 < j := by omega
      have hm0 : i ≤ (i + j) / 2 := by omega
      generalize (i + j) / 2 = h0 at hd hm1 hm0
      have hm2 : h0 < xs.length := by omega
      obtain ⟨x, e⟩ := get_lt hm2
      have hq := hf x (List.mem_of_getElem? e)
      simp
      rw [hd]
      refine ⟨wrap_i64 (by omega) (by omega), by simp [IntKind.wrap, IntKind.bits]; omega, by decide, wrap_i64 (by omega) (by omega), by omega, by omega, ?_⟩
      rw [Int.toNat_natCast, e]
      simp
      refine xcall_pure hq ?_
      simp
      by_cases h6 : f x < 0
      · simp [h6]
        have h8 : h0 < r := Classical.byContradiction fun hh => h2 h0 x (by omega) e h6
        refine ⟨wrap_i64 (by omega) (by omega), (h0 + 1), j, ⟨by omega, h4, h5⟩, by omega, by omega, rfl⟩
      · simp [h6]
        have h8 : r ≤ h0 := Classical.byContradiction fun hh => h6 (h1 h0 x (by omega) e)
        exact ⟨i, h0, ⟨h3, h8, by omega⟩, by omega, rfl, rfl⟩
    · simp at h
      have hir : i = r := by omega
      subst hir
      by_cases h7 : i < xs.length
      · obtain ⟨x, e⟩ := get_lt h7
        have hq := hf x (List.mem_of_getElem? e)
        simp [h7, e, -getElem?_pos, List.getElem?_cons_zero, List.getElem?_cons_succ]
        refine xcall_pure hq ?_
        simp [XEndT]
        rw [e]
      · have hn : xs[i]? = none := List.getElem?_eq_none (by omega)
        simp [h7]
        simp [XEndT, hn]

end Go.Am
/- Contracts: slices.BinarySearchFunc over pipes. -/
namespace Go.Am
open Go Go.Proofs Go.Pn


theorem c_Bin_Pipe (xs : List Pipe) (s : Pipe) (f : Pipe → Int) (r m : Nat) (hl : xs.length < 1000000) (hf : ∀ x ∈ xs, Pure Go.Proofs.Tryz.prog GL m [x.av, s.av] (.p (.int .i64 (f x)))) (hr : r ≤ xs.length) (h1 : ∀ (j : Nat) x, j < r → xs[j]? = some x → f x < 0) (h2 : ∀ (j : Nat) x, r ≤ j → xs[j]? = some x → ¬ f x < 0) : Pure Go.Proofs.Tryz.prog GL 117 [.p (.lst 4 (xs.map Pipe.enc)), s.av, .fn (.func m) []] (.tup [.p (.int .i64 r), .p (.bool (match xs[r]? with | some x => decide (f x = 0) | none => false))]) := by
  refine Pure.of_walk (N := 49) Go.Proofs.Tryz.func117 rfl rfl rfl (by simp) (by first | (simp; done) | simp [*]) ?_
  simp
  refine XLoop.go [0, 2, 4, 8] [0] 0 [] (fun _ => []) (fun _ (k : Nat × Nat) => [(9, .p (.int .i64 k.1)), (10, .p (.int .i64 k.2))]) (fun _ _ => []) (fun k => k.1 ≤ r ∧ r ≤ k.2 ∧ k.2 ≤ xs.length) (fun k => k.2 - k.1) (0, xs.length) ⟨by simp, by simpa using hr, by simp⟩ ?_ ?_
  · simp
  · rintro ⟨i, j⟩ ⟨h3, h4, h5⟩
    simp at h3 h4 h5
    simp
    refine xif_split (fun h => ?_) (fun h => ?_)
    · simp at h
      have hd : ((i : Int) + j).fdiv 2 = (((i + j) / 2 : Nat) : Int) := by rw [Int.fdiv_eq_ediv_of_nonneg _ (by omega)]; omega
      have hm1 : (i + j) / 2 < j := by omega
      have hm0 : i ≤ (i + j) / 2 := by omega
      generalize (i + j) / 2 = h0 at hd hm1 hm0
      have hm2 : h0 < xs.length := by omega
      obtain ⟨x, e⟩ := get_lt hm2
      have hq := hf x (List.mem_of_getElem? e)
      simp
      rw [hd]
      refine ⟨wrap_i64 (by omega) (by omega), by simp [IntKind.wrap, IntKind.bits]; omega, by decide, wrap_i64 (by omega) (by omega), ?_⟩
      refine XDraw.intro (by kernel_rfl) ?_
      simp [hm2, e, -getElem?_pos, List.getElem?_cons_zero, List.getElem?_cons_succ]
      refine xcall_pure hq ?_
      simp
      refine ⟨.of (by kernel_rfl), ?_⟩
      by_cases h6 : f x < 0
      · simp [h6]
        have h8 : h0 < r := Classical.byContradiction fun hh => h2 h0 x (by omega) e h6
        refine ⟨wrap_i64 (by omega) (by omega), (h0 + 1), j, ⟨by omega, h4, h5⟩, by omega, by omega, rfl⟩
      · simp [h6]
        have h8 : r ≤ h0 := Classical.byContradiction fun hh => h6 (h1 h0 x (by omega) e)
        exact ⟨i, h0, ⟨h3, h8, by omega⟩, by omega, rfl, rfl⟩
    · simp at h
      have hir : i = r := by omega
      subst hir
      by_cases h7 : i < xs.length
      · obtain ⟨x, e⟩ := get_lt h7
        have hq := hf x (List.mem_of_getElem? e)
        simp
        refine XDraw.intro (by kernel_rfl) ?_
        simp [h7, e, -getElem?_pos, List.getElem?_cons_zero, List.getElem?_cons_succ]
        refine xcall_pure hq ?_
        simp
        refine ⟨.of (by kernel_rfl), ?_⟩
        simp [XEndT]
        rw [e]
      · have hn : xs[i]? = none := List.getElem?_eq_none (by omega)
        simp
        refine XDraw.intro (by kernel_rfl) ?_
        simp [h7]
        refine ⟨.of (by kernel_rfl), ?_⟩
        simp [XEndT, hn]

end Go.Am
/- Contracts: slices.Clone. -/
namespace Go.Am
open Go Go.Proofs Go.Pn


theorem renS_acc {ρ : List Nat} {b b' k : Nat} {rows : List (List AV)} (hb : ρ[b]? = some b') (h : renR ρ rows = some rows) : renS ρ [(b, accB k rows)] = some [(b', accB k rows)] := by
  unfold accB
  by_cases e : rows = []
  · simp [renS, e, hb]
  · simp [renS, e, hb, renB, h]


theorem g_ClonePipe (l : List Pipe) (s : Store) (nx : Nat) (hn : l.length < 1000000) :
    Gives Go.Proofs.Tryz.prog GL 88 [.p (.lst 4 (l.map Pipe.enc))] s nx (.acc nx 4 l.length) [] [(nx, accB 4 (l.map Pipe.row))] (nx + 1) := by
  refine Gives.mk_walkK (N := 8) (args := [.p (.lst 4 (l.map Pipe.enc))]) [] [] [] [(0, accB 4 (l.map Pipe.row))] 0 1 (.acc 0 4 l.length) (nms [2]) (up1 := [(nx, accB 4 (l.map Pipe.row))]) Go.Proofs.Tryz.func88 rfl rfl rfl (by simp) rfl (by simp) (by simp) (by simp) (renS_acc rfl (renR_map fun _ => rfl)) (by simp) rfl ?_
  simp
  refine xdec_split (fun h => ?_) (fun h => ?_)
  · subst h
    simp
  · have h0 : 0 < l.length := List.length_pos_iff.2 h
    have hrow : (fun x => List.map AV.p x) ∘ Pipe.enc = Pipe.row := rfl
    simp [h, h0, hrow, accB, Nat.pos_iff_ne_zero]
    omega

theorem g_ClonePart (l : List Part) (s : Store) (nx : Nat) (hn : l.length < 1000000) :
    Gives Go.Proofs.Tryz.prog GL 81 [.p (.lst 3 (l.map Part.enc))] s nx (.acc nx 3 l.length) [] [(nx, accB 3 (l.map Part.row))] (nx + 1) := by
  refine Gives.mk_walkK (N := 8) (args := [.p (.lst 3 (l.map Part.enc))]) [] [] [] [(0, accB 3 (l.map Part.row))] 0 1 (.acc 0 3 l.length) (nms [2]) (up1 := [(nx, accB 3 (l.map Part.row))]) Go.Proofs.Tryz.func81 rfl rfl rfl (by simp) rfl (by simp) (by simp) (by simp) (renS_acc rfl (renR_map fun _ => rfl)) (by simp) rfl ?_
  simp
  refine xdec_split (fun h => ?_) (fun h => ?_)
  · subst h
    simp
  · have h0 : 0 < l.length := List.length_pos_iff.2 h
    have hrow : (fun x => List.map AV.p x) ∘ Part.enc = Part.row := rfl
    simp [h, h0, hrow, accB, Nat.pos_iff_ne_zero]
    omega

end Go.Am
/- Contracts: slices.Insert of one part. -/
namespace Go.Am
open Go Go.Proofs Go.Pn


theorem ins_nil (x : Part) (b bv : Nat) (c : Option Nat) (s : Store) (nx : Nat) (hn : bv < nx) (hv : get s bv = some (.cells 3 [x.row])) :
    Gives Go.Proofs.Tryz.prog GL 80 [.nils, .p (.int .i64 0), .ref bv 3 0 1 c] s nx (.p (.lst 3 [x.enc])) [bv] [(bv, none)] nx := by
  refine Gives.of_walkF (N := 95) (args := [.nils, .p (.int .i64 0), .ref 0 3 0 1 c]) (σ := [bv]) (s0 := [(0, some (.cells 3 [x.row]))]) (m := 1) Go.Proofs.Tryz.func80 rfl rfl rfl (by simp) rfl (by simp [hv, hn]) (by simp) rfl ?_
  simp [XEndT]

theorem insrows {l : List Part} {i : Nat} {x : Part} : (l.take i ++ x :: l.drop i).map Part.row = (l.map Part.row).take i ++ x.row :: (l.map Part.row).drop i := by simp [List.map_take, List.map_drop]

theorem prow_len {l : List Part} : ∀ r ∈ l.map Part.row, r.length = 3 := fun r hr => by
  obtain ⟨q, _, rfl⟩ := List.mem_map.1 hr
  rfl
theorem prow_take {l : List Part} {i : Nat} : ∀ r ∈ (l.map Part.row).take i, r.length = 3 := fun r hr => prow_len r (List.mem_of_mem_take hr)
theorem prow_one {l : List Part} {i : Nat} : ∀ r ∈ (l.map Part.row).drop i, ∀ c ∈ r, AV.oneCell c = true := fun r hr c hc => by
  obtain ⟨q, _, rfl⟩ := List.mem_map.1 (List.mem_of_mem_drop hr)
  simp at hc
  rcases hc with rfl | rfl | rfl <;> rfl
theorem prow_drop {l : List Part} {i : Nat} : ∀ r ∈ (l.map Part.row).drop i, r.length = 3 := fun r hr => prow_len r (List.mem_of_mem_drop hr)
theorem ins_m1 {R : List (List AV)} {i n : Nat} {r z : List AV} (hn : R.length = n) (hi : i < n) (hR : ∀ x ∈ R, x.length = 3) (hr : r.length = 3) (hz : z.length = 3) :
    ∃ M, layRows (R.take i ++ List.replicate (n + 1 - i) z) i [r] = M ∧ M.length = n + 1 ∧ (∀ x ∈ M, x.length = 3) ∧ M.take (i + 1) = R.take i ++ [r] := by
  have e2 : (R.take i ++ List.replicate (n + 1 - i) z).take i = R.take i := by rw [List.take_append_of_le_length (by simp; omega), List.take_of_length_le (by simp; omega)]
  refine ⟨_, rfl, ?_, ?_, ?_⟩
  · simp [layRows, List.length_take]; omega
  · intro x hx
    simp only [layRows] at hx
    rw [e2] at hx
    rcases List.mem_append.1 hx with hx | hx
    · exact hR x (List.mem_of_mem_take hx)
    · rcases List.mem_append.1 hx with hx | hx
      · simp at hx; subst hx; exact hr
      · have := List.mem_of_mem_drop hx
        rcases List.mem_append.1 this with hx | hx
        · exact hR x (List.mem_of_mem_take hx)
        · rw [(List.mem_replicate.1 hx).2]; exact hz
  · simp only [layRows, e2]
    rw [← List.append_assoc, List.take_append_of_le_length (by simp; omega), List.take_of_length_le (by simp; omega)]
theorem ins_m2 {R M : List (List AV)} {i n : Nat} {r : List AV} (hn : R.length = n) (hi : i < n) (hM : M.length = n + 1) (hT : M.take (i + 1) = R.take i ++ [r]) :
    layRows M (i + 1) (R.drop i) = R.take i ++ r :: R.drop i := by
  have h : M.drop (i + 1 + (R.drop i).length) = [] := List.drop_of_length_le (by rw [List.length_drop]; omega)
  simp only [layRows, hT, h]
  simp

theorem ins_m3 {R : List (List AV)} {i n : Nat} {r a : List AV} (hn : R.length = n) (hi : i < n) (hR : ∀ x ∈ R, x.length = 3) :
    ∃ M, layRows (R ++ [a]) (i + 1) (R.drop i) = M ∧ M.length = n + 1 ∧ (∀ x ∈ M, x.length = 3) ∧ layRows M i [r] = R.take i ++ r :: R.drop i := by
  have e1 : (R ++ [a]).take (i + 1) = R.take (i + 1) := List.take_append_of_le_length (by omega)
  have e2 : (R ++ [a]).drop (i + 1 + (R.drop i).length) = [] := List.drop_of_length_le (by rw [List.length_append, List.length_drop, List.length_singleton]; omega)
  have e3 : layRows (R ++ [a]) (i + 1) (R.drop i) = R.take (i + 1) ++ R.drop i := by simp only [layRows, e1, e2, List.append_nil]
  refine ⟨_, rfl, ?_, ?_, ?_⟩
  · rw [e3]; simp; omega
  · rw [e3]
    intro x hx
    rcases List.mem_append.1 hx with hx | hx
    · exact hR x (List.mem_of_mem_take hx)
    · exact hR x (List.mem_of_mem_drop hx)
  · rw [e3]
    have e4 : (R.take (i + 1) ++ R.drop i).take i = R.take i := by rw [List.take_append_of_le_length (by simp; omega), List.take_take]; congr 1; omega
    have e5 : (R.take (i + 1) ++ R.drop i).drop (i + 1) = R.drop i := List.drop_left' (by simp; omega)
    simp [layRows, e4, e5]

theorem ins_end (l : List Part) (x : Part) (b bv : Nat) (c : Option Nat) (s : Store) (nx : Nat) (hb : b < nx) (hn : bv < nx) (hne : b ≠ bv) (h0 : 0 < l.length) (hl : l.length < 100000)
    (hg : get s b = some (.cells 3 (l.map Part.row))) (hv : get s bv = some (.cells 3 [x.row])) :
    Gives Go.Proofs.Tryz.prog GL 80 [.ref b 3 0 l.length none, .p (.int .i64 l.length), .ref bv 3 0 1 c] s nx (.p (.lst 3 ((l ++ [x]).map Part.enc))) [b, bv] [(b, none), (bv, none)] nx := by
  refine Gives.of_walkF (N := 95) (args := [.ref 0 3 0 l.length none, .p (.int .i64 l.length), .ref 1 3 0 1 c]) (σ := [b, bv]) (s0 := [(0, some (.cells 3 (l.map Part.row))), (1, some (.cells 3 [x.row]))]) (m := 2) Go.Proofs.Tryz.func80 rfl rfl rfl (by simp) rfl (by simp [hv, hn, hg, hb, hne]; intro q hq; match q, hq with | 0, _ => simp | 1, _ => simp) (by simp) rfl ?_
  have e0 : ¬ l.length = 0 := by omega
  simp [e0]
  refine ⟨by omega, ?_⟩
  simp [XEndT]
  rw [List.take_of_length_le (by simp)]
  rfl

theorem ins_ref (l : List Part) (i : Nat) (x : Part) (b bv cp : Nat) (c : Option Nat) (s : Store) (nx : Nat) (hb : b < nx) (hn : bv < nx) (hne : b ≠ bv) (hi : i < l.length) (hl : l.length < 100000) (hcp : l.length ≤ cp)
    (hg : get s b = some (.cells 3 (l.map Part.row))) (hv : get s bv = some (.cells 3 [x.row])) :
    Gives Go.Proofs.Tryz.prog GL 80 [.ref b 3 0 l.length (some cp), .p (.int .i64 i), .ref bv 3 0 1 c] s nx (.p (.lst 3 ((l.take i ++ x :: l.drop i).map Part.enc))) [b, bv] [(b, none), (bv, none)] nx := by
  refine Gives.of_walkF (N := 95) (args := [.ref 0 3 0 l.length (some cp), .p (.int .i64 i), .ref 1 3 0 1 c]) (σ := [b, bv]) (s0 := [(0, some (.cells 3 (l.map Part.row))), (1, some (.cells 3 [x.row]))]) (m := 2) Go.Proofs.Tryz.func80 rfl rfl rfl (by simp) rfl (by simp [hv, hn, hg, hb, hne]; intro q hq; match q, hq with | 0, _ => simp | 1, _ => simp) (by simp) rfl ?_
  have hil : ¬ i = l.length := by omega
  have e2 : ¬ (i : Int) = l.length := by omega
  have e3 : i ≤ l.length := by omega
  have e4 : i + (l.length + 1 - i) = l.length + 1 := by omega
  have e5 : (i : Int) ≤ l.length + 1 := by omega
  have e6 : ¬ l.length < i := by omega
  have e7 : (i : Int) + ((l.length + 1 - i : Nat) : Int) = l.length + 1 := by omega
  simp [e3, hil, hi, e2]
  refine ⟨wrap_i64 (by omega) (by omega), ?_⟩
  refine xif_split (fun h => ?_) (fun h => ?_)
  · simp at h
    have h2 : cp < l.length + 1 := by omega
    have e10 : min 1 (l.length + 1 - i) = 1 := by omega
    have e11 : List.take (l.length + 1 - i) [[AV.p (PV.int IntKind.i64 x.kind), AV.p (PV.str x.name), AV.p (PV.int IntKind.i64 x.delay)]] = [[AV.p (PV.int IntKind.i64 x.kind), AV.p (PV.str x.name), AV.p (PV.int IntKind.i64 x.delay)]] := List.take_of_length_le (by simp; omega)
    simp [e3, hil, hi, e2, h2, e4, e5, e6, e7, e10, e11]
    refine ⟨wrap_i64 (by omega) (by omega), wrap_i64 (by omega) (by omega), by omega, ?_⟩
    have e8 : ¬ i = l.length + 1 := by omega
    simp [e8, e10, e11]
    refine ⟨by omega, prow_take, ?_⟩
    obtain ⟨M, hM, m1, m2, m3⟩ := ins_m1 (R := l.map Part.row) (n := l.length) (r := [AV.p (PV.int IntKind.i64 x.kind), AV.p (PV.str x.name), AV.p (PV.int IntKind.i64 x.delay)]) (z := [AV.p (PV.int IntKind.i64 0), AV.p (PV.str []), AV.p (PV.int IntKind.i64 0)]) (by simp) hi prow_len rfl rfl
    rw [hM]
    refine XDraw.intro (by kernel_rfl) ?_
    have e9 : (0 : Int) ≤ i + 1 := by omega
    simp [e3, hil, hi, e2, e4, e9]
    refine ⟨wrap_i64 (by omega) (by omega), ?_⟩
    have hD1 : List.take (l.length - i) (List.drop i (List.map Part.row l)) = (l.drop i).map Part.row := by rw [← List.map_drop, List.take_of_length_le (by simp)]
    simp [hD1]
    have hq := @prow_one l i
    simp at hq
    rw [if_pos hq]
    simp
    refine ⟨prow_drop, by omega, m2, .of (by kernel_rfl), ?_⟩
    rw [show List.take (l.length - i) (List.drop i (List.map Part.row l)) = List.drop i (List.map Part.row l) from List.take_of_length_le (by simp), ins_m2 (n := l.length) (by simp) hi m1 m3]
    simp [XEndT]
    refine ⟨by omega, ?_⟩
    rw [List.take_of_length_le (by simp; omega)]
    rfl
  · simp at h
    have h2 : ¬ cp < l.length + 1 := by omega
    have h3 : l.length + 1 ≤ cp := by omega
    have h5 : (l.length : Int) < l.length + 1 := by omega
    have h6 : (l.length : Int) + 1 ≤ cp := by omega
    have h7 : (0 : Int) ≤ i + 1 := by omega
    simp [e3, hil, hi, e2, h2, h3, h5, h6, h7]
    refine ⟨wrap_i64 (by omega) (by omega), wrap_i64 (by omega) (by omega), ?_⟩
    refine xcall_gives (ext_overlaps (tS := 22) (tR := 4) (e := 27) (size := 3) Go.Proofs.Tryz.func148 (by kernel_rfl) (by kernel_rfl) (by kernel_rfl) (by kernel_rfl) (by kernel_rfl) (fun w => by kernel_rfl) (by simp [get]; rfl) (by simp [get]; rfl) (by decide) (by decide) (by omega)) ?_
    simp
    refine XDraw.intro (by kernel_rfl) ?_
    have e8 : ¬ i = l.length + 1 := by omega
    simp [e3, hil, hi, e2, h7, e5, e8]
    refine ⟨wrap_i64 (by omega) (by omega), ?_⟩
    have f1 : min (l.length + 1 - i) (l.length - i) = l.length - i := by omega
    have f2 : List.take (l.length - i) (List.drop i (List.map Part.row l ++ [[AV.any, AV.any, AV.any]])) = (l.drop i).map Part.row := by
      rw [List.drop_append_of_le_length (by simp; omega), List.take_append_of_le_length (by simp), ← List.map_drop, List.take_of_length_le (by simp)]
    have f3 : i + (l.length + 1 - i) ≤ l.length + 1 := by omega
    simp [f1, f2, f3]
    have hq := @prow_one l i
    simp at hq
    rw [if_pos hq]
    simp
    refine ⟨prow_drop, by omega, .of (by kernel_rfl), ?_⟩
    obtain ⟨M, hM, m1, m2, m3⟩ := ins_m3 (R := l.map Part.row) (n := l.length) (i := i) (r := [AV.p (PV.int IntKind.i64 x.kind), AV.p (PV.str x.name), AV.p (PV.int IntKind.i64 x.delay)]) (a := [AV.any, AV.any, AV.any]) (by simp) hi prow_len
    rw [show List.take (l.length - i) (List.drop i (List.map Part.row l)) = List.drop i (List.map Part.row l) from List.take_of_length_le (by simp), hM]
    have e10 : min 1 (l.length + 1 - i) = 1 := by omega
    have e11 : List.take (l.length + 1 - i) [[AV.p (PV.int IntKind.i64 x.kind), AV.p (PV.str x.name), AV.p (PV.int IntKind.i64 x.delay)]] = [[AV.p (PV.int IntKind.i64 x.kind), AV.p (PV.str x.name), AV.p (PV.int IntKind.i64 x.delay)]] := List.take_of_length_le (by simp; omega)
    simp [e5, e8, e10, e11]
    refine ⟨by omega, m2, ?_⟩
    rw [m3]
    simp [XEndT]
    refine ⟨by omega, ?_⟩
    rw [List.take_of_length_le (by simp; omega)]
    rfl

theorem g_InsPart (l : List Part) (i : Nat) (x : Part) (b bv : Nat) (c : Option Nat) (s : Store) (nx : Nat) (hb : b < nx) (hn : bv < nx) (hne : b ≠ bv) (hi : i ≤ l.length) (hl : l.length < 100000)
    (hg : get s b = accB 3 (l.map Part.row)) (hv : get s bv = some (.cells 3 [x.row])) :
    Gives Go.Proofs.Tryz.prog GL 80 [.acc b 3 l.length, .p (.int .i64 i), .ref bv 3 0 1 c] s nx (.p (.lst 3 ((l.take i ++ x :: l.drop i).map Part.enc))) [b, bv] [(b, none), (bv, none)] nx := by
  refine Gives.of_acc (fun h => ?_) (fun h => ?_)
  · have hl0 : l = [] := List.length_eq_zero_iff.1 h
    subst hl0
    have hi0 : i = 0 := by simpa using hi
    subst hi0
    refine (ins_nil x b bv c s nx hn hv).more (by simp) (fun s1 hag q => ?_)
    have hgb : get s1 b = none := by rw [hag b (by simp), hg]; simp [accB]
    by_cases e : b = q
    · subst e
      simp [get, Ne.symm hne, hgb]
    · simp [get, e]
  · have hg2 : get s b = some (.cells 3 (l.map Part.row)) := by
      rw [hg, accB, if_neg]
      simp
      rintro rfl
      simp at h
    by_cases hil : i = l.length
    · subst hil
      have := ins_end l x b bv c s nx hb hn hne h hl hg2 hv
      simpa using this
    · refine Gives.capped (j := 0) rfl (fun cp hcp => ?_)
      exact ins_ref l i x b bv cp c s nx hb hn hne (by omega) hl hcp hg2 hv

end Go.Am
/- Contracts: slices.Insert of one pipe. -/
namespace Go.Am
open Go Go.Proofs Go.Pn


theorem ins_nilP (x : Pipe) (b bv : Nat) (c : Option Nat) (s : Store) (nx : Nat) (hn : bv < nx) (hv : get s bv = some (.cells 4 [x.row])) :
    Gives Go.Proofs.Tryz.prog GL 118 [.nils, .p (.int .i64 0), .ref bv 4 0 1 c] s nx (.p (.lst 4 [x.enc])) [bv] [(bv, none)] nx := by
  refine Gives.of_walkF (N := 95) (args := [.nils, .p (.int .i64 0), .ref 0 4 0 1 c]) (σ := [bv]) (s0 := [(0, some (.cells 4 [x.row]))]) (m := 1) Go.Proofs.Tryz.func118 rfl rfl rfl (by simp) rfl (by simp [hv, hn]) (by simp) rfl ?_
  simp [XEndT]

theorem insrowsP {l : List Pipe} {i : Nat} {x : Pipe} : (l.take i ++ x :: l.drop i).map Pipe.row = (l.map Pipe.row).take i ++ x.row :: (l.map Pipe.row).drop i := by simp [List.map_take, List.map_drop]

theorem prow_lenP {l : List Pipe} : ∀ r ∈ l.map Pipe.row, r.length = 4 := fun r hr => by
  obtain ⟨q, _, rfl⟩ := List.mem_map.1 hr
  rfl
theorem prow_takeP {l : List Pipe} {i : Nat} : ∀ r ∈ (l.map Pipe.row).take i, r.length = 4 := fun r hr => prow_lenP r (List.mem_of_mem_take hr)
theorem prow_oneP {l : List Pipe} {i : Nat} : ∀ r ∈ (l.map Pipe.row).drop i, ∀ c ∈ r, AV.oneCell c = true := fun r hr c hc => by
  obtain ⟨q, _, rfl⟩ := List.mem_map.1 (List.mem_of_mem_drop hr)
  simp at hc
  rcases hc with rfl | rfl | rfl | rfl <;> rfl
theorem prow_dropP {l : List Pipe} {i : Nat} : ∀ r ∈ (l.map Pipe.row).drop i, r.length = 4 := fun r hr => prow_lenP r (List.mem_of_mem_drop hr)
theorem ins_m1P {R : List (List AV)} {i n : Nat} {r z : List AV} (hn : R.length = n) (hi : i < n) (hR : ∀ x ∈ R, x.length = 4) (hr : r.length = 4) (hz : z.length = 4) :
    ∃ M, layRows (R.take i ++ List.replicate (n + 1 - i) z) i [r] = M ∧ M.length = n + 1 ∧ (∀ x ∈ M, x.length = 4) ∧ M.take (i + 1) = R.take i ++ [r] := by
  have e2 : (R.take i ++ List.replicate (n + 1 - i) z).take i = R.take i := by rw [List.take_append_of_le_length (by simp; omega), List.take_of_length_le (by simp; omega)]
  refine ⟨_, rfl, ?_, ?_, ?_⟩
  · simp [layRows, List.length_take]; omega
  · intro x hx
    simp only [layRows] at hx
    rw [e2] at hx
    rcases List.mem_append.1 hx with hx | hx
    · exact hR x (List.mem_of_mem_take hx)
    · rcases List.mem_append.1 hx with hx | hx
      · simp at hx; subst hx; exact hr
      · have := List.mem_of_mem_drop hx
        rcases List.mem_append.1 this with hx | hx
        · exact hR x (List.mem_of_mem_take hx)
        · rw [(List.mem_replicate.1 hx).2]; exact hz
  · simp only [layRows, e2]
    rw [← List.append_assoc, List.take_append_of_le_length (by simp; omega), List.take_of_length_le (by simp; omega)]
theorem ins_m2P {R M : List (List AV)} {i n : Nat} {r : List AV} (hn : R.length = n) (hi : i < n) (hM : M.length = n + 1) (hT : M.take (i + 1) = R.take i ++ [r]) :
    layRows M (i + 1) (R.drop i) = R.take i ++ r :: R.drop i := by
  have h : M.drop (i + 1 + (R.drop i).length) = [] := List.drop_of_length_le (by rw [List.length_drop]; omega)
  simp only [layRows, hT, h]
  simp

theorem ins_m3P {R : List (List AV)} {i n : Nat} {r a : List AV} (hn : R.length = n) (hi : i < n) (hR : ∀ x ∈ R, x.length = 4) :
    ∃ M, layRows (R ++ [a]) (i + 1) (R.drop i) = M ∧ M.length = n + 1 ∧ (∀ x ∈ M, x.length = 4) ∧ layRows M i [r] = R.take i ++ r :: R.drop i := by
  have e1 : (R ++ [a]).take (i + 1) = R.take (i + 1) := List.take_append_of_le_length (by omega)
  have e2 : (R ++ [a]).drop (i + 1 + (R.drop i).length) = [] := List.drop_of_length_le (by rw [List.length_append, List.length_drop, List.length_singleton]; omega)
  have e3 : layRows (R ++ [a]) (i + 1) (R.drop i) = R.take (i + 1) ++ R.drop i := by simp only [layRows, e1, e2, List.append_nil]
  refine ⟨_, rfl, ?_, ?_, ?_⟩
  · rw [e3]; simp; omega
  · rw [e3]
    intro x hx
    rcases List.mem_append.1 hx with hx | hx
    · exact hR x (List.mem_of_mem_take hx)
    · exact hR x (List.mem_of_mem_drop hx)
  · rw [e3]
    have e4 : (R.take (i + 1) ++ R.drop i).take i = R.take i := by rw [List.take_append_of_le_length (by simp; omega), List.take_take]; congr 1; omega
    have e5 : (R.take (i + 1) ++ R.drop i).drop (i + 1) = R.drop i := List.drop_left' (by simp; omega)
    simp [layRows, e4, e5]

theorem ins_endP (l : List Pipe) (x : Pipe) (b bv : Nat) (c : Option Nat) (s : Store) (nx : Nat) (hb : b < nx) (hn : bv < nx) (hne : b ≠ bv) (h0 : 0 < l.length) (hl : l.length < 100000)
    (hg : get s b = some (.cells 4 (l.map Pipe.row))) (hv : get s bv = some (.cells 4 [x.row])) :
    Gives Go.Proofs.Tryz.prog GL 118 [.ref b 4 0 l.length none, .p (.int .i64 l.length), .ref bv 4 0 1 c] s nx (.p (.lst 4 ((l ++ [x]).map Pipe.enc))) [b, bv] [(b, none), (bv, none)] nx := by
  refine Gives.of_walkF (N := 95) (args := [.ref 0 4 0 l.length none, .p (.int .i64 l.length), .ref 1 4 0 1 c]) (σ := [b, bv]) (s0 := [(0, some (.cells 4 (l.map Pipe.row))), (1, some (.cells 4 [x.row]))]) (m := 2) Go.Proofs.Tryz.func118 rfl rfl rfl (by simp) rfl (by simp [hv, hn, hg, hb, hne]; intro q hq; match q, hq with | 0, _ => simp | 1, _ => simp) (by simp) rfl ?_
  have e0 : ¬ l.length = 0 := by omega
  simp [e0]
  refine ⟨by omega, ?_⟩
  simp [XEndT]
  rw [List.take_of_length_le (by simp)]
  rfl

theorem ins_refP (l : List Pipe) (i : Nat) (x : Pipe) (b bv cp : Nat) (c : Option Nat) (s : Store) (nx : Nat) (hb : b < nx) (hn : bv < nx) (hne : b ≠ bv) (hi : i < l.length) (hl : l.length < 100000) (hcp : l.length ≤ cp)
    (hg : get s b = some (.cells 4 (l.map Pipe.row))) (hv : get s bv = some (.cells 4 [x.row])) :
    Gives Go.Proofs.Tryz.prog GL 118 [.ref b 4 0 l.length (some cp), .p (.int .i64 i), .ref bv 4 0 1 c] s nx (.p (.lst 4 ((l.take i ++ x :: l.drop i).map Pipe.enc))) [b, bv] [(b, none), (bv, none)] nx := by
  refine Gives.of_walkF (N := 95) (args := [.ref 0 4 0 l.length (some cp), .p (.int .i64 i), .ref 1 4 0 1 c]) (σ := [b, bv]) (s0 := [(0, some (.cells 4 (l.map Pipe.row))), (1, some (.cells 4 [x.row]))]) (m := 2) Go.Proofs.Tryz.func118 rfl rfl rfl (by simp) rfl (by simp [hv, hn, hg, hb, hne]; intro q hq; match q, hq with | 0, _ => simp | 1, _ => simp) (by simp) rfl ?_
  have hil : ¬ i = l.length := by omega
  have e2 : ¬ (i : Int) = l.length := by omega
  have e3 : i ≤ l.length := by omega
  have e4 : i + (l.length + 1 - i) = l.length + 1 := by omega
  have e5 : (i : Int) ≤ l.length + 1 := by omega
  have e6 : ¬ l.length < i := by omega
  have e7 : (i : Int) + ((l.length + 1 - i : Nat) : Int) = l.length + 1 := by omega
  simp [e3, hil, hi, e2]
  refine ⟨wrap_i64 (by omega) (by omega), ?_⟩
  refine xif_split (fun h => ?_) (fun h => ?_)
  · simp at h
    have h2 : cp < l.length + 1 := by omega
    have e10 : min 1 (l.length + 1 - i) = 1 := by omega
    have e11 : List.take (l.length + 1 - i) [[AV.p (PV.int IntKind.i64 x.fr.part), AV.p (PV.str x.fr.name), AV.p (PV.int IntKind.i64 x.to.part), AV.p (PV.str x.to.name)]] = [[AV.p (PV.int IntKind.i64 x.fr.part), AV.p (PV.str x.fr.name), AV.p (PV.int IntKind.i64 x.to.part), AV.p (PV.str x.to.name)]] := List.take_of_length_le (by simp; omega)
    simp [e3, hil, hi, e2, h2, e4, e5, e6, e7, e10, e11]
    refine ⟨wrap_i64 (by omega) (by omega), wrap_i64 (by omega) (by omega), by omega, ?_⟩
    have e8 : ¬ i = l.length + 1 := by omega
    simp [e8, e10, e11]
    refine ⟨by omega, prow_takeP, ?_⟩
    obtain ⟨M, hM, m1, m2, m3⟩ := ins_m1P (R := l.map Pipe.row) (n := l.length) (r := [AV.p (PV.int IntKind.i64 x.fr.part), AV.p (PV.str x.fr.name), AV.p (PV.int IntKind.i64 x.to.part), AV.p (PV.str x.to.name)]) (z := [AV.p (PV.int IntKind.i64 0), AV.p (PV.str []), AV.p (PV.int IntKind.i64 0), AV.p (PV.str [])]) (by simp) hi prow_lenP rfl rfl
    rw [hM]
    refine XDraw.intro (by kernel_rfl) ?_
    have e9 : (0 : Int) ≤ i + 1 := by omega
    simp [e3, hil, hi, e2, e4, e9]
    refine ⟨wrap_i64 (by omega) (by omega), ?_⟩
    have hD1 : List.take (l.length - i) (List.drop i (List.map Pipe.row l)) = (l.drop i).map Pipe.row := by rw [← List.map_drop, List.take_of_length_le (by simp)]
    simp [hD1]
    have hq := @prow_oneP l i
    simp at hq
    rw [if_pos hq]
    simp
    refine ⟨prow_dropP, by omega, m2, .of (by kernel_rfl), ?_⟩
    rw [show List.take (l.length - i) (List.drop i (List.map Pipe.row l)) = List.drop i (List.map Pipe.row l) from List.take_of_length_le (by simp), ins_m2P (n := l.length) (by simp) hi m1 m3]
    simp [XEndT]
    refine ⟨by omega, ?_⟩
    rw [List.take_of_length_le (by simp; omega)]
    rfl
  · simp at h
    have h2 : ¬ cp < l.length + 1 := by omega
    have h3 : l.length + 1 ≤ cp := by omega
    have h5 : (l.length : Int) < l.length + 1 := by omega
    have h6 : (l.length : Int) + 1 ≤ cp := by omega
    have h7 : (0 : Int) ≤ i + 1 := by omega
    simp [e3, hil, hi, e2, h2, h3, h5, h6, h7]
    refine ⟨wrap_i64 (by omega) (by omega), wrap_i64 (by omega) (by omega), ?_⟩
    refine xcall_gives (ext_overlaps (tS := 23) (tR := 4) (e := 71) (size := 4) Go.Proofs.Tryz.func170 (by kernel_rfl) (by kernel_rfl) (by kernel_rfl) (by kernel_rfl) (by kernel_rfl) (fun w => by kernel_rfl) (by simp [get]; rfl) (by simp [get]; rfl) (by decide) (by decide) (by omega)) ?_
    simp
    refine XDraw.intro (by kernel_rfl) ?_
    have e8 : ¬ i = l.length + 1 := by omega
    simp [e3, hil, hi, e2, h7, e5, e8]
    refine ⟨wrap_i64 (by omega) (by omega), ?_⟩
    have f1 : min (l.length + 1 - i) (l.length - i) = l.length - i := by omega
    have f2 : List.take (l.length - i) (List.drop i (List.map Pipe.row l ++ [[AV.any, AV.any, AV.any, AV.any]])) = (l.drop i).map Pipe.row := by
      rw [List.drop_append_of_le_length (by simp; omega), List.take_append_of_le_length (by simp), ← List.map_drop, List.take_of_length_le (by simp)]
    have f3 : i + (l.length + 1 - i) ≤ l.length + 1 := by omega
    simp [f1, f2, f3]
    have hq := @prow_oneP l i
    simp at hq
    rw [if_pos hq]
    simp
    refine ⟨prow_dropP, by omega, .of (by kernel_rfl), ?_⟩
    obtain ⟨M, hM, m1, m2, m3⟩ := ins_m3P (R := l.map Pipe.row) (n := l.length) (i := i) (r := [AV.p (PV.int IntKind.i64 x.fr.part), AV.p (PV.str x.fr.name), AV.p (PV.int IntKind.i64 x.to.part), AV.p (PV.str x.to.name)]) (a := [AV.any, AV.any, AV.any, AV.any]) (by simp) hi prow_lenP
    rw [show List.take (l.length - i) (List.drop i (List.map Pipe.row l)) = List.drop i (List.map Pipe.row l) from List.take_of_length_le (by simp), hM]
    have e10 : min 1 (l.length + 1 - i) = 1 := by omega
    have e11 : List.take (l.length + 1 - i) [[AV.p (PV.int IntKind.i64 x.fr.part), AV.p (PV.str x.fr.name), AV.p (PV.int IntKind.i64 x.to.part), AV.p (PV.str x.to.name)]] = [[AV.p (PV.int IntKind.i64 x.fr.part), AV.p (PV.str x.fr.name), AV.p (PV.int IntKind.i64 x.to.part), AV.p (PV.str x.to.name)]] := List.take_of_length_le (by simp; omega)
    simp [e5, e8, e10, e11]
    refine ⟨by omega, m2, ?_⟩
    rw [m3]
    simp [XEndT]
    refine ⟨by omega, ?_⟩
    rw [List.take_of_length_le (by simp; omega)]
    rfl

theorem g_InsPipe (l : List Pipe) (i : Nat) (x : Pipe) (b bv : Nat) (c : Option Nat) (s : Store) (nx : Nat) (hb : b < nx) (hn : bv < nx) (hne : b ≠ bv) (hi : i ≤ l.length) (hl : l.length < 100000)
    (hg : get s b = accB 4 (l.map Pipe.row)) (hv : get s bv = some (.cells 4 [x.row])) :
    Gives Go.Proofs.Tryz.prog GL 118 [.acc b 4 l.length, .p (.int .i64 i), .ref bv 4 0 1 c] s nx (.p (.lst 4 ((l.take i ++ x :: l.drop i).map Pipe.enc))) [b, bv] [(b, none), (bv, none)] nx := by
  refine Gives.of_acc (fun h => ?_) (fun h => ?_)
  · have hl0 : l = [] := List.length_eq_zero_iff.1 h
    subst hl0
    have hi0 : i = 0 := by simpa using hi
    subst hi0
    refine (ins_nilP x b bv c s nx hn hv).more (by simp) (fun s1 hag q => ?_)
    have hgb : get s1 b = none := by rw [hag b (by simp), hg]; simp [accB]
    by_cases e : b = q
    · subst e
      simp [get, Ne.symm hne, hgb]
    · simp [get, e]
  · have hg2 : get s b = some (.cells 4 (l.map Pipe.row)) := by
      rw [hg, accB, if_neg]
      simp
      rintro rfl
      simp at h
    by_cases hil : i = l.length
    · subst hil
      have := ins_endP l x b bv c s nx hb hn hne h hl hg2 hv
      simpa using this
    · refine Gives.capped (j := 0) rfl (fun cp hcp => ?_)
      exact ins_refP l i x b bv cp c s nx hb hn hne (by omega) hl hcp hg2 hv

end Go.Am
/- Contracts: slices.Delete of one part; slices.DeleteFunc over pipes. -/
namespace Go.Am
open Go Go.Proofs Go.Pn


theorem del_m {R : List (List AV)} {i n : Nat} (hn : R.length = n) (hi : i < n) (hR : ∀ x ∈ R, x.length = 3) :
    ∃ M, layRows R i (R.drop (i + 1)) = M ∧ M.length = n ∧ (∀ x ∈ M, x.length = 3) ∧ M.take (n - 1) = R.take i ++ R.drop (i + 1) := by
  refine ⟨_, rfl, ?_, ?_, ?_⟩
  · simp [layRows]; omega
  · intro x hx
    rcases List.mem_append.1 hx with hx | hx
    · exact hR x (List.mem_of_mem_take hx)
    · rcases List.mem_append.1 hx with hx | hx
      · exact hR x (List.mem_of_mem_drop hx)
      · exact hR x (List.mem_of_mem_drop hx)
  · rw [layRows, ← List.append_assoc, List.take_append_of_le_length (by simp; omega), List.take_of_length_le (by simp; omega)]

theorem del_ref (l : List Part) (i : Nat) (b cp : Nat) (s : Store) (nx : Nat) (hb : b < nx) (hi : i < l.length) (hl : l.length < 100000) (hcp : l.length ≤ cp) (hg : get s b = some (.cells 3 (l.map Part.row))) :
    Gives Go.Proofs.Tryz.prog GL 90 [.ref b 3 0 l.length (some cp), .p (.int .i64 i), .p (.int .i64 (i + 1))] s nx (.p (.lst 3 ((l.take i ++ l.drop (i + 1)).map Part.enc))) [b] [(b, none)] nx := by
  refine Gives.of_walkF (N := 33) (args := [.ref 0 3 0 l.length (some cp), .p (.int .i64 i), .p (.int .i64 (i + 1))]) (σ := [b]) (s0 := [(0, some (.cells 3 (l.map Part.row)))]) (m := 1) Go.Proofs.Tryz.func90 rfl rfl rfl (by simp) rfl (by simp [hg, hb]) (by simp) rfl ?_
  have e1 : i ≤ l.length := by omega
  have e2 : (i : Int) + 1 ≤ l.length := by omega
  have e3 : ¬ ((i : Int) = i + 1) := by omega
  have e4 : (0 : Int) ≤ i + 1 := by omega
  have e5 : (i : Int) ≤ i + 1 := by omega
  have e9 : ¬ l.length < i := by omega
  simp [e1, e2, e3, e4, e5, hi]
  refine ⟨by omega, XDraw.intro (by kernel_rfl) ?_⟩
  by_cases hil : i + 1 = l.length
  · have e6 : ¬ cp < i := by omega
    have e10 : l ≠ [] := by rintro rfl; simp at hi
    have e7 : (i : Int) < l.length := by omega
    have e8 : (l.length : Int) ≤ cp := by omega
    simp [e1, e2, e3, e4, e5, hi, hil, e6, e7, e8, e9, e10]
    refine ⟨by omega, .of (by kernel_rfl), by omega, ?_⟩
    simp [XEndT, layRows]
    refine ⟨by omega, ?_⟩
    rw [List.take_append_of_le_length (by simp; omega), List.take_of_length_le (by simp; omega)]
    rfl
  · have hq := @prow_one l (i + 1)
    simp at hq
    have hD1 : List.take (l.length - (i + 1)) (List.drop (i + 1) (List.map Part.row l)) = List.drop (i + 1) (List.map Part.row l) := List.take_of_length_le (by simp)
    have hne : List.drop (i + 1) (List.map Part.row l) ≠ [] := fun h => by
      have := congrArg List.length h
      simp at this
      omega
    simp [e1, e2, e3, e4, e5, hi, hil, hD1, e9]
    rw [if_pos ⟨by omega, hq⟩]
    simp [hne]
    refine ⟨prow_drop, by omega, e1, ?_⟩
    have e11 : i + (l.length - (i + 1)) = l.length - 1 := by omega
    have e12 : ¬ cp < l.length - 1 := by omega
    have e13 : l.length - 1 < l.length := by omega
    have e14 : (l.length : Int) ≤ cp := by omega
    have e15 : ((l.length - 1 : Nat) : Int) < l.length := by omega
    obtain ⟨M, hM, m1, m2, m3⟩ := del_m (R := l.map Part.row) (n := l.length) (i := i) (by simp) hi prow_len
    simp [e11, e12, e13, e14, e15, hne]
    rw [hM]
    simp [m1]
    refine ⟨.of (by kernel_rfl), by omega, by first | exact m2 | omega, ?_⟩
    have m4 : (layRows M (l.length - 1) (List.replicate (l.length - (l.length - 1)) [AV.p (PV.int IntKind.i64 0), AV.p (PV.str []), AV.p (PV.int IntKind.i64 0)])).take (l.length - 1) = M.take (l.length - 1) := by
      rw [layRows, List.take_append_of_le_length (by simp; omega), List.take_take]
      congr 1
      omega
    simp [XEndT, m3, m4]
    exact ⟨by omega, rfl⟩

theorem g_DelPart (l : List Part) (i : Nat) (b : Nat) (s : Store) (nx : Nat) (hb : b < nx) (hi : i < l.length) (hl : l.length < 100000) (hg : get s b = accB 3 (l.map Part.row)) :
    Gives Go.Proofs.Tryz.prog GL 90 [.acc b 3 l.length, .p (.int .i64 i), .p (.int .i64 (i + 1))] s nx (.p (.lst 3 ((l.take i ++ l.drop (i + 1)).map Part.enc))) [b] [(b, none)] nx := by
  refine Gives.of_acc (fun h => by omega) (fun h => ?_)
  have hg2 : get s b = some (.cells 3 (l.map Part.row)) := by
    rw [hg, accB, if_neg]
    simp
    rintro rfl
    simp at h
  refine Gives.capped (j := 0) rfl (fun cp hcp => ?_)
  exact del_ref l i b cp s nx hb hi hl hcp hg2

/-- What is not deleted. -/
def keptP (f : Pipe → Bool) (l : List Pipe) : List Pipe := l.filter fun x => !f x
theorem keptP_snoc {f : Pipe → Bool} {l : List Pipe} {i : Nat} {x : Pipe} (e : l[i]? = some x) : keptP f (l.take (i + 1)) = keptP f (l.take i) ++ (if f x then [] else [x]) := by
  unfold keptP
  rw [filter_snoc e]
  cases f x <;> simp

theorem idxI_neg {α : Type} {xs : List α} {q : α → Bool} (h : idxI xs q = -1) : ∀ x ∈ xs, q x = false := by
  unfold idxI at h
  cases hf : xs.findIdx? q with
  | none => exact List.findIdx?_eq_none_iff.1 hf
  | some i => rw [hf] at h; simp at h
theorem idxI_pos {α : Type} {xs : List α} {q : α → Bool} (h : ¬ idxI xs q = -1) : ∃ (k : Nat) (x : α), idxI xs q = k ∧ xs[k]? = some x ∧ q x = true ∧ ∀ (j : Nat) y, j < k → xs[j]? = some y → q y = false := by
  cases hf : xs.findIdx? q with
  | none => rw [idxI, hf] at h; exact (h rfl).elim
  | some i =>
    obtain ⟨h1, h2, h3⟩ := List.findIdx?_eq_some_iff_getElem.1 hf
    refine ⟨i, xs[i], by rw [idxI, hf], List.getElem?_eq_getElem h1, h2, fun j y hj hy => ?_⟩
    have := h3 j hj
    obtain ⟨hj1, rfl⟩ := List.getElem?_eq_some_iff.1 hy
    simpa using this

def zeroPipe : Pipe := ⟨⟨0, []⟩, ⟨0, []⟩⟩
/-- What stands in the slice when some are deleted. -/
def keptAll (f : Pipe → Bool) (l : List Pipe) : List Pipe := keptP f l ++ List.replicate (l.length - (keptP f l).length) zeroPipe

theorem delf_ref (l : List Pipe) (f : Pipe → Bool) (m : Nat) (i0 : Int) (hf : ∀ x ∈ l, Pure Go.Proofs.Tryz.prog GL m (x.av :: [.iptr 1 [[.int .i64 i0]] 0 0]) (.p (.bool (f x)))) (b qb : Nat) (s : Store) (nx : Nat) (hb : b < nx) (hqb : qb < nx) (hne : b ≠ qb) (h0 : 0 < l.length) (hl : l.length < 100000)
    (hg : get s b = some (.cells 4 (l.map Pipe.row))) (hgq : get s qb = some (.cells 1 [[.p (.int .i64 i0)]])) :
    Gives Go.Proofs.Tryz.prog GL 87 [.ref b 4 0 l.length none, .fn (.func m) [.ptr qb 1 0 0]] s nx (.ref b 4 0 (keptP f l).length none) [b, qb] [(b, some (.cells 4 ((keptAll f l).map Pipe.row))), (qb, some (.cells 1 [[.p (.int .i64 i0)]]))] nx := by
  refine Gives.mk_walkK (N := 42) (args := [.ref 0 4 0 l.length none, .fn (.func m) [.ptr 1 1 0 0]]) [b, qb] [] [(0, some (.cells 4 (l.map Pipe.row))), (1, some (.cells 1 [[.p (.int .i64 i0)]]))] [(0, some (.cells 4 ((keptAll f l).map Pipe.row))), (1, some (.cells 1 [[.p (.int .i64 i0)]]))] 2 0 (.ref 0 4 0 (keptP f l).length none) (fun _ => []) (up1 := [(b, some (.cells 4 ((keptAll f l).map Pipe.row))), (qb, some (.cells 1 [[.p (.int .i64 i0)]]))]) Go.Proofs.Tryz.func87 rfl rfl rfl (by simp) rfl (by simp [hg, hb, hgq, hqb, hne]; intro q hq; match q, hq with | 0, _ => simp | 1, _ => simp) (by simp) (by simp) (by simp) (by simp) rfl ?_
  simp
  refine xcall_lent ?_
  simp
  refine ⟨_, c_IdxF_Pipe l f m [.iptr 1 [[.int .i64 i0]] 0 0] rfl (by omega) hf, rfl, ?_⟩
  simp
  refine xif_split (fun h => ?_) (fun h => ?_)
  · simp at h
    have hk : keptP f l = l := by
      unfold keptP
      rw [List.filter_eq_self]
      intro x hx
      have := idxI_neg h x hx
      simp [this]
    simp [keptAll, hk]
    decide
  · simp at h
    obtain ⟨k, x0, hk1, hk2, hk3, hk4⟩ := idxI_pos h
    have hk0 : k < l.length := (List.getElem?_eq_some_iff.1 hk2).1
    have hkt : keptP f (l.take (k + 1)) = l.take k := by
      rw [keptP_snoc hk2, hk3]
      simp [keptP]
      intro x hx
      obtain ⟨j, hj, e⟩ := List.getElem_of_mem hx
      rw [List.length_take] at hj
      rw [List.getElem_take] at e
      exact hk4 j x (by omega) (by rw [List.getElem?_eq_getElem (by omega), e])
    rw [hk1]
    simp
    refine ⟨wrap_i64 (by omega) (by omega), ?_⟩
    refine XLoop.go [0, 1] [1] 0 [] (fun _ => []) (fun _ (g : List Pipe × Nat) => [(5, .p (.int .i64 (keptP f (l.take g.2)).length)), (6, .p (.int .i64 g.2))]) (fun _ g => [(0, some (.cells 4 (g.1.map Pipe.row)))]) (fun g => g.1.length = l.length ∧ g.2 ≤ l.length ∧ (keptP f (l.take g.2)).length < g.2 ∧ g.1.take (keptP f (l.take g.2)).length = keptP f (l.take g.2) ∧ g.1.drop g.2 = l.drop g.2) (fun g => l.length - g.2) (l, k + 1) ⟨rfl, by simp; omega, by simp [hkt]; omega, by simp [hkt], rfl⟩ ?_ ?_
    · simp [hkt]
      exact ⟨by omega, by decide⟩
    · rintro ⟨Q, j⟩ ⟨h1, h2, h3, h4, h5⟩
      simp at h1 h2 h3 h4 h5
      have hks := fun (x : Pipe) (e : l[j]? = some x) => keptP_snoc (f := f) e
      have hkend : j = l.length → keptP f (l.take j) = keptP f l := fun e => by rw [e, List.take_length]
      generalize hA : keptP f (l.take j) = A at *
      simp
      refine xif_split (fun h => ?_) (fun h => ?_)
      · simp at h
        obtain ⟨x, e⟩ := get_lt h
        have eQ : Q[j]? = some x := by
          have := congrArg (·[0]?) h5
          simpa [e] using this
        have hks := hks x e
        simp [h, eQ, h1, -getElem?_pos, List.getElem?_cons_zero, List.getElem?_cons_succ]
        refine xcall_lent ?_
        simp
        refine ⟨_, hf x (List.mem_of_getElem? e), rfl, ?_⟩
        simp
        have hkA : A.length < l.length := by omega
        have hf9 : (0 : Int) ≤ A.length := by omega
        refine xif_split (fun h6 => ?_) (fun h6 => ?_)
        · simp at h6
          simp [h1, hkA]
          have t1 : (Q.set A.length x).take A.length = A := by rw [List.take_set, List.set_eq_of_length_le (by simp; omega), h4]
          have t2 : (Q.set A.length x)[A.length]? = some x := by rw [List.getElem?_set_self (by omega)]
          have t3 := take_snoc t2
          rw [t1] at t3
          have t4 : (Q.set A.length x).drop (j + 1) = l.drop (j + 1) := by
            rw [List.drop_set, if_pos (by omega)]
            have := congrArg (List.drop 1) h5
            simpa [List.drop_drop] using this
          have t5 : keptP f (l.take (j + 1)) = A ++ [x] := by rw [hks, h6]; rfl
          refine ⟨wrap_i64 (by omega) (by omega), wrap_i64 (by omega) (by omega), Q.set A.length x, j + 1, ⟨by simp [h1], by omega, by rw [t5]; simp; omega, by rw [t5]; simpa using t3, t4⟩, by omega, ⟨by rw [t5]; simp, by simp⟩, ?_⟩
          rw [List.map_set]
          exact ⟨wknR_refl _, by decide⟩
        · simp at h6
          simp
          have t4 : Q.drop (j + 1) = l.drop (j + 1) := by
            have := congrArg (List.drop 1) h5
            simpa [List.drop_drop] using this
          have t5 : keptP f (l.take (j + 1)) = A := by rw [hks, h6]; simp
          exact ⟨wrap_i64 (by omega) (by omega), Q, j + 1, ⟨h1, by omega, by rw [t5]; omega, by rw [t5]; exact h4, t4⟩, by omega, ⟨by rw [t5], by simp⟩, wknR_refl _, by decide⟩
      · simp at h
        have hj : j = l.length := by omega
        have hA2 := hkend hj
        have h8 : ¬ (¬ A = [] ∧ A.length = l.length) := by omega
        have h9 : A.length ≤ l.length := by omega
        simp [h1, h8, h9]
        refine ⟨by omega, ?_⟩
        simp [keptAll, ← hA2]
        refine ⟨?_, by decide⟩
        rw [layRows, ← List.map_take, h4, List.drop_of_length_le (by simp; omega), List.append_nil]
        rfl

theorem VR.nils_lst {φ : Places} {own : Nat → Prop} {w : World} {k : Nat} {v : Value} (h : VR φ own w .nils v) : VR φ own w (.p (.lst k [])) v := by
  obtain ⟨a, rfl⟩ := h.nils_inv
  exact .p _ _ (.lst0 ..)
theorem Pure.nils_first {P : Program} {G : Globs} {f k : Nat} {rest : List AV} {r : AV} (h : Pure P G f (.p (.lst k []) :: rest) r) : Pure P G f (.nils :: rest) r := by
  refine ⟨h.pure, fun own w vs a b hl hv => h.run own w vs a b hl fun i x v hx hv' => ?_⟩
  cases i with
  | zero => simp at hx; subst hx; exact (hv 0 _ v rfl hv').nils_lst
  | succ i => exact hv (i + 1) x v (by simpa using hx) hv'

theorem delf_nil (m : Nat) (f : Pipe → Bool) (i0 : Int) (hf : ∀ x ∈ ([] : List Pipe), Pure Go.Proofs.Tryz.prog GL m (x.av :: [.iptr 1 [[.int .i64 i0]] 0 0]) (.p (.bool (f x)))) (qb : Nat) (s : Store) (nx : Nat) (hqb : qb < nx) (hgq : get s qb = some (.cells 1 [[.p (.int .i64 i0)]])) :
    Gives Go.Proofs.Tryz.prog GL 87 [.nils, .fn (.func m) [.ptr qb 1 0 0]] s nx .nils [qb] [(qb, some (.cells 1 [[.p (.int .i64 i0)]]))] nx := by
  refine Gives.mk_walkK (N := 42) (args := [.nils, .fn (.func m) [.ptr 0 1 0 0]]) [qb] [] [(0, some (.cells 1 [[.p (.int .i64 i0)]]))] [(0, some (.cells 1 [[.p (.int .i64 i0)]]))] 1 0 .nils (fun _ => []) (up1 := [(qb, some (.cells 1 [[.p (.int .i64 i0)]]))]) Go.Proofs.Tryz.func87 rfl rfl rfl (by simp) rfl (by simp [hqb, hgq]) (by simp) (by simp) (by simp) (by simp) rfl ?_
  simp
  refine xcall_lent ?_
  simp
  refine ⟨_, (c_IdxF_Pipe [] f m [.iptr 1 [[.int .i64 i0]] 0 0] rfl (by simp) hf).nils_first, rfl, ?_⟩
  simp [idxI]

end Go.Am
/- Contracts: package circuit: Add. -/
namespace Go.Am
open Go Go.Proofs Go.Pn


/-- The names of a right circuit rise. -/
theorem parts_step {c : Circuit} (h : checkP c = 0) {k : Nat} {x y : Part} (hx : c.parts[k]? = some x) (hy : c.parts[k + 1]? = some y) : Op.bytesLess x.name y.name = true := by
  have hp : firstErr (partAt c) c.parts.length = 0 := by unfold checkP at h; grind
  have hk : k + 1 < c.parts.length := (List.getElem?_eq_some_iff.1 hy).1
  have h2 := firstErr_zero hp hk
  unfold partAt at h2
  rw [hy] at h2
  simp only [Nat.add_sub_cancel, hx, Option.map_some, Option.getD_some] at h2
  split at h2
  · rename_i h3; exact (h3 h2).elim
  · split at h2
    · cases h2
    · rename_i h3
      have : ¬ ¬ Op.bytesLess x.name y.name = true := fun h4 => h3 ⟨by omega, h4⟩
      exact Decidable.not_not.1 this
theorem parts_lt {c : Circuit} (h : checkP c = 0) : ∀ {d k : Nat} {x y : Part}, c.parts[k]? = some x → c.parts[k + d + 1]? = some y → Op.bytesLess x.name y.name = true
  | 0, k, x, y, hx, hy => parts_step h hx hy
  | d + 1, k, x, y, hx, hy => by
    have hlt : k + d + 1 < c.parts.length := by
      have := (List.getElem?_eq_some_iff.1 hy).1
      omega
    obtain ⟨z, hz⟩ := get_lt hlt
    exact bl_trans (parts_lt h hx hz) (parts_step h hz hy)
theorem parts_mono {c : Circuit} (h : checkP c = 0) {i j : Nat} {x y : Part} (hij : i < j) (hx : c.parts[i]? = some x) (hy : c.parts[j]? = some y) : Op.bytesLess x.name y.name = true := by
  obtain ⟨d, rfl⟩ := Nat.exists_eq_add_of_lt hij
  exact parts_lt h hx hy

theorem addAt_lo {ps : List Part} {s : Txt} : ∀ (j : Nat) x, j < addAt ps s → ps[j]? = some x → Op.bytesLess x.name s = true := by
  intro j x hj hx
  unfold addAt at hj
  have hmem : x ∈ ps.takeWhile fun q => Op.bytesLess q.name s := by
    have h1 : (ps.takeWhile fun q => Op.bytesLess q.name s)[j]? = some x := by
      have hp := List.takeWhile_prefix (l := ps) (p := fun q => Op.bytesLess q.name s)
      rw [← hx]
      obtain ⟨t, ht⟩ := hp
      conv => rhs; rw [← ht]
      rw [List.getElem?_append_left hj]
    exact List.mem_of_getElem? h1
  have := List.all_takeWhile (l := ps) (p := fun q => Op.bytesLess q.name s)
  exact List.all_eq_true.1 this x hmem
theorem addAt_at {ps : List Part} {s : Txt} {y : Part} (h : ps[addAt ps s]? = some y) : Op.bytesLess y.name s = false := by
  unfold addAt at h
  induction ps with
  | nil => simp at h
  | cons p ps ih =>
    by_cases hp : Op.bytesLess p.name s = true
    · rw [List.takeWhile_cons_of_pos (by simpa using hp)] at h
      exact ih (by simpa using h)
    · rw [List.takeWhile_cons_of_neg (by simpa using hp)] at h
      simp at h
      subst h
      simpa using hp
theorem addAt_hi {c : Circuit} (h : checkP c = 0) {s : Txt} : ∀ (j : Nat) x, addAt c.parts s ≤ j → c.parts[j]? = some x → Op.bytesLess x.name s = false := by
  intro j x hj hx
  rcases Nat.eq_or_lt_of_le hj with e | e
  · subst e; exact addAt_at hx
  · have hlt : addAt c.parts s < c.parts.length := by have := (List.getElem?_eq_some_iff.1 hx).1; omega
    obtain ⟨y, hy⟩ := get_lt hlt
    have h1 := parts_mono h e hy hx
    have h2 := addAt_at hy
    cases h3 : Op.bytesLess x.name s with
    | false => rfl
    | true => rw [bl_trans h1 h3] at h2; cases h2

theorem mapUp {k : Nat} {l : List Pipe} : mapPipes (upFrom k) l = movedP k 1 l := by
  unfold mapPipes movedP
  apply List.map_congr_left
  intro x _
  obtain ⟨⟨a, s⟩, ⟨b, t⟩⟩ := x
  simp only [mapPipe, mvPipe, mvPort, upFrom]
  congr 1
  · split <;> rfl
  · split <;> rfl

theorem c_circuit_Add (c : Circuit) (p : Part) (hs : Sized c) (hp : p.name.length < 4611686018427387900) : Pure Go.Proofs.Tryz.prog GL 17 [c.av, p.av] (.tup [(addP c p).av, .p (.int .i64 (addErr c p))]) := by
  refine Pure.of_walk (N := 51) Go.Proofs.Tryz.func17 rfl rfl rfl (by simp) (by first | (simp; done) | simp [*]) ?_
  simp
  refine xcall_pure (c_circuit_Check c hs) ?_
  by_cases hc : checkP c = 0
  · have h2 := check_parts hc
    have hmx := moved_hx hc
    simp [hc]
    refine xcall_pure (c_circuit_find c p.name hs) ?_
    rw [← partI]
    by_cases hi : 0 ≤ partI c p.name
    · simp [hi]
      simp [addP, addErr, hc, hi, XEndT]
    · simp [hi]
      have hle := @addAt_le c.parts p.name
      have hbin := c_Bin_Part c.parts p.name (fun q => Lib.compareBytes q.name p.name) (addAt c.parts p.name) 78 (by omega) (fun x _ => c_circuit_Add_1 x p.name) hle (fun j x hj e => cmpB_lt.2 (addAt_lo j x hj e)) (fun j x hj e h => by
        have := addAt_hi hc j x hj e
        rw [cmpB_lt.1 h] at this
        cases this)
      refine xcall_pure hbin ?_
      simp
      refine XDraw.intro (by kernel_rfl) ?_
      simp
      refine xcall_gives (g_ClonePart c.parts _ _ (by omega)) ?_
      simp
      refine xcall_gives (g_InsPart c.parts (addAt c.parts p.name) p 4 5 (some 1) _ _ (by omega) (by omega) (by decide) hle (by omega) (by simp [get]) (by simp [get])) ?_
      have hO : (c.parts.take (addAt c.parts p.name) ++ p :: c.parts.drop (addAt c.parts p.name)) = (addOut c p).parts := rfl
      rw [hO]
      simp
      refine ⟨.of (by kernel_rfl), ?_⟩
      refine xcall_given ?_
      simp
      refine ⟨_, c_circuit_moved c.pipes (upFrom (addAt c.parts p.name)) 83 [.iptr 1 [[.int .i64 (addAt c.parts p.name)]] 0 0] rfl (by omega) (fun x hx => ⟨c_circuit_Add_2 (addAt c.parts p.name) x.fr.part (by have := hmx x hx; omega), c_circuit_Add_2 (addAt c.parts p.name) x.to.part (by have := hmx x hx; omega)⟩), ?_⟩
      have hO2 : mapPipes (upFrom (addAt c.parts p.name)) c.pipes = (addOut c p).pipes := mapUp
      rw [hO2]
      have hsO := addOut_sized hs h2.2.1 h2.2.2 hp
      obtain ⟨O, hO3⟩ : ∃ O, O = addOut c p := ⟨_, rfl⟩
      rw [← hO3] at hsO ⊢
      simp
      refine xcall_pure (c_circuit_Check O hsO) ?_
      simp
      by_cases hco : checkP O = 0
      · simp [hco]
        simp [addP, addErr, hc, hi, ← hO3, hco, XEndT]
      · simp [hco]
        simp [addP, addErr, hc, hi, ← hO3, hco, XEndT]
  · simp [hc, XEndT, addP, addErr]

end Go.Am
/- Contracts: package circuit: Remove. -/
namespace Go.Am
open Go Go.Proofs Go.Pn


theorem parts_inj {c : Circuit} (h : checkP c = 0) {i j : Nat} {x y : Part} (hx : c.parts[i]? = some x) (hy : c.parts[j]? = some y) (hn : x.name = y.name) : i = j := by
  rcases Nat.lt_trichotomy i j with hl | hl | hl
  · have := parts_mono h hl hx hy
    rw [hn, bl_irrefl] at this; cases this
  · exact hl
  · have := parts_mono h hl hy hx
    rw [hn, bl_irrefl] at this; cases this

theorem findIdx_part {c : Circuit} {s : Txt} {i : Nat} (h : partI c s = i) : c.parts.findIdx? (fun p => decide (p.name = s)) = some i := by
  unfold partI idxI at h
  cases hf : c.parts.findIdx? fun p => decide (p.name = s) with
  | none => rw [hf] at h; simp at h
  | some k => rw [hf] at h; simp at h; rw [show k = i by omega]

theorem rem_cond {c : Circuit} (h : checkP c = 0) {s : Txt} {i : Nat} {x : Part} (hi : partI c s = i) (e : c.parts[i]? = some x) :
    (∃ p ∈ c.parts, p.kind = 6 ∧ ownerI c p.name = i) ↔ (kindAt c (i : Int) = 1 ∧ (0 ≤ swAt c (s ++ [48]) ∨ 0 ≤ swAt c (s ++ [49]))) := by
  have hka : kindAt c (i : Int) = x.kind := by rw [kindAt, Int.toNat_natCast, e]; rfl
  constructor
  · rintro ⟨p, hp, hk, ho⟩
    unfold ownerI at ho
    cases hst : stem p.name with
    | none => rw [hst] at ho; simp at ho
    | some nm =>
      rw [hst] at ho
      simp only at ho
      cases hf : c.parts.findIdx? fun p => decide (p.name = nm) with
      | none => rw [hf] at ho; simp at ho
      | some k =>
        rw [hf] at ho
        simp only at ho
        split at ho
        · rename_i hk1
          have hki : k = i := by omega
          subst hki
          obtain ⟨h1, h2, _⟩ := List.findIdx?_eq_some_iff_getElem.1 hf
          have h3 := findIdx_part hi
          obtain ⟨h4, h5, _⟩ := List.findIdx?_eq_some_iff_getElem.1 h3
          have hnm : nm = s := by
            simp at h2 h5
            rw [← h2, ← h5]
          subst hnm
          rw [e] at hk1
          simp at hk1
          refine ⟨by rw [hka]; exact hk1, ?_⟩
          obtain ⟨j, hj, ej⟩ := List.getElem_of_mem hp
          have ej2 : c.parts[j]? = some p := by rw [List.getElem?_eq_getElem hj, ej]
          have hsw : ∀ t, p.name = t → 0 ≤ swAt c t := by
            rintro t rfl
            unfold swAt
            rcases partI_cases c p.name with h6 | ⟨j2, y, h6, h7, h8⟩
            · exfalso
              unfold partI idxI at h6
              cases hf2 : c.parts.findIdx? fun q => decide (q.name = p.name) with
              | none =>
                have := List.findIdx?_eq_none_iff.1 hf2 p hp
                simp at this
              | some k2 => rw [hf2] at h6; simp at h6
            · have hjj : j2 = j := parts_inj h h7 ej2 h8
              subst hjj
              rw [ej2] at h7; cases h7
              rw [h6]
              unfold swK
              have : kindAt c (j2 : Int) = 6 := by rw [kindAt, Int.toNat_natCast, ej2]; exact hk
              simp [this]
          unfold stem at hst
          split at hst
          · rename_i hl
            have hd := Option.some.inj hst
            rcases hl with hl | hl
            · left
              apply hsw
              rw [← hd]
              obtain ⟨ys, hys⟩ := List.getLast?_eq_some_iff.1 hl
              rw [hys]; simp
            · right
              apply hsw
              rw [← hd]
              obtain ⟨ys, hys⟩ := List.getLast?_eq_some_iff.1 hl
              rw [hys]; simp
          · cases hst
        · omega
  · rintro ⟨h1, h2⟩
    have key : ∀ d : UInt8, (d = 48 ∨ d = 49) → 0 ≤ swAt c (s ++ [d]) → ∃ p ∈ c.parts, p.kind = 6 ∧ ownerI c p.name = i := by
      intro d hd hsw
      unfold swAt swK at hsw
      rcases partI_cases c (s ++ [d]) with h6 | ⟨j, y, h6, h7, h8⟩
      · rw [h6] at hsw; simp at hsw
      · rw [h6] at hsw
        have hky : kindAt c (j : Int) = y.kind := by rw [kindAt, Int.toNat_natCast, h7]; rfl
        rw [hky] at hsw
        refine ⟨y, List.mem_of_getElem? h7, ?_, ?_⟩
        · apply Decidable.byContradiction
          intro h9
          rw [if_pos ⟨by omega, h9⟩] at hsw
          omega
        · have hst : stem y.name = some s := by
            rw [h8, stem, if_pos]
            · simp
            · simp; exact hd
          rw [ownerI, hst]
          simp only
          rw [findIdx_part hi]
          simp only
          rw [e]
          rw [hka] at h1
          simp [h1]
    rcases h2 with h2 | h2
    · exact key 48 (.inl rfl) h2
    · exact key 49 (.inr rfl) h2

theorem mapDown {k : Nat} {l : List Pipe} : mapPipes (downFrom k) (restIn k l) = movedP k (-1) (restIn k l) := by
  unfold mapPipes movedP
  apply List.map_congr_left
  intro x hx
  have := (List.mem_filter.1 hx).2
  simp at this
  obtain ⟨⟨a, s⟩, ⟨b, t⟩⟩ := x
  simp only at this
  simp only [mapPipe, mvPipe, mvPort, downFrom]
  congr 1
  · by_cases h : (k : Int) < a
    · rw [if_pos h, if_pos (by omega)]; rfl
    · rw [if_neg h, if_neg (by omega)]
  · by_cases h : (k : Int) < b
    · rw [if_pos h, if_pos (by omega)]; rfl
    · rw [if_neg h, if_neg (by omega)]



theorem c_circuit_Remove (c : Circuit) (s : Txt) (hs : Sized c) (hl : s.length < 4611686018427387900) : Pure Go.Proofs.Tryz.prog GL 19 [c.av, .p (.str s)] (.tup [(remP c s).av, .p (.int .i64 (remErr c s))]) := by
  refine Pure.of_walk (N := 61) Go.Proofs.Tryz.func19 rfl rfl rfl (by simp) (by first | (simp; done) | simp [*]) ?_
  simp
  refine xcall_pure (c_circuit_Check c hs) ?_
  by_cases hc : checkP c = 0
  · have h2 := check_parts hc
    have hmx := moved_hx hc
    simp [hc]
    refine xcall_pure (c_circuit_find c s hs) ?_
    rw [← partI]
    rcases partI_cases c s with hk | ⟨i, x, hk, e, _⟩
    · simp [hk]
      simp [remP, remErr, hc, hk, XEndT]
    · obtain ⟨hj, _⟩ := List.getElem?_eq_some_iff.1 e
      have hk0 : ¬ (i : Int) < 0 := by omega
      have hcond := rem_cond hc hk e
      simp [hk, hk0]
      refine XLoop.go [2, 4, 7, 25, 26] [0, 1, 2] 0 [] (fun _ => []) (fun _ (k : Nat) => [(27, .p (.int .i64 k))]) (fun _ _ => []) (fun k => k ≤ c.parts.length ∧ ∀ (j : Nat) y, j < k → c.parts[j]? = some y → ¬ (y.kind = 6 ∧ ownerI c y.name = i)) (fun k => c.parts.length - k) 0 ⟨by omega, fun j x h => by omega⟩ ?_ ?_
      · simp
        try decide
      · rintro k ⟨hk1, hb⟩
        simp
        refine xif_split (fun h => ?_) (fun h => ?_)
        · simp at h
          obtain ⟨y, ey⟩ := get_lt h
          simp [h, ey, -getElem?_pos, List.getElem?_cons_zero, List.getElem?_cons_succ]
          refine XDraw.intro (by kernel_rfl) ?_
          by_cases h6 : y.kind = 6
          · simp [h6]
            have ho := c_circuit_owner c ⟨6, y.name, y.delay⟩ hs (hs.names y (List.mem_of_getElem? ey))
            refine xcall_pure ho ?_
            by_cases h7 : ownerI c y.name = i
            · simp [h7]
              refine ⟨.of (by kernel_rfl), ?_⟩
              have hre : remErr c s = 14 := by
                have h8 := hcond.1 ⟨y, List.mem_of_getElem? ey, h6, h7⟩
                rw [remErr, if_neg (by simpa using hc), hk, if_neg hk0, if_pos h8]
              simp [XEndT, remP, hre]
            · simp [h7]
              refine ⟨.of (by kernel_rfl), wrap_i64 (by omega) (by omega), k + 1, ⟨by omega, fun j y2 a1 a2 a3 a4 => below_next (P := fun y => ¬ (y.kind = 6 ∧ ownerI c y.name = i)) hb ey (fun q => h7 q.2) j y2 a1 a2 ⟨a3, a4⟩⟩, by omega, ?_⟩
              simp
              decide
          · simp [h6]
            refine ⟨.of (by kernel_rfl), wrap_i64 (by omega) (by omega), k + 1, ⟨by omega, fun j y2 a1 a2 a3 a4 => below_next (P := fun y => ¬ (y.kind = 6 ∧ ownerI c y.name = i)) hb ey (fun q => h6 q.1) j y2 a1 a2 ⟨a3, a4⟩⟩, by omega, ?_⟩
            simp
            decide
        · simp at h
          have hkl : k = c.parts.length := by omega
          have hre : remErr c s = 0 := by
            rw [remErr, if_neg (by simpa using hc), hk, if_neg hk0, if_neg]
            intro h8
            obtain ⟨y, hy, h9⟩ := hcond.2 h8
            obtain ⟨q, hq, eq⟩ := List.getElem_of_mem hy
            exact hb q y (by omega) (by rw [List.getElem?_eq_getElem hq, eq]) h9
          simp
          refine xcall_gives (g_ClonePipe c.pipes _ _ (by omega)) ?_
          simp
          have hkp : keptP (fun x => decide (x.fr.part = i) || decide (x.to.part = i)) c.pipes = restIn i c.pipes := by
            unfold keptP restIn
            simp [Bool.not_or]
          have hrl := @restIn_len i c.pipes
          by_cases hp0 : c.pipes = []
          · refine xcall_gives (Gives.of_acc (fun _ => delf_nil 89 (fun x => decide (x.fr.part = i) || decide (x.to.part = i)) i (fun x hx => by cases hx) 2 _ _ (by omega) (by simp [get])) (fun h9 => by rw [hp0] at h9; simp at h9)) ?_
            simp [hp0]
            have hr0 : restIn i c.pipes = [] := by rw [hp0]; rfl
            have hO : (c.parts.take i ++ c.parts.drop (i + 1)) = (remOut c i).parts := rfl
            have hO2 : mapPipes (downFrom i) (restIn i c.pipes) = (remOut c i).pipes := mapDown
            have hrp : remP c s = remOut c i := by rw [remP, if_neg (by simpa using hre), hk]; rfl
            refine XDraw.intro (by kernel_rfl) ?_
            simp
            refine xcall_gives (g_ClonePart c.parts _ _ (by omega)) ?_
            simp
            refine ⟨wrap_i64 (by omega) (by omega), ?_⟩
            refine xcall_gives (g_DelPart c.parts i 4 _ _ (by omega) hj (by omega) (by simp [get])) ?_
            rw [hO]
            simp
            refine ⟨.of (by kernel_rfl), ?_⟩
            refine xcall_given ?_
            simp
            refine ⟨_, (c_circuit_moved [] (downFrom i) 91 [.iptr 1 [[.int .i64 i]] 0 0] rfl (by simp) (fun x hx => by cases hx)).nils_first, ?_⟩
            rw [hr0] at hO2
            rw [hO2]
            have hO4 : (⟨(remOut c i).parts, (remOut c i).pipes⟩ : Circuit) = remOut c i := rfl
            simp
            simp [XEndT, hrp, hre]
          · refine xcall_gives (Gives.of_acc (fun h9 => (hp0 (List.length_eq_zero_iff.1 h9)).elim) (fun h9 => delf_ref c.pipes (fun x => decide (x.fr.part = i) || decide (x.to.part = i)) 89 i (fun x _ => c_circuit_Remove_1 i x) 3 2 _ _ (by omega) (by omega) (by decide) h9 (by omega) (by simp [get, accB, hp0]) (by simp [get]))) ?_
            rw [hkp]
            simp
            have hO : (c.parts.take i ++ c.parts.drop (i + 1)) = (remOut c i).parts := rfl
            have hO2 : mapPipes (downFrom i) (restIn i c.pipes) = (remOut c i).pipes := mapDown
            have hrp : remP c s = remOut c i := by rw [remP, if_neg (by simpa using hre), hk]; rfl
            refine XDraw.intro (by kernel_rfl) ?_
            simp
            refine xcall_gives (g_ClonePart c.parts _ _ (by omega)) ?_
            simp
            refine ⟨wrap_i64 (by omega) (by omega), ?_⟩
            refine xcall_gives (g_DelPart c.parts i 4 _ _ (by omega) hj (by omega) (by simp [get])) ?_
            rw [hO]
            simp
            refine ⟨.of (by kernel_rfl), ?_⟩
            refine xcall_given ?_
            have hkt : List.take (restIn i c.pipes).length (List.map Pipe.row (keptAll (fun x => decide (x.fr.part = i) || decide (x.to.part = i)) c.pipes)) = (restIn i c.pipes).map Pipe.row := by
              rw [keptAll, hkp, List.map_append, List.take_left' (by simp)]
            have hkn : (restIn i c.pipes).length ≤ (keptAll (fun x => decide (x.fr.part = i) || decide (x.to.part = i)) c.pipes).length := by
              rw [keptAll, hkp]; simp
            simp [hkt, hkn]
            refine ⟨_, c_circuit_moved (restIn i c.pipes) (downFrom i) 91 [.iptr 1 [[.int .i64 i]] 0 0] rfl (by omega) (fun x hx => ⟨c_circuit_Remove_2 i x.fr.part (by have := hmx x (restIn_mem hx); omega), c_circuit_Remove_2 i x.to.part (by have := hmx x (restIn_mem hx); omega)⟩), ?_⟩
            rw [hO2]
            have hO4 : (⟨(remOut c i).parts, (remOut c i).pipes⟩ : Circuit) = remOut c i := rfl
            simp
            simp [XEndT, hrp, hre]
  · simp [hc, XEndT, remP, remErr]

end Go.Am
