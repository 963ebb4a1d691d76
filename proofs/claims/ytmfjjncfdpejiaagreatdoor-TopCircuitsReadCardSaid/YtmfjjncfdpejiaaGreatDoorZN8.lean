/- Lemmas and contracts for the proof of a statement of this seat. -/
import Derived.Test.YtmfjjncfdpejiaaGreatDoorZN5
import Derived.Test.YtmfjjncfdpejiaaGreatDoorZN4
import Derived.Test.YtmfjjncfdpejiaaGreatDoorZA7
import Derived.Test.YtmfjjncfdpejiaaGreatDoorZN1
set_option linter.unusedVariables false
set_option linter.unusedSimpArgs false
namespace Go.Am
open Go Go.Proofs Go.Pn
def pKs (ps : List Part) : List AV := ps.map fun p => .p (.str p.name)
def pVs (ps : List Part) : List AV := ps.map Part.av
def xKs (xs : List EndP) : List AV := xs.map EndP.av
def xVs (xs : List EndP) : List AV := xs.map fun _ => .p (.bool true)
theorem Jwg {ps : List Part} : (pKs ps).zip (pVs ps) = Ja2 ps := by
 induction ps with
 | nil => rfl
 | cons p ps ih => simpa [pKs, pVs, Ja2] using ih
theorem Kam {xs : List EndP} : (xKs xs).zip (xVs xs) = Ja3 xs := by
 induction xs with
 | nil => rfl
 | cons p ps ih => simpa [xKs, xVs, Ja3] using ih
theorem J7u {ps : List Part} (h : (ps.map (·.name)).Nodup) : (pKs ps).Nodup :=
 List.pairwise_map.2 ((List.pairwise_map.1 h).imp fun h1 h2 => h1 (by simpa using h2))
theorem Kal {xs : List EndP} (h : xs.Nodup) : (xKs xs).Nodup :=
 List.pairwise_map.2 (h.imp fun h1 h2 => h1 (Jof h2))
theorem J3e {ps : List Part} {xs : List EndP} (hp : (ps.map (·.name)).Nodup) (hx : xs.Nodup) (t : Jao) :
   Freeze [1, 2] ⟨t, [(0, some (.cells 2 [[.map 1, .map 2]])), (1, some (.map (Ja2 ps))), (2, some (.map (Ja3 xs)))], 3⟩
     ⟨t, [(1, none), (2, none), (0, some (.cells 2 [[.pmap (pKs ps) (pVs ps), .pmap (xKs xs) (xVs xs)]])), (0, some (.cells 2 [[.map 1, .map 2]])), (1, some (.map (Ja2 ps))), (2, some (.map (Ja3 xs)))], 3⟩ := by
 refine Freeze.of (B := [1, 2]) (st' := ⟨t, [(0, some (.cells 2 [[.map 1, .map 2]])), (1, some (.map (Ja2 ps))), (2, some (.map (Ja3 xs)))], 3⟩) [] [(1, none), (2, none), (0, some (.cells 2 [[.pmap (pKs ps) (pVs ps), .pmap (xKs xs) (xVs xs)]]))] (by simp) ?_ (by simp [keys])
 intro p hp' x hx'
 simp only [List.mem_cons, List.not_mem_nil, or_false] at hp'
 rcases hp' with rfl | rfl | rfl
 . cases hx'
 . cases hx'
 . simp only [Option.some.injEq] at hx'
   subst hx'
   refine ⟨by simp, _, rfl, FrzB.two (.frz _ _ (.map 1 (Ja2 ps) _ _ (by simp) rfl ?_ (by simp [pKs, pVs]) (J7u hp) ?_)) (.frz _ _ (.map 2 (Ja3 xs) _ _ (by simp) rfl ?_ (by simp [xKs, xVs]) (Kal hx) ?_))⟩
   . intro e he; obtain ⟨p, _, rfl⟩ := List.mem_map.1 he; exact ⟨rfl, rfl⟩
   . rw [Jwg]
   . intro e he; obtain ⟨p, _, rfl⟩ := List.mem_map.1 he; exact ⟨rfl, rfl⟩
   . rw [Kam]
def Jci {α : Type} (l : List α) (seen : List Nat) : List α := seen.filterMap fun i => l[i]?
theorem Jwb {α : Type} {l : List α} {seen : List Nat} {n : Nat} {x : α} (e : l[n]? = some x) : Jci l (seen ++ [n]) = Jci l seen ++ [x] := by
 simp [Jci, List.filterMap_append, e]
theorem Jmj {α : Type} {l : List α} {seen : List Nat} (h : ∀ n ∈ seen, n < l.length) : (Jci l seen).length = seen.length := by
 induction seen with
 | nil => rfl
 | cons n seen ih =>
   have hn := h n (by simp)
   have := ih fun m hm => h m (by simp [hm])
   unfold Jci at this ⊢
   rw [List.filterMap_cons, List.getElem?_eq_getElem hn]
   simp [this]
theorem Jwa {α : Type} : ∀ {l : List α}, Jci l (List.range l.length) = l
 | [] => rfl
 | x :: l => by
   have ih := @Jwa α l
   unfold Jci at ih ⊢
   rw [List.length_cons, List.range_succ_eq_map, List.filterMap_cons, List.filterMap_map]
   simp only [List.getElem?_cons_zero]
   congr 1
theorem Jv9 {α : Type} {l : List α} {seen : List Nat} (hn : seen.Nodup) (hl : ∀ n ∈ seen, n < l.length) (ha : ∀ i, i < l.length -> i ∈ seen) : (Jci l seen).Perm l := by
 have h1 : seen.Perm (List.range l.length) := by
   rw [List.perm_ext_iff_of_nodup hn List.nodup_range]
   intro i
   rw [List.mem_range]
   exact ⟨hl i, ha i⟩
 have h2 := h1.filterMap fun i => l[i]?
 exact h2.trans (by rw [show (List.range l.length).filterMap (fun i => l[i]?) = l from Jwa])
theorem Jt3 {α β : Type} {f : α -> β} {l : List α} {n : Nat} {y : β} (h : (l.map f)[n]? = some y) : ∃ x, l[n]? = some x /\ f x = y := by
 rw [List.getElem?_map, Option.map_eq_some_iff] at h; exact h
@[simp] def J1v (b : Nat) (st : St) : Nat := match get st.s b with | some (.cells _ [x :: _]) => nameOf x | _ => 0
@[simp] def J1w (b : Nat) (st : St) : Nat := match get st.s b with | some (.cells _ [[_, x]]) => nameOf x | _ => 0
def atM (nms : List Txt) (k : Nat) : List (AV × AV) := (List.range k).map fun (i : Nat) => (.p (.str ((nms[i]?).getD [])), .p (.int .i64 (i : Int)))
@[simp] theorem Kbg {nms : List Txt} {k : Nat} {s : Txt} : Jck Tryz.prog 9 (atM nms k) (.p (.str s)) = True :=
 eq_true ⟨_, Jjy, ⟨_, rfl⟩, fun e he => by obtain ⟨p, _, rfl⟩ := List.mem_map.1 he; exact ⟨_, rfl⟩⟩
@[simp] theorem Kcg {nms : List Txt} {k : Nat} {ρ : List Nat} : renE ρ (atM nms k) = some (atM nms k) :=
 Jmp fun e he => by obtain ⟨p, _, rfl⟩ := List.mem_map.1 he; exact ⟨rfl, rfl⟩
theorem Jw6 {x v : AV} : ∀ {es : List (AV × AV)}, (∀ e ∈ es, e.1 ≠ x) -> setA es x v = es ++ [(x, v)]
 | [], _ => rfl
 | e :: es, h => by
   rw [setA, if_neg (h e (by simp)), Jw6 fun e he => h e (by simp [he])]; rfl
theorem Jpb {α : Type} {l : List α} (h : l.Nodup) {i j : Nat} {x : α} (h1 : l[i]? = some x) (h2 : l[j]? = some x) : i = j := by
 obtain ⟨a, ha⟩ := gsI.1 h1
 obtain ⟨b, hb⟩ := gsI.1 h2
 exact (List.getElem_inj h).1 (ha.trans hb.symm)
theorem Jny {nms : List Txt} (h : nms.Nodup) {k : Nat} {x : Txt} (e : nms[k]? = some x) : setA (atM nms k) (.p (.str x)) (.p (.int .i64 (k : Int))) = atM nms (k + 1) := by
 rw [Jw6]
 . unfold atM; rw [List.range_succ, List.map_append]; simp [e]
 . intro y hy
   obtain ⟨i, hi, rfl⟩ := List.mem_map.1 hy
   have hi := List.mem_range.1 hi
   have hk := (gsI.1 e).1
   obtain ⟨z, ez⟩ := Jag (xs := nms) (k := i) (by omega)
   intro h2
   simp only [AV.p.injEq, PV.str.injEq, ez, Option.getD_some] at h2
   subst h2
   have := Jpb h ez e
   omega
theorem Jzl {nms : List Txt} (h : nms.Nodup) {s : Txt} (hs : s ∈ nms) : Jal (atM nms nms.length) (.p (.str s)) = some (.p (.int .i64 (atNm nms s))) := by
 obtain ⟨k, hk⟩ := List.mem_iff_getElem?.1 hs
 have hkl := (gsI.1 hk).1
 have e1 : atNm nms s = (k : Int) := by
   unfold atNm
   cases e : nms.findIdx? fun n => decide (n = s) with
   | none =>
     have := List.findIdx?_eq_none_iff.1 e s hs
     simp at this
   | some j =>
     obtain ⟨hj, h1, _⟩ := List.findIdx?_eq_some_iff_getElem.1 e
     have : nms[j]? = some s := by rw [List.getElem?_eq_getElem hj]; simpa using h1
     simp only [Jpb h this hk]
 rw [e1]
 have key : ∀ n, k < n -> n <= nms.length -> Jal (atM nms n) (.p (.str s)) = some (.p (.int .i64 (k : Int))) := by
   intro n
   induction n with
   | zero => intro h; omega
   | succ n ih =>
     intro h1 h2
     obtain ⟨z, ez⟩ := Jag (xs := nms) (k := n) (by omega)
     rw [<- Jny h ez, Jnx]
     by_cases hz : z = s
     . subst hz
       rw [if_pos rfl, Jpb h ez hk]
     . rw [if_neg (by simpa using hz)]
       have : k ≠ n := fun e => hz (by subst e; rw [ez] at hk; simpa using hk)
       exact ih (by omega) (by omega)
 exact key _ hkl (Nat.le_refl _)
def Jfs (ps : List Part) (k : Nat) : List Part := ((Jap ps).take k).map (Jd9 ps)
theorem J5a {ps : List Part} {k : Nat} (h : k <= (Jap ps).length) : (Jfs ps k).length = k := by simp [Jfs]; omega
theorem J5b {ps : List Part} {k : Nat} {x : Txt} (e : (Jap ps)[k]? = some x) : Jfs ps (k + 1) = Jfs ps k ++ [Jd9 ps x] := by
 unfold Jfs; rw [take_snoc e, List.map_append]; rfl
theorem J49 {ps : List Part} : Jfs ps (Jap ps).length = (Jap ps).map (Jd9 ps) := by unfold Jfs; rw [List.take_length]
def Jft (nms : List Txt) (ys : List EndP) (k : Nat) : List Pipe := (ys.take k).map (Jc6 nms)
theorem J5d {nms : List Txt} {ys : List EndP} {k : Nat} (h : k <= ys.length) : (Jft nms ys k).length = k := by simp [Jft]; omega
theorem J5e {nms : List Txt} {ys : List EndP} {k : Nat} {x : EndP} (e : ys[k]? = some x) : Jft nms ys (k + 1) = Jft nms ys k ++ [Jc6 nms x] := by
 unfold Jft; rw [take_snoc e, List.map_append]; rfl
theorem J5c {nms : List Txt} {ys : List EndP} : Jft nms ys ys.length = ys.map (Jc6 nms) := by unfold Jft; rw [List.take_length]
theorem Jzk {nms : List Txt} (h : nms.Nodup) {s : Txt} : hit false (.p (.int .i64 0)) (Jal (atM nms nms.length) (.p (.str s))) = .p (.int .i64 (atNm nms s)) := by
 by_cases hs : s ∈ nms
 . rw [Jzl h hs]; rfl
 . have e1 : atNm nms s = 0 := by
     unfold atNm
     have : (nms.findIdx? fun n => decide (n = s)) = none := List.findIdx?_eq_none_iff.2 fun x hx => by
       rw [decide_eq_false_iff_not]; rintro rfl; exact hs hx
     rw [this]
   have e2 : ∀ k, k <= nms.length -> Jal (atM nms k) (.p (.str s)) = none := by
     intro k
     induction k with
     | zero => intro _; rfl
     | succ k ih =>
       intro hk
       obtain ⟨z, ez⟩ := Jag (xs := nms) (k := k) (by omega)
       rw [<- Jny h ez, Jnx, if_neg, ih (by omega)]
       intro e
       simp only [AV.p.injEq, PV.str.injEq] at e
       subst e
       exact hs (List.mem_of_getElem? ez)
   rw [e2 _ (Nat.le_refl _), e1]; rfl
theorem J28 {ps : List Part} {s : Txt} (h : s ∈ ps.map (·.name)) : ∃ p, ps.find? (fun p => decide (p.name = s)) = some p := by
 cases e : ps.find? (fun p => decide (p.name = s)) with
 | some p => exact ⟨p, rfl⟩
 | none =>
   obtain ⟨p, hp, rfl⟩ := List.mem_map.1 h
   have := List.find?_eq_none.1 e p hp
   simp at this
set_option maxRecDepth 20000 in
theorem Jtw (ps : List Part) (xs : List EndP) (hp : (ps.map (·.name)).Nodup) (hx : xs.Nodup) (hpl : ps.length <= 200) (hxl : xs.length <= 2000) (s : Store) (nx d m q : Nat) (hnd : [d, m, q].Nodup) (hlt : ∀ b ∈ [d, m, q], b < nx)
   (g0 : get s d = some (.cells 2 [[.map m, .map q]])) (g1 : get s m = some (.map (Ja2 ps))) (g2 : get s q = some (.map (Ja3 xs))) :
   Gives Tryz.prog GL 70 [.ptr d 2 0 0] s nx (Jeq ⟨ps, xs⟩).av [d, m, q] [(d, none), (m, none), (q, none)] nx := by
 refine Gives.of_walkFL (N := 98) (args := [.ptr 0 2 0 0]) (σ := [d, m, q]) (s0 := [(0, some (.cells 2 [[.map 1, .map 2]])), (1, some (.map (Ja2 ps))), (2, some (.map (Ja3 xs)))]) (m := 3) _ Tryz.func70 rfl rfl rfl (by simp) rfl ?_ (by simp) rfl (J3e hp hx _).leads ?_
 . refine ⟨?_, rfl, hnd, hlt, rfl⟩
   simp [g0, g1, g2]
 simp
 refine Jai.go [0, 2, 3, 4, 18] [0, 3, 4, 5] 1 [7] (fun st => [nameOf (slot st.t 5)]) (fun n (seen : List Nat) => [(5, .acc n 1 seen.length)]) (fun n seen => [(6, some (.iter (pKs ps) (pVs ps) seen)), (n, accB 1 ((Jci (ps.map (·.name)) seen).map Txt.row))]) (fun seen => seen.Nodup /\ ∀ n ∈ seen, n < ps.length) (fun seen => ps.length - seen.length) [] ⟨List.nodup_nil, by simp⟩ ?_ ?_
 . simp [Jci]
   decide
 rintro seen ⟨hsn, hsl⟩
 simp
 refine Jyu (fun n kk vv hn hk hv => ?_) (fun hall => ?_)
 . obtain ⟨p, ep, rfl⟩ := Jt3 hk
   have hnl : n < ps.length := (gsI.1 ep).1
   have hsn2 : (seen ++ [n]).Nodup := by
     rw [List.nodup_append]
     exact ⟨hsn, by simp, fun a ha b hb e => hn (by simp at hb; rw [<- hb, <- e]; exact ha)⟩
   have hsl2 : ∀ m ∈ seen ++ [n], m < ps.length := fun m hm => by
     rcases List.mem_append.1 hm with hm | hm
     . exact hsl m hm
     . simp at hm; subst hm; exact hnl
   have hcn : seen.length + 1 <= ps.length := by
     have := Jj8 (m := List.range ps.length) hsn2 (fun m hm => List.mem_range.2 (hsl2 m hm))
     simpa using this
   have hpk : Jci (ps.map (·.name)) (seen ++ [n]) = Jci (ps.map (·.name)) seen ++ [p.name] := Jwb (by rw [List.getElem?_map, ep]; rfl)
   have hpl2 := @Jmj _ (ps.map (·.name)) seen (fun m hm => by rw [List.length_map]; exact hsl m hm)
   have hv2 : (pVs ps)[n]? = some p.av := by unfold pVs; rw [List.getElem?_map, ep]; rfl
   simp [hk, hv2]
   refine ⟨by omega, hpl2, seen ++ [n], ⟨hsn2, hsl2⟩, by simp; omega, by simp, ?_⟩
   simp [hpk]
   decide
 have hpm := Jv9 hsn (l := ps.map (·.name)) (fun n hn => by rw [List.length_map]; exact hsl n hn) (fun i hi => hall i (by simpa [pKs] using hi))
 have hnm : Jau Op.bytesLess (Jci (ps.map (·.name)) seen) = Jap ps := Jl0 Jiy hpm
 have hln : seen.length = (Jci (ps.map (·.name)) seen).length := (Jmj fun n hn => by rw [List.length_map]; exact hsl n hn).symm
 have hsp : seen.length <= ps.length := by rw [hln, hpm.length_eq, List.length_map]; exact Nat.le_refl _
 simp
 rw [hln]
 refine Jbz (J3n _ _ _ _ (by simp) (by omega) (by simp)) ?_
 rw [hnm, <- hln]
 have hnl : (Jap ps).length = seen.length := by rw [hln, hpm.length_eq]; exact Jgh
 have hnd2 : (Jap ps).Nodup := Jgi.nodup_iff.2 hp
 simp
 rw [<- hnl]
 have hnps : (Jap ps).length <= 200 := by omega
 have hmem : ∀ s ∈ Jap ps, ∃ p, ps.find? (fun p => decide (p.name = s)) = some p := fun s hs => J28 (Jj3.1 hs)
 refine Jai.go [0, 2, 3, 4, 29, 30] [0, 3, 7] 1 [8] (fun st => [J1v 4 st]) (fun n (k : Nat) => [(31, .p (.int .i64 k))]) (fun n k => [(4, some (.cells 2 [[.acc n 3 k, .nils]])), (n, accB 3 ((Jfs ps k).map Part.row)), (5, some (.map (atM (Jap ps) k)))]) (fun k => k <= (Jap ps).length) (fun k => (Jap ps).length - k) 0 (by omega) ?_ ?_
 . simp [atM, Jfs]
   decide
 intro k hk
 have hpk := J5a hk
 simp
 refine Jac (fun h3 => ?_) (fun h3 => ?_)
 . simp at h3
   obtain ⟨x, e⟩ := Jag h3
   obtain ⟨p, ep⟩ := hmem x (List.mem_of_getElem? e)
   have hne : Jap ps ≠ [] := List.length_pos_iff.1 (by omega)
   have hset := Jny hnd2 e
   have hpn := J5b (ps := ps) e
   have hpx : Jd9 ps x = p := by unfold Jd9; rw [ep]; rfl
   simp [h3, e, hne, hset, -getElem?_pos, List.getElem?_cons_zero, List.getElem?_cons_succ]
   refine Jak.intro (by kernel_rfl) ?_
   simp [Jwg, ep, hit]
   refine ⟨by omega, hpk, .of (by kernel_rfl), wrap_i64 (by omega) (by omega), k + 1, by omega, by omega, by omega, ?_⟩
   rw [hpn, hpx]
   simp
   decide
 simp at h3
 have hkl : k = (Jap ps).length := by omega
 subst hkl
 rw [J49] at hpk ⊢
 generalize hRP : (Jap ps).map (Jd9 ps) = RP at hpk ⊢
 simp
 refine Jai.go [2, 3, 4, 55] [0, 3, 4, 5, 8] 1 [10] (fun st => [nameOf (slot st.t 9)]) (fun n (seen : List Nat) => [(9, .acc n 4 seen.length)]) (fun n seen => [(9, some (.iter (xKs xs) (xVs xs) seen)), (n, accB 4 ((Jci xs seen).map EndP.row))]) (fun seen => seen.Nodup /\ ∀ n ∈ seen, n < xs.length) (fun seen => xs.length - seen.length) [] ⟨List.nodup_nil, by simp⟩ ?_ ?_
 . simp [Jci]
   decide
 clear hall hpm hnm hln hsl hsn hsp hnl seen
 rintro seen ⟨hsn, hsl⟩
 simp
 refine Jyu (fun n kk vv hn hk hv => ?_) (fun hall => ?_)
 . obtain ⟨x, ex, rfl⟩ := Jt3 hk
   have hnl : n < xs.length := (gsI.1 ex).1
   have hsn2 : (seen ++ [n]).Nodup := by
     rw [List.nodup_append]
     exact ⟨hsn, by simp, fun a ha b hb e => hn (by simp at hb; rw [<- hb, <- e]; exact ha)⟩
   have hsl2 : ∀ m ∈ seen ++ [n], m < xs.length := fun m hm => by
     rcases List.mem_append.1 hm with hm | hm
     . exact hsl m hm
     . simp at hm; subst hm; exact hnl
   have hcn : seen.length + 1 <= xs.length := by
     have := Jj8 (m := List.range xs.length) hsn2 (fun m hm => List.mem_range.2 (hsl2 m hm))
     simpa using this
   have hpk : Jci xs (seen ++ [n]) = Jci xs seen ++ [x] := Jwb ex
   have hpl2 := @Jmj _ xs seen hsl
   have hv2 : (xVs xs)[n]? = some (.p (.bool true)) := by unfold xVs; rw [List.getElem?_map, ex]; rfl
   simp [hk, hv2]
   refine ⟨by omega, hpl2, fun r a b _ e => by subst e; rfl, seen ++ [n], ⟨hsn2, hsl2⟩, by simp; omega, by simp, ?_⟩
   simp [hpk]
   decide
 have hpm := Jv9 hsn (l := xs) hsl (fun i hi => hall i (by simpa [xKs] using hi))
 have hnm : Jau Jbe (Jci xs seen) = Jau Jbe xs := Jl0 Jgt hpm
 have hln : seen.length = (Jci xs seen).length := (Jmj hsl).symm
 have hsp : (Jci xs seen).length = xs.length := hpm.length_eq
 simp
 rw [hln]
 refine Jbz (J3q _ _ _ _ (by simp) (by omega) (by simp)) ?_
 rw [hnm, hsp, <- @Jgh _ Jbe xs]
 have hyl : (Jau Jbe xs).length <= 2000 := by rw [Jgh]; exact hxl
 generalize hY : Jau Jbe xs = ys at hyl
 simp
 refine Jai.go [2, 3, 4, 66, 67] [3, 5, 8, 10] 1 [11] (fun st => [J1w 4 st]) (fun n (k : Nat) => [(68, .p (.int .i64 k))]) (fun n k => [(4, some (.cells 2 [[.acc 8 3 (Jap ps).length, .acc n 4 k]])), (n, accB 4 ((Jft (Jap ps) ys k).map Pipe.row))]) (fun k => k <= ys.length) (fun k => ys.length - k) 0 (by omega) ?_ ?_
 . simp [Jft]
   decide
 intro k hk
 have hpk2 := J5d (nms := Jap ps) hk
 simp
 refine Jac (fun h3 => ?_) (fun h3 => ?_)
 . simp at h3
   obtain ⟨x, e⟩ := Jag h3
   have hne : ys ≠ [] := List.length_pos_iff.1 (by omega)
   have ha := fun s => Jzk hnd2 (s := s)
   have hpn := J5e (nms := Jap ps) e
   have hr : List.range 11 = [0, 1, 2, 3, 4, 5, 6, 7, 8, 9, 10] := rfl
   simp [h3, e, hne, ha, -getElem?_pos, List.getElem?_cons_zero, List.getElem?_cons_succ]
   refine ⟨by omega, hpk2, wrap_i64 (by omega) (by omega), k + 1, by omega, by omega, ?_⟩
   rw [hpn, hr]
   simp [Jc6]
   try decide
 simp at h3
 have hkl : k = ys.length := by omega
 subst hkl
 rw [J5c] at hpk2 ⊢
 generalize hXP : ys.map (Jc6 (Jap ps)) = XP at hpk2 ⊢
 have hdc : Jeq ⟨ps, xs⟩ = ⟨RP, XP⟩ := by unfold Jeq; rw [<- hRP, <- hXP, <- hY]
 rw [hdc, <- hpk, <- hpk2]
 simp [Jaa]
end Go.Am
namespace Go.Am
open Go Go.Proofs Go.Pn
end Go.Am
namespace Go.Am
open Go Go.Proofs Go.Pn
end Go.Am
namespace Go.Am
open Go Go.Proofs Go.Pn
end Go.Am
