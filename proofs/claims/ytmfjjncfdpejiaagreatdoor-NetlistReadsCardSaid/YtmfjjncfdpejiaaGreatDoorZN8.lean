/- Lemmas and contracts for the proof of a statement of this seat. -/
import Derived.Test.YtmfjjncfdpejiaaGreatDoorZN5
import Derived.Test.YtmfjjncfdpejiaaGreatDoorZN4
import Derived.Test.YtmfjjncfdpejiaaGreatDoorZA7
import Derived.Test.YtmfjjncfdpejiaaGreatDoorZN1
set_option linter.unusedVariables false
set_option linter.unusedSimpArgs false
namespace Go.Am
open Go Go.Proofs Go.Pn
def pKs (ps : List Part) : List AV := ps.map fun p => .p (.str p.name)
def pVs (ps : List Part) : List AV := ps.map Part.av
def xKs (xs : List EndP) : List AV := xs.map EndP.av
def xVs (xs : List EndP) : List AV := xs.map fun _ => .p (.bool true)
theorem Jt8 {ps : List Part} : (pKs ps).zip (pVs ps) = Jap ps := by
 induction ps with
 | nil => rfl
 | cons p ps ih => simpa [pKs, pVs, Jap] using ih
theorem J76 {xs : List EndP} : (xKs xs).zip (xVs xs) = Jau xs := by
 induction xs with
 | nil => rfl
 | cons p ps ih => simpa [xKs, xVs, Jau] using ih
theorem J5g {ps : List Part} (h : (ps.map (·.name)).Nodup) : (pKs ps).Nodup :=
 List.pairwise_map.2 ((List.pairwise_map.1 h).imp fun h1 h2 => h1 (by simpa using h2))
theorem J75 {xs : List EndP} (h : xs.Nodup) : (xKs xs).Nodup :=
 List.pairwise_map.2 (h.imp fun h1 h2 => h1 (Jm8 h2))
theorem J1b {ps : List Part} {xs : List EndP} (hp : (ps.map (·.name)).Nodup) (hx : xs.Nodup) (t : Jaq) :
   Freeze [1, 2] ⟨t, [(0, some (.cells 2 [[.map 1, .map 2]])), (1, some (.map (Jap ps))), (2, some (.map (Jau xs)))], 3⟩
     ⟨t, [(1, none), (2, none), (0, some (.cells 2 [[.pmap (pKs ps) (pVs ps), .pmap (xKs xs) (xVs xs)]])), (0, some (.cells 2 [[.map 1, .map 2]])), (1, some (.map (Jap ps))), (2, some (.map (Jau xs)))], 3⟩ := by
 refine Freeze.of (B := [1, 2]) (st' := ⟨t, [(0, some (.cells 2 [[.map 1, .map 2]])), (1, some (.map (Jap ps))), (2, some (.map (Jau xs)))], 3⟩) [] [(1, none), (2, none), (0, some (.cells 2 [[.pmap (pKs ps) (pVs ps), .pmap (xKs xs) (xVs xs)]]))] (by simp) ?_ (by simp [keys])
 intro p hp' x hx'
 simp only [List.mem_cons, List.not_mem_nil, or_false] at hp'
 rcases hp' with rfl | rfl | rfl
 . cases hx'
 . cases hx'
 . simp only [Option.some.injEq] at hx'
   subst hx'
   refine ⟨by simp, _, rfl, FrzB.two (.frz _ _ (.map 1 (Jap ps) _ _ (by simp) rfl ?_ (by simp [pKs, pVs]) (J5g hp) ?_)) (.frz _ _ (.map 2 (Jau xs) _ _ (by simp) rfl ?_ (by simp [xKs, xVs]) (J75 hx) ?_))⟩
   . intro e he; obtain ⟨p, _, rfl⟩ := List.mem_map.1 he; exact ⟨rfl, rfl⟩
   . rw [Jt8]
   . intro e he; obtain ⟨p, _, rfl⟩ := List.mem_map.1 he; exact ⟨rfl, rfl⟩
   . rw [J76]
def Jca {α : Type} (l : List α) (seen : List Nat) : List α := seen.filterMap fun i => l[i]?
theorem Jt2 {α : Type} {l : List α} {seen : List Nat} {n : Nat} {x : α} (e : l[n]? = some x) : Jca l (seen ++ [n]) = Jca l seen ++ [x] := by
 simp [Jca, List.filterMap_append, e]
theorem Jlg {α : Type} {l : List α} {seen : List Nat} (h : ∀ n ∈ seen, n < l.length) : (Jca l seen).length = seen.length := by
 induction seen with
 | nil => rfl
 | cons n seen ih =>
   have hn := h n (by simp)
   have := ih fun m hm => h m (by simp [hm])
   unfold Jca at this ⊢
   rw [List.filterMap_cons, List.getElem?_eq_getElem hn]
   simp [this]
theorem Jt1 {α : Type} : ∀ {l : List α}, Jca l (List.range l.length) = l
 | [] => rfl
 | x :: l => by
   have ih := @Jt1 α l
   unfold Jca at ih ⊢
   rw [List.length_cons, List.range_succ_eq_map, List.filterMap_cons, List.filterMap_map]
   simp only [List.getElem?_cons_zero]
   congr 1
theorem Jt0 {α : Type} {l : List α} {seen : List Nat} (hn : seen.Nodup) (hl : ∀ n ∈ seen, n < l.length) (ha : ∀ i, i < l.length -> i ∈ seen) : (Jca l seen).Perm l := by
 have h1 : seen.Perm (List.range l.length) := by
   rw [List.perm_ext_iff_of_nodup hn List.nodup_range]
   intro i
   rw [List.mem_range]
   exact ⟨hl i, ha i⟩
 have h2 := h1.filterMap fun i => l[i]?
 exact h2.trans (by rw [show (List.range l.length).filterMap (fun i => l[i]?) = l from Jt1])
theorem Jrx {α β : Type} {f : α -> β} {l : List α} {n : Nat} {y : β} (h : (l.map f)[n]? = some y) : ∃ x, l[n]? = some x /\ f x = y := by
 rw [List.getElem?_map, Option.map_eq_some_iff] at h; exact h
@[simp] def Jzs (b : Nat) (st : St) : Nat := match get st.s b with | some (.cells _ [x :: _]) => nameOf x | _ => 0
@[simp] def Jzt (b : Nat) (st : St) : Nat := match get st.s b with | some (.cells _ [[_, x]]) => nameOf x | _ => 0
def atM (nms : List Txt) (k : Nat) : List (AV × AV) := (List.range k).map fun (i : Nat) => (.p (.str ((nms[i]?).getD [])), .p (.int .i64 (i : Int)))
@[simp] theorem J86 {nms : List Txt} {k : Nat} {s : Txt} : Jc2 Tryz.prog 9 (atM nms k) (.p (.str s)) = True :=
 eq_true ⟨_, Jhc, ⟨_, rfl⟩, fun e he => by obtain ⟨p, _, rfl⟩ := List.mem_map.1 he; exact ⟨_, rfl⟩⟩
@[simp] theorem J95 {nms : List Txt} {k : Nat} {ρ : List Nat} : renE ρ (atM nms k) = some (atM nms k) :=
 Ji5 fun e he => by obtain ⟨p, _, rfl⟩ := List.mem_map.1 he; exact ⟨rfl, rfl⟩
theorem Jvc {x v : AV} : ∀ {es : List (AV × AV)}, (∀ e ∈ es, e.1 ≠ x) -> setA es x v = es ++ [(x, v)]
 | [], _ => rfl
 | e :: es, h => by
   rw [setA, if_neg (h e (by simp)), Jvc fun e he => h e (by simp [he])]; rfl
theorem Jix {α : Type} {l : List α} (h : l.Nodup) {i j : Nat} {x : α} (h1 : l[i]? = some x) (h2 : l[j]? = some x) : i = j := by
 obtain ⟨a, ha⟩ := gsI.1 h1
 obtain ⟨b, hb⟩ := gsI.1 h2
 exact (List.getElem_inj h).1 (ha.trans hb.symm)
theorem Jms {nms : List Txt} (h : nms.Nodup) {k : Nat} {x : Txt} (e : nms[k]? = some x) : setA (atM nms k) (.p (.str x)) (.p (.int .i64 (k : Int))) = atM nms (k + 1) := by
 rw [Jvc]
 . unfold atM; rw [List.range_succ, List.map_append]; simp [e]
 . intro y hy
   obtain ⟨i, hi, rfl⟩ := List.mem_map.1 hy
   have hi := List.mem_range.1 hi
   have hk := (gsI.1 e).1
   obtain ⟨z, ez⟩ := Jah (xs := nms) (k := i) (by omega)
   intro h2
   simp only [AV.p.injEq, PV.str.injEq, ez, Option.getD_some] at h2
   subst h2
   have := Jix h ez e
   omega
theorem Jxn {nms : List Txt} (h : nms.Nodup) {s : Txt} (hs : s ∈ nms) : Jao (atM nms nms.length) (.p (.str s)) = some (.p (.int .i64 (atNm nms s))) := by
 obtain ⟨k, hk⟩ := List.mem_iff_getElem?.1 hs
 have hkl := (gsI.1 hk).1
 have e1 : atNm nms s = (k : Int) := by
   unfold atNm
   cases e : nms.findIdx? fun n => decide (n = s) with
   | none =>
     have := List.findIdx?_eq_none_iff.1 e s hs
     simp at this
   | some j =>
     obtain ⟨hj, h1, _⟩ := List.findIdx?_eq_some_iff_getElem.1 e
     have : nms[j]? = some s := by rw [List.getElem?_eq_getElem hj]; simpa using h1
     simp only [Jix h this hk]
 rw [e1]
 have key : ∀ n, k < n -> n <= nms.length -> Jao (atM nms n) (.p (.str s)) = some (.p (.int .i64 (k : Int))) := by
   intro n
   induction n with
   | zero => intro h; omega
   | succ n ih =>
     intro h1 h2
     obtain ⟨z, ez⟩ := Jah (xs := nms) (k := n) (by omega)
     rw [<- Jms h ez, Jie]
     by_cases hz : z = s
     . subst hz
       rw [if_pos rfl, Jix h ez hk]
     . rw [if_neg (by simpa using hz)]
       have : k ≠ n := fun e => hz (by subst e; rw [ez] at hk; simpa using hk)
       exact ih (by omega) (by omega)
 exact key _ hkl (Nat.le_refl _)
def Jfg (ps : List Part) (k : Nat) : List Part := ((Jar ps).take k).map (Jdz ps)
theorem J24 {ps : List Part} {k : Nat} (h : k <= (Jar ps).length) : (Jfg ps k).length = k := by simp [Jfg]; omega
theorem J25 {ps : List Part} {k : Nat} {x : Txt} (e : (Jar ps)[k]? = some x) : Jfg ps (k + 1) = Jfg ps k ++ [Jdz ps x] := by
 unfold Jfg; rw [take_snoc e, List.map_append]; rfl
theorem J23 {ps : List Part} : Jfg ps (Jar ps).length = (Jar ps).map (Jdz ps) := by unfold Jfg; rw [List.take_length]
def Jfh (nms : List Txt) (ys : List EndP) (k : Nat) : List Pipe := (ys.take k).map (Jcz nms)
theorem J27 {nms : List Txt} {ys : List EndP} {k : Nat} (h : k <= ys.length) : (Jfh nms ys k).length = k := by simp [Jfh]; omega
theorem J28 {nms : List Txt} {ys : List EndP} {k : Nat} {x : EndP} (e : ys[k]? = some x) : Jfh nms ys (k + 1) = Jfh nms ys k ++ [Jcz nms x] := by
 unfold Jfh; rw [take_snoc e, List.map_append]; rfl
theorem J26 {nms : List Txt} {ys : List EndP} : Jfh nms ys ys.length = ys.map (Jcz nms) := by unfold Jfh; rw [List.take_length]
theorem Jxm {nms : List Txt} (h : nms.Nodup) {s : Txt} : hit false (.p (.int .i64 0)) (Jao (atM nms nms.length) (.p (.str s))) = .p (.int .i64 (atNm nms s)) := by
 by_cases hs : s ∈ nms
 . rw [Jxn h hs]; rfl
 . have e1 : atNm nms s = 0 := by
     unfold atNm
     have : (nms.findIdx? fun n => decide (n = s)) = none := List.findIdx?_eq_none_iff.2 fun x hx => by
       rw [decide_eq_false_iff_not]; rintro rfl; exact hs hx
     rw [this]
   have e2 : ∀ k, k <= nms.length -> Jao (atM nms k) (.p (.str s)) = none := by
     intro k
     induction k with
     | zero => intro _; rfl
     | succ k ih =>
       intro hk
       obtain ⟨z, ez⟩ := Jah (xs := nms) (k := k) (by omega)
       rw [<- Jms h ez, Jie, if_neg, ih (by omega)]
       intro e
       simp only [AV.p.injEq, PV.str.injEq] at e
       subst e
       exact hs (List.mem_of_getElem? ez)
   rw [e2 _ (Nat.le_refl _), e1]; rfl
theorem J00 {ps : List Part} {s : Txt} (h : s ∈ ps.map (·.name)) : ∃ p, ps.find? (fun p => decide (p.name = s)) = some p := by
 cases e : ps.find? (fun p => decide (p.name = s)) with
 | some p => exact ⟨p, rfl⟩
 | none =>
   obtain ⟨p, hp, rfl⟩ := List.mem_map.1 h
   have := List.find?_eq_none.1 e p hp
   simp at this
set_option maxRecDepth 20000 in
theorem Jkl (ps : List Part) (xs : List EndP) (hp : (ps.map (·.name)).Nodup) (hx : xs.Nodup) (hpl : ps.length <= 200) (hxl : xs.length <= 2000) (s : Store) (nx d m q : Nat) (hnd : [d, m, q].Nodup) (hlt : ∀ b ∈ [d, m, q], b < nx)
   (g0 : get s d = some (.cells 2 [[.map m, .map q]])) (g1 : get s m = some (.map (Jap ps))) (g2 : get s q = some (.map (Jau xs))) :
   Gives Tryz.prog GL 70 [.ptr d 2 0 0] s nx (Jdp ⟨ps, xs⟩).av [d, m, q] [(d, none), (m, none), (q, none)] nx := by
 refine Gives.of_walkFL (N := 98) (args := [.ptr 0 2 0 0]) (σ := [d, m, q]) (s0 := [(0, some (.cells 2 [[.map 1, .map 2]])), (1, some (.map (Jap ps))), (2, some (.map (Jau xs)))]) (m := 3) _ Tryz.func70 rfl rfl rfl (by simp) rfl ?_ (by simp) rfl (J1b hp hx _).leads ?_
 . refine ⟨?_, rfl, hnd, hlt, rfl⟩
   simp [g0, g1, g2]
 simp
 refine Jam.go [0, 2, 3, 4, 18] [0, 3, 4, 5] 1 [7] (fun st => [nameOf (slot st.t 5)]) (fun n (seen : List Nat) => [(5, .acc n 1 seen.length)]) (fun n seen => [(6, some (.iter (pKs ps) (pVs ps) seen)), (n, accB 1 ((Jca (ps.map (·.name)) seen).map Txt.row))]) (fun seen => seen.Nodup /\ ∀ n ∈ seen, n < ps.length) (fun seen => ps.length - seen.length) [] ⟨List.nodup_nil, by simp⟩ ?_ ?_
 . simp [Jca]
   decide
 rintro seen ⟨hsn, hsl⟩
 simp
 refine Jwz (fun n kk vv hn hk hv => ?_) (fun hall => ?_)
 . obtain ⟨p, ep, rfl⟩ := Jrx hk
   have hnl : n < ps.length := (gsI.1 ep).1
   have hsn2 : (seen ++ [n]).Nodup := by
     rw [List.nodup_append]
     exact ⟨hsn, by simp, fun a ha b hb e => hn (by simp at hb; rw [<- hb, <- e]; exact ha)⟩
   have hsl2 : ∀ m ∈ seen ++ [n], m < ps.length := fun m hm => by
     rcases List.mem_append.1 hm with hm | hm
     . exact hsl m hm
     . simp at hm; subst hm; exact hnl
   have hcn : seen.length + 1 <= ps.length := by
     have := Jn4 (m := List.range ps.length) hsn2 (fun m hm => List.mem_range.2 (hsl2 m hm))
     simpa using this
   have hpk : Jca (ps.map (·.name)) (seen ++ [n]) = Jca (ps.map (·.name)) seen ++ [p.name] := Jt2 (by rw [List.getElem?_map, ep]; rfl)
   have hpl2 := @Jlg _ (ps.map (·.name)) seen (fun m hm => by rw [List.length_map]; exact hsl m hm)
   have hv2 : (pVs ps)[n]? = some p.av := by unfold pVs; rw [List.getElem?_map, ep]; rfl
   simp [hk, hv2]
   refine ⟨by omega, hpl2, seen ++ [n], ⟨hsn2, hsl2⟩, by simp; omega, by simp, ?_⟩
   simp [hpk]
   decide
 have hpm := Jt0 hsn (l := ps.map (·.name)) (fun n hn => by rw [List.length_map]; exact hsl n hn) (fun i hi => hall i (by simpa [pKs] using hi))
 have hnm : Jav Op.bytesLess (Jca (ps.map (·.name)) seen) = Jar ps := Jkw Jhw hpm
 have hln : seen.length = (Jca (ps.map (·.name)) seen).length := (Jlg fun n hn => by rw [List.length_map]; exact hsl n hn).symm
 have hsp : seen.length <= ps.length := by rw [hln, hpm.length_eq, List.length_map]; exact Nat.le_refl _
 simp
 rw [hln]
 refine Ja7 (J1k _ _ _ _ (by simp) (by omega) (by simp)) ?_
 rw [hnm, <- hln]
 have hnl : (Jar ps).length = seen.length := by rw [hln, hpm.length_eq]; exact Jez
 have hnd2 : (Jar ps).Nodup := Jf1.nodup_iff.2 hp
 simp
 rw [<- hnl]
 have hnps : (Jar ps).length <= 200 := by omega
 have hmem : ∀ s ∈ Jar ps, ∃ p, ps.find? (fun p => decide (p.name = s)) = some p := fun s hs => J00 (Jiw.1 hs)
 refine Jam.go [0, 2, 3, 4, 29, 30] [0, 3, 7] 1 [8] (fun st => [Jzs 4 st]) (fun n (k : Nat) => [(31, .p (.int .i64 k))]) (fun n k => [(4, some (.cells 2 [[.acc n 3 k, .nils]])), (n, accB 3 ((Jfg ps k).map Part.row)), (5, some (.map (atM (Jar ps) k)))]) (fun k => k <= (Jar ps).length) (fun k => (Jar ps).length - k) 0 (by omega) ?_ ?_
 . simp [atM, Jfg]
   decide
 intro k hk
 have hpk := J24 hk
 simp
 refine Jac (fun h3 => ?_) (fun h3 => ?_)
 . simp at h3
   obtain ⟨x, e⟩ := Jah h3
   obtain ⟨p, ep⟩ := hmem x (List.mem_of_getElem? e)
   have hne : Jar ps ≠ [] := List.length_pos_iff.1 (by omega)
   have hset := Jms hnd2 e
   have hpn := J25 (ps := ps) e
   have hpx : Jdz ps x = p := by unfold Jdz; rw [ep]; rfl
   simp [h3, e, hne, hset, -getElem?_pos, List.getElem?_cons_zero, List.getElem?_cons_succ]
   refine Jaj.intro (by kernel_rfl) ?_
   simp [Jt8, ep, hit]
   refine ⟨by omega, hpk, .of (by kernel_rfl), wrap_i64 (by omega) (by omega), k + 1, by omega, by omega, by omega, ?_⟩
   rw [hpn, hpx]
   simp
   decide
 simp at h3
 have hkl : k = (Jar ps).length := by omega
 subst hkl
 rw [J23] at hpk ⊢
 generalize hRP : (Jar ps).map (Jdz ps) = RP at hpk ⊢
 simp
 refine Jam.go [2, 3, 4, 55] [0, 3, 4, 5, 8] 1 [10] (fun st => [nameOf (slot st.t 9)]) (fun n (seen : List Nat) => [(9, .acc n 4 seen.length)]) (fun n seen => [(9, some (.iter (xKs xs) (xVs xs) seen)), (n, accB 4 ((Jca xs seen).map EndP.row))]) (fun seen => seen.Nodup /\ ∀ n ∈ seen, n < xs.length) (fun seen => xs.length - seen.length) [] ⟨List.nodup_nil, by simp⟩ ?_ ?_
 . simp [Jca]
   decide
 clear hall hpm hnm hln hsl hsn hsp hnl seen
 rintro seen ⟨hsn, hsl⟩
 simp
 refine Jwz (fun n kk vv hn hk hv => ?_) (fun hall => ?_)
 . obtain ⟨x, ex, rfl⟩ := Jrx hk
   have hnl : n < xs.length := (gsI.1 ex).1
   have hsn2 : (seen ++ [n]).Nodup := by
     rw [List.nodup_append]
     exact ⟨hsn, by simp, fun a ha b hb e => hn (by simp at hb; rw [<- hb, <- e]; exact ha)⟩
   have hsl2 : ∀ m ∈ seen ++ [n], m < xs.length := fun m hm => by
     rcases List.mem_append.1 hm with hm | hm
     . exact hsl m hm
     . simp at hm; subst hm; exact hnl
   have hcn : seen.length + 1 <= xs.length := by
     have := Jn4 (m := List.range xs.length) hsn2 (fun m hm => List.mem_range.2 (hsl2 m hm))
     simpa using this
   have hpk : Jca xs (seen ++ [n]) = Jca xs seen ++ [x] := Jt2 ex
   have hpl2 := @Jlg _ xs seen hsl
   have hv2 : (xVs xs)[n]? = some (.p (.bool true)) := by unfold xVs; rw [List.getElem?_map, ex]; rfl
   simp [hk, hv2]
   refine ⟨by omega, hpl2, fun r a b _ e => by subst e; rfl, seen ++ [n], ⟨hsn2, hsl2⟩, by simp; omega, by simp, ?_⟩
   simp [hpk]
   decide
 have hpm := Jt0 hsn (l := xs) hsl (fun i hi => hall i (by simpa [xKs] using hi))
 have hnm : Jav Jba (Jca xs seen) = Jav Jba xs := Jkw Jf8 hpm
 have hln : seen.length = (Jca xs seen).length := (Jlg hsl).symm
 have hsp : (Jca xs seen).length = xs.length := hpm.length_eq
 simp
 rw [hln]
 refine Ja7 (J1n _ _ _ _ (by simp) (by omega) (by simp)) ?_
 rw [hnm, hsp, <- @Jez _ Jba xs]
 have hyl : (Jav Jba xs).length <= 2000 := by rw [Jez]; exact hxl
 generalize hY : Jav Jba xs = ys at hyl
 simp
 refine Jam.go [2, 3, 4, 66, 67] [3, 5, 8, 10] 1 [11] (fun st => [Jzt 4 st]) (fun n (k : Nat) => [(68, .p (.int .i64 k))]) (fun n k => [(4, some (.cells 2 [[.acc 8 3 (Jar ps).length, .acc n 4 k]])), (n, accB 4 ((Jfh (Jar ps) ys k).map Pipe.row))]) (fun k => k <= ys.length) (fun k => ys.length - k) 0 (by omega) ?_ ?_
 . simp [Jfh]
   decide
 intro k hk
 have hpk2 := J27 (nms := Jar ps) hk
 simp
 refine Jac (fun h3 => ?_) (fun h3 => ?_)
 . simp at h3
   obtain ⟨x, e⟩ := Jah h3
   have hne : ys ≠ [] := List.length_pos_iff.1 (by omega)
   have ha := fun s => Jxm hnd2 (s := s)
   have hpn := J28 (nms := Jar ps) e
   have hr : List.range 11 = [0, 1, 2, 3, 4, 5, 6, 7, 8, 9, 10] := rfl
   simp [h3, e, hne, ha, -getElem?_pos, List.getElem?_cons_zero, List.getElem?_cons_succ]
   refine ⟨by omega, hpk2, wrap_i64 (by omega) (by omega), k + 1, by omega, by omega, ?_⟩
   rw [hpn, hr]
   simp [Jcz]
   try decide
 simp at h3
 have hkl : k = ys.length := by omega
 subst hkl
 rw [J26] at hpk2 ⊢
 generalize hXP : ys.map (Jcz (Jar ps)) = XP at hpk2 ⊢
 have hdc : Jdp ⟨ps, xs⟩ = ⟨RP, XP⟩ := by unfold Jdp; rw [<- hRP, <- hXP, <- hY]
 rw [hdc, <- hpk, <- hpk2]
 simp [Jaa]
end Go.Am
namespace Go.Am
open Go Go.Proofs Go.Pn
theorem J14 {xs : List EndP} {x : EndP} (h : x ∈ xs) : insX xs x = xs := if_pos h
theorem J15 {xs : List EndP} {x : EndP} (h : x ∉ xs) : insX xs x = xs ++ [x] := if_neg h
theorem Jjv {xs : List EndP} : ∀ {l us : List EndP}, (us ++ l).Nodup -> (∀ p ∈ us, p ∉ xs) -> addX (xs ++ us) l = xs ++ us ++ l.filter fun q => decide (q ∉ xs)
 | [], us, _, _ => by simp [addX]
 | p :: l, us, h, ha => by
   show addX (insX (xs ++ us) p) l = _
   by_cases hp : p ∈ xs
   . rw [J14 (List.mem_append_left _ hp), Jjv (us := us) ?_ ha]
     . rw [List.filter_cons_of_neg (by simpa using hp)]
     . exact List.Sublist.nodup (List.Sublist.append (List.Sublist.refl _) (List.sublist_cons_self _ _)) h
   . have hnm : p ∉ xs ++ us := by
       rw [List.mem_append, not_or]
       refine ⟨hp, fun hx => ?_⟩
       rw [List.nodup_append] at h
       exact h.2.2 _ hx p (by simp) rfl
     rw [J15 hnm, List.append_assoc, Jjv (us := us ++ [p]) (by simpa using h) ?_]
     . rw [List.filter_cons_of_pos (by simpa using hp)]
       simp
     . intro q hq
       rcases List.mem_append.1 hq with hq | hq
       . exact ha q hq
       . simp at hq; subst hq; exact hp
theorem Jq6 {d : Drf} (h : DrfOk d) {ps : List Part} {xs : List EndP} (hp : ps = d.parts) (hx : xs = d.pipes.map ordX) : Jdp ⟨ps, xs⟩ = Jbe d := by
 subst hp; subst hx
 exact Jgh h
end Go.Am
namespace Go.Am
open Go Go.Proofs Go.Pn
noncomputable def Jcu (es : List (AV × AV)) (old new : Txt) (p : Part) (k : Txt) : List (AV × AV) := if p.kind = 6 /\ p.name = old ++ k then setA es (.p (.str p.name)) (.p (.str (new ++ k))) else es
noncomputable def Jc0 (es : List (AV × AV)) (old new : Txt) (p : Part) : Nat -> List (AV × AV)
 | 0 => es
 | 1 => Jcu es old new p [48]
 | _ + 2 => Jcu (Jcu es old new p [48]) old new p [49]
noncomputable def toM (c : Circuit) (old new : Txt) : Nat -> List (AV × AV)
 | 0 => [(.p (.str old), .p (.str new))]
 | j + 1 => match c.parts[j]? with
   | some p => Jc0 (toM c old new j) old new p 2
   | none => toM c old new j
def OkT (es : List (AV × AV)) : Prop := ∀ e ∈ es, (∃ s, e.1 = .p (.str s)) /\ ∃ t, e.2 = .p (.str t)
theorem Jn5 {es : List (AV × AV)} {old new : Txt} {p : Part} {k : Txt} (h : OkT es) : OkT (Jcu es old new p k) := by
 unfold Jcu
 split
 . exact Jvb (K := fun e => (∃ s, e.1 = .p (.str s)) /\ ∃ t, e.2 = .p (.str t)) ⟨⟨_, rfl⟩, _, rfl⟩ h
 . exact h
theorem Jhi {es : List (AV × AV)} {old new : Txt} {p : Part} (h : OkT es) : ∀ n, OkT (Jc0 es old new p n)
 | 0 => h
 | 1 => Jn5 h
 | _ + 2 => Jn5 (Jn5 h)
theorem Jfi {c : Circuit} {old new : Txt} : ∀ j, OkT (toM c old new j)
 | 0 => fun e he => by simp [toM] at he; subst he; exact ⟨⟨_, rfl⟩, _, rfl⟩
 | j + 1 => by
   have ih := @Jfi c old new j
   unfold toM
   split
   . exact Jhi ih 2
   . exact ih
theorem Jla {es : List (AV × AV)} (h : OkT es) (s : Txt) : Jc2 Tryz.prog 9 es (.p (.str s)) = True :=
 eq_true ⟨_, Jhc, ⟨_, rfl⟩, fun e he => (h e he).1⟩
theorem Jd8 {es : List (AV × AV)} (h : OkT es) (ρ : List Nat) : renE ρ es = some es :=
 Ji5 fun e he => by
   obtain ⟨⟨s, h1⟩, t, h2⟩ := h e he
   rw [h1, h2]; exact ⟨rfl, rfl⟩
noncomputable def rnT (es : List (AV × AV)) (s : Txt) : Txt := match Jao es (.p (.str s)) with
 | some (.p (.str t)) => t
 | _ => s
theorem J3g {es : List (AV × AV)} (h : OkT es) (s : Txt) : Jao es (.p (.str s)) = none /\ rnT es s = s \/ ∃ t, Jao es (.p (.str s)) = some (.p (.str t)) /\ rnT es s = t := by
 cases e : Jao es (.p (.str s)) with
 | none => exact .inl ⟨rfl, by unfold rnT; rw [e]⟩
 | some v =>
   have : ∃ t, v = .p (.str t) := by
     induction es with
     | nil => cases e
     | cons y es ih =>
       rw [Jd4] at e
       split at e
       . cases e; exact (h y (by simp)).2
       . exact ih (fun z hz => h z (by simp [hz])) e
   obtain ⟨t, rfl⟩ := this
   exact .inr ⟨t, rfl, by unfold rnT; rw [e]⟩
def Jfc (c : Circuit) (j : Nat) (s : Txt) : Prop := ∃ i p, i < j /\ c.parts[i]? = some p /\ p.kind = 6 /\ p.name = s
open Classical in
theorem Jo5 {c : Circuit} {old new s : Txt} : ∀ {j : Nat}, Jao (toM c old new j) (.p (.str s)) = if s = old then some (.p (.str new)) else if s = old ++ [48] /\ Jfc c j s then some (.p (.str (new ++ [48]))) else if s = old ++ [49] /\ Jfc c j s then some (.p (.str (new ++ [49]))) else none
 | 0 => by
   have h0 : ¬ Jfc c 0 s := fun ⟨i, _, h, _⟩ => by omega
   show Jao [(AV.p (.str old), AV.p (.str new))] _ = _
   rw [Jd4]
   by_cases h : s = old
   . subst h; rw [if_pos rfl, if_pos rfl]
   . rw [if_neg (by simpa using Ne.symm h), if_neg h, if_neg (fun h => h0 h.2), if_neg (fun h => h0 h.2)]; rfl
 | j + 1 => by
   have ih := @Jo5 c old new s j
   have ne1 : ∀ (x : Txt) (b : UInt8), x ++ [b] ≠ x := fun x b e => by simpa using congrArg List.length e
   have ne2 : old ++ [(48 : UInt8)] ≠ old ++ [49] := fun e => by simp at e
   unfold toM
   cases e : c.parts[j]? with
   | none =>
     have hs : Jfc c (j + 1) s ↔ Jfc c j s := by
       constructor
       . rintro ⟨i, p, h1, h2, h3⟩
         rcases (by omega : i < j \/ i = j) with h | rfl
         . exact ⟨i, p, h, h2, h3⟩
         . rw [e] at h2; cases h2
       . rintro ⟨i, p, h1, h2⟩
         exact ⟨i, p, by omega, h2⟩
     simp only [hs]
     exact ih
   | some p =>
     have hs : Jfc c (j + 1) s ↔ Jfc c j s \/ (p.kind = 6 /\ p.name = s) := by
       constructor
       . rintro ⟨i, q, h1, h2, h3⟩
         rcases (by omega : i < j \/ i = j) with h | rfl
         . exact .inl ⟨i, q, h, h2, h3⟩
         . rw [e] at h2; cases h2; exact .inr h3
       . rintro (⟨i, q, h1, h2⟩ | h3)
         . exact ⟨i, q, by omega, h2⟩
         . exact ⟨j, p, by omega, e, h3⟩
     show Jao (Jcu (Jcu (toM c old new j) old new p [48]) old new p [49]) _ = _
     simp only [hs]
     unfold Jcu
     by_cases hk : p.kind = 6
     . by_cases h1 : p.name = old ++ [49]
       . have h2 : ¬ p.name = old ++ [48] := fun h2 => ne2 (h2.symm.trans h1)
         rw [if_pos ⟨hk, h1⟩, if_neg (fun h => h2 h.2), Jie]
         by_cases h3 : p.name = s
         . subst h3
           rw [if_pos rfl, if_neg (by rw [h1]; exact ne1 _ _), if_neg (fun h => h2 h.1), if_pos ⟨h1, .inr ⟨hk, rfl⟩⟩]
         . rw [if_neg (by simpa using h3), ih]
           simp only [h3, and_false, or_false]
       . by_cases h2 : p.name = old ++ [48]
         . rw [if_neg (fun h => h1 h.2), if_pos ⟨hk, h2⟩, Jie]
           by_cases h3 : p.name = s
           . subst h3
             rw [if_pos rfl, if_neg (by rw [h2]; exact ne1 _ _), if_pos ⟨h2, .inr ⟨hk, rfl⟩⟩]
           . rw [if_neg (by simpa using h3), ih]
             simp only [h3, and_false, or_false]
         . rw [if_neg (fun h => h1 h.2), if_neg (fun h => h2 h.2), ih]
           by_cases h3 : p.name = s
           . subst h3
             simp only [h1, h2, false_and, if_false]
           . simp only [h3, and_false, or_false]
     . rw [if_neg (fun h => hk h.1), if_neg (fun h => hk h.1), ih]
       simp only [hk, false_and, or_false]
theorem Jvx {c : Circuit} (h : Jad c = 0) {s : Txt} : Jfc c c.parts.length s ↔ 0 <= swAt c s := by
 unfold swAt
 rcases Jn9 c s with e | ⟨i, x, e, e2, e3⟩
 . rw [e]
   have : swK c (-1) = -1 := by unfold swK; rw [if_neg (by omega)]
   rw [this]
   constructor
   . rintro ⟨j, p, h1, h2, h3, h4⟩
     have := J1x e p (List.mem_of_getElem? h2)
     simp [h4] at this
   . intro h; omega
 . rw [e]
   have hk : Jc6 c (i : Int) = x.kind := by unfold Jc6; rw [Int.toNat_natCast, e2]; rfl
   unfold swK
   rw [hk]
   constructor
   . rintro ⟨j, p, h1, h2, h3, h4⟩
     have hj : i = j := by
       have h5 : (c.parts.map (·.name))[i]? = some s := by rw [List.getElem?_map, e2]; simp [e3]
       have h6 : (c.parts.map (·.name))[j]? = some s := by rw [List.getElem?_map, h2]; simp [h4]
       exact Jix (Je1 h) h5 h6
     subst hj
     rw [e2] at h2; cases h2
     rw [if_neg (by omega)]; omega
   . intro h7
     by_cases h8 : x.kind = 6
     . exact ⟨i, x, (gsI.1 e2).1, e2, h8, e3⟩
     . rw [if_pos ⟨by omega, h8⟩] at h7; omega
noncomputable def Je6 (c : Circuit) (old new : Txt) : List (AV × AV) := if Jc6 c (Jc8 c old) = 1 then toM c old new c.parts.length else toM c old new 0
theorem Js8 {c : Circuit} {old new : Txt} : OkT (Je6 c old new) := by
 unfold Je6; split <;> exact Jfi _
theorem Ju2 {c : Circuit} (h : Jad c = 0) {old new s : Txt} : rnT (Je6 c old new) s = Jbd c old new s := by
 unfold rnT Jbd Je6
 have ne1 : ∀ b : UInt8, old ++ [b] ≠ old := fun b e => by simpa using congrArg List.length e
 by_cases hk : Jc6 c (Jc8 c old) = 1
 . rw [if_pos hk, Jo5]
   simp only [hk, true_and]
   by_cases h1 : s = old
   . rw [if_pos h1, if_pos h1]
   . rw [if_neg h1, if_neg h1]
     by_cases h2 : s = old ++ [48]
     . subst h2
       rw [Jvx h]
       by_cases h4 : 0 <= swAt c (old ++ [48])
       . simp [h4]
       . simp [h4]
     . by_cases h3 : s = old ++ [49]
       . subst h3
         rw [Jvx h]
         by_cases h4 : 0 <= swAt c (old ++ [49])
         . simp [h4]
         . simp [h4]
       . simp [h2, h3]
 . rw [if_neg hk, Jo5]
   have h0 : ¬ Jfc c 0 s := fun ⟨i, _, h, _⟩ => by omega
   simp only [hk, false_and, if_false, h0, and_false]
   by_cases h1 : s = old
   . rw [if_pos h1, if_pos h1]
   . rw [if_neg h1, if_neg h1]
theorem Jum {ps : List Part} {p : Part} : (putN ps p).length = if p.name ∈ ps.map (·.name) then ps.length else ps.length + 1 := by
 induction ps with
 | nil => rfl
 | cons q ps ih =>
   rw [putN]
   by_cases h : q.name = p.name
   . rw [if_pos h, if_pos (by simp [h])]; rfl
   . rw [if_neg h, List.length_cons, ih]
     by_cases h2 : p.name ∈ ps.map (·.name)
     . rw [if_pos h2, if_pos (by rw [List.map_cons]; exact List.mem_cons_of_mem _ h2)]; rfl
     . rw [if_neg h2, if_neg (by rw [List.map_cons, List.mem_cons, not_or]; exact ⟨fun e => h e.symm, h2⟩)]; rfl
theorem Jju : ∀ {l ps : List Part}, (addN ps l).length <= ps.length + l.length
 | [], ps => Nat.le_refl _
 | p :: l, ps => by
   have h := @Jju l (putN ps p)
   have h2 := @Jum ps p
   show (addN (putN ps p) l).length <= _
   rw [List.length_cons]
   split at h2 <;> omega
theorem Jmm : ∀ {l ps : List Part}, ¬ ((ps ++ l).map (·.name)).Nodup -> (ps.map (·.name)).Nodup -> (addN ps l).length < ps.length + l.length
 | [], ps, h, h2 => absurd (by simpa using h2) h
 | p :: l, ps, h, h2 => by
   show (addN (putN ps p) l).length < _
   by_cases hp : p.name ∈ ps.map (·.name)
   . have h3 := @Jju l (putN ps p)
     rw [Jum, if_pos hp] at h3
     rw [List.length_cons]; omega
   . have hn : ((ps ++ [p]).map (·.name)).Nodup := by
       rw [List.map_append, List.nodup_append]
       exact ⟨h2, by simp, fun a ha b hb e => by simp at hb; subst hb; subst e; exact hp ha⟩
     rw [Jun hp]
     have := @Jmm l (ps ++ [p]) (by simpa using h) hn
     simp at this ⊢
     omega
theorem Juz {c : Circuit} (h : Jad c = 0) {f : Txt -> Txt} (hn : ((c.parts.map (Jch f)).map (·.name)).Nodup) : ((mapD f (drfC c)).pipes.map ordX).Nodup := by
 have hinj : ∀ s ∈ c.parts.map (·.name), ∀ t ∈ c.parts.map (·.name), f s = f t -> s = t := by
   intro s hs t ht e
   obtain ⟨i, hi⟩ := List.mem_iff_getElem?.1 hs
   obtain ⟨j, hj⟩ := List.mem_iff_getElem?.1 ht
   have e1 : ((c.parts.map (Jch f)).map (·.name))[i]? = some (f s) := by
     rw [List.getElem?_map] at hi
     obtain ⟨p, hp, rfl⟩ := Option.map_eq_some_iff.1 hi
     rw [List.getElem?_map, List.getElem?_map, hp]; rfl
   have e2 : ((c.parts.map (Jch f)).map (·.name))[j]? = some (f s) := by
     rw [List.getElem?_map] at hj
     obtain ⟨p, hp, rfl⟩ := Option.map_eq_some_iff.1 hj
     rw [List.getElem?_map, List.getElem?_map, hp, e]; rfl
   have := Jix hn e1 e2
   subst this
   rw [hi] at hj; cases hj; rfl
 have hends := (Jil h).ends
 have h0 := J0i h
 show (((drfC c).pipes.map fun x => (Jcx f x.1, Jcx f x.2)).map ordX).Nodup
 rw [List.map_map]
 refine List.pairwise_map.2 ((List.pairwise_map.1 h0).imp_of_mem fun {x y} hx hy hne e => hne ?_)
 have hx2 := hends x hx
 have hy2 := hends y hy
 have em : ∀ {a b : End}, a.part ∈ c.parts.map (·.name) -> b.part ∈ c.parts.map (·.name) -> Jcx f a = Jcx f b -> a = b := fun {a b} ha hb e => by
   obtain ⟨s, t⟩ := a; obtain ⟨u, v⟩ := b
   simp only [Jcx, End.mk.injEq] at e
   have e1 : s = u := hinj _ ha _ hb e.1
   rw [e1, e.2]
 have e : ordE (Jcx f x.1) (Jcx f x.2) = ordE (Jcx f y.1) (Jcx f y.2) := e
 show ordE x.1 x.2 = ordE y.1 y.2
 rw [Jtn] at e ⊢
 rcases e with ⟨h1, h2⟩ | ⟨h1, h2⟩
 . exact .inl ⟨em hx2.1 hy2.1 h1, em hx2.2 hy2.2 h2⟩
 . exact .inr ⟨em hx2.1 hy2.2 h1, em hx2.2 hy2.1 h2⟩
end Go.Am
namespace Go.Am
open Go Go.Proofs Go.Pn
@[simp] theorem Kg5 : Jd3 Tryz.prog 9 = some false := by kernel_rfl
set_option maxRecDepth 20000 in
theorem Jg8 (es : List (AV × AV)) (h : OkT es) (t : Txt) (s : Store) (nx b m : Nat) (hnd : [b, m].Nodup) (hlt : ∀ x ∈ [b, m], x < nx) (g0 : get s b = some (.cells 1 [[.map m]])) (g1 : get s m = some (.map es)) :
   Gives Tryz.prog GL 81 [.p (.str t), .ptr b 1 0 0] s nx (.p (.str (rnT es t))) [b, m] [] nx := by
 have hr := Jd8 h
 refine Gives.mk_walkK (N := 15) (args := [.p (.str t), .ptr 0 1 0 0]) [b, m] [] [(0, some (.cells 1 [[.map 1]])), (1, some (.map es))] [] 2 0 (.p (.str (rnT es t))) (fun _ => []) (up1 := []) Tryz.func81 rfl rfl rfl (by simp) rfl ?_ (by simp) (by simp) (by simp) (by simp) rfl ?_
 . refine ⟨?_, rfl, hnd, hlt, rfl⟩
   simp [g0, g1, hr]
 have hk := Jla h t
 rcases J3g h t with ⟨h1, h2⟩ | ⟨u, h1, h2⟩
 . simp [hk, h1, h2, hit, hr, zeroV]
 . simp [hk, h1, h2, hit, hr]
noncomputable def rnP (es : List (AV × AV)) (l : List Part) : List Part := addN [] (l.map (Jch (rnT es)))
theorem Ju1 {es : List (AV × AV)} {l : List Part} {k : Nat} {p : Part} (e : l[k]? = some p) : rnP es (l.take (k + 1)) = putN (rnP es (l.take k)) (Jch (rnT es) p) := by
 unfold rnP; rw [take_snoc e, List.map_append]; unfold addN; rw [List.foldl_append]; rfl
def mapX (f : Txt -> Txt) (c : Circuit) (x : Pipe) : EndP := ordX (Jcx f (Jak c x.fr), Jcx f (Jak c x.to))
noncomputable def rnX (es : List (AV × AV)) (c : Circuit) (k : Nat) : List EndP := addX [] ((c.pipes.take k).map (mapX (rnT es) c))
theorem Ju3 {es : List (AV × AV)} {c : Circuit} {k : Nat} {x : Pipe} (e : c.pipes[k]? = some x) : rnX es c (k + 1) = insX (rnX es c k) (mapX (rnT es) c x) := by
 unfold rnX; rw [take_snoc e, List.map_append]; unfold addX; rw [List.foldl_append]; rfl
theorem Jv3 {es : List (AV × AV)} {old new : Txt} {p : Part} {k : Txt} (h6 : p.kind = 6) (h7 : p.name = old ++ k) : Jcu es old new p k = setA es (.p (.str (old ++ k))) (.p (.str (new ++ k))) := by
 unfold Jcu; rw [if_pos ⟨h6, h7⟩, h7]
set_option maxRecDepth 20000 in
theorem Jqk (c : Circuit) (old new : Txt) (hs : Sized c) (ho : old.length < 1000000000000000000) (hn : new.length < 1000000000000000000) : Pure Tryz.prog GL 21 [c.av, .p (.str old), .p (.str new)] (.tup [(rnmC c old new).av, .p (.int .i64 (rnmE c old new))]) := by
 refine Pure.of_walk (N := 152) Tryz.func21 rfl rfl rfl (by simp) (by first | (simp; done) | simp [*]) ?_
 simp
 refine Jab (Jx3 c old hs) ?_
 rw [<- Jc8]
 by_cases h : Jad c = 0
 . have hpl := (Jd5 h).2.1
   have hxl := (Jd5 h).2.2
   rcases Jn9 c old with e0 | ⟨i, q0, e0, e1, e2⟩
   . have hE : rnmE c old new = 6 := by unfold rnmE; rw [h, e0]; rfl
     have hC : rnmC c old new = noC := by unfold rnmC; rw [if_neg (by rw [hE]; decide)]
     simp [h, e0, Jaa, hE, hC, noC]
   have hi : i < c.parts.length := (gsI.1 e1).1
   have hka : Jc6 c (Jc8 c old) = q0.kind := by unfold Jc6; rw [e0, Int.toNat_natCast, e1]; rfl
   have hi0 : ¬ (i : Int) < 0 := by omega
   simp [h, e0, hi0]
   simp [hi, e1, -getElem?_pos, List.getElem?_cons_zero, List.getElem?_cons_succ]
   have hk0 : Jc2 Tryz.prog 9 [] (.p (.str old)) = True := Jla (fun e he => by cases he) old
   have hm0 : setA [] (.p (.str old)) (.p (.str new)) = toM c old new 0 := rfl
   by_cases hk : q0.kind = 1
   . simp [hk, hk0]
     rw [hm0]
     refine Jam.go [1, 2, 3, 6, 10, 47, 48] [0, 1, 3] 0 [] (fun _ => []) (fun _ (k : Nat) => [(49, .p (.int .i64 k))]) (fun _ k => [(2, some (.map (toM c old new k)))]) (fun k => k <= c.parts.length) (fun k => c.parts.length - k) 0 (by omega) ?_ ?_
     . simp [Jd8 (Jfi _)]
       decide
     intro k hk2
     simp
     refine Jac (fun h3 => ?_) (fun h3 => ?_)
     . simp at h3
       obtain ⟨p, e⟩ := Jah h3
       simp [h3, e, -getElem?_pos, List.getElem?_cons_zero, List.getElem?_cons_succ]
       refine Jam.go [1, 2, 3, 6, 10, 12, 47, 48, 49, 53, 54] [0, 1, 3, 4] 0 [] (fun _ => []) (fun _ (n : Nat) => [(55, .p (.int .i64 n))]) (fun _ n => [(2, some (.map (Jc0 (toM c old new k) old new p n))), (5, some (.cells 1 [[.p (.str [48])], [.p (.str [49])]]))]) (fun n => n <= 2) (fun n => 2 - n) 0 (by omega) ?_ ?_
       . simp [Jd8 (Jfi _), Jc0]
         try decide
       intro n hn2
       simp
       refine Jac (fun h4 => ?_) (fun h4 => ?_)
       . simp at h4
         rcases (by omega : n = 0 \/ n = 1) with rfl | rfl
         ·
           have hT := Jhi (Jfi (c := c) (old := old) (new := new) k) (old := old) (new := new) (p := p) 0
           have hT2 := Jhi (Jfi (c := c) (old := old) (new := new) k) (old := old) (new := new) (p := p) 1
           by_cases h6 : p.kind = 6
           . by_cases h7 : p.name = old ++ [48]
             . have hst : setA (Jc0 (toM c old new k) old new p 0) (.p (.str (old ++ [48]))) (.p (.str (new ++ [48]))) = Jc0 (toM c old new k) old new p 1 := by
                 exact (Jv3 h6 h7).symm
               have hky := Jla hT (old ++ [48])
               simp [h6, h7, hky, hst]
               refine ⟨by omega, by omega, 1, by omega, by omega, by omega, ?_⟩
               simp [Jd8 hT2]
               try decide
             . have hst : Jc0 (toM c old new k) old new p 1 = Jc0 (toM c old new k) old new p 0 := by
                 show Jcu _ old new p [48] = _
                 unfold Jcu; rw [if_neg (fun h => h7 h.2)]; rfl
               simp [h6, h7]
               refine ⟨by omega, 1, by omega, by omega, by omega, ?_⟩
               rw [hst]
               simp [Jd8 hT]
               try decide
           . have hst : Jc0 (toM c old new k) old new p 1 = Jc0 (toM c old new k) old new p 0 := by
               show Jcu _ old new p [48] = _
               unfold Jcu; rw [if_neg (fun h => h6 h.1)]; rfl
             simp [h6]
             refine ⟨1, by omega, by omega, by omega, ?_⟩
             rw [hst]
             simp [Jd8 hT]
             try decide
         ·
           have hT := Jhi (Jfi (c := c) (old := old) (new := new) k) (old := old) (new := new) (p := p) 1
           have hT2 := Jhi (Jfi (c := c) (old := old) (new := new) k) (old := old) (new := new) (p := p) 2
           by_cases h6 : p.kind = 6
           . by_cases h7 : p.name = old ++ [49]
             . have hst : setA (Jc0 (toM c old new k) old new p 1) (.p (.str (old ++ [49]))) (.p (.str (new ++ [49]))) = Jc0 (toM c old new k) old new p 2 := by
                 exact (Jv3 h6 h7).symm
               have hky := Jla hT (old ++ [49])
               simp [h6, h7, hky, hst]
               refine ⟨by omega, by omega, 2, by omega, by omega, by omega, ?_⟩
               simp [Jd8 hT2]
               try decide
             . have hst : Jc0 (toM c old new k) old new p 2 = Jc0 (toM c old new k) old new p 1 := by
                 show Jcu _ old new p [49] = _
                 unfold Jcu; rw [if_neg (fun h => h7 h.2)]; rfl
               simp [h6, h7]
               refine ⟨by omega, 2, by omega, by omega, by omega, ?_⟩
               rw [hst]
               simp [Jd8 hT]
               try decide
           . have hst : Jc0 (toM c old new k) old new p 2 = Jc0 (toM c old new k) old new p 1 := by
               show Jcu _ old new p [49] = _
               unfold Jcu; rw [if_neg (fun h => h6 h.1)]; rfl
             simp [h6]
             refine ⟨2, by omega, by omega, by omega, ?_⟩
             rw [hst]
             simp [Jd8 hT]
             try decide
       simp at h4
       have hn3 : n = 2 := by omega
       subst hn3
       simp
       refine ⟨wrap_i64 (by omega) (by omega), k + 1, by omega, by omega, by omega, ?_⟩
       have hst : toM c old new (k + 1) = Jc0 (toM c old new k) old new p 2 := by simp only [toM, e]
       rw [hst]
       simp [Jd8 (Jhi (Jfi _) _)]
       try decide
     simp at h3
     have hkl : k = c.parts.length := by omega
     subst hkl
     have hend : toM c old new c.parts.length = Je6 c old new := by unfold Je6; rw [hka, hk]; rfl
     rw [hend]
     simp
     have hOk := @Js8 c old new
     have hrn := fun s => @Ju2 c h old new s
     generalize Je6 c old new = ES at hOk hrn
     have hre := Jd8 hOk
     refine Ja7 (Jip _ _) ?_
     simp
     refine Jam.go [3, 6, 15, 16, 81, 82] [0, 1, 2, 3, 5, 6] 0 [] (fun _ => []) (fun _ (k : Nat) => [(83, .p (.int .i64 k))]) (fun _ k => [(4, some (.map (Jap (rnP ES (c.parts.take k)))))]) (fun k => k <= c.parts.length) (fun k => c.parts.length - k) 0 (by omega) ?_ ?_
     . have : rnP ES (c.parts.take 0) = [] := by simp [rnP, addN]
       rw [this]
       simp [hre, Jap]
       try decide
     intro k hk2
     simp [hre]
     refine Jac (fun h3 => ?_) (fun h3 => ?_)
     . simp at h3
       obtain ⟨p, e⟩ := Jah h3
       simp [h3, e, hre, -getElem?_pos, List.getElem?_cons_zero, List.getElem?_cons_succ]
       refine Ja7 (Jg8 ES hOk p.name _ _ _ _ (by simp) (by simp) rfl rfl) ?_
       simp
       refine Jaj.intro (by kernel_rfl) ?_
       simp
       refine ⟨.of (by kernel_rfl), wrap_i64 (by omega) (by omega), k + 1, by omega, by omega, by omega, ⟨?_, ?_⟩, by decide⟩
       . rw [Ju1 e]
         exact Ji9 (p := Jch (rnT ES) p)
       . simp [hre]
     simp at h3
     have hkl : k = c.parts.length := by omega
     subst hkl
     rw [List.take_length]
     have hRPe : rnP ES c.parts = addN [] (c.parts.map (Jch (Jbd c old new))) := by
       unfold rnP
       have : rnT ES = Jbd c old new := funext hrn
       rw [this]
     have hRl : (rnP ES c.parts).length <= c.parts.length := by
       rw [hRPe]
       have := @Jju (c.parts.map (Jch (Jbd c old new))) []
       simpa using this
     simp [hre]
     refine Jaj.intro (by kernel_rfl) ?_
     simp [hre]
     refine ⟨.of (by kernel_rfl), ?_⟩
     by_cases hnn : ((renD c old new).parts.map (·.name)).Nodup
     . have hRP : rnP ES c.parts = (renD c old new).parts := by
         rw [hRPe]
         have := Jmn (ps := []) (l := c.parts.map (Jch (Jbd c old new))) (by simpa [renD, mapD, drfC] using hnn)
         simpa [renD, mapD, drfC] using this
       have hRl2 : (rnP ES c.parts).length = c.parts.length := by rw [hRP]; exact List.length_map ..
       rw [hRl2]
       simp
       rw [hRP]
       refine Jam.go [3, 6, 15, 16, 111, 112] [0, 1, 2, 3, 4, 6] 0 [] (fun _ => []) (fun _ (k : Nat) => [(113, .p (.int .i64 k))]) (fun _ k => [(5, some (.map (Jau (rnX ES c k))))]) (fun k => k <= c.pipes.length) (fun k => c.pipes.length - k) 0 (by omega) ?_ ?_
       . have : rnX ES c 0 = [] := by simp [rnX, addX]
         rw [this]
         simp [hre, Jau]
         try decide
       intro k hk2
       simp [hre]
       refine Jac (fun h3 => ?_) (fun h3 => ?_)
       . simp at h3
         obtain ⟨x, e⟩ := Jah h3
         have hxm := List.mem_of_getElem? e
         obtain ⟨g1, g2, _⟩ := Jdt h hxm
         obtain ⟨y1, f1, z1, _⟩ := Jdq.1 g1
         obtain ⟨y2, f2, z2, _⟩ := Jdq.1 g2
         have l1 := (gsI.1 f1).1
         have l2 := (gsI.1 f2).1
         simp [h3, e, hre, -getElem?_pos, List.getElem?_cons_zero, List.getElem?_cons_succ]
         refine Jaj.intro (by kernel_rfl) ?_
         simp
         refine Jab (Jg2 c x.fr z1 l1) ?_
         simp
         refine Jab (Jg2 c x.to z2 l2) ?_
         simp
         refine ⟨.of (by kernel_rfl), Jaj.intro (by kernel_rfl) ?_⟩
         simp
         refine Ja7 (Jg8 ES hOk (Jak c x.fr).part _ _ _ _ (by simp) (by simp) rfl rfl) ?_
         simp
         refine Ja7 (Jg8 ES hOk (Jak c x.to).part _ _ _ _ (by simp) (by simp) rfl rfl) ?_
         simp
         refine ⟨.of (by kernel_rfl), Jaj.intro (by kernel_rfl) ?_⟩
         simp
         refine Jab (Jj3 (Jcx (rnT ES) (Jak c x.fr)) (Jcx (rnT ES) (Jak c x.to))) ?_
         simp
         refine ⟨.of (by kernel_rfl), wrap_i64 (by omega) (by omega), k + 1, by omega, by omega, by omega, ?_⟩
         rw [Ju3 e]
         simp [hre, mapX, ordX]
         try decide
       simp at h3
       have hkl : k = c.pipes.length := by omega
       subst hkl
       have hren : (renD c old new).pipes.map ordX = c.pipes.map (mapX (rnT ES) c) := by
         have : rnT ES = Jbd c old new := funext hrn
         rw [this]
         unfold renD mapD drfC
         simp only [List.map_map]
         rfl
       have hnx : ((renD c old new).pipes.map ordX).Nodup := Juz h (f := Jbd c old new) hnn
       have hXe : rnX ES c c.pipes.length = (renD c old new).pipes.map ordX := by
         unfold rnX
         rw [List.take_length, <- hren]
         have := Jjv (xs := []) (l := (renD c old new).pipes.map ordX) (us := []) (by simpa using hnx) (by simp)
         rw [List.nil_append] at this
         rw [this, List.nil_append]
         exact List.filter_eq_self.2 fun x _ => by simp
       have hDo : DrfOk (renD c old new) := by
         refine ⟨hnn, fun x hx => ?_⟩
         obtain ⟨y, hy, rfl⟩ := List.mem_map.1 hx
         obtain ⟨g1, g2⟩ := (Jil h).ends y hy
         obtain ⟨p1, hp1, e1⟩ := List.mem_map.1 g1
         obtain ⟨p2, hp2, e2⟩ := List.mem_map.1 g2
         refine ⟨List.mem_map.2 ⟨Jch (Jbd c old new) p1, List.mem_map_of_mem hp1, ?_⟩, List.mem_map.2 ⟨Jch (Jbd c old new) p2, List.mem_map_of_mem hp2, ?_⟩⟩
         . show Jbd c old new p1.name = Jbd c old new y.1.part
           rw [e1]
         . show Jbd c old new p2.name = Jbd c old new y.2.part
           rw [e2]
       have hdr : Jdp ⟨(renD c old new).parts, (renD c old new).pipes.map ordX⟩ = Jbe (renD c old new) := Jq6 hDo rfl rfl
       have hxl2 : ((renD c old new).pipes.map ordX).length <= 2000 := by rw [hren, List.length_map]; omega
       have hrpl : (renD c old new).parts.length = c.parts.length := List.length_map ..
       rw [hXe]
       simp
       refine Ja7 (Jkl _ _ hnn hnx (by omega) hxl2 _ _ _ _ _ (by simp) (by simp) rfl rfl rfl) ?_
       rw [hdr]
       have hsz : Sized (Jbe (renD c old new)) := by
         refine ⟨?_, ?_, fun p hp => ?_⟩
         . rw [(Jhr hDo).length_eq, hrpl]; omega
         . rw [<- hdr]; show ((Jav Jba _).map _).length < _; rw [List.length_map, Jez]; show ((renD c old new).pipes.map ordX).length < _; omega
         . have hp2 := (Jhr hDo).mem_iff.1 hp
           obtain ⟨q, hq, rfl⟩ := List.mem_map.1 hp2
           show (Jbd c old new q.name).length < _
           have := hs.names q hq
           have h24 := (Jen (Jc7 (Jcy h hq)).2.1).2.2
           unfold Jbd
           split
           . omega
           . split
             . simp; omega
             . split
               . simp; omega
               . omega
       have hE : rnmE c old new = Jad (Jbe (renD c old new)) := by unfold rnmE; rw [h, if_neg (by simp), if_neg (by omega), if_neg (by simpa using hnn)]
       generalize hSR : Jbe (renD c old new) = SR' at hsz hE ⊢
       simp
       refine Jab (Jeu SR' hsz) ?_
       by_cases hcs : Jad SR' = 0
       . have hC : rnmC c old new = SR' := by unfold rnmC; rw [if_pos (hE.trans hcs), hSR]
         simp [hcs, Jaa, hE, hC]
       . have hC : rnmC c old new = noC := by unfold rnmC; rw [if_neg (by rw [hE]; exact hcs)]
         simp [hcs, Jaa, hE, hC, noC]
     . have hlt : (rnP ES c.parts).length < c.parts.length := by
         rw [hRPe]
         have := Jmm (ps := []) (l := c.parts.map (Jch (Jbd c old new))) (by simpa [renD, mapD, drfC] using hnn) List.nodup_nil
         simpa using this
       have hE : rnmE c old new = 7 := by unfold rnmE; rw [h, if_neg (by simp), if_neg (by omega), if_pos hnn]
       have hC : rnmC c old new = noC := by unfold rnmC; rw [if_neg (by rw [hE]; decide)]
       simp [hlt, Jaa, hE, hC, noC]
   . simp [hk, hk0]
     have hend : toM c old new 0 = Je6 c old new := by unfold Je6; rw [hka, if_neg hk]
     rw [hm0, hend]
     have hOk := @Js8 c old new
     have hrn := fun s => @Ju2 c h old new s
     generalize Je6 c old new = ES at hOk hrn
     have hre := Jd8 hOk
     refine Ja7 (Jip _ _) ?_
     simp
     refine Jam.go [3, 6, 15, 16, 81, 82] [0, 1, 2, 3, 5, 6] 0 [] (fun _ => []) (fun _ (k : Nat) => [(83, .p (.int .i64 k))]) (fun _ k => [(4, some (.map (Jap (rnP ES (c.parts.take k)))))]) (fun k => k <= c.parts.length) (fun k => c.parts.length - k) 0 (by omega) ?_ ?_
     . have : rnP ES (c.parts.take 0) = [] := by simp [rnP, addN]
       rw [this]
       simp [hre, Jap]
       try decide
     intro k hk2
     simp [hre]
     refine Jac (fun h3 => ?_) (fun h3 => ?_)
     . simp at h3
       obtain ⟨p, e⟩ := Jah h3
       simp [h3, e, hre, -getElem?_pos, List.getElem?_cons_zero, List.getElem?_cons_succ]
       refine Ja7 (Jg8 ES hOk p.name _ _ _ _ (by simp) (by simp) rfl rfl) ?_
       simp
       refine Jaj.intro (by kernel_rfl) ?_
       simp
       refine ⟨.of (by kernel_rfl), wrap_i64 (by omega) (by omega), k + 1, by omega, by omega, by omega, ⟨?_, ?_⟩, by decide⟩
       . rw [Ju1 e]
         exact Ji9 (p := Jch (rnT ES) p)
       . simp [hre]
     simp at h3
     have hkl : k = c.parts.length := by omega
     subst hkl
     rw [List.take_length]
     have hRPe : rnP ES c.parts = addN [] (c.parts.map (Jch (Jbd c old new))) := by
       unfold rnP
       have : rnT ES = Jbd c old new := funext hrn
       rw [this]
     have hRl : (rnP ES c.parts).length <= c.parts.length := by
       rw [hRPe]
       have := @Jju (c.parts.map (Jch (Jbd c old new))) []
       simpa using this
     simp [hre]
     refine Jaj.intro (by kernel_rfl) ?_
     simp [hre]
     refine ⟨.of (by kernel_rfl), ?_⟩
     by_cases hnn : ((renD c old new).parts.map (·.name)).Nodup
     . have hRP : rnP ES c.parts = (renD c old new).parts := by
         rw [hRPe]
         have := Jmn (ps := []) (l := c.parts.map (Jch (Jbd c old new))) (by simpa [renD, mapD, drfC] using hnn)
         simpa [renD, mapD, drfC] using this
       have hRl2 : (rnP ES c.parts).length = c.parts.length := by rw [hRP]; exact List.length_map ..
       rw [hRl2]
       simp
       rw [hRP]
       refine Jam.go [3, 6, 15, 16, 111, 112] [0, 1, 2, 3, 4, 6] 0 [] (fun _ => []) (fun _ (k : Nat) => [(113, .p (.int .i64 k))]) (fun _ k => [(5, some (.map (Jau (rnX ES c k))))]) (fun k => k <= c.pipes.length) (fun k => c.pipes.length - k) 0 (by omega) ?_ ?_
       . have : rnX ES c 0 = [] := by simp [rnX, addX]
         rw [this]
         simp [hre, Jau]
         try decide
       intro k hk2
       simp [hre]
       refine Jac (fun h3 => ?_) (fun h3 => ?_)
       . simp at h3
         obtain ⟨x, e⟩ := Jah h3
         have hxm := List.mem_of_getElem? e
         obtain ⟨g1, g2, _⟩ := Jdt h hxm
         obtain ⟨y1, f1, z1, _⟩ := Jdq.1 g1
         obtain ⟨y2, f2, z2, _⟩ := Jdq.1 g2
         have l1 := (gsI.1 f1).1
         have l2 := (gsI.1 f2).1
         simp [h3, e, hre, -getElem?_pos, List.getElem?_cons_zero, List.getElem?_cons_succ]
         refine Jaj.intro (by kernel_rfl) ?_
         simp
         refine Jab (Jg2 c x.fr z1 l1) ?_
         simp
         refine Jab (Jg2 c x.to z2 l2) ?_
         simp
         refine ⟨.of (by kernel_rfl), Jaj.intro (by kernel_rfl) ?_⟩
         simp
         refine Ja7 (Jg8 ES hOk (Jak c x.fr).part _ _ _ _ (by simp) (by simp) rfl rfl) ?_
         simp
         refine Ja7 (Jg8 ES hOk (Jak c x.to).part _ _ _ _ (by simp) (by simp) rfl rfl) ?_
         simp
         refine ⟨.of (by kernel_rfl), Jaj.intro (by kernel_rfl) ?_⟩
         simp
         refine Jab (Jj3 (Jcx (rnT ES) (Jak c x.fr)) (Jcx (rnT ES) (Jak c x.to))) ?_
         simp
         refine ⟨.of (by kernel_rfl), wrap_i64 (by omega) (by omega), k + 1, by omega, by omega, by omega, ?_⟩
         rw [Ju3 e]
         simp [hre, mapX, ordX]
         try decide
       simp at h3
       have hkl : k = c.pipes.length := by omega
       subst hkl
       have hren : (renD c old new).pipes.map ordX = c.pipes.map (mapX (rnT ES) c) := by
         have : rnT ES = Jbd c old new := funext hrn
         rw [this]
         unfold renD mapD drfC
         simp only [List.map_map]
         rfl
       have hnx : ((renD c old new).pipes.map ordX).Nodup := Juz h (f := Jbd c old new) hnn
       have hXe : rnX ES c c.pipes.length = (renD c old new).pipes.map ordX := by
         unfold rnX
         rw [List.take_length, <- hren]
         have := Jjv (xs := []) (l := (renD c old new).pipes.map ordX) (us := []) (by simpa using hnx) (by simp)
         rw [List.nil_append] at this
         rw [this, List.nil_append]
         exact List.filter_eq_self.2 fun x _ => by simp
       have hDo : DrfOk (renD c old new) := by
         refine ⟨hnn, fun x hx => ?_⟩
         obtain ⟨y, hy, rfl⟩ := List.mem_map.1 hx
         obtain ⟨g1, g2⟩ := (Jil h).ends y hy
         obtain ⟨p1, hp1, e1⟩ := List.mem_map.1 g1
         obtain ⟨p2, hp2, e2⟩ := List.mem_map.1 g2
         refine ⟨List.mem_map.2 ⟨Jch (Jbd c old new) p1, List.mem_map_of_mem hp1, ?_⟩, List.mem_map.2 ⟨Jch (Jbd c old new) p2, List.mem_map_of_mem hp2, ?_⟩⟩
         . show Jbd c old new p1.name = Jbd c old new y.1.part
           rw [e1]
         . show Jbd c old new p2.name = Jbd c old new y.2.part
           rw [e2]
       have hdr : Jdp ⟨(renD c old new).parts, (renD c old new).pipes.map ordX⟩ = Jbe (renD c old new) := Jq6 hDo rfl rfl
       have hxl2 : ((renD c old new).pipes.map ordX).length <= 2000 := by rw [hren, List.length_map]; omega
       have hrpl : (renD c old new).parts.length = c.parts.length := List.length_map ..
       rw [hXe]
       simp
       refine Ja7 (Jkl _ _ hnn hnx (by omega) hxl2 _ _ _ _ _ (by simp) (by simp) rfl rfl rfl) ?_
       rw [hdr]
       have hsz : Sized (Jbe (renD c old new)) := by
         refine ⟨?_, ?_, fun p hp => ?_⟩
         . rw [(Jhr hDo).length_eq, hrpl]; omega
         . rw [<- hdr]; show ((Jav Jba _).map _).length < _; rw [List.length_map, Jez]; show ((renD c old new).pipes.map ordX).length < _; omega
         . have hp2 := (Jhr hDo).mem_iff.1 hp
           obtain ⟨q, hq, rfl⟩ := List.mem_map.1 hp2
           show (Jbd c old new q.name).length < _
           have := hs.names q hq
           have h24 := (Jen (Jc7 (Jcy h hq)).2.1).2.2
           unfold Jbd
           split
           . omega
           . split
             . simp; omega
             . split
               . simp; omega
               . omega
       have hE : rnmE c old new = Jad (Jbe (renD c old new)) := by unfold rnmE; rw [h, if_neg (by simp), if_neg (by omega), if_neg (by simpa using hnn)]
       generalize hSR : Jbe (renD c old new) = SR' at hsz hE ⊢
       simp
       refine Jab (Jeu SR' hsz) ?_
       by_cases hcs : Jad SR' = 0
       . have hC : rnmC c old new = SR' := by unfold rnmC; rw [if_pos (hE.trans hcs), hSR]
         simp [hcs, Jaa, hE, hC]
       . have hC : rnmC c old new = noC := by unfold rnmC; rw [if_neg (by rw [hE]; exact hcs)]
         simp [hcs, Jaa, hE, hC, noC]
     . have hlt : (rnP ES c.parts).length < c.parts.length := by
         rw [hRPe]
         have := Jmm (ps := []) (l := c.parts.map (Jch (Jbd c old new))) (by simpa [renD, mapD, drfC] using hnn) List.nodup_nil
         simpa using this
       have hE : rnmE c old new = 7 := by unfold rnmE; rw [h, if_neg (by simp), if_neg (by omega), if_pos hnn]
       have hC : rnmC c old new = noC := by unfold rnmC; rw [if_neg (by rw [hE]; decide)]
       simp [hlt, Jaa, hE, hC, noC]
 . have hE : rnmE c old new = Jad c := if_pos h
   have hC : rnmC c old new = noC := by unfold rnmC; rw [if_neg (by rw [hE]; exact h)]
   simp [h, Jaa, hE, hC, noC]
end Go.Am
