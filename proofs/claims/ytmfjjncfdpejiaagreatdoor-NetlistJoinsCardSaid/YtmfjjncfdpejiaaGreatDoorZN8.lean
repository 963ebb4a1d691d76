/- Lemmas and contracts for the proof of a statement of this seat. -/
import Derived.Test.YtmfjjncfdpejiaaGreatDoorZN5
import Derived.Test.YtmfjjncfdpejiaaGreatDoorZN4
import Derived.Test.YtmfjjncfdpejiaaGreatDoorZA7
import Derived.Test.YtmfjjncfdpejiaaGreatDoorZN1
set_option linter.unusedVariables false
set_option linter.unusedSimpArgs false
namespace Go.Am
open Go Go.Proofs Go.Pn
def pKs (ps : List Part) : List AV := ps.map fun p => .p (.str p.name)
def pVs (ps : List Part) : List AV := ps.map Part.av
def xKs (xs : List EndP) : List AV := xs.map EndP.av
def xVs (xs : List EndP) : List AV := xs.map fun _ => .p (.bool true)
theorem Jw8 {ps : List Part} : (pKs ps).zip (pVs ps) = Jav ps := by
 induction ps with
 | nil => rfl
 | cons p ps ih => simpa [pKs, pVs, Jav] using ih
theorem Kbk {xs : List EndP} : (xKs xs).zip (xVs xs) = Jay xs := by
 induction xs with
 | nil => rfl
 | cons p ps ih => simpa [xKs, xVs, Jay] using ih
theorem J8h {ps : List Part} (h : (ps.map (·.name)).Nodup) : (pKs ps).Nodup :=
 List.pairwise_map.2 ((List.pairwise_map.1 h).imp fun h1 h2 => h1 (by simpa using h2))
theorem Kbj {xs : List EndP} (h : xs.Nodup) : (xKs xs).Nodup :=
 List.pairwise_map.2 (h.imp fun h1 h2 => h1 (Jox h2))
theorem J4b {ps : List Part} {xs : List EndP} (hp : (ps.map (·.name)).Nodup) (hx : xs.Nodup) (t : Jat) :
   Freeze [1, 2] ⟨t, [(0, some (.cells 2 [[.map 1, .map 2]])), (1, some (.map (Jav ps))), (2, some (.map (Jay xs)))], 3⟩
     ⟨t, [(1, none), (2, none), (0, some (.cells 2 [[.pmap (pKs ps) (pVs ps), .pmap (xKs xs) (xVs xs)]])), (0, some (.cells 2 [[.map 1, .map 2]])), (1, some (.map (Jav ps))), (2, some (.map (Jay xs)))], 3⟩ := by
 refine Freeze.of (B := [1, 2]) (st' := ⟨t, [(0, some (.cells 2 [[.map 1, .map 2]])), (1, some (.map (Jav ps))), (2, some (.map (Jay xs)))], 3⟩) [] [(1, none), (2, none), (0, some (.cells 2 [[.pmap (pKs ps) (pVs ps), .pmap (xKs xs) (xVs xs)]]))] (by simp) ?_ (by simp [keys])
 intro p hp' x hx'
 simp only [List.mem_cons, List.not_mem_nil, or_false] at hp'
 rcases hp' with rfl | rfl | rfl
 . cases hx'
 . cases hx'
 . simp only [Option.some.injEq] at hx'
   subst hx'
   refine ⟨by simp, _, rfl, FrzB.two (.frz _ _ (.map 1 (Jav ps) _ _ (by simp) rfl ?_ (by simp [pKs, pVs]) (J8h hp) ?_)) (.frz _ _ (.map 2 (Jay xs) _ _ (by simp) rfl ?_ (by simp [xKs, xVs]) (Kbj hx) ?_))⟩
   . intro e he; obtain ⟨p, _, rfl⟩ := List.mem_map.1 he; exact ⟨rfl, rfl⟩
   . rw [Jw8]
   . intro e he; obtain ⟨p, _, rfl⟩ := List.mem_map.1 he; exact ⟨rfl, rfl⟩
   . rw [Kbk]
def Jcj {α : Type} (l : List α) (seen : List Nat) : List α := seen.filterMap fun i => l[i]?
theorem Jw3 {α : Type} {l : List α} {seen : List Nat} {n : Nat} {x : α} (e : l[n]? = some x) : Jcj l (seen ++ [n]) = Jcj l seen ++ [x] := by
 simp [Jcj, List.filterMap_append, e]
theorem Jmz {α : Type} {l : List α} {seen : List Nat} (h : ∀ n ∈ seen, n < l.length) : (Jcj l seen).length = seen.length := by
 induction seen with
 | nil => rfl
 | cons n seen ih =>
   have hn := h n (by simp)
   have := ih fun m hm => h m (by simp [hm])
   unfold Jcj at this ⊢
   rw [List.filterMap_cons, List.getElem?_eq_getElem hn]
   simp [this]
theorem Jw2 {α : Type} : ∀ {l : List α}, Jcj l (List.range l.length) = l
 | [] => rfl
 | x :: l => by
   have ih := @Jw2 α l
   unfold Jcj at ih ⊢
   rw [List.length_cons, List.range_succ_eq_map, List.filterMap_cons, List.filterMap_map]
   simp only [List.getElem?_cons_zero]
   congr 1
theorem Jw1 {α : Type} {l : List α} {seen : List Nat} (hn : seen.Nodup) (hl : ∀ n ∈ seen, n < l.length) (ha : ∀ i, i < l.length -> i ∈ seen) : (Jcj l seen).Perm l := by
 have h1 : seen.Perm (List.range l.length) := by
   rw [List.perm_ext_iff_of_nodup hn List.nodup_range]
   intro i
   rw [List.mem_range]
   exact ⟨hl i, ha i⟩
 have h2 := h1.filterMap fun i => l[i]?
 exact h2.trans (by rw [show (List.range l.length).filterMap (fun i => l[i]?) = l from Jw2])
theorem Juu {α β : Type} {f : α -> β} {l : List α} {n : Nat} {y : β} (h : (l.map f)[n]? = some y) : ∃ x, l[n]? = some x /\ f x = y := by
 rw [List.getElem?_map, Option.map_eq_some_iff] at h; exact h
@[simp] def J2w (b : Nat) (st : St) : Nat := match get st.s b with | some (.cells _ [x :: _]) => nameOf x | _ => 0
@[simp] def J2x (b : Nat) (st : St) : Nat := match get st.s b with | some (.cells _ [[_, x]]) => nameOf x | _ => 0
def atM (nms : List Txt) (k : Nat) : List (AV × AV) := (List.range k).map fun (i : Nat) => (.p (.str ((nms[i]?).getD [])), .p (.int .i64 (i : Int)))
@[simp] theorem Kb9 {nms : List Txt} {k : Nat} {s : Txt} : Jcl Tryz.prog 9 (atM nms k) (.p (.str s)) = True :=
 eq_true ⟨_, Jie, ⟨_, rfl⟩, fun e he => by obtain ⟨p, _, rfl⟩ := List.mem_map.1 he; exact ⟨_, rfl⟩⟩
@[simp] theorem Kc9 {nms : List Txt} {k : Nat} {ρ : List Nat} : renE ρ (atM nms k) = some (atM nms k) :=
 Jke fun e he => by obtain ⟨p, _, rfl⟩ := List.mem_map.1 he; exact ⟨rfl, rfl⟩
theorem Jx6 {x v : AV} : ∀ {es : List (AV × AV)}, (∀ e ∈ es, e.1 ≠ x) -> setA es x v = es ++ [(x, v)]
 | [], _ => rfl
 | e :: es, h => by
   rw [setA, if_neg (h e (by simp)), Jx6 fun e he => h e (by simp [he])]; rfl
theorem Jj5 {α : Type} {l : List α} (h : l.Nodup) {i j : Nat} {x : α} (h1 : l[i]? = some x) (h2 : l[j]? = some x) : i = j := by
 obtain ⟨a, ha⟩ := gsI.1 h1
 obtain ⟨b, hb⟩ := gsI.1 h2
 exact (List.getElem_inj h).1 (ha.trans hb.symm)
theorem Joe {nms : List Txt} (h : nms.Nodup) {k : Nat} {x : Txt} (e : nms[k]? = some x) : setA (atM nms k) (.p (.str x)) (.p (.int .i64 (k : Int))) = atM nms (k + 1) := by
 rw [Jx6]
 . unfold atM; rw [List.range_succ, List.map_append]; simp [e]
 . intro y hy
   obtain ⟨i, hi, rfl⟩ := List.mem_map.1 hy
   have hi := List.mem_range.1 hi
   have hk := (gsI.1 e).1
   obtain ⟨z, ez⟩ := Jag (xs := nms) (k := i) (by omega)
   intro h2
   simp only [AV.p.injEq, PV.str.injEq, ez, Option.getD_some] at h2
   subst h2
   have := Jj5 h ez e
   omega
theorem J0k {nms : List Txt} (h : nms.Nodup) {s : Txt} (hs : s ∈ nms) : Jap (atM nms nms.length) (.p (.str s)) = some (.p (.int .i64 (atNm nms s))) := by
 obtain ⟨k, hk⟩ := List.mem_iff_getElem?.1 hs
 have hkl := (gsI.1 hk).1
 have e1 : atNm nms s = (k : Int) := by
   unfold atNm
   cases e : nms.findIdx? fun n => decide (n = s) with
   | none =>
     have := List.findIdx?_eq_none_iff.1 e s hs
     simp at this
   | some j =>
     obtain ⟨hj, h1, _⟩ := List.findIdx?_eq_some_iff_getElem.1 e
     have : nms[j]? = some s := by rw [List.getElem?_eq_getElem hj]; simpa using h1
     simp only [Jj5 h this hk]
 rw [e1]
 have key : ∀ n, k < n -> n <= nms.length -> Jap (atM nms n) (.p (.str s)) = some (.p (.int .i64 (k : Int))) := by
   intro n
   induction n with
   | zero => intro h; omega
   | succ n ih =>
     intro h1 h2
     obtain ⟨z, ez⟩ := Jag (xs := nms) (k := n) (by omega)
     rw [<- Joe h ez, Jjm]
     by_cases hz : z = s
     . subst hz
       rw [if_pos rfl, Jj5 h ez hk]
     . rw [if_neg (by simpa using hz)]
       have : k ≠ n := fun e => hz (by subst e; rw [ez] at hk; simpa using hk)
       exact ih (by omega) (by omega)
 exact key _ hkl (Nat.le_refl _)
def Jf3 (ps : List Part) (k : Nat) : List Part := ((Jao ps).take k).map (Jd4 ps)
theorem J6c {ps : List Part} {k : Nat} (h : k <= (Jao ps).length) : (Jf3 ps k).length = k := by simp [Jf3]; omega
theorem J6d {ps : List Part} {k : Nat} {x : Txt} (e : (Jao ps)[k]? = some x) : Jf3 ps (k + 1) = Jf3 ps k ++ [Jd4 ps x] := by
 unfold Jf3; rw [take_snoc e, List.map_append]; rfl
theorem J6b {ps : List Part} : Jf3 ps (Jao ps).length = (Jao ps).map (Jd4 ps) := by unfold Jf3; rw [List.take_length]
def Jf4 (nms : List Txt) (ys : List EndP) (k : Nat) : List Pipe := (ys.take k).map (Jb7 nms)
theorem J6f {nms : List Txt} {ys : List EndP} {k : Nat} (h : k <= ys.length) : (Jf4 nms ys k).length = k := by simp [Jf4]; omega
theorem J6g {nms : List Txt} {ys : List EndP} {k : Nat} {x : EndP} (e : ys[k]? = some x) : Jf4 nms ys (k + 1) = Jf4 nms ys k ++ [Jb7 nms x] := by
 unfold Jf4; rw [take_snoc e, List.map_append]; rfl
theorem J6e {nms : List Txt} {ys : List EndP} : Jf4 nms ys ys.length = ys.map (Jb7 nms) := by unfold Jf4; rw [List.take_length]
theorem J0j {nms : List Txt} (h : nms.Nodup) {s : Txt} : hit false (.p (.int .i64 0)) (Jap (atM nms nms.length) (.p (.str s))) = .p (.int .i64 (atNm nms s)) := by
 by_cases hs : s ∈ nms
 . rw [J0k h hs]; rfl
 . have e1 : atNm nms s = 0 := by
     unfold atNm
     have : (nms.findIdx? fun n => decide (n = s)) = none := List.findIdx?_eq_none_iff.2 fun x hx => by
       rw [decide_eq_false_iff_not]; rintro rfl; exact hs hx
     rw [this]
   have e2 : ∀ k, k <= nms.length -> Jap (atM nms k) (.p (.str s)) = none := by
     intro k
     induction k with
     | zero => intro _; rfl
     | succ k ih =>
       intro hk
       obtain ⟨z, ez⟩ := Jag (xs := nms) (k := k) (by omega)
       rw [<- Joe h ez, Jjm, if_neg, ih (by omega)]
       intro e
       simp only [AV.p.injEq, PV.str.injEq] at e
       subst e
       exact hs (List.mem_of_getElem? ez)
   rw [e2 _ (Nat.le_refl _), e1]; rfl
theorem Jue {ps : List Part} {s : Txt} (h : s ∈ ps.map (·.name)) : ∃ p, ps.find? (fun p => decide (p.name = s)) = some p := by
 cases e : ps.find? (fun p => decide (p.name = s)) with
 | some p => exact ⟨p, rfl⟩
 | none =>
   obtain ⟨p, hp, rfl⟩ := List.mem_map.1 h
   have := List.find?_eq_none.1 e p hp
   simp at this
set_option maxRecDepth 20000 in
theorem Jjx (ps : List Part) (xs : List EndP) (hp : (ps.map (·.name)).Nodup) (hx : xs.Nodup) (hpl : ps.length <= 200) (hxl : xs.length <= 2000) (s : Store) (nx d m q : Nat) (hnd : [d, m, q].Nodup) (hlt : ∀ b ∈ [d, m, q], b < nx)
   (g0 : get s d = some (.cells 2 [[.map m, .map q]])) (g1 : get s m = some (.map (Jav ps))) (g2 : get s q = some (.map (Jay xs))) :
   Gives Tryz.prog GL 70 [.ptr d 2 0 0] s nx (Jdo ⟨ps, xs⟩).av [d, m, q] [(d, none), (m, none), (q, none)] nx := by
 refine Gives.of_walkFL (N := 98) (args := [.ptr 0 2 0 0]) (σ := [d, m, q]) (s0 := [(0, some (.cells 2 [[.map 1, .map 2]])), (1, some (.map (Jav ps))), (2, some (.map (Jay xs)))]) (m := 3) _ Tryz.func70 rfl rfl rfl (by simp) rfl ?_ (by simp) rfl (J4b hp hx _).leads ?_
 . refine ⟨?_, rfl, hnd, hlt, rfl⟩
   simp [g0, g1, g2]
 simp
 refine Jai.go [0, 2, 3, 4, 18] [0, 3, 4, 5] 1 [7] (fun st => [nameOf (slot st.t 5)]) (fun n (seen : List Nat) => [(5, .acc n 1 seen.length)]) (fun n seen => [(6, some (.iter (pKs ps) (pVs ps) seen)), (n, accB 1 ((Jcj (ps.map (·.name)) seen).map Txt.row))]) (fun seen => seen.Nodup /\ ∀ n ∈ seen, n < ps.length) (fun seen => ps.length - seen.length) [] ⟨List.nodup_nil, by simp⟩ ?_ ?_
 . simp [Jcj]
   decide
 rintro seen ⟨hsn, hsl⟩
 simp
 refine Jzp (fun n kk vv hn hk hv => ?_) (fun hall => ?_)
 . obtain ⟨p, ep, rfl⟩ := Juu hk
   have hnl : n < ps.length := (gsI.1 ep).1
   have hsn2 : (seen ++ [n]).Nodup := by
     rw [List.nodup_append]
     exact ⟨hsn, by simp, fun a ha b hb e => hn (by simp at hb; rw [<- hb, <- e]; exact ha)⟩
   have hsl2 : ∀ m ∈ seen ++ [n], m < ps.length := fun m hm => by
     rcases List.mem_append.1 hm with hm | hm
     . exact hsl m hm
     . simp at hm; subst hm; exact hnl
   have hcn : seen.length + 1 <= ps.length := by
     have := Jj7 (m := List.range ps.length) hsn2 (fun m hm => List.mem_range.2 (hsl2 m hm))
     simpa using this
   have hpk : Jcj (ps.map (·.name)) (seen ++ [n]) = Jcj (ps.map (·.name)) seen ++ [p.name] := Jw3 (by rw [List.getElem?_map, ep]; rfl)
   have hpl2 := @Jmz _ (ps.map (·.name)) seen (fun m hm => by rw [List.length_map]; exact hsl m hm)
   have hv2 : (pVs ps)[n]? = some p.av := by unfold pVs; rw [List.getElem?_map, ep]; rfl
   simp [hk, hv2]
   refine ⟨by omega, hpl2, seen ++ [n], ⟨hsn2, hsl2⟩, by simp; omega, by simp, ?_⟩
   simp [hpk]
   decide
 have hpm := Jw1 hsn (l := ps.map (·.name)) (fun n hn => by rw [List.length_map]; exact hsl n hn) (fun i hi => hall i (by simpa [pKs] using hi))
 have hnm : Jar Op.bytesLess (Jcj (ps.map (·.name)) seen) = Jao ps := Jma Jhi hpm
 have hln : seen.length = (Jcj (ps.map (·.name)) seen).length := (Jmz fun n hn => by rw [List.length_map]; exact hsl n hn).symm
 have hsp : seen.length <= ps.length := by rw [hln, hpm.length_eq, List.length_map]; exact Nat.le_refl _
 simp
 rw [hln]
 refine Ja4 (J4k _ _ _ _ (by simp) (by omega) (by simp)) ?_
 rw [hnm, <- hln]
 have hnl : (Jao ps).length = seen.length := by rw [hln, hpm.length_eq]; exact Je4
 have hnd2 : (Jao ps).Nodup := Jfh.nodup_iff.2 hp
 simp
 rw [<- hnl]
 have hnps : (Jao ps).length <= 200 := by omega
 have hmem : ∀ s ∈ Jao ps, ∃ p, ps.find? (fun p => decide (p.name = s)) = some p := fun s hs => Jue (Jhd.1 hs)
 refine Jai.go [0, 2, 3, 4, 29, 30] [0, 3, 7] 1 [8] (fun st => [J2w 4 st]) (fun n (k : Nat) => [(31, .p (.int .i64 k))]) (fun n k => [(4, some (.cells 2 [[.acc n 3 k, .nils]])), (n, accB 3 ((Jf3 ps k).map Part.row)), (5, some (.map (atM (Jao ps) k)))]) (fun k => k <= (Jao ps).length) (fun k => (Jao ps).length - k) 0 (by omega) ?_ ?_
 . simp [atM, Jf3]
   decide
 intro k hk
 have hpk := J6c hk
 simp
 refine Jad (fun h3 => ?_) (fun h3 => ?_)
 . simp at h3
   obtain ⟨x, e⟩ := Jag h3
   obtain ⟨p, ep⟩ := hmem x (List.mem_of_getElem? e)
   have hne : Jao ps ≠ [] := List.length_pos_iff.1 (by omega)
   have hset := Joe hnd2 e
   have hpn := J6d (ps := ps) e
   have hpx : Jd4 ps x = p := by unfold Jd4; rw [ep]; rfl
   simp [h3, e, hne, hset, -getElem?_pos, List.getElem?_cons_zero, List.getElem?_cons_succ]
   refine Jah.intro (by kernel_rfl) ?_
   simp [Jw8, ep, hit]
   refine ⟨by omega, hpk, .of (by kernel_rfl), wrap_i64 (by omega) (by omega), k + 1, by omega, by omega, by omega, ?_⟩
   rw [hpn, hpx]
   simp
   decide
 simp at h3
 have hkl : k = (Jao ps).length := by omega
 subst hkl
 rw [J6b] at hpk ⊢
 generalize hRP : (Jao ps).map (Jd4 ps) = RP at hpk ⊢
 simp
 refine Jai.go [2, 3, 4, 55] [0, 3, 4, 5, 8] 1 [10] (fun st => [nameOf (slot st.t 9)]) (fun n (seen : List Nat) => [(9, .acc n 4 seen.length)]) (fun n seen => [(9, some (.iter (xKs xs) (xVs xs) seen)), (n, accB 4 ((Jcj xs seen).map EndP.row))]) (fun seen => seen.Nodup /\ ∀ n ∈ seen, n < xs.length) (fun seen => xs.length - seen.length) [] ⟨List.nodup_nil, by simp⟩ ?_ ?_
 . simp [Jcj]
   decide
 clear hall hpm hnm hln hsl hsn hsp hnl seen
 rintro seen ⟨hsn, hsl⟩
 simp
 refine Jzp (fun n kk vv hn hk hv => ?_) (fun hall => ?_)
 . obtain ⟨x, ex, rfl⟩ := Juu hk
   have hnl : n < xs.length := (gsI.1 ex).1
   have hsn2 : (seen ++ [n]).Nodup := by
     rw [List.nodup_append]
     exact ⟨hsn, by simp, fun a ha b hb e => hn (by simp at hb; rw [<- hb, <- e]; exact ha)⟩
   have hsl2 : ∀ m ∈ seen ++ [n], m < xs.length := fun m hm => by
     rcases List.mem_append.1 hm with hm | hm
     . exact hsl m hm
     . simp at hm; subst hm; exact hnl
   have hcn : seen.length + 1 <= xs.length := by
     have := Jj7 (m := List.range xs.length) hsn2 (fun m hm => List.mem_range.2 (hsl2 m hm))
     simpa using this
   have hpk : Jcj xs (seen ++ [n]) = Jcj xs seen ++ [x] := Jw3 ex
   have hpl2 := @Jmz _ xs seen hsl
   have hv2 : (xVs xs)[n]? = some (.p (.bool true)) := by unfold xVs; rw [List.getElem?_map, ex]; rfl
   simp [hk, hv2]
   refine ⟨by omega, hpl2, fun r a b _ e => by subst e; rfl, seen ++ [n], ⟨hsn2, hsl2⟩, by simp; omega, by simp, ?_⟩
   simp [hpk]
   decide
 have hpm := Jw1 hsn (l := xs) hsl (fun i hi => hall i (by simpa [xKs] using hi))
 have hnm : Jar Ja2 (Jcj xs seen) = Jar Ja2 xs := Jma Jfl hpm
 have hln : seen.length = (Jcj xs seen).length := (Jmz hsl).symm
 have hsp : (Jcj xs seen).length = xs.length := hpm.length_eq
 simp
 rw [hln]
 refine Ja4 (J4n _ _ _ _ (by simp) (by omega) (by simp)) ?_
 rw [hnm, hsp, <- @Je4 _ Ja2 xs]
 have hyl : (Jar Ja2 xs).length <= 2000 := by rw [Je4]; exact hxl
 generalize hY : Jar Ja2 xs = ys at hyl
 simp
 refine Jai.go [2, 3, 4, 66, 67] [3, 5, 8, 10] 1 [11] (fun st => [J2x 4 st]) (fun n (k : Nat) => [(68, .p (.int .i64 k))]) (fun n k => [(4, some (.cells 2 [[.acc 8 3 (Jao ps).length, .acc n 4 k]])), (n, accB 4 ((Jf4 (Jao ps) ys k).map Pipe.row))]) (fun k => k <= ys.length) (fun k => ys.length - k) 0 (by omega) ?_ ?_
 . simp [Jf4]
   decide
 intro k hk
 have hpk2 := J6f (nms := Jao ps) hk
 simp
 refine Jad (fun h3 => ?_) (fun h3 => ?_)
 . simp at h3
   obtain ⟨x, e⟩ := Jag h3
   have hne : ys ≠ [] := List.length_pos_iff.1 (by omega)
   have ha := fun s => J0j hnd2 (s := s)
   have hpn := J6g (nms := Jao ps) e
   have hr : List.range 11 = [0, 1, 2, 3, 4, 5, 6, 7, 8, 9, 10] := rfl
   simp [h3, e, hne, ha, -getElem?_pos, List.getElem?_cons_zero, List.getElem?_cons_succ]
   refine ⟨by omega, hpk2, wrap_i64 (by omega) (by omega), k + 1, by omega, by omega, ?_⟩
   rw [hpn, hr]
   simp [Jb7]
   try decide
 simp at h3
 have hkl : k = ys.length := by omega
 subst hkl
 rw [J6e] at hpk2 ⊢
 generalize hXP : ys.map (Jb7 (Jao ps)) = XP at hpk2 ⊢
 have hdc : Jdo ⟨ps, xs⟩ = ⟨RP, XP⟩ := by unfold Jdo; rw [<- hRP, <- hXP, <- hY]
 rw [hdc, <- hpk, <- hpk2]
 simp [Jaa]
end Go.Am
namespace Go.Am
open Go Go.Proofs Go.Pn
theorem J8o {ps : List Part} {p : Part} (h : (ps.map (·.name)).Nodup) (hp : p ∈ ps) : putN ps p = ps := by
 induction ps with
 | nil => cases hp
 | cons q ps ih =>
   rw [List.map_cons, List.nodup_cons] at h
   rw [putN]
   rcases List.mem_cons.1 hp with rfl | hp
   . rw [if_pos rfl]
   . rw [if_neg (fun e : q.name = p.name => h.1 (by rw [e]; exact List.mem_map_of_mem hp)), ih h.2 hp]
theorem Jn9 {ps : List Part} (hn : (ps.map (·.name)).Nodup) : ∀ {l us : List Part}, ((us ++ l).map (·.name)).Nodup -> (∀ p ∈ l, p.name ∈ ps.map (·.name) -> p ∈ ps) ->
   (∀ p ∈ us, p.name ∉ ps.map (·.name)) -> addN (ps ++ us) l = ps ++ us ++ l.filter fun q => decide (q.name ∉ ps.map (·.name))
 | [], us, _, _, _ => by simp [addN]
 | p :: l, us, h, hc, ha => by
   show addN (putN (ps ++ us) p) l = _
   by_cases hp : p.name ∈ ps.map (·.name)
   . have hm := hc p (by simp) hp
     have hnd : ((ps ++ us).map (·.name)).Nodup := by
       rw [List.map_append, List.nodup_append]
       refine ⟨hn, ?_, fun x hx y hy e => ?_⟩
       . rw [List.map_append, List.nodup_append] at h; exact h.1
       . obtain ⟨r, hr, rfl⟩ := List.mem_map.1 hy
         exact ha r hr (e ▸ hx)
     rw [J8o hnd (List.mem_append_left _ hm), Jn9 hn (us := us) ?_ (fun q hq => hc q (by simp [hq])) ha]
     . rw [List.filter_cons_of_neg (by simpa using hp)]
     . refine List.Sublist.nodup (List.Sublist.map _ ?_) h
       exact List.Sublist.append (List.Sublist.refl _) (List.sublist_cons_self _ _)
   . have hnm : p.name ∉ (ps ++ us).map (·.name) := by
       rw [List.map_append, List.mem_append, not_or]
       refine ⟨hp, fun hx => ?_⟩
       rw [List.map_append, List.nodup_append] at h
       exact h.2.2 _ hx p.name (by simp) rfl
     rw [Jqd hnm, List.append_assoc, Jn9 hn (us := us ++ [p]) (by simpa using h) (fun q hq => hc q (by simp [hq])) ?_]
     . rw [List.filter_cons_of_pos (by simpa using hp)]
       simp
     . intro q hq
       rcases List.mem_append.1 hq with hq | hq
       . exact ha q hq
       . simp at hq; subst hq; exact hp
theorem Kas {a b : Circuit} (ha : Jac a = 0) (hb : Jac b = 0) (hc : clash a b = false) : addN a.parts b.parts = uniP a.parts b.parts := by
 have := Jn9 (ps := a.parts) (Jc9 ha) (l := b.parts) (us := []) (by simpa using Jc9 hb) (fun p hp hn => ?_) (by simp)
 . simpa [uniP] using this
 . obtain ⟨q, hq, e⟩ := List.mem_map.1 hn
   exact Jtt hc hq hp e ▸ hq
theorem J43 {xs : List EndP} {x : EndP} (h : x ∈ xs) : insX xs x = xs := if_pos h
theorem J44 {xs : List EndP} {x : EndP} (h : x ∉ xs) : insX xs x = xs ++ [x] := if_neg h
theorem Jhv {xs : List EndP} : ∀ {l us : List EndP}, (us ++ l).Nodup -> (∀ p ∈ us, p ∉ xs) -> addX (xs ++ us) l = xs ++ us ++ l.filter fun q => decide (q ∉ xs)
 | [], us, _, _ => by simp [addX]
 | p :: l, us, h, ha => by
   show addX (insX (xs ++ us) p) l = _
   by_cases hp : p ∈ xs
   . rw [J43 (List.mem_append_left _ hp), Jhv (us := us) ?_ ha]
     . rw [List.filter_cons_of_neg (by simpa using hp)]
     . exact List.Sublist.nodup (List.Sublist.append (List.Sublist.refl _) (List.sublist_cons_self _ _)) h
   . have hnm : p ∉ xs ++ us := by
       rw [List.mem_append, not_or]
       refine ⟨hp, fun hx => ?_⟩
       rw [List.nodup_append] at h
       exact h.2.2 _ hx p (by simp) rfl
     rw [J44 hnm, List.append_assoc, Jhv (us := us ++ [p]) (by simpa using h) ?_]
     . rw [List.filter_cons_of_pos (by simpa using hp)]
       simp
     . intro q hq
       rcases List.mem_append.1 hq with hq | hq
       . exact ha q hq
       . simp at hq; subst hq; exact hp
theorem Jlv {c : Circuit} : Jc7 c = (drfC c).pipes.map ordX := by unfold Jc7 drfC; rw [List.map_map]; rfl
theorem Jzy {c : Circuit} (h : Jac c = 0) : addX [] (Jc7 c) = Jc7 c := by
 have := Jhv (xs := []) (l := Jc7 c) (us := []) (by rw [Jlv]; simpa using Je2 h) (by simp)
 rw [List.nil_append] at this
 rw [this, List.nil_append]
 exact List.filter_eq_self.2 fun x _ => by simp
theorem Kau {a b : Circuit} (hb : Jac b = 0) : addX (Jc7 a) (Jc7 b) = (uniX (drfC a).pipes (drfC b).pipes).map ordX := by
 have := Jhv (xs := Jc7 a) (l := Jc7 b) (us := []) (by rw [Jlv]; simpa using Je2 hb) (by simp)
 rw [List.append_nil] at this
 rw [this]
 unfold uniX
 rw [List.map_append, Jlv, Jlv, List.filter_map]
 rfl
theorem Jow {d : Drf} (h : DrfOk d) {ps : List Part} {xs : List EndP} (hp : ps = d.parts) (hx : xs = d.pipes.map ordX) : Jdo ⟨ps, xs⟩ = Jan d := by
 subst hp; subst hx
 exact Jfx h
set_option maxRecDepth 20000 in
theorem Jok (a b : Circuit) (ha : Sized a) (hb : Sized b) : Pure Tryz.prog GL 28 [a.av, b.av] (.tup [(uniC a b).av, .p (.int .i64 (uniE a b))]) := by
 refine Pure.of_walk (N := 78) Tryz.func28 rfl rfl rfl (by simp) (by first | (simp; done) | simp [*]) ?_
 simp
 refine Jai.go [2, 3, 4, 16, 17] [0, 1, 2] 0 [] (fun _ => []) (fun _ (k : Nat) => [(18, .p (.int .i64 k))]) (fun _ _ => [(3, some (.cells 2 [[.p (.lst 3 (a.parts.map Part.enc)), .p (.lst 4 (a.pipes.map Pipe.enc))], [.p (.lst 3 (b.parts.map Part.enc)), .p (.lst 4 (b.pipes.map Pipe.enc))]]))]) (fun k => k <= 2 /\ (1 <= k -> Jac a = 0) /\ (2 <= k -> Jac b = 0)) (fun k => 2 - k) 0 ⟨by omega, by omega, by omega⟩ ?_ ?_
 . simp
   decide
 rintro k ⟨hk, hka, hkb⟩
 simp
 refine Jad (fun h3 => ?_) (fun h3 => ?_)
 . simp at h3
   rcases (by omega : k = 0 \/ k = 1) with rfl | rfl
   . simp
     refine Jab (Jea a ha) ?_
     by_cases h : Jac a = 0
     . simp [h]
       refine ⟨1, by omega, by omega, by omega, ?_⟩
       decide
     . have hE : uniE a b = Jac a := if_pos h
       have hC : uniC a b = noC := by unfold uniC; rw [if_neg (by rw [hE]; exact h)]
       simp [h, Jaa, hE, hC, noC]
   . have hc0 := hka (by omega)
     simp
     refine Jab (Jea b hb) ?_
     by_cases h : Jac b = 0
     . simp [h]
       exact ⟨2, ⟨by omega, fun _ => hc0⟩, by omega, by omega, by decide⟩
     . have hE : uniE a b = Jac b := by unfold uniE; rw [hc0, if_neg (by simp), if_pos h]
       have hC : uniC a b = noC := by unfold uniC; rw [if_neg (by rw [hE]; exact h)]
       simp [h, Jaa, hE, hC, noC]
 simp at h3
 have hk2 : k = 2 := by omega
 subst hk2
 have h1 := hka (by omega)
 have h2 := hkb (by omega)
 have hbp := (Jb1 h2).2.1
 simp
 refine Ja4 (Jh6 _ _) ?_
 simp
 refine Ja4 (Jpa a [] [] h1 _ _ _ _ _ (by simp) (by simp) rfl rfl rfl) ?_
 rw [Jr7 h1, Jzy h1]
 simp
 refine Jai.go [3, 4, 9, 34, 35] [1, 2, 4, 5, 6] 0 [] (fun _ => []) (fun _ (k : Nat) => [(36, .p (.int .i64 k))]) (fun _ _ => []) (fun k => k <= b.parts.length /\ ∀ (j : Nat) q, j < k -> b.parts[j]? = some q -> ∀ p, a.parts.find? (fun p => decide (p.name = q.name)) = some p -> p = q) (fun k => b.parts.length - k) 0 ⟨by omega, fun j q h => by omega⟩ ?_ ?_
 . simp
   decide
 rintro k ⟨hk, hinv⟩
 simp
 refine Jad (fun h3 => ?_) (fun h3 => ?_)
 . simp at h3
   obtain ⟨q, e⟩ := Jag h3
   simp [h3, e, -getElem?_pos, List.getElem?_cons_zero, List.getElem?_cons_succ]
   refine Jah.intro (by kernel_rfl) ?_
   cases ef : a.parts.find? fun p => decide (p.name = q.name) with
   | none =>
     simp [ef, hit, zeroV]
     refine ⟨.of (by kernel_rfl), wrap_i64 (by omega) (by omega), k + 1, ⟨by omega, fun j r hj er p hp => ?_⟩, by omega, by omega, by decide⟩
     rcases (by omega : j < k \/ j = k) with hj | rfl
     . exact hinv j r hj er p hp
     . rw [e] at er; cases er; rw [ef] at hp; cases hp
   | some p =>
     simp [ef, hit]
     refine ⟨.of (by kernel_rfl), ?_⟩
     refine Jad (fun h5 => ?_) (fun h5 => ?_)
     . simp at h5
       have hcl : clash a b = true := by
         unfold clash
         refine List.any_eq_true.2 ⟨q, List.mem_of_getElem? e, List.any_eq_true.2 ⟨p, List.mem_of_find?_eq_some ef, ?_⟩⟩
         have := List.find?_some ef
         simpa [h5] using this
       have hE : uniE a b = 16 := by unfold uniE; rw [h1, h2, hcl]; rfl
       have hC : uniC a b = noC := by unfold uniC; rw [if_neg (by rw [hE]; decide)]
       simp [Jaa, hE, hC, noC]
     . simp at h5
       simp
       refine ⟨wrap_i64 (by omega) (by omega), k + 1, ⟨by omega, fun j r hj er p' hp => ?_⟩, by omega, by omega, by decide⟩
       rcases (by omega : j < k \/ j = k) with hj | rfl
       . exact hinv j r hj er p' hp
       . rw [e] at er; cases er; rw [ef] at hp; cases hp; exact h5
 simp at h3
 have hkl : k = b.parts.length := by omega
 subst hkl
 have hcl : clash a b = false := by
   unfold clash
   refine List.any_eq_false.2 fun q hq => ?_
   rw [Bool.not_eq_true]
   refine List.any_eq_false.2 fun p hp => ?_
   simp only [Bool.and_eq_true, decide_eq_true_eq, Bool.not_eq_true', decide_eq_false_iff_not, not_and, Decidable.not_not]
   intro en
   obtain ⟨j, hj⟩ := List.mem_iff_getElem?.1 hq
   obtain ⟨p', hp'⟩ := Jue (ps := a.parts) (s := q.name) (List.mem_map.2 ⟨p, hp, en⟩)
   have h5 := hinv j q (gsI.1 hj).1 hj p' hp'
   have h6 := Jed (Jc9 h1) hp
   unfold Jd4 at h6
   rw [en, hp'] at h6
   rw [<- h6]; exact h5
 simp
 refine Ja4 (Jpa b a.parts (Jc7 a) h2 _ _ _ _ _ (by simp) (by simp) rfl rfl rfl) ?_
 rw [Kas h1 h2 hcl, Kau h2]
 have hd := Jga h1 h2 hcl
 have hpa := (Jb1 h1).2
 have hpb := (Jb1 h2).2
 have hpl : (uniP a.parts b.parts).length <= 200 := by
   unfold uniP
   rw [List.length_append]
   have := List.length_filter_le (fun q => decide (q.name ∉ a.parts.map (·.name))) b.parts
   omega
 have hxl : (uniX (drfC a).pipes (drfC b).pipes).length <= 2000 := by
   unfold uniX
   rw [List.length_append]
   have := List.length_filter_le (fun y => decide (ordX y ∉ (drfC a).pipes.map ordX)) (drfC b).pipes
   have l1 : (drfC a).pipes.length = a.pipes.length := List.length_map ..
   have l2 : (drfC b).pipes.length = b.pipes.length := List.length_map ..
   omega
 have hxn := Jnk (Je2 h1) (Je2 h2)
 have hE : uniE a b = if 64 < (uniP a.parts b.parts).length \/ 256 < (uniX (drfC a).pipes (drfC b).pipes).length then 5 else 0 := by unfold uniE; rw [h1, h2, hcl]; rfl
 have hdr : Jdo ⟨uniP a.parts b.parts, (uniX (drfC a).pipes (drfC b).pipes).map ordX⟩ = Jan (uniD a b) := Jow hd rfl rfl
 have hmx : (List.map ordX (uniX (drfC a).pipes (drfC b).pipes)).length = (uniX (drfC a).pipes (drfC b).pipes).length := List.length_map ..
 generalize hUP : uniP a.parts b.parts = UP at hpl hE hdr ⊢
 generalize hUX : (uniX (drfC a).pipes (drfC b).pipes) = UX at *
 have hnd2 : (UP.map (·.name)).Nodup := by rw [<- hUP]; exact hd.nd
 simp
 by_cases h7 : (64 : Int) < UP.length
 . have hE2 : uniE a b = 5 := by rw [hE, if_pos (.inl (by omega))]
   have hC : uniC a b = noC := by unfold uniC; rw [if_neg (by rw [hE2]; decide)]
   simp [h7, Jaa, hE2, hC, noC]
 by_cases h8 : (256 : Int) < UX.length
 . have hE2 : uniE a b = 5 := by rw [hE, if_pos (.inr (by omega))]
   have hC : uniC a b = noC := by unfold uniC; rw [if_neg (by rw [hE2]; decide)]
   simp [h7, h8, Jaa, hE2, hC, noC]
 have hE2 : uniE a b = 0 := by rw [hE, if_neg (by omega)]
 have hC : uniC a b = Jan (uniD a b) := if_pos hE2
 simp [h7, h8]
 refine Ja4 (Jjx UP (UX.map ordX) hnd2 hxn hpl (by rw [hmx]; exact hxl) _ _ _ _ _ (by simp) (by simp) rfl rfl rfl) ?_
 rw [hdr, <- hC]
 simp [Jaa, hE2]
end Go.Am
namespace Go.Am
open Go Go.Proofs Go.Pn
noncomputable def Jc3 (es : List (AV × AV)) (old new : Txt) (p : Part) (k : Txt) : List (AV × AV) := if p.kind = 6 /\ p.name = old ++ k then setA es (.p (.str p.name)) (.p (.str (new ++ k))) else es
noncomputable def Jdb (es : List (AV × AV)) (old new : Txt) (p : Part) : Nat -> List (AV × AV)
 | 0 => es
 | 1 => Jc3 es old new p [48]
 | _ + 2 => Jc3 (Jc3 es old new p [48]) old new p [49]
noncomputable def toM (c : Circuit) (old new : Txt) : Nat -> List (AV × AV)
 | 0 => [(.p (.str old), .p (.str new))]
 | j + 1 => match c.parts[j]? with
   | some p => Jdb (toM c old new j) old new p 2
   | none => toM c old new j
def OkT (es : List (AV × AV)) : Prop := ∀ e ∈ es, (∃ s, e.1 = .p (.str s)) /\ ∃ t, e.2 = .p (.str t)
theorem Jpu {es : List (AV × AV)} {old new : Txt} {p : Part} {k : Txt} (h : OkT es) : OkT (Jc3 es old new p k) := by
 unfold Jc3
 split
 . exact Jx5 (K := fun e => (∃ s, e.1 = .p (.str s)) /\ ∃ t, e.2 = .p (.str t)) ⟨⟨_, rfl⟩, _, rfl⟩ h
 . exact h
theorem Jil {es : List (AV × AV)} {old new : Txt} {p : Part} (h : OkT es) : ∀ n, OkT (Jdb es old new p n)
 | 0 => h
 | 1 => Jpu h
 | _ + 2 => Jpu (Jpu h)
theorem Jf5 {c : Circuit} {old new : Txt} : ∀ j, OkT (toM c old new j)
 | 0 => fun e he => by simp [toM] at he; subst he; exact ⟨⟨_, rfl⟩, _, rfl⟩
 | j + 1 => by
   have ih := @Jf5 c old new j
   unfold toM
   split
   . exact Jil ih 2
   . exact ih
theorem Jmr {es : List (AV × AV)} (h : OkT es) (s : Txt) : Jcl Tryz.prog 9 es (.p (.str s)) = True :=
 eq_true ⟨_, Jie, ⟨_, rfl⟩, fun e he => (h e he).1⟩
theorem Jet {es : List (AV × AV)} (h : OkT es) (ρ : List Nat) : renE ρ es = some es :=
 Jke fun e he => by
   obtain ⟨⟨s, h1⟩, t, h2⟩ := h e he
   rw [h1, h2]; exact ⟨rfl, rfl⟩
noncomputable def rnT (es : List (AV × AV)) (s : Txt) : Txt := match Jap es (.p (.str s)) with
 | some (.p (.str t)) => t
 | _ => s
theorem J6l {es : List (AV × AV)} (h : OkT es) (s : Txt) : Jap es (.p (.str s)) = none /\ rnT es s = s \/ ∃ t, Jap es (.p (.str s)) = some (.p (.str t)) /\ rnT es s = t := by
 cases e : Jap es (.p (.str s)) with
 | none => exact .inl ⟨rfl, by unfold rnT; rw [e]⟩
 | some v =>
   have : ∃ t, v = .p (.str t) := by
     induction es with
     | nil => cases e
     | cons y es ih =>
       rw [Jen] at e
       split at e
       . cases e; exact (h y (by simp)).2
       . exact ih (fun z hz => h z (by simp [hz])) e
   obtain ⟨t, rfl⟩ := this
   exact .inr ⟨t, rfl, by unfold rnT; rw [e]⟩
def Jf0 (c : Circuit) (j : Nat) (s : Txt) : Prop := ∃ i p, i < j /\ c.parts[i]? = some p /\ p.kind = 6 /\ p.name = s
open Classical in
theorem Jq6 {c : Circuit} {old new s : Txt} : ∀ {j : Nat}, Jap (toM c old new j) (.p (.str s)) = if s = old then some (.p (.str new)) else if s = old ++ [48] /\ Jf0 c j s then some (.p (.str (new ++ [48]))) else if s = old ++ [49] /\ Jf0 c j s then some (.p (.str (new ++ [49]))) else none
 | 0 => by
   have h0 : ¬ Jf0 c 0 s := fun ⟨i, _, h, _⟩ => by omega
   show Jap [(AV.p (.str old), AV.p (.str new))] _ = _
   rw [Jen]
   by_cases h : s = old
   . subst h; rw [if_pos rfl, if_pos rfl]
   . rw [if_neg (by simpa using Ne.symm h), if_neg h, if_neg (fun h => h0 h.2), if_neg (fun h => h0 h.2)]; rfl
 | j + 1 => by
   have ih := @Jq6 c old new s j
   have ne1 : ∀ (x : Txt) (b : UInt8), x ++ [b] ≠ x := fun x b e => by simpa using congrArg List.length e
   have ne2 : old ++ [(48 : UInt8)] ≠ old ++ [49] := fun e => by simp at e
   unfold toM
   cases e : c.parts[j]? with
   | none =>
     have hs : Jf0 c (j + 1) s ↔ Jf0 c j s := by
       constructor
       . rintro ⟨i, p, h1, h2, h3⟩
         rcases (by omega : i < j \/ i = j) with h | rfl
         . exact ⟨i, p, h, h2, h3⟩
         . rw [e] at h2; cases h2
       . rintro ⟨i, p, h1, h2⟩
         exact ⟨i, p, by omega, h2⟩
     simp only [hs]
     exact ih
   | some p =>
     have hs : Jf0 c (j + 1) s ↔ Jf0 c j s \/ (p.kind = 6 /\ p.name = s) := by
       constructor
       . rintro ⟨i, q, h1, h2, h3⟩
         rcases (by omega : i < j \/ i = j) with h | rfl
         . exact .inl ⟨i, q, h, h2, h3⟩
         . rw [e] at h2; cases h2; exact .inr h3
       . rintro (⟨i, q, h1, h2⟩ | h3)
         . exact ⟨i, q, by omega, h2⟩
         . exact ⟨j, p, by omega, e, h3⟩
     show Jap (Jc3 (Jc3 (toM c old new j) old new p [48]) old new p [49]) _ = _
     simp only [hs]
     unfold Jc3
     by_cases hk : p.kind = 6
     . by_cases h1 : p.name = old ++ [49]
       . have h2 : ¬ p.name = old ++ [48] := fun h2 => ne2 (h2.symm.trans h1)
         rw [if_pos ⟨hk, h1⟩, if_neg (fun h => h2 h.2), Jjm]
         by_cases h3 : p.name = s
         . subst h3
           rw [if_pos rfl, if_neg (by rw [h1]; exact ne1 _ _), if_neg (fun h => h2 h.1), if_pos ⟨h1, .inr ⟨hk, rfl⟩⟩]
         . rw [if_neg (by simpa using h3), ih]
           simp only [h3, and_false, or_false]
       . by_cases h2 : p.name = old ++ [48]
         . rw [if_neg (fun h => h1 h.2), if_pos ⟨hk, h2⟩, Jjm]
           by_cases h3 : p.name = s
           . subst h3
             rw [if_pos rfl, if_neg (by rw [h2]; exact ne1 _ _), if_pos ⟨h2, .inr ⟨hk, rfl⟩⟩]
           . rw [if_neg (by simpa using h3), ih]
             simp only [h3, and_false, or_false]
         . rw [if_neg (fun h => h1 h.2), if_neg (fun h => h2 h.2), ih]
           by_cases h3 : p.name = s
           . subst h3
             simp only [h1, h2, false_and, if_false]
           . simp only [h3, and_false, or_false]
     . rw [if_neg (fun h => hk h.1), if_neg (fun h => hk h.1), ih]
       simp only [hk, false_and, or_false]
theorem Jys {c : Circuit} (h : Jac c = 0) {s : Txt} : Jf0 c c.parts.length s ↔ 0 <= swAt c s := by
 unfold swAt
 rcases Jir c s with e | ⟨i, x, e, e2, e3⟩
 . rw [e]
   have : swK c (-1) = -1 := by unfold swK; rw [if_neg (by omega)]
   rw [this]
   constructor
   . rintro ⟨j, p, h1, h2, h3, h4⟩
     have := Juy e p (List.mem_of_getElem? h2)
     simp [h4] at this
   . intro h; omega
 . rw [e]
   have hk : Jb3 c (i : Int) = x.kind := by unfold Jb3; rw [Int.toNat_natCast, e2]; rfl
   unfold swK
   rw [hk]
   constructor
   . rintro ⟨j, p, h1, h2, h3, h4⟩
     have hj : i = j := by
       have h5 : (c.parts.map (·.name))[i]? = some s := by rw [List.getElem?_map, e2]; simp [e3]
       have h6 : (c.parts.map (·.name))[j]? = some s := by rw [List.getElem?_map, h2]; simp [h4]
       exact Jj5 (Jc9 h) h5 h6
     subst hj
     rw [e2] at h2; cases h2
     rw [if_neg (by omega)]; omega
   . intro h7
     by_cases h8 : x.kind = 6
     . exact ⟨i, x, (gsI.1 e2).1, e2, h8, e3⟩
     . rw [if_pos ⟨by omega, h8⟩] at h7; omega
noncomputable def Jfn (c : Circuit) (old new : Txt) : List (AV × AV) := if Jb3 c (Jbx c old) = 1 then toM c old new c.parts.length else toM c old new 0
theorem Jv9 {c : Circuit} {old new : Txt} : OkT (Jfn c old new) := by
 unfold Jfn; split <;> exact Jf5 _
theorem Jxx {c : Circuit} (h : Jac c = 0) {old new s : Txt} : rnT (Jfn c old new) s = Jak c old new s := by
 unfold rnT Jak Jfn
 have ne1 : ∀ b : UInt8, old ++ [b] ≠ old := fun b e => by simpa using congrArg List.length e
 by_cases hk : Jb3 c (Jbx c old) = 1
 . rw [if_pos hk, Jq6]
   simp only [hk, true_and]
   by_cases h1 : s = old
   . rw [if_pos h1, if_pos h1]
   . rw [if_neg h1, if_neg h1]
     by_cases h2 : s = old ++ [48]
     . subst h2
       rw [Jys h]
       by_cases h4 : 0 <= swAt c (old ++ [48])
       . simp [h4]
       . simp [h4]
     . by_cases h3 : s = old ++ [49]
       . subst h3
         rw [Jys h]
         by_cases h4 : 0 <= swAt c (old ++ [49])
         . simp [h4]
         . simp [h4]
       . simp [h2, h3]
 . rw [if_neg hk, Jq6]
   have h0 : ¬ Jf0 c 0 s := fun ⟨i, _, h, _⟩ => by omega
   simp only [hk, false_and, if_false, h0, and_false]
   by_cases h1 : s = old
   . rw [if_pos h1, if_pos h1]
   . rw [if_neg h1, if_neg h1]
theorem Jxi {ps : List Part} {p : Part} : (putN ps p).length = if p.name ∈ ps.map (·.name) then ps.length else ps.length + 1 := by
 induction ps with
 | nil => rfl
 | cons q ps ih =>
   rw [putN]
   by_cases h : q.name = p.name
   . rw [if_pos h, if_pos (by simp [h])]; rfl
   . rw [if_neg h, List.length_cons, ih]
     by_cases h2 : p.name ∈ ps.map (·.name)
     . rw [if_pos h2, if_pos (by rw [List.map_cons]; exact List.mem_cons_of_mem _ h2)]; rfl
     . rw [if_neg h2, if_neg (by rw [List.map_cons, List.mem_cons, not_or]; exact ⟨fun e => h e.symm, h2⟩)]; rfl
theorem Jk6 : ∀ {l ps : List Part}, (addN ps l).length <= ps.length + l.length
 | [], ps => Nat.le_refl _
 | p :: l, ps => by
   have h := @Jk6 l (putN ps p)
   have h2 := @Jxi ps p
   show (addN (putN ps p) l).length <= _
   rw [List.length_cons]
   split at h2 <;> omega
theorem Jn7 : ∀ {l ps : List Part}, ¬ ((ps ++ l).map (·.name)).Nodup -> (ps.map (·.name)).Nodup -> (addN ps l).length < ps.length + l.length
 | [], ps, h, h2 => absurd (by simpa using h2) h
 | p :: l, ps, h, h2 => by
   show (addN (putN ps p) l).length < _
   by_cases hp : p.name ∈ ps.map (·.name)
   . have h3 := @Jk6 l (putN ps p)
     rw [Jxi, if_pos hp] at h3
     rw [List.length_cons]; omega
   . have hn : ((ps ++ [p]).map (·.name)).Nodup := by
       rw [List.map_append, List.nodup_append]
       exact ⟨h2, by simp, fun a ha b hb e => by simp at hb; subst hb; subst e; exact hp ha⟩
     rw [Jqd hp]
     have := @Jn7 l (ps ++ [p]) (by simpa using h) hn
     simp at this ⊢
     omega
theorem Jxv {c : Circuit} (h : Jac c = 0) {f : Txt -> Txt} (hn : ((c.parts.map (Ja7 f)).map (·.name)).Nodup) : ((mapD f (drfC c)).pipes.map ordX).Nodup := by
 have hinj : ∀ s ∈ c.parts.map (·.name), ∀ t ∈ c.parts.map (·.name), f s = f t -> s = t := by
   intro s hs t ht e
   obtain ⟨i, hi⟩ := List.mem_iff_getElem?.1 hs
   obtain ⟨j, hj⟩ := List.mem_iff_getElem?.1 ht
   have e1 : ((c.parts.map (Ja7 f)).map (·.name))[i]? = some (f s) := by
     rw [List.getElem?_map] at hi
     obtain ⟨p, hp, rfl⟩ := Option.map_eq_some_iff.1 hi
     rw [List.getElem?_map, List.getElem?_map, hp]; rfl
   have e2 : ((c.parts.map (Ja7 f)).map (·.name))[j]? = some (f s) := by
     rw [List.getElem?_map] at hj
     obtain ⟨p, hp, rfl⟩ := Option.map_eq_some_iff.1 hj
     rw [List.getElem?_map, List.getElem?_map, hp, e]; rfl
   have := Jj5 hn e1 e2
   subst this
   rw [hi] at hj; cases hj; rfl
 have hends := (Jfy h).ends
 have h0 := Je2 h
 show (((drfC c).pipes.map fun x => (Jba f x.1, Jba f x.2)).map ordX).Nodup
 rw [List.map_map]
 refine List.pairwise_map.2 ((List.pairwise_map.1 h0).imp_of_mem fun {x y} hx hy hne e => hne ?_)
 have hx2 := hends x hx
 have hy2 := hends y hy
 have em : ∀ {a b : End}, a.part ∈ c.parts.map (·.name) -> b.part ∈ c.parts.map (·.name) -> Jba f a = Jba f b -> a = b := fun {a b} ha hb e => by
   obtain ⟨s, t⟩ := a; obtain ⟨u, v⟩ := b
   simp only [Jba, End.mk.injEq] at e
   have e1 : s = u := hinj _ ha _ hb e.1
   rw [e1, e.2]
 have e : ordE (Jba f x.1) (Jba f x.2) = ordE (Jba f y.1) (Jba f y.2) := e
 show ordE x.1 x.2 = ordE y.1 y.2
 rw [Jin] at e ⊢
 rcases e with ⟨h1, h2⟩ | ⟨h1, h2⟩
 . exact .inl ⟨em hx2.1 hy2.1 h1, em hx2.2 hy2.2 h2⟩
 . exact .inr ⟨em hx2.1 hy2.2 h1, em hx2.2 hy2.1 h2⟩
end Go.Am
namespace Go.Am
open Go Go.Proofs Go.Pn
@[simp] theorem Kjr : Jd8 Tryz.prog 9 = some false := by kernel_rfl
set_option maxRecDepth 20000 in
theorem Jh7 (es : List (AV × AV)) (h : OkT es) (t : Txt) (s : Store) (nx b m : Nat) (hnd : [b, m].Nodup) (hlt : ∀ x ∈ [b, m], x < nx) (g0 : get s b = some (.cells 1 [[.map m]])) (g1 : get s m = some (.map es)) :
   Gives Tryz.prog GL 81 [.p (.str t), .ptr b 1 0 0] s nx (.p (.str (rnT es t))) [b, m] [] nx := by
 have hr := Jet h
 refine Gives.mk_walkK (N := 15) (args := [.p (.str t), .ptr 0 1 0 0]) [b, m] [] [(0, some (.cells 1 [[.map 1]])), (1, some (.map es))] [] 2 0 (.p (.str (rnT es t))) (fun _ => []) (up1 := []) Tryz.func81 rfl rfl rfl (by simp) rfl ?_ (by simp) (by simp) (by simp) (by simp) rfl ?_
 . refine ⟨?_, rfl, hnd, hlt, rfl⟩
   simp [g0, g1, hr]
 have hk := Jmr h t
 rcases J6l h t with ⟨h1, h2⟩ | ⟨u, h1, h2⟩
 . simp [hk, h1, h2, hit, hr, zeroV]
 . simp [hk, h1, h2, hit, hr]
noncomputable def rnP (es : List (AV × AV)) (l : List Part) : List Part := addN [] (l.map (Ja7 (rnT es)))
theorem Jxw {es : List (AV × AV)} {l : List Part} {k : Nat} {p : Part} (e : l[k]? = some p) : rnP es (l.take (k + 1)) = putN (rnP es (l.take k)) (Ja7 (rnT es) p) := by
 unfold rnP; rw [take_snoc e, List.map_append]; unfold addN; rw [List.foldl_append]; rfl
def mapX (f : Txt -> Txt) (c : Circuit) (x : Pipe) : EndP := ordX (Jba f (Jam c x.fr), Jba f (Jam c x.to))
noncomputable def rnX (es : List (AV × AV)) (c : Circuit) (k : Nat) : List EndP := addX [] ((c.pipes.take k).map (mapX (rnT es) c))
theorem Jxy {es : List (AV × AV)} {c : Circuit} {k : Nat} {x : Pipe} (e : c.pipes[k]? = some x) : rnX es c (k + 1) = insX (rnX es c k) (mapX (rnT es) c x) := by
 unfold rnX; rw [take_snoc e, List.map_append]; unfold addX; rw [List.foldl_append]; rfl
theorem Jyw {es : List (AV × AV)} {old new : Txt} {p : Part} {k : Txt} (h6 : p.kind = 6) (h7 : p.name = old ++ k) : Jc3 es old new p k = setA es (.p (.str (old ++ k))) (.p (.str (new ++ k))) := by
 unfold Jc3; rw [if_pos ⟨h6, h7⟩, h7]
set_option maxRecDepth 20000 in
theorem Jlk (c : Circuit) (old new : Txt) (hs : Sized c) (ho : old.length < 1000000000000000000) (hn : new.length < 1000000000000000000) : Pure Tryz.prog GL 21 [c.av, .p (.str old), .p (.str new)] (.tup [(rnmC c old new).av, .p (.int .i64 (rnmE c old new))]) := by
 refine Pure.of_walk (N := 152) Tryz.func21 rfl rfl rfl (by simp) (by first | (simp; done) | simp [*]) ?_
 simp
 refine Jab (Jlh c old hs) ?_
 rw [<- Jbx]
 by_cases h : Jac c = 0
 . have hpl := (Jb1 h).2.1
   have hxl := (Jb1 h).2.2
   rcases Jir c old with e0 | ⟨i, q0, e0, e1, e2⟩
   . have hE : rnmE c old new = 6 := by unfold rnmE; rw [h, e0]; rfl
     have hC : rnmC c old new = noC := by unfold rnmC; rw [if_neg (by rw [hE]; decide)]
     simp [h, e0, Jaa, hE, hC, noC]
   have hi : i < c.parts.length := (gsI.1 e1).1
   have hka : Jb3 c (Jbx c old) = q0.kind := by unfold Jb3; rw [e0, Int.toNat_natCast, e1]; rfl
   have hi0 : ¬ (i : Int) < 0 := by omega
   simp [h, e0, hi0]
   simp [hi, e1, -getElem?_pos, List.getElem?_cons_zero, List.getElem?_cons_succ]
   have hk0 : Jcl Tryz.prog 9 [] (.p (.str old)) = True := Jmr (fun e he => by cases he) old
   have hm0 : setA [] (.p (.str old)) (.p (.str new)) = toM c old new 0 := rfl
   by_cases hk : q0.kind = 1
   . simp [hk, hk0]
     rw [hm0]
     refine Jai.go [1, 2, 3, 6, 10, 47, 48] [0, 1, 3] 0 [] (fun _ => []) (fun _ (k : Nat) => [(49, .p (.int .i64 k))]) (fun _ k => [(2, some (.map (toM c old new k)))]) (fun k => k <= c.parts.length) (fun k => c.parts.length - k) 0 (by omega) ?_ ?_
     . simp [Jet (Jf5 _)]
       decide
     intro k hk2
     simp
     refine Jad (fun h3 => ?_) (fun h3 => ?_)
     . simp at h3
       obtain ⟨p, e⟩ := Jag h3
       simp [h3, e, -getElem?_pos, List.getElem?_cons_zero, List.getElem?_cons_succ]
       refine Jai.go [1, 2, 3, 6, 10, 12, 47, 48, 49, 53, 54] [0, 1, 3, 4] 0 [] (fun _ => []) (fun _ (n : Nat) => [(55, .p (.int .i64 n))]) (fun _ n => [(2, some (.map (Jdb (toM c old new k) old new p n))), (5, some (.cells 1 [[.p (.str [48])], [.p (.str [49])]]))]) (fun n => n <= 2) (fun n => 2 - n) 0 (by omega) ?_ ?_
       . simp [Jet (Jf5 _), Jdb]
         try decide
       intro n hn2
       simp
       refine Jad (fun h4 => ?_) (fun h4 => ?_)
       . simp at h4
         rcases (by omega : n = 0 \/ n = 1) with rfl | rfl
         ·
           have hT := Jil (Jf5 (c := c) (old := old) (new := new) k) (old := old) (new := new) (p := p) 0
           have hT2 := Jil (Jf5 (c := c) (old := old) (new := new) k) (old := old) (new := new) (p := p) 1
           by_cases h6 : p.kind = 6
           . by_cases h7 : p.name = old ++ [48]
             . have hst : setA (Jdb (toM c old new k) old new p 0) (.p (.str (old ++ [48]))) (.p (.str (new ++ [48]))) = Jdb (toM c old new k) old new p 1 := by
                 exact (Jyw h6 h7).symm
               have hky := Jmr hT (old ++ [48])
               simp [h6, h7, hky, hst]
               refine ⟨by omega, by omega, 1, by omega, by omega, by omega, ?_⟩
               simp [Jet hT2]
               try decide
             . have hst : Jdb (toM c old new k) old new p 1 = Jdb (toM c old new k) old new p 0 := by
                 show Jc3 _ old new p [48] = _
                 unfold Jc3; rw [if_neg (fun h => h7 h.2)]; rfl
               simp [h6, h7]
               refine ⟨by omega, 1, by omega, by omega, by omega, ?_⟩
               rw [hst]
               simp [Jet hT]
               try decide
           . have hst : Jdb (toM c old new k) old new p 1 = Jdb (toM c old new k) old new p 0 := by
               show Jc3 _ old new p [48] = _
               unfold Jc3; rw [if_neg (fun h => h6 h.1)]; rfl
             simp [h6]
             refine ⟨1, by omega, by omega, by omega, ?_⟩
             rw [hst]
             simp [Jet hT]
             try decide
         ·
           have hT := Jil (Jf5 (c := c) (old := old) (new := new) k) (old := old) (new := new) (p := p) 1
           have hT2 := Jil (Jf5 (c := c) (old := old) (new := new) k) (old := old) (new := new) (p := p) 2
           by_cases h6 : p.kind = 6
           . by_cases h7 : p.name = old ++ [49]
             . have hst : setA (Jdb (toM c old new k) old new p 1) (.p (.str (old ++ [49]))) (.p (.str (new ++ [49]))) = Jdb (toM c old new k) old new p 2 := by
                 exact (Jyw h6 h7).symm
               have hky := Jmr hT (old ++ [49])
               simp [h6, h7, hky, hst]
               refine ⟨by omega, by omega, 2, by omega, by omega, by omega, ?_⟩
               simp [Jet hT2]
               try decide
             . have hst : Jdb (toM c old new k) old new p 2 = Jdb (toM c old new k) old new p 1 := by
                 show Jc3 _ old new p [49] = _
                 unfold Jc3; rw [if_neg (fun h => h7 h.2)]; rfl
               simp [h6, h7]
               refine ⟨by omega, 2, by omega, by omega, by omega, ?_⟩
               rw [hst]
               simp [Jet hT]
               try decide
           . have hst : Jdb (toM c old new k) old new p 2 = Jdb (toM c old new k) old new p 1 := by
               show Jc3 _ old new p [49] = _
               unfold Jc3; rw [if_neg (fun h => h6 h.1)]; rfl
             simp [h6]
             refine ⟨2, by omega, by omega, by omega, ?_⟩
             rw [hst]
             simp [Jet hT]
             try decide
       simp at h4
       have hn3 : n = 2 := by omega
       subst hn3
       simp
       refine ⟨wrap_i64 (by omega) (by omega), k + 1, by omega, by omega, by omega, ?_⟩
       have hst : toM c old new (k + 1) = Jdb (toM c old new k) old new p 2 := by simp only [toM, e]
       rw [hst]
       simp [Jet (Jil (Jf5 _) _)]
       try decide
     simp at h3
     have hkl : k = c.parts.length := by omega
     subst hkl
     have hend : toM c old new c.parts.length = Jfn c old new := by unfold Jfn; rw [hka, hk]; rfl
     rw [hend]
     simp
     have hOk := @Jv9 c old new
     have hrn := fun s => @Jxx c h old new s
     generalize Jfn c old new = ES at hOk hrn
     have hre := Jet hOk
     refine Ja4 (Jh6 _ _) ?_
     simp
     refine Jai.go [3, 6, 15, 16, 81, 82] [0, 1, 2, 3, 5, 6] 0 [] (fun _ => []) (fun _ (k : Nat) => [(83, .p (.int .i64 k))]) (fun _ k => [(4, some (.map (Jav (rnP ES (c.parts.take k)))))]) (fun k => k <= c.parts.length) (fun k => c.parts.length - k) 0 (by omega) ?_ ?_
     . have : rnP ES (c.parts.take 0) = [] := by simp [rnP, addN]
       rw [this]
       simp [hre, Jav]
       try decide
     intro k hk2
     simp [hre]
     refine Jad (fun h3 => ?_) (fun h3 => ?_)
     . simp at h3
       obtain ⟨p, e⟩ := Jag h3
       simp [h3, e, hre, -getElem?_pos, List.getElem?_cons_zero, List.getElem?_cons_succ]
       refine Ja4 (Jh7 ES hOk p.name _ _ _ _ (by simp) (by simp) rfl rfl) ?_
       simp
       refine Jah.intro (by kernel_rfl) ?_
       simp
       refine ⟨.of (by kernel_rfl), wrap_i64 (by omega) (by omega), k + 1, by omega, by omega, by omega, ⟨?_, ?_⟩, by decide⟩
       . rw [Jxw e]
         exact Jkm (p := Ja7 (rnT ES) p)
       . simp [hre]
     simp at h3
     have hkl : k = c.parts.length := by omega
     subst hkl
     rw [List.take_length]
     have hRPe : rnP ES c.parts = addN [] (c.parts.map (Ja7 (Jak c old new))) := by
       unfold rnP
       have : rnT ES = Jak c old new := funext hrn
       rw [this]
     have hRl : (rnP ES c.parts).length <= c.parts.length := by
       rw [hRPe]
       have := @Jk6 (c.parts.map (Ja7 (Jak c old new))) []
       simpa using this
     simp [hre]
     refine Jah.intro (by kernel_rfl) ?_
     simp [hre]
     refine ⟨.of (by kernel_rfl), ?_⟩
     by_cases hnn : ((renD c old new).parts.map (·.name)).Nodup
     . have hRP : rnP ES c.parts = (renD c old new).parts := by
         rw [hRPe]
         have := Jn8 (ps := []) (l := c.parts.map (Ja7 (Jak c old new))) (by simpa [renD, mapD, drfC] using hnn)
         simpa [renD, mapD, drfC] using this
       have hRl2 : (rnP ES c.parts).length = c.parts.length := by rw [hRP]; exact List.length_map ..
       rw [hRl2]
       simp
       rw [hRP]
       refine Jai.go [3, 6, 15, 16, 111, 112] [0, 1, 2, 3, 4, 6] 0 [] (fun _ => []) (fun _ (k : Nat) => [(113, .p (.int .i64 k))]) (fun _ k => [(5, some (.map (Jay (rnX ES c k))))]) (fun k => k <= c.pipes.length) (fun k => c.pipes.length - k) 0 (by omega) ?_ ?_
       . have : rnX ES c 0 = [] := by simp [rnX, addX]
         rw [this]
         simp [hre, Jay]
         try decide
       intro k hk2
       simp [hre]
       refine Jad (fun h3 => ?_) (fun h3 => ?_)
       . simp at h3
         obtain ⟨x, e⟩ := Jag h3
         have hxm := List.mem_of_getElem? e
         obtain ⟨g1, g2, _⟩ := Jeh h hxm
         obtain ⟨y1, f1, z1, _⟩ := Jc8.1 g1
         obtain ⟨y2, f2, z2, _⟩ := Jc8.1 g2
         have l1 := (gsI.1 f1).1
         have l2 := (gsI.1 f2).1
         simp [h3, e, hre, -getElem?_pos, List.getElem?_cons_zero, List.getElem?_cons_succ]
         refine Jah.intro (by kernel_rfl) ?_
         simp
         refine Jab (Jhz c x.fr z1 l1) ?_
         simp
         refine Jab (Jhz c x.to z2 l2) ?_
         simp
         refine ⟨.of (by kernel_rfl), Jah.intro (by kernel_rfl) ?_⟩
         simp
         refine Ja4 (Jh7 ES hOk (Jam c x.fr).part _ _ _ _ (by simp) (by simp) rfl rfl) ?_
         simp
         refine Ja4 (Jh7 ES hOk (Jam c x.to).part _ _ _ _ (by simp) (by simp) rfl rfl) ?_
         simp
         refine ⟨.of (by kernel_rfl), Jah.intro (by kernel_rfl) ?_⟩
         simp
         refine Jab (Jll (Jba (rnT ES) (Jam c x.fr)) (Jba (rnT ES) (Jam c x.to))) ?_
         simp
         refine ⟨.of (by kernel_rfl), wrap_i64 (by omega) (by omega), k + 1, by omega, by omega, by omega, ?_⟩
         rw [Jxy e]
         simp [hre, mapX, ordX]
         try decide
       simp at h3
       have hkl : k = c.pipes.length := by omega
       subst hkl
       have hren : (renD c old new).pipes.map ordX = c.pipes.map (mapX (rnT ES) c) := by
         have : rnT ES = Jak c old new := funext hrn
         rw [this]
         unfold renD mapD drfC
         simp only [List.map_map]
         rfl
       have hnx : ((renD c old new).pipes.map ordX).Nodup := Jxv h (f := Jak c old new) hnn
       have hXe : rnX ES c c.pipes.length = (renD c old new).pipes.map ordX := by
         unfold rnX
         rw [List.take_length, <- hren]
         have := Jhv (xs := []) (l := (renD c old new).pipes.map ordX) (us := []) (by simpa using hnx) (by simp)
         rw [List.nil_append] at this
         rw [this, List.nil_append]
         exact List.filter_eq_self.2 fun x _ => by simp
       have hDo : DrfOk (renD c old new) := by
         refine ⟨hnn, fun x hx => ?_⟩
         obtain ⟨y, hy, rfl⟩ := List.mem_map.1 hx
         obtain ⟨g1, g2⟩ := (Jfy h).ends y hy
         obtain ⟨p1, hp1, e1⟩ := List.mem_map.1 g1
         obtain ⟨p2, hp2, e2⟩ := List.mem_map.1 g2
         refine ⟨List.mem_map.2 ⟨Ja7 (Jak c old new) p1, List.mem_map_of_mem hp1, ?_⟩, List.mem_map.2 ⟨Ja7 (Jak c old new) p2, List.mem_map_of_mem hp2, ?_⟩⟩
         . show Jak c old new p1.name = Jak c old new y.1.part
           rw [e1]
         . show Jak c old new p2.name = Jak c old new y.2.part
           rw [e2]
       have hdr : Jdo ⟨(renD c old new).parts, (renD c old new).pipes.map ordX⟩ = Jan (renD c old new) := Jow hDo rfl rfl
       have hxl2 : ((renD c old new).pipes.map ordX).length <= 2000 := by rw [hren, List.length_map]; omega
       have hrpl : (renD c old new).parts.length = c.parts.length := List.length_map ..
       rw [hXe]
       simp
       refine Ja4 (Jjx _ _ hnn hnx (by omega) hxl2 _ _ _ _ _ (by simp) (by simp) rfl rfl rfl) ?_
       rw [hdr]
       have hsz : Sized (Jan (renD c old new)) := by
         refine ⟨?_, ?_, fun p hp => ?_⟩
         . rw [(Jew hDo).length_eq, hrpl]; omega
         . rw [<- hdr]; show ((Jar Ja2 _).map _).length < _; rw [List.length_map, Je4]; show ((renD c old new).pipes.map ordX).length < _; omega
         . have hp2 := (Jew hDo).mem_iff.1 hp
           obtain ⟨q, hq, rfl⟩ := List.mem_map.1 hp2
           show (Jak c old new q.name).length < _
           have := hs.names q hq
           have h24 := (Jey (Jda (Jdg h hq)).2.1).2.2
           unfold Jak
           split
           . omega
           . split
             . simp; omega
             . split
               . simp; omega
               . omega
       have hE : rnmE c old new = Jac (Jan (renD c old new)) := by unfold rnmE; rw [h, if_neg (by simp), if_neg (by omega), if_neg (by simpa using hnn)]
       generalize hSR : Jan (renD c old new) = SR' at hsz hE ⊢
       simp
       refine Jab (Jea SR' hsz) ?_
       by_cases hcs : Jac SR' = 0
       . have hC : rnmC c old new = SR' := by unfold rnmC; rw [if_pos (hE.trans hcs), hSR]
         simp [hcs, Jaa, hE, hC]
       . have hC : rnmC c old new = noC := by unfold rnmC; rw [if_neg (by rw [hE]; exact hcs)]
         simp [hcs, Jaa, hE, hC, noC]
     . have hlt : (rnP ES c.parts).length < c.parts.length := by
         rw [hRPe]
         have := Jn7 (ps := []) (l := c.parts.map (Ja7 (Jak c old new))) (by simpa [renD, mapD, drfC] using hnn) List.nodup_nil
         simpa using this
       have hE : rnmE c old new = 7 := by unfold rnmE; rw [h, if_neg (by simp), if_neg (by omega), if_pos hnn]
       have hC : rnmC c old new = noC := by unfold rnmC; rw [if_neg (by rw [hE]; decide)]
       simp [hlt, Jaa, hE, hC, noC]
   . simp [hk, hk0]
     have hend : toM c old new 0 = Jfn c old new := by unfold Jfn; rw [hka, if_neg hk]
     rw [hm0, hend]
     have hOk := @Jv9 c old new
     have hrn := fun s => @Jxx c h old new s
     generalize Jfn c old new = ES at hOk hrn
     have hre := Jet hOk
     refine Ja4 (Jh6 _ _) ?_
     simp
     refine Jai.go [3, 6, 15, 16, 81, 82] [0, 1, 2, 3, 5, 6] 0 [] (fun _ => []) (fun _ (k : Nat) => [(83, .p (.int .i64 k))]) (fun _ k => [(4, some (.map (Jav (rnP ES (c.parts.take k)))))]) (fun k => k <= c.parts.length) (fun k => c.parts.length - k) 0 (by omega) ?_ ?_
     . have : rnP ES (c.parts.take 0) = [] := by simp [rnP, addN]
       rw [this]
       simp [hre, Jav]
       try decide
     intro k hk2
     simp [hre]
     refine Jad (fun h3 => ?_) (fun h3 => ?_)
     . simp at h3
       obtain ⟨p, e⟩ := Jag h3
       simp [h3, e, hre, -getElem?_pos, List.getElem?_cons_zero, List.getElem?_cons_succ]
       refine Ja4 (Jh7 ES hOk p.name _ _ _ _ (by simp) (by simp) rfl rfl) ?_
       simp
       refine Jah.intro (by kernel_rfl) ?_
       simp
       refine ⟨.of (by kernel_rfl), wrap_i64 (by omega) (by omega), k + 1, by omega, by omega, by omega, ⟨?_, ?_⟩, by decide⟩
       . rw [Jxw e]
         exact Jkm (p := Ja7 (rnT ES) p)
       . simp [hre]
     simp at h3
     have hkl : k = c.parts.length := by omega
     subst hkl
     rw [List.take_length]
     have hRPe : rnP ES c.parts = addN [] (c.parts.map (Ja7 (Jak c old new))) := by
       unfold rnP
       have : rnT ES = Jak c old new := funext hrn
       rw [this]
     have hRl : (rnP ES c.parts).length <= c.parts.length := by
       rw [hRPe]
       have := @Jk6 (c.parts.map (Ja7 (Jak c old new))) []
       simpa using this
     simp [hre]
     refine Jah.intro (by kernel_rfl) ?_
     simp [hre]
     refine ⟨.of (by kernel_rfl), ?_⟩
     by_cases hnn : ((renD c old new).parts.map (·.name)).Nodup
     . have hRP : rnP ES c.parts = (renD c old new).parts := by
         rw [hRPe]
         have := Jn8 (ps := []) (l := c.parts.map (Ja7 (Jak c old new))) (by simpa [renD, mapD, drfC] using hnn)
         simpa [renD, mapD, drfC] using this
       have hRl2 : (rnP ES c.parts).length = c.parts.length := by rw [hRP]; exact List.length_map ..
       rw [hRl2]
       simp
       rw [hRP]
       refine Jai.go [3, 6, 15, 16, 111, 112] [0, 1, 2, 3, 4, 6] 0 [] (fun _ => []) (fun _ (k : Nat) => [(113, .p (.int .i64 k))]) (fun _ k => [(5, some (.map (Jay (rnX ES c k))))]) (fun k => k <= c.pipes.length) (fun k => c.pipes.length - k) 0 (by omega) ?_ ?_
       . have : rnX ES c 0 = [] := by simp [rnX, addX]
         rw [this]
         simp [hre, Jay]
         try decide
       intro k hk2
       simp [hre]
       refine Jad (fun h3 => ?_) (fun h3 => ?_)
       . simp at h3
         obtain ⟨x, e⟩ := Jag h3
         have hxm := List.mem_of_getElem? e
         obtain ⟨g1, g2, _⟩ := Jeh h hxm
         obtain ⟨y1, f1, z1, _⟩ := Jc8.1 g1
         obtain ⟨y2, f2, z2, _⟩ := Jc8.1 g2
         have l1 := (gsI.1 f1).1
         have l2 := (gsI.1 f2).1
         simp [h3, e, hre, -getElem?_pos, List.getElem?_cons_zero, List.getElem?_cons_succ]
         refine Jah.intro (by kernel_rfl) ?_
         simp
         refine Jab (Jhz c x.fr z1 l1) ?_
         simp
         refine Jab (Jhz c x.to z2 l2) ?_
         simp
         refine ⟨.of (by kernel_rfl), Jah.intro (by kernel_rfl) ?_⟩
         simp
         refine Ja4 (Jh7 ES hOk (Jam c x.fr).part _ _ _ _ (by simp) (by simp) rfl rfl) ?_
         simp
         refine Ja4 (Jh7 ES hOk (Jam c x.to).part _ _ _ _ (by simp) (by simp) rfl rfl) ?_
         simp
         refine ⟨.of (by kernel_rfl), Jah.intro (by kernel_rfl) ?_⟩
         simp
         refine Jab (Jll (Jba (rnT ES) (Jam c x.fr)) (Jba (rnT ES) (Jam c x.to))) ?_
         simp
         refine ⟨.of (by kernel_rfl), wrap_i64 (by omega) (by omega), k + 1, by omega, by omega, by omega, ?_⟩
         rw [Jxy e]
         simp [hre, mapX, ordX]
         try decide
       simp at h3
       have hkl : k = c.pipes.length := by omega
       subst hkl
       have hren : (renD c old new).pipes.map ordX = c.pipes.map (mapX (rnT ES) c) := by
         have : rnT ES = Jak c old new := funext hrn
         rw [this]
         unfold renD mapD drfC
         simp only [List.map_map]
         rfl
       have hnx : ((renD c old new).pipes.map ordX).Nodup := Jxv h (f := Jak c old new) hnn
       have hXe : rnX ES c c.pipes.length = (renD c old new).pipes.map ordX := by
         unfold rnX
         rw [List.take_length, <- hren]
         have := Jhv (xs := []) (l := (renD c old new).pipes.map ordX) (us := []) (by simpa using hnx) (by simp)
         rw [List.nil_append] at this
         rw [this, List.nil_append]
         exact List.filter_eq_self.2 fun x _ => by simp
       have hDo : DrfOk (renD c old new) := by
         refine ⟨hnn, fun x hx => ?_⟩
         obtain ⟨y, hy, rfl⟩ := List.mem_map.1 hx
         obtain ⟨g1, g2⟩ := (Jfy h).ends y hy
         obtain ⟨p1, hp1, e1⟩ := List.mem_map.1 g1
         obtain ⟨p2, hp2, e2⟩ := List.mem_map.1 g2
         refine ⟨List.mem_map.2 ⟨Ja7 (Jak c old new) p1, List.mem_map_of_mem hp1, ?_⟩, List.mem_map.2 ⟨Ja7 (Jak c old new) p2, List.mem_map_of_mem hp2, ?_⟩⟩
         . show Jak c old new p1.name = Jak c old new y.1.part
           rw [e1]
         . show Jak c old new p2.name = Jak c old new y.2.part
           rw [e2]
       have hdr : Jdo ⟨(renD c old new).parts, (renD c old new).pipes.map ordX⟩ = Jan (renD c old new) := Jow hDo rfl rfl
       have hxl2 : ((renD c old new).pipes.map ordX).length <= 2000 := by rw [hren, List.length_map]; omega
       have hrpl : (renD c old new).parts.length = c.parts.length := List.length_map ..
       rw [hXe]
       simp
       refine Ja4 (Jjx _ _ hnn hnx (by omega) hxl2 _ _ _ _ _ (by simp) (by simp) rfl rfl rfl) ?_
       rw [hdr]
       have hsz : Sized (Jan (renD c old new)) := by
         refine ⟨?_, ?_, fun p hp => ?_⟩
         . rw [(Jew hDo).length_eq, hrpl]; omega
         . rw [<- hdr]; show ((Jar Ja2 _).map _).length < _; rw [List.length_map, Je4]; show ((renD c old new).pipes.map ordX).length < _; omega
         . have hp2 := (Jew hDo).mem_iff.1 hp
           obtain ⟨q, hq, rfl⟩ := List.mem_map.1 hp2
           show (Jak c old new q.name).length < _
           have := hs.names q hq
           have h24 := (Jey (Jda (Jdg h hq)).2.1).2.2
           unfold Jak
           split
           . omega
           . split
             . simp; omega
             . split
               . simp; omega
               . omega
       have hE : rnmE c old new = Jac (Jan (renD c old new)) := by unfold rnmE; rw [h, if_neg (by simp), if_neg (by omega), if_neg (by simpa using hnn)]
       generalize hSR : Jan (renD c old new) = SR' at hsz hE ⊢
       simp
       refine Jab (Jea SR' hsz) ?_
       by_cases hcs : Jac SR' = 0
       . have hC : rnmC c old new = SR' := by unfold rnmC; rw [if_pos (hE.trans hcs), hSR]
         simp [hcs, Jaa, hE, hC]
       . have hC : rnmC c old new = noC := by unfold rnmC; rw [if_neg (by rw [hE]; exact hcs)]
         simp [hcs, Jaa, hE, hC, noC]
     . have hlt : (rnP ES c.parts).length < c.parts.length := by
         rw [hRPe]
         have := Jn7 (ps := []) (l := c.parts.map (Ja7 (Jak c old new))) (by simpa [renD, mapD, drfC] using hnn) List.nodup_nil
         simpa using this
       have hE : rnmE c old new = 7 := by unfold rnmE; rw [h, if_neg (by simp), if_neg (by omega), if_pos hnn]
       have hC : rnmC c old new = noC := by unfold rnmC; rw [if_neg (by rw [hE]; decide)]
       simp [hlt, Jaa, hE, hC, noC]
 . have hE : rnmE c old new = Jac c := if_pos h
   have hC : rnmC c old new = noC := by unfold rnmC; rw [if_neg (by rw [hE]; exact h)]
   simp [h, Jaa, hE, hC, noC]
end Go.Am
