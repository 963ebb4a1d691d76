/- Lemmas and contracts for the proof of a statement of this seat. -/
import Derived.Test.YtmfjjncfdpejiaaGreatDoorZN5
import Derived.Test.YtmfjjncfdpejiaaGreatDoorZN4
import Derived.Test.YtmfjjncfdpejiaaGreatDoorZA7
import Derived.Test.YtmfjjncfdpejiaaGreatDoorZN1
set_option linter.unusedVariables false
set_option linter.unusedSimpArgs false
namespace Go.Am
open Go Go.Proofs Go.Pn
def pKs (ps : List Part) : List AV := ps.map fun p => .p (.str p.name)
def pVs (ps : List Part) : List AV := ps.map Part.av
def xKs (xs : List EndP) : List AV := xs.map EndP.av
def xVs (xs : List EndP) : List AV := xs.map fun _ => .p (.bool true)
theorem Jty {ps : List Part} : (pKs ps).zip (pVs ps) = Jas ps := by
 induction ps with
 | nil => rfl
 | cons p ps ih => simpa [pKs, pVs, Jas] using ih
theorem J68 {xs : List EndP} : (xKs xs).zip (xVs xs) = Jaw xs := by
 induction xs with
 | nil => rfl
 | cons p ps ih => simpa [xKs, xVs, Jaw] using ih
theorem J33 {ps : List Part} (h : (ps.map (·.name)).Nodup) : (pKs ps).Nodup :=
 List.pairwise_map.2 ((List.pairwise_map.1 h).imp fun h1 h2 => h1 (by simpa using h2))
theorem J67 {xs : List EndP} (h : xs.Nodup) : (xKs xs).Nodup :=
 List.pairwise_map.2 (h.imp fun h1 h2 => h1 (Jm2 h2))
theorem Jz8 {ps : List Part} {xs : List EndP} (hp : (ps.map (·.name)).Nodup) (hx : xs.Nodup) (t : Jao) :
   Freeze [1, 2] ⟨t, [(0, some (.cells 2 [[.map 1, .map 2]])), (1, some (.map (Jas ps))), (2, some (.map (Jaw xs)))], 3⟩
     ⟨t, [(1, none), (2, none), (0, some (.cells 2 [[.pmap (pKs ps) (pVs ps), .pmap (xKs xs) (xVs xs)]])), (0, some (.cells 2 [[.map 1, .map 2]])), (1, some (.map (Jas ps))), (2, some (.map (Jaw xs)))], 3⟩ := by
 refine Freeze.of (B := [1, 2]) (st' := ⟨t, [(0, some (.cells 2 [[.map 1, .map 2]])), (1, some (.map (Jas ps))), (2, some (.map (Jaw xs)))], 3⟩) [] [(1, none), (2, none), (0, some (.cells 2 [[.pmap (pKs ps) (pVs ps), .pmap (xKs xs) (xVs xs)]]))] (by simp) ?_ (by simp [keys])
 intro p hp' x hx'
 simp only [List.mem_cons, List.not_mem_nil, or_false] at hp'
 rcases hp' with rfl | rfl | rfl
 . cases hx'
 . cases hx'
 . simp only [Option.some.injEq] at hx'
   subst hx'
   refine ⟨by simp, _, rfl, FrzB.two (.frz _ _ (.map 1 (Jas ps) _ _ (by simp) rfl ?_ (by simp [pKs, pVs]) (J33 hp) ?_)) (.frz _ _ (.map 2 (Jaw xs) _ _ (by simp) rfl ?_ (by simp [xKs, xVs]) (J67 hx) ?_))⟩
   . intro e he; obtain ⟨p, _, rfl⟩ := List.mem_map.1 he; exact ⟨rfl, rfl⟩
   . rw [Jty]
   . intro e he; obtain ⟨p, _, rfl⟩ := List.mem_map.1 he; exact ⟨rfl, rfl⟩
   . rw [J68]
def Jb8 {α : Type} (l : List α) (seen : List Nat) : List α := seen.filterMap fun i => l[i]?
theorem Jto {α : Type} {l : List α} {seen : List Nat} {n : Nat} {x : α} (e : l[n]? = some x) : Jb8 l (seen ++ [n]) = Jb8 l seen ++ [x] := by
 simp [Jb8, List.filterMap_append, e]
theorem Jk9 {α : Type} {l : List α} {seen : List Nat} (h : ∀ n ∈ seen, n < l.length) : (Jb8 l seen).length = seen.length := by
 induction seen with
 | nil => rfl
 | cons n seen ih =>
   have hn := h n (by simp)
   have := ih fun m hm => h m (by simp [hm])
   unfold Jb8 at this ⊢
   rw [List.filterMap_cons, List.getElem?_eq_getElem hn]
   simp [this]
theorem Jtn {α : Type} : ∀ {l : List α}, Jb8 l (List.range l.length) = l
 | [] => rfl
 | x :: l => by
   have ih := @Jtn α l
   unfold Jb8 at ih ⊢
   rw [List.length_cons, List.range_succ_eq_map, List.filterMap_cons, List.filterMap_map]
   simp only [List.getElem?_cons_zero]
   congr 1
theorem Jtm {α : Type} {l : List α} {seen : List Nat} (hn : seen.Nodup) (hl : ∀ n ∈ seen, n < l.length) (ha : ∀ i, i < l.length -> i ∈ seen) : (Jb8 l seen).Perm l := by
 have h1 : seen.Perm (List.range l.length) := by
   rw [List.perm_ext_iff_of_nodup hn List.nodup_range]
   intro i
   rw [List.mem_range]
   exact ⟨hl i, ha i⟩
 have h2 := h1.filterMap fun i => l[i]?
 exact h2.trans (by rw [show (List.range l.length).filterMap (fun i => l[i]?) = l from Jtn])
theorem Jrn {α β : Type} {f : α -> β} {l : List α} {n : Nat} {y : β} (h : (l.map f)[n]? = some y) : ∃ x, l[n]? = some x /\ f x = y := by
 rw [List.getElem?_map, Option.map_eq_some_iff] at h; exact h
@[simp] def Jia (b : Nat) (st : St) : Nat := match get st.s b with | some (.cells _ [x :: _]) => nameOf x | _ => 0
@[simp] def Jib (b : Nat) (st : St) : Nat := match get st.s b with | some (.cells _ [[_, x]]) => nameOf x | _ => 0
def atM (nms : List Txt) (k : Nat) : List (AV × AV) := (List.range k).map fun (i : Nat) => (.p (.str ((nms[i]?).getD [])), .p (.int .i64 (i : Int)))
@[simp] theorem J7v {nms : List Txt} {k : Nat} {s : Txt} : Jcy Tryz.prog 9 (atM nms k) (.p (.str s)) = True :=
 eq_true ⟨_, Jg7, ⟨_, rfl⟩, fun e he => by obtain ⟨p, _, rfl⟩ := List.mem_map.1 he; exact ⟨_, rfl⟩⟩
@[simp] theorem J8r {nms : List Txt} {k : Nat} {ρ : List Nat} : renE ρ (atM nms k) = some (atM nms k) :=
 Ji1 fun e he => by obtain ⟨p, _, rfl⟩ := List.mem_map.1 he; exact ⟨rfl, rfl⟩
theorem Juw {x v : AV} : ∀ {es : List (AV × AV)}, (∀ e ∈ es, e.1 ≠ x) -> setA es x v = es ++ [(x, v)]
 | [], _ => rfl
 | e :: es, h => by
   rw [setA, if_neg (h e (by simp)), Juw fun e he => h e (by simp [he])]; rfl
theorem Jir {α : Type} {l : List α} (h : l.Nodup) {i j : Nat} {x : α} (h1 : l[i]? = some x) (h2 : l[j]? = some x) : i = j := by
 obtain ⟨a, ha⟩ := gsI.1 h1
 obtain ⟨b, hb⟩ := gsI.1 h2
 exact (List.getElem_inj h).1 (ha.trans hb.symm)
theorem Jml {nms : List Txt} (h : nms.Nodup) {k : Nat} {x : Txt} (e : nms[k]? = some x) : setA (atM nms k) (.p (.str x)) (.p (.int .i64 (k : Int))) = atM nms (k + 1) := by
 rw [Juw]
 . unfold atM; rw [List.range_succ, List.map_append]; simp [e]
 . intro y hy
   obtain ⟨i, hi, rfl⟩ := List.mem_map.1 hy
   have hi := List.mem_range.1 hi
   have hk := (gsI.1 e).1
   obtain ⟨z, ez⟩ := Jag (xs := nms) (k := i) (by omega)
   intro h2
   simp only [AV.p.injEq, PV.str.injEq, ez, Option.getD_some] at h2
   subst h2
   have := Jir h ez e
   omega
theorem Jwy {nms : List Txt} (h : nms.Nodup) {s : Txt} (hs : s ∈ nms) : Jaq (atM nms nms.length) (.p (.str s)) = some (.p (.int .i64 (atNm nms s))) := by
 obtain ⟨k, hk⟩ := List.mem_iff_getElem?.1 hs
 have hkl := (gsI.1 hk).1
 have e1 : atNm nms s = (k : Int) := by
   unfold atNm
   cases e : nms.findIdx? fun n => decide (n = s) with
   | none =>
     have := List.findIdx?_eq_none_iff.1 e s hs
     simp at this
   | some j =>
     obtain ⟨hj, h1, _⟩ := List.findIdx?_eq_some_iff_getElem.1 e
     have : nms[j]? = some s := by rw [List.getElem?_eq_getElem hj]; simpa using h1
     simp only [Jir h this hk]
 rw [e1]
 have key : ∀ n, k < n -> n <= nms.length -> Jaq (atM nms n) (.p (.str s)) = some (.p (.int .i64 (k : Int))) := by
   intro n
   induction n with
   | zero => intro h; omega
   | succ n ih =>
     intro h1 h2
     obtain ⟨z, ez⟩ := Jag (xs := nms) (k := n) (by omega)
     rw [<- Jml h ez, Jh6]
     by_cases hz : z = s
     . subst hz
       rw [if_pos rfl, Jir h ez hk]
     . rw [if_neg (by simpa using hz)]
       have : k ≠ n := fun e => hz (by subst e; rw [ez] at hk; simpa using hk)
       exact ih (by omega) (by omega)
 exact key _ hkl (Nat.le_refl _)
def Jfa (ps : List Part) (k : Nat) : List Part := ((Jav ps).take k).map (Jdr ps)
theorem J1x {ps : List Part} {k : Nat} (h : k <= (Jav ps).length) : (Jfa ps k).length = k := by simp [Jfa]; omega
theorem J1y {ps : List Part} {k : Nat} {x : Txt} (e : (Jav ps)[k]? = some x) : Jfa ps (k + 1) = Jfa ps k ++ [Jdr ps x] := by
 unfold Jfa; rw [take_snoc e, List.map_append]; rfl
theorem J1w {ps : List Part} : Jfa ps (Jav ps).length = (Jav ps).map (Jdr ps) := by unfold Jfa; rw [List.take_length]
def Jfb (nms : List Txt) (ys : List EndP) (k : Nat) : List Pipe := (ys.take k).map (Jc2 nms)
theorem J10 {nms : List Txt} {ys : List EndP} {k : Nat} (h : k <= ys.length) : (Jfb nms ys k).length = k := by simp [Jfb]; omega
theorem J11 {nms : List Txt} {ys : List EndP} {k : Nat} {x : EndP} (e : ys[k]? = some x) : Jfb nms ys (k + 1) = Jfb nms ys k ++ [Jc2 nms x] := by
 unfold Jfb; rw [take_snoc e, List.map_append]; rfl
theorem J1z {nms : List Txt} {ys : List EndP} : Jfb nms ys ys.length = ys.map (Jc2 nms) := by unfold Jfb; rw [List.take_length]
theorem Jwx {nms : List Txt} (h : nms.Nodup) {s : Txt} : hit false (.p (.int .i64 0)) (Jaq (atM nms nms.length) (.p (.str s))) = .p (.int .i64 (atNm nms s)) := by
 by_cases hs : s ∈ nms
 . rw [Jwy h hs]; rfl
 . have e1 : atNm nms s = 0 := by
     unfold atNm
     have : (nms.findIdx? fun n => decide (n = s)) = none := List.findIdx?_eq_none_iff.2 fun x hx => by
       rw [decide_eq_false_iff_not]; rintro rfl; exact hs hx
     rw [this]
   have e2 : ∀ k, k <= nms.length -> Jaq (atM nms k) (.p (.str s)) = none := by
     intro k
     induction k with
     | zero => intro _; rfl
     | succ k ih =>
       intro hk
       obtain ⟨z, ez⟩ := Jag (xs := nms) (k := k) (by omega)
       rw [<- Jml h ez, Jh6, if_neg, ih (by omega)]
       intro e
       simp only [AV.p.injEq, PV.str.injEq] at e
       subst e
       exact hs (List.mem_of_getElem? ez)
   rw [e2 _ (Nat.le_refl _), e1]; rfl
theorem Jq5 {ps : List Part} {s : Txt} (h : s ∈ ps.map (·.name)) : ∃ p, ps.find? (fun p => decide (p.name = s)) = some p := by
 cases e : ps.find? (fun p => decide (p.name = s)) with
 | some p => exact ⟨p, rfl⟩
 | none =>
   obtain ⟨p, hp, rfl⟩ := List.mem_map.1 h
   have := List.find?_eq_none.1 e p hp
   simp at this
set_option maxRecDepth 20000 in
theorem Jii (ps : List Part) (xs : List EndP) (hp : (ps.map (·.name)).Nodup) (hx : xs.Nodup) (hpl : ps.length <= 200) (hxl : xs.length <= 2000) (s : Store) (nx d m q : Nat) (hnd : [d, m, q].Nodup) (hlt : ∀ b ∈ [d, m, q], b < nx)
   (g0 : get s d = some (.cells 2 [[.map m, .map q]])) (g1 : get s m = some (.map (Jas ps))) (g2 : get s q = some (.map (Jaw xs))) :
   Gives Tryz.prog GL 70 [.ptr d 2 0 0] s nx (Jd5 ⟨ps, xs⟩).av [d, m, q] [(d, none), (m, none), (q, none)] nx := by
 refine Gives.of_walkFL (N := 98) (args := [.ptr 0 2 0 0]) (σ := [d, m, q]) (s0 := [(0, some (.cells 2 [[.map 1, .map 2]])), (1, some (.map (Jas ps))), (2, some (.map (Jaw xs)))]) (m := 3) _ Tryz.func70 rfl rfl rfl (by simp) rfl ?_ (by simp) rfl (Jz8 hp hx _).leads ?_
 . refine ⟨?_, rfl, hnd, hlt, rfl⟩
   simp [g0, g1, g2]
 simp
 refine Jah.go [0, 2, 3, 4, 18] [0, 3, 4, 5] 1 [7] (fun st => [nameOf (slot st.t 5)]) (fun n (seen : List Nat) => [(5, .acc n 1 seen.length)]) (fun n seen => [(6, some (.iter (pKs ps) (pVs ps) seen)), (n, accB 1 ((Jb8 (ps.map (·.name)) seen).map Txt.row))]) (fun seen => seen.Nodup /\ ∀ n ∈ seen, n < ps.length) (fun seen => ps.length - seen.length) [] ⟨List.nodup_nil, by simp⟩ ?_ ?_
 . simp [Jb8]
   decide
 rintro seen ⟨hsn, hsl⟩
 simp
 refine Jwd (fun n kk vv hn hk hv => ?_) (fun hall => ?_)
 . obtain ⟨p, ep, rfl⟩ := Jrn hk
   have hnl : n < ps.length := (gsI.1 ep).1
   have hsn2 : (seen ++ [n]).Nodup := by
     rw [List.nodup_append]
     exact ⟨hsn, by simp, fun a ha b hb e => hn (by simp at hb; rw [<- hb, <- e]; exact ha)⟩
   have hsl2 : ∀ m ∈ seen ++ [n], m < ps.length := fun m hm => by
     rcases List.mem_append.1 hm with hm | hm
     . exact hsl m hm
     . simp at hm; subst hm; exact hnl
   have hcn : seen.length + 1 <= ps.length := by
     have := Jnr (m := List.range ps.length) hsn2 (fun m hm => List.mem_range.2 (hsl2 m hm))
     simpa using this
   have hpk : Jb8 (ps.map (·.name)) (seen ++ [n]) = Jb8 (ps.map (·.name)) seen ++ [p.name] := Jto (by rw [List.getElem?_map, ep]; rfl)
   have hpl2 := @Jk9 _ (ps.map (·.name)) seen (fun m hm => by rw [List.length_map]; exact hsl m hm)
   have hv2 : (pVs ps)[n]? = some p.av := by unfold pVs; rw [List.getElem?_map, ep]; rfl
   simp [hk, hv2]
   refine ⟨by omega, hpl2, seen ++ [n], ⟨hsn2, hsl2⟩, by simp; omega, by simp, ?_⟩
   simp [hpk]
   decide
 have hpm := Jtm hsn (l := ps.map (·.name)) (fun n hn => by rw [List.length_map]; exact hsl n hn) (fun i hi => hall i (by simpa [pKs] using hi))
 have hnm : Jar Op.bytesLess (Jb8 (ps.map (·.name)) seen) = Jav ps := Jrx Jho hpm
 have hln : seen.length = (Jb8 (ps.map (·.name)) seen).length := (Jk9 fun n hn => by rw [List.length_map]; exact hsl n hn).symm
 have hsp : seen.length <= ps.length := by rw [hln, hpm.length_eq, List.length_map]; exact Nat.le_refl _
 simp
 rw [hln]
 refine Ja4 (J0h _ _ _ _ (by simp) (by omega) (by simp)) ?_
 rw [hnm, <- hln]
 have hnl : (Jav ps).length = seen.length := by rw [hln, hpm.length_eq]; exact Jea
 have hnd2 : (Jav ps).Nodup := Je4.nodup_iff.2 hp
 simp
 rw [<- hnl]
 have hnps : (Jav ps).length <= 200 := by omega
 have hmem : ∀ s ∈ Jav ps, ∃ p, ps.find? (fun p => decide (p.name = s)) = some p := fun s hs => Jq5 (Jiq.1 hs)
 refine Jah.go [0, 2, 3, 4, 29, 30] [0, 3, 7] 1 [8] (fun st => [Jia 4 st]) (fun n (k : Nat) => [(31, .p (.int .i64 k))]) (fun n k => [(4, some (.cells 2 [[.acc n 3 k, .nils]])), (n, accB 3 ((Jfa ps k).map Part.row)), (5, some (.map (atM (Jav ps) k)))]) (fun k => k <= (Jav ps).length) (fun k => (Jav ps).length - k) 0 (by omega) ?_ ?_
 . simp [atM, Jfa]
   decide
 intro k hk
 have hpk := J1x hk
 simp
 refine Jac (fun h3 => ?_) (fun h3 => ?_)
 . simp at h3
   obtain ⟨x, e⟩ := Jag h3
   obtain ⟨p, ep⟩ := hmem x (List.mem_of_getElem? e)
   have hne : Jav ps ≠ [] := List.length_pos_iff.1 (by omega)
   have hset := Jml hnd2 e
   have hpn := J1y (ps := ps) e
   have hpx : Jdr ps x = p := by unfold Jdr; rw [ep]; rfl
   simp [h3, e, hne, hset, -getElem?_pos, List.getElem?_cons_zero, List.getElem?_cons_succ]
   refine Jai.intro (by kernel_rfl) ?_
   simp [Jty, ep, hit]
   refine ⟨by omega, hpk, .of (by kernel_rfl), wrap_i64 (by omega) (by omega), k + 1, by omega, by omega, by omega, ?_⟩
   rw [hpn, hpx]
   simp
   decide
 simp at h3
 have hkl : k = (Jav ps).length := by omega
 subst hkl
 rw [J1w] at hpk ⊢
 generalize hRP : (Jav ps).map (Jdr ps) = RP at hpk ⊢
 simp
 refine Jah.go [2, 3, 4, 55] [0, 3, 4, 5, 8] 1 [10] (fun st => [nameOf (slot st.t 9)]) (fun n (seen : List Nat) => [(9, .acc n 4 seen.length)]) (fun n seen => [(9, some (.iter (xKs xs) (xVs xs) seen)), (n, accB 4 ((Jb8 xs seen).map EndP.row))]) (fun seen => seen.Nodup /\ ∀ n ∈ seen, n < xs.length) (fun seen => xs.length - seen.length) [] ⟨List.nodup_nil, by simp⟩ ?_ ?_
 . simp [Jb8]
   decide
 clear hall hpm hnm hln hsl hsn hsp hnl seen
 rintro seen ⟨hsn, hsl⟩
 simp
 refine Jwd (fun n kk vv hn hk hv => ?_) (fun hall => ?_)
 . obtain ⟨x, ex, rfl⟩ := Jrn hk
   have hnl : n < xs.length := (gsI.1 ex).1
   have hsn2 : (seen ++ [n]).Nodup := by
     rw [List.nodup_append]
     exact ⟨hsn, by simp, fun a ha b hb e => hn (by simp at hb; rw [<- hb, <- e]; exact ha)⟩
   have hsl2 : ∀ m ∈ seen ++ [n], m < xs.length := fun m hm => by
     rcases List.mem_append.1 hm with hm | hm
     . exact hsl m hm
     . simp at hm; subst hm; exact hnl
   have hcn : seen.length + 1 <= xs.length := by
     have := Jnr (m := List.range xs.length) hsn2 (fun m hm => List.mem_range.2 (hsl2 m hm))
     simpa using this
   have hpk : Jb8 xs (seen ++ [n]) = Jb8 xs seen ++ [x] := Jto ex
   have hpl2 := @Jk9 _ xs seen hsl
   have hv2 : (xVs xs)[n]? = some (.p (.bool true)) := by unfold xVs; rw [List.getElem?_map, ex]; rfl
   simp [hk, hv2]
   refine ⟨by omega, hpl2, fun r a b _ e => by subst e; rfl, seen ++ [n], ⟨hsn2, hsl2⟩, by simp; omega, by simp, ?_⟩
   simp [hpk]
   decide
 have hpm := Jtm hsn (l := xs) hsl (fun i hi => hall i (by simpa [xKs] using hi))
 have hnm : Jar Ja6 (Jb8 xs seen) = Jar Ja6 xs := Jrx Jfe hpm
 have hln : seen.length = (Jb8 xs seen).length := (Jk9 hsl).symm
 have hsp : (Jb8 xs seen).length = xs.length := hpm.length_eq
 simp
 rw [hln]
 refine Ja4 (J0k _ _ _ _ (by simp) (by omega) (by simp)) ?_
 rw [hnm, hsp, <- @Jea _ Ja6 xs]
 have hyl : (Jar Ja6 xs).length <= 2000 := by rw [Jea]; exact hxl
 generalize hY : Jar Ja6 xs = ys at hyl
 simp
 refine Jah.go [2, 3, 4, 66, 67] [3, 5, 8, 10] 1 [11] (fun st => [Jib 4 st]) (fun n (k : Nat) => [(68, .p (.int .i64 k))]) (fun n k => [(4, some (.cells 2 [[.acc 8 3 (Jav ps).length, .acc n 4 k]])), (n, accB 4 ((Jfb (Jav ps) ys k).map Pipe.row))]) (fun k => k <= ys.length) (fun k => ys.length - k) 0 (by omega) ?_ ?_
 . simp [Jfb]
   decide
 intro k hk
 have hpk2 := J10 (nms := Jav ps) hk
 simp
 refine Jac (fun h3 => ?_) (fun h3 => ?_)
 . simp at h3
   obtain ⟨x, e⟩ := Jag h3
   have hne : ys ≠ [] := List.length_pos_iff.1 (by omega)
   have ha := fun s => Jwx hnd2 (s := s)
   have hpn := J11 (nms := Jav ps) e
   have hr : List.range 11 = [0, 1, 2, 3, 4, 5, 6, 7, 8, 9, 10] := rfl
   simp [h3, e, hne, ha, -getElem?_pos, List.getElem?_cons_zero, List.getElem?_cons_succ]
   refine ⟨by omega, hpk2, wrap_i64 (by omega) (by omega), k + 1, by omega, by omega, ?_⟩
   rw [hpn, hr]
   simp [Jc2]
   try decide
 simp at h3
 have hkl : k = ys.length := by omega
 subst hkl
 rw [J1z] at hpk2 ⊢
 generalize hXP : ys.map (Jc2 (Jav ps)) = XP at hpk2 ⊢
 have hdc : Jd5 ⟨ps, xs⟩ = ⟨RP, XP⟩ := by unfold Jd5; rw [<- hRP, <- hXP, <- hY]
 rw [hdc, <- hpk, <- hpk2]
 simp [Jaa]
end Go.Am
namespace Go.Am
open Go Go.Proofs Go.Pn
theorem J4e {ps : List Part} {p : Part} (h : (ps.map (·.name)).Nodup) (hp : p ∈ ps) : putN ps p = ps := by
 induction ps with
 | nil => cases hp
 | cons q ps ih =>
   rw [List.map_cons, List.nodup_cons] at h
   rw [putN]
   rcases List.mem_cons.1 hp with rfl | hp
   . rw [if_pos rfl]
   . rw [if_neg (fun e : q.name = p.name => h.1 (by rw [e]; exact List.mem_map_of_mem hp)), ih h.2 hp]
theorem Jmg {ps : List Part} (hn : (ps.map (·.name)).Nodup) : ∀ {l us : List Part}, ((us ++ l).map (·.name)).Nodup -> (∀ p ∈ l, p.name ∈ ps.map (·.name) -> p ∈ ps) ->
   (∀ p ∈ us, p.name ∉ ps.map (·.name)) -> addN (ps ++ us) l = ps ++ us ++ l.filter fun q => decide (q.name ∉ ps.map (·.name))
 | [], us, _, _, _ => by simp [addN]
 | p :: l, us, h, hc, ha => by
   show addN (putN (ps ++ us) p) l = _
   by_cases hp : p.name ∈ ps.map (·.name)
   . have hm := hc p (by simp) hp
     have hnd : ((ps ++ us).map (·.name)).Nodup := by
       rw [List.map_append, List.nodup_append]
       refine ⟨hn, ?_, fun x hx y hy e => ?_⟩
       . rw [List.map_append, List.nodup_append] at h; exact h.1
       . obtain ⟨r, hr, rfl⟩ := List.mem_map.1 hy
         exact ha r hr (e ▸ hx)
     rw [J4e hnd (List.mem_append_left _ hm), Jmg hn (us := us) ?_ (fun q hq => hc q (by simp [hq])) ha]
     . rw [List.filter_cons_of_neg (by simpa using hp)]
     . refine List.Sublist.nodup (List.Sublist.map _ ?_) h
       exact List.Sublist.append (List.Sublist.refl _) (List.sublist_cons_self _ _)
   . have hnm : p.name ∉ (ps ++ us).map (·.name) := by
       rw [List.map_append, List.mem_append, not_or]
       refine ⟨hp, fun hx => ?_⟩
       rw [List.map_append, List.nodup_append] at h
       exact h.2.2 _ hx p.name (by simp) rfl
     rw [Jn2 hnm, List.append_assoc, Jmg hn (us := us ++ [p]) (by simpa using h) (fun q hq => hc q (by simp [hq])) ?_]
     . rw [List.filter_cons_of_pos (by simpa using hp)]
       simp
     . intro q hq
       rcases List.mem_append.1 hq with hq | hq
       . exact ha q hq
       . simp at hq; subst hq; exact hp
theorem J6i {a b : Circuit} (ha : Jad a = 0) (hb : Jad b = 0) (hc : clash a b = false) : addN a.parts b.parts = uniP a.parts b.parts := by
 have := Jmg (ps := a.parts) (Jdz ha) (l := b.parts) (us := []) (by simpa using Jdz hb) (fun p hp hn => ?_) (by simp)
 . simpa [uniP] using this
 . obtain ⟨q, hq, e⟩ := List.mem_map.1 hn
   exact Jqn hc hq hp e ▸ hq
theorem J0w {xs : List EndP} {x : EndP} (h : x ∈ xs) : insX xs x = xs := if_pos h
theorem J0x {xs : List EndP} {x : EndP} (h : x ∉ xs) : insX xs x = xs ++ [x] := if_neg h
theorem Jgu {xs : List EndP} : ∀ {l us : List EndP}, (us ++ l).Nodup -> (∀ p ∈ us, p ∉ xs) -> addX (xs ++ us) l = xs ++ us ++ l.filter fun q => decide (q ∉ xs)
 | [], us, _, _ => by simp [addX]
 | p :: l, us, h, ha => by
   show addX (insX (xs ++ us) p) l = _
   by_cases hp : p ∈ xs
   . rw [J0w (List.mem_append_left _ hp), Jgu (us := us) ?_ ha]
     . rw [List.filter_cons_of_neg (by simpa using hp)]
     . exact List.Sublist.nodup (List.Sublist.append (List.Sublist.refl _) (List.sublist_cons_self _ _)) h
   . have hnm : p ∉ xs ++ us := by
       rw [List.mem_append, not_or]
       refine ⟨hp, fun hx => ?_⟩
       rw [List.nodup_append] at h
       exact h.2.2 _ hx p (by simp) rfl
     rw [J0x hnm, List.append_assoc, Jgu (us := us ++ [p]) (by simpa using h) ?_]
     . rw [List.filter_cons_of_pos (by simpa using hp)]
       simp
     . intro q hq
       rcases List.mem_append.1 hq with hq | hq
       . exact ha q hq
       . simp at hq; subst hq; exact hp
theorem Jj7 {c : Circuit} : Jcs c = (drfC c).pipes.map ordX := by unfold Jcs drfC; rw [List.map_map]; rfl
theorem Jwm {c : Circuit} (h : Jad c = 0) : addX [] (Jcs c) = Jcs c := by
 have := Jgu (xs := []) (l := Jcs c) (us := []) (by rw [Jj7]; simpa using Jfs h) (by simp)
 rw [List.nil_append] at this
 rw [this, List.nil_append]
 exact List.filter_eq_self.2 fun x _ => by simp
theorem J6m {a b : Circuit} (hb : Jad b = 0) : addX (Jcs a) (Jcs b) = (uniX (drfC a).pipes (drfC b).pipes).map ordX := by
 have := Jgu (xs := Jcs a) (l := Jcs b) (us := []) (by rw [Jj7]; simpa using Jfs hb) (by simp)
 rw [List.append_nil] at this
 rw [this]
 unfold uniX
 rw [List.map_append, Jj7, Jj7, List.filter_map]
 rfl
theorem Jm0 {d : Drf} (h : DrfOk d) {ps : List Part} {xs : List EndP} (hp : ps = d.parts) (hx : xs = d.pipes.map ordX) : Jd5 ⟨ps, xs⟩ = Jap d := by
 subst hp; subst hx
 exact Jie h
set_option maxRecDepth 20000 in
theorem J7l (a b : Circuit) (ha : Sized a) (hb : Sized b) : Pure Tryz.prog GL 28 [a.av, b.av] (.tup [(uniC a b).av, .p (.int .i64 (uniE a b))]) := by
 refine Pure.of_walk (N := 78) Tryz.func28 rfl rfl rfl (by simp) (by first | (simp; done) | simp [*]) ?_
 simp
 refine Jah.go [2, 3, 4, 16, 17] [0, 1, 2] 0 [] (fun _ => []) (fun _ (k : Nat) => [(18, .p (.int .i64 k))]) (fun _ _ => [(3, some (.cells 2 [[.p (.lst 3 (a.parts.map Part.enc)), .p (.lst 4 (a.pipes.map Pipe.enc))], [.p (.lst 3 (b.parts.map Part.enc)), .p (.lst 4 (b.pipes.map Pipe.enc))]]))]) (fun k => k <= 2 /\ (1 <= k -> Jad a = 0) /\ (2 <= k -> Jad b = 0)) (fun k => 2 - k) 0 ⟨by omega, by omega, by omega⟩ ?_ ?_
 . simp
   decide
 rintro k ⟨hk, hka, hkb⟩
 simp
 refine Jac (fun h3 => ?_) (fun h3 => ?_)
 . simp at h3
   rcases (by omega : k = 0 \/ k = 1) with rfl | rfl
   . simp
     refine Jab (Jex a ha) ?_
     by_cases h : Jad a = 0
     . simp [h]
       refine ⟨1, by omega, by omega, by omega, ?_⟩
       decide
     . have hE : uniE a b = Jad a := if_pos h
       have hC : uniC a b = noC := by unfold uniC; rw [if_neg (by rw [hE]; exact h)]
       simp [h, Jaa, hE, hC, noC]
   . have hc0 := hka (by omega)
     simp
     refine Jab (Jex b hb) ?_
     by_cases h : Jad b = 0
     . simp [h]
       exact ⟨2, ⟨by omega, fun _ => hc0⟩, by omega, by omega, by decide⟩
     . have hE : uniE a b = Jad b := by unfold uniE; rw [hc0, if_neg (by simp), if_pos h]
       have hC : uniC a b = noC := by unfold uniC; rw [if_neg (by rw [hE]; exact h)]
       simp [h, Jaa, hE, hC, noC]
 simp at h3
 have hk2 : k = 2 := by omega
 subst hk2
 have h1 := hka (by omega)
 have h2 := hkb (by omega)
 have hbp := (Jez h2).2.1
 simp
 refine Ja4 (Jij _ _) ?_
 simp
 refine Ja4 (Jrh a [] [] h1 _ _ _ _ _ (by simp) (by simp) rfl rfl rfl) ?_
 rw [Jwk h1, Jwm h1]
 simp
 refine Jah.go [3, 4, 9, 34, 35] [1, 2, 4, 5, 6] 0 [] (fun _ => []) (fun _ (k : Nat) => [(36, .p (.int .i64 k))]) (fun _ _ => []) (fun k => k <= b.parts.length /\ ∀ (j : Nat) q, j < k -> b.parts[j]? = some q -> ∀ p, a.parts.find? (fun p => decide (p.name = q.name)) = some p -> p = q) (fun k => b.parts.length - k) 0 ⟨by omega, fun j q h => by omega⟩ ?_ ?_
 . simp
   decide
 rintro k ⟨hk, hinv⟩
 simp
 refine Jac (fun h3 => ?_) (fun h3 => ?_)
 . simp at h3
   obtain ⟨q, e⟩ := Jag h3
   simp [h3, e, -getElem?_pos, List.getElem?_cons_zero, List.getElem?_cons_succ]
   refine Jai.intro (by kernel_rfl) ?_
   cases ef : a.parts.find? fun p => decide (p.name = q.name) with
   | none =>
     simp [ef, hit, zeroV]
     refine ⟨.of (by kernel_rfl), wrap_i64 (by omega) (by omega), k + 1, ⟨by omega, fun j r hj er p hp => ?_⟩, by omega, by omega, by decide⟩
     rcases (by omega : j < k \/ j = k) with hj | rfl
     . exact hinv j r hj er p hp
     . rw [e] at er; cases er; rw [ef] at hp; cases hp
   | some p =>
     simp [ef, hit]
     refine ⟨.of (by kernel_rfl), ?_⟩
     refine Jac (fun h5 => ?_) (fun h5 => ?_)
     . simp at h5
       have hcl : clash a b = true := by
         unfold clash
         refine List.any_eq_true.2 ⟨q, List.mem_of_getElem? e, List.any_eq_true.2 ⟨p, List.mem_of_find?_eq_some ef, ?_⟩⟩
         have := List.find?_some ef
         simpa [h5] using this
       have hE : uniE a b = 16 := by unfold uniE; rw [h1, h2, hcl]; rfl
       have hC : uniC a b = noC := by unfold uniC; rw [if_neg (by rw [hE]; decide)]
       simp [Jaa, hE, hC, noC]
     . simp at h5
       simp
       refine ⟨wrap_i64 (by omega) (by omega), k + 1, ⟨by omega, fun j r hj er p' hp => ?_⟩, by omega, by omega, by decide⟩
       rcases (by omega : j < k \/ j = k) with hj | rfl
       . exact hinv j r hj er p' hp
       . rw [e] at er; cases er; rw [ef] at hp; cases hp; exact h5
 simp at h3
 have hkl : k = b.parts.length := by omega
 subst hkl
 have hcl : clash a b = false := by
   unfold clash
   refine List.any_eq_false.2 fun q hq => ?_
   rw [Bool.not_eq_true]
   refine List.any_eq_false.2 fun p hp => ?_
   simp only [Bool.and_eq_true, decide_eq_true_eq, Bool.not_eq_true', decide_eq_false_iff_not, not_and, Decidable.not_not]
   intro en
   obtain ⟨j, hj⟩ := List.mem_iff_getElem?.1 hq
   obtain ⟨p', hp'⟩ := Jq5 (ps := a.parts) (s := q.name) (List.mem_map.2 ⟨p, hp, en⟩)
   have h5 := hinv j q (gsI.1 hj).1 hj p' hp'
   have h6 := Je1 (Jdz h1) hp
   unfold Jdr at h6
   rw [en, hp'] at h6
   rw [<- h6]; exact h5
 simp
 refine Ja4 (Jrh b a.parts (Jcs a) h2 _ _ _ _ _ (by simp) (by simp) rfl rfl rfl) ?_
 rw [J6i h1 h2 hcl, J6m h2]
 have hd := Jov h1 h2 hcl
 have hpa := (Jez h1).2
 have hpb := (Jez h2).2
 have hpl : (uniP a.parts b.parts).length <= 200 := by
   unfold uniP
   rw [List.length_append]
   have := List.length_filter_le (fun q => decide (q.name ∉ a.parts.map (·.name))) b.parts
   omega
 have hxl : (uniX (drfC a).pipes (drfC b).pipes).length <= 2000 := by
   unfold uniX
   rw [List.length_append]
   have := List.length_filter_le (fun y => decide (ordX y ∉ (drfC a).pipes.map ordX)) (drfC b).pipes
   have l1 : (drfC a).pipes.length = a.pipes.length := List.length_map ..
   have l2 : (drfC b).pipes.length = b.pipes.length := List.length_map ..
   omega
 have hxn := Jvo (Jfs h1) (Jfs h2)
 have hE : uniE a b = if 64 < (uniP a.parts b.parts).length \/ 256 < (uniX (drfC a).pipes (drfC b).pipes).length then 5 else 0 := by unfold uniE; rw [h1, h2, hcl]; rfl
 have hdr : Jd5 ⟨uniP a.parts b.parts, (uniX (drfC a).pipes (drfC b).pipes).map ordX⟩ = Jap (uniD a b) := Jm0 hd rfl rfl
 have hmx : (List.map ordX (uniX (drfC a).pipes (drfC b).pipes)).length = (uniX (drfC a).pipes (drfC b).pipes).length := List.length_map ..
 generalize hUP : uniP a.parts b.parts = UP at hpl hE hdr ⊢
 generalize hUX : (uniX (drfC a).pipes (drfC b).pipes) = UX at *
 have hnd2 : (UP.map (·.name)).Nodup := by rw [<- hUP]; exact hd.nd
 simp
 by_cases h7 : (64 : Int) < UP.length
 . have hE2 : uniE a b = 5 := by rw [hE, if_pos (.inl (by omega))]
   have hC : uniC a b = noC := by unfold uniC; rw [if_neg (by rw [hE2]; decide)]
   simp [h7, Jaa, hE2, hC, noC]
 by_cases h8 : (256 : Int) < UX.length
 . have hE2 : uniE a b = 5 := by rw [hE, if_pos (.inr (by omega))]
   have hC : uniC a b = noC := by unfold uniC; rw [if_neg (by rw [hE2]; decide)]
   simp [h7, h8, Jaa, hE2, hC, noC]
 have hE2 : uniE a b = 0 := by rw [hE, if_neg (by omega)]
 have hC : uniC a b = Jap (uniD a b) := if_pos hE2
 simp [h7, h8]
 refine Ja4 (Jii UP (UX.map ordX) hnd2 hxn hpl (by rw [hmx]; exact hxl) _ _ _ _ _ (by simp) (by simp) rfl rfl rfl) ?_
 rw [hdr, <- hC]
 simp [Jaa, hE2]
end Go.Am
namespace Go.Am
open Go Go.Proofs Go.Pn
noncomputable def Jcq (es : List (AV × AV)) (old new : Txt) (p : Part) (k : Txt) : List (AV × AV) := if p.kind = 6 /\ p.name = old ++ k then setA es (.p (.str p.name)) (.p (.str (new ++ k))) else es
noncomputable def Jct (es : List (AV × AV)) (old new : Txt) (p : Part) : Nat -> List (AV × AV)
 | 0 => es
 | 1 => Jcq es old new p [48]
 | _ + 2 => Jcq (Jcq es old new p [48]) old new p [49]
noncomputable def toM (c : Circuit) (old new : Txt) : Nat -> List (AV × AV)
 | 0 => [(.p (.str old), .p (.str new))]
 | j + 1 => match c.parts[j]? with
   | some p => Jct (toM c old new j) old new p 2
   | none => toM c old new j
def OkT (es : List (AV × AV)) : Prop := ∀ e ∈ es, (∃ s, e.1 = .p (.str s)) /\ ∃ t, e.2 = .p (.str t)
theorem Jns {es : List (AV × AV)} {old new : Txt} {p : Part} {k : Txt} (h : OkT es) : OkT (Jcq es old new p k) := by
 unfold Jcq
 split
 . exact Juv (K := fun e => (∃ s, e.1 = .p (.str s)) /\ ∃ t, e.2 = .p (.str t)) ⟨⟨_, rfl⟩, _, rfl⟩ h
 . exact h
theorem Jhd {es : List (AV × AV)} {old new : Txt} {p : Part} (h : OkT es) : ∀ n, OkT (Jct es old new p n)
 | 0 => h
 | 1 => Jns h
 | _ + 2 => Jns (Jns h)
theorem Jfc {c : Circuit} {old new : Txt} : ∀ j, OkT (toM c old new j)
 | 0 => fun e he => by simp [toM] at he; subst he; exact ⟨⟨_, rfl⟩, _, rfl⟩
 | j + 1 => by
   have ih := @Jfc c old new j
   unfold toM
   split
   . exact Jhd ih 2
   . exact ih
theorem Jk5 {es : List (AV × AV)} (h : OkT es) (s : Txt) : Jcy Tryz.prog 9 es (.p (.str s)) = True :=
 eq_true ⟨_, Jg7, ⟨_, rfl⟩, fun e he => (h e he).1⟩
theorem Jd0 {es : List (AV × AV)} (h : OkT es) (ρ : List Nat) : renE ρ es = some es :=
 Ji1 fun e he => by
   obtain ⟨⟨s, h1⟩, t, h2⟩ := h e he
   rw [h1, h2]; exact ⟨rfl, rfl⟩
noncomputable def rnT (es : List (AV × AV)) (s : Txt) : Txt := match Jaq es (.p (.str s)) with
 | some (.p (.str t)) => t
 | _ => s
theorem J2c {es : List (AV × AV)} (h : OkT es) (s : Txt) : Jaq es (.p (.str s)) = none /\ rnT es s = s \/ ∃ t, Jaq es (.p (.str s)) = some (.p (.str t)) /\ rnT es s = t := by
 cases e : Jaq es (.p (.str s)) with
 | none => exact .inl ⟨rfl, by unfold rnT; rw [e]⟩
 | some v =>
   have : ∃ t, v = .p (.str t) := by
     induction es with
     | nil => cases e
     | cons y es ih =>
       rw [Jdw] at e
       split at e
       . cases e; exact (h y (by simp)).2
       . exact ih (fun z hz => h z (by simp [hz])) e
   obtain ⟨t, rfl⟩ := this
   exact .inr ⟨t, rfl, by unfold rnT; rw [e]⟩
def Je3 (c : Circuit) (j : Nat) (s : Txt) : Prop := ∃ i p, i < j /\ c.parts[i]? = some p /\ p.kind = 6 /\ p.name = s
open Classical in
theorem Jor {c : Circuit} {old new s : Txt} : ∀ {j : Nat}, Jaq (toM c old new j) (.p (.str s)) = if s = old then some (.p (.str new)) else if s = old ++ [48] /\ Je3 c j s then some (.p (.str (new ++ [48]))) else if s = old ++ [49] /\ Je3 c j s then some (.p (.str (new ++ [49]))) else none
 | 0 => by
   have h0 : ¬ Je3 c 0 s := fun ⟨i, _, h, _⟩ => by omega
   show Jaq [(AV.p (.str old), AV.p (.str new))] _ = _
   rw [Jdw]
   by_cases h : s = old
   . subst h; rw [if_pos rfl, if_pos rfl]
   . rw [if_neg (by simpa using Ne.symm h), if_neg h, if_neg (fun h => h0 h.2), if_neg (fun h => h0 h.2)]; rfl
 | j + 1 => by
   have ih := @Jor c old new s j
   have ne1 : ∀ (x : Txt) (b : UInt8), x ++ [b] ≠ x := fun x b e => by simpa using congrArg List.length e
   have ne2 : old ++ [(48 : UInt8)] ≠ old ++ [49] := fun e => by simp at e
   unfold toM
   cases e : c.parts[j]? with
   | none =>
     have hs : Je3 c (j + 1) s ↔ Je3 c j s := by
       constructor
       . rintro ⟨i, p, h1, h2, h3⟩
         rcases (by omega : i < j \/ i = j) with h | rfl
         . exact ⟨i, p, h, h2, h3⟩
         . rw [e] at h2; cases h2
       . rintro ⟨i, p, h1, h2⟩
         exact ⟨i, p, by omega, h2⟩
     simp only [hs]
     exact ih
   | some p =>
     have hs : Je3 c (j + 1) s ↔ Je3 c j s \/ (p.kind = 6 /\ p.name = s) := by
       constructor
       . rintro ⟨i, q, h1, h2, h3⟩
         rcases (by omega : i < j \/ i = j) with h | rfl
         . exact .inl ⟨i, q, h, h2, h3⟩
         . rw [e] at h2; cases h2; exact .inr h3
       . rintro (⟨i, q, h1, h2⟩ | h3)
         . exact ⟨i, q, by omega, h2⟩
         . exact ⟨j, p, by omega, e, h3⟩
     show Jaq (Jcq (Jcq (toM c old new j) old new p [48]) old new p [49]) _ = _
     simp only [hs]
     unfold Jcq
     by_cases hk : p.kind = 6
     . by_cases h1 : p.name = old ++ [49]
       . have h2 : ¬ p.name = old ++ [48] := fun h2 => ne2 (h2.symm.trans h1)
         rw [if_pos ⟨hk, h1⟩, if_neg (fun h => h2 h.2), Jh6]
         by_cases h3 : p.name = s
         . subst h3
           rw [if_pos rfl, if_neg (by rw [h1]; exact ne1 _ _), if_neg (fun h => h2 h.1), if_pos ⟨h1, .inr ⟨hk, rfl⟩⟩]
         . rw [if_neg (by simpa using h3), ih]
           simp only [h3, and_false, or_false]
       . by_cases h2 : p.name = old ++ [48]
         . rw [if_neg (fun h => h1 h.2), if_pos ⟨hk, h2⟩, Jh6]
           by_cases h3 : p.name = s
           . subst h3
             rw [if_pos rfl, if_neg (by rw [h2]; exact ne1 _ _), if_pos ⟨h2, .inr ⟨hk, rfl⟩⟩]
           . rw [if_neg (by simpa using h3), ih]
             simp only [h3, and_false, or_false]
         . rw [if_neg (fun h => h1 h.2), if_neg (fun h => h2 h.2), ih]
           by_cases h3 : p.name = s
           . subst h3
             simp only [h1, h2, false_and, if_false]
           . simp only [h3, and_false, or_false]
     . rw [if_neg (fun h => hk h.1), if_neg (fun h => hk h.1), ih]
       simp only [hk, false_and, or_false]
theorem Jvf {c : Circuit} (h : Jad c = 0) {s : Txt} : Je3 c c.parts.length s ↔ 0 <= swAt c s := by
 unfold swAt
 rcases Jtd c s with e | ⟨i, x, e, e2, e3⟩
 . rw [e]
   have : swK c (-1) = -1 := by unfold swK; rw [if_neg (by omega)]
   rw [this]
   constructor
   . rintro ⟨j, p, h1, h2, h3, h4⟩
     have := J0u e p (List.mem_of_getElem? h2)
     simp [h4] at this
   . intro h; omega
 . rw [e]
   have hk : Jdi c (i : Int) = x.kind := by unfold Jdi; rw [Int.toNat_natCast, e2]; rfl
   unfold swK
   rw [hk]
   constructor
   . rintro ⟨j, p, h1, h2, h3, h4⟩
     have hj : i = j := by
       have h5 : (c.parts.map (·.name))[i]? = some s := by rw [List.getElem?_map, e2]; simp [e3]
       have h6 : (c.parts.map (·.name))[j]? = some s := by rw [List.getElem?_map, h2]; simp [h4]
       exact Jir (Jdz h) h5 h6
     subst hj
     rw [e2] at h2; cases h2
     rw [if_neg (by omega)]; omega
   . intro h7
     by_cases h8 : x.kind = 6
     . exact ⟨i, x, (gsI.1 e2).1, e2, h8, e3⟩
     . rw [if_pos ⟨by omega, h8⟩] at h7; omega
noncomputable def Jer (c : Circuit) (old new : Txt) : List (AV × AV) := if Jdi c (Jeb c old) = 1 then toM c old new c.parts.length else toM c old new 0
theorem Jsr {c : Circuit} {old new : Txt} : OkT (Jer c old new) := by
 unfold Jer; split <;> exact Jfc _
theorem Juo {c : Circuit} (h : Jad c = 0) {old new s : Txt} : rnT (Jer c old new) s = Jbe c old new s := by
 unfold rnT Jbe Jer
 have ne1 : ∀ b : UInt8, old ++ [b] ≠ old := fun b e => by simpa using congrArg List.length e
 by_cases hk : Jdi c (Jeb c old) = 1
 . rw [if_pos hk, Jor]
   simp only [hk, true_and]
   by_cases h1 : s = old
   . rw [if_pos h1, if_pos h1]
   . rw [if_neg h1, if_neg h1]
     by_cases h2 : s = old ++ [48]
     . subst h2
       rw [Jvf h]
       by_cases h4 : 0 <= swAt c (old ++ [48])
       . simp [h4]
       . simp [h4]
     . by_cases h3 : s = old ++ [49]
       . subst h3
         rw [Jvf h]
         by_cases h4 : 0 <= swAt c (old ++ [49])
         . simp [h4]
         . simp [h4]
       . simp [h2, h3]
 . rw [if_neg hk, Jor]
   have h0 : ¬ Je3 c 0 s := fun ⟨i, _, h, _⟩ => by omega
   simp only [hk, false_and, if_false, h0, and_false]
   by_cases h1 : s = old
   . rw [if_pos h1, if_pos h1]
   . rw [if_neg h1, if_neg h1]
theorem Jua {ps : List Part} {p : Part} : (putN ps p).length = if p.name ∈ ps.map (·.name) then ps.length else ps.length + 1 := by
 induction ps with
 | nil => rfl
 | cons q ps ih =>
   rw [putN]
   by_cases h : q.name = p.name
   . rw [if_pos h, if_pos (by simp [h])]; rfl
   . rw [if_neg h, List.length_cons, ih]
     by_cases h2 : p.name ∈ ps.map (·.name)
     . rw [if_pos h2, if_pos (by rw [List.map_cons]; exact List.mem_cons_of_mem _ h2)]; rfl
     . rw [if_neg h2, if_neg (by rw [List.map_cons, List.mem_cons, not_or]; exact ⟨fun e => h e.symm, h2⟩)]; rfl
theorem Jjq : ∀ {l ps : List Part}, (addN ps l).length <= ps.length + l.length
 | [], ps => Nat.le_refl _
 | p :: l, ps => by
   have h := @Jjq l (putN ps p)
   have h2 := @Jua ps p
   show (addN (putN ps p) l).length <= _
   rw [List.length_cons]
   split at h2 <;> omega
theorem Jme : ∀ {l ps : List Part}, ¬ ((ps ++ l).map (·.name)).Nodup -> (ps.map (·.name)).Nodup -> (addN ps l).length < ps.length + l.length
 | [], ps, h, h2 => absurd (by simpa using h2) h
 | p :: l, ps, h, h2 => by
   show (addN (putN ps p) l).length < _
   by_cases hp : p.name ∈ ps.map (·.name)
   . have h3 := @Jjq l (putN ps p)
     rw [Jua, if_pos hp] at h3
     rw [List.length_cons]; omega
   . have hn : ((ps ++ [p]).map (·.name)).Nodup := by
       rw [List.map_append, List.nodup_append]
       exact ⟨h2, by simp, fun a ha b hb e => by simp at hb; subst hb; subst e; exact hp ha⟩
     rw [Jn2 hp]
     have := @Jme l (ps ++ [p]) (by simpa using h) hn
     simp at this ⊢
     omega
theorem Jum {c : Circuit} (h : Jad c = 0) {f : Txt -> Txt} (hn : ((c.parts.map (Jbw f)).map (·.name)).Nodup) : ((mapD f (drfC c)).pipes.map ordX).Nodup := by
 have hinj : ∀ s ∈ c.parts.map (·.name), ∀ t ∈ c.parts.map (·.name), f s = f t -> s = t := by
   intro s hs t ht e
   obtain ⟨i, hi⟩ := List.mem_iff_getElem?.1 hs
   obtain ⟨j, hj⟩ := List.mem_iff_getElem?.1 ht
   have e1 : ((c.parts.map (Jbw f)).map (·.name))[i]? = some (f s) := by
     rw [List.getElem?_map] at hi
     obtain ⟨p, hp, rfl⟩ := Option.map_eq_some_iff.1 hi
     rw [List.getElem?_map, List.getElem?_map, hp]; rfl
   have e2 : ((c.parts.map (Jbw f)).map (·.name))[j]? = some (f s) := by
     rw [List.getElem?_map] at hj
     obtain ⟨p, hp, rfl⟩ := Option.map_eq_some_iff.1 hj
     rw [List.getElem?_map, List.getElem?_map, hp, e]; rfl
   have := Jir hn e1 e2
   subst this
   rw [hi] at hj; cases hj; rfl
 have hends := (Jf9 h).ends
 have h0 := Jfs h
 show (((drfC c).pipes.map fun x => (Jbz f x.1, Jbz f x.2)).map ordX).Nodup
 rw [List.map_map]
 refine List.pairwise_map.2 ((List.pairwise_map.1 h0).imp_of_mem fun {x y} hx hy hne e => hne ?_)
 have hx2 := hends x hx
 have hy2 := hends y hy
 have em : ∀ {a b : End}, a.part ∈ c.parts.map (·.name) -> b.part ∈ c.parts.map (·.name) -> Jbz f a = Jbz f b -> a = b := fun {a b} ha hb e => by
   obtain ⟨s, t⟩ := a; obtain ⟨u, v⟩ := b
   simp only [Jbz, End.mk.injEq] at e
   have e1 : s = u := hinj _ ha _ hb e.1
   rw [e1, e.2]
 have e : ordE (Jbz f x.1) (Jbz f x.2) = ordE (Jbz f y.1) (Jbz f y.2) := e
 show ordE x.1 x.2 = ordE y.1 y.2
 rw [Js6] at e ⊢
 rcases e with ⟨h1, h2⟩ | ⟨h1, h2⟩
 . exact .inl ⟨em hx2.1 hy2.1 h1, em hx2.2 hy2.2 h2⟩
 . exact .inr ⟨em hx2.1 hy2.2 h1, em hx2.2 hy2.1 h2⟩
end Go.Am
namespace Go.Am
open Go Go.Proofs Go.Pn
@[simp] theorem Ke9 : Jdv Tryz.prog 9 = some false := by kernel_rfl
set_option maxRecDepth 20000 in
theorem Jg2 (es : List (AV × AV)) (h : OkT es) (t : Txt) (s : Store) (nx b m : Nat) (hnd : [b, m].Nodup) (hlt : ∀ x ∈ [b, m], x < nx) (g0 : get s b = some (.cells 1 [[.map m]])) (g1 : get s m = some (.map es)) :
   Gives Tryz.prog GL 81 [.p (.str t), .ptr b 1 0 0] s nx (.p (.str (rnT es t))) [b, m] [] nx := by
 have hr := Jd0 h
 refine Gives.mk_walkK (N := 15) (args := [.p (.str t), .ptr 0 1 0 0]) [b, m] [] [(0, some (.cells 1 [[.map 1]])), (1, some (.map es))] [] 2 0 (.p (.str (rnT es t))) (fun _ => []) (up1 := []) Tryz.func81 rfl rfl rfl (by simp) rfl ?_ (by simp) (by simp) (by simp) (by simp) rfl ?_
 . refine ⟨?_, rfl, hnd, hlt, rfl⟩
   simp [g0, g1, hr]
 have hk := Jk5 h t
 rcases J2c h t with ⟨h1, h2⟩ | ⟨u, h1, h2⟩
 . simp [hk, h1, h2, hit, hr, zeroV]
 . simp [hk, h1, h2, hit, hr]
noncomputable def rnP (es : List (AV × AV)) (l : List Part) : List Part := addN [] (l.map (Jbw (rnT es)))
theorem Jun {es : List (AV × AV)} {l : List Part} {k : Nat} {p : Part} (e : l[k]? = some p) : rnP es (l.take (k + 1)) = putN (rnP es (l.take k)) (Jbw (rnT es) p) := by
 unfold rnP; rw [take_snoc e, List.map_append]; unfold addN; rw [List.foldl_append]; rfl
def mapX (f : Txt -> Txt) (c : Circuit) (x : Pipe) : EndP := ordX (Jbz f (Jax c x.fr), Jbz f (Jax c x.to))
noncomputable def rnX (es : List (AV × AV)) (c : Circuit) (k : Nat) : List EndP := addX [] ((c.pipes.take k).map (mapX (rnT es) c))
theorem Jup {es : List (AV × AV)} {c : Circuit} {k : Nat} {x : Pipe} (e : c.pipes[k]? = some x) : rnX es c (k + 1) = insX (rnX es c k) (mapX (rnT es) c x) := by
 unfold rnX; rw [take_snoc e, List.map_append]; unfold addX; rw [List.foldl_append]; rfl
theorem Jvj {es : List (AV × AV)} {old new : Txt} {p : Part} {k : Txt} (h6 : p.kind = 6) (h7 : p.name = old ++ k) : Jcq es old new p k = setA es (.p (.str (old ++ k))) (.p (.str (new ++ k))) := by
 unfold Jcq; rw [if_pos ⟨h6, h7⟩, h7]
set_option maxRecDepth 20000 in
theorem Jp6 (c : Circuit) (old new : Txt) (hs : Sized c) (ho : old.length < 1000000000000000000) (hn : new.length < 1000000000000000000) : Pure Tryz.prog GL 21 [c.av, .p (.str old), .p (.str new)] (.tup [(rnmC c old new).av, .p (.int .i64 (rnmE c old new))]) := by
 refine Pure.of_walk (N := 152) Tryz.func21 rfl rfl rfl (by simp) (by first | (simp; done) | simp [*]) ?_
 simp
 refine Jab (Jxi c old hs) ?_
 rw [<- Jeb]
 by_cases h : Jad c = 0
 . have hpl := (Jez h).2.1
   have hxl := (Jez h).2.2
   rcases Jtd c old with e0 | ⟨i, q0, e0, e1, e2⟩
   . have hE : rnmE c old new = 6 := by unfold rnmE; rw [h, e0]; rfl
     have hC : rnmC c old new = noC := by unfold rnmC; rw [if_neg (by rw [hE]; decide)]
     simp [h, e0, Jaa, hE, hC, noC]
   have hi : i < c.parts.length := (gsI.1 e1).1
   have hka : Jdi c (Jeb c old) = q0.kind := by unfold Jdi; rw [e0, Int.toNat_natCast, e1]; rfl
   have hi0 : ¬ (i : Int) < 0 := by omega
   simp [h, e0, hi0]
   simp [hi, e1, -getElem?_pos, List.getElem?_cons_zero, List.getElem?_cons_succ]
   have hk0 : Jcy Tryz.prog 9 [] (.p (.str old)) = True := Jk5 (fun e he => by cases he) old
   have hm0 : setA [] (.p (.str old)) (.p (.str new)) = toM c old new 0 := rfl
   by_cases hk : q0.kind = 1
   . simp [hk, hk0]
     rw [hm0]
     refine Jah.go [1, 2, 3, 6, 10, 47, 48] [0, 1, 3] 0 [] (fun _ => []) (fun _ (k : Nat) => [(49, .p (.int .i64 k))]) (fun _ k => [(2, some (.map (toM c old new k)))]) (fun k => k <= c.parts.length) (fun k => c.parts.length - k) 0 (by omega) ?_ ?_
     . simp [Jd0 (Jfc _)]
       decide
     intro k hk2
     simp
     refine Jac (fun h3 => ?_) (fun h3 => ?_)
     . simp at h3
       obtain ⟨p, e⟩ := Jag h3
       simp [h3, e, -getElem?_pos, List.getElem?_cons_zero, List.getElem?_cons_succ]
       refine Jah.go [1, 2, 3, 6, 10, 12, 47, 48, 49, 53, 54] [0, 1, 3, 4] 0 [] (fun _ => []) (fun _ (n : Nat) => [(55, .p (.int .i64 n))]) (fun _ n => [(2, some (.map (Jct (toM c old new k) old new p n))), (5, some (.cells 1 [[.p (.str [48])], [.p (.str [49])]]))]) (fun n => n <= 2) (fun n => 2 - n) 0 (by omega) ?_ ?_
       . simp [Jd0 (Jfc _), Jct]
         try decide
       intro n hn2
       simp
       refine Jac (fun h4 => ?_) (fun h4 => ?_)
       . simp at h4
         rcases (by omega : n = 0 \/ n = 1) with rfl | rfl
         ·
           have hT := Jhd (Jfc (c := c) (old := old) (new := new) k) (old := old) (new := new) (p := p) 0
           have hT2 := Jhd (Jfc (c := c) (old := old) (new := new) k) (old := old) (new := new) (p := p) 1
           by_cases h6 : p.kind = 6
           . by_cases h7 : p.name = old ++ [48]
             . have hst : setA (Jct (toM c old new k) old new p 0) (.p (.str (old ++ [48]))) (.p (.str (new ++ [48]))) = Jct (toM c old new k) old new p 1 := by
                 exact (Jvj h6 h7).symm
               have hky := Jk5 hT (old ++ [48])
               simp [h6, h7, hky, hst]
               refine ⟨by omega, by omega, 1, by omega, by omega, by omega, ?_⟩
               simp [Jd0 hT2]
               try decide
             . have hst : Jct (toM c old new k) old new p 1 = Jct (toM c old new k) old new p 0 := by
                 show Jcq _ old new p [48] = _
                 unfold Jcq; rw [if_neg (fun h => h7 h.2)]; rfl
               simp [h6, h7]
               refine ⟨by omega, 1, by omega, by omega, by omega, ?_⟩
               rw [hst]
               simp [Jd0 hT]
               try decide
           . have hst : Jct (toM c old new k) old new p 1 = Jct (toM c old new k) old new p 0 := by
               show Jcq _ old new p [48] = _
               unfold Jcq; rw [if_neg (fun h => h6 h.1)]; rfl
             simp [h6]
             refine ⟨1, by omega, by omega, by omega, ?_⟩
             rw [hst]
             simp [Jd0 hT]
             try decide
         ·
           have hT := Jhd (Jfc (c := c) (old := old) (new := new) k) (old := old) (new := new) (p := p) 1
           have hT2 := Jhd (Jfc (c := c) (old := old) (new := new) k) (old := old) (new := new) (p := p) 2
           by_cases h6 : p.kind = 6
           . by_cases h7 : p.name = old ++ [49]
             . have hst : setA (Jct (toM c old new k) old new p 1) (.p (.str (old ++ [49]))) (.p (.str (new ++ [49]))) = Jct (toM c old new k) old new p 2 := by
                 exact (Jvj h6 h7).symm
               have hky := Jk5 hT (old ++ [49])
               simp [h6, h7, hky, hst]
               refine ⟨by omega, by omega, 2, by omega, by omega, by omega, ?_⟩
               simp [Jd0 hT2]
               try decide
             . have hst : Jct (toM c old new k) old new p 2 = Jct (toM c old new k) old new p 1 := by
                 show Jcq _ old new p [49] = _
                 unfold Jcq; rw [if_neg (fun h => h7 h.2)]; rfl
               simp [h6, h7]
               refine ⟨by omega, 2, by omega, by omega, by omega, ?_⟩
               rw [hst]
               simp [Jd0 hT]
               try decide
           . have hst : Jct (toM c old new k) old new p 2 = Jct (toM c old new k) old new p 1 := by
               show Jcq _ old new p [49] = _
               unfold Jcq; rw [if_neg (fun h => h6 h.1)]; rfl
             simp [h6]
             refine ⟨2, by omega, by omega, by omega, ?_⟩
             rw [hst]
             simp [Jd0 hT]
             try decide
       simp at h4
       have hn3 : n = 2 := by omega
       subst hn3
       simp
       refine ⟨wrap_i64 (by omega) (by omega), k + 1, by omega, by omega, by omega, ?_⟩
       have hst : toM c old new (k + 1) = Jct (toM c old new k) old new p 2 := by simp only [toM, e]
       rw [hst]
       simp [Jd0 (Jhd (Jfc _) _)]
       try decide
     simp at h3
     have hkl : k = c.parts.length := by omega
     subst hkl
     have hend : toM c old new c.parts.length = Jer c old new := by unfold Jer; rw [hka, hk]; rfl
     rw [hend]
     simp
     have hOk := @Jsr c old new
     have hrn := fun s => @Juo c h old new s
     generalize Jer c old new = ES at hOk hrn
     have hre := Jd0 hOk
     refine Ja4 (Jij _ _) ?_
     simp
     refine Jah.go [3, 6, 15, 16, 81, 82] [0, 1, 2, 3, 5, 6] 0 [] (fun _ => []) (fun _ (k : Nat) => [(83, .p (.int .i64 k))]) (fun _ k => [(4, some (.map (Jas (rnP ES (c.parts.take k)))))]) (fun k => k <= c.parts.length) (fun k => c.parts.length - k) 0 (by omega) ?_ ?_
     . have : rnP ES (c.parts.take 0) = [] := by simp [rnP, addN]
       rw [this]
       simp [hre, Jas]
       try decide
     intro k hk2
     simp [hre]
     refine Jac (fun h3 => ?_) (fun h3 => ?_)
     . simp at h3
       obtain ⟨p, e⟩ := Jag h3
       simp [h3, e, hre, -getElem?_pos, List.getElem?_cons_zero, List.getElem?_cons_succ]
       refine Ja4 (Jg2 ES hOk p.name _ _ _ _ (by simp) (by simp) rfl rfl) ?_
       simp
       refine Jai.intro (by kernel_rfl) ?_
       simp
       refine ⟨.of (by kernel_rfl), wrap_i64 (by omega) (by omega), k + 1, by omega, by omega, by omega, ⟨?_, ?_⟩, by decide⟩
       . rw [Jun e]
         exact Ji7 (p := Jbw (rnT ES) p)
       . simp [hre]
     simp at h3
     have hkl : k = c.parts.length := by omega
     subst hkl
     rw [List.take_length]
     have hRPe : rnP ES c.parts = addN [] (c.parts.map (Jbw (Jbe c old new))) := by
       unfold rnP
       have : rnT ES = Jbe c old new := funext hrn
       rw [this]
     have hRl : (rnP ES c.parts).length <= c.parts.length := by
       rw [hRPe]
       have := @Jjq (c.parts.map (Jbw (Jbe c old new))) []
       simpa using this
     simp [hre]
     refine Jai.intro (by kernel_rfl) ?_
     simp [hre]
     refine ⟨.of (by kernel_rfl), ?_⟩
     by_cases hnn : ((renD c old new).parts.map (·.name)).Nodup
     . have hRP : rnP ES c.parts = (renD c old new).parts := by
         rw [hRPe]
         have := Jmf (ps := []) (l := c.parts.map (Jbw (Jbe c old new))) (by simpa [renD, mapD, drfC] using hnn)
         simpa [renD, mapD, drfC] using this
       have hRl2 : (rnP ES c.parts).length = c.parts.length := by rw [hRP]; exact List.length_map ..
       rw [hRl2]
       simp
       rw [hRP]
       refine Jah.go [3, 6, 15, 16, 111, 112] [0, 1, 2, 3, 4, 6] 0 [] (fun _ => []) (fun _ (k : Nat) => [(113, .p (.int .i64 k))]) (fun _ k => [(5, some (.map (Jaw (rnX ES c k))))]) (fun k => k <= c.pipes.length) (fun k => c.pipes.length - k) 0 (by omega) ?_ ?_
       . have : rnX ES c 0 = [] := by simp [rnX, addX]
         rw [this]
         simp [hre, Jaw]
         try decide
       intro k hk2
       simp [hre]
       refine Jac (fun h3 => ?_) (fun h3 => ?_)
       . simp at h3
         obtain ⟨x, e⟩ := Jag h3
         have hxm := List.mem_of_getElem? e
         obtain ⟨g1, g2, _⟩ := Jem h hxm
         obtain ⟨y1, f1, z1, _⟩ := Jdh.1 g1
         obtain ⟨y2, f2, z2, _⟩ := Jdh.1 g2
         have l1 := (gsI.1 f1).1
         have l2 := (gsI.1 f2).1
         simp [h3, e, hre, -getElem?_pos, List.getElem?_cons_zero, List.getElem?_cons_succ]
         refine Jai.intro (by kernel_rfl) ?_
         simp
         refine Jab (Jgy c x.fr z1 l1) ?_
         simp
         refine Jab (Jgy c x.to z2 l2) ?_
         simp
         refine ⟨.of (by kernel_rfl), Jai.intro (by kernel_rfl) ?_⟩
         simp
         refine Ja4 (Jg2 ES hOk (Jax c x.fr).part _ _ _ _ (by simp) (by simp) rfl rfl) ?_
         simp
         refine Ja4 (Jg2 ES hOk (Jax c x.to).part _ _ _ _ (by simp) (by simp) rfl rfl) ?_
         simp
         refine ⟨.of (by kernel_rfl), Jai.intro (by kernel_rfl) ?_⟩
         simp
         refine Jab (Jjx (Jbz (rnT ES) (Jax c x.fr)) (Jbz (rnT ES) (Jax c x.to))) ?_
         simp
         refine ⟨.of (by kernel_rfl), wrap_i64 (by omega) (by omega), k + 1, by omega, by omega, by omega, ?_⟩
         rw [Jup e]
         simp [hre, mapX, ordX]
         try decide
       simp at h3
       have hkl : k = c.pipes.length := by omega
       subst hkl
       have hren : (renD c old new).pipes.map ordX = c.pipes.map (mapX (rnT ES) c) := by
         have : rnT ES = Jbe c old new := funext hrn
         rw [this]
         unfold renD mapD drfC
         simp only [List.map_map]
         rfl
       have hnx : ((renD c old new).pipes.map ordX).Nodup := Jum h (f := Jbe c old new) hnn
       have hXe : rnX ES c c.pipes.length = (renD c old new).pipes.map ordX := by
         unfold rnX
         rw [List.take_length, <- hren]
         have := Jgu (xs := []) (l := (renD c old new).pipes.map ordX) (us := []) (by simpa using hnx) (by simp)
         rw [List.nil_append] at this
         rw [this, List.nil_append]
         exact List.filter_eq_self.2 fun x _ => by simp
       have hDo : DrfOk (renD c old new) := by
         refine ⟨hnn, fun x hx => ?_⟩
         obtain ⟨y, hy, rfl⟩ := List.mem_map.1 hx
         obtain ⟨g1, g2⟩ := (Jf9 h).ends y hy
         obtain ⟨p1, hp1, e1⟩ := List.mem_map.1 g1
         obtain ⟨p2, hp2, e2⟩ := List.mem_map.1 g2
         refine ⟨List.mem_map.2 ⟨Jbw (Jbe c old new) p1, List.mem_map_of_mem hp1, ?_⟩, List.mem_map.2 ⟨Jbw (Jbe c old new) p2, List.mem_map_of_mem hp2, ?_⟩⟩
         . show Jbe c old new p1.name = Jbe c old new y.1.part
           rw [e1]
         . show Jbe c old new p2.name = Jbe c old new y.2.part
           rw [e2]
       have hdr : Jd5 ⟨(renD c old new).parts, (renD c old new).pipes.map ordX⟩ = Jap (renD c old new) := Jm0 hDo rfl rfl
       have hxl2 : ((renD c old new).pipes.map ordX).length <= 2000 := by rw [hren, List.length_map]; omega
       have hrpl : (renD c old new).parts.length = c.parts.length := List.length_map ..
       rw [hXe]
       simp
       refine Ja4 (Jii _ _ hnn hnx (by omega) hxl2 _ _ _ _ _ (by simp) (by simp) rfl rfl rfl) ?_
       rw [hdr]
       have hsz : Sized (Jap (renD c old new)) := by
         refine ⟨?_, ?_, fun p hp => ?_⟩
         . rw [(Jgh hDo).length_eq, hrpl]; omega
         . rw [<- hdr]; show ((Jar Ja6 _).map _).length < _; rw [List.length_map, Jea]; show ((renD c old new).pipes.map ordX).length < _; omega
         . have hp2 := (Jgh hDo).mem_iff.1 hp
           obtain ⟨q, hq, rfl⟩ := List.mem_map.1 hp2
           show (Jbe c old new q.name).length < _
           have := hs.names q hq
           have h24 := (Jfh (Jdq (Jds h hq)).2.1).2.2
           unfold Jbe
           split
           . omega
           . split
             . simp; omega
             . split
               . simp; omega
               . omega
       have hE : rnmE c old new = Jad (Jap (renD c old new)) := by unfold rnmE; rw [h, if_neg (by simp), if_neg (by omega), if_neg (by simpa using hnn)]
       generalize hSR : Jap (renD c old new) = SR' at hsz hE ⊢
       simp
       refine Jab (Jex SR' hsz) ?_
       by_cases hcs : Jad SR' = 0
       . have hC : rnmC c old new = SR' := by unfold rnmC; rw [if_pos (hE.trans hcs), hSR]
         simp [hcs, Jaa, hE, hC]
       . have hC : rnmC c old new = noC := by unfold rnmC; rw [if_neg (by rw [hE]; exact hcs)]
         simp [hcs, Jaa, hE, hC, noC]
     . have hlt : (rnP ES c.parts).length < c.parts.length := by
         rw [hRPe]
         have := Jme (ps := []) (l := c.parts.map (Jbw (Jbe c old new))) (by simpa [renD, mapD, drfC] using hnn) List.nodup_nil
         simpa using this
       have hE : rnmE c old new = 7 := by unfold rnmE; rw [h, if_neg (by simp), if_neg (by omega), if_pos hnn]
       have hC : rnmC c old new = noC := by unfold rnmC; rw [if_neg (by rw [hE]; decide)]
       simp [hlt, Jaa, hE, hC, noC]
   . simp [hk, hk0]
     have hend : toM c old new 0 = Jer c old new := by unfold Jer; rw [hka, if_neg hk]
     rw [hm0, hend]
     have hOk := @Jsr c old new
     have hrn := fun s => @Juo c h old new s
     generalize Jer c old new = ES at hOk hrn
     have hre := Jd0 hOk
     refine Ja4 (Jij _ _) ?_
     simp
     refine Jah.go [3, 6, 15, 16, 81, 82] [0, 1, 2, 3, 5, 6] 0 [] (fun _ => []) (fun _ (k : Nat) => [(83, .p (.int .i64 k))]) (fun _ k => [(4, some (.map (Jas (rnP ES (c.parts.take k)))))]) (fun k => k <= c.parts.length) (fun k => c.parts.length - k) 0 (by omega) ?_ ?_
     . have : rnP ES (c.parts.take 0) = [] := by simp [rnP, addN]
       rw [this]
       simp [hre, Jas]
       try decide
     intro k hk2
     simp [hre]
     refine Jac (fun h3 => ?_) (fun h3 => ?_)
     . simp at h3
       obtain ⟨p, e⟩ := Jag h3
       simp [h3, e, hre, -getElem?_pos, List.getElem?_cons_zero, List.getElem?_cons_succ]
       refine Ja4 (Jg2 ES hOk p.name _ _ _ _ (by simp) (by simp) rfl rfl) ?_
       simp
       refine Jai.intro (by kernel_rfl) ?_
       simp
       refine ⟨.of (by kernel_rfl), wrap_i64 (by omega) (by omega), k + 1, by omega, by omega, by omega, ⟨?_, ?_⟩, by decide⟩
       . rw [Jun e]
         exact Ji7 (p := Jbw (rnT ES) p)
       . simp [hre]
     simp at h3
     have hkl : k = c.parts.length := by omega
     subst hkl
     rw [List.take_length]
     have hRPe : rnP ES c.parts = addN [] (c.parts.map (Jbw (Jbe c old new))) := by
       unfold rnP
       have : rnT ES = Jbe c old new := funext hrn
       rw [this]
     have hRl : (rnP ES c.parts).length <= c.parts.length := by
       rw [hRPe]
       have := @Jjq (c.parts.map (Jbw (Jbe c old new))) []
       simpa using this
     simp [hre]
     refine Jai.intro (by kernel_rfl) ?_
     simp [hre]
     refine ⟨.of (by kernel_rfl), ?_⟩
     by_cases hnn : ((renD c old new).parts.map (·.name)).Nodup
     . have hRP : rnP ES c.parts = (renD c old new).parts := by
         rw [hRPe]
         have := Jmf (ps := []) (l := c.parts.map (Jbw (Jbe c old new))) (by simpa [renD, mapD, drfC] using hnn)
         simpa [renD, mapD, drfC] using this
       have hRl2 : (rnP ES c.parts).length = c.parts.length := by rw [hRP]; exact List.length_map ..
       rw [hRl2]
       simp
       rw [hRP]
       refine Jah.go [3, 6, 15, 16, 111, 112] [0, 1, 2, 3, 4, 6] 0 [] (fun _ => []) (fun _ (k : Nat) => [(113, .p (.int .i64 k))]) (fun _ k => [(5, some (.map (Jaw (rnX ES c k))))]) (fun k => k <= c.pipes.length) (fun k => c.pipes.length - k) 0 (by omega) ?_ ?_
       . have : rnX ES c 0 = [] := by simp [rnX, addX]
         rw [this]
         simp [hre, Jaw]
         try decide
       intro k hk2
       simp [hre]
       refine Jac (fun h3 => ?_) (fun h3 => ?_)
       . simp at h3
         obtain ⟨x, e⟩ := Jag h3
         have hxm := List.mem_of_getElem? e
         obtain ⟨g1, g2, _⟩ := Jem h hxm
         obtain ⟨y1, f1, z1, _⟩ := Jdh.1 g1
         obtain ⟨y2, f2, z2, _⟩ := Jdh.1 g2
         have l1 := (gsI.1 f1).1
         have l2 := (gsI.1 f2).1
         simp [h3, e, hre, -getElem?_pos, List.getElem?_cons_zero, List.getElem?_cons_succ]
         refine Jai.intro (by kernel_rfl) ?_
         simp
         refine Jab (Jgy c x.fr z1 l1) ?_
         simp
         refine Jab (Jgy c x.to z2 l2) ?_
         simp
         refine ⟨.of (by kernel_rfl), Jai.intro (by kernel_rfl) ?_⟩
         simp
         refine Ja4 (Jg2 ES hOk (Jax c x.fr).part _ _ _ _ (by simp) (by simp) rfl rfl) ?_
         simp
         refine Ja4 (Jg2 ES hOk (Jax c x.to).part _ _ _ _ (by simp) (by simp) rfl rfl) ?_
         simp
         refine ⟨.of (by kernel_rfl), Jai.intro (by kernel_rfl) ?_⟩
         simp
         refine Jab (Jjx (Jbz (rnT ES) (Jax c x.fr)) (Jbz (rnT ES) (Jax c x.to))) ?_
         simp
         refine ⟨.of (by kernel_rfl), wrap_i64 (by omega) (by omega), k + 1, by omega, by omega, by omega, ?_⟩
         rw [Jup e]
         simp [hre, mapX, ordX]
         try decide
       simp at h3
       have hkl : k = c.pipes.length := by omega
       subst hkl
       have hren : (renD c old new).pipes.map ordX = c.pipes.map (mapX (rnT ES) c) := by
         have : rnT ES = Jbe c old new := funext hrn
         rw [this]
         unfold renD mapD drfC
         simp only [List.map_map]
         rfl
       have hnx : ((renD c old new).pipes.map ordX).Nodup := Jum h (f := Jbe c old new) hnn
       have hXe : rnX ES c c.pipes.length = (renD c old new).pipes.map ordX := by
         unfold rnX
         rw [List.take_length, <- hren]
         have := Jgu (xs := []) (l := (renD c old new).pipes.map ordX) (us := []) (by simpa using hnx) (by simp)
         rw [List.nil_append] at this
         rw [this, List.nil_append]
         exact List.filter_eq_self.2 fun x _ => by simp
       have hDo : DrfOk (renD c old new) := by
         refine ⟨hnn, fun x hx => ?_⟩
         obtain ⟨y, hy, rfl⟩ := List.mem_map.1 hx
         obtain ⟨g1, g2⟩ := (Jf9 h).ends y hy
         obtain ⟨p1, hp1, e1⟩ := List.mem_map.1 g1
         obtain ⟨p2, hp2, e2⟩ := List.mem_map.1 g2
         refine ⟨List.mem_map.2 ⟨Jbw (Jbe c old new) p1, List.mem_map_of_mem hp1, ?_⟩, List.mem_map.2 ⟨Jbw (Jbe c old new) p2, List.mem_map_of_mem hp2, ?_⟩⟩
         . show Jbe c old new p1.name = Jbe c old new y.1.part
           rw [e1]
         . show Jbe c old new p2.name = Jbe c old new y.2.part
           rw [e2]
       have hdr : Jd5 ⟨(renD c old new).parts, (renD c old new).pipes.map ordX⟩ = Jap (renD c old new) := Jm0 hDo rfl rfl
       have hxl2 : ((renD c old new).pipes.map ordX).length <= 2000 := by rw [hren, List.length_map]; omega
       have hrpl : (renD c old new).parts.length = c.parts.length := List.length_map ..
       rw [hXe]
       simp
       refine Ja4 (Jii _ _ hnn hnx (by omega) hxl2 _ _ _ _ _ (by simp) (by simp) rfl rfl rfl) ?_
       rw [hdr]
       have hsz : Sized (Jap (renD c old new)) := by
         refine ⟨?_, ?_, fun p hp => ?_⟩
         . rw [(Jgh hDo).length_eq, hrpl]; omega
         . rw [<- hdr]; show ((Jar Ja6 _).map _).length < _; rw [List.length_map, Jea]; show ((renD c old new).pipes.map ordX).length < _; omega
         . have hp2 := (Jgh hDo).mem_iff.1 hp
           obtain ⟨q, hq, rfl⟩ := List.mem_map.1 hp2
           show (Jbe c old new q.name).length < _
           have := hs.names q hq
           have h24 := (Jfh (Jdq (Jds h hq)).2.1).2.2
           unfold Jbe
           split
           . omega
           . split
             . simp; omega
             . split
               . simp; omega
               . omega
       have hE : rnmE c old new = Jad (Jap (renD c old new)) := by unfold rnmE; rw [h, if_neg (by simp), if_neg (by omega), if_neg (by simpa using hnn)]
       generalize hSR : Jap (renD c old new) = SR' at hsz hE ⊢
       simp
       refine Jab (Jex SR' hsz) ?_
       by_cases hcs : Jad SR' = 0
       . have hC : rnmC c old new = SR' := by unfold rnmC; rw [if_pos (hE.trans hcs), hSR]
         simp [hcs, Jaa, hE, hC]
       . have hC : rnmC c old new = noC := by unfold rnmC; rw [if_neg (by rw [hE]; exact hcs)]
         simp [hcs, Jaa, hE, hC, noC]
     . have hlt : (rnP ES c.parts).length < c.parts.length := by
         rw [hRPe]
         have := Jme (ps := []) (l := c.parts.map (Jbw (Jbe c old new))) (by simpa [renD, mapD, drfC] using hnn) List.nodup_nil
         simpa using this
       have hE : rnmE c old new = 7 := by unfold rnmE; rw [h, if_neg (by simp), if_neg (by omega), if_pos hnn]
       have hC : rnmC c old new = noC := by unfold rnmC; rw [if_neg (by rw [hE]; decide)]
       simp [hlt, Jaa, hE, hC, noC]
 . have hE : rnmE c old new = Jad c := if_pos h
   have hC : rnmC c old new = noC := by unfold rnmC; rw [if_neg (by rw [hE]; exact h)]
   simp [h, Jaa, hE, hC, noC]
end Go.Am
