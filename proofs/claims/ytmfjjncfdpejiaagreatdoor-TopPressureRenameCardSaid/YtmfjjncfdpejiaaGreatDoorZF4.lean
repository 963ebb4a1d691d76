/- Lemmas and contracts for the proof of a statement of this seat. -/
import Derived.Test.YtmfjjncfdpejiaaGreatDoorZF3
set_option linter.unusedVariables false
set_option linter.unusedSimpArgs false
namespace Go.Am
open Go Go.Proofs Go.Pn
def toN (x : Int) : Int := if x = -1 then -1099511627776 else x
def nA (x : Int) : AV := .p (.int .i64 (toN x))
theorem Jkk {x : Int} (h : x ≠ -1) : toN x = x := if_neg h
theorem J17 : toN (-1) = -1099511627776 := rfl
theorem Kgr {x y : Int} (hx : -1 <= x) (hy : -1 <= y) (h : toN x = toN y) : x = y := by
 unfold toN at h
 split at h <;> split at h <;> omega
def zrow (k : Nat) : List AV := (List.range 64).map fun j => if j < k then nA (-1) else .p (.int .i64 0)
theorem Jku {k : Nat} : (zrow k).length = 64 := by simp [zrow]
theorem Kio {k : Nat} : (zrow k).set k (nA (-1)) = zrow (k + 1) := by
 apply List.ext_getElem?
 intro i
 rw [List.getElem?_set, Jku]
 by_cases hi : i < 64
 . have a : ∀ m, (zrow m)[i]? = some (if i < m then nA (-1) else .p (.int .i64 0)) := fun m => by simp [zrow, hi]
   rw [a, a]
   by_cases h : k = i
   . subst h; rw [if_pos rfl, if_pos hi, if_pos (by omega)]
   . rw [if_neg h]
     by_cases h2 : i < k
     . rw [if_pos h2, if_pos (by omega)]
     . rw [if_neg h2, if_neg (by omega)]
 . rw [List.getElem?_eq_none (show (zrow (k + 1)).length <= i by rw [Jku]; omega), List.getElem?_eq_none (show (zrow k).length <= i by rw [Jku]; omega)]
   split
   . rename_i hki; rw [if_neg (by omega)]
   . rfl
@[simp] theorem Kq1 {ρ : List Nat} {k : Nat} : renL ρ (zrow k) = some (zrow k) := by
 unfold zrow
 induction (List.range 64) with
 | nil => rfl
 | cons i l ih => rw [List.map_cons, renL, ih]; split <;> rfl
@[simp] theorem Kjg {ρ : List Nat} {g : List Int} : renL ρ (g.map nA) = some (g.map nA) := by
 induction g with
 | nil => rfl
 | cons i l ih => rw [List.map_cons, renL, ih]; rfl
theorem Kbr {S : Store} {g : List Int} : toL S (g.map nA) (g.map nA) := by
 induction g with
 | nil => simp [toL]
 | cons i l ih => rw [List.map_cons, toL]; exact ⟨by unfold nA; simp [toV], ih⟩
theorem Kin {c : Circuit} (h : Jad c = 0) : zrow 64 = (firstT c 64 0).map nA := by
 unfold zrow firstT
 rw [List.map_map]
 apply List.map_congr_left
 intro i hi
 rw [List.mem_range] at hi
 rw [if_pos hi]
 simp [J9b h]
def inG (g : List Int) (a b n : Int) (j : Nat) : List Int := if j = 0 then g else if j = 1 then setI g a n else setI (setI g a n) b n
theorem J9k {g : List Int} {a b n : Int} {j : Nat} : (inG g a b n j).length = g.length := by unfold inG; split; rfl; split <;> simp [Jo5]
theorem J9l {g : List Int} {a b n : Int} {j : Nat} (hj : j < 2) : inG g a b n (j + 1) = setI (inG g a b n j) (if j = 0 then a else b) n := by
 have : j = 0 \/ j = 1 := by omega
 rcases this with rfl | rfl <;> simp [inG]
theorem Kfw {g : List Int} {a n : Int} (ha : 0 <= a) (hn : n ≠ -1) : (g.map nA).set a.toNat (.p (.int .i64 n)) = (setI g a n).map nA := by unfold setI; rw [if_pos ha, List.map_set, nA, Jkk hn]
theorem Jym {c : Circuit} (h : Jad c = 0) {k : Nat} {p : Part} (e : c.parts[k]? = some p) (h1 : p.kind = 1) (d : UInt8) : Jc7 c p.name d = swAt c (p.name ++ [d]) := by
 have h2 : Jal c k = 1 := by rw [Jrj e, h1]
 have h3 : Jf4 c p.name = 0 := by
   unfold Jf4
   rw [if_neg (show ¬ Jad c ≠ 0 by omega), Jih h e, if_neg (by omega), h2]
   rfl
 unfold Jc7
 rw [if_neg (by omega)]
theorem J11 {c : Circuit} (h : Jad c = 0) {k : Nat} {p : Part} (e : c.parts[k]? = some p) (d : UInt8) : swAt c (p.name ++ [d]) = -1 \/ (0 <= swAt c (p.name ++ [d]) /\ swAt c (p.name ++ [d]) < c.parts.length) := by
 rcases Jte h e d with ⟨h1, _⟩ | ⟨i, q, h1, h2, _, _⟩
 . exact .inl h1
 . have := (gsI.1 h2).1
   right; omega
set_option maxRecDepth 20000 in
theorem J44 (c : Circuit) (hs : Sized c) (h : Jad c = 0) : Pure Tryz.prog GL 321 [c.av] (.agg ((firstT c 64 c.parts.length).map nA)) := by
 refine Pure.of_walk (N := 64) Tryz.func321 rfl rfl rfl (by simp) (by first | (simp; done) | simp [*]) ?_
 have h2 := Jbg h
 simp
 rw [show ([AV.p (.int .i64 0), AV.p (.int .i64 0), AV.p (.int .i64 0), AV.p (.int .i64 0), AV.p (.int .i64 0), AV.p (.int .i64 0), AV.p (.int .i64 0), AV.p (.int .i64 0), AV.p (.int .i64 0), AV.p (.int .i64 0), AV.p (.int .i64 0), AV.p (.int .i64 0), AV.p (.int .i64 0), AV.p (.int .i64 0), AV.p (.int .i64 0), AV.p (.int .i64 0), AV.p (.int .i64 0), AV.p (.int .i64 0), AV.p (.int .i64 0), AV.p (.int .i64 0), AV.p (.int .i64 0), AV.p (.int .i64 0), AV.p (.int .i64 0), AV.p (.int .i64 0), AV.p (.int .i64 0), AV.p (.int .i64 0), AV.p (.int .i64 0), AV.p (.int .i64 0), AV.p (.int .i64 0), AV.p (.int .i64 0), AV.p (.int .i64 0), AV.p (.int .i64 0), AV.p (.int .i64 0), AV.p (.int .i64 0), AV.p (.int .i64 0), AV.p (.int .i64 0), AV.p (.int .i64 0), AV.p (.int .i64 0), AV.p (.int .i64 0), AV.p (.int .i64 0), AV.p (.int .i64 0), AV.p (.int .i64 0), AV.p (.int .i64 0), AV.p (.int .i64 0), AV.p (.int .i64 0), AV.p (.int .i64 0), AV.p (.int .i64 0), AV.p (.int .i64 0), AV.p (.int .i64 0), AV.p (.int .i64 0), AV.p (.int .i64 0), AV.p (.int .i64 0), AV.p (.int .i64 0), AV.p (.int .i64 0), AV.p (.int .i64 0), AV.p (.int .i64 0), AV.p (.int .i64 0), AV.p (.int .i64 0), AV.p (.int .i64 0), AV.p (.int .i64 0), AV.p (.int .i64 0), AV.p (.int .i64 0), AV.p (.int .i64 0), AV.p (.int .i64 0)] : List AV) = zrow 0 from rfl]
 refine Jag.go [1, 2, 3] [0, 1] 0 [] (fun _ => []) (fun _ (k : Nat) => [(13, .p (.int .i64 k))]) (fun _ k => [(2, some (.cells 64 [zrow k]))]) (fun k => k <= 64) (fun k => 64 - k) 0 (by omega) ?_ ?_
 . simp
   try decide
 intro k hk
 have hzl := @Jku k
 have hzs := @Kio k
 simp
 refine Jac (fun h3 => ?_) (fun h3 => ?_)
 . simp at h3
   have h3' : k < 64 := by omega
   simp [h3, h3', hzl, -getElem?_pos, List.getElem?_cons_zero, List.getElem?_cons_succ]
   refine ⟨by omega, wrap_i64 (by omega) (by omega), k + 1, by omega, by omega, by omega, ?_⟩
   rw [show (AV.p (PV.int IntKind.i64 (-1099511627776))) = nA (-1) from rfl, hzs]
   exact Jcq _
 . simp at h3
   have hk2 : k = 64 := by omega
   subst hk2
   rw [Kin h]
   simp
   refine Jag.go [1, 2, 3, 20, 21] [0, 1] 0 [] (fun _ => []) (fun _ (k : Nat) => [(5, .p (.int .i64 (cylN c k))), (22, .p (.int .i64 k))]) (fun _ k => [(2, some (.cells 64 [(firstT c 64 k).map nA]))]) (fun k => k <= c.parts.length) (fun k => c.parts.length - k) 0 (by omega) ?_ ?_
   . simp [cylN]
     try decide
   intro k hk
   have hl := @Jcy c 64 k
   have hcs := fun {p : Part} (e : c.parts[k]? = some p) => J6z e
   have hle := @J6y c k
   have hpos := @Jqt c k
   simp
   refine Jac (fun h3 => ?_) (fun h3 => ?_)
   . simp at h3
     obtain ⟨p, e⟩ := Jae h3
     have hcs := hcs e
     by_cases k0 : p.kind = 0
     . have hst := J72 (n := 64) h e k0 (by omega)
       rw [if_neg (by omega)] at hcs
       simp [h3, e, k0, hl, -getElem?_pos, List.getElem?_cons_zero, List.getElem?_cons_succ]
       refine ⟨by omega, by omega, wrap_i64 (by omega) (by omega), k + 1, by omega, by omega, ⟨by omega, by omega⟩, ?_⟩
       rw [hst, List.map_set]
       exact Jcq _
     . by_cases k1 : p.kind = 1
       . have hcyl := J70 (n := 64) h e k1 (by omega)
         have hl0 := Jym h e k1 48
         have hl1 := Jym h e k1 49
         have hr0 := J11 h e 48
         have hr1 := J11 h e 49
         have hnl := hs.names p (List.mem_of_getElem? e)
         rw [if_pos k1] at hcs
         generalize swAt c (p.name ++ [48]) = s0 at *
         generalize swAt c (p.name ++ [49]) = s1 at *
         have hcn : cylN c (k + 1) ≠ -1 := by omega
         have hw : IntKind.i64.wrap (cylN c k + 1) = cylN c (k + 1) := by rw [hcs]; exact wrap_i64 (by omega) (by omega)
         have hnn : AV.p (.int .i64 (cylN c (k + 1))) = nA (cylN c (k + 1)) := by unfold nA; rw [Jkk hcn]
         simp [h3, e, k1, hl, hw, -getElem?_pos, List.getElem?_cons_zero, List.getElem?_cons_succ]
         refine ⟨by omega, by omega, by omega, ?_⟩
         refine Jab (Jvb c p.name hs hnl) ?_
         simp [hl0, hl1, -getElem?_pos, List.getElem?_cons_zero, List.getElem?_cons_succ]
         rw [<- hcs, show (List.map nA (firstT c 64 k)).set k (AV.p (.int .i64 (cylN c (k + 1)))) = List.map nA ((firstT c 64 k).set k (cylN c (k + 1))) by rw [hnn, List.map_set]]
         generalize hbase : (firstT c 64 k).set k (cylN c (k + 1)) = base at *
         have hbl : base.length = 64 := by rw [<- hbase, List.length_set, hl]
         generalize hn : cylN c (k + 1) = n at *
         refine Jag.go [1, 2, 3, 5, 20, 21, 22, 50, 51] [0, 1, 4] 0 [] (fun _ => []) (fun _ (j : Nat) => [(52, .p (.int .i64 j))]) (fun _ j => [(2, some (.cells 64 [(inG base s0 s1 n j).map nA]))]) (fun j => j <= 2) (fun j => 2 - j) 0 (by omega) ?_ ?_
         . simp [inG]
           try decide
         intro j hj
         have hr5 : List.range 5 = [0, 1, 2, 3, 4] := rfl
         have hil := (@J9k base s0 s1 n j).trans hbl
         have hist := @J9l base s0 s1 n j
         simp
         refine Jac (fun h4 => ?_) (fun h4 => ?_)
         . simp at h4
           have hj2 : j = 0 \/ j = 1 := by omega
           have hist := hist (by omega)
           have hel : [[AV.p (PV.int IntKind.i64 s0)], [AV.p (PV.int IntKind.i64 s1)]][j]? = some [AV.p (PV.int IntKind.i64 (if j = 0 then s0 else s1))] := by
             rcases hj2 with rfl | rfl <;> rfl
           generalize hx : (if j = 0 then s0 else s1) = x at *
           have hxr : x = -1 \/ (0 <= x /\ x < c.parts.length) := by rw [<- hx]; split <;> assumption
           by_cases hx0 : 0 <= x
           . have hset := @Kfw (inG base s0 s1 n j) x n hx0 hcn
             simp [h4, hel, hx0, hil, hr5, -getElem?_pos, List.getElem?_cons_zero, List.getElem?_cons_succ]
             rw [hset, <- hist]
             exact ⟨by omega, by omega, wrap_i64 (by omega) (by omega), j + 1, by omega, by omega, by omega, Jcq _⟩
           . have hset : setI (inG base s0 s1 n j) x n = inG base s0 s1 n j := by unfold setI; rw [if_neg hx0]
             simp [h4, hel, hx0, hil, hr5, -getElem?_pos, List.getElem?_cons_zero, List.getElem?_cons_succ]
             rw [hset] at hist
             exact ⟨wrap_i64 (by omega) (by omega), j + 1, by omega, by omega, by omega, by rw [hist]; exact Jcq _⟩
         . simp at h4
           have hj2 : j = 2 := by omega
           subst hj2
           simp
           exact ⟨wrap_i64 (by omega) (by omega), k + 1, by omega, by omega, ⟨hn.symm, by omega⟩, by rw [hcyl]; exact Jcq _⟩
       . have hst := J71 (n := 64) h e k1 k0
         rw [if_neg k1] at hcs
         simp [h3, e, k0, k1, hl, -getElem?_pos, List.getElem?_cons_zero, List.getElem?_cons_succ]
         refine ⟨wrap_i64 (by omega) (by omega), k + 1, by omega, by omega, ⟨by omega, by omega⟩, ?_⟩
         rw [hst]
         exact Jcq _
   . simp at h3
     have hk2 : k = c.parts.length := by omega
     subst hk2
     have hlen : (List.map nA (firstT c 64 c.parts.length)).length = 64 := by rw [List.length_map, hl]
     have ht : List.take 64 (List.map nA (firstT c 64 c.parts.length)) = List.map nA (firstT c 64 c.parts.length) := List.take_of_length_le (by omega)
     have hly : lay (zrow 0) 0 (List.map nA (firstT c 64 c.parts.length)) = List.map nA (firstT c 64 c.parts.length) := Jc0 _ _ (by rw [Jku, hlen])
     simp [Jaa, ht, hly, hl, Jku]
     exact ⟨fun _ _ => rfl, Kbr⟩
end Go.Am
namespace Go.Am
open Go Go.Proofs Go.Pn
def rowI (x : Int) : List AV := [AV.p (.int .i64 x)]
def tab (f : Nat -> List Int) : List (List (List AV)) := (List.range 64).map fun i => (f i).map rowI
def tabP (f : Nat -> List Int) : List (List (List PV)) := (List.range 64).map fun i => (f i).map fun x => [PV.int .i64 x]
theorem Jdv {f : Nat -> List Int} : (tab f).length = 64 := by simp [tab]
theorem Jl2 {f : Nat -> List Int} {i : Nat} (h : i < 64) : (tab f).getD i [] = (f i).map rowI := by simp [tab, List.getD_eq_getElem?_getD, h]
theorem Kgi {f : Nat -> List Int} : ∀ l ∈ tab f, l.all Ja3 = true := by
 intro l hl
 obtain ⟨i, _, rfl⟩ := List.mem_map.1 hl
 rw [List.all_eq_true]
 intro r hr
 obtain ⟨x, _, rfl⟩ := List.mem_map.1 hr
 rfl
def nilRow : List AV := List.replicate 64 .nils
theorem Jfl : Ja3 nilRow = true := by decide +kernel
def kidC (f : Nat -> List Int) : List AV := Jf3 3 (tab f)
def kidK (f : Nat -> List Int) : Store := Jk9 3 (tab f)
theorem Jia {f : Nat -> List Int} : (kidC f).length = 64 := by unfold kidC; rw [Kaj, Jdv]
theorem Jny {f : Nat -> List Int} {i : Nat} (h : i < 64) : (kidC f)[i]? = some (.acc (3 + i) 1 (f i).length) := by
 unfold kidC
 rw [Kai (by rw [Jdv]; exact h), Jl2 h, List.length_map]
theorem Jem {f : Nat -> List Int} {i : Nat} (h : i < 64) (s : Store) : get (kidK f ++ s) (3 + i) = accB 1 ((f i).map rowI) := by
 unfold kidK
 rw [J8z (by rw [Jdv]; exact h), Jl2 h]
theorem Jd5 {f : Nat -> List Int} {b : Nat} (h : b < 3 \/ 67 <= b) (s : Store) : get (kidK f ++ s) b = get s b := by
 unfold kidK
 rw [Jxi, if_neg (by rw [Jdv]; omega)]
theorem Leads.cellsK {G : Jaf} {N : Nat} {t' t : Jan} {s' K : Store} {nx' nx : Nat} {f : Nat -> List Int} {R : List AV} (m : Nat) (b : Nat -> Nat) (hnx : 67 + m <= nx)
   (hK : KidS (Stay 3 64 m) s' K) (ht : KidT (Stay 3 64 m) t' t)
   (ha : get s' 2 = some (.cells 64 [R])) (hRl : R.length = 64) (hR : ∀ i, i < 64 -> ∃ y, R[i]? = some y /\ wkn y (.acc (b i) 1 (f i).length))
   (hb : ∀ i, i < 64 -> ∀ x, accB 1 ((f i).map rowI) = some x -> get s' (b i) = some x) (hbn : ∀ i, i < 64 -> 3 <= b i /\ (b i < 67 \/ 67 + m <= b i)) (hbi : ∀ i j, i < 64 -> j < 64 -> b i = b j -> i = j) :
   Leads G N 0 ⟨t', s', nx'⟩ ⟨t, (2, some (.cells 64 [kidC f])) :: (kidK f ++ K), nx⟩ := by
 have h := @Leads.kid G N 0 t' t s' K nx' 2 3 nx (tab f) R m b (by omega) (by omega) (by rw [Jdv]; omega) (by rw [Jdv]; exact hK) (by rw [Jdv]; exact ht) (by rw [Jdv]; exact ha) (by rw [Jdv]; exact hRl)
   (fun i hi => by rw [Jdv] at hi; rw [Jl2 hi, List.length_map]; exact hR i hi) (fun i hi => by rw [Jdv] at hi; rw [Jl2 hi]; exact hb i hi)
   (fun i hi => by rw [Jdv] at hi ⊢; exact hbn i hi) (fun i j hi hj => by rw [Jdv] at hi hj; exact hbi i j hi hj) Kgi
 rw [Jdv] at h
 exact h
theorem Leads.cells0 {G : Jaf} {N : Nat} {t' t : Jan} {s' K : Store} {nx' nx : Nat} (hnx : 67 <= nx) (hK : KidS (Stay 3 64 0) s' K) (ht : KidT (Stay 3 64 0) t' t) (ha : get s' 2 = some (.cells 64 [nilRow])) :
   Leads G N 0 ⟨t', s', nx'⟩ ⟨t, (2, some (.cells 64 [kidC fun _ => []])) :: (kidK (fun _ => []) ++ K), nx⟩ :=
 .cellsK 0 (3 + ·) (by omega) hK ht ha (by simp [nilRow]) (fun i hi => ⟨.nils, by unfold nilRow; rw [List.getElem?_replicate, if_pos hi], by simp [wkn]⟩) (fun i _ x hx => by simp [accB] at hx) (fun i hi => by omega) (fun i j _ _ h => by omega)
theorem Leads.cellsS {G : Jaf} {N : Nat} {t' t : Jan} {s' K : Store} {nx' nx : Nat} {f : Nat -> List Int} (m : Nat) (hnx : 67 + m <= nx) (hK : KidS (Stay 3 64 m) s' K) (ht : KidT (Stay 3 64 m) t' t)
   (ha : get s' 2 = some (.cells 64 [kidC f])) (hb : ∀ i, i < 64 -> get s' (3 + i) = accB 1 ((f i).map rowI)) : Leads G N 0 ⟨t', s', nx'⟩ ⟨t, (2, some (.cells 64 [kidC f])) :: (kidK f ++ K), nx⟩ :=
 .cellsK m (3 + ·) hnx hK ht ha Jia (fun i hi => ⟨_, Jny hi, by simp⟩) (fun i hi x hx => by rw [hb i hi, hx]) (fun i hi => by omega) (fun i j _ _ h => by omega)
def addC (f : Nat -> List Int) (k : Nat) (x : Int) (i : Nat) : List Int := if i = k then f k ++ [x] else f i
theorem Leads.cellsA {G : Jaf} {N : Nat} {t' t : Jan} {s' K : Store} {nx' nx : Nat} {f : Nat -> List Int} (m : Nat) {k b : Nat} {x : Int} (hk : k < 64) (hnx : 67 + m <= nx) (hbm : 67 + m <= b) (hK : KidS (Stay 3 64 m) s' K) (ht : KidT (Stay 3 64 m) t' t)
   (ha : get s' 2 = some (.cells 64 [(kidC f).set k (.acc b 1 ((f k).length + 1))])) (hbk : get s' b = accB 1 ((f k ++ [x]).map rowI)) (hb : ∀ i, i < 64 -> i ≠ k -> get s' (3 + i) = accB 1 ((f i).map rowI)) :
   Leads G N 0 ⟨t', s', nx'⟩ ⟨t, (2, some (.cells 64 [kidC (addC f k x)])) :: (kidK (addC f k x) ++ K), nx⟩ :=
 .cellsK m (fun i => if i = k then b else 3 + i) hnx hK ht ha (by rw [List.length_set, Jia]) (fun i hi => by
   by_cases h : i = k
   . subst h
     refine ⟨_, List.getElem?_set_self (by rw [Jia]; exact hi), ?_⟩
     rw [if_pos rfl]; simp [addC]
   . refine ⟨_, by rw [List.getElem?_set_ne (Ne.symm h)]; exact Jny hi, ?_⟩
     rw [if_neg h]; simp [addC, h]) (fun i hi y hy => by
   by_cases h : i = k
   . subst h
     simp only [if_pos]
     rw [hbk, <- hy]; simp [addC]
   . simp only [if_neg h]
     rw [hb i hi h, <- hy]; simp [addC, h]) (fun i hi => by split <;> omega) (fun i j hi hj h => by
   split at h <;> split at h <;> omega)
def inF (f : Nat -> List Int) (i : Nat) (xs : List Int) (j : Nat) (k : Nat) : List Int := if k = i then f k ++ xs.take j else f k
theorem Jxm {f : Nat -> List Int} {i : Nat} {xs : List Int} : inF f i xs 0 = f := by funext k; unfold inF; split <;> simp
theorem J9j {f : Nat -> List Int} {i j : Nat} {xs : List Int} {x : Int} (e : xs[j]? = some x) : inF f i xs (j + 1) = addC (inF f i xs j) i x := by
 funext k
 unfold addC inF
 by_cases h : k = i
 . subst h; simp [List.take_add_one, e]
 . simp [h]
theorem Jdo {s : Store} {p : Nat × Option ABlk} {b : Nat} (h : p.1 ≠ b) : get (p :: s) b = get s b := by
 obtain ⟨a, x⟩ := p
 simp only [get, if_neg h]
def actR (c : Circuit) (i : Nat) : List Int := if Jad c = 0 /\ i < c.parts.length then actK c i else []
def outP (c : Circuit) (k i : Nat) : List Int := ((allP c).take k).flatMap (actP c i)
theorem Kec {c : Circuit} {k : Nat} {p : Port} (e : (allP c)[k]? = some p) : outP c (k + 1) = fun i => outP c k i ++ actP c i p := by
 funext i
 unfold outP
 rw [List.take_add_one, e]
 simp
def outL (c : Circuit) (k i : Nat) : List Int := outP c (allP c).length i ++ if i < k then (limL c i).filter fun x => decide (0 <= x) else []
theorem Kea {c : Circuit} : outL c 0 = outP c (allP c).length := by funext i; simp [outL]
theorem Kd7 {c : Circuit} {i : Nat} (h : i < c.parts.length) : outL c c.parts.length i = actK c i := by unfold outL actK outP; rw [if_pos h, List.take_length]
theorem Kd9 {c : Circuit} {k : Nat} {p : Part} (_ : c.parts[k]? = some p) : outL c (k + 1) = fun i => if i = k then outL c k k ++ (limL c k).filter (fun x => decide (0 <= x)) else outL c k i := by
 funext i
 unfold outL
 by_cases h : i = k
 . subst h; simp
 . rw [if_neg h]
   by_cases h2 : i < k
   . rw [if_pos h2, if_pos (by omega)]
   . rw [if_neg h2, if_neg (by omega)]
def inQ (f : Nat -> List Int) (i : Nat) (xs : List Int) (j : Nat) : Nat -> List Int := inF f i ((xs.take j).filter fun x => decide (0 <= x)) ((xs.take j).filter fun x => decide (0 <= x)).length
theorem J9o {f : Nat -> List Int} {i : Nat} {xs : List Int} : inQ f i xs 0 = f := Jxm
theorem J9n {f : Nat -> List Int} {i j : Nat} {xs : List Int} {x : Int} (e : xs[j]? = some x) (h : 0 <= x) : inQ f i xs (j + 1) = addC (inQ f i xs j) i x := by
 funext k
 unfold addC inQ inF
 by_cases hk : k = i
 . subst hk; simp [List.take_add_one, e, h]
 . simp [hk]
theorem J9m {f : Nat -> List Int} {i j : Nat} {xs : List Int} {x : Int} (e : xs[j]? = some x) (h : ¬ 0 <= x) : inQ f i xs (j + 1) = inQ f i xs j := by
 funext k
 unfold inQ inF
 by_cases hk : k = i
 . subst hk; simp [List.take_add_one, e, h]
 . simp [hk]
theorem Jr0 {c : Circuit} {k i : Nat} (h : (allP c).length <= 1200) : (outP c k i).length <= 1440000 := by
 have h1 : ∀ (l : List Port), (l.flatMap (actP c i)).length <= 1200 * l.length := fun l => by
   induction l with
   | nil => simp
   | cons p l ih =>
     rw [List.flatMap_cons, List.length_append, List.length_cons]
     have : (actP c i p).length <= 1200 := by
       unfold actP
       split
       . rw [List.length_map]
         exact Nat.le_trans (List.length_filter_le ..) (Nat.le_trans (List.length_filter_le ..) h)
       . simp
     omega
 have h2 := h1 ((allP c).take k)
 have h3 : ((allP c).take k).length <= (allP c).length := by rw [List.length_take]; exact Nat.min_le_right ..
 unfold outP
 omega
theorem Jud {c : Circuit} {p : Port} {i : Nat} (j : Nat) (e : p.part = i) : actP c j p = if j = i then (if Jfg c p then (Jfm c (around c p) false).map (·.part) else []) else [] := by
 unfold actP
 by_cases h : j = i
 . subst h; simp [e]
 . rw [if_neg h, if_neg]
   simp; intro h2; omega
theorem Keb {c : Circuit} (h : Jdq c) {k i : Nat} (hi : c.parts.length <= i) : outP c k i = [] := by
 unfold outP
 rw [List.flatMap_eq_nil_iff]
 intro p hp
 obtain ⟨j, q, e1, e2, _⟩ := Jsr h (List.mem_of_mem_take hp)
 rw [Jud i e1, if_neg (by omega)]
theorem Kah {f : Nat -> List Int} : ∀ x ∈ kidC f, (match x with
   | AV.agg _ => false
   | AV.tup _ => false
   | AV.any => false
   | _ => true) = true := by
 intro x hx
 unfold kidC Jf3 at hx
 obtain ⟨i, _, rfl⟩ := List.mem_map.1 hx
 rfl
theorem J16 {S : Store} {α : Type} {f g : α -> AV} : ∀ {l : List α}, (∀ i ∈ l, toV S (f i) (g i)) -> toL S (l.map f) (l.map g)
 | [], _ => by simp [toL]
 | i :: l, h => by
   rw [List.map_cons, List.map_cons, toL]
   exact ⟨h i (by simp), J16 fun j hj => h j (by simp [hj])⟩
theorem Kgq {S : Store} {f : Nat -> List Int} (h : ∀ i, i < 64 -> get S (3 + i) = accB 1 ((f i).map rowI)) : toL S (kidC f) ((tabP f).map fun l => .p (.lst 1 l)) := by
 unfold kidC Jf3 tabP
 rw [Jdv, List.map_map]
 refine J16 fun i hi => ?_
 rw [List.mem_range] at hi
 rw [Jl2 hi]
 simp only [Function.comp, toV, List.length_map, true_and]
 rw [h i hi]
 have e : (List.map rowI (f i)) = List.map (fun x => List.map AV.p x) (List.map (fun x => [PV.int IntKind.i64 x]) (f i)) := by rw [List.map_map]; rfl
 unfold accB
 split
 . rename_i hn
   rw [<- e, hn]; rfl
 . rename_i hn
   exact ⟨rfl, hn, e⟩
set_option maxRecDepth 20000 in
theorem J43 (c : Circuit) (hs : Sized c) : Pure Tryz.prog GL 320 [c.av] (.tup [.agg ((tabP (actR c)).map fun l => .p (.lst 1 l)), .p (.int .i64 (Jad c))]) := by
 refine Pure.of_walk (N := 124) Tryz.func320 rfl rfl rfl (by simp) (by first | (simp; done) | simp [*]) ?_
 have hPo := Jvf c hs
 simp
 refine Jab hPo ?_
 by_cases h : Jad c = 0
 . have h2 := Jbg h
   have hal := Ji4 h2.1 (by omega)
   simp [h]
   rw [show ([AV.nils, AV.nils, AV.nils, AV.nils, AV.nils, AV.nils, AV.nils, AV.nils, AV.nils, AV.nils, AV.nils, AV.nils, AV.nils, AV.nils, AV.nils, AV.nils, AV.nils, AV.nils, AV.nils, AV.nils, AV.nils, AV.nils, AV.nils, AV.nils, AV.nils, AV.nils, AV.nils, AV.nils, AV.nils, AV.nils, AV.nils, AV.nils, AV.nils, AV.nils, AV.nils, AV.nils, AV.nils, AV.nils, AV.nils, AV.nils, AV.nils, AV.nils, AV.nils, AV.nils, AV.nils, AV.nils, AV.nils, AV.nils, AV.nils, AV.nils, AV.nils, AV.nils, AV.nils, AV.nils, AV.nils, AV.nils, AV.nils, AV.nils, AV.nils, AV.nils, AV.nils, AV.nils, AV.nils, AV.nils] : List AV) = nilRow from rfl]
   refine Jag.goK [1, 2, 4, 31, 32] [0, 1] 64 (fun _ (k : Nat) => [(33, .p (.int .i64 k))]) (fun _ k => (2, some (.cells 64 [kidC (outP c k)])) :: kidK (outP c k)) (fun k => k <= (allP c).length) (fun k => (allP c).length - k) 0 (by omega) ?_ ?_
   . refine .cells0 (by omega) ?_ ?_ ?_
     . simp [Stay, Jfl]
     . simp [Stay]
     . simp [get]
   intro k hk
   generalize hf : outP c k = f at *
   have hkl := @Jia f
   have lo0 : ∀ s, get (kidK f ++ s) 0 = get s 0 := fun s => Jd5 (by omega) s
   have lo1 : ∀ s, get (kidK f ++ s) 1 = get s 1 := fun s => Jd5 (by omega) s
   have lo2 : ∀ s, get (kidK f ++ s) 2 = get s 2 := fun s => Jd5 (by omega) s
   simp
   refine Jac (fun h3 => ?_) (fun h3 => ?_)
   . simp at h3
     obtain ⟨p, e⟩ := Jae h3
     have hp : p ∈ allP c := List.mem_of_getElem? e
     obtain ⟨i, q, e1, e2, e3, e4, e5, e6, e7, e8⟩ := Jsr h2.1 hp
     have hro := Jqe q.kind p.name e5
     rw [e7, if_neg (by omega), if_neg (by omega)] at hro
     simp [h3, e, e1, e3, -getElem?_pos, List.getElem?_cons_zero, List.getElem?_cons_succ]
     refine Jaj.intro (by kernel_rfl) ?_
     simp [e2, e3, Part.enc, lo0, lo1, lo2, -getElem?_pos, List.getElem?_cons_zero, List.getElem?_cons_succ]
     refine Jab hro ?_
     simp
     refine ⟨.of (by kernel_rfl), ?_⟩
     have hsn := Kec e
     have hact := fun j => @Jud c p i j e1
     by_cases hg : Jdu c p = 1
     . have htk := J4p c p hs
       have hse : Jfq c p = 0 := by unfold Jfq; rw [if_neg (by simpa using h), Jdl.1 hp]
       have hsl : Jo6 c p false = Jfm c (around c p) false := by unfold Jo6; rw [if_neg (by simpa using hse)]
       have hgv : Jfg c p = true := decide_eq_true hg
       rw [hse, hsl] at htk
       obtain ⟨pi, pn⟩ := p
       simp only at e1
       subst e1
       have htp : ∀ t ∈ Jfm c (around c ⟨(i : Int), pn⟩) false, t ∈ allP c := fun t ht => (List.mem_filter.1 (List.mem_filter.1 ht).1).1
       have hTl : (Jfm c (around c ⟨(i : Int), pn⟩) false).length <= 1200 := Nat.le_trans (List.length_filter_le ..) (Nat.le_trans (List.length_filter_le ..) hal)
       generalize Jfm c (around c ⟨(i : Int), pn⟩) false = T at *
       simp [hg, lo0, lo1, lo2]
       refine Jab htk ?_
       simp [hg, lo0, lo1, lo2]
       refine Jag.goK [1, 2, 4, 8, 31, 32, 33, 66, 67] [0, 1, 67] 0 (fun _ (j : Nat) => [(68, .p (.int .i64 j))]) (fun _ j => (2, some (.cells 64 [kidC (inF f i (T.map (·.part)) j)])) :: kidK (inF f i (T.map (·.part)) j)) (fun j => j <= T.length) (fun j => T.length - j) 0 (by omega) ?_ ?_
       . rw [Jxm]
         refine .cellsS 1 (by omega) ?_ ?_ ?_ ?_
         . simp [Stay, Jfl, get, lo0, lo1]
         . simp [Stay]
         . simp [get]
         . exact fun j hj => by rw [Jdo (by simp; omega), Jdo (by simp; omega), Jdo (by simp; omega), Jem hj]
       . intro j hj
         generalize hf' : inF f i (T.map (·.part)) j = f' at *
         have hkl' := @Jia f'
         have li0 : ∀ s, get (kidK f' ++ s) 0 = get s 0 := fun s => Jd5 (by omega) s
         have li1 : ∀ s, get (kidK f' ++ s) 1 = get s 1 := fun s => Jd5 (by omega) s
         have li2 : ∀ s, get (kidK f' ++ s) 2 = get s 2 := fun s => Jd5 (by omega) s
         have li67 : ∀ s, get (kidK f' ++ s) 67 = get s 67 := fun s => Jd5 (by omega) s
         have hi64 : i < 64 := by omega
         have hfl : (f' i).length <= 1500000 := by
           have h9 := Jr0 (k := k) (i := i) hal
           rw [<- hf', inF, if_pos rfl, List.length_append, <- hf]
           have : (List.take j (List.map (fun x => x.part) T)).length <= T.length := by rw [List.length_take, List.length_map]; exact Nat.min_le_right ..
           have : T.length <= 1200 := hTl
           omega
         have hat := Jny (f := f') hi64
         have hki : ∀ s, get (kidK f' ++ s) (3 + i) = accB 1 ((f' i).map rowI) := fun s => Jem hi64 s
         simp [lo0, lo1]
         refine Jac (fun h4 => ?_) (fun h4 => ?_)
         . simp at h4
           obtain ⟨t, et⟩ := Jae h4
           simp [h4, et, lo0, lo1, li0, li1, li2, li67, -getElem?_pos, List.getElem?_cons_zero, List.getElem?_cons_succ]
           refine Jaj.intro (by kernel_rfl) ?_
           have n1 : ¬ 68 = 3 + i := by omega
           have n2 : ¬ 2 = 3 + i := by omega
           have n3 : ¬ 3 + i = 2 := by omega
           have n4 : ¬ 3 + i = 68 := by omega
           have n5 : ¬ 69 = 3 + i := by omega
           have n6 : ¬ 70 = 3 + i := by omega
           have n7 : ¬ 71 = 3 + i := by omega
           have n9 : ¬ 67 = 3 + i := by omega
           have n10 : ¬ 3 + i = 1 := by omega
           have n11 : ¬ 3 + i = 67 := by omega
           have n8 : ((f' i).length + 1) * 8 <= 35184372088832 := by omega
           simp [hat, hki, hkl', hi64, n1, n2, n3, n4, n5, n6, n7, n8, li0, li1, li2, li67, -getElem?_pos, List.getElem?_cons_zero, List.getElem?_cons_succ]
           refine ⟨by omega, by omega, by omega, fun _ _ => rfl, by omega, by omega, Bears.swap 999999 (3 + i) (fps' := [([], []), ([67], []), ([], []), ([67], []), ([], []), ([2], []), ([], []), ([68], []), ([], [69]), ([999999, 69], [70, 999999]), ([], []), ([2], [2])]) (by simp [renF, swp, n1, n2, n3, n4, n5, n6, n7, n9]) (by kernel_rfl), wrap_i64 (by omega) (by omega), j + 1, by omega, by omega, ?_⟩
           rw [J9j (x := t.part) (by simp [et]), hf']
           refine .cellsA 1 (b := 70) hi64 (by omega) (by omega) ?_ ?_ ?_ ?_ ?_
           . simp [Stay, Jfl, get, lo0, lo1, li0, li1, li67, n5, n6, n1, n10, n11]
           . simp [Stay]
           . simp [get]
           . simp [get, rowI]
           . intro m hm hmi
             repeat rw [Jdo (by simp; omega)]
             exact Jem hm _
         . simp at h4
           have hj2 : j = T.length := by omega
           subst hj2
           simp
           have he : outP c (k + 1) = f' := by
             rw [hsn, hf, <- hf']; funext x; rw [hact x, hgv]; unfold inF
             by_cases hx : x = i <;> simp [hx]
           refine ⟨wrap_i64 (by omega) (by omega), k + 1, by omega, by omega, ?_⟩
           rw [he]
           refine .cellsS 0 (by omega) ?_ ?_ ?_ ?_
           . simp [Stay, Jfl, get, li0, li1]
           . simp [Stay]
           . simp [get]
           . exact fun m hm => by rw [Jdo (by simp; omega), Jem hm]
     . have hgv : Jfg c p = false := decide_eq_false hg
       have he : outP c (k + 1) = f := by rw [hsn, hf]; funext j; rw [hact j, hgv]; simp
       simp [hg]
       refine ⟨wrap_i64 (by omega) (by omega), k + 1, by omega, by omega, ?_⟩
       rw [he]
       refine .cellsS 0 (by omega) ?_ ?_ ?_ ?_
       . simp [Stay, Jfl, get, lo0, lo1]
       . simp [Stay]
       . simp [get]
       . exact fun j hj => by rw [Jdo (by simp; omega), Jdo (by simp; omega), Jdo (by simp; omega), Jem hj]
   . simp at h3
     have hk2 : k = (allP c).length := by omega
     subst hk2
     simp [lo0, lo1, lo2]
     refine Jag.goK [1, 2, 4, 86, 87] [0, 1] 0 (fun _ (k : Nat) => [(88, .p (.int .i64 k))]) (fun _ k => (2, some (.cells 64 [kidC (outL c k)])) :: kidK (outL c k)) (fun k => k <= c.parts.length) (fun k => c.parts.length - k) 0 (by omega) ?_ ?_
     . rw [Kea, hf]
       refine .cellsS 0 (by omega) ?_ ?_ ?_ ?_
       . simp [Stay, Jfl, get, lo0, lo1]
       . simp [Stay]
       . simp [get]
       . exact fun m hm => by rw [Jdo (by simp; omega), Jem hm]
     intro k hk
     generalize hf' : outL c k = f' at *
     have hkl' := @Jia f'
     have li0 : ∀ s, get (kidK f' ++ s) 0 = get s 0 := fun s => Jd5 (by omega) s
     have li1 : ∀ s, get (kidK f' ++ s) 1 = get s 1 := fun s => Jd5 (by omega) s
     have li2 : ∀ s, get (kidK f' ++ s) 2 = get s 2 := fun s => Jd5 (by omega) s
     simp [lo0, lo1]
     refine Jac (fun h3 => ?_) (fun h3 => ?_)
     . simp at h3
       obtain ⟨p, e⟩ := Jae h3
       simp [h3, e, li0, li1, li2, lo0, lo1, -getElem?_pos, List.getElem?_cons_zero, List.getElem?_cons_succ]
       refine Jab (Jvb c p.name hs (hs.names p (List.mem_of_getElem? e))) ?_
       have hst := Kd9 e
       rw [hf'] at hst
       by_cases hle : Jf4 c p.name = 0
       . rw [limL, Jrr e, if_pos hle] at hst
         generalize Jc7 c p.name 48 = s0 at *
         generalize Jc7 c p.name 49 = s1 at *
         simp [hle, li0, li1, li2, lo0, lo1, -getElem?_pos, List.getElem?_cons_zero, List.getElem?_cons_succ]
         refine Jag.goK [1, 2, 4, 15, 86, 87, 88, 105, 106] [0, 1, 68] 0 (fun _ (j : Nat) => [(107, .p (.int .i64 j))]) (fun _ j => (2, some (.cells 64 [kidC (inQ f' k [s0, s1] j)])) :: kidK (inQ f' k [s0, s1] j)) (fun j => j <= 2) (fun j => 2 - j) 0 (by omega) ?_ ?_
         . rw [J9o]
           refine .cellsS 2 (by omega) ?_ ?_ ?_ ?_
           . simp [Stay, Jfl, get, li0, li1, lo0, lo1]
           . simp [Stay]
           . simp [get]
           . intro m hm
             repeat rw [Jdo (by simp; omega)]
             exact Jem hm _
         intro j hj
         have hpos := fun {x : Int} => @J9n f' k j [s0, s1] x
         have hneg := fun {x : Int} => @J9m f' k j [s0, s1] x
         have hfl : (inQ f' k [s0, s1] j k).length <= 1500000 := by
           have h9 := Jr0 (k := (allP c).length) (i := k) hal
           have h10 : ∀ i (l : List Int), (inQ f' k l i k).length <= (f' k).length + l.length := fun i l => by
             unfold inQ inF
             rw [if_pos rfl, List.length_append]
             have a1 : (l.take i).length <= l.length := by rw [List.length_take]; exact Nat.min_le_right ..
             have a2 := List.length_filter_le (fun x => decide (0 <= x)) (l.take i)
             rw [List.take_length]
             omega
           have h11 := h10 j [s0, s1]
           have h12 : f' k = outP c (allP c).length k := by rw [<- hf', outL, if_neg (by omega), List.append_nil]
           rw [h12] at h11
           simp only [List.length_cons, List.length_nil] at h11
           omega
         generalize hg : inQ f' k [s0, s1] j = g at *
         have hkg := @Jia g
         have lj0 : ∀ s, get (kidK g ++ s) 0 = get s 0 := fun s => Jd5 (by omega) s
         have lj1 : ∀ s, get (kidK g ++ s) 1 = get s 1 := fun s => Jd5 (by omega) s
         have lj2 : ∀ s, get (kidK g ++ s) 2 = get s 2 := fun s => Jd5 (by omega) s
         have lj68 : ∀ s, get (kidK g ++ s) 68 = get s 68 := fun s => Jd5 (by omega) s
         have hi64 : k < 64 := by omega
         have hat := Jny (f := g) hi64
         have hki : ∀ s, get (kidK g ++ s) (3 + k) = accB 1 ((g k).map rowI) := fun s => Jem hi64 s
         simp [lo0, lo1, li0, li1]
         refine Jac (fun h4 => ?_) (fun h4 => ?_)
         . simp at h4
           have hj2 : j = 0 \/ j = 1 := by omega
           have hel : [[AV.p (PV.int IntKind.i64 s0)], [AV.p (PV.int IntKind.i64 s1)]][j]? = some [AV.p (PV.int IntKind.i64 (if j = 0 then s0 else s1))] := by
             rcases hj2 with rfl | rfl <;> rfl
           have hel2 : [s0, s1][j]? = some (if j = 0 then s0 else s1) := by
             rcases hj2 with rfl | rfl <;> rfl
           generalize (if j = 0 then s0 else s1) = x at *
           have n1 : ¬ 68 = 3 + k := by omega
           have n2 : ¬ 2 = 3 + k := by omega
           have n3 : ¬ 3 + k = 2 := by omega
           have n4 : ¬ 3 + k = 68 := by omega
           have n5 : ¬ 69 = 3 + k := by omega
           have n6 : ¬ 70 = 3 + k := by omega
           have n7 : ¬ 71 = 3 + k := by omega
           have n8 : ((g k).length + 1) * 8 <= 35184372088832 := by omega
           have n9 : ¬ 67 = 3 + k := by omega
           have n10 : ¬ 3 + k = 1 := by omega
           have n11 : ¬ 3 + k = 67 := by omega
           by_cases hx0 : 0 <= x
           . have hpos := hpos hel2 hx0
             simp [h4, hel, hx0, lj0, lj1, lj2, lj68, li0, li1, lo0, lo1, hat, hki, hkg, hi64, n1, n2, n3, n4, n5, n6, n7, n8, -getElem?_pos, List.getElem?_cons_zero, List.getElem?_cons_succ]
             refine ⟨by omega, by omega, by omega, fun _ _ => rfl, by omega, by omega, wrap_i64 (by omega) (by omega), j + 1, by omega, by omega, ?_⟩
             rw [hpos]
             refine .cellsA 2 (b := 70) hi64 (by omega) (by omega) ?_ ?_ ?_ ?_ ?_
             . simp [Stay, Jfl, get, lj0, lj1, lj68, n5, n6, n1, n4, n10, n11]
             . simp [Stay]
             . simp [get]
             . simp [get, rowI]
             . intro m hm hmi
               repeat rw [Jdo (by simp; omega)]
               exact Jem hm _
           . have hneg := hneg hel2 hx0
             simp [h4, hel, hx0, lj0, lj1, lj2, lj68, li0, li1, lo0, lo1, -getElem?_pos, List.getElem?_cons_zero, List.getElem?_cons_succ]
             refine ⟨wrap_i64 (by omega) (by omega), j + 1, by omega, by omega, ?_⟩
             rw [hneg]
             refine .cellsS 2 (by omega) ?_ ?_ ?_ ?_
             . simp [Stay, Jfl, get, lj0, lj1, lj68]
             . simp [Stay]
             . simp [get]
             . intro m hm
               repeat rw [Jdo (by simp; omega)]
               exact Jem hm _
         . simp at h4
           have hj2 : j = 2 := by omega
           subst hj2
           simp
           have he : outL c (k + 1) = g := by
             rw [hst, <- hg]; funext x
             unfold inQ inF
             rw [List.take_length]
             by_cases hx : x = k
             . subst hx; simp
             . simp [hx]
           refine ⟨wrap_i64 (by omega) (by omega), k + 1, by omega, by omega, ?_⟩
           rw [he]
           refine .cellsS 0 (by omega) ?_ ?_ ?_ ?_
           . simp [Stay, Jfl, get, lj0, lj1, lo0, lo1]
           . simp [Stay]
           . simp [get]
           . intro m hm
             repeat rw [Jdo (by simp; omega)]
             exact Jem hm _
       . rw [limL, Jrr e, if_neg hle] at hst
         simp [hle, li0, li1, li2, lo0, lo1, -getElem?_pos, List.getElem?_cons_zero, List.getElem?_cons_succ]
         have he : outL c (k + 1) = f' := by
           rw [hst]; funext x
           by_cases hx : x = k
           . subst hx; simp
           . simp [hx]
         refine ⟨wrap_i64 (by omega) (by omega), k + 1, by omega, by omega, ?_⟩
         rw [he]
         refine .cellsS 0 (by omega) ?_ ?_ ?_ ?_
         . simp [Stay, Jfl, get, li0, li1]
         . simp [Stay]
         . simp [get]
         . intro m hm
           repeat rw [Jdo (by simp; omega)]
           exact Jem hm _
     . simp at h3
       have hk2 : k = c.parts.length := by omega
       subst hk2
       have ht : List.take 64 (kidC f') = kidC f' := List.take_of_length_le (by omega)
       have hly : lay nilRow 0 (kidC f') = kidC f' := Jc0 _ _ (by rw [hkl']; rfl)
       simp [li1, li2, hkl', ht, hly]
       refine ⟨by decide, Kah, ?_⟩
       have htab : tabP (actR c) = tabP f' := by
         unfold tabP
         apply List.map_congr_left
         intro i hi
         rw [<- hf']
         unfold actR
         by_cases hp : i < c.parts.length
         . rw [if_pos ⟨h, hp⟩, Kd7 hp]
         . rw [if_neg (by omega), outL, if_neg hp, Keb h2.1 (by omega)]
           rfl
       rw [htab, h]
       simp [Jaa, hkl', ht]
       refine Kgq fun i hi => ?_
       repeat rw [Jdo (by simp; omega)]
       exact Jem hi _
 . simp [h]
   have ht : tabP (actR c) = List.replicate 64 [] := by
     unfold tabP
     rw [List.eq_replicate_iff]
     refine ⟨by simp, fun x hx => ?_⟩
     obtain ⟨i, _, rfl⟩ := List.mem_map.1 hx
     unfold actR
     rw [if_neg (by omega)]; rfl
   rw [ht]
   simp [Jaa]
end Go.Am
