/- Contracts: the library's sort, at texts, for at most twelve. -/
import Derived.Test.YthkjeoagelhocaaGreatDoorZC1
set_option linter.unusedVariables false
set_option linter.unusedSimpArgs false
namespace Go.Am
open Go Go.Proofs Go.Pn
theorem Jpv (n : Txt) : Pure Tryz.prog GL 124 [.p (.str n)] (.p (.bool false)) := by
 refine Pure.of_walk (N := 6) Tryz.func124 rfl rfl rfl (by simp) (by first | (simp; done) | simp [*]) ?_
 simp [Jaa]
theorem J4t (a b : Txt) : Pure Tryz.prog GL 94 [.p (.str a), .p (.str b)] (.p (.bool (Op.bytesLess a b))) := by
 refine Pure.of_walk (N := 17) Tryz.func94 rfl rfl rfl (by simp) (by first | (simp; done) | simp [*]) ?_
 simp
 refine Jab (Jpv a) ?_
 simp [Jaa]
set_option maxRecDepth 100000 in
theorem J5g (x : Nat) (hx : x <= 12) : Pure Tryz.prog GL 98 [.p (.int .u64 x)] (.p (.int .i64 (if x = 0 then 0 else Nat.log2 x + 1 : Nat))) := by
 refine Pure.of_walk (N := 25) Tryz.func98 rfl rfl rfl (by simp) (by first | (simp; done) | simp [*]) ?_
 rcases (by omega : x = 0 \/ x = 1 \/ x = 2 \/ x = 3 \/ x = 4 \/ x = 5 \/ x = 6 \/ x = 7 \/ x = 8 \/ x = 9 \/ x = 10 \/ x = 11 \/ x = 12) with rfl|rfl|rfl|rfl|rfl|rfl|rfl|rfl|rfl|rfl|rfl|rfl|rfl
 all_goals simp
 all_goals simp [Jaa]
 all_goals decide
theorem Ju7 (x : Nat) (hx : x <= 12) : Pure Tryz.prog GL 47 [.p (.int .u64 x)] (.p (.int .i64 (if x = 0 then 0 else Nat.log2 x + 1 : Nat))) := by
 refine Pure.of_walk (N := 8) Tryz.func47 rfl rfl rfl (by simp) (by first | (simp; done) | simp [*]) ?_
 simp
 refine Jab (J5g x hx) ?_
 simp [Jaa]
def Jh7 (l : List Txt) (j : Nat) : List Txt := (l.set (j + 1) (l[j]?.getD [])).set j (l[j + 1]?.getD [])
def Jf2 (l : List Txt) : Nat -> List Txt
 | 0 => l
 | j + 1 => if Op.bytesLess (l[j + 1]?.getD []) (l[j]?.getD []) then Jf2 (Jh7 l j) j else l
def Jgx : Nat -> List Txt -> Nat -> List Txt
 | 0, l, _ => l
 | f + 1, l, i => Jgx f (Jf2 l i) (i + 1)
def Jdm (l : List Txt) : List Txt := Jgx (l.length - 1) l 1
theorem J1y {l : List Txt} {j : Nat} : (Jh7 l j).length = l.length := by simp [Jh7]
theorem J1f : ∀ {j : Nat} {l : List Txt}, (Jf2 l j).length = l.length
 | 0, l => rfl
 | j + 1, l => by
   unfold Jf2
   split
   . rw [J1f, J1y]
   . rfl
theorem J8z (l : List Txt) (s : Store) (nx b : Nat) (c : Option Nat) (hb : b < nx) (hg : get s b = some (.cells 1 (l.map Txt.row))) (hl : l.length < 1000000) :
   Gives Tryz.prog GL 88 [.ref b 1 0 l.length c, .p (.int .i64 0), .p (.int .i64 l.length)] s nx (.tup []) [b] [(b, some (.cells 1 ((Jdm l).map Txt.row)))] nx := by
 refine Gives.mk_walkK (N := 49) (args := [.ref 0 1 0 l.length c, .p (.int .i64 0), .p (.int .i64 l.length)]) [b] [] [(0, some (.cells 1 (l.map Txt.row)))] [(0, some (.cells 1 ((Jdm l).map Txt.row)))] 1 0 (.tup []) (fun _ => []) (up1 := [(b, some (.cells 1 ((Jdm l).map Txt.row)))]) Tryz.func88 rfl rfl rfl (by simp) rfl (by simp [hg, hb]) (by simp) (by simp) (by simp) (by simp) rfl ?_
 simp
 refine Jag.go [0, 1, 2] [] 0 [] (fun _ => []) (fun _ (g : List Txt × Nat) => [(6, .p (.int .i64 g.2))]) (fun _ g => [(0, some (.cells 1 (g.1.map Txt.row)))]) (fun g => g.1.length = l.length /\ 1 <= g.2 /\ g.2 <= l.length + 1 /\ Jgx (l.length - g.2) g.1 g.2 = Jdm l) (fun g => l.length + 1 - g.2) (l, 1) ⟨rfl, by simp, by simp, rfl⟩ ?_ ?_
 . simp
 . rintro ⟨g, i⟩ ⟨h1, h2, h3, h4⟩
   simp at h1 h2 h3 h4
   simp
   refine Jad (fun h => ?_) (fun h => ?_)
   . simp at h
     simp
     refine Jag.go [0, 1, 2, 6] [] 0 [] (fun _ => []) (fun _ (q : List Txt × Nat) => [(7, .p (.int .i64 q.2))]) (fun _ q => [(0, some (.cells 1 (q.1.map Txt.row)))]) (fun q => q.1.length = l.length /\ q.2 <= i /\ Jf2 q.1 q.2 = Jf2 g i) (fun q => q.2) (g, i) ⟨h1, by simp, rfl⟩ ?_ ?_
     . simp
     . rintro ⟨q, j⟩ ⟨k1, k2, k3⟩
       simp at k1 k2 k3
       cases j with
       | zero =>
         simp
         refine Jak.intro (by kernel_rfl) ?_
         simp
         refine ⟨.of (by kernel_rfl), wrap_i64 (by omega) (by omega), q, i + 1, ⟨k1, by omega, by omega, ?_⟩, by omega, ?_⟩
         . simp [Jf2] at k3
           rw [show l.length - i = (l.length - (i + 1)) + 1 by omega] at h4
           simp [Jgx] at h4
           rw [k3]
           exact h4
         . simp
       | succ j =>
         simp
         refine Jak.intro (by kernel_rfl) ?_
         have e1 : (j : Int) + 1 - 1 = j := by omega
         have e0 : (0 : Int) <= (j : Int) + 1 := by omega
         have e2 : ((j : Int) + 1).toNat = j + 1 := by omega
         have e3 : (j : Int) + 1 < l.length := by omega
         have e4 : (j : Int) < l.length := by omega
         have e5 : (0 : Int) < (j : Int) + 1 := by omega
         obtain ⟨x, f1⟩ := Jae (xs := q) (k := j) (by omega)
         obtain ⟨y, f2⟩ := Jae (xs := q) (k := j + 1) (by omega)
         simp [e0, e1, e2, e3, e4, e5, f1, f2, -getElem?_pos, List.getElem?_cons_zero, List.getElem?_cons_succ]
         refine ⟨wrap_i64 (by omega) (by omega), ?_⟩
         refine Jab (J4t y x) ?_
         simp
         refine ⟨.of (by kernel_rfl), ?_⟩
         have hsink : Jf2 q (j + 1) = if Op.bytesLess y x then Jf2 (Jh7 q j) j else q := by simp [Jf2, f1, f2, -getElem?_pos]
         refine Jad (fun h5 => ?_) (fun h5 => ?_)
         . simp
           refine Jak.intro (by kernel_rfl) ?_
           have f3 : (q.map Txt.row).length = l.length := by simp [k1]
           simp [e0, e1, e2, e3, e4, e5, f1, f2, -getElem?_pos, List.getElem?_cons_zero, List.getElem?_cons_succ]
           have f4 : ((q.map Txt.row).set (j + 1) [AV.p (PV.str x)]).set j [AV.p (PV.str y)] = (Jh7 q j).map Txt.row := by simp [Jh7, List.map_set, f1, f2, -getElem?_pos]
           rw [hsink, if_pos h5] at k3
           refine ⟨wrap_i64 (by omega) (by omega), .of (by kernel_rfl), wrap_i64 (by omega) (by omega), Jh7 q j, j, ⟨by rw [J1y]; exact k1, by omega, k3⟩, by omega, rfl, ?_⟩
           rw [f4]
           exact Jlv _
         . rw [hsink, h5] at k3
           simp at k3
           simp
           refine ⟨wrap_i64 (by omega) (by omega), q, i + 1, ⟨k1, by omega, by omega, ?_⟩, by omega, ?_⟩
           . rw [show l.length - i = (l.length - (i + 1)) + 1 by omega] at h4
             simp [Jgx] at h4
             rw [k3]
             exact h4
           . simp
   . simp at h
     have h5 : l.length - i = 0 := by omega
     rw [h5] at h4
     simp [Jgx] at h4
     simp [h4]
theorem Jxm : ∀ {f : Nat} {l : List Txt} {i : Nat}, (Jgx f l i).length = l.length
 | 0, l, i => rfl
 | f + 1, l, i => by simp only [Jgx]; rw [Jxm, J1f]
theorem Jq1 {l : List Txt} : (Jdm l).length = l.length := Jxm
theorem J83 (l : List Txt) (s : Store) (nx b : Nat) (c : Option Nat) (m : Int) (hb : b < nx) (hg : get s b = some (.cells 1 (l.map Txt.row))) (hl : l.length <= 12) :
   Gives Tryz.prog GL 46 [.ref b 1 0 l.length c, .p (.int .i64 0), .p (.int .i64 l.length), .p (.int .i64 m)] s nx (.tup []) [b] [(b, some (.cells 1 ((Jdm l).map Txt.row)))] nx := by
 refine Gives.mk_walkK (N := 134) (args := [.ref 0 1 0 l.length c, .p (.int .i64 0), .p (.int .i64 l.length), .p (.int .i64 m)]) [b] [] [(0, some (.cells 1 (l.map Txt.row)))] [(0, some (.cells 1 ((Jdm l).map Txt.row)))] 1 0 (.tup []) (fun _ => []) (up1 := [(b, some (.cells 1 ((Jdm l).map Txt.row)))]) Tryz.func46 rfl rfl rfl (by simp) rfl (by simp [hg, hb]) (by simp) (by simp) (by simp) (by simp) rfl ?_
 simp
 refine Jag.go [0] [] 0 [] (fun _ => []) (fun _ (g : Unit) => [(1, .p (.int .i64 0)), (2, .p (.int .i64 l.length)), (3, .p (.int .i64 m)), (8, .p (.bool true)), (9, .p (.bool true))]) (fun _ g => [(0, some (.cells 1 (l.map Txt.row)))]) (fun g => True) (fun g => 0) () trivial ?_ ?_
 . simp
 . rintro ⟨⟩ -
   have h12 : (l.length : Int) <= 12 := by omega
   simp [h12]
   refine ⟨wrap_i64 (by omega) (by omega), ?_⟩
   refine Ja6 (J8z l _ 1 0 c (by omega) (by simp [get]) (by omega)) ?_
   simp
theorem Jw7 (l : List Txt) (s : Store) (nx b : Nat) (c : Option Nat) (hb : b < nx) (hg : get s b = some (.cells 1 (l.map Txt.row))) (hl : l.length <= 12) :
   Gives Tryz.prog GL 14 [.ref b 1 0 l.length c] s nx (.tup []) [b] [(b, some (.cells 1 ((Jdm l).map Txt.row)))] nx := by
 refine Gives.mk_walkK (N := 11) (args := [.ref 0 1 0 l.length c]) [b] [] [(0, some (.cells 1 (l.map Txt.row)))] [(0, some (.cells 1 ((Jdm l).map Txt.row)))] 1 0 (.tup []) (fun _ => []) (up1 := [(b, some (.cells 1 ((Jdm l).map Txt.row)))]) Tryz.func14 rfl rfl rfl (by simp) rfl (by simp [hg, hb]) (by simp) (by simp) (by simp) (by simp) rfl ?_
 simp
 refine ⟨by
   simp [IntKind.wrap, IntKind.bits, IntKind.signed]
   omega, ?_⟩
 refine Jab (Ju7 l.length hl) ?_
 simp
 refine Ja6 (J83 l _ 1 0 c _ (by omega) (by simp [get]) hl) ?_
 simp
@[simp] theorem Kkm {ρ : List Nat} {n : Nat} {r : List AV} (h : Jay r = true) : renR ρ (List.replicate n r) = some (List.replicate n r) := by
 induction n with
 | zero => rfl
 | succ n ih => simp [List.replicate_succ, renR, Jjn h, ih]
theorem J8y (n : Nat) (s : Store) (nx : Nat) (h0 : 0 < n) (hn : n < 1000000) :
   Gives Tryz.prog GL 235 [.nils, .p (.int .i64 n)] s nx (.ref nx 1 0 0 none) [] [(nx, some (.cells 1 (List.replicate n [.p (.str [])])))] (nx + 1) := by
 refine Gives.mk_walkK (N := 27) (args := [.nils, .p (.int .i64 n)]) [] [] [] [(0, some (.cells 1 (List.replicate n [.p (.str [])])))] 0 1 (.ref 0 1 0 0 none) (nms [4]) (up1 := [(nx, some (.cells 1 (List.replicate n [.p (.str [])])))]) Tryz.func235 rfl rfl rfl (by simp) rfl (by simp) (by simp) (by simp) (by simp) (by simp) rfl ?_
 have h1 : ¬ ((n : Int) < 0) := by omega
 have h2 : (0 : Int) < n := by omega
 simp [h1, h2]
 refine ⟨wrap_i64 (by omega) (by omega), ?_⟩
 simp [h0, hn]
 omega
def catL (ls : List (List Txt)) : List Txt := ls.flatten
theorem Jp0 : catL [] = [] := rfl
theorem Jvl {ls : List (List Txt)} {k : Nat} {x : List Txt} (e : ls[k]? = some x) : catL (ls.take (k + 1)) = catL (ls.take k) ++ x := by simp only [catL]; rw [take_snoc e]; simp
theorem Jvk {ls : List (List Txt)} {k : Nat} : (catL (ls.take k)).length <= (catL ls).length := by
 have : catL ls = catL (ls.take k) ++ catL (ls.drop k) := by simp only [catL]; rw [<- List.flatten_append, List.take_append_drop]
 rw [this]; simp
theorem J8x (ls : List (List Txt)) (s : Store) (nx : Nat) (h0 : catL ls ≠ []) (hn : (catL ls).length < 100000) (hl : ls.length < 100000) :
   Gives Tryz.prog GL 211 [.p (.lst 1 (ls.map fun l => [.lst 1 (l.map Txt.enc)]))] s nx (.ref nx 1 0 (catL ls).length none) [] [(nx, some (.cells 1 ((catL ls).map Txt.row)))] (nx + 1) := by
 refine Gives.mk_walkK (N := 36) (args := [.p (.lst 1 (ls.map fun l => [.lst 1 (l.map Txt.enc)]))]) [] [] [] [(0, some (.cells 1 ((catL ls).map Txt.row)))] 0 1 (.ref 0 1 0 (catL ls).length none) (nms [2]) (up1 := [(nx, some (.cells 1 ((catL ls).map Txt.row)))]) Tryz.func211 rfl rfl rfl (by simp) rfl (by simp) (by simp) (by simp) (by simp) (by simp) rfl ?_
 simp
 refine Jag.go [0, 9, 10] [] 0 [] (fun _ => []) (fun _ (k : Nat) => [(3, .p (.int .i64 (catL (ls.take k)).length)), (11, .p (.int .i64 k))]) (fun _ _ => []) (fun k => k <= ls.length) (fun k => ls.length - k) 0 (by omega) ?_ ?_
 . simp [Jp0]
 . intro k hk
   simp
   refine Jad (fun h => ?_) (fun h => ?_)
   . simp at h
     obtain ⟨x, e⟩ := Jae h
     have hf := Jvl e
     have hle := Jvk (ls := ls) (k := k + 1)
     rw [hf, List.length_append] at hle
     simp [h, e, -getElem?_pos, List.getElem?_cons_zero, List.getElem?_cons_succ]
     refine ⟨wrap_i64 (by omega) (by omega), ?_⟩
     have h1 : ¬ (((catL (ls.take k)).length : Int) + x.length < 0) := by omega
     simp [h1]
     refine ⟨wrap_i64 (by omega) (by omega), k + 1, by omega, by omega, ?_⟩
     simp [hf]
   . simp at h
     have hk2 : k = ls.length := by omega
     subst hk2
     simp
     refine Ja6 (J8y (catL ls).length _ _ (List.length_pos_iff.2 h0) (by omega)) ?_
     simp
     refine Jag.gor [25, 26] [] [0] (nms [6]) (fun (k : Nat) => [(6, .ref 0 1 0 (catL (ls.take k)).length none), (27, .p (.int .i64 k))]) (fun k => [(0, some (.cells 1 (if k = 0 then List.replicate (catL ls).length [.p (.str [])] else (catL (ls.take k)).map Txt.row)))]) (fun k => k <= ls.length) (fun k => ls.length - k) 0 (by omega) ?_ ?_
     . simp [Jp0]
     . intro k hk
       simp
       refine Jad (fun h => ?_) (fun h => ?_)
       . simp at h
         obtain ⟨x, e⟩ := Jae h
         have hf := Jvl e
         have hle := Jvk (ls := ls) (k := k + 1)
         rw [hf, List.length_append] at hle
         have hR : ∃ R : List (List AV), (if k = 0 then List.replicate (catL ls).length [AV.p (.str [])] else (catL (ls.take k)).map Txt.row) = R /\ R.take (catL (ls.take k)).length = (catL (ls.take k)).map Txt.row /\ (∀ r ∈ R, r.length = 1) /\ (catL (ls.take k)).length <= R.length := by
           refine ⟨_, rfl, ?_⟩
           by_cases h0 : k = 0
           . subst h0; simp [Jp0]
           . simp only [h0, if_false]
             exact ⟨List.take_of_length_le (by simp), by simp, by simp⟩
         obtain ⟨R, hR1, hR2, hR3, hR4⟩ := hR
         simp [h, e, hR1, -getElem?_pos, List.getElem?_cons_zero, List.getElem?_cons_succ]
         have hrow : (fun x => List.map AV.p x) ∘ Txt.enc = Txt.row := rfl
         refine ⟨by omega, hR4, hR3, wrap_i64 (by omega) (by omega), k + 1, by omega, by omega, ?_⟩
         simp [hf, hR2, hrow]
       . simp at h
         have hk2 : k = ls.length := by omega
         subst hk2
         simp
         exact fun h => (h0 (by rw [h]; rfl)).elim
theorem J6i {k : Nat} (h : k < 14) : unpL (((catRow k).drop 2).take 5) = some ((Jbs k).map fun l => .lst 1 (l.map Txt.enc)) := by
 rcases (by omega : k = 0 \/ k = 1 \/ k = 2 \/ k = 3 \/ k = 4 \/ k = 5 \/ k = 6 \/ k = 7 \/ k = 8 \/ k = 9 \/ k = 10 \/ k = 11 \/ k = 12 \/ k = 13) with rfl|rfl|rfl|rfl|rfl|rfl|rfl|rfl|rfl|rfl|rfl|rfl|rfl|rfl <;> rfl
theorem J6q {row : List PV} {n : Nat} (h : row.length = n) : chunks 1 n row = row.map fun x => [x] := by
 subst h
 apply List.ext_getElem
 . simp [chunks]
 . intro i h1 h2
   simp at h2
   simp only [chunks, List.getElem_map, List.getElem_range, Nat.mul_one]
   rw [List.drop_eq_getElem_cons h2]
   rfl
theorem Ju9 (k : Int) : Pure Tryz.prog GL 171 [.p (.int .i64 k)] (.tup [.p (.lst 1 ((if Jas k = 0 then Jao k.toNat else []).map Txt.enc)), .p (.int .i64 (Jas k))]) := by
 refine Pure.of_walk (N := 21) Tryz.func171 rfl rfl rfl (by simp) (by first | (simp; done) | simp [*]) ?_
 simp
 refine Jab (Jhk k) ?_
 by_cases hk : 0 <= k /\ k < 14
 . have h3 : Jas k = 0 := Jcw.2 hk
   have hl := Jfb (k := k.toNat)
   have h6 := Jfc (k := k.toNat)
   have h4 : k.toNat < 14 := by omega
   have hr1 := J6i h4
   obtain ⟨hr2, hr3, hr4, hr5⟩ := (by decide : ∀ k, k < 14 -> Jdm (catL (Jbs k)) = Jao k /\ catL (Jbs k) ≠ [] /\ (catL (Jbs k)).length <= 12 /\ (Jbs k).length = 5) _ h4
   simp [h3, hl, Jcx]
   refine ⟨by simpa using h6, ?_⟩
   have hch : chunks 1 5 ((Jbs k.toNat).map fun l => .lst 1 (l.map Txt.enc)) = (Jbs k.toNat).map fun l => [.lst 1 (l.map Txt.enc)] := by
     rw [J6q (by simp [hr5])]; simp
   simp [hr1, hch, hl]
   refine Ja6 (J8x (Jbs k.toNat) _ _ hr3 (by omega) (by omega)) ?_
   simp
   refine Ja6 (Jw7 _ _ _ 1 none (by omega) (by simp [get]) hr4) ?_
   have hlen : (catL (Jbs k.toNat)).length = (Jao k.toNat).length := by rw [<- hr2, Jq1]
   simp [Jaa, hr2, h3, hlen]
   rw [List.take_of_length_le (by simp)]
   rfl
 . have h3 : Jas k = 1 := Jht hk
   have hl := Jfb (k := 14)
   have h6 := Jfc (k := 14)
   simp [h3, hl, Jcx]
   refine ⟨by simpa using h6, ?_⟩
   simp [Jaa]
end Go.Am
