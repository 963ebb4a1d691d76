/- Lemmas and contracts for the proof of a statement of this seat. -/
import Derived.Test.YthojegdboknbbaaGreatDoorZX7
import Derived.Test.YthojegdboknbbaaGreatDoorZX1
import Derived.Test.YthojegdboknbbaaGreatDoorZX4
import Derived.Test.YthojegdboknbbaaGreatDoorZX5
set_option linter.unusedVariables false
set_option linter.unusedSimpArgs false
namespace Go.Am
open Go
inductive Ex where
 | mk (op idx : Int) (args : List Ex)
namespace Ex
def op : Ex -> Int | .mk o _ _ => o
def idx : Ex -> Int | .mk _ i _ => i
def args : Ex -> List Ex | .mk _ _ al => al
theorem ind {P : Ex -> Prop} (h : ∀ o i al, (∀ y ∈ al, P y) -> P (.mk o i al)) (x : Ex) : P x :=
 Ex.rec (motive_1 := P) (motive_2 := fun l => ∀ y ∈ l, P y) (fun o i al ih => h o i al ih) (fun y hy => by cases hy) (fun y ys h1 h2 z hz => by
   rcases List.mem_cons.1 hz with rfl | hz
   . exact h1
   . exact h2 z hz) x
end Ex
mutual
def evX (v : Nat -> Bool) : Ex -> Bool
 | .mk o i al => if o = 0 then decide (i = 1) else if o = 1 then v i.toNat else if o = 2 then Ja8 v false al else if o = 3 then Ja8 v true al else !Ja8 v false al
def Ja8 (v : Nat -> Bool) (w : Bool) : List Ex -> Bool
 | [] => true
 | x :: xs => (evX v x == w) && Ja8 v w xs
end
theorem Jgz {v : Nat -> Bool} {w : Bool} : ∀ {l : List Ex}, Ja8 v w l = l.all fun x => evX v x == w
 | [] => rfl
 | x :: xs => by rw [Ja8, Jgz]; rfl
mutual
def vrX : Ex -> List Nat
 | .mk o i al => (if o = 1 then [i.toNat] else []) ++ vrL al
def vrL : List Ex -> List Nat
 | [] => []
 | x :: xs => vrX x ++ vrL xs
end
mutual
def szX : Ex -> Nat
 | .mk _ _ al => 1 + szL al
def szL : List Ex -> Nat
 | [] => 0
 | x :: xs => szX x + szL xs
end
mutual
def cntX (most : Nat) : Ex -> Nat
 | .mk _ _ al => cntA most 1 al
def cntA (most n : Nat) : List Ex -> Nat
 | [] => n
 | x :: xs => if n <= most then cntA most (n + cntX (most - n) x) xs else n
end
theorem Jo0 {most n : Nat} (h : most < n) : ∀ {l : List Ex}, cntA most n l = n
 | [] => rfl
 | x :: xs => by rw [cntA, if_neg (by omega)]
theorem Jkp {most : Nat} : ∀ {l m : List Ex} {n : Nat}, cntA most n (l ++ m) = cntA most (cntA most n l) m
 | [], m, n => rfl
 | x :: xs, m, n => by
   rw [List.cons_append, cntA, cntA]
   by_cases h : n <= most
   . rw [if_pos h, if_pos h]; exact Jkp
   . rw [if_neg h, if_neg h, Jo0 (by omega)]
theorem Jkq {most : Nat} : ∀ {l : List Ex} {n : Nat}, n <= cntA most n l
 | [], n => Nat.le_refl _
 | x :: xs, n => by
   rw [cntA]
   split
   . exact Nat.le_trans (Nat.le_add_right ..) Jkq
   . exact Nat.le_refl _
theorem Jkr : ∀ (x : Ex) (most : Nat), 1 <= cntX most x /\ (cntX most x <= most + 1) /\ (cntX most x <= most -> cntX most x = szX x) := Ex.ind (fun o i al ih most => by
 have key : ∀ (l : List Ex) (n : Nat), (∀ y ∈ l, ∀ most, 1 <= cntX most y /\ cntX most y <= most + 1 /\ (cntX most y <= most -> cntX most y = szX y)) -> n <= most + 1 -> cntA most n l <= most + 1 /\ (cntA most n l <= most -> cntA most n l = n + szL l) := by
   intro l
   induction l with
   | nil => exact fun n _ hn => ⟨hn, fun _ => rfl⟩
   | cons y ys ihl =>
     intro n hy hn
     rw [cntA, szL]
     by_cases h : n <= most
     . rw [if_pos h]
       obtain ⟨h1, h2, h3⟩ := hy y List.mem_cons_self (most - n)
       obtain ⟨k1, k2⟩ := ihl (n + cntX (most - n) y) (fun z hz => hy z (List.mem_cons_of_mem _ hz)) (by omega)
       refine ⟨k1, fun hle => ?_⟩
       have hge := @Jkq most ys (n + cntX (most - n) y)
       have := h3 (by omega)
       rw [k2 hle]; omega
     . rw [if_neg h]
       exact ⟨hn, fun h2 => by omega⟩
 unfold cntX szX
 obtain ⟨k1, k2⟩ := key al 1 ih (by omega)
 exact ⟨Jkq, k1, k2⟩)
def Ja2 : Nat -> Ex -> Bool
 | 0, _ => false
 | 1, x => x.args.isEmpty
 | n + 2, x => x.args.all (Ja2 (n + 1))
def nodE (n : Int) (x : Ex) : Int :=
 if x.op < 0 \/ 5 <= x.op then 1
 else if (x.op <= 1 /\ x.args.length ≠ 0) \/ (x.op = 2 /\ x.args.length ≠ 1) \/ (3 <= x.op /\ x.args.length < 2) then 3
 else if x.idx < 0 \/ (if x.op = 0 then 2 else if x.op = 1 then n else 1) <= x.idx then 2 else 0
mutual
def Jbj (n : Int) : Ex -> Int
 | .mk o i al => if nodE n (.mk o i al) ≠ 0 then nodE n (.mk o i al) else Jb6 n al
def Jb6 (n : Int) : List Ex -> Int
 | [] => 0
 | x :: xs => if Jbj n x ≠ 0 then Jbj n x else Jb6 n xs
end
theorem Jq2 {n : Int} : ∀ {l : List Ex}, Jb6 n l = 0 -> ∀ x ∈ l, Jbj n x = 0
 | [], _, x, hx => by cases hx
 | y :: ys, h, x, hx => by
   rw [Jb6] at h
   by_cases h1 : Jbj n y = 0
   . rw [if_neg (by simpa using h1)] at h
     rcases List.mem_cons.1 hx with rfl | hx
     . exact h1
     . exact Jq2 h x hx
   . rw [if_pos h1] at h
     exact (h1 h).elim
theorem Jiz {n : Int} {x : Ex} (h : Jbj n x = 0) : nodE n x = 0 /\ ∀ y ∈ x.args, Jbj n y = 0 := by
 cases x with
 | mk o i al =>
   rw [Jbj] at h
   by_cases h1 : nodE n (.mk o i al) = 0
   . rw [if_neg (by simpa using h1)] at h
     exact ⟨h1, Jq2 h⟩
   . rw [if_pos h1] at h
     exact (h1 h).elim
end Go.Am
namespace Go.Am
open Go Go.Proofs Go.Pn
mutual
def Ex.enc : Ex -> List PV
 | .mk o i al => [.int .i64 o, .int .i64 i, .lst 3 (encL al)]
def encL : List Ex -> List (List PV)
 | [] => []
 | x :: xs => x.enc :: encL xs
end
theorem Jo3 : ∀ {l : List Ex}, encL l = l.map Ex.enc
 | [] => rfl
 | x :: xs => by rw [encL, Jo3]; rfl
@[simp] theorem J4d {x : Ex} : x.enc = [.int .i64 x.op, .int .i64 x.idx, .lst 3 (x.args.map Ex.enc)] := by
 cases x with
 | mk o i al => rw [Ex.enc, Jo3]; rfl
@[simp] def Ex.av (x : Ex) : AV := .agg [.p (.int .i64 x.op), .p (.int .i64 x.idx), .p (.lst 3 (x.args.map Ex.enc))]
mutual
def okX : Ex -> Prop
 | .mk _ _ al => al.length < 2305843009213693952 /\ okL al
def okL : List Ex -> Prop
 | [] => True
 | x :: xs => okX x /\ okL xs
end
theorem Jq6 : ∀ {l : List Ex}, okL l -> ∀ x ∈ l, okX x
 | [], _, x, hx => by cases hx
 | y :: ys, h, x, hx => by
   rw [okL] at h
   rcases List.mem_cons.1 hx with rfl | hx
   . exact h.1
   . exact Jq6 h.2 x hx
theorem Jc8 {x : Ex} (h : okX x) : x.args.length < 2305843009213693952 /\ ∀ y ∈ x.args, okX y := by
 cases x with
 | mk o i al => rw [okX] at h; exact ⟨h.1, Jq6 h.2⟩
theorem Ex.ind' {P : Ex -> Prop} (h : ∀ x : Ex, (∀ y ∈ x.args, P y) -> P x) (x : Ex) : P x := Ex.ind (fun o i al ih => h (.mk o i al) ih) x
def cntT (most : Nat) (al : List Ex) (j : Nat) : Nat := cntA most 1 (al.take j)
theorem Jwe {most : Nat} {al : List Ex} : cntT most al 0 = 1 := rfl
theorem Jwa {most : Nat} {x : Ex} : cntT most x.args x.args.length = cntX most x := by
 unfold cntT
 rw [List.take_length]
 cases x; rfl
theorem Jwd {most : Nat} {al : List Ex} {j : Nat} {y : Ex} (e : al[j]? = some y) (h : cntT most al j <= most) : cntT most al (j + 1) = cntT most al j + cntX (most - cntT most al j) y := by
 unfold cntT at h ⊢
 rw [take_snoc e, Jkp, cntA, if_pos h, cntA]
theorem Jwc {most : Nat} {x : Ex} {j : Nat} (h : most < cntT most x.args j) : cntX most x = cntT most x.args j := by
 unfold cntT at h ⊢
 have : cntX most x = cntA most 1 (x.args.take j ++ x.args.drop j) := by rw [List.take_append_drop]; cases x; rfl
 rw [this, Jkp, Jo0 h]
theorem Jwb {most : Nat} {x : Ex} {j : Nat} : cntT most x.args j <= most + 1 := by
 have h := (Jkr (.mk 0 0 (x.args.take j)) most).2.1
 exact h
theorem Juz : ∀ (x : Ex), okX x -> ∀ most : Nat, most <= 1000 -> Pure Tryz.prog GL 30 [x.av, .p (.int .i64 most)] (.p (.int .i64 (cntX most x))) := Ex.ind' (fun x ih hok most hm => by
 obtain ⟨hl, ho⟩ := Jc8 hok
 refine Pure.of_walk (N := 31) Tryz.func30 rfl rfl rfl (by simp) rfl ?_
 simp
 refine Jai.go [1, 2] [0] 0 [] (fun _ => []) (fun _ (j : Nat) => [(5, .p (.int .i64 (cntT most x.args j))), (6, .p (.int .i64 j))]) (fun _ _ => []) (fun j => j <= x.args.length) (fun j => x.args.length - j) 0 (by omega) ?_ ?_
 . simp [Jwe]
   try decide
 intro j hj
 have hle := @Jwb most x j
 have hov := @Jwc most x j
 by_cases h1 : j < x.args.length
 . by_cases h2 : cntT most x.args j <= most
   . obtain ⟨y, e⟩ := Jae h1
     have hsn := Jwd e h2
     have hy := ih y (List.mem_of_getElem? e) (ho y (List.mem_of_getElem? e)) (most - cntT most x.args j) (by omega)
     have hyf := (Jkr y (most - cntT most x.args j)).2.1
     have hsub : (most : Int) - (cntT most x.args j : Int) = ((most - cntT most x.args j : Nat) : Int) := by omega
     simp [h1, h2, e, hsub, -getElem?_pos, List.getElem?_cons_zero, List.getElem?_cons_succ]
     refine ⟨J3r (by omega), Jab hy ?_⟩
     simp
     refine ⟨wrap_i64 (by omega) (by omega), wrap_i64 (by omega) (by omega), j + 1, by omega, by omega, by rw [hsn]; omega, by omega⟩
   . have h3 := hov (by omega)
     simp [h1, h2]
     simp [Jaa, h3]
 . have hjl : j = x.args.length := by omega
   subst hjl
   rw [Jwa]
   simp [Jaa])
theorem Jn9 : ∀ (most : Nat) (x : Ex), okX x -> most <= 1000 -> Pure Tryz.prog GL 31 [x.av, .p (.int .i64 most)] (.p (.bool (Ja2 most x)))
 | 0, x, hok, hm => by
   refine Pure.of_walk (N := 30) Tryz.func31 rfl rfl rfl (by simp) rfl ?_
   simp [Jaa, Ja2]
 | 1, x, hok, hm => by
   obtain ⟨hl, ho⟩ := Jc8 hok
   refine Pure.of_walk (N := 30) Tryz.func31 rfl rfl rfl (by simp) rfl ?_
   have hd : Ja2 1 x = decide (x.args = []) := by
     rw [Ja2, Bool.eq_iff_iff, List.isEmpty_iff, decide_eq_true_eq]
   simp [Jaa, hd]
 | n + 2, x, hok, hm => by
   obtain ⟨hl, ho⟩ := Jc8 hok
   refine Pure.of_walk (N := 30) Tryz.func31 rfl rfl rfl (by simp) rfl ?_
   have h1 : ¬ ((n : Int) + 1 + 1 < 1) := by omega
   have h2 : ¬ ((n : Int) + 1 + 1 = 1) := by omega
   have h5 : ¬ ((n : Int) + 2 < 1) := by omega
   have h6 : ¬ ((n : Int) + 2 = 1) := by omega
   have h3 : (n : Int) + 2 - 1 = ((n + 1 : Nat) : Int) := by omega
   have hd : Ja2 (n + 2) x = x.args.all (Ja2 (n + 1)) := rfl
   simp [h1, h2, h5, h6]
   refine Jai.go [1, 2] [0] 0 [] (fun _ => []) (fun _ (j : Nat) => [(5, .p (.int .i64 j))]) (fun _ _ => []) (fun j => j <= x.args.length /\ ∀ (i : Nat) y, i < j -> x.args[i]? = some y -> Ja2 (n + 1) y = true) (fun j => x.args.length - j) 0 ⟨by omega, fun i y h => by omega⟩ ?_ ?_
   . simp
     try decide
   rintro j ⟨hj, hp⟩
   by_cases h4 : j < x.args.length
   . obtain ⟨y, e⟩ := Jae h4
     have hy := Jn9 (n + 1) y (ho y (List.mem_of_getElem? e)) (by omega)
     simp [h4, e, h3, -getElem?_pos, List.getElem?_cons_zero, List.getElem?_cons_succ]
     rw [show ((n + 1 : Nat) : Int) = (n : Int) + 1 from rfl] at hy
     refine ⟨wrap_i64 (by omega) (by omega), Jab hy ?_⟩
     cases hv : Ja2 (n + 1) y with
     | false =>
       have hf : Ja2 (n + 2) x = false := by
         rw [hd, <- Bool.not_eq_true, List.all_eq_true]
         intro hall
         rw [hall y (List.mem_of_getElem? e)] at hv; cases hv
       simp [Jaa, hf]
     | true =>
       simp
       refine ⟨wrap_i64 (by omega) (by omega), j + 1, ⟨by omega, fun i z hi ez => ?_⟩, by omega, by omega⟩
       by_cases hij : i = j
       . subst hij; rw [e] at ez; cases ez; exact hv
       . exact hp i z (by omega) ez
   . have hjl : j = x.args.length := by omega
     subst hjl
     have hall : Ja2 (n + 2) x = true := by
       rw [hd, List.all_eq_true]
       intro y hy
       obtain ⟨i, hi, e⟩ := List.getElem_of_mem hy
       exact hp i y hi (by rw [List.getElem?_eq_getElem hi, e])
     simp [Jaa, hall]
theorem Jki (x : Ex) (hok : okX x) : Pure Tryz.prog GL 14 [x.av] (.p (.bool (decide (cntX 256 x <= 256) && Ja2 16 x))) := by
 refine Pure.of_walk (N := 10) Tryz.func14 rfl rfl rfl (by simp) (by first | (simp; done) | simp [*]) ?_
 have hA := Juz x hok 256 (by omega)
 have hB := Jn9 16 x hok (by omega)
 simp
 refine Jab hA ?_
 by_cases h : cntX 256 x <= 256
 . have h2 : (cntX 256 x : Int) <= 256 := by omega
   rw [show (decide (cntX 256 x <= 256) && Ja2 16 x) = Ja2 16 x by simp [h]]
   simp [h, h2]
   refine Jab hB ?_
   simp [Jaa]
 . have h2 : ¬ (cntX 256 x : Int) <= 256 := by omega
   simp [h, h2, Jaa]
def nodV (n o i : Int) (k : Nat) : Int :=
 if o < 0 \/ 5 <= o then 1
 else if (o <= 1 /\ k ≠ 0) \/ (o = 2 /\ k ≠ 1) \/ (3 <= o /\ k < 2) then 3
 else if i < 0 \/ (if o = 0 then 2 else if o = 1 then n else 1) <= i then 2 else 0
theorem Jzr {n : Int} {x : Ex} : nodE n x = nodV n x.op x.idx x.args.length := rfl
set_option maxRecDepth 100000 in
theorem Ju7 (rows : List (List PV)) (n o i : Int) (hl : rows.length < 2305843009213693952) : Pure Tryz.prog GL 82 [.agg [.p (.int .i64 o), .p (.int .i64 i), .p (.lst 3 rows)], .p (.int .i64 n)] (.p (.int .i64 (nodV n o i rows.length))) := by
 refine Pure.of_walk (N := 59) Tryz.func82 rfl rfl rfl (by simp) rfl ?_
 generalize hr : nodV n o i rows.length = r
 unfold nodV at hr
 by_cases a1 : o < 0
 . rw [if_pos (.inl a1)] at hr
   subst hr
   simp [a1, Jaa]
 by_cases a2 : 5 <= o
 . rw [if_pos (.inr a2)] at hr
   subst hr
   simp [a1, a2, Jaa]
 rw [if_neg (by omega)] at hr
 have fin : ∀ (m : Int), (if i < 0 \/ m <= i then (2 : Int) else 0) = if i < 0 then 2 else if m <= i then 2 else 0 := fun m => by
   by_cases h1 : i < 0
   . rw [if_pos (.inl h1), if_pos h1]
   . rw [if_neg h1]
     by_cases h2 : m <= i
     . rw [if_pos (.inr h2), if_pos h2]
     . rw [if_neg (by omega), if_neg h2]
 rw [fin] at hr
 rcases (by omega : o = 0 \/ o = 1 \/ o = 2 \/ o = 3 \/ o = 4) with rfl | rfl | rfl | rfl | rfl
 . by_cases b1 : rows = []
   . subst b1
     rw [if_neg (by simp)] at hr
     by_cases c1 : i < 0
     . simp [c1] at hr
       subst hr
       simp [c1, Jaa]
     . by_cases c2 : 2 <= i
       . simp [c1, c2] at hr
         subst hr
         simp [c1, c2, Jaa]
       . simp [c1, c2] at hr
         subst hr
         simp [c1, c2, Jaa]
   . rw [if_pos (by simp [b1])] at hr
     subst hr
     simp [b1, Jaa]
 . by_cases b1 : rows = []
   . subst b1
     rw [if_neg (by simp)] at hr
     by_cases c1 : i < 0
     . simp [c1] at hr
       subst hr
       simp [c1, Jaa]
     . by_cases c2 : n <= i
       . simp [c1, c2] at hr
         subst hr
         simp [c1, c2, Jaa]
       . simp [c1, c2] at hr
         subst hr
         simp [c1, c2, Jaa]
   . rw [if_pos (by simp [b1])] at hr
     subst hr
     simp [b1, Jaa]
 . by_cases b1 : rows.length = 1
   . rw [if_neg (by simp [b1])] at hr
     have b2 : (rows.length : Int) = 1 := by omega
     by_cases c1 : i < 0
     . simp [c1] at hr
       subst hr
       simp [b2, c1, Jaa]
     . by_cases c2 : 1 <= i
       . simp [c1, c2] at hr
         subst hr
         simp [b2, c1, c2, Jaa]
       . simp [c1, c2] at hr
         subst hr
         simp [b2, c1, c2, Jaa]
   . rw [if_pos (by simp [b1])] at hr
     have b2 : ¬ (rows.length : Int) = 1 := by omega
     subst hr
     simp [b2, Jaa]
 all_goals
   by_cases b1 : rows.length < 2
   . rw [if_pos (by simp [b1])] at hr
     have b2 : (rows.length : Int) < 2 := by omega
     subst hr
     simp [b2, Jaa]
   . rw [if_neg (by simp [b1])] at hr
     have b2 : ¬ (rows.length : Int) < 2 := by omega
     by_cases c1 : i < 0
     . simp [c1] at hr
       subst hr
       simp [b2, c1, Jaa]
     . by_cases c2 : 1 <= i
       . simp [c1, c2] at hr
         subst hr
         simp [b2, c1, c2, Jaa]
       . simp [c1, c2] at hr
         subst hr
         simp [b2, c1, c2, Jaa]
theorem Ju6 (x : Ex) (n : Int) (hok : okX x) : Pure Tryz.prog GL 82 [x.av, .p (.int .i64 n)] (.p (.int .i64 (nodE n x))) := by
 have h := Ju7 (x.args.map Ex.enc) n x.op x.idx (by rw [List.length_map]; exact (Jc8 hok).1)
 rw [List.length_map] at h
 exact h
def nodT (n : Int) (al : List Ex) (j : Nat) : Int := Jb6 n (al.take j)
theorem Jly {n : Int} : ∀ {l m : List Ex}, Jb6 n (l ++ m) = if Jb6 n l ≠ 0 then Jb6 n l else Jb6 n m
 | [], m => by simp [Jb6]
 | x :: xs, m => by
   rw [List.cons_append, Jb6, Jb6]
   by_cases h : Jbj n x = 0
   . simp only [h, ne_eq, not_true_eq_false, if_false]
     exact Jly
   . rw [if_pos h, if_pos h, if_pos h]
theorem Jq1 {n : Int} {al : List Ex} {j : Nat} {y : Ex} (e : al[j]? = some y) (h : nodT n al j = 0) : nodT n al (j + 1) = Jbj n y := by
 unfold nodT at h ⊢
 rw [take_snoc e, Jly, if_neg (by simpa using h), Jb6]
 by_cases h1 : Jbj n y = 0
 . rw [if_neg (by simpa using h1), h1]; rfl
 . rw [if_pos h1]
theorem Jzt {n : Int} {x : Ex} : Jbj n x = if nodE n x ≠ 0 then nodE n x else Jb6 n x.args := by cases x; rfl
theorem Jzs {n : Int} {al : List Ex} {j : Nat} {y : Ex} (e : al[j]? = some y) (h : nodT n al j = 0) (hy : Jbj n y ≠ 0) : Jb6 n al = Jbj n y := by
 have h1 := Jq1 e h
 unfold nodT at h1
 have h2 : Jb6 n al = Jb6 n (al.take (j + 1) ++ al.drop (j + 1)) := by rw [List.take_append_drop]
 rw [h2, Jly, h1, if_pos hy]
theorem Ju8 : ∀ (x : Ex), okX x -> ∀ n : Int, Pure Tryz.prog GL 57 [x.av, .p (.int .i64 n)] (.p (.int .i64 (Jbj n x))) := Ex.ind' (fun x ih hok n => by
 obtain ⟨hl, ho⟩ := Jc8 hok
 refine Pure.of_walk (N := 31) Tryz.func57 rfl rfl rfl (by simp) rfl ?_
 have hN := Ju6 x n hok
 have hX := @Jzt n x
 simp
 refine Jab hN ?_
 by_cases h0 : nodE n x = 0
 case neg =>
   rw [if_pos h0] at hX
   simp [h0, Jaa, hX]
 rw [if_neg (by simpa using h0)] at hX
 simp [h0]
 refine Jai.go [1, 2] [0] 0 [] (fun _ => []) (fun _ (j : Nat) => [(6, .p (.int .i64 j))]) (fun _ _ => []) (fun j => j <= x.args.length /\ nodT n x.args j = 0) (fun j => x.args.length - j) 0 ⟨by omega, rfl⟩ ?_ ?_
 . simp
   try decide
 rintro j ⟨hj, hp⟩
 by_cases h4 : j < x.args.length
 . obtain ⟨y, e⟩ := Jae h4
   have hy := ih y (List.mem_of_getElem? e) (ho y (List.mem_of_getElem? e)) n
   have hsn := Jq1 e hp
   have hfo := Jzs e hp
   simp [h4, e, -getElem?_pos, List.getElem?_cons_zero, List.getElem?_cons_succ]
   refine Jab hy ?_
   by_cases h5 : Jbj n y = 0
   . simp [h5]
     exact ⟨wrap_i64 (by omega) (by omega), j + 1, ⟨by omega, by rw [hsn]; exact h5⟩, by omega, by omega⟩
   . rw [hX, hfo h5]
     simp [h5, Jaa]
 . have hjl : j = x.args.length := by omega
   subst hjl
   unfold nodT at hp
   rw [List.take_length] at hp
   rw [hX, hp]
   simp [Jaa])
def chkE (n : Int) (x : Ex) : Int := if n < 0 \/ 256 < n then 2 else if (decide (cntX 256 x <= 256) && Ja2 16 x) = false then 5 else Jbj n x
theorem Jol (x : Ex) (n : Int) (hok : okX x) : Pure Tryz.prog GL 35 [x.av, .p (.int .i64 n)] (.p (.int .i64 (chkE n x))) := by
 refine Pure.of_walk (N := 17) Tryz.func35 rfl rfl rfl (by simp) (by first | (simp; done) | simp [*]) ?_
 have hA := Jki x hok
 have hB := Ju8 x hok n
 have hE : chkE n x = if n < 0 \/ 256 < n then 2 else if (decide (cntX 256 x <= 256) && Ja2 16 x) = false then 5 else Jbj n x := rfl
 rw [hE]
 generalize (decide (cntX 256 x <= 256) && Ja2 16 x) = lt at *
 by_cases h1 : n < 0
 . simp [h1, Jaa]
 by_cases h2 : 256 < n
 . simp [h1, h2, Jaa]
 rw [if_neg (by omega)]
 simp [h1, h2]
 refine Jab hA ?_
 cases lt with
 | false => simp [Jaa]
 | true =>
   simp
   refine Jab hB ?_
   simp [Jaa]
@[simp] def brow (b : Bool) : List AV := [.p (.bool b)]
@[simp] def benc (b : Bool) : List PV := [.bool b]
end Go.Am
namespace Go.Am
open Go Go.Proofs Go.Pn
def vsF (vs : List Bool) : Nat -> Bool := fun i => vs.getD i false
def resC (v : Bool) : ABlk := .cells 1 [[.p (.bool v)]]
@[simp] theorem J48 {ρ : List Nat} {v : Bool} : renB ρ (resC v) = some (resC v) := rfl
def evT (b0 : Nat) (w : Bool) : Jap := [(1, .iptr 1 [[.bool w]] 0 0), (3, .ptr b0 1 0 0)]
def jmpB : Bool -> Option Code
 | true => none
 | false => some .ret
theorem Jyp {b : Bool} : (jmpB b).isNone = b := by cases b <;> rfl
def Jtp (i : LoopI) (w : Bool) : Prop :=
 ∀ (x : Bool) (s : Store) (nx b0 lam : Nat), [lam, b0].Nodup -> (∀ b ∈ [lam, b0], b < nx) -> get s b0 = some (resC false) -> get s lam = some (.loop i (evT b0 w) none) ->
   GivesY Tryz.prog GL i.l [.p (.bool x)] s nx (.p (.bool (x == w))) [lam, b0] [(lam, some (.loop i (evT b0 w) (jmpB (x == w)))), (b0, some (resC false))] nx
theorem Jk3 {v : Nat -> Bool} {w : Bool} {l m : List Ex} : Ja8 v w (l ++ m) = (Ja8 v w l && Ja8 v w m) := by
 rw [Jgz, Jgz, Jgz, List.all_append]
theorem Jpb {v : Nat -> Bool} {w : Bool} {y : Ex} : Ja8 v w [y] = (evX v y == w) := by rw [Jgz]; simp
abbrev xptr (x : Ex) : AV := .iptr 3 [[.int .i64 x.op, .int .i64 x.idx, .lst 3 (x.args.map Ex.enc)]] 0 0
abbrev vptr (vs : List Bool) : AV := .iptr 1 [[.lst 1 (vs.map benc)]] 0 0
theorem Jxk {i : LoopI} {w : Bool} (hY : Jtp i w) (x : Ex) (vs : List Bool) (hl : x.args.length < 2305843009213693952) (ih : ∀ y ∈ x.args, Pure Tryz.prog GL 95 [y.av, .p (.lst 1 (vs.map benc))] (.p (.bool (evX (vsF vs) y))))
   (s : Store) (nx b0 lam : Nat) (hnd : [b0, lam].Nodup) (hlt : ∀ b ∈ [b0, lam], b < nx) (g0 : get s b0 = some (resC false)) (g3 : get s lam = some (.loop i (evT b0 w) none)) :
   Gives Tryz.prog GL 125 [.fn (.yield i.l) [], xptr x, vptr vs] s nx (.tup []) [b0, lam] [(lam, some (.loop i (evT b0 w) (jmpB (Ja8 (vsF vs) w x.args)))), (b0, some (resC false))] nx := by
 have hl0 : renB [b0, lam] (.loop i (evT 0 w) none) = some (.loop i (evT b0 w) none) := rfl
 have r9 : ∀ j, renB (List.range 2) (.loop i (evT 0 w) j) = some (.loop i (evT 0 w) j) := fun j => rfl
 have hL : Jce [b0, lam] nx [(0, some (resC false)), (1, some (.loop i (evT 0 w) none))] s [.fn (.yield i.l) [], xptr x, vptr vs] [.fn (.yield i.l) [], xptr x, vptr vs] := by
   refine ⟨?_, rfl, hnd, hlt, rfl⟩
   simp [-renB, g0, g3, hl0]
 refine Gives.mk_walkK (N := 20) (args := [.fn (.yield i.l) [], xptr x, vptr vs]) [b0, lam] []
   [(0, some (resC false)), (1, some (.loop i (evT 0 w) none))] [(1, some (.loop i (evT 0 w) (jmpB (Ja8 (vsF vs) w x.args)))), (0, some (resC false))] 2 0 (.tup []) (fun _ => []) (up1 := [(lam, some (.loop i (evT b0 w) (jmpB (Ja8 (vsF vs) w x.args)))), (b0, some (resC false))]) Tryz.func125 rfl rfl rfl (by simp) rfl
   hL (by simp) rfl rfl (by simp) rfl ?_
 simp [-renB]
 refine Jai.go [0, 2, 7, 8] [0] 0 [] (fun _ => []) (fun _ (j : Nat) => [(9, .p (.int .i64 j))]) (fun _ _ => [(1, some (.loop i (evT 0 w) none))]) (fun j => j <= x.args.length /\ Ja8 (vsF vs) w (x.args.take j) = true) (fun j => x.args.length - j) 0 ⟨by omega, rfl⟩ ?_ ?_
 . simp [-renB, r9]
   try decide
 rintro j ⟨hj, hp⟩
 simp [-renB]
 refine Jan (fun h => ?_) (fun h => ?_)
 . simp at h
   obtain ⟨y, e⟩ := Jae h
   have hy := ih y (List.mem_of_getElem? e)
   simp [-renB, h, e, -getElem?_pos, List.getElem?_cons_zero, List.getElem?_cons_succ]
   refine Jab hy ?_
   simp [-renB]
   refine Jfe (hY (evX (vsF vs) y) _ _ 0 1 (by simp) (by simp) rfl rfl) ?_
   cases hv : (evX (vsF vs) y == w) with
   | true =>
     have hj2 : Ja8 (vsF vs) w (x.args.take (j + 1)) = true := by rw [take_snoc e, Jk3, hp, Jpb, hv]; rfl
     simp [-renB, jmpB]
     exact ⟨wrap_i64 (by omega) (by omega), j + 1, ⟨by omega, hj2⟩, by omega, by omega, .inl rfl⟩
   | false =>
     have hall : Ja8 (vsF vs) w x.args = false := by
       have h2 : Ja8 (vsF vs) w (x.args.take (j + 1) ++ x.args.drop (j + 1)) = false := by rw [Jk3, take_snoc e, Jk3, hp, Jpb, hv]; rfl
       rw [List.take_append_drop] at h2
       exact h2
     rw [hall]
     simp [-renB, jmpB]
     exact rfl
 . simp at h
   have hjl : j = x.args.length := by omega
   subst hjl
   rw [List.take_length] at hp
   rw [hp]
   simp [-renB, r9, jmpB]
   try decide
theorem Jkf (w : Bool) (x : Ex) (vs : List Bool) (hl : x.args.length < 2305843009213693952) (ih : ∀ y ∈ x.args, Pure Tryz.prog GL 95 [y.av, .p (.lst 1 (vs.map benc))] (.p (.bool (evX (vsF vs) y)))) :
   Pure Tryz.prog GL 152 [.fn (.func 125) [xptr x, vptr vs], .iptr 1 [[.bool w]] 0 0] (.p (.bool (Ja8 (vsF vs) w x.args))) := by
 refine Pure.of_walk (N := 10) Tryz.func152 rfl rfl rfl (by simp) rfl ?_
 simp
 refine Jcw.intro [1, 3] Tryz.func125 rfl rfl fun l0 fn => ?_
 refine ⟨_, _, _, _, jmpB (Ja8 (vsF vs) w x.args), Jxk (i := ⟨l0, 10, fn, #[6], _, _⟩) (w := w) ?_ x vs hl ih _ _ 0 1 (by simp) (by simp) rfl rfl, rfl, ?_⟩
 . intro b s nx b0 lam hnd hlt g0 g3
   have hnd2 : [b0].Nodup := (List.nodup_cons.1 hnd).2
   have hlt2 : ∀ b ∈ [b0], b < nx := fun b hb => hlt b (List.mem_cons_of_mem _ hb)
   have hw := GivesY.of_walk (P := Tryz.prog) (G := GL) (i := ⟨l0, 10, fn, #[6], _, _⟩) (tl := evT b0 w) (σ := [b0]) (t0 := evT 0 w) (args := [.p (.bool b)]) (args' := [.p (.bool b)]) (free := []) (m := 1) (x := 0) (j := jmpB (b == w)) (nx := nx) (lam := lam) (s := s)
     (s0 := [(0, some (resC false))]) (s1 := [(0, some (resC false))]) (up1 := [(b0, some (resC false))])
     (fun _ => []) rfl ⟨?_, rfl, hnd2, hlt2, rfl⟩ g3 (List.nodup_cons.1 hnd).1 (hlt lam (by simp)) rfl rfl (by simp) (by simp) rfl ?_
   . rw [Jyp] at hw
     exact hw
   . simp [-renB, g0]
   . simp [Jda, evT, resC]
     cases b <;> cases w
     all_goals
       simp
       refine Jdr.of ?_
       simp [-renB, Jno, jmpB, Jb3, resC, Jd0]
       try decide
 . cases h : Ja8 (vsF vs) w x.args with
   | true =>
     simp [jmpB, Jea, resC]
     simp [Jaa]
   | false =>
     simp [jmpB, Jea, resC]
     simp [Jaa]
theorem Jkd (w : Bool) : Pure Tryz.prog GL 140 [.p (.bool w)] (.fn (.func 152) [.iptr 1 [[.bool w]] 0 0]) := by
 refine Pure.of_walk (N := 4) Tryz.func140 rfl rfl rfl (by simp) (by first | (simp; done) | simp [*]) ?_
 simp [Jaa]
theorem Jvx (x : Ex) (vs : List Bool) (hl : x.args.length < 2305843009213693952) (ih : ∀ y ∈ x.args, Pure Tryz.prog GL 95 [y.av, .p (.lst 1 (vs.map benc))] (.p (.bool (evX (vsF vs) y)))) :
   Pure Tryz.prog GL 141 [.fn (.func 125) [xptr x, vptr vs]] (.p (.bool (!Ja8 (vsF vs) false x.args))) := by
 refine Pure.of_walk (N := 7) Tryz.func141 rfl rfl rfl (by simp) rfl ?_
 have hE := Jkd false
 have h1 := Jkf false x vs hl ih
 simp
 refine Jab hE ?_
 simp
 refine Jab h1 ?_
 simp [Jaa]
abbrev evFn (w : Bool) : AV := .fn (.func 152) [.iptr 1 [[.bool w]] 0 0]
theorem Joe  : Pure Tryz.prog GL 124 [] (.agg [.p (.int .i64 0), .p (.int .i64 0), .p .nilf, .p (.int .i64 0), .p (.int .i64 0), .p .nilf, .p (.int .i64 1), .p (.int .i64 1), evFn false, .p (.int .i64 2), .p (.int .i64 256), evFn true, .p (.int .i64 2), .p (.int .i64 256), .fn (.func 141) []]) := by
 refine Pure.of_walk (N := 9) Tryz.func124 rfl rfl rfl (by simp) (by first | (simp; done) | simp [*]) ?_
 have h1 := Jkd false
 have h2 := Jkd true
 simp
 refine Jab h1 ?_
 simp
 refine Jab h2 ?_
 simp [Jaa]
 exact ⟨Jmv _ rfl, Jmv _ rfl⟩
theorem Jfl {v : Nat -> Bool} {x : Ex} : evX v x = if x.op = 0 then decide (x.idx = 1) else if x.op = 1 then v x.idx.toNat else if x.op = 2 then Ja8 v false x.args else if x.op = 3 then Ja8 v true x.args else !Ja8 v false x.args := by cases x; rfl
theorem Jlx {n : Int} {x : Ex} (h : nodE n x = 0) : (x.op = 0 \/ x.op = 1 \/ x.op = 2 \/ x.op = 3 \/ x.op = 4) /\ 0 <= x.idx /\ (x.op = 1 -> x.idx < n) /\ (x.op = 0 -> x.idx < 2) /\ (x.op <= 1 -> x.args = []) /\ (x.op = 2 -> x.args.length = 1) /\ (3 <= x.op -> 2 <= x.args.length) /\ (2 <= x.op -> x.idx = 0) := by
 unfold nodE at h
 by_cases h1 : x.op < 0 \/ 5 <= x.op
 . rw [if_pos h1] at h; cases h
 rw [if_neg h1] at h
 by_cases h2 : (x.op <= 1 /\ x.args.length ≠ 0) \/ (x.op = 2 /\ x.args.length ≠ 1) \/ (3 <= x.op /\ x.args.length < 2)
 . rw [if_pos h2] at h; cases h
 rw [if_neg h2] at h
 by_cases h3 : x.idx < 0 \/ (if x.op = 0 then 2 else if x.op = 1 then n else 1) <= x.idx
 . rw [if_pos h3] at h; cases h
 refine ⟨by omega, by omega, fun e => ?_, fun e => ?_, fun e => ?_, fun e => by omega, fun e => by omega, fun e => ?_⟩
 . rw [if_neg (by omega), if_pos e] at h3; omega
 . rw [if_pos e] at h3; omega
 . exact List.length_eq_zero_iff.1 (by omega)
 . rw [if_neg (by omega), if_neg (by omega)] at h3; omega
theorem Ju0 (vs : List Bool) (hv : vs.length <= 256) : ∀ x : Ex, okX x -> Jbj vs.length x = 0 -> Pure Tryz.prog GL 95 [x.av, .p (.lst 1 (vs.map benc))] (.p (.bool (evX (vsF vs) x))) := Ex.ind' (fun x ih hok hr => by
 obtain ⟨hl, ho⟩ := Jc8 hok
 obtain ⟨hr0, hra⟩ := Jiz hr
 obtain ⟨f1, f2, f3, f4, f5, f6, f7, f8⟩ := Jlx hr0
 have ih2 : ∀ y ∈ x.args, Pure Tryz.prog GL 95 [y.av, .p (.lst 1 (vs.map benc))] (.p (.bool (evX (vsF vs) y))) := fun y hy => ih y hy (ho y hy) (hra y hy)
 have e0 := @Jfl (vsF vs) x
 have hS := Joe
 refine Pure.of_walk (N := 26) Tryz.func95 rfl rfl rfl (by simp) rfl ?_
 rcases f1 with h | h | h | h | h
 . rw [h] at e0
   simp at e0
   rw [e0]
   simp [h, Jaa]
 . rw [h] at e0
   simp at e0
   have hi := f3 h
   obtain ⟨k, hk⟩ : ∃ k : Nat, x.idx = k := ⟨x.idx.toNat, by omega⟩
   have hkl : k < vs.length := by omega
   obtain ⟨b, e⟩ := Jae hkl
   have hvs : vsF vs k = b := by unfold vsF; rw [List.getD_eq_getElem?_getD, e]; rfl
   rw [hk] at e0
   simp at e0
   rw [e0, hvs]
   simp [h, hk, hkl, e, -getElem?_pos, List.getElem?_cons_zero, List.getElem?_cons_succ]
   simp [Jaa]
 . have h1 := Jkf false x vs hl ih2
   unfold xptr at h1
   rw [h] at h1 e0
   simp at e0
   rw [e0]
   simp [h]
   refine Jaf.intro (by kernel_rfl) ?_
   simp [h]
   refine Jab hS ?_
   simp
   refine Jdn ?_
   simp
   refine ⟨_, h1, ?_⟩
   exact ⟨.of (by kernel_rfl), by simp [Jaa]⟩
 . have h1 := Jkf true x vs hl ih2
   unfold xptr at h1
   rw [h] at h1 e0
   simp at e0
   rw [e0]
   simp [h]
   refine Jaf.intro (by kernel_rfl) ?_
   simp [h]
   refine Jab hS ?_
   simp
   refine Jdn ?_
   simp
   refine ⟨_, h1, ?_⟩
   exact ⟨.of (by kernel_rfl), by simp [Jaa]⟩
 . have h1 := Jvx x vs hl ih2
   unfold xptr at h1
   rw [h] at h1 e0
   simp at e0
   rw [e0]
   simp [h]
   refine Jaf.intro (by kernel_rfl) ?_
   simp [h]
   refine Jab hS ?_
   simp
   refine Jdn ?_
   simp
   refine ⟨_, h1, ?_⟩
   exact ⟨.of (by kernel_rfl), by simp [Jaa]⟩)
end Go.Am
namespace Go.Am
open Go Go.Proofs Go.Pn
mutual
def mxX (k d : Nat) : Ex -> Nat
 | .mk _ _ al => mxL (k + 1) (max d k) al
def mxL (k d : Nat) : List Ex -> Nat
 | [] => d
 | x :: xs => mxL k (mxX k d x) xs
end
theorem Jqr {k d : Nat} {x : Ex} : mxX k d x = mxL (k + 1) (max d k) x.args := by cases x; rfl
theorem Jlo {k : Nat} : ∀ {l m : List Ex} {d : Nat}, mxL k d (l ++ m) = mxL k (mxL k d l) m
 | [], m, d => rfl
 | x :: xs, m, d => by rw [List.cons_append, mxL, mxL, Jlo]
theorem Jjg {x : Ex} : szX x = 1 + szL x.args := by cases x; rfl
theorem Jjf : ∀ {l m : List Ex}, szL (l ++ m) = szL l + szL m
 | [], m => by rw [szL, List.nil_append, Nat.zero_add]
 | x :: xs, m => by rw [List.cons_append, szL, szL, Jjf, Nat.add_assoc]
theorem Jsq {x : Ex} : szL [x] = szX x := by rw [szL, szL, Nat.add_zero]
theorem Jsr {l : List Ex} {j : Nat} : szL (l.take j) <= szL l := by
 have h : szL l = szL (l.take j ++ l.drop j) := by rw [List.take_append_drop]
 rw [h, Jjf]
 exact Nat.le_add_right ..
theorem Jwj {k : Nat} {x y : Ex} (h : Ja2 k x = true) (hy : y ∈ x.args) : ∃ m, k = m + 2 /\ Ja2 (m + 1) y = true := by
 match k with
 | 0 => cases h
 | 1 =>
   rw [Ja2, List.isEmpty_iff] at h
   rw [h] at hy; cases hy
 | m + 2 =>
   rw [Ja2, List.all_eq_true] at h
   exact ⟨m, rfl, h y hy⟩
def msT (b2 b3 b4 b5 b6 : Nat) : Jap := [(2, .ptr b2 1 0 0), (3, .ptr b3 1 0 0), (4, .ptr b4 1 0 0), (5, .ptr b5 1 0 0), (6, .ptr b6 1 0 0)]
def Jnm (i : LoopI) : Prop :=
 ∀ (n d k : Nat) (y : Ex) (s : Store) (nx b2 b3 b4 b5 b6 lam : Nat), n < 256 -> k <= 16 -> d <= 16 -> [lam, b2, b3, b4, b5, b6].Nodup -> (∀ b ∈ [lam, b2, b3, b4, b5, b6], b < nx) -> get s b2 = some (intC 0) -> get s b3 = some (intC 0) -> get s b4 = some (resC false) -> get s b5 = some (intC n) -> get s b6 = some (intC d) ->
   get s lam = some (.loop i (msT b2 b3 b4 b5 b6) none) ->
   GivesY Tryz.prog GL i.l [.p (.int .i64 k), y.av] s nx (.p (.bool true)) [lam, b2, b3, b4, b5, b6] [(lam, some (.loop i (msT b2 b3 b4 b5 b6) none)), (b5, some (intC (n + 1))), (b6, some (intC (max d k)))] nx
def visC (a b : Nat) : ABlk := .cells 1 [[.fn (.func 139) [.ptr a 1 0 0, .ptr b 1 0 0]]]
def yldC (l : Nat) : ABlk := .cells 1 [[.fn (.yield l) []]]
def msS (i : LoopI) (n d : Nat) : Store := [(0, some (intC 0)), (1, some (intC 0)), (2, some (resC false)), (3, some (intC n)), (4, some (intC d)), (5, some (.loop i (msT 0 1 2 3 4) none)), (6, some (yldC i.l)), (7, some (visC 6 7))]
theorem Jze {i : LoopI} {n d : Nat} {s : Store} {nx b2 b3 b4 b5 b6 lam a b : Nat} {x : Ex} {y : PV} (hnd : [b2, b3, b4, b5, b6, lam, a, b].Nodup) (hlt : ∀ x ∈ [b2, b3, b4, b5, b6, lam, a, b], x < nx)
   (g0 : get s b2 = some (intC 0)) (g1 : get s b3 = some (intC 0)) (g2 : get s b4 = some (resC false)) (g3 : get s b5 = some (intC n)) (g4 : get s b6 = some (intC d)) (g5 : get s lam = some (.loop i (msT b2 b3 b4 b5 b6) none)) (g6 : get s a = some (yldC i.l)) (g7 : get s b = some (visC a b)) :
   Jce [b2, b3, b4, b5, b6, lam, a, b] nx (msS i n d) s [x.av, .p y, .ptr 6 1 0 0, .ptr 7 1 0 0] [x.av, .p y, .ptr a 1 0 0, .ptr b 1 0 0] := by
 have e5 : renB [b2, b3, b4, b5, b6, lam, a, b] (.loop i (msT 0 1 2 3 4) none) = some (.loop i (msT b2 b3 b4 b5 b6) none) := rfl
 have e6 : renB [b2, b3, b4, b5, b6, lam, a, b] (yldC i.l) = some (yldC i.l) := rfl
 have e7 : renB [b2, b3, b4, b5, b6, lam, a, b] (visC 6 7) = some (visC a b) := rfl
 refine ⟨?_, rfl, hnd, hlt, rfl⟩
 simp [-renB, msS, g0, g1, g2, g3, g4, g5, g6, g7, e5, e6, e7, Jcm]
theorem Jkv {k : Nat} {x : Ex} (h : Ja2 (17 - k) x = true) : k <= 16 := by
 apply Classical.byContradiction
 intro hk
 rw [show 17 - k = 0 by omega] at h
 cases h
theorem Jh9 {k : Nat} {x y : Ex} (h : Ja2 (17 - k) x = true) (hy : y ∈ x.args) : k <= 15 /\ Ja2 (17 - (k + 1)) y = true := by
 obtain ⟨m, hm, hdy⟩ := Jwj h hy
 exact ⟨by omega, by rw [show 17 - (k + 1) = m + 1 by omega]; exact hdy⟩
theorem Jzg : ∀ (x : Ex) (k d : Nat), Ja2 (17 - k) x = true -> d <= 16 -> mxX k d x <= 16 := Ex.ind' (fun x ih k d h hd => by
 have hk := Jkv h
 rw [Jqr]
 have key : ∀ (l : List Ex) (d : Nat), (∀ y ∈ l, y ∈ x.args) -> d <= 16 -> mxL (k + 1) d l <= 16 := by
   intro l
   induction l with
   | nil => exact fun d _ hd => hd
   | cons y ys ihl =>
     intro d hs hd
     rw [mxL]
     have hy := hs y List.mem_cons_self
     exact ihl _ (fun z hz => hs z (List.mem_cons_of_mem _ hz)) (ih y hy (k + 1) d (Jh9 h hy).2 hd)
 exact key _ _ (fun y hy => hy) (by omega))
theorem Jzf {x : Ex} {k d j : Nat} (h : Ja2 (17 - k) x = true) (hd : d <= 16) : mxL (k + 1) d (x.args.take j) <= 16 := by
 induction j with
 | zero => exact hd
 | succ j ihj =>
   by_cases hj : j < x.args.length
   . obtain ⟨y, e⟩ := Jae hj
     rw [take_snoc e, Jlo]
     exact Jzg y (k + 1) _ (Jh9 h (List.mem_of_getElem? e)).2 ihj
   . rw [List.take_of_length_le (by omega)]
     rw [List.take_of_length_le (by omega)] at ihj
     exact ihj
set_option maxRecDepth 20000 in
theorem Jya {i : LoopI} (hY : Jnm i) : ∀ x : Ex, okX x -> ∀ (k n d : Nat) (s : Store) (nx b2 b3 b4 b5 b6 lam a b : Nat), Ja2 (17 - k) x = true -> n + szX x <= 256 -> d <= 16 -> [b2, b3, b4, b5, b6, lam, a, b].Nodup -> (∀ x ∈ [b2, b3, b4, b5, b6, lam, a, b], x < nx) ->
   get s b2 = some (intC 0) -> get s b3 = some (intC 0) -> get s b4 = some (resC false) -> get s b5 = some (intC n) -> get s b6 = some (intC d) -> get s lam = some (.loop i (msT b2 b3 b4 b5 b6) none) -> get s a = some (yldC i.l) -> get s b = some (visC a b) ->
   Gives Tryz.prog GL 139 [x.av, .p (.int .i64 k), .ptr a 1 0 0, .ptr b 1 0 0] s nx (.p (.bool true)) [b2, b3, b4, b5, b6, lam, a, b] [(b5, some (intC (n + szX x))), (b6, some (intC (mxX k d x)))] nx := Ex.ind' (fun x ih hok k n d s nx b2 b3 b4 b5 b6 lam a b hdp hsz hd16 hnd hlt g0 g1 g2 g3 g4 g5 g6 g7 => by
 obtain ⟨hl, ho⟩ := Jc8 hok
 have hk16 := Jkv hdp
 have hdm : max d k <= 16 := by omega
 have hszx := @Jjg x
 have hmx := fun j => @Jzf x k (max d k) j hdp hdm
 have hst : ∀ j, szL (x.args.take j) <= szL x.args := fun j => Jsr
 have hme := @Jqr k d x
 rw [hme, hszx]
 rw [hszx] at hsz
 refine Gives.mk_walkK (N := 32) (args := [x.av, .p (.int .i64 k), .ptr 6 1 0 0, .ptr 7 1 0 0]) [b2, b3, b4, b5, b6, lam, a, b] []
   (msS i n d) [(3, some (intC (n + (1 + szL x.args)))), (4, some (intC (mxL (k + 1) (max d k) x.args)))] 8 0 (.p (.bool true)) (fun _ => []) (up1 := [(b5, some (intC (n + (1 + szL x.args)))), (b6, some (intC (mxL (k + 1) (max d k) x.args)))]) Tryz.func139 rfl rfl rfl (by simp) rfl
   (Jze hnd hlt g0 g1 g2 g3 g4 g5 g6 g7) (by simp) rfl rfl (by simp) rfl ?_
 have r8 : renB (List.range 8) (.loop i (msT 0 1 2 3 4) none) = some (.loop i (msT 0 1 2 3 4) none) := rfl
 have r9 : renB (List.range 9) (.loop i (msT 0 1 2 3 4) none) = some (.loop i (msT 0 1 2 3 4) none) := rfl
 simp [-renB, msS, yldC, visC]
 refine Jfe (hY n d k x _ _ 0 1 2 3 4 5 (by omega) hk16 hd16 (by simp) (by simp) rfl rfl rfl rfl rfl rfl) ?_
 simp [-renB]
 refine Jai.go [1, 3, 15, 16] [0, 1, 2, 5, 6, 7, 8] 0 [] (fun _ => []) (fun _ (j : Nat) => [(17, .p (.int .i64 j))]) (fun _ j => [(3, some (intC (n + 1 + szL (x.args.take j)))), (4, some (intC (mxL (k + 1) (max d k) (x.args.take j))))]) (fun j => j <= x.args.length) (fun j => x.args.length - j) 0 (by omega) ?_ ?_
 . simp [-renB, r9, Jd0, Jcm, szL, mxL]
   try decide
 intro j hj
 simp [-renB]
 refine Jan (fun h => ?_) (fun h => ?_)
 . simp at h
   obtain ⟨y, e⟩ := Jae h
   have hy := List.mem_of_getElem? e
   obtain ⟨hk15, hdy⟩ := Jh9 hdp hy
   have hki : (k : Int) <= 16 := by omega
   have hsn : szL (x.args.take (j + 1)) = szL (x.args.take j) + szX y := by rw [take_snoc e, Jjf, Jsq]
   have hmn : mxL (k + 1) (max d k) (x.args.take (j + 1)) = mxX (k + 1) (mxL (k + 1) (max d k) (x.args.take j)) y := by rw [take_snoc e, Jlo]; rfl
   have hs1 := hst (j + 1)
   simp [-renB, h, e, hki, -getElem?_pos, List.getElem?_cons_zero, List.getElem?_cons_succ]
   refine ⟨wrap_i64 (by omega) (by omega), ?_⟩
   refine Jag (ih y hy (ho y hy) (k + 1) (n + 1 + szL (x.args.take j)) (mxL (k + 1) (max d k) (x.args.take j)) _ _ 0 1 2 3 4 5 6 7 hdy (by omega) (hmx j) (by simp) (by simp) rfl rfl rfl rfl rfl rfl rfl rfl) ?_
   rw [Nat.add_assoc (n + 1), <- hsn, <- hmn]
   simp [-renB, r9, Jd0, Jcm]
   exact ⟨wrap_i64 (by omega) (by omega), j + 1, by omega, by omega, by omega, ⟨.inl rfl, .inl rfl⟩, by decide⟩
 . simp at h
   have hjl : j = x.args.length := by omega
   subst hjl
   rw [List.take_length]
   rw [Nat.add_assoc n]
   simp [-renB, r8, Jd0, Jcm, msS, yldC, visC]
   decide)
set_option maxRecDepth 20000 in
theorem Jxu {i : LoopI} (hY : Jnm i) (x : Ex) (hok : okX x) (hdp : Ja2 16 x = true) (hsz : szX x <= 256) (s : Store) (nx b2 b3 b4 b5 b6 lam : Nat) (hnd : [b2, b3, b4, b5, b6, lam].Nodup) (hlt : ∀ x ∈ [b2, b3, b4, b5, b6, lam], x < nx)
   (g0 : get s b2 = some (intC 0)) (g1 : get s b3 = some (intC 0)) (g2 : get s b4 = some (resC false)) (g3 : get s b5 = some (intC 0)) (g4 : get s b6 = some (intC 0)) (g5 : get s lam = some (.loop i (msT b2 b3 b4 b5 b6) none)) :
   Gives Tryz.prog GL 138 [.fn (.yield i.l) [], xptr x] s nx (.tup []) [b2, b3, b4, b5, b6, lam] [(b5, some (intC (szX x))), (b6, some (intC (mxX 1 0 x)))] nx := by
 have e5 : renB [b2, b3, b4, b5, b6, lam] (.loop i (msT 0 1 2 3 4) none) = some (.loop i (msT b2 b3 b4 b5 b6) none) := rfl
 have r6 : renB (List.range 6) (.loop i (msT 0 1 2 3 4) none) = some (.loop i (msT 0 1 2 3 4) none) := rfl
 have hL : Jce [b2, b3, b4, b5, b6, lam] nx [(0, some (intC 0)), (1, some (intC 0)), (2, some (resC false)), (3, some (intC 0)), (4, some (intC 0)), (5, some (.loop i (msT 0 1 2 3 4) none))] s [.fn (.yield i.l) [], xptr x] [.fn (.yield i.l) [], xptr x] := by
   refine ⟨?_, rfl, hnd, hlt, rfl⟩
   simp [-renB, g0, g1, g2, g3, g4, g5, e5, Jcm]
 refine Gives.mk_walkK (N := 8) (args := [.fn (.yield i.l) [], xptr x]) [b2, b3, b4, b5, b6, lam] []
   [(0, some (intC 0)), (1, some (intC 0)), (2, some (resC false)), (3, some (intC 0)), (4, some (intC 0)), (5, some (.loop i (msT 0 1 2 3 4) none))] [(3, some (intC (szX x))), (4, some (intC (mxX 1 0 x)))] 6 0 (.tup []) (fun _ => []) (up1 := [(b5, some (intC (szX x))), (b6, some (intC (mxX 1 0 x)))]) Tryz.func138 rfl rfl rfl (by simp) rfl
   hL (by simp) rfl rfl (by simp) rfl ?_
 simp [-renB]
 refine Jag (Jya hY x hok 1 0 0 _ _ 0 1 2 3 4 5 6 7 hdp (by omega) (by omega) (by simp) (by simp) rfl rfl rfl rfl rfl rfl rfl rfl) ?_
 rw [Nat.zero_add]
 simp [-renB, r6, Jcm]
 try decide
theorem Jod (x : Ex) : Pure Tryz.prog GL 122 [x.av] (.fn (.func 138) [xptr x]) := by
 refine Pure.of_walk (N := 4) Tryz.func122 rfl rfl rfl (by simp) (by first | (simp; done) | simp [*]) ?_
 simp [Jaa]
set_option maxRecDepth 20000 in
theorem Jur (x : Ex) (hok : okX x) (hdp : Ja2 16 x = true) (hsz : szX x <= 256) : Pure Tryz.prog GL 121 [x.av] (.tup [.p (.int .i64 (szX x)), .p (.int .i64 (mxX 1 0 x)), .p (.bool true)]) := by
 refine Pure.of_walk (N := 25) Tryz.func121 rfl rfl rfl (by simp) (by first | (simp; done) | simp [*]) ?_
 have hP := Jod x
 simp
 refine Jab hP ?_
 simp
 refine Jcw.intro [2, 3, 4, 5, 6] Tryz.func138 rfl rfl fun l0 fn => ?_
 refine ⟨_, _, _, _, none, Jxu (i := ⟨l0, 25, fn, #[10, 11], _, _⟩) ?_ x hok hdp hsz _ _ 1 2 3 4 5 6 (by simp) (by simp) rfl rfl rfl rfl rfl rfl, rfl, ?_⟩
 . intro n d k y s nx b2 b3 b4 b5 b6 lam hn hk hd hnd hlt g0 g1 g2 g3 g4 g5
   have hnd2 : [b2, b3, b4, b5, b6].Nodup := (List.nodup_cons.1 hnd).2
   have hlt2 : ∀ b ∈ [b2, b3, b4, b5, b6], b < nx := fun b hb => hlt b (List.mem_cons_of_mem _ hb)
   refine GivesY.of_walk (σ := [b2, b3, b4, b5, b6]) (t0 := msT 0 1 2 3 4) (args := [.p (.int .i64 k), y.av]) (free := []) (m := 5) (x := 0) (j := none)
     (s0 := [(0, some (intC 0)), (1, some (intC 0)), (2, some (resC false)), (3, some (intC n)), (4, some (intC d))])
     (s1 := [(3, some (intC (n + 1))), (4, some (intC (max d k)))])
     (fun _ => []) rfl ⟨?_, rfl, hnd2, hlt2, rfl⟩ g5 (List.nodup_cons.1 hnd).1 (hlt lam (by simp)) rfl rfl (by simp) (by simp) rfl ?_
   . simp [-renB, g0, g1, g2, g3, g4, Jcm]
   . have h1 : ¬ (256 : Int) < n + 1 := by omega
     have h2 : ¬ (16 : Int) < k := by omega
     have hmax : max (d : Int) (k : Int) = ((max d k : Nat) : Int) := Jzc
     simp [Jda, msT, intC, resC, h1, h2, hmax]
     refine ⟨wrap_i64 (by omega) (by omega), Jdr.of ⟨rfl, ?_⟩⟩
     simp [-renB, Jd0]
     try decide
 . simp [Jea, intC, resC]
   refine Jaf.intro (by kernel_rfl) ?_
   simp
   exact ⟨.of (by kernel_rfl), by simp [Jaa]⟩
end Go.Am
namespace Go.Am
open Go Go.Proofs Go.Pn
set_option maxRecDepth 100000 in
theorem Jup (rows : List (List PV)) (n o i : Int) (hl : rows.length <= 256) (hn : 0 <= n /\ n <= 1000) (h : nodV n o i rows.length = 0) : Pure Tryz.prog GL 123 [.agg [.p (.int .i64 o), .p (.int .i64 i), .p (.lst 3 rows)], .p (.int .i64 n)] (.p (.int .i64 0)) := by
 have hS := Joe
 refine Pure.of_walk (N := 50) Tryz.func123 rfl rfl rfl (by simp) rfl ?_
 unfold nodV at h
 by_cases a0 : o < 0 \/ 5 <= o
 . rw [if_pos a0] at h; cases h
 rw [if_neg a0] at h
 by_cases a1 : (o <= 1 /\ rows.length ≠ 0) \/ (o = 2 /\ rows.length ≠ 1) \/ (3 <= o /\ rows.length < 2)
 . rw [if_pos a1] at h; cases h
 rw [if_neg a1] at h
 by_cases a2 : i < 0 \/ (if o = 0 then 2 else if o = 1 then n else 1) <= i
 . rw [if_pos a2] at h; cases h
 clear h
 have c1 : ¬ i < 0 := by omega
 rcases (by omega : o = 0 \/ o = 1 \/ o = 2 \/ o = 3 \/ o = 4) with rfl | rfl | rfl | rfl | rfl
 . have b1 : rows = [] := List.length_eq_zero_iff.1 (by omega)
   subst b1
   have c2 : ¬ (1 : Int) < i := by rw [if_pos rfl] at a2; omega
   simp
   refine Jaf.intro (by kernel_rfl) ?_
   simp
   refine Jab hS ?_
   simp [c1, c2]
   exact ⟨.of (by kernel_rfl), by simp [Jaa]⟩
 . have b1 : rows = [] := List.length_eq_zero_iff.1 (by omega)
   subst b1
   have c2 : ¬ n - 1 < i := by rw [if_neg (by decide), if_pos rfl] at a2; omega
   simp
   refine Jaf.intro (by kernel_rfl) ?_
   simp
   refine Jab hS ?_
   simp [c1, c2]
   exact ⟨.of (by kernel_rfl), wrap_i64 (by omega) (by omega), by simp [Jaa]⟩
 . have b1 : rows.length = 1 := by omega
   have c2 : ¬ (0 : Int) < i := by rw [if_neg (by decide), if_neg (by decide)] at a2; omega
   simp
   refine Jaf.intro (by kernel_rfl) ?_
   simp
   refine Jab hS ?_
   simp [c1, c2, b1]
   exact ⟨.of (by kernel_rfl), by simp [Jaa]⟩
 all_goals
   have b1 : ¬ (rows.length : Int) < 2 := by omega
   have b2 : ¬ (256 : Int) < rows.length := by omega
   have c2 : ¬ (0 : Int) < i := by rw [if_neg (by decide), if_neg (by decide)] at a2; omega
   simp
   refine Jaf.intro (by kernel_rfl) ?_
   simp
   refine Jab hS ?_
   simp [c1, c2, b1, b2]
   exact ⟨.of (by kernel_rfl), by simp [Jaa]⟩
theorem Juo (x : Ex) (n : Int) (hl : x.args.length <= 256) (hn : 0 <= n /\ n <= 1000) (h : nodE n x = 0) : Pure Tryz.prog GL 123 [x.av, .p (.int .i64 n)] (.p (.int .i64 0)) :=
 Jup (x.args.map Ex.enc) n x.op x.idx (by rw [List.length_map]; exact hl) hn (by rw [List.length_map, <- Jzr]; exact h)
theorem Jsp : ∀ {l : List Ex}, l.length <= szL l
 | [] => Nat.le_refl _
 | x :: xs => by
   have := @Jsp xs
   have : 1 <= szX x := by rw [Jjg]; omega
   rw [szL, List.length_cons]; omega
theorem J2n {x : Ex} : x.args.length < szX x := by
 have := @Jsp x.args
 rw [Jjg]; omega
theorem J2o {x y : Ex} (h : y ∈ x.args) : szX y <= szX x := by
 obtain ⟨j, hj, e⟩ := List.getElem_of_mem h
 have h1 : x.args[j]? = some y := by rw [List.getElem?_eq_getElem hj, e]
 have h2 := @Jsr x.args (j + 1)
 rw [take_snoc h1, Jjf, Jsq] at h2
 rw [@Jjg x]; omega
def ckT (b3 b4 : Nat) : Jap := [(3, .ptr b3 1 0 0), (4, .ptr b4 1 0 0)]
def Jnl (i : LoopI) (n : Nat) : Prop :=
 ∀ (k : Nat) (y : Ex) (s : Store) (nx b3 b4 lam : Nat), nodE n y = 0 -> y.args.length <= 256 -> [lam, b3, b4].Nodup -> (∀ b ∈ [lam, b3, b4], b < nx) -> get s b3 = some (intC n) -> get s b4 = some (intC 0) -> get s lam = some (.loop i (ckT b3 b4) none) ->
   GivesY Tryz.prog GL i.l [.p (.int .i64 k), y.av] s nx (.p (.bool true)) [lam, b3, b4] [(lam, some (.loop i (ckT b3 b4) none))] nx
def ckS (i : LoopI) (n : Nat) : Store := [(0, some (intC n)), (1, some (intC 0)), (2, some (.loop i (ckT 0 1) none)), (3, some (yldC i.l)), (4, some (visC 3 4))]
theorem Jv8 {i : LoopI} {n : Nat} {s : Store} {nx b3 b4 lam a b : Nat} {x : Ex} {y : PV} (hnd : [b3, b4, lam, a, b].Nodup) (hlt : ∀ x ∈ [b3, b4, lam, a, b], x < nx)
   (g3 : get s b3 = some (intC n)) (g4 : get s b4 = some (intC 0)) (g5 : get s lam = some (.loop i (ckT b3 b4) none)) (g6 : get s a = some (yldC i.l)) (g7 : get s b = some (visC a b)) :
   Jce [b3, b4, lam, a, b] nx (ckS i n) s [x.av, .p y, .ptr 3 1 0 0, .ptr 4 1 0 0] [x.av, .p y, .ptr a 1 0 0, .ptr b 1 0 0] := by
 have e5 : renB [b3, b4, lam, a, b] (.loop i (ckT 0 1) none) = some (.loop i (ckT b3 b4) none) := rfl
 have e6 : renB [b3, b4, lam, a, b] (yldC i.l) = some (yldC i.l) := rfl
 have e7 : renB [b3, b4, lam, a, b] (visC 3 4) = some (visC a b) := rfl
 refine ⟨?_, rfl, hnd, hlt, rfl⟩
 simp [-renB, ckS, g3, g4, g5, g6, g7, e5, e6, e7, Jcm]
set_option maxRecDepth 20000 in
theorem Jx9 {i : LoopI} {n : Nat} (hY : Jnl i n) : ∀ x : Ex, okX x -> ∀ (k : Nat) (s : Store) (nx b3 b4 lam a b : Nat), Ja2 (17 - k) x = true -> szX x <= 256 -> Jbj n x = 0 -> [b3, b4, lam, a, b].Nodup -> (∀ x ∈ [b3, b4, lam, a, b], x < nx) ->
   get s b3 = some (intC n) -> get s b4 = some (intC 0) -> get s lam = some (.loop i (ckT b3 b4) none) -> get s a = some (yldC i.l) -> get s b = some (visC a b) ->
   Gives Tryz.prog GL 139 [x.av, .p (.int .i64 k), .ptr a 1 0 0, .ptr b 1 0 0] s nx (.p (.bool true)) [b3, b4, lam, a, b] [] nx := Ex.ind' (fun x ih hok k s nx b3 b4 lam a b hdp hsz hr hnd hlt g3 g4 g5 g6 g7 => by
 obtain ⟨hl, ho⟩ := Jc8 hok
 obtain ⟨hr0, hra⟩ := Jiz hr
 have hk16 := Jkv hdp
 have hal := @J2n x
 refine Gives.mk_walkK (N := 32) (args := [x.av, .p (.int .i64 k), .ptr 3 1 0 0, .ptr 4 1 0 0]) [b3, b4, lam, a, b] []
   (ckS i n) [] 5 0 (.p (.bool true)) (fun _ => []) (up1 := []) Tryz.func139 rfl rfl rfl (by simp) rfl
   (Jv8 hnd hlt g3 g4 g5 g6 g7) (by simp) rfl rfl (by simp) rfl ?_
 have r8 : renB (List.range 5) (.loop i (ckT 0 1) none) = some (.loop i (ckT 0 1) none) := rfl
 have r9 : renB (List.range 6) (.loop i (ckT 0 1) none) = some (.loop i (ckT 0 1) none) := rfl
 simp [-renB, ckS, yldC, visC]
 refine Jfe (hY k x _ _ 0 1 2 hr0 (by omega) (by simp) (by simp) rfl rfl rfl) ?_
 simp [-renB]
 refine Jai.go [1, 3, 15, 16] [0, 1, 2, 3, 4, 5] 0 [] (fun _ => []) (fun _ (j : Nat) => [(17, .p (.int .i64 j))]) (fun _ _ => []) (fun j => j <= x.args.length) (fun j => x.args.length - j) 0 (by omega) ?_ ?_
 . simp [-renB, r9, Jd0, Jcm]
   try decide
 intro j hj
 simp [-renB]
 refine Jan (fun h => ?_) (fun h => ?_)
 . simp at h
   obtain ⟨y, e⟩ := Jae h
   have hy := List.mem_of_getElem? e
   obtain ⟨hk15, hdy⟩ := Jh9 hdp hy
   have hki : (k : Int) <= 16 := by omega
   have hsy := J2o hy
   simp [-renB, h, e, hki, -getElem?_pos, List.getElem?_cons_zero, List.getElem?_cons_succ]
   refine ⟨wrap_i64 (by omega) (by omega), ?_⟩
   refine Jag (ih y hy (ho y hy) (k + 1) _ _ 0 1 2 3 4 hdy (by omega) (hra y hy) (by simp) (by simp) rfl rfl rfl rfl rfl) ?_
   simp [-renB, r9, Jd0, Jcm]
   exact ⟨wrap_i64 (by omega) (by omega), j + 1, by omega, by omega, by omega⟩
 . simp at h
   simp [-renB, r8, Jd0, Jcm, ckS, yldC, visC]
   decide)
set_option maxRecDepth 20000 in
theorem Jxt {i : LoopI} {n : Nat} (hY : Jnl i n) (x : Ex) (hok : okX x) (hdp : Ja2 16 x = true) (hsz : szX x <= 256) (hr : Jbj n x = 0) (s : Store) (nx b3 b4 lam : Nat) (hnd : [b3, b4, lam].Nodup) (hlt : ∀ x ∈ [b3, b4, lam], x < nx)
   (g3 : get s b3 = some (intC n)) (g4 : get s b4 = some (intC 0)) (g5 : get s lam = some (.loop i (ckT b3 b4) none)) :
   Gives Tryz.prog GL 138 [.fn (.yield i.l) [], xptr x] s nx (.tup []) [b3, b4, lam] [] nx := by
 have e5 : renB [b3, b4, lam] (.loop i (ckT 0 1) none) = some (.loop i (ckT b3 b4) none) := rfl
 have r6 : renB (List.range 3) (.loop i (ckT 0 1) none) = some (.loop i (ckT 0 1) none) := rfl
 have hL : Jce [b3, b4, lam] nx [(0, some (intC n)), (1, some (intC 0)), (2, some (.loop i (ckT 0 1) none))] s [.fn (.yield i.l) [], xptr x] [.fn (.yield i.l) [], xptr x] := by
   refine ⟨?_, rfl, hnd, hlt, rfl⟩
   simp [-renB, g3, g4, g5, e5, Jcm]
 refine Gives.mk_walkK (N := 8) (args := [.fn (.yield i.l) [], xptr x]) [b3, b4, lam] []
   [(0, some (intC n)), (1, some (intC 0)), (2, some (.loop i (ckT 0 1) none))] [] 3 0 (.tup []) (fun _ => []) (up1 := []) Tryz.func138 rfl rfl rfl (by simp) rfl
   hL (by simp) rfl rfl (by simp) rfl ?_
 simp [-renB]
 refine Jag (Jx9 hY x hok 1 _ _ 0 1 2 3 4 hdp hsz hr (by simp) (by simp) rfl rfl rfl rfl rfl) ?_
 simp [-renB, r6, Jcm]
 try decide
set_option maxRecDepth 20000 in
theorem Jkc (x : Ex) (n : Nat) (hn : n <= 256) (hok : okX x) (hdp : Ja2 16 x = true) (hsz : szX x <= 256) (hr : Jbj n x = 0) : Pure Tryz.prog GL 94 [x.av, .p (.int .i64 n)] (.p (.int .i64 0)) := by
 refine Pure.of_walk (N := 35) Tryz.func94 rfl rfl rfl (by simp) (by first | (simp; done) | simp [*]) ?_
 have hP := Jod x
 have hM := Jur x hok hdp hsz
 have h1 : ¬ (n : Int) < 0 := by omega
 have h2 : ¬ (256 : Int) < n := by omega
 simp [h1, h2]
 refine Jab hM ?_
 simp
 refine Jab hP ?_
 simp
 refine Jcw.intro [3, 4] Tryz.func138 rfl rfl fun l0 fn => ?_
 refine ⟨_, _, _, _, none, Jxt (i := ⟨l0, 35, fn, #[27, 28], _, _⟩) (n := n) ?_ x hok hdp hsz hr _ _ 1 2 3 (by simp) (by simp) rfl rfl rfl, rfl, ?_⟩
 . intro k y s nx b3 b4 lam hny hly hnd hlt g3 g4 g5
   have hnd2 : [b3, b4].Nodup := (List.nodup_cons.1 hnd).2
   have hlt2 : ∀ b ∈ [b3, b4], b < nx := fun b hb => hlt b (List.mem_cons_of_mem _ hb)
   have hN := Juo y n hly (by omega) hny
   refine GivesY.of_walk (σ := [b3, b4]) (t0 := ckT 0 1) (args := [.p (.int .i64 k), y.av]) (free := []) (m := 2) (x := 0) (j := none)
     (s0 := [(0, some (intC n)), (1, some (intC 0))]) (s1 := [])
     (fun _ => []) rfl ⟨?_, rfl, hnd2, hlt2, rfl⟩ g5 (List.nodup_cons.1 hnd).1 (hlt lam (by simp)) rfl rfl (by simp) (by simp) rfl ?_
   . simp [-renB, g3, g4, Jcm]
   . simp [Jda, ckT, intC]
     refine Jab hN ?_
     simp
     refine Jdr.of ⟨rfl, ?_⟩
     simp [-renB, Jd0, intC]
     try decide
 . simp [Jea, intC]
   simp [Jaa]
end Go.Am
namespace Go.Am
open Go Go.Proofs Go.Pn
structure RtX (n : Nat) (x : Ex) : Prop where
 ok : okX x
 deep : Ja2 16 x = true
 size : szX x <= 256
 nods : Jbj n x = 0
theorem Jox {n : Nat} {x : Ex} (hok : okX x) (h : chkE n x = 0) : RtX n x := by
 unfold chkE at h
 by_cases h1 : (n : Int) < 0 \/ 256 < (n : Int)
 . rw [if_pos h1] at h; cases h
 rw [if_neg h1] at h
 cases h2 : (decide (cntX 256 x <= 256) && Ja2 16 x) with
 | false => rw [h2, if_pos rfl] at h; cases h
 | true =>
   rw [h2, if_neg (by decide)] at h
   rw [Bool.and_eq_true, decide_eq_true_eq] at h2
   have := (Jkr x 256).2.2 h2.1
   exact ⟨hok, h2.2, by omega, h⟩
theorem Juq (x : Ex) (vs : List Bool) (hv : vs.length <= 256) (hx : RtX vs.length x) : Pure Tryz.prog GL 63 [x.av, .p (.lst 1 (vs.map benc))] (.tup [.p (.bool (evX (vsF vs) x)), .p (.int .i64 0)]) := by
 refine Pure.of_walk (N := 17) Tryz.func63 rfl rfl rfl (by simp) (by first | (simp; done) | simp [*]) ?_
 have hC := Jkc x vs.length (by omega) hx.ok hx.deep hx.size hx.nods
 have hE := Ju0 vs hv x hx.ok hx.nods
 simp
 refine Jab hC ?_
 simp
 refine Jab hE ?_
 simp [Jaa]
end Go.Am
