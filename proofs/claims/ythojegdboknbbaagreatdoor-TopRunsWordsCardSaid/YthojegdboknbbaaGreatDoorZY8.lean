/- Contracts: a round of the plant; chapter 31. -/
import Derived.Test.YthojegdboknbbaaGreatDoorZY7
set_option linter.unusedVariables false
set_option linter.unusedSimpArgs false
namespace Go.Am
open Go Go.Proofs Go.Pn
def plN (c : Ctl) (i : Nat) : Nat := (c.plus.getD i 0).toNat
def miN (c : Ctl) (i : Nat) : Nat := (c.minus.getD i 0).toNat
def conP (c : Ctl) (t : Sta) : Nat -> List Int
 | 0 => []
 | i + 1 => if (lnF t (plN c i) && lnF t (miN c i)) = true then conP c t i ++ [((cntN c + i : Nat) : Int)] else conP c t i
theorem Jh8 {c : Ctl} {t : Sta} : ∀ i, (conP c t i).length <= i
 | 0 => Nat.le_refl _
 | i + 1 => by
   have := @Jh8 c t i
   rw [conP]
   split
   . rw [List.length_append]; simp; omega
   . omega
theorem Jg7 {c : Ctl} {t : Sta} : ∀ i : Nat, (pT c t i).ends.length = t.ends.length /\ (pT c t i).valves.length = t.valves.length /\ (pT c t i).inputs = t.inputs /\ (pT c t i).values = t.values /\ (pT c t i).timers = t.timers
 | 0 => ⟨rfl, rfl, rfl, rfl, rfl⟩
 | i + 1 => by
   obtain ⟨h1, h2, h3, h4, h5⟩ := @Jg7 c t i
   refine ⟨?_, ?_, h3, h4, h5⟩
   . show ((pT c t i).ends.set i _).length = _
     rw [List.length_set]; exact h1
   . show ((pT c t i).valves.set i _).length = _
     rw [List.length_set]; exact h2
def newV (p m w : Bool) : Bool := if (p && m) = true then w else if (p || m) = true then p else w
def newE (v : Bool) (a : Nat) : Nat := if v = true then (if a = 2 \/ a = 1 then a else 1) else (if a = 0 \/ a = 3 then a else 3)
theorem Jrj {c : Ctl} {t : Sta} {i : Nat} {w : Bool} {a : Nat} (hw : (pT c t i).valves[i]? = some w) (ha : (pT c t i).ends[i]? = some a) :
   (pT c t (i + 1)).valves = (pT c t i).valves.set i (newV (lnF t (plN c i)) (lnF t (miN c i)) w) /\ (pT c t (i + 1)).ends = (pT c t i).ends.set i (newE (newV (lnF t (plN c i)) (lnF t (miN c i)) w) a) := by
 have e1 : (pT c t i).valves.getD i false = w := by rw [List.getD_eq_getElem?_getD, hw]; rfl
 have e2 : (pT c t i).ends.getD i 0 = a := by rw [List.getD_eq_getElem?_getD, ha]; rfl
 rw [<- e1, <- e2]
 exact ⟨rfl, rfl⟩
theorem Jbf {α : Type} {l : List α} {i : Nat} {a : α} (h : l[i]? = some a) : l.set i a = l := by
 have hi := (gsI.1 h).1
 have := (gsI.1 h).2
 rw [<- this]; exact List.set_getElem_self hi
theorem Jar {ρ : List Nat} {s' : Store} {b k : Nat} {L : List Int} (h : (ρ[b]?).bind (get s') = accB k (L.map Int.row)) : Jcr ρ s' b (accB k (L.map Int.row)) = True := Jds h (Jao fun _ => rfl)
theorem Jrn {c : Ctl} (hc : RC c) {i : Nat} (hi : i < actN c) : c.plus[i]? = some ((plN c i : Nat) : Int) /\ plN c i < cntN c := by
 obtain ⟨x, e⟩ := Jae (xs := c.plus) (k := i) (by rw [hc.plus]; exact hi)
 have hx := hc.lines x (List.mem_append.2 (.inl (List.mem_of_getElem? e)))
 have hd : c.plus.getD i 0 = x := by rw [List.getD_eq_getElem?_getD, e]; rfl
 unfold plN
 rw [hd, e]
 exact ⟨congrArg some (by omega), by omega⟩
theorem Jqp {c : Ctl} (hc : RC c) {i : Nat} (hi : i < actN c) : c.minus[i]? = some ((miN c i : Nat) : Int) /\ miN c i < cntN c := by
 obtain ⟨x, e⟩ := Jae (xs := c.minus) (k := i) (by rw [hc.minus]; exact hi)
 have hx := hc.lines x (List.mem_append.2 (.inr (List.mem_of_getElem? e)))
 have hd : c.minus.getD i 0 = x := by rw [List.getD_eq_getElem?_getD, e]; rfl
 unfold miN
 rw [hd, e]
 exact ⟨congrArg some (by omega), by omega⟩
theorem Jve (c : Ctl) (s : Sta) (h : RS c s) (hc : RC c) (hL : Lg c) (e : Jdj c s = none) : Pure Tryz.prog GL 43 [c.av, s.av] (.tup [Jbv.av, .p (.lst 1 []), .p (.int .i64 21)]) := by
 refine Pure.of_walk (N := 114) Tryz.func43 rfl rfl rfl (by simp) (by first | (simp; done) | simp [*]) ?_
 have hN := Jvs c s h hc hL e
 simp
 refine Jab hN ?_
 simp [Jaa, Jbv]
structure PrS where
 i : Nat
 P : List Int
set_option maxHeartbeats 4000000 in
set_option maxRecDepth 20000 in
theorem Jvq (c : Ctl) (s : Sta) (h : RS c s) (hc : RC c) (hL : Lg c) (n : Nat) (h0 : RestAt c s n) (hcon : conT c s (n + 1) = []) :
   Pure Tryz.prog GL 43 [c.av, s.av] (.tup [(pT c (setT c s n) (actN c)).av, .p (.lst 1 ((conP c (setT c s n) (actN c)).map Int.enc)), .p (.int .i64 0)]) := by
 have hSt := Jxf c s h hc hL n h0 hcon
 have hu := RS.setT hc.kinds h n
 generalize setT c s n = t at *
 have hsm := hu.small hc
 have hcp := Jig t hsm
 unfold staB at hcp
 obtain ⟨a1, a2, a3⟩ := hc.act
 have hi16 := hc.inputs
 have hs64 := hc.sigs
 have hact := hu.act
 have hvl := hu.valves
 have hpl := hc.plus
 have hml := hc.minus
 have hli := hc.lines
 have hV := fun i hi => Jok c t i hu hc hi
 have hw : IntKind.i64.wrap (2 * c.act) = 2 * c.act := wrap_i64 (by omega) (by omega)
 have hw2 : IntKind.i64.wrap (2 * c.act + (c.inputs.length : Int)) = 2 * c.act + (c.inputs.length : Int) := wrap_i64 (by omega) (by omega)
 have hw3 : IntKind.i64.wrap (2 * c.act + (c.inputs.length : Int) + (c.sigs.length : Int)) = 2 * c.act + (c.inputs.length : Int) + (c.sigs.length : Int) := wrap_i64 (by omega) (by omega)
 have hcn : 2 * c.act + (c.inputs.length : Int) + (c.sigs.length : Int) = (cntN c : Int) := by unfold cntN fstN; omega
 have hcb : cntN c <= 200 := by unfold cntN fstN; omega
 refine Pure.of_walk (N := 114) Tryz.func43 rfl rfl rfl (by simp) rfl ?_
 simp
 refine Jag (hSt _ _) ?_
 simp
 refine Jag (hcp _ _) ?_
 simp [hw, hw2, hw3, hcn]
 refine ⟨by rw [<- hcn]; exact hw3, ?_⟩
 refine Jai.go [2, 4, 7, 10, 11, 42] [0, 1, 2, 3, 6, 7, 8, 9] 1 [10] (nms [8]) (fun nx (i : Nat) => [(8, .acc nx 1 (conP c t i).length), (43, .p (.int .i64 i))]) (fun nx i => [(4, accB 1 ((pT c t i).ends.map nrow)), (5, accB 1 ((pT c t i).valves.map Bool.row)), (nx, accB 1 ((conP c t i).map Int.row))]) (fun i => i <= actN c) (fun i => actN c - i) 0 (by omega) ?_ ?_
 . simp [pT, conP, Jak, Jal, Jar]
   decide
 intro i hi
 simp
 refine Jan (fun h3 => ?_) (fun h3 => ?_)
 . simp at h3
   have hi2 : i < actN c := by omega
   obtain ⟨pe, pl⟩ := Jrn hc hi2
   obtain ⟨me, ml⟩ := Jqp hc hi2
   have hVp := hV (plN c i) pl
   have hVm := hV (miN c i) ml
   obtain ⟨r1, r2, r3, r4, r5⟩ := Jg7 (c := c) (t := t) i
   have hRu := RS.pT hu i (by omega)
   obtain ⟨w, ew⟩ := Jae (xs := (pT c t i).valves) (k := i) (by rw [r2]; have := hu.valves; omega)
   obtain ⟨a, ea⟩ := Jae (xs := (pT c t i).ends) (k := i) (by omega)
   have ha4 := hRu.ends4 a (List.mem_of_getElem? ea)
   obtain ⟨sv, se⟩ := Jrj ew ea
   have hcl := @Jh8 c t i
   have hcs : conP c t (i + 1) = if (lnF t (plN c i) && lnF t (miN c i)) = true then conP c t i ++ [((cntN c + i : Nat) : Int)] else conP c t i := rfl
   have ip : i < c.plus.length := by omega
   have im : i < c.minus.length := by omega
   have ie : i < t.ends.length := by omega
   have iv : i < t.valves.length := by have := hu.valves; omega
   generalize pT c t i = u at *
   generalize huq : pT c t (i + 1) = u' at *
   generalize conP c t i = D at *
   generalize hcq : conP c t (i + 1) = D' at *
   have n0 : ¬ u.valves = [] := fun h => by rw [h] at ew; cases ew
   have n1 : ¬ u.ends = [] := fun h => by rw [h] at ea; cases ea
   generalize lnF t (plN c i) = p at *
   generalize lnF t (miN c i) = m at *
   simp [h3, ip, im, pe, me, -getElem?_pos, List.getElem?_cons_zero, List.getElem?_cons_succ]
   refine Jaf.intro (by kernel_rfl) ?_
   simp [h3, ip, im, pe, me, -getElem?_pos, List.getElem?_cons_zero, List.getElem?_cons_succ]
   refine Jab hVp ?_
   simp [h3, ip, im, pe, me, -getElem?_pos, List.getElem?_cons_zero, List.getElem?_cons_succ]
   refine Jab hVm ?_
   simp
   refine ⟨.of (by kernel_rfl), ?_⟩
   cases p <;> cases m
   . skip
     have hD : D' = D := hcs
     have hv : newV false false w = w := rfl
     rw [hv] at sv se
     have hV2 : u'.valves = u.valves := by rw [sv]; exact Jbf ew
     simp [ea, ew, n0, n1, ie, iv, -getElem?_pos, List.getElem?_cons_zero, List.getElem?_cons_succ]
     cases w
     . simp
       rcases (by omega : a = 0 \/ a = 1 \/ a = 2 \/ a = 3) with rfl | rfl | rfl | rfl
       . skip
         have hE : u'.ends = u.ends := by rw [se]; exact Jbf ea
         simp [ea, n1, ie, -getElem?_pos, List.getElem?_cons_zero, List.getElem?_cons_succ]
         refine ⟨wrap_i64 (by omega) (by omega), i + 1, by omega, by omega, ?_⟩
         rw [hcq, huq, hD, hV2, hE]
         simp [Jak, Jal, Jar]
         first | decide | exact ⟨by omega, by decide⟩
       . skip
         have hE : u'.ends = u.ends.set i 3 := se
         have m1 : (u.ends.map nrow).set i [.p (.int .i64 3)] = u'.ends.map nrow := by rw [hE, List.map_set]; rfl
         have q1 := @Jat _ 1 u'.ends nrow (by rw [hE]; intro h; exact n1 (by simpa using h))
         simp [ea, n1, ie, m1, -getElem?_pos, List.getElem?_cons_zero, List.getElem?_cons_succ]
         refine ⟨wrap_i64 (by omega) (by omega), i + 1, by omega, by omega, ?_⟩
         rw [hcq, huq, hD, hV2, q1]
         simp [Jak, Jal, Jar]
         first | decide | exact ⟨by omega, by decide⟩
       . skip
         have hE : u'.ends = u.ends.set i 3 := se
         have m1 : (u.ends.map nrow).set i [.p (.int .i64 3)] = u'.ends.map nrow := by rw [hE, List.map_set]; rfl
         have q1 := @Jat _ 1 u'.ends nrow (by rw [hE]; intro h; exact n1 (by simpa using h))
         simp [ea, n1, ie, m1, -getElem?_pos, List.getElem?_cons_zero, List.getElem?_cons_succ]
         refine ⟨wrap_i64 (by omega) (by omega), i + 1, by omega, by omega, ?_⟩
         rw [hcq, huq, hD, hV2, q1]
         simp [Jak, Jal, Jar]
         first | decide | exact ⟨by omega, by decide⟩
       . skip
         have hE : u'.ends = u.ends := by rw [se]; exact Jbf ea
         simp [ea, n1, ie, -getElem?_pos, List.getElem?_cons_zero, List.getElem?_cons_succ]
         refine ⟨wrap_i64 (by omega) (by omega), i + 1, by omega, by omega, ?_⟩
         rw [hcq, huq, hD, hV2, hE]
         simp [Jak, Jal, Jar]
         first | decide | exact ⟨by omega, by decide⟩
     . simp
       rcases (by omega : a = 0 \/ a = 1 \/ a = 2 \/ a = 3) with rfl | rfl | rfl | rfl
       . skip
         have hE : u'.ends = u.ends.set i 1 := se
         have m1 : (u.ends.map nrow).set i [.p (.int .i64 1)] = u'.ends.map nrow := by rw [hE, List.map_set]; rfl
         have q1 := @Jat _ 1 u'.ends nrow (by rw [hE]; intro h; exact n1 (by simpa using h))
         simp [ea, n1, ie, m1, -getElem?_pos, List.getElem?_cons_zero, List.getElem?_cons_succ]
         refine ⟨wrap_i64 (by omega) (by omega), i + 1, by omega, by omega, ?_⟩
         rw [hcq, huq, hD, hV2, q1]
         simp [Jak, Jal, Jar]
         first | decide | exact ⟨by omega, by decide⟩
       . skip
         have hE : u'.ends = u.ends := by rw [se]; exact Jbf ea
         simp [ea, n1, ie, -getElem?_pos, List.getElem?_cons_zero, List.getElem?_cons_succ]
         refine ⟨wrap_i64 (by omega) (by omega), i + 1, by omega, by omega, ?_⟩
         rw [hcq, huq, hD, hV2, hE]
         simp [Jak, Jal, Jar]
         first | decide | exact ⟨by omega, by decide⟩
       . skip
         have hE : u'.ends = u.ends := by rw [se]; exact Jbf ea
         simp [ea, n1, ie, -getElem?_pos, List.getElem?_cons_zero, List.getElem?_cons_succ]
         refine ⟨wrap_i64 (by omega) (by omega), i + 1, by omega, by omega, ?_⟩
         rw [hcq, huq, hD, hV2, hE]
         simp [Jak, Jal, Jar]
         first | decide | exact ⟨by omega, by decide⟩
       . skip
         have hE : u'.ends = u.ends.set i 1 := se
         have m1 : (u.ends.map nrow).set i [.p (.int .i64 1)] = u'.ends.map nrow := by rw [hE, List.map_set]; rfl
         have q1 := @Jat _ 1 u'.ends nrow (by rw [hE]; intro h; exact n1 (by simpa using h))
         simp [ea, n1, ie, m1, -getElem?_pos, List.getElem?_cons_zero, List.getElem?_cons_succ]
         refine ⟨wrap_i64 (by omega) (by omega), i + 1, by omega, by omega, ?_⟩
         rw [hcq, huq, hD, hV2, q1]
         simp [Jak, Jal, Jar]
         first | decide | exact ⟨by omega, by decide⟩
   . skip
     have hD : D' = D := hcs
     have hv : newV false true w = false := rfl
     rw [hv] at sv se
     have m0 : (u.valves.map Bool.row).set i [.p (.bool false)] = u'.valves.map Bool.row := by rw [sv, List.map_set]
     have ew' : u'.valves[i]? = some false := by rw [sv, List.getElem?_set_self (by omega)]
     have q0 := @Jat _ 1 u'.valves Bool.row (by rw [sv]; intro h; exact n0 (by simpa using h))
     have n0' : ¬ u'.valves = [] := fun h => by rw [h] at ew'; cases ew'
     simp [ea, ew, n0, n1, ie, iv, m0, ew', n0', -getElem?_pos, List.getElem?_cons_zero, List.getElem?_cons_succ]
     rcases (by omega : a = 0 \/ a = 1 \/ a = 2 \/ a = 3) with rfl | rfl | rfl | rfl
     . skip
       have hE : u'.ends = u.ends := by rw [se]; exact Jbf ea
       simp [ea, n1, ie, -getElem?_pos, List.getElem?_cons_zero, List.getElem?_cons_succ]
       refine ⟨wrap_i64 (by omega) (by omega), i + 1, by omega, by omega, ?_⟩
       rw [hcq, huq, hD, q0, hE]
       simp [Jak, Jal, Jar]
       first | decide | exact ⟨by omega, by decide⟩
     . skip
       have hE : u'.ends = u.ends.set i 3 := se
       have m1 : (u.ends.map nrow).set i [.p (.int .i64 3)] = u'.ends.map nrow := by rw [hE, List.map_set]; rfl
       have q1 := @Jat _ 1 u'.ends nrow (by rw [hE]; intro h; exact n1 (by simpa using h))
       simp [ea, n1, ie, m1, -getElem?_pos, List.getElem?_cons_zero, List.getElem?_cons_succ]
       refine ⟨wrap_i64 (by omega) (by omega), i + 1, by omega, by omega, ?_⟩
       rw [hcq, huq, hD, q0, q1]
       simp [Jak, Jal, Jar]
       first | decide | exact ⟨by omega, by decide⟩
     . skip
       have hE : u'.ends = u.ends.set i 3 := se
       have m1 : (u.ends.map nrow).set i [.p (.int .i64 3)] = u'.ends.map nrow := by rw [hE, List.map_set]; rfl
       have q1 := @Jat _ 1 u'.ends nrow (by rw [hE]; intro h; exact n1 (by simpa using h))
       simp [ea, n1, ie, m1, -getElem?_pos, List.getElem?_cons_zero, List.getElem?_cons_succ]
       refine ⟨wrap_i64 (by omega) (by omega), i + 1, by omega, by omega, ?_⟩
       rw [hcq, huq, hD, q0, q1]
       simp [Jak, Jal, Jar]
       first | decide | exact ⟨by omega, by decide⟩
     . skip
       have hE : u'.ends = u.ends := by rw [se]; exact Jbf ea
       simp [ea, n1, ie, -getElem?_pos, List.getElem?_cons_zero, List.getElem?_cons_succ]
       refine ⟨wrap_i64 (by omega) (by omega), i + 1, by omega, by omega, ?_⟩
       rw [hcq, huq, hD, q0, hE]
       simp [Jak, Jal, Jar]
       first | decide | exact ⟨by omega, by decide⟩
   . skip
     have hD : D' = D := hcs
     have hv : newV true false w = true := rfl
     rw [hv] at sv se
     have m0 : (u.valves.map Bool.row).set i [.p (.bool true)] = u'.valves.map Bool.row := by rw [sv, List.map_set]
     have ew' : u'.valves[i]? = some true := by rw [sv, List.getElem?_set_self (by omega)]
     have q0 := @Jat _ 1 u'.valves Bool.row (by rw [sv]; intro h; exact n0 (by simpa using h))
     have n0' : ¬ u'.valves = [] := fun h => by rw [h] at ew'; cases ew'
     simp [ea, ew, n0, n1, ie, iv, m0, ew', n0', -getElem?_pos, List.getElem?_cons_zero, List.getElem?_cons_succ]
     rcases (by omega : a = 0 \/ a = 1 \/ a = 2 \/ a = 3) with rfl | rfl | rfl | rfl
     . skip
       have hE : u'.ends = u.ends.set i 1 := se
       have m1 : (u.ends.map nrow).set i [.p (.int .i64 1)] = u'.ends.map nrow := by rw [hE, List.map_set]; rfl
       have q1 := @Jat _ 1 u'.ends nrow (by rw [hE]; intro h; exact n1 (by simpa using h))
       simp [ea, n1, ie, m1, -getElem?_pos, List.getElem?_cons_zero, List.getElem?_cons_succ]
       refine ⟨wrap_i64 (by omega) (by omega), i + 1, by omega, by omega, ?_⟩
       rw [hcq, huq, hD, q0, q1]
       simp [Jak, Jal, Jar]
       first | decide | exact ⟨by omega, by decide⟩
     . skip
       have hE : u'.ends = u.ends := by rw [se]; exact Jbf ea
       simp [ea, n1, ie, -getElem?_pos, List.getElem?_cons_zero, List.getElem?_cons_succ]
       refine ⟨wrap_i64 (by omega) (by omega), i + 1, by omega, by omega, ?_⟩
       rw [hcq, huq, hD, q0, hE]
       simp [Jak, Jal, Jar]
       first | decide | exact ⟨by omega, by decide⟩
     . skip
       have hE : u'.ends = u.ends := by rw [se]; exact Jbf ea
       simp [ea, n1, ie, -getElem?_pos, List.getElem?_cons_zero, List.getElem?_cons_succ]
       refine ⟨wrap_i64 (by omega) (by omega), i + 1, by omega, by omega, ?_⟩
       rw [hcq, huq, hD, q0, hE]
       simp [Jak, Jal, Jar]
       first | decide | exact ⟨by omega, by decide⟩
     . skip
       have hE : u'.ends = u.ends.set i 1 := se
       have m1 : (u.ends.map nrow).set i [.p (.int .i64 1)] = u'.ends.map nrow := by rw [hE, List.map_set]; rfl
       have q1 := @Jat _ 1 u'.ends nrow (by rw [hE]; intro h; exact n1 (by simpa using h))
       simp [ea, n1, ie, m1, -getElem?_pos, List.getElem?_cons_zero, List.getElem?_cons_succ]
       refine ⟨wrap_i64 (by omega) (by omega), i + 1, by omega, by omega, ?_⟩
       rw [hcq, huq, hD, q0, q1]
       simp [Jak, Jal, Jar]
       first | decide | exact ⟨by omega, by decide⟩
   . skip
     have hD : D' = D ++ [((cntN c + i : Nat) : Int)] := hcs
     have hv : newV true true w = w := rfl
     rw [hv] at sv se
     have hV2 : u'.valves = u.valves := by rw [sv]; exact Jbf ew
     have em : D.map Int.row ++ [[AV.p (PV.int IntKind.i64 ((cntN c : Int) + (i : Int)))]] = D'.map Int.row := by rw [hD, List.map_append]; rfl
     have hDl : D'.length = D.length + 1 := by rw [hD, List.length_append]; rfl
     simp [ea, ew, n0, n1, ie, iv, em, -getElem?_pos, List.getElem?_cons_zero, List.getElem?_cons_succ]
     refine ⟨wrap_i64 (by omega) (by omega), by omega, ?_⟩
     cases w
     . simp
       rcases (by omega : a = 0 \/ a = 1 \/ a = 2 \/ a = 3) with rfl | rfl | rfl | rfl
       . skip
         have hE : u'.ends = u.ends := by rw [se]; exact Jbf ea
         simp [ea, n1, ie, -getElem?_pos, List.getElem?_cons_zero, List.getElem?_cons_succ]
         refine ⟨wrap_i64 (by omega) (by omega), i + 1, by omega, by omega, ?_⟩
         rw [hcq, huq, hV2, hE]
         simp [Jak, Jal, Jar, hDl]
         first | decide | exact ⟨by omega, by decide⟩
       . skip
         have hE : u'.ends = u.ends.set i 3 := se
         have m1 : (u.ends.map nrow).set i [.p (.int .i64 3)] = u'.ends.map nrow := by rw [hE, List.map_set]; rfl
         have q1 := @Jat _ 1 u'.ends nrow (by rw [hE]; intro h; exact n1 (by simpa using h))
         simp [ea, n1, ie, m1, -getElem?_pos, List.getElem?_cons_zero, List.getElem?_cons_succ]
         refine ⟨wrap_i64 (by omega) (by omega), i + 1, by omega, by omega, ?_⟩
         rw [hcq, huq, hV2, q1]
         simp [Jak, Jal, Jar, hDl]
         first | decide | exact ⟨by omega, by decide⟩
       . skip
         have hE : u'.ends = u.ends.set i 3 := se
         have m1 : (u.ends.map nrow).set i [.p (.int .i64 3)] = u'.ends.map nrow := by rw [hE, List.map_set]; rfl
         have q1 := @Jat _ 1 u'.ends nrow (by rw [hE]; intro h; exact n1 (by simpa using h))
         simp [ea, n1, ie, m1, -getElem?_pos, List.getElem?_cons_zero, List.getElem?_cons_succ]
         refine ⟨wrap_i64 (by omega) (by omega), i + 1, by omega, by omega, ?_⟩
         rw [hcq, huq, hV2, q1]
         simp [Jak, Jal, Jar, hDl]
         first | decide | exact ⟨by omega, by decide⟩
       . skip
         have hE : u'.ends = u.ends := by rw [se]; exact Jbf ea
         simp [ea, n1, ie, -getElem?_pos, List.getElem?_cons_zero, List.getElem?_cons_succ]
         refine ⟨wrap_i64 (by omega) (by omega), i + 1, by omega, by omega, ?_⟩
         rw [hcq, huq, hV2, hE]
         simp [Jak, Jal, Jar, hDl]
         first | decide | exact ⟨by omega, by decide⟩
     . simp
       rcases (by omega : a = 0 \/ a = 1 \/ a = 2 \/ a = 3) with rfl | rfl | rfl | rfl
       . skip
         have hE : u'.ends = u.ends.set i 1 := se
         have m1 : (u.ends.map nrow).set i [.p (.int .i64 1)] = u'.ends.map nrow := by rw [hE, List.map_set]; rfl
         have q1 := @Jat _ 1 u'.ends nrow (by rw [hE]; intro h; exact n1 (by simpa using h))
         simp [ea, n1, ie, m1, -getElem?_pos, List.getElem?_cons_zero, List.getElem?_cons_succ]
         refine ⟨wrap_i64 (by omega) (by omega), i + 1, by omega, by omega, ?_⟩
         rw [hcq, huq, hV2, q1]
         simp [Jak, Jal, Jar, hDl]
         first | decide | exact ⟨by omega, by decide⟩
       . skip
         have hE : u'.ends = u.ends := by rw [se]; exact Jbf ea
         simp [ea, n1, ie, -getElem?_pos, List.getElem?_cons_zero, List.getElem?_cons_succ]
         refine ⟨wrap_i64 (by omega) (by omega), i + 1, by omega, by omega, ?_⟩
         rw [hcq, huq, hV2, hE]
         simp [Jak, Jal, Jar, hDl]
         first | decide | exact ⟨by omega, by decide⟩
       . skip
         have hE : u'.ends = u.ends := by rw [se]; exact Jbf ea
         simp [ea, n1, ie, -getElem?_pos, List.getElem?_cons_zero, List.getElem?_cons_succ]
         refine ⟨wrap_i64 (by omega) (by omega), i + 1, by omega, by omega, ?_⟩
         rw [hcq, huq, hV2, hE]
         simp [Jak, Jal, Jar, hDl]
         first | decide | exact ⟨by omega, by decide⟩
       . skip
         have hE : u'.ends = u.ends.set i 1 := se
         have m1 : (u.ends.map nrow).set i [.p (.int .i64 1)] = u'.ends.map nrow := by rw [hE, List.map_set]; rfl
         have q1 := @Jat _ 1 u'.ends nrow (by rw [hE]; intro h; exact n1 (by simpa using h))
         simp [ea, n1, ie, m1, -getElem?_pos, List.getElem?_cons_zero, List.getElem?_cons_succ]
         refine ⟨wrap_i64 (by omega) (by omega), i + 1, by omega, by omega, ?_⟩
         rw [hcq, huq, hV2, q1]
         simp [Jak, Jal, Jar, hDl]
         first | decide | exact ⟨by omega, by decide⟩
 . simp at h3
   have hil : i = actN c := by omega
   subst hil
   obtain ⟨r1, r2, r3, r4, r5⟩ := Jg7 (c := c) (t := t) (actN c)
   generalize pT c t (actN c) = u at *
   generalize conP c t (actN c) = D at *
   simp [Jaa, r1, r2, r3, r4, r5]
set_option maxHeartbeats 4000000 in
set_option maxRecDepth 20000 in
theorem Jvr (c : Ctl) (s : Sta) (h : RS c s) (hc : RC c) (hL : Lg c) (n : Nat) (h0 : RestAt c s n) (hcon : conT c s (n + 1) ≠ []) :
   Pure Tryz.prog GL 43 [c.av, s.av] (.tup [(pT c (setT c s n) (actN c)).av, .p (.lst 1 ((Jbk c s n ++ conP c (setT c s n) (actN c)).map Int.enc)), .p (.int .i64 0)]) := by
 have hSt := Jxg c s h hc hL n h0 hcon
 have hKl : (Jbk c s n).length <= 64 * 65 := by
   have h1 := @Jks (Jci (ints (conT c s (n + 1))))
   have h2 := @Jfi c s (n + 1)
   have h3 : c.sigs.length * (n + 1) <= 64 * 65 := Nat.mul_le_mul hc.sigs (by have := h0.le; omega)
   have h4 : (ints (conT c s (n + 1))).length = (conT c s (n + 1)).length := by unfold ints; rw [List.length_map]
   rw [Jga, h4] at h1
   unfold Jbk
   omega
 obtain ⟨Z, hZ⟩ : ∃ Z, Jbk c s n ++ List.replicate ((conT c s (n + 1)).length - (Jbk c s n).length) 0 = Z := ⟨_, rfl⟩
 have hZt : Z.take (Jbk c s n).length = Jbk c s n := by rw [<- hZ, List.take_append_of_le_length (Nat.le_refl _), List.take_of_length_le (Nat.le_refl _)]
 have hZl : (Jbk c s n).length <= Z.length := by rw [<- hZ, List.length_append]; omega
 rw [hZ] at hSt
 generalize Jbk c s n = K at *
 have hu := RS.setT hc.kinds h n
 generalize setT c s n = t at *
 have hsm := hu.small hc
 have hcp := Jig t hsm
 unfold staB at hcp
 obtain ⟨a1, a2, a3⟩ := hc.act
 have hi16 := hc.inputs
 have hs64 := hc.sigs
 have hact := hu.act
 have hvl := hu.valves
 have hpl := hc.plus
 have hml := hc.minus
 have hli := hc.lines
 have hV := fun i hi => Jok c t i hu hc hi
 have hw : IntKind.i64.wrap (2 * c.act) = 2 * c.act := wrap_i64 (by omega) (by omega)
 have hw2 : IntKind.i64.wrap (2 * c.act + (c.inputs.length : Int)) = 2 * c.act + (c.inputs.length : Int) := wrap_i64 (by omega) (by omega)
 have hw3 : IntKind.i64.wrap (2 * c.act + (c.inputs.length : Int) + (c.sigs.length : Int)) = 2 * c.act + (c.inputs.length : Int) + (c.sigs.length : Int) := wrap_i64 (by omega) (by omega)
 have hcn : 2 * c.act + (c.inputs.length : Int) + (c.sigs.length : Int) = (cntN c : Int) := by unfold cntN fstN; omega
 have hcb : cntN c <= 200 := by unfold cntN fstN; omega
 refine Pure.of_walk (N := 114) Tryz.func43 rfl rfl rfl (by simp) rfl ?_
 simp
 refine Jag (hSt _ _) ?_
 simp
 refine Jag (hcp _ _) ?_
 simp [hw, hw2, hw3, hcn]
 refine ⟨by rw [<- hcn]; exact hw3, ?_⟩
 refine Jai.goe [2, 4, 7, 10, 11, 42] [0, 1, 2, 4, 7, 8, 9, 10] 1 (fun nx (g : PrS) => [(8, .ref nx 1 0 (K.length + (conP c t g.i).length) none), (43, .p (.int .i64 g.i))]) (fun nx g => [(5, accB 1 ((pT c t g.i).ends.map nrow)), (6, accB 1 ((pT c t g.i).valves.map Bool.row)), (nx, some (.cells 1 (g.P.map Int.row)))]) (fun g => g.i <= actN c /\ g.P.take (K.length + (conP c t g.i).length) = K ++ conP c t g.i /\ K.length + (conP c t g.i).length <= g.P.length) (fun g => actN c - g.i) ⟨0, Z⟩ ⟨by simp, by simpa [conP] using hZt, by simpa [conP] using hZl⟩ ⟨[0, 1, 2, 11, 4, 5, 6, 7, 8, 9, 10, 3], ?_⟩ ?_
 . simp [pT, conP, Jak, Jal, Jar]
 rintro ⟨i, P⟩ ⟨hi, hPt, hPl⟩
 simp only at hi hPt hPl
 simp
 refine Jan (fun h3 => ?_) (fun h3 => ?_)
 . simp at h3
   have hi2 : i < actN c := by omega
   obtain ⟨pe, pl⟩ := Jrn hc hi2
   obtain ⟨me, ml⟩ := Jqp hc hi2
   have hVp := hV (plN c i) pl
   have hVm := hV (miN c i) ml
   obtain ⟨r1, r2, r3, r4, r5⟩ := Jg7 (c := c) (t := t) i
   have hRu := RS.pT hu i (by omega)
   obtain ⟨w, ew⟩ := Jae (xs := (pT c t i).valves) (k := i) (by rw [r2]; have := hu.valves; omega)
   obtain ⟨a, ea⟩ := Jae (xs := (pT c t i).ends) (k := i) (by omega)
   have ha4 := hRu.ends4 a (List.mem_of_getElem? ea)
   obtain ⟨sv, se⟩ := Jrj ew ea
   have hcl := @Jh8 c t i
   have hcs : conP c t (i + 1) = if (lnF t (plN c i) && lnF t (miN c i)) = true then conP c t i ++ [((cntN c + i : Nat) : Int)] else conP c t i := rfl
   have ip : i < c.plus.length := by omega
   have im : i < c.minus.length := by omega
   have ie : i < t.ends.length := by omega
   have iv : i < t.valves.length := by have := hu.valves; omega
   generalize pT c t i = u at *
   generalize huq : pT c t (i + 1) = u' at *
   generalize conP c t i = D at *
   generalize hcq : conP c t (i + 1) = D' at *
   have n0 : ¬ u.valves = [] := fun h => by rw [h] at ew; cases ew
   have n1 : ¬ u.ends = [] := fun h => by rw [h] at ea; cases ea
   generalize lnF t (plN c i) = p at *
   generalize lnF t (miN c i) = m at *
   simp [h3, ip, im, pe, me, -getElem?_pos, List.getElem?_cons_zero, List.getElem?_cons_succ]
   refine Jaf.intro (by kernel_rfl) ?_
   simp [h3, ip, im, pe, me, -getElem?_pos, List.getElem?_cons_zero, List.getElem?_cons_succ]
   refine Jab hVp ?_
   simp [h3, ip, im, pe, me, -getElem?_pos, List.getElem?_cons_zero, List.getElem?_cons_succ]
   refine Jab hVm ?_
   simp
   refine ⟨.of (by kernel_rfl), ?_⟩
   cases p <;> cases m
   . skip
     have hD : D' = D := hcs
     have hv : newV false false w = w := rfl
     rw [hv] at sv se
     have hV2 : u'.valves = u.valves := by rw [sv]; exact Jbf ew
     simp [ea, ew, n0, n1, ie, iv, -getElem?_pos, List.getElem?_cons_zero, List.getElem?_cons_succ]
     cases w
     . simp
       rcases (by omega : a = 0 \/ a = 1 \/ a = 2 \/ a = 3) with rfl | rfl | rfl | rfl
       . skip
         have hE : u'.ends = u.ends := by rw [se]; exact Jbf ea
         simp [ea, n1, ie, -getElem?_pos, List.getElem?_cons_zero, List.getElem?_cons_succ]
         refine ⟨wrap_i64 (by omega) (by omega), ⟨i + 1, P⟩, ⟨by show i + 1 <= actN c; omega, by show P.take (K.length + (conP c t (i + 1)).length) = K ++ conP c t (i + 1); rw [hcq, hD]; exact hPt, by show K.length + (conP c t (i + 1)).length <= P.length; rw [hcq, hD]; exact hPl⟩, by show actN c - (i + 1) < actN c - i; omega, List.range 11 ++ [11], ?_⟩
         simp only
         rw [hcq, huq, hD, hV2, hE]
         simp [Jak, Jal, Jar]
         first | decide | exact ⟨by omega, by decide⟩
       . skip
         have hE : u'.ends = u.ends.set i 3 := se
         have m1 : (u.ends.map nrow).set i [.p (.int .i64 3)] = u'.ends.map nrow := by rw [hE, List.map_set]; rfl
         have q1 := @Jat _ 1 u'.ends nrow (by rw [hE]; intro h; exact n1 (by simpa using h))
         simp [ea, n1, ie, m1, -getElem?_pos, List.getElem?_cons_zero, List.getElem?_cons_succ]
         refine ⟨wrap_i64 (by omega) (by omega), ⟨i + 1, P⟩, ⟨by show i + 1 <= actN c; omega, by show P.take (K.length + (conP c t (i + 1)).length) = K ++ conP c t (i + 1); rw [hcq, hD]; exact hPt, by show K.length + (conP c t (i + 1)).length <= P.length; rw [hcq, hD]; exact hPl⟩, by show actN c - (i + 1) < actN c - i; omega, List.range 11 ++ [11], ?_⟩
         simp only
         rw [hcq, huq, hD, hV2, q1]
         simp [Jak, Jal, Jar]
         first | decide | exact ⟨by omega, by decide⟩
       . skip
         have hE : u'.ends = u.ends.set i 3 := se
         have m1 : (u.ends.map nrow).set i [.p (.int .i64 3)] = u'.ends.map nrow := by rw [hE, List.map_set]; rfl
         have q1 := @Jat _ 1 u'.ends nrow (by rw [hE]; intro h; exact n1 (by simpa using h))
         simp [ea, n1, ie, m1, -getElem?_pos, List.getElem?_cons_zero, List.getElem?_cons_succ]
         refine ⟨wrap_i64 (by omega) (by omega), ⟨i + 1, P⟩, ⟨by show i + 1 <= actN c; omega, by show P.take (K.length + (conP c t (i + 1)).length) = K ++ conP c t (i + 1); rw [hcq, hD]; exact hPt, by show K.length + (conP c t (i + 1)).length <= P.length; rw [hcq, hD]; exact hPl⟩, by show actN c - (i + 1) < actN c - i; omega, List.range 11 ++ [11], ?_⟩
         simp only
         rw [hcq, huq, hD, hV2, q1]
         simp [Jak, Jal, Jar]
         first | decide | exact ⟨by omega, by decide⟩
       . skip
         have hE : u'.ends = u.ends := by rw [se]; exact Jbf ea
         simp [ea, n1, ie, -getElem?_pos, List.getElem?_cons_zero, List.getElem?_cons_succ]
         refine ⟨wrap_i64 (by omega) (by omega), ⟨i + 1, P⟩, ⟨by show i + 1 <= actN c; omega, by show P.take (K.length + (conP c t (i + 1)).length) = K ++ conP c t (i + 1); rw [hcq, hD]; exact hPt, by show K.length + (conP c t (i + 1)).length <= P.length; rw [hcq, hD]; exact hPl⟩, by show actN c - (i + 1) < actN c - i; omega, List.range 11 ++ [11], ?_⟩
         simp only
         rw [hcq, huq, hD, hV2, hE]
         simp [Jak, Jal, Jar]
         first | decide | exact ⟨by omega, by decide⟩
     . simp
       rcases (by omega : a = 0 \/ a = 1 \/ a = 2 \/ a = 3) with rfl | rfl | rfl | rfl
       . skip
         have hE : u'.ends = u.ends.set i 1 := se
         have m1 : (u.ends.map nrow).set i [.p (.int .i64 1)] = u'.ends.map nrow := by rw [hE, List.map_set]; rfl
         have q1 := @Jat _ 1 u'.ends nrow (by rw [hE]; intro h; exact n1 (by simpa using h))
         simp [ea, n1, ie, m1, -getElem?_pos, List.getElem?_cons_zero, List.getElem?_cons_succ]
         refine ⟨wrap_i64 (by omega) (by omega), ⟨i + 1, P⟩, ⟨by show i + 1 <= actN c; omega, by show P.take (K.length + (conP c t (i + 1)).length) = K ++ conP c t (i + 1); rw [hcq, hD]; exact hPt, by show K.length + (conP c t (i + 1)).length <= P.length; rw [hcq, hD]; exact hPl⟩, by show actN c - (i + 1) < actN c - i; omega, List.range 11 ++ [11], ?_⟩
         simp only
         rw [hcq, huq, hD, hV2, q1]
         simp [Jak, Jal, Jar]
         first | decide | exact ⟨by omega, by decide⟩
       . skip
         have hE : u'.ends = u.ends := by rw [se]; exact Jbf ea
         simp [ea, n1, ie, -getElem?_pos, List.getElem?_cons_zero, List.getElem?_cons_succ]
         refine ⟨wrap_i64 (by omega) (by omega), ⟨i + 1, P⟩, ⟨by show i + 1 <= actN c; omega, by show P.take (K.length + (conP c t (i + 1)).length) = K ++ conP c t (i + 1); rw [hcq, hD]; exact hPt, by show K.length + (conP c t (i + 1)).length <= P.length; rw [hcq, hD]; exact hPl⟩, by show actN c - (i + 1) < actN c - i; omega, List.range 11 ++ [11], ?_⟩
         simp only
         rw [hcq, huq, hD, hV2, hE]
         simp [Jak, Jal, Jar]
         first | decide | exact ⟨by omega, by decide⟩
       . skip
         have hE : u'.ends = u.ends := by rw [se]; exact Jbf ea
         simp [ea, n1, ie, -getElem?_pos, List.getElem?_cons_zero, List.getElem?_cons_succ]
         refine ⟨wrap_i64 (by omega) (by omega), ⟨i + 1, P⟩, ⟨by show i + 1 <= actN c; omega, by show P.take (K.length + (conP c t (i + 1)).length) = K ++ conP c t (i + 1); rw [hcq, hD]; exact hPt, by show K.length + (conP c t (i + 1)).length <= P.length; rw [hcq, hD]; exact hPl⟩, by show actN c - (i + 1) < actN c - i; omega, List.range 11 ++ [11], ?_⟩
         simp only
         rw [hcq, huq, hD, hV2, hE]
         simp [Jak, Jal, Jar]
         first | decide | exact ⟨by omega, by decide⟩
       . skip
         have hE : u'.ends = u.ends.set i 1 := se
         have m1 : (u.ends.map nrow).set i [.p (.int .i64 1)] = u'.ends.map nrow := by rw [hE, List.map_set]; rfl
         have q1 := @Jat _ 1 u'.ends nrow (by rw [hE]; intro h; exact n1 (by simpa using h))
         simp [ea, n1, ie, m1, -getElem?_pos, List.getElem?_cons_zero, List.getElem?_cons_succ]
         refine ⟨wrap_i64 (by omega) (by omega), ⟨i + 1, P⟩, ⟨by show i + 1 <= actN c; omega, by show P.take (K.length + (conP c t (i + 1)).length) = K ++ conP c t (i + 1); rw [hcq, hD]; exact hPt, by show K.length + (conP c t (i + 1)).length <= P.length; rw [hcq, hD]; exact hPl⟩, by show actN c - (i + 1) < actN c - i; omega, List.range 11 ++ [11], ?_⟩
         simp only
         rw [hcq, huq, hD, hV2, q1]
         simp [Jak, Jal, Jar]
         first | decide | exact ⟨by omega, by decide⟩
   . skip
     have hD : D' = D := hcs
     have hv : newV false true w = false := rfl
     rw [hv] at sv se
     have m0 : (u.valves.map Bool.row).set i [.p (.bool false)] = u'.valves.map Bool.row := by rw [sv, List.map_set]
     have ew' : u'.valves[i]? = some false := by rw [sv, List.getElem?_set_self (by omega)]
     have q0 := @Jat _ 1 u'.valves Bool.row (by rw [sv]; intro h; exact n0 (by simpa using h))
     have n0' : ¬ u'.valves = [] := fun h => by rw [h] at ew'; cases ew'
     simp [ea, ew, n0, n1, ie, iv, m0, ew', n0', -getElem?_pos, List.getElem?_cons_zero, List.getElem?_cons_succ]
     rcases (by omega : a = 0 \/ a = 1 \/ a = 2 \/ a = 3) with rfl | rfl | rfl | rfl
     . skip
       have hE : u'.ends = u.ends := by rw [se]; exact Jbf ea
       simp [ea, n1, ie, -getElem?_pos, List.getElem?_cons_zero, List.getElem?_cons_succ]
       refine ⟨wrap_i64 (by omega) (by omega), ⟨i + 1, P⟩, ⟨by show i + 1 <= actN c; omega, by show P.take (K.length + (conP c t (i + 1)).length) = K ++ conP c t (i + 1); rw [hcq, hD]; exact hPt, by show K.length + (conP c t (i + 1)).length <= P.length; rw [hcq, hD]; exact hPl⟩, by show actN c - (i + 1) < actN c - i; omega, List.range 11 ++ [11], ?_⟩
       simp only
       rw [hcq, huq, hD, q0, hE]
       simp [Jak, Jal, Jar]
       first | decide | exact ⟨by omega, by decide⟩
     . skip
       have hE : u'.ends = u.ends.set i 3 := se
       have m1 : (u.ends.map nrow).set i [.p (.int .i64 3)] = u'.ends.map nrow := by rw [hE, List.map_set]; rfl
       have q1 := @Jat _ 1 u'.ends nrow (by rw [hE]; intro h; exact n1 (by simpa using h))
       simp [ea, n1, ie, m1, -getElem?_pos, List.getElem?_cons_zero, List.getElem?_cons_succ]
       refine ⟨wrap_i64 (by omega) (by omega), ⟨i + 1, P⟩, ⟨by show i + 1 <= actN c; omega, by show P.take (K.length + (conP c t (i + 1)).length) = K ++ conP c t (i + 1); rw [hcq, hD]; exact hPt, by show K.length + (conP c t (i + 1)).length <= P.length; rw [hcq, hD]; exact hPl⟩, by show actN c - (i + 1) < actN c - i; omega, List.range 11 ++ [11], ?_⟩
       simp only
       rw [hcq, huq, hD, q0, q1]
       simp [Jak, Jal, Jar]
       first | decide | exact ⟨by omega, by decide⟩
     . skip
       have hE : u'.ends = u.ends.set i 3 := se
       have m1 : (u.ends.map nrow).set i [.p (.int .i64 3)] = u'.ends.map nrow := by rw [hE, List.map_set]; rfl
       have q1 := @Jat _ 1 u'.ends nrow (by rw [hE]; intro h; exact n1 (by simpa using h))
       simp [ea, n1, ie, m1, -getElem?_pos, List.getElem?_cons_zero, List.getElem?_cons_succ]
       refine ⟨wrap_i64 (by omega) (by omega), ⟨i + 1, P⟩, ⟨by show i + 1 <= actN c; omega, by show P.take (K.length + (conP c t (i + 1)).length) = K ++ conP c t (i + 1); rw [hcq, hD]; exact hPt, by show K.length + (conP c t (i + 1)).length <= P.length; rw [hcq, hD]; exact hPl⟩, by show actN c - (i + 1) < actN c - i; omega, List.range 11 ++ [11], ?_⟩
       simp only
       rw [hcq, huq, hD, q0, q1]
       simp [Jak, Jal, Jar]
       first | decide | exact ⟨by omega, by decide⟩
     . skip
       have hE : u'.ends = u.ends := by rw [se]; exact Jbf ea
       simp [ea, n1, ie, -getElem?_pos, List.getElem?_cons_zero, List.getElem?_cons_succ]
       refine ⟨wrap_i64 (by omega) (by omega), ⟨i + 1, P⟩, ⟨by show i + 1 <= actN c; omega, by show P.take (K.length + (conP c t (i + 1)).length) = K ++ conP c t (i + 1); rw [hcq, hD]; exact hPt, by show K.length + (conP c t (i + 1)).length <= P.length; rw [hcq, hD]; exact hPl⟩, by show actN c - (i + 1) < actN c - i; omega, List.range 11 ++ [11], ?_⟩
       simp only
       rw [hcq, huq, hD, q0, hE]
       simp [Jak, Jal, Jar]
       first | decide | exact ⟨by omega, by decide⟩
   . skip
     have hD : D' = D := hcs
     have hv : newV true false w = true := rfl
     rw [hv] at sv se
     have m0 : (u.valves.map Bool.row).set i [.p (.bool true)] = u'.valves.map Bool.row := by rw [sv, List.map_set]
     have ew' : u'.valves[i]? = some true := by rw [sv, List.getElem?_set_self (by omega)]
     have q0 := @Jat _ 1 u'.valves Bool.row (by rw [sv]; intro h; exact n0 (by simpa using h))
     have n0' : ¬ u'.valves = [] := fun h => by rw [h] at ew'; cases ew'
     simp [ea, ew, n0, n1, ie, iv, m0, ew', n0', -getElem?_pos, List.getElem?_cons_zero, List.getElem?_cons_succ]
     rcases (by omega : a = 0 \/ a = 1 \/ a = 2 \/ a = 3) with rfl | rfl | rfl | rfl
     . skip
       have hE : u'.ends = u.ends.set i 1 := se
       have m1 : (u.ends.map nrow).set i [.p (.int .i64 1)] = u'.ends.map nrow := by rw [hE, List.map_set]; rfl
       have q1 := @Jat _ 1 u'.ends nrow (by rw [hE]; intro h; exact n1 (by simpa using h))
       simp [ea, n1, ie, m1, -getElem?_pos, List.getElem?_cons_zero, List.getElem?_cons_succ]
       refine ⟨wrap_i64 (by omega) (by omega), ⟨i + 1, P⟩, ⟨by show i + 1 <= actN c; omega, by show P.take (K.length + (conP c t (i + 1)).length) = K ++ conP c t (i + 1); rw [hcq, hD]; exact hPt, by show K.length + (conP c t (i + 1)).length <= P.length; rw [hcq, hD]; exact hPl⟩, by show actN c - (i + 1) < actN c - i; omega, List.range 11 ++ [11], ?_⟩
       simp only
       rw [hcq, huq, hD, q0, q1]
       simp [Jak, Jal, Jar]
       first | decide | exact ⟨by omega, by decide⟩
     . skip
       have hE : u'.ends = u.ends := by rw [se]; exact Jbf ea
       simp [ea, n1, ie, -getElem?_pos, List.getElem?_cons_zero, List.getElem?_cons_succ]
       refine ⟨wrap_i64 (by omega) (by omega), ⟨i + 1, P⟩, ⟨by show i + 1 <= actN c; omega, by show P.take (K.length + (conP c t (i + 1)).length) = K ++ conP c t (i + 1); rw [hcq, hD]; exact hPt, by show K.length + (conP c t (i + 1)).length <= P.length; rw [hcq, hD]; exact hPl⟩, by show actN c - (i + 1) < actN c - i; omega, List.range 11 ++ [11], ?_⟩
       simp only
       rw [hcq, huq, hD, q0, hE]
       simp [Jak, Jal, Jar]
       first | decide | exact ⟨by omega, by decide⟩
     . skip
       have hE : u'.ends = u.ends := by rw [se]; exact Jbf ea
       simp [ea, n1, ie, -getElem?_pos, List.getElem?_cons_zero, List.getElem?_cons_succ]
       refine ⟨wrap_i64 (by omega) (by omega), ⟨i + 1, P⟩, ⟨by show i + 1 <= actN c; omega, by show P.take (K.length + (conP c t (i + 1)).length) = K ++ conP c t (i + 1); rw [hcq, hD]; exact hPt, by show K.length + (conP c t (i + 1)).length <= P.length; rw [hcq, hD]; exact hPl⟩, by show actN c - (i + 1) < actN c - i; omega, List.range 11 ++ [11], ?_⟩
       simp only
       rw [hcq, huq, hD, q0, hE]
       simp [Jak, Jal, Jar]
       first | decide | exact ⟨by omega, by decide⟩
     . skip
       have hE : u'.ends = u.ends.set i 1 := se
       have m1 : (u.ends.map nrow).set i [.p (.int .i64 1)] = u'.ends.map nrow := by rw [hE, List.map_set]; rfl
       have q1 := @Jat _ 1 u'.ends nrow (by rw [hE]; intro h; exact n1 (by simpa using h))
       simp [ea, n1, ie, m1, -getElem?_pos, List.getElem?_cons_zero, List.getElem?_cons_succ]
       refine ⟨wrap_i64 (by omega) (by omega), ⟨i + 1, P⟩, ⟨by show i + 1 <= actN c; omega, by show P.take (K.length + (conP c t (i + 1)).length) = K ++ conP c t (i + 1); rw [hcq, hD]; exact hPt, by show K.length + (conP c t (i + 1)).length <= P.length; rw [hcq, hD]; exact hPl⟩, by show actN c - (i + 1) < actN c - i; omega, List.range 11 ++ [11], ?_⟩
       simp only
       rw [hcq, huq, hD, q0, q1]
       simp [Jak, Jal, Jar]
       first | decide | exact ⟨by omega, by decide⟩
   . skip
     have hD : D' = D ++ [((cntN c + i : Nat) : Int)] := hcs
     have hv : newV true true w = w := rfl
     rw [hv] at sv se
     have hV2 : u'.valves = u.valves := by rw [sv]; exact Jbf ew
     have hDl : D'.length = D.length + 1 := by rw [hD, List.length_append]; rfl
     have em : (P.map Int.row).take (K.length + D.length) ++ [[AV.p (PV.int IntKind.i64 ((cntN c : Int) + (i : Int)))]] = (K ++ D').map Int.row := by rw [<- List.map_take, hPt, hD, <- List.append_assoc, List.map_append (l₁ := K ++ D)]; rfl
     simp [ea, ew, n0, n1, ie, iv, em, hPl, -getElem?_pos, List.getElem?_cons_zero, List.getElem?_cons_succ]
     refine ⟨wrap_i64 (by omega) (by omega), by omega, ?_⟩
     cases w
     . simp
       rcases (by omega : a = 0 \/ a = 1 \/ a = 2 \/ a = 3) with rfl | rfl | rfl | rfl
       . skip
         have hE : u'.ends = u.ends := by rw [se]; exact Jbf ea
         simp [ea, n1, ie, -getElem?_pos, List.getElem?_cons_zero, List.getElem?_cons_succ]
         refine ⟨wrap_i64 (by omega) (by omega), ⟨i + 1, K ++ D'⟩, ⟨by show i + 1 <= actN c; omega, by show (K ++ D').take (K.length + (conP c t (i + 1)).length) = K ++ conP c t (i + 1); rw [hcq]; exact List.take_of_length_le (by rw [List.length_append]; omega), by show K.length + (conP c t (i + 1)).length <= (K ++ D').length; rw [hcq, List.length_append]; omega⟩, by show actN c - (i + 1) < actN c - i; omega, List.range 11 ++ [13], ?_⟩
         simp only
         rw [hcq, huq, hV2, hE]
         simp [Jak, Jal, Jar, hDl, -List.map_append]
         exact ⟨by omega, by rw [List.map_append]; exact Jc3 _, by decide⟩
       . skip
         have hE : u'.ends = u.ends.set i 3 := se
         have m1 : (u.ends.map nrow).set i [.p (.int .i64 3)] = u'.ends.map nrow := by rw [hE, List.map_set]; rfl
         have q1 := @Jat _ 1 u'.ends nrow (by rw [hE]; intro h; exact n1 (by simpa using h))
         simp [ea, n1, ie, m1, -getElem?_pos, List.getElem?_cons_zero, List.getElem?_cons_succ]
         refine ⟨wrap_i64 (by omega) (by omega), ⟨i + 1, K ++ D'⟩, ⟨by show i + 1 <= actN c; omega, by show (K ++ D').take (K.length + (conP c t (i + 1)).length) = K ++ conP c t (i + 1); rw [hcq]; exact List.take_of_length_le (by rw [List.length_append]; omega), by show K.length + (conP c t (i + 1)).length <= (K ++ D').length; rw [hcq, List.length_append]; omega⟩, by show actN c - (i + 1) < actN c - i; omega, List.range 11 ++ [13], ?_⟩
         simp only
         rw [hcq, huq, hV2, q1]
         simp [Jak, Jal, Jar, hDl, -List.map_append]
         exact ⟨by omega, by rw [List.map_append]; exact Jc3 _, by decide⟩
       . skip
         have hE : u'.ends = u.ends.set i 3 := se
         have m1 : (u.ends.map nrow).set i [.p (.int .i64 3)] = u'.ends.map nrow := by rw [hE, List.map_set]; rfl
         have q1 := @Jat _ 1 u'.ends nrow (by rw [hE]; intro h; exact n1 (by simpa using h))
         simp [ea, n1, ie, m1, -getElem?_pos, List.getElem?_cons_zero, List.getElem?_cons_succ]
         refine ⟨wrap_i64 (by omega) (by omega), ⟨i + 1, K ++ D'⟩, ⟨by show i + 1 <= actN c; omega, by show (K ++ D').take (K.length + (conP c t (i + 1)).length) = K ++ conP c t (i + 1); rw [hcq]; exact List.take_of_length_le (by rw [List.length_append]; omega), by show K.length + (conP c t (i + 1)).length <= (K ++ D').length; rw [hcq, List.length_append]; omega⟩, by show actN c - (i + 1) < actN c - i; omega, List.range 11 ++ [13], ?_⟩
         simp only
         rw [hcq, huq, hV2, q1]
         simp [Jak, Jal, Jar, hDl, -List.map_append]
         exact ⟨by omega, by rw [List.map_append]; exact Jc3 _, by decide⟩
       . skip
         have hE : u'.ends = u.ends := by rw [se]; exact Jbf ea
         simp [ea, n1, ie, -getElem?_pos, List.getElem?_cons_zero, List.getElem?_cons_succ]
         refine ⟨wrap_i64 (by omega) (by omega), ⟨i + 1, K ++ D'⟩, ⟨by show i + 1 <= actN c; omega, by show (K ++ D').take (K.length + (conP c t (i + 1)).length) = K ++ conP c t (i + 1); rw [hcq]; exact List.take_of_length_le (by rw [List.length_append]; omega), by show K.length + (conP c t (i + 1)).length <= (K ++ D').length; rw [hcq, List.length_append]; omega⟩, by show actN c - (i + 1) < actN c - i; omega, List.range 11 ++ [13], ?_⟩
         simp only
         rw [hcq, huq, hV2, hE]
         simp [Jak, Jal, Jar, hDl, -List.map_append]
         exact ⟨by omega, by rw [List.map_append]; exact Jc3 _, by decide⟩
     . simp
       rcases (by omega : a = 0 \/ a = 1 \/ a = 2 \/ a = 3) with rfl | rfl | rfl | rfl
       . skip
         have hE : u'.ends = u.ends.set i 1 := se
         have m1 : (u.ends.map nrow).set i [.p (.int .i64 1)] = u'.ends.map nrow := by rw [hE, List.map_set]; rfl
         have q1 := @Jat _ 1 u'.ends nrow (by rw [hE]; intro h; exact n1 (by simpa using h))
         simp [ea, n1, ie, m1, -getElem?_pos, List.getElem?_cons_zero, List.getElem?_cons_succ]
         refine ⟨wrap_i64 (by omega) (by omega), ⟨i + 1, K ++ D'⟩, ⟨by show i + 1 <= actN c; omega, by show (K ++ D').take (K.length + (conP c t (i + 1)).length) = K ++ conP c t (i + 1); rw [hcq]; exact List.take_of_length_le (by rw [List.length_append]; omega), by show K.length + (conP c t (i + 1)).length <= (K ++ D').length; rw [hcq, List.length_append]; omega⟩, by show actN c - (i + 1) < actN c - i; omega, List.range 11 ++ [13], ?_⟩
         simp only
         rw [hcq, huq, hV2, q1]
         simp [Jak, Jal, Jar, hDl, -List.map_append]
         exact ⟨by omega, by rw [List.map_append]; exact Jc3 _, by decide⟩
       . skip
         have hE : u'.ends = u.ends := by rw [se]; exact Jbf ea
         simp [ea, n1, ie, -getElem?_pos, List.getElem?_cons_zero, List.getElem?_cons_succ]
         refine ⟨wrap_i64 (by omega) (by omega), ⟨i + 1, K ++ D'⟩, ⟨by show i + 1 <= actN c; omega, by show (K ++ D').take (K.length + (conP c t (i + 1)).length) = K ++ conP c t (i + 1); rw [hcq]; exact List.take_of_length_le (by rw [List.length_append]; omega), by show K.length + (conP c t (i + 1)).length <= (K ++ D').length; rw [hcq, List.length_append]; omega⟩, by show actN c - (i + 1) < actN c - i; omega, List.range 11 ++ [13], ?_⟩
         simp only
         rw [hcq, huq, hV2, hE]
         simp [Jak, Jal, Jar, hDl, -List.map_append]
         exact ⟨by omega, by rw [List.map_append]; exact Jc3 _, by decide⟩
       . skip
         have hE : u'.ends = u.ends := by rw [se]; exact Jbf ea
         simp [ea, n1, ie, -getElem?_pos, List.getElem?_cons_zero, List.getElem?_cons_succ]
         refine ⟨wrap_i64 (by omega) (by omega), ⟨i + 1, K ++ D'⟩, ⟨by show i + 1 <= actN c; omega, by show (K ++ D').take (K.length + (conP c t (i + 1)).length) = K ++ conP c t (i + 1); rw [hcq]; exact List.take_of_length_le (by rw [List.length_append]; omega), by show K.length + (conP c t (i + 1)).length <= (K ++ D').length; rw [hcq, List.length_append]; omega⟩, by show actN c - (i + 1) < actN c - i; omega, List.range 11 ++ [13], ?_⟩
         simp only
         rw [hcq, huq, hV2, hE]
         simp [Jak, Jal, Jar, hDl, -List.map_append]
         exact ⟨by omega, by rw [List.map_append]; exact Jc3 _, by decide⟩
       . skip
         have hE : u'.ends = u.ends.set i 1 := se
         have m1 : (u.ends.map nrow).set i [.p (.int .i64 1)] = u'.ends.map nrow := by rw [hE, List.map_set]; rfl
         have q1 := @Jat _ 1 u'.ends nrow (by rw [hE]; intro h; exact n1 (by simpa using h))
         simp [ea, n1, ie, m1, -getElem?_pos, List.getElem?_cons_zero, List.getElem?_cons_succ]
         refine ⟨wrap_i64 (by omega) (by omega), ⟨i + 1, K ++ D'⟩, ⟨by show i + 1 <= actN c; omega, by show (K ++ D').take (K.length + (conP c t (i + 1)).length) = K ++ conP c t (i + 1); rw [hcq]; exact List.take_of_length_le (by rw [List.length_append]; omega), by show K.length + (conP c t (i + 1)).length <= (K ++ D').length; rw [hcq, List.length_append]; omega⟩, by show actN c - (i + 1) < actN c - i; omega, List.range 11 ++ [13], ?_⟩
         simp only
         rw [hcq, huq, hV2, q1]
         simp [Jak, Jal, Jar, hDl, -List.map_append]
         exact ⟨by omega, by rw [List.map_append]; exact Jc3 _, by decide⟩
 . simp at h3
   have hil : i = actN c := by omega
   subst hil
   obtain ⟨r1, r2, r3, r4, r5⟩ := Jg7 (c := c) (t := t) (actN c)
   generalize pT c t (actN c) = u at *
   generalize conP c t (actN c) = D at *
   have hPm : (P.map Int.row).take (K.length + D.length) = (K ++ D).map Int.row := by rw [<- List.map_take, hPt]
   have hKD : (K ++ D).length = K.length + D.length := List.length_append ..
   generalize K ++ D = X at *
   simp [Jaa, r1, r2, r3, r4, r5, hKD, hPm, hPl]
end Go.Am
