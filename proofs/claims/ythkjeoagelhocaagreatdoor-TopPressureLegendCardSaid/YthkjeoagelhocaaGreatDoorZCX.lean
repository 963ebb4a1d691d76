/- Lemmas and contracts for the proof of a statement of this seat. -/
import Derived.Test.YthkjeoagelhocaaGreatDoorZCQ
import Derived.Test.YthkjeoagelhocaaGreatDoorZC6
import Derived.Test.YthkjeoagelhocaaGreatDoorZA7
import Derived.Test.YthkjeoagelhocaaGreatDoorZCA
set_option linter.unusedVariables false
set_option linter.unusedSimpArgs false
namespace Go.Am
open Go Go.Proofs Go.Pn
structure Plc where
 row : Int
 col : Int
 deriving DecidableEq
@[simp] def Plc.enc (p : Plc) : List PV := [.int .i64 p.row, .int .i64 p.col]
@[simp] def Plc.row_ (p : Plc) : List AV := [.p (.int .i64 p.row), .p (.int .i64 p.col)]
@[simp] def Plc.av (p : Plc) : AV := .agg [.p (.int .i64 p.row), .p (.int .i64 p.col)]
def Jkn (c : Circuit) (i : Int) : Bool := c.parts.any fun q => decide (Ja1 c q.name = 0) && decide ((Ja2 c q.name).1 = i)
def Jda (k : Int) : Int := if k = 1 then 0 else if k = 0 then 4 else if k = 6 \/ k = 7 then 3 else 2
def Jba (c : Circuit) (i : Int) : Int := if Jda (Jaj c i) = 2 then (if Jkn c i then 1 else 2) else Jda (Jaj c i)
def Jfe (c : Circuit) (k : Nat) : List Int := (List.range k).map fun (i : Nat) => Jba c i
def Jfx (c : Circuit) : List Int := Jfe c c.parts.length
theorem Jnm {c : Circuit} {k : Nat} : (Jfe c k).length = k := by simp [Jfe]
theorem Kbi {c : Circuit} {k : Nat} : Jfe c (k + 1) = Jfe c k ++ [Jba c k] := by simp [Jfe, List.range_succ]
theorem Jyk {c : Circuit} {i : Nat} (h : i < c.parts.length) : (Jfx c)[i]? = some (Jba c i) := by simp [Jfx, Jfe, h]
theorem Jyj {c : Circuit} {i : Int} : 0 <= Jba c i /\ Jba c i <= 4 := by
 unfold Jba Jda
 split
 . split <;> omega
 . split
   . omega
   . split
     . omega
     . split <;> omega
end Go.Am
namespace Go.Am
open Go Go.Proofs Go.Pn
theorem J7j {c : Circuit} {k v : Int} {b : Bool} (ho : Jcp c k = some (v, b)) : ∃ i : Nat, v = i /\ i < c.parts.length := by
 have hpa : ∀ a ∈ Jgu c k [50], Jkc c a := fun a ha => Jrp a (List.mem_filter.1 ha).1
 unfold Jcp at ho
 split at ho
 . rename_i x y hx hy
   split at ho
   . cases ho
   . split at ho
     . simp only [Option.some.injEq, Prod.mk.injEq] at ho
       obtain ⟨rfl, _⟩ := ho
       obtain ⟨j, q, k1, k2, _, _⟩ := Jrq (hpa x (by rw [hx]; simp))
       exact ⟨j, k1, k2⟩
     . cases ho
 . cases ho
end Go.Am
namespace Go.Am
open Go Go.Proofs Go.Pn
theorem J7i {c : Circuit} {s : Txt} (h : Ja1 c s = 0) : ∃ i : Nat, (Ja2 c s).1 = i /\ i < c.parts.length := by
 have hr : Ja2 c s = (Jcp c (Jcq c s)).getD (0, false) := by unfold Ja2; rw [h, if_neg (by simp)]
 cases ho : Jcp c (Jcq c s) with
 | none =>
   exfalso
   unfold Ja1 at h
   by_cases h1 : Jac c ≠ 0
   . rw [if_pos h1] at h; exact h1 h
   . rw [if_neg h1] at h
     by_cases h2 : Jcq c s < 0
     . rw [if_pos h2] at h; simp at h
     . rw [if_neg h2] at h
       by_cases h3 : Jaj c (Jcq c s) ≠ 1
       . rw [if_pos h3] at h; simp at h
       . rw [if_neg h3, ho] at h; simp at h
 | some y =>
   obtain ⟨v, b⟩ := y
   obtain ⟨i, e1, e2⟩ := J7j ho
   exact ⟨i, by rw [hr, ho]; simpa using e1, e2⟩
def drvT (c : Circuit) (i : Int) (k : Nat) : Bool := (c.parts.take k).any fun q => decide (Ja1 c q.name = 0) && decide ((Ja2 c q.name).1 = i)
theorem J7o {c : Circuit} {i : Int} : drvT c i 0 = false := rfl
theorem Jqc {c : Circuit} {i : Int} {k : Nat} {q : Part} (e : c.parts[k]? = some q) : drvT c i (k + 1) = (drvT c i k || (decide (Ja1 c q.name = 0) && decide ((Ja2 c q.name).1 = i))) := by
 unfold drvT
 rw [take_snoc e, List.any_append]
 simp
theorem J7n {c : Circuit} {i : Int} {k : Nat} (h : c.parts.length <= k) : drvT c i k = Jkn c i := by unfold drvT Jkn; rw [List.take_of_length_le h]
def Jfw (k : Nat) : Txt := (Jof[k]?.getD ([], [])).2
theorem Kbe {k : Nat} (h : k < 14) : (catRow k)[1]? = some (.p (.str (Jfw k))) /\ (Jjm k)[1]? = some (.str (Jfw k)) /\ (Jjm k).length = 7 := by
 rcases (by omega : k = 0 \/ k = 1 \/ k = 2 \/ k = 3 \/ k = 4 \/ k = 5 \/ k = 6 \/ k = 7 \/ k = 8 \/ k = 9 \/ k = 10 \/ k = 11 \/ k = 12 \/ k = 13) with rfl|rfl|rfl|rfl|rfl|rfl|rfl|rfl|rfl|rfl|rfl|rfl|rfl|rfl <;> exact ⟨rfl, rfl, rfl⟩
theorem Kbh {k : Nat} (h : k < 14) : Jfw k = [83] ↔ k = 6 \/ k = 7 := (by decide +kernel : ∀ k, k < 14 -> (Jfw k = [83] ↔ k = 6 \/ k = 7)) k h
theorem J32 {k : Int} (h : 0 <= k /\ k < 14) : Jda k = if k = 1 then 0 else if k = 0 then 4 else if Jfw k.toNat = [83] then 3 else 2 := by
 unfold Jda
 have := Kbh (k := k.toNat) (by omega)
 by_cases h1 : Jfw k.toNat = [83]
 . rw [if_pos h1]
   have h2 := this.1 h1
   rw [if_pos (show k = 6 \/ k = 7 by omega)]
 . rw [if_neg h1]
   have h2 : ¬ (k = 6 \/ k = 7) := fun hh => h1 (this.2 (by omega))
   rw [if_neg h2]
theorem Ju8 (k : Int) : Pure Tryz.prog GL 59 [.p (.int .i64 k)] (.tup [.p (.str (if Jas k = 0 then Jfw k.toNat else [])), .p (.int .i64 (Jas k))]) := by
 refine Pure.of_walk (N := 14) Tryz.func59 rfl rfl rfl (by simp) (by first | (simp; done) | simp [*]) ?_
 simp
 refine Jab (Jhk k) ?_
 by_cases hk : 0 <= k /\ k < 14
 . have h3 : Jas k = 0 := Jcw.2 hk
   have hl := Jfb (k := k.toNat)
   have h6 := Jfc (k := k.toNat)
   obtain ⟨f1, f2, f3⟩ := Kbe (k := k.toNat) (by omega)
   simp [h3, hl, Jcx]
   refine ⟨by simpa using h6, ?_⟩
   obtain ⟨g1, g2⟩ := gsI.1 f1
   simp [Jaa, h3, g2]
 . have h3 : Jas k = 1 := Jht hk
   simp [h3, catRow, lay]
   simp [Jaa, h3]
end Go.Am
namespace Go.Am
open Go Go.Proofs Go.Pn
theorem Jlh {m : List Int} {i : Nat} {b : Int} : (m.map Int.row).set i [.p (.int .i64 b)] = (m.set i b).map Int.row := by
 apply List.ext_getElem?
 intro j
 simp only [List.getElem?_set, List.getElem?_map, List.length_map]
 by_cases h : i = j
 . subst h
   by_cases h2 : i < m.length <;> simp [h2]
 . simp [h]
def Je1 (c : Circuit) (k : Nat) : List Int := (List.range c.parts.length).map fun (i : Nat) => if i < k then Jda (Jaj c i) else 0
def Jdc (c : Circuit) (k : Nat) : List Int := (List.range c.parts.length).map fun (i : Nat) => if Jda (Jaj c i) = 2 then (if drvT c i k then 1 else 2) else Jda (Jaj c i)
theorem Jx3 {c : Circuit} {k : Nat} : (Je1 c k).length = c.parts.length := by simp [Je1]
theorem Jiu {c : Circuit} {k : Nat} : (Jdc c k).length = c.parts.length := by simp [Jdc]
theorem Ka2 {c : Circuit} : Je1 c 0 = List.replicate c.parts.length 0 := by
 apply List.ext_getElem?
 intro j
 by_cases h : j < c.parts.length <;> simp [Je1, h]
theorem Ka1 {c : Circuit} {k : Nat} (h : k < c.parts.length) : (Je1 c k).set k (Jda (Jaj c k)) = Je1 c (k + 1) := by
 apply List.ext_getElem?
 intro j
 rw [List.getElem?_set, Jx3]
 by_cases e : k = j
 . subst e
   simp [Je1, h]
 . rw [if_neg e]
   unfold Je1
   by_cases hj : j < c.parts.length
   . simp only [List.getElem?_map, List.getElem?_range hj, Option.map_some]
     have : (j < k) ↔ (j < k + 1) := by omega
     simp [this]
   . simp [hj]
theorem Ka0 {c : Circuit} {k : Nat} (h : c.parts.length <= k) : Je1 c k = Jdc c 0 := by
 apply List.ext_getElem?
 intro j
 unfold Je1 Jdc
 by_cases hj : j < c.parts.length
 . simp only [List.getElem?_map, List.getElem?_range hj, Option.map_some]
   rw [if_pos (by omega), J7o]
   by_cases h2 : Jda (Jaj c j) = 2 <;> simp [h2]
 . simp [hj]
theorem Jhn {c : Circuit} {k v : Nat} (h : v < c.parts.length) : (Jdc c k)[v]? = some (if Jda (Jaj c v) = 2 then (if drvT c v k then 1 else 2) else Jda (Jaj c v)) := by simp [Jdc, h]
theorem J7l {c : Circuit} {k : Nat} {q : Part} (e : c.parts[k]? = some q) (h : ∀ v : Nat, v < c.parts.length -> Ja1 c q.name = 0 -> (Ja2 c q.name).1 = v -> (Jdc c k)[v]? ≠ some 2) : Jdc c (k + 1) = Jdc c k := by
 apply List.ext_getElem?
 intro j
 by_cases hj : j < c.parts.length
 . rw [Jhn hj, Jhn hj, Jqc e]
   by_cases h2 : Jda (Jaj c j) = 2
   . rw [if_pos h2, if_pos h2]
     by_cases h3 : Ja1 c q.name = 0 /\ (Ja2 c q.name).1 = j
     . have h4 := h j hj h3.1 h3.2
       rw [Jhn hj, if_pos h2] at h4
       cases hd : drvT c j k with
       | true => simp
       | false => rw [hd] at h4; simp at h4
     . have : (decide (Ja1 c q.name = 0) && decide ((Ja2 c q.name).1 = (j : Int))) = false := by
         rw [Bool.and_eq_false_iff]
         by_cases h4 : Ja1 c q.name = 0
         . exact .inr (by simp; intro h5; exact h3 ⟨h4, h5⟩)
         . exact .inl (by simp [h4])
       rw [this, Bool.or_false]
   . rw [if_neg h2, if_neg h2]
 . rw [List.getElem?_eq_none (by rw [Jiu]; omega), List.getElem?_eq_none (by rw [Jiu]; omega)]
theorem J7m {c : Circuit} {k v : Nat} {q : Part} (e : c.parts[k]? = some q) (hv : v < c.parts.length) (h0 : Ja1 c q.name = 0) (h1 : (Ja2 c q.name).1 = v) (h2 : (Jdc c k)[v]? = some 2) : (Jdc c k).set v 1 = Jdc c (k + 1) := by
 rw [Jhn hv] at h2
 have hb : Jda (Jaj c v) = 2 := by
   by_cases hb : Jda (Jaj c v) = 2
   . exact hb
   . rw [if_neg hb] at h2; simp at h2; exact absurd h2 hb
 apply List.ext_getElem?
 intro j
 rw [List.getElem?_set, Jiu]
 by_cases ej : v = j
 . subst ej
   rw [if_pos rfl, if_pos hv, Jhn hv, if_pos hb, Jqc e]
   simp [h0, h1]
 . rw [if_neg ej]
   by_cases hj : j < c.parts.length
   . rw [Jhn hj, Jhn hj, Jqc e]
     have : decide ((Ja2 c q.name).1 = (j : Int)) = false := by rw [h1]; simp; omega
     rw [this, Bool.and_false, Bool.or_false]
   . rw [List.getElem?_eq_none (by rw [Jiu]; omega), List.getElem?_eq_none (by rw [Jiu]; omega)]
theorem J7k {c : Circuit} {k : Nat} (h : c.parts.length <= k) : Jdc c k = Jfx c := by
 unfold Jdc Jfx Jfe Jba
 apply List.map_congr_left
 intro i _
 rw [J7n h]
set_option maxRecDepth 20000 in
theorem Ju4 (c : Circuit) (hs : Sized c) (h : Jac c = 0) : Pure Tryz.prog GL 29 [c.av] (.p (.lst 1 ((Jfx c).map Int.enc))) := by
 refine Pure.of_walk (N := 94) Tryz.func29 rfl rfl rfl (by simp) (by first | (simp; done) | simp [*]) ?_
 have h2 := Ja8 h
 simp
 refine ⟨by omega, by omega, ?_⟩
 refine Jag.go [1, 3, 18, 19] [0] 0 [] (fun _ => []) (fun _ (k : Nat) => [(20, .p (.int .i64 k))]) (fun _ k => [(1, some (.cells 1 ((Je1 c k).map Int.row)))]) (fun k => k <= c.parts.length) (fun k => c.parts.length - k) 0 (by omega) ?_ ?_
 . simp [Ka2]
   try decide
 . intro k hk
   have hln := @Jx3 c k
   have hend := @Ka0 c k
   simp
   refine Jad (fun h3 => ?_) (fun h3 => ?_)
   . simp at h3
     obtain ⟨q, e⟩ := Jae h3
     have hkat : Jaj c k = q.kind := by simp [Jaj, e, -getElem?_pos]
     have hq := h2.1 q (List.mem_of_getElem? e)
     have hset := Ka1 h3
     rw [hkat, J32 hq] at hset
     have h3k : Jas q.kind = 0 := Jcw.2 hq
     have hLe := Ju8 q.kind
     rw [if_pos h3k, h3k] at hLe
     generalize Je1 c k = A at *
     simp [h3, e, Part.enc, -getElem?_pos, List.getElem?_cons_zero, List.getElem?_cons_succ]
     refine Jab hLe ?_
     simp
     by_cases h1 : q.kind = 1
     . rw [if_pos h1] at hset
       simp [h1, hln, h3]
       refine ⟨wrap_i64 (by omega) (by omega), k + 1, by omega, by omega, ?_⟩
       simp [Jlh, hset]
       try decide
     . by_cases h0 : q.kind = 0
       . rw [if_neg h1, if_pos h0] at hset
         simp [h0, hln, h3]
         refine ⟨wrap_i64 (by omega) (by omega), k + 1, by omega, by omega, ?_⟩
         simp [Jlh, hset]
         try decide
       . by_cases hS : Jfw q.kind.toNat = [83]
         . rw [if_neg h1, if_neg h0, if_pos hS] at hset
           simp [h1, h0, hS, hln, h3]
           refine ⟨wrap_i64 (by omega) (by omega), k + 1, by omega, by omega, ?_⟩
           simp [Jlh, hset]
           try decide
         . rw [if_neg h1, if_neg h0, if_neg hS] at hset
           simp [h1, h0, hS, hln, h3]
           refine ⟨wrap_i64 (by omega) (by omega), k + 1, by omega, by omega, ?_⟩
           simp [Jlh, hset]
           try decide
   . simp at h3
     have hA := hend (by omega)
     rw [hA]
     simp
     refine Jag.go [1, 3, 56, 57] [0] 0 [] (fun _ => []) (fun _ (k : Nat) => [(58, .p (.int .i64 k))]) (fun _ k => [(1, some (.cells 1 ((Jdc c k).map Int.row)))]) (fun k => k <= c.parts.length) (fun k => c.parts.length - k) 0 (by omega) ?_ ?_
     . simp
       try decide
     . intro k hk
       have hln := @Jiu c k
       have hend := @J7k c k
       simp
       refine Jad (fun h3 => ?_) (fun h3 => ?_)
       . simp at h3
         obtain ⟨q, e⟩ := Jae h3
         have hD := Juv c q.name hs
         have hsame := J7l e
         have hset := fun v hv h0 h1 h2 => J7m (v := v) e hv h0 h1 h2
         generalize Jdc c k = A at *
         simp [h3, e, Part.enc, -getElem?_pos, List.getElem?_cons_zero, List.getElem?_cons_succ]
         refine Jab hD ?_
         simp
         by_cases he : Ja1 c q.name = 0
         . obtain ⟨v, hv, hvl⟩ := J7i he
           obtain ⟨x, hx⟩ := Jae (xs := A) (k := v) (by omega)
           by_cases hx2 : x = 2
           . subst hx2
             have hst := hset v hvl he hv hx
             simp [he, hv, hln, hvl, hx, Int.enc, Int.row, -getElem?_pos, List.getElem?_cons_zero, List.getElem?_cons_succ]
             refine ⟨wrap_i64 (by omega) (by omega), k + 1, by omega, by omega, ?_⟩
             simp [Jlh, hst]
             try decide
           . have hst := hsame (fun v' hv' _ h1' => by
               have : v' = v := by omega
               subst this
               rw [hx]; simp [hx2])
             simp [he, hv, hln, hvl, hx, Int.enc, Int.row, hx2, -getElem?_pos, List.getElem?_cons_zero, List.getElem?_cons_succ]
             refine ⟨wrap_i64 (by omega) (by omega), k + 1, by omega, by omega, ?_⟩
             simp [hst]
             try decide
         . have hst := hsame (fun v' _ h0' _ => absurd h0' he)
           simp [he]
           refine ⟨wrap_i64 (by omega) (by omega), k + 1, by omega, by omega, ?_⟩
           simp [hst]
           try decide
       . simp at h3
         have hA := hend (by omega)
         rw [hA]
         have hlv : (Jfx c).length = c.parts.length := Jnm
         simp [Jaa, hlv]
         rw [List.take_of_length_le (by simp [hlv])]
         rfl
end Go.Am
namespace Go.Am
open Go Go.Proofs Go.Pn
theorem J0q {x v : Plc} : (decide (v.row = x.row) && decide (v.col = x.col)) = decide (x = v) := by
 cases x; cases v
 rw [Bool.eq_iff_iff]
 simp
 constructor
 . rintro ⟨h1, h2⟩; exact ⟨h1.symm, h2.symm⟩
 . rintro ⟨h1, h2⟩; exact ⟨h1.symm, h2.symm⟩
@[simp] theorem Plc.eq_iff3 {p q : Plc} : (decide (p.row = q.row) && decide (p.col = q.col)) = decide (p = q) := by
 cases p; cases q; rw [Bool.eq_iff_iff]; simp
theorem J4d (xs : List Plc) (v : Plc) (hl : xs.length < 4611686018427387904) : Pure Tryz.prog GL 191 [.p (.lst 2 (xs.map Plc.enc)), Plc.av v] (.p (.int .i64 (idxI xs fun x => decide (x = v)))) := by
 refine Pure.of_walk (N := 19) Tryz.func191 rfl rfl rfl (by simp) (by first | (simp; done) | simp [*]) ?_
 simp
 refine Jag.go [0, 3, 7] [0] 0 [] (fun _ => []) (fun _ (k : Nat) => [(8, .p (.int .i64 k))]) (fun _ _ => []) (fun k => k <= xs.length /\ ∀ (j : Nat) x, j < k -> xs[j]? = some x -> decide (x = v) = false) (fun k => xs.length - k) 0 ⟨by omega, fun j b h => by omega⟩ ?_ ?_
 . simp
 . rintro k ⟨hk, hp⟩
   simp
   refine Jad (fun h => ?_) (fun h => ?_)
   . simp at h
     obtain ⟨x, e⟩ := Jae h
     simp <;> refine Jak.intro (by kernel_rfl) ?_
     simp [h, e, -getElem?_pos, List.getElem?_cons_zero, List.getElem?_cons_succ]
     refine ⟨.of (by kernel_rfl), ?_⟩
     refine Jad (fun h2 => ?_) (fun h2 => ?_)
     . have h3 : decide (x = v) = true := by first | grind | (rw [<- J0q]; exact h2)
       simp [Jaa, Jej (q := fun x => decide (x = v)) e h3 hp]
     . have h3 : decide (x = v) = false := by first | grind | (rw [<- J0q]; exact h2)
       simp
       refine ⟨wrap_i64 (by omega) (by omega), k + 1, ⟨by omega, ?_⟩, by omega, ?_⟩
       . simpa using Jdt (P := fun x => decide (x = v) = false) hp e h3
       . simp
   . simp at h
     have hk2 : k = xs.length := by omega
     subst hk2
     simp [Jaa, Jfd (q := fun x => decide (x = v)) (Jed hp)]
theorem J37 (xs : List Plc) (v : Plc) (hl : xs.length < 4611686018427387904) : Pure Tryz.prog GL 131 [.p (.lst 2 (xs.map Plc.enc)), Plc.av v] (.p (.bool (decide (v ∈ xs)))) := by
 refine Pure.of_walk (N := 9) Tryz.func131 rfl rfl rfl (by simp) (by first | (simp; done) | simp [*]) ?_
 simp
 refine Jab (J4d xs v hl) ?_
 simp [Jaa, Jhr]
def Jc1 (f : Nat -> Int) : Nat -> Int
 | 0 => 0
 | n + 1 => if Jc1 f n ≠ 0 then Jc1 f n else f n
theorem Jwq {f : Nat -> Int} : ∀ {n : Nat}, Jc1 f n = 0 ↔ ∀ i, i < n -> f i = 0
 | 0 => by simp [Jc1]
 | n + 1 => by
   unfold Jc1
   have ih := Jwq (f := f) (n := n)
   by_cases h : Jc1 f n = 0
   . rw [if_neg (by simpa using h)]
     constructor
     . intro h1 i hi
       rcases Nat.lt_succ_iff_lt_or_eq.1 hi with h2 | h2
       . exact ih.1 h i h2
       . rw [h2]; exact h1
     . intro h1; exact h1 n (by omega)
   . rw [if_pos h]
     constructor
     . intro h1; exact absurd h1 h
     . intro h1; exact absurd (ih.2 fun i hi => h1 i (by omega)) h
theorem Jwp {f : Nat -> Int} {k : Nat} (h0 : Jc1 f k = 0) (hk : f k ≠ 0) : ∀ {n : Nat}, k < n -> Jc1 f n = f k
 | 0, h => by omega
 | n + 1, h => by
   unfold Jc1
   rcases Nat.lt_succ_iff_lt_or_eq.1 h with h2 | h2
   . have := Jwp h0 hk h2
     rw [if_pos (by rw [this]; exact hk), this]
   . subst h2
     rw [if_neg (by simpa using h0)]
theorem J8c {f : Nat -> Int} {k : Nat} (h0 : Jc1 f k = 0) (hk : f k = 0) : Jc1 f (k + 1) = 0 := by
 unfold Jc1; rw [if_neg (by simpa using h0), hk]
def Je5 (c : Circuit) (l : List Plc) (i : Nat) : Int := match l[i]? with
 | none => 0
 | some p => if p.row ≠ Jba c i then 3 else if p.col < 0 \/ 64 <= p.col then 2 else if p ∈ l.take i then 7 else 0
def Jgl (c : Circuit) (l : List Plc) : Int := if l.length ≠ c.parts.length then 8 else Jc1 (Je5 c l) l.length
def layE (c : Circuit) (l : List Plc) : Int := if Jac c ≠ 0 then Jac c else Jgl c l
structure LayOk (c : Circuit) (l : List Plc) : Prop where
 len : l.length = c.parts.length
 row : ∀ (i : Nat) p, l[i]? = some p -> p.row = Jba c i
 col : ∀ p ∈ l, 0 <= p.col /\ p.col < 64
 nd : l.Nodup
theorem Jrj {α : Type} {l : List α} : l.Nodup ↔ ∀ (i : Nat) p, l[i]? = some p -> p ∉ l.take i := by
 constructor
 . intro h i p hp hm
   obtain ⟨j, hj⟩ := List.mem_iff_getElem?.1 hm
   have hjl := (gsI.1 hj).1
   rw [List.length_take] at hjl
   rw [List.getElem?_take_of_lt (by omega)] at hj
   obtain ⟨hj2, e⟩ := gsI.1 hj
   obtain ⟨hi, e2⟩ := gsI.1 hp
   exact (List.pairwise_iff_getElem.1 h j i hj2 hi (by omega)) (by rw [e, e2])
 . intro h
   rw [List.Nodup, List.pairwise_iff_getElem]
   intro i j hi hj hij e
   refine h j l[j] (List.getElem?_eq_getElem hj) ?_
   exact List.mem_iff_getElem?.2 ⟨i, by rw [List.getElem?_take_of_lt hij, List.getElem?_eq_getElem hi, e]⟩
theorem Ke6 {c : Circuit} {l : List Plc} : Jgl c l = 0 ↔ LayOk c l := by
 unfold Jgl
 by_cases hl : l.length = c.parts.length
 . rw [if_neg (by simpa using hl), Jwq]
   constructor
   . intro h
     have h1 : ∀ (i : Nat) p, l[i]? = some p -> p.row = Jba c i /\ (0 <= p.col /\ p.col < 64) /\ p ∉ l.take i := fun i p hp => by
       have := h i (gsI.1 hp).1
       unfold Je5 at this
       rw [hp] at this
       simp only at this
       by_cases a1 : p.row ≠ Jba c i
       . rw [if_pos a1] at this; simp at this
       . rw [if_neg a1] at this
         by_cases a2 : p.col < 0 \/ 64 <= p.col
         . rw [if_pos a2] at this; simp at this
         . rw [if_neg a2] at this
           by_cases a3 : p ∈ l.take i
           . rw [if_pos a3] at this; simp at this
           . exact ⟨by simpa using a1, by omega, a3⟩
     refine ⟨hl, fun i p hp => (h1 i p hp).1, fun p hp => ?_, Jrj.2 fun i p hp => (h1 i p hp).2.2⟩
     obtain ⟨i, hi⟩ := List.mem_iff_getElem?.1 hp
     exact (h1 i p hi).2.1
   . rintro ⟨_, h1, h2, h3⟩ i hi
     have hp := List.getElem?_eq_getElem hi
     have hc := h2 _ (List.getElem_mem hi)
     unfold Je5
     rw [hp]
     simp only
     rw [if_neg (by simpa using h1 i _ hp), if_neg (by omega), if_neg (Jrj.1 h3 i _ hp)]
 . rw [if_pos hl]
   constructor
   . intro h; simp at h
   . intro h; exact absurd h.len hl
theorem Jx8 {c : Circuit} {l : List Plc} : layE c l = 0 ↔ Jac c = 0 /\ LayOk c l := by
 unfold layE
 by_cases h : Jac c = 0
 . rw [if_neg (by simpa using h), Ke6]; simp [h]
 . rw [if_pos h]; simp [h]
set_option maxRecDepth 20000 in
theorem J5d (c : Circuit) (l : List Plc) (hs : Sized c) (h : Jac c = 0) : Pure Tryz.prog GL 72 [c.av, .p (.lst 2 (l.map Plc.enc))] (.p (.int .i64 (Jgl c l))) := by
 refine Pure.of_walk (N := 47) Tryz.func72 rfl rfl rfl (by simp) (by first | (simp; done) | simp [*]) ?_
 have h2 := Ja8 h
 have hrw := Ju4 c hs h
 have hlv : (Jfx c).length = c.parts.length := Jnm
 simp
 by_cases hl : l.length = c.parts.length
 . have hpe : Jgl c l = Jc1 (Je5 c l) l.length := by unfold Jgl; rw [if_neg (by simpa using hl)]
   rw [hpe]
   simp [hl]
   refine Jab hrw ?_
   simp
   refine Jag.go [1, 5, 16, 17] [] 0 [] (fun _ => []) (fun _ (k : Nat) => [(18, .p (.int .i64 k))]) (fun _ _ => []) (fun k => k <= l.length /\ Jc1 (Je5 c l) k = 0) (fun k => l.length - k) 0 ⟨by omega, rfl⟩ ?_ ?_
   . simp
     try decide
   . rintro k ⟨hk, hp⟩
     simp
     refine Jad (fun h3 => ?_) (fun h3 => ?_)
     . simp at h3
       obtain ⟨p, e⟩ := Jae h3
       have hrow := Jyk (c := c) (i := k) (by omega)
       have hCon := J37 (l.take k) p (by simp; omega)
       have hkl : k < (Jfx c).length := by omega
       have hpe : Je5 c l k = if p.row ≠ Jba c k then 3 else if p.col < 0 \/ 64 <= p.col then 2 else if p ∈ l.take k then 7 else 0 := by unfold Je5; rw [e]
       have hbad : Je5 c l k ≠ 0 -> Jc1 (Je5 c l) l.length = Je5 c l k := fun hne => Jwp hp hne h3
       have hgood : Je5 c l k = 0 -> Jc1 (Je5 c l) (k + 1) = 0 := fun hz => J8c hp hz
       have hk3 : (k : Int) <= l.length := by omega
       simp [h3, e, Plc.enc, -getElem?_pos, List.getElem?_cons_zero, List.getElem?_cons_succ]
       refine Jak.intro (by kernel_rfl) ?_
       simp [hkl, hrow, Int.enc, -getElem?_pos, List.getElem?_cons_zero, List.getElem?_cons_succ]
       refine ⟨.of (by kernel_rfl), ?_⟩
       by_cases h4 : p.row = Jba c k
       . rw [if_neg (by simpa using h4)] at hpe
         simp [h4]
         by_cases h5 : p.col < 0 \/ 64 <= p.col
         . rw [if_pos h5] at hpe
           have hb := hbad (by rw [hpe]; simp)
           rw [hb, hpe]
           by_cases h6 : p.col < 0
           . simp [h6, Jaa]
           . have h7 : 64 <= p.col := by omega
             simp [h6, h7, Jaa]
         . rw [if_neg h5] at hpe
           have h6 : ¬ p.col < 0 := by omega
           have h7 : ¬ 64 <= p.col := by omega
           simp [h6, h7]
           refine Jak.intro (by kernel_rfl) ?_
           have hCon2 : Pure Tryz.prog GL 131 [.p (.lst 2 ((l.map Plc.enc).take k)), .agg [.p (.int .i64 (Jba c k)), .p (.int .i64 p.col)]] (.p (.bool (decide (p ∈ l.take k)))) := by
             rw [<- List.map_take, <- h4]; exact hCon
           simp [hk3]
           refine ⟨by omega, ?_⟩
           refine Jab hCon2 ?_
           simp
           refine ⟨.of (by kernel_rfl), ?_⟩
           by_cases h8 : p ∈ l.take k
           . rw [if_pos h8] at hpe
             have hb := hbad (by rw [hpe]; simp)
             rw [hb, hpe]
             simp [h8, Jaa]
           . rw [if_neg h8] at hpe
             simp [h8]
             refine ⟨wrap_i64 (by omega) (by omega), k + 1, ⟨by omega, hgood hpe⟩, by omega, ?_⟩
             simp
       . rw [if_pos h4] at hpe
         have hb := hbad (by rw [hpe]; simp)
         rw [hb, hpe]
         simp [h4, Jaa]
     . simp at h3
       have hkk : k = l.length := by omega
       rw [hkk] at hp
       simp [Jaa, hp]
 . have hpe : Jgl c l = 8 := by unfold Jgl; rw [if_pos hl]
   rw [hpe]
   have hl' : ¬ ((l.length : Int) = c.parts.length) := by omega
   simp [hl, hl', Jaa]
theorem J49 (c : Circuit) (l : List Plc) (hs : Sized c) : Pure Tryz.prog GL 30 [c.av, .p (.lst 2 (l.map Plc.enc))] (.p (.int .i64 (layE c l))) := by
 refine Pure.of_walk (N := 14) Tryz.func30 rfl rfl rfl (by simp) (by first | (simp; done) | simp [*]) ?_
 simp
 refine Jab (Jgr c hs) ?_
 by_cases h : Jac c = 0
 . have hp := J5d c l hs h
   have he : layE c l = Jgl c l := if_neg (by simpa using h)
   rw [he]
   simp [h]
   refine Jab hp ?_
   simp [Jaa]
 . have he : layE c l = Jac c := if_pos h
   rw [he]
   simp [h, Jaa]
end Go.Am
namespace Go.Am
open Go Go.Proofs Go.Pn
end Go.Am
namespace Go.Am
open Go Go.Proofs Go.Pn
def cntT (c : Circuit) (r : Int) (k : Nat) : Nat := ((Jfe c k).filter fun x => decide (x = r)).length
theorem Jp6 {c : Circuit} {r : Int} {k : Nat} : cntT c r k <= k := by
 have h1 := List.length_filter_le (fun x => decide (x = r)) (Jfe c k)
 have h2 := @Jnm c k
 unfold cntT; omega
theorem Jmn {c : Circuit} {r : Int} {k : Nat} : cntT c r (k + 1) = cntT c r k + if Jba c k = r then 1 else 0 := by
 unfold cntT
 rw [Kbi, List.filter_append, List.length_append]
 by_cases h : Jba c k = r <;> simp [h]
def Jdh (c : Circuit) (k : Nat) : List Plc := (List.range k).map fun (i : Nat) => ⟨Jba c i, cntT c (Jba c i) i⟩
def Ja5 (c : Circuit) : List Plc := Jdh c c.parts.length
theorem Jhz {c : Circuit} {k : Nat} : (Jdh c k).length = k := by simp [Jdh]
theorem Ke9 {c : Circuit} {k : Nat} : Jdh c (k + 1) = Jdh c k ++ [⟨Jba c k, cntT c (Jba c k) k⟩] := by simp [Jdh, List.range_succ]
def nxtI (c : Circuit) (k : Nat) : List Int := (List.range 5).map fun (r : Nat) => (cntT c r k : Int)
theorem Jnz {c : Circuit} {k : Nat} : (nxtI c k).length = 5 := by simp [nxtI]
theorem Kc5 {c : Circuit} : nxtI c 0 = [0, 0, 0, 0, 0] := by simp [nxtI, cntT, Jfe, List.range, List.range.loop]
theorem Jny {c : Circuit} {k r : Nat} (h : r < 5) : (nxtI c k)[r]? = some (cntT c r k : Int) := by simp [nxtI, h]
theorem Kc4 {c : Circuit} {k r : Nat} (h : r < 5) (hr : Jba c k = r) : (nxtI c k).set r ((cntT c r k : Int) + 1) = nxtI c (k + 1) := by
 apply List.ext_getElem?
 intro j
 rw [List.getElem?_set, Jnz]
 by_cases e : r = j
 . subst e
   rw [if_pos rfl, if_pos h, Jny h, Jmn, if_pos hr]; simp
 . rw [if_neg e]
   by_cases hj : j < 5
   . rw [Jny hj, Jny hj, Jmn, if_neg (by rw [hr]; omega)]; simp
   . rw [List.getElem?_eq_none (by rw [Jnz]; omega), List.getElem?_eq_none (by rw [Jnz]; omega)]
theorem Kgs {m : List Int} {j : Nat} {v : Int} : (m.map Int.av).set j (.p (.int .i64 v)) = (m.set j v).map Int.av := by
 apply List.ext_getElem?
 intro i
 simp only [List.getElem?_set, List.getElem?_map, List.length_map]
 by_cases h : j = i
 . subst h
   by_cases h2 : j < m.length <;> simp [h2]
 . simp [h]
@[simp] theorem Kkk {ρ : List Nat} {m : List Int} : renL ρ (m.map Int.av) = some (m.map Int.av) := Jjn (Jr0 (fun _ => rfl))
theorem Jyi {c : Circuit} {i : Int} : ∃ r : Nat, Jba c i = r /\ r < 5 := by
 have := @Jyj c i
 exact ⟨(Jba c i).toNat, by omega, by omega⟩
set_option maxRecDepth 20000 in
theorem J5b (c : Circuit) (hs : Sized c) : Pure Tryz.prog GL 7 [c.av] (.tup [.p (.lst 2 ((if Jac c = 0 then Ja5 c else []).map Plc.enc)), .p (.int .i64 (Jac c))]) := by
 refine Pure.of_walk (N := 36) Tryz.func7 rfl rfl rfl (by simp) (by first | (simp; done) | simp [*]) ?_
 simp
 refine Jab (Jgr c hs) ?_
 by_cases h : Jac c = 0
 . have h2 := Ja8 h
   have hrw := Ju4 c hs h
   have hlv : (Jfx c).length = c.parts.length := Jnm
   rw [if_pos h]
   simp [h]
   refine Jab hrw ?_
   simp
   refine Jag.go [5, 15, 16] [0] 1 [2] (nms [6]) (fun nx (k : Nat) => [(6, .acc nx 2 k), (17, .p (.int .i64 k))]) (fun nx k => [(nx, accB 2 ((Jdh c k).map Plc.row_)), (1, some (.cells 5 [(nxtI c k).map Int.av]))]) (fun k => k <= c.parts.length) (fun k => c.parts.length - k) 0 (by omega) ?_ ?_
   . simp [Jdh, Kc5]
     try decide
   . intro k hk
     have hpl := @Jhz c k
     have hps := @Ke9 c k
     have hnl := @Jnz c k
     have hend : k = c.parts.length -> Jdh c k = Ja5 c := fun e => by rw [e]; rfl
     have hcl := @Jp6 c
     obtain ⟨r, hr, hr5⟩ := @Jyi c k
     have hna := Jny (c := c) (k := k) hr5
     have hns := Kc4 (k := k) hr5 hr
     have hcr := @Jp6 c r k
     generalize Jdh c k = A at *
     generalize nxtI c k = M at *
     simp
     refine Jad (fun h3 => ?_) (fun h3 => ?_)
     . simp [hlv] at h3
       have hrow := Jyk (c := c) (i := k) h3
       have hkl : k < (Jfx c).length := by omega
       rw [hr] at hrow hps
       have hr5' : (r : Int) < 5 := by omega
       simp [hkl, hrow, Int.enc, hna, hr5', -getElem?_pos, List.getElem?_cons_zero, List.getElem?_cons_succ]
       refine ⟨by omega, hpl, wrap_i64 (by omega) (by omega), by omega, wrap_i64 (by omega) (by omega), k + 1, by omega, by omega, ?_⟩
       simp [hps, hpl, Kgs, hns]
       try decide
     . simp [hlv] at h3
       have hA := hend (by omega)
       rw [hA] at hpl
       have h0 := h.symm
       simp [Jaa, hA, hpl, h0]
       try rfl
 . rw [if_neg h]
   simp [h]
   simp [Jaa]
end Go.Am
namespace Go.Am
open Go Go.Proofs Go.Pn
def Near (l : List Plc) : Prop := ∀ p ∈ l, (0 <= p.row /\ p.row <= 4) /\ 0 <= p.col /\ p.col < 64
theorem LayOk.near {c : Circuit} {l : List Plc} (h : LayOk c l) : Near l := fun p hp => by
 obtain ⟨i, hi⟩ := List.mem_iff_getElem?.1 hp
 have h1 := h.row i p hi
 have h2 := h.col p hp
 have h3 := @Jyj c i
 rw [h1]; exact ⟨h3, h2⟩
end Go.Am
namespace Go.Am
open Go Go.Proofs Go.Pn
end Go.Am
namespace Go.Am
open Go Go.Proofs Go.Pn
end Go.Am
namespace Go.Am
open Go Go.Proofs Go.Pn
structure BSt where
 b : List Plc
 n : Int
def Jt6 (g : BSt) : ABlk := .cells 1 [[.p (.lst 2 (g.b.map Plc.enc))]]
def Jye (g : BSt) : ABlk := .cells 1 [[.p (.int .i64 g.n)]]
@[simp] theorem Kjg {ρ : List Nat} {g : BSt} : renB ρ (Jt6 g) = some (Jt6 g) := rfl
@[simp] theorem Kjw {ρ : List Nat} {g : BSt} : renB ρ (Jye g) = some (Jye g) := rfl
section
variable {i : LoopI} {X0 X1 X2 : ABlk} {step : BSt -> List Int -> BSt} {ok : List Int -> Prop}
end
end Go.Am
namespace Go.Am
open Go Go.Proofs Go.Pn
section
variable {i : LoopI} {X0 X1 X2 : ABlk} {step : BSt -> List Int -> BSt} {ok : List Int -> Prop}
end
end Go.Am
namespace Go.Am
open Go Go.Proofs Go.Pn
end Go.Am
