/- Lemmas and contracts for the proof of a statement of this seat. -/
import Derived.Test.YtmfjjncfdpejiaaGreatDoorZF6
import Derived.Test.YtmfjjncfdpejiaaGreatDoorZF1
import Derived.Test.YtmfjjncfdpejiaaGreatDoorZF3
import Derived.Test.YtmfjjncfdpejiaaGreatDoorZC2
set_option linter.unusedVariables false
set_option linter.unusedSimpArgs false
namespace Go.Am
open Go Go.Proofs Go.Pn
def fnL (L : List Lbl) : AV := .fn (.func 194) [.iptr 1 [[.lst 3 (L.map Lbl.enc)]] 0 0]
def lAt (L : List Lbl) (i : Int) : Lbl := (L[i.toNat]?).getD noL
def ltP (L : List Lbl) (i k : Int) : Bool := decide (Jcw (lAt L i) (lAt L k) < 0)
def Dom (L : List Lbl) (l : List Int) : Prop := ∀ x ∈ l, 0 <= x /\ x < L.length
theorem J42 (L : List Lbl) (i k : Int) (hi : 0 <= i /\ i < L.length) (hk : 0 <= k /\ k < L.length) : Pure Tryz.prog GL 194 [.p (.int .i64 i), .p (.int .i64 k), .iptr 1 [[.lst 3 (L.map Lbl.enc)]] 0 0] (.p (.int .i64 (Jcw (lAt L i) (lAt L k)))) := by
 refine Pure.of_walk (N := 15) Tryz.func194 rfl rfl rfl (by simp) (by first | (simp; done) | simp [*]) ?_
 obtain ⟨i, rfl⟩ : ∃ i' : Nat, i = i' := ⟨i.toNat, by omega⟩
 obtain ⟨k, rfl⟩ : ∃ k' : Nat, k = k' := ⟨k.toNat, by omega⟩
 have h1 : i < L.length := by omega
 have h2 : k < L.length := by omega
 obtain ⟨x, ex⟩ := Jae h1
 obtain ⟨y, ey⟩ := Jae h2
 have e1 : lAt L i = x := by unfold lAt; rw [Int.toNat_natCast, ex]; rfl
 have e2 : lAt L k = y := by unfold lAt; rw [Int.toNat_natCast, ey]; rfl
 rw [e1, e2]
 simp
 refine Jaj.intro (by kernel_rfl) ?_
 simp [h1, h2, ex, ey, -getElem?_pos, List.getElem?_cons_zero, List.getElem?_cons_succ]
 refine Jab (J45 x y) ?_
 simp
 refine ⟨.of (by kernel_rfl), ?_⟩
 simp [Jaa]
theorem J65 {L : List Lbl} {l : List Int} {j : Nat} {x y : Int} (h1 : l[j]? = some x) (h2 : l[j + 1]? = some y) (h : Dom L l) : Dom L (Je7 l j) := fun z hz => h z ((J12 h1 h2).mem_iff.1 hz)
theorem J8h (L : List Lbl) (l : List Int) (s : Store) (nx b : Nat) (c : Option Nat) (hb : b < nx) (hg : get s b = some (.cells 1 (l.map Int.row))) (hl : l.length < 1000000) (hd : Dom L l) :
   Gives Tryz.prog GL 322 [.ref b 1 0 l.length c, .p (.int .i64 0), .p (.int .i64 l.length), fnL L] s nx (.tup []) [b] [(b, some (.cells 1 ((Jdg (ltP L) l).map Int.row)))] nx := by
 unfold fnL
 refine Gives.mk_walkK (N := 53) (args := [.ref 0 1 0 l.length c, .p (.int .i64 0), .p (.int .i64 l.length), .fn (.func 194) [.iptr 1 [[.lst 3 (L.map Lbl.enc)]] 0 0]]) [b] [] [(0, some (.cells 1 (l.map Int.row)))] [(0, some (.cells 1 ((Jdg (ltP L) l).map Int.row)))] 1 0 (.tup []) (fun _ => []) (up1 := [(b, some (.cells 1 ((Jdg (ltP L) l).map Int.row)))]) Tryz.func322 rfl rfl rfl (by simp) rfl (by simp [hg, hb]) (by simp) (by simp) (by simp) (by simp) rfl ?_
 simp
 refine Jag.go [0, 1, 2, 3] [] 0 [] (fun _ => []) (fun _ (g : List Int × Nat) => [(8, .p (.int .i64 g.2))]) (fun _ g => [(0, some (.cells 1 (g.1.map Int.row)))]) (fun g => g.1.length = l.length /\ 1 <= g.2 /\ g.2 <= l.length + 1 /\ Dom L g.1 /\ Jel (ltP L) (l.length - g.2) g.1 g.2 = Jdg (ltP L) l) (fun g => l.length + 1 - g.2) (l, 1) ⟨rfl, by simp, by simp, hd, rfl⟩ ?_ ?_
 . simp
 . rintro ⟨g, i⟩ ⟨h1, h2, h3, hdg, h4⟩
   simp at h1 h2 h3 h4
   simp
   refine Jac (fun h => ?_) (fun h => ?_)
   . simp at h
     simp
     refine Jag.go [0, 1, 2, 3, 8] [] 0 [] (fun _ => []) (fun _ (q : List Int × Nat) => [(9, .p (.int .i64 q.2))]) (fun _ q => [(0, some (.cells 1 (q.1.map Int.row)))]) (fun q => q.1.length = l.length /\ q.2 <= i /\ Dom L q.1 /\ Jda (ltP L) q.1 q.2 = Jda (ltP L) g i) (fun q => q.2) (g, i) ⟨h1, by simp, hdg, rfl⟩ ?_ ?_
     . simp
     . rintro ⟨q, j⟩ ⟨k1, k2, hdq, k3⟩
       simp at k1 k2 k3
       cases j with
       | zero =>
         simp
         refine Jaj.intro (by kernel_rfl) ?_
         simp
         refine ⟨.of (by kernel_rfl), wrap_i64 (by omega) (by omega), q, i + 1, ⟨k1, by omega, by omega, hdq, ?_⟩, by omega, ?_⟩
         . simp [Jda] at k3
           rw [show l.length - i = (l.length - (i + 1)) + 1 by omega] at h4
           simp [Jel] at h4
           rw [k3]
           exact h4
         . simp
       | succ j =>
         simp
         refine Jaj.intro (by kernel_rfl) ?_
         have e1 : (j : Int) + 1 - 1 = j := by omega
         have e0 : (0 : Int) <= (j : Int) + 1 := by omega
         have e2 : ((j : Int) + 1).toNat = j + 1 := by omega
         have e3 : (j : Int) + 1 < l.length := by omega
         have e4 : (j : Int) < l.length := by omega
         have e5 : (0 : Int) < (j : Int) + 1 := by omega
         obtain ⟨x, f1⟩ := Jae (xs := q) (k := j) (by omega)
         obtain ⟨y, f2⟩ := Jae (xs := q) (k := j + 1) (by omega)
         have hx := hdq x (List.mem_of_getElem? f1)
         have hy := hdq y (List.mem_of_getElem? f2)
         have hsink : Jda (ltP L) q (j + 1) = if ltP L y x then Jda (ltP L) (Je7 q j) j else q := by simp [Jda, f1, f2, -getElem?_pos]
         simp [e0, e1, e2, e3, e4, e5, f1, f2, -getElem?_pos, List.getElem?_cons_zero, List.getElem?_cons_succ]
         refine ⟨wrap_i64 (by omega) (by omega), ?_⟩
         refine Jab (J42 L y x hy hx) ?_
         simp
         refine ⟨.of (by kernel_rfl), ?_⟩
         refine Jac (fun h5 => ?_) (fun h5 => ?_)
         . have h5' : ltP L y x = true := h5
           simp
           refine Jaj.intro (by kernel_rfl) ?_
           have f3 : (q.map Int.row).length = l.length := by simp [k1]
           simp [e0, e1, e2, e3, e4, e5, f1, f2, -getElem?_pos, List.getElem?_cons_zero, List.getElem?_cons_succ]
           have f4 : ((q.map Int.row).set (j + 1) [AV.p (PV.int .i64 x)]).set j [AV.p (PV.int .i64 y)] = (Je7 q j).map Int.row := by simp [Je7, List.map_set, f1, f2, -getElem?_pos]
           rw [hsink, if_pos h5'] at k3
           refine ⟨wrap_i64 (by omega) (by omega), .of (by kernel_rfl), wrap_i64 (by omega) (by omega), Je7 q j, j, ⟨by rw [Jpa]; exact k1, by omega, J65 f1 f2 hdq, k3⟩, by omega, rfl, ?_⟩
           rw [f4]
           exact Jma _
         . have h5' : ltP L y x = false := h5
           rw [hsink, if_neg (by rw [h5']; simp)] at k3
           simp
           refine ⟨wrap_i64 (by omega) (by omega), q, i + 1, ⟨k1, by omega, by omega, hdq, ?_⟩, by omega, ?_⟩
           . rw [show l.length - i = (l.length - (i + 1)) + 1 by omega] at h4
             simp [Jel] at h4
             rw [k3]
             exact h4
           . simp
   . simp at h
     have h5 : l.length - i = 0 := by omega
     rw [h5] at h4
     simp [Jel] at h4
     simp [h4]
theorem J8l (L : List Lbl) (l : List Int) (s : Store) (nx b : Nat) (c : Option Nat) (m : Int) (hb : b < nx) (hg : get s b = some (.cells 1 (l.map Int.row))) (hl : l.length <= 12) (hd : Dom L l) :
   Gives Tryz.prog GL 258 [.ref b 1 0 l.length c, .p (.int .i64 0), .p (.int .i64 l.length), .p (.int .i64 m), fnL L] s nx (.tup []) [b] [(b, some (.cells 1 ((Jdg (ltP L) l).map Int.row)))] nx := by
 unfold fnL
 refine Gives.mk_walkK (N := 148) (args := [.ref 0 1 0 l.length c, .p (.int .i64 0), .p (.int .i64 l.length), .p (.int .i64 m), .fn (.func 194) [.iptr 1 [[.lst 3 (L.map Lbl.enc)]] 0 0]]) [b] [] [(0, some (.cells 1 (l.map Int.row)))] [(0, some (.cells 1 ((Jdg (ltP L) l).map Int.row)))] 1 0 (.tup []) (fun _ => []) (up1 := [(b, some (.cells 1 ((Jdg (ltP L) l).map Int.row)))]) Tryz.func258 rfl rfl rfl (by simp) rfl (by simp [hg, hb]) (by simp) (by simp) (by simp) (by simp) rfl ?_
 simp
 refine Jag.go [0, 4] [] 0 [] (fun _ => []) (fun _ (g : Unit) => [(1, .p (.int .i64 0)), (2, .p (.int .i64 l.length)), (3, .p (.int .i64 m)), (10, .p (.bool true)), (11, .p (.bool true))]) (fun _ g => [(0, some (.cells 1 (l.map Int.row)))]) (fun g => True) (fun g => 0) () trivial ?_ ?_
 . simp
 . rintro ⟨⟩ -
   have h12 : (l.length : Int) <= 12 := by omega
   simp [h12]
   refine ⟨wrap_i64 (by omega) (by omega), ?_⟩
   refine Jaw (J8h L l _ 1 0 c (by omega) (by simp [get]) (by omega) hd) ?_
   simp
theorem J8m (L : List Lbl) (l : List Int) (s : Store) (nx b : Nat) (c : Option Nat) (hb : b < nx) (hg : get s b = some (.cells 1 (l.map Int.row))) (hl : l.length <= 12) (hd : Dom L l) :
   Gives Tryz.prog GL 193 [.ref b 1 0 l.length c, fnL L] s nx (.tup []) [b] [(b, some (.cells 1 ((Jdg (ltP L) l).map Int.row)))] nx := by
 unfold fnL
 refine Gives.mk_walkK (N := 14) (args := [.ref 0 1 0 l.length c, .fn (.func 194) [.iptr 1 [[.lst 3 (L.map Lbl.enc)]] 0 0]]) [b] [] [(0, some (.cells 1 (l.map Int.row)))] [(0, some (.cells 1 ((Jdg (ltP L) l).map Int.row)))] 1 0 (.tup []) (fun _ => []) (up1 := [(b, some (.cells 1 ((Jdg (ltP L) l).map Int.row)))]) Tryz.func193 rfl rfl rfl (by simp) rfl (by simp [hg, hb]) (by simp) (by simp) (by simp) (by simp) rfl ?_
 simp
 refine ⟨by
   simp [IntKind.wrap, IntKind.bits, IntKind.signed]
   omega, ?_⟩
 refine Jab (Jvn l.length hl) ?_
 simp
 refine Jaw (J8l L l _ 1 0 c _ (by omega) (by simp [get]) hl hd) ?_
 simp
theorem Kib {k : Nat} (h : k < 14) : (catRow k)[0]? = some (.p (.str (Jix k))) := by
 rcases (by omega : k = 0 \/ k = 1 \/ k = 2 \/ k = 3 \/ k = 4 \/ k = 5 \/ k = 6 \/ k = 7 \/ k = 8 \/ k = 9 \/ k = 10 \/ k = 11 \/ k = 12 \/ k = 13) with rfl|rfl|rfl|rfl|rfl|rfl|rfl|rfl|rfl|rfl|rfl|rfl|rfl|rfl <;> rfl
theorem J5g (k : Int) : Pure Tryz.prog GL 87 [.p (.int .i64 k)] (.tup [.p (.str (if Jax k = 0 then Jix k.toNat else [])), .p (.int .i64 (Jax k))]) := by
 refine Pure.of_walk (N := 14) Tryz.func87 rfl rfl rfl (by simp) (by first | (simp; done) | simp [*]) ?_
 simp
 refine Jab (Jh2 k) ?_
 by_cases hk : 0 <= k /\ k < 14
 . have h3 : Jax k = 0 := Jcs.2 hk
   have hl := Jfa (k := k.toNat)
   have h6 := Jfb (k := k.toNat)
   have f1 := Kib (k := k.toNat) (by omega)
   simp [h3, hl, Jc0]
   refine ⟨by simpa using h6, ?_⟩
   obtain ⟨g1, g2⟩ := gsI.1 f1
   simp [Jaa, h3, g2]
 . have h3 : Jax k = 1 := Jib hk
   simp [h3, catRow, lay]
   simp [Jaa, h3]
end Go.Am
namespace Go.Am
open Go Go.Proofs Go.Pn
def natI (l : List Nat) : List Int := l.map fun i : Nat => (i : Int)
theorem Kba {L : List Lbl} : LtOk (ltP L) where
 asymm x y h := by
   simp only [ltP, decide_eq_true_eq, decide_eq_false_iff_not] at h ⊢
   rw [Jm8]; omega
 ntrans x y z h k := by
   simp only [ltP, decide_eq_false_iff_not] at h k ⊢
   have h1 : Jcw (lAt L x) (lAt L y) <= 0 := by rw [Jm8]; omega
   have h2 : Jcw (lAt L y) (lAt L z) <= 0 := by rw [Jm8]; omega
   have h3 := J6t h1 h2
   rw [Jm8]; omega
theorem Jx6 {c : Circuit} {i : Nat} (h : i < c.parts.length) : lAt (Je1 c) i = lblN c i := by
 unfold lAt
 rw [Int.toNat_natCast, show (Je1 c)[i]? = some (lblN c i) from Jx7 h]
 rfl
theorem Kf7 {c : Circuit} : Jdg (ltP (Je1 c)) (natI (List.range c.parts.length)) = natI (Jdi c) := by
 have hp := @J9u (ltP (Je1 c)) (natI (List.range c.parts.length))
 have hu := J9v (@Kba (Je1 c)) (l := natI (List.range c.parts.length))
 generalize Jdg (ltP (Je1 c)) (natI (List.range c.parts.length)) = s' at hp hu
 have hdom : ∀ x ∈ s', ∃ i : Nat, x = i /\ i < c.parts.length := fun x hx => by
   obtain ⟨i, hi, rfl⟩ := List.mem_map.1 (hp.mem_iff.1 hx)
   exact ⟨i, rfl, List.mem_range.1 hi⟩
 have hback : natI (s'.map Int.toNat) = s' := by
   unfold natI
   rw [List.map_map]
   have : ∀ (l : List Int), (∀ x ∈ l, ∃ i : Nat, x = i /\ i < c.parts.length) -> l.map ((fun i : Nat => (i : Int)) ∘ Int.toNat) = l := fun l => by
     induction l with
     | nil => intro _; rfl
     | cons x l ih =>
       intro hl
       obtain ⟨i, rfl, _⟩ := hl x (by simp)
       rw [List.map_cons, ih fun y hy => hl y (by simp [hy])]
       simp
   exact this s' hdom
 have hps : (s'.map Int.toNat).Perm (List.range c.parts.length) := by
   have := hp.map Int.toNat
   rw [natI, List.map_map] at this
   have e : (List.range c.parts.length).map (Int.toNat ∘ fun i : Nat => (i : Int)) = List.range c.parts.length := by
     have : (Int.toNat ∘ fun i : Nat => (i : Int)) = id := by funext i; simp
     rw [this, List.map_id]
   rw [e] at this
   exact this
 have hnd : (s'.map Int.toNat).Nodup := hps.nodup_iff.2 List.nodup_range
 rw [<- hback]
 congr 1
 refine (Kd5 hps ?_).symm
 have hnd2 : s'.Pairwise fun x y => Int.toNat x ≠ Int.toNat y := by
   have := hnd
   rw [List.nodup_iff_pairwise_ne, List.pairwise_map] at this
   exact this
 rw [List.pairwise_map]
 refine (hu.and hnd2).imp_of_mem fun {x y} hx hy ⟨h1, h2⟩ => ?_
 obtain ⟨i, rfl, hi⟩ := hdom x hx
 obtain ⟨j, rfl, hj⟩ := hdom y hy
 simp only [Int.toNat_natCast] at h2 ⊢
 simp only [ltP, decide_eq_false_iff_not] at h1
 rw [Jx6 hi, Jx6 hj] at h1
 have h3 : Jbd (lblN c j) (lblN c i) = false := by
   cases h4 : Jbd (lblN c j) (lblN c i) with
   | false => rfl
   | true => exact absurd (Jm7.2 h4) h1
 cases h4 : Jbd (lblN c i) (lblN c j) with
 | true => rfl
 | false => exact absurd (Kaq (Jyb h4 h3)) h2
def plcT (n k : Nat) : List Int := natI (List.range k) ++ List.replicate (n - k) 0
theorem Keq {n k : Nat} (h : k <= n) : (plcT n k).length = n := by simp [plcT, natI]; omega
theorem Ker {n k : Nat} (h : k < n) : (plcT n k).set k k = plcT n (k + 1) := by
 unfold plcT natI
 rw [List.set_append_right _ _ (by simp), show n - k = (n - (k + 1)) + 1 by omega, List.replicate_succ, List.range_succ]
 simp
theorem Kep {n : Nat} : plcT n n = natI (List.range n) := by simp [plcT]
theorem Kes {n : Nat} : plcT n 0 = List.replicate n 0 := by simp [plcT, natI]
theorem Kd6 {c : Circuit} : ∀ i ∈ Jdi c, i < c.parts.length := by
 intro i hi
 unfold Jdi at hi
 obtain ⟨m, _, hm⟩ := List.mem_flatMap.1 hi
 unfold Jht at hm
 exact List.mem_range.1 (List.mem_filter.1 hm).1
def lnsT (c : Circuit) (k : Nat) : List Txt := ((Jdi c).take k).map (Jhi c)
theorem Ka3 {c : Circuit} {k i : Nat} (e : (Jdi c)[k]? = some i) : lnsT c (k + 1) = lnsT c k ++ [Jhi c i] := by unfold lnsT; rw [take_snoc e, List.map_append]; rfl
theorem Ka2 {c : Circuit} {k : Nat} : (lnsT c k).length <= k := by unfold lnsT; rw [List.length_map, List.length_take]; exact Nat.min_le_left ..
set_option maxRecDepth 20000 in
theorem J41 (c : Circuit) (hs : Sized c) (hf : Jad c = 0 -> c.parts.length <= 12 /\ ∀ p ∈ c.parts, p.name.length < 1000000) : Pure Tryz.prog GL 121 [c.av] (.tup [.p (.lst 1 ((if Jad c = 0 then Jn1 c else []).map Txt.enc)), .p (.int .i64 (Jad c))]) := by
 refine Pure.of_walk (N := 77) Tryz.func121 rfl rfl rfl (by simp) (by first | (simp; done) | simp [*]) ?_
 have hL := J40 c hs
 by_cases h : Jad c = 0
 . have h2 := Jbg h
   obtain ⟨h12, hw⟩ := hf h
   rw [if_pos h, h] at hL
   rw [if_pos h, h, Kas]
   have hll : (Je1 c).length = c.parts.length := Kal
   have hso := @Kf7 c
   have hat := fun {j : Nat} (hj : j < c.parts.length) => show (Je1 c)[j]? = some (lblN c j) from Jx7 hj
   generalize Je1 c = L at hL hll hat hso
   simp
   refine Jab hL ?_
   simp
   refine ⟨by omega, by omega, ?_⟩
   refine Jag.goN [1, 6, 25] [0] 3 (fun (k : Nat) => [(4, .iptr 1 [[.lst 3 (L.map Lbl.enc)]] 0 0), (26, .p (.int .i64 k))]) (fun k => [(2, some (.cells 1 ((plcT L.length k).map Int.row)))]) (fun k => k <= L.length) (fun k => L.length - k) 0 (by omega) ?_ ?_
   . refine Leads.frz_sub (B := [1]) (ρ := [0, 1, 2]) [(4, .iptr 1 [[.lst 3 (L.map Lbl.enc)]] 0 0)] [(1, none)] (Freeze.of _ _ ?_ (by simp) (by simp [keys])) ?_
     . intro p hp
       simp only [List.mem_cons, List.not_mem_nil, or_false] at hp
       subst hp
       exact .frz _ _ (FrzA.cell (arows := [[.p (.lst 3 (L.map Lbl.enc))]]) (by simp) rfl rfl)
     . rw [Kes, show List.map Int.row (List.replicate L.length 0) = List.replicate L.length [AV.p (.int .i64 0)] by rw [List.map_replicate]]
       simp
   intro k hk
   have hpl := Keq hk
   simp
   refine Jac (fun h3 => ?_) (fun h3 => ?_)
   . simp at h3
     have hst := Ker h3
     obtain ⟨z, ez⟩ := Jae (show k < (plcT L.length k).length by omega)
     simp [h3, hpl, ez, -getElem?_pos, List.getElem?_cons_zero, List.getElem?_cons_succ]
     refine ⟨wrap_i64 (by omega) (by omega), k + 1, by omega, by omega, ?_⟩
     have hset : (List.map Int.row (plcT L.length k)).set k [AV.p (.int .i64 k)] = List.map Int.row (plcT L.length (k + 1)) := by rw [Kf1, hst]
     rw [hset]
     refine Leads.subx (ρ := [0, 1, 2]) ?_
     simp
   . simp at h3
     have hk2 : k = L.length := by omega
     subst hk2
     rw [Kep]
     have hnl : (natI (List.range L.length)).length = L.length := by simp [natI]
     have hdm : Dom L (natI (List.range L.length)) := fun x hx => by
       obtain ⟨i, hi, rfl⟩ := List.mem_map.1 hx
       rw [List.mem_range] at hi
       exact ⟨by omega, by omega⟩
     have hS := fun s => J8m L (natI (List.range L.length)) s 3 2 (some L.length) (by omega)
     have hso2 := hso
     rw [<- hll] at hso2
     rw [hnl, hso2] at hS
     have holn : (natI (Jdi c)).length = L.length := by rw [<- hso2, Jxu, hnl]
     simp
     refine Jaw (hS _ (by simp [get]) (by omega) hdm) ?_
     simp
     refine Jag.go [1, 4, 37, 38] [0, 2] 1 [3] (nms [8]) (fun nx (k : Nat) => [(8, .acc nx 1 (lnsT c k).length), (39, .p (.int .i64 k))]) (fun nx k => [(nx, accB 1 ((lnsT c k).map Txt.row))]) (fun k => k <= L.length) (fun k => L.length - k) 0 (by omega) ?_ ?_
     . simp [lnsT]
       try decide
     intro k hk
     have hr3 : List.range 3 = [0, 1, 2] := rfl
     simp
     refine Jac (fun h5 => ?_) (fun h5 => ?_)
     . simp at h5
       obtain ⟨x, ex⟩ := Jae (show k < (natI (Jdi c)).length by omega)
       obtain ⟨i, hi, rfl⟩ := List.mem_map.1 (List.mem_of_getElem? ex)
       have hil := Kd6 i hi
       obtain ⟨q, eq⟩ := Jae hil
       have hqk := Jz6 h eq
       have hke := Jcs.2 hqk
       have hWo := J5g q.kind
       rw [hke, if_pos rfl] at hWo
       have heo : (Jdi c)[k]? = some i := by
         unfold natI at ex
         rw [List.getElem?_map, Option.map_eq_some_iff] at ex
         obtain ⟨j, e1, e2⟩ := ex
         rw [e1]; congr 1; omega
       have hls := Ka3 heo
       have hline : Jhi c i = Jiq (lblN c i) ++ (32 :: (q.name ++ (32 :: Jix q.kind.toNat))) := by unfold Jhi; rw [Jrr eq, Jrj eq]
       have hlt := Ka2 (c := c) (k := k)
       have hok := Kar h hil
       have ei := hat hil
       have hkc : k < c.parts.length := by omega
       have hnm := hw q (List.mem_of_getElem? eq)
       have htx := Kgo hok
       have hwl := Kia (k := q.kind.toNat) (by omega)
       simp [h5, ex, eq, holn, hil, hr3, -getElem?_pos, List.getElem?_cons_zero, List.getElem?_cons_succ]
       refine Jab hWo ?_
       simp
       refine Jaj.intro (by kernel_rfl) ?_
       simp [eq, ei, hil, hll, -getElem?_pos, List.getElem?_cons_zero, List.getElem?_cons_succ]
       refine Jab (J46 (lblN c i) hok) ?_
       generalize Jiq (lblN c i) = tx at *
       generalize Jix q.kind.toNat = wd at *
       simp [eq, ei, hil, hll, hr3, -getElem?_pos, List.getElem?_cons_zero, List.getElem?_cons_succ]
       refine ⟨by omega, by omega, by omega, by omega, by omega, .of (by kernel_rfl), wrap_i64 (by omega) (by omega), k + 1, by omega, by omega, ?_⟩
       rw [hls, hline]
       simp
     . simp at h5
       have hk2 : k = L.length := by omega
       subst hk2
       have hall : lnsT c L.length = (Jdi c).map (Jhi c) := by
         unfold lnsT
         rw [List.take_of_length_le (by have : (natI (Jdi c)).length = (Jdi c).length := by simp [natI]
                                        omega)]
       have hmm : List.map (Txt.enc ∘ Jhi c) (Jdi c) = (lnsT c L.length).map Txt.enc := by rw [hall, List.map_map]
       simp
       rw [hmm]
       simp [Jaa]
 . simp
   refine Jab hL ?_
   simp [h, Jaa]
end Go.Am
