/- Lemmas and contracts for the proof of a statement of this seat. -/
import Derived.Test.YtmfjjncfdpejiaaGreatDoorZF4
import Derived.Test.YtmfjjncfdpejiaaGreatDoorZF3
import Derived.Test.YtmfjjncfdpejiaaGreatDoorZF2
import Derived.Test.YtmfjjncfdpejiaaGreatDoorZCX
import Derived.Test.YtmfjjncfdpejiaaGreatDoorZC7
import Derived.Test.YtmfjjncfdpejiaaGreatDoorZA8
import Derived.Test.YtmfjjncfdpejiaaGreatDoorZA6
set_option linter.unusedVariables false
set_option linter.unusedSimpArgs false
namespace Go.Am
open Go Go.Proofs Go.Pn
def itP (c : Circuit) (k : Nat) : List Int := Ja9 (fun i => actK c (i : Int)) c.parts.length (firstT c 64 c.parts.length) k
def nxP (c : Circuit) (g : List Int) (i : Nat) : List Int := Jbi (fun i => actK c (i : Int)) g i
theorem J9x {c : Circuit} {k : Nat} : (itP c k).length = 64 := by unfold itP; rw [Jk8, Jcy]
theorem J9y {c : Circuit} {k : Nat} : ∀ x ∈ itP c k, -1 <= x := Jxy J7y
theorem J9z {c : Circuit} {k : Nat} : nxP c (itP c k) c.parts.length = itP c (k + 1) := rfl
theorem Jxv {c : Circuit} {k : Nat} (hp : ∀ j, j < k -> itP c (j + 1) ≠ itP c j) : k <= 64 := by
 have h1 := @Jnx (fun i => actK c (i : Int)) c.parts.length (firstT c 64 c.parts.length) k hp
 have h2 := @Jrv (firstT c 64 c.parts.length)
 rw [Jcy] at h2
 omega
theorem J9w {c : Circuit} (hn : c.parts.length <= 64) {k : Nat} (hp : ∀ j, j < k -> itP c (j + 1) ≠ itP c j) (he : itP c (k + 1) = itP c k) : itP c k = padT (rawG c) 64 := by
 rw [<- J7f hn]
 exact J7h hp he
theorem J3f {c : Circuit} {i : Nat} (hi : i < c.parts.length) {x : Int} (hx : x ∈ actK c i) : 0 <= x /\ x < c.parts.length :=
 J61 ⟨by omega, by omega⟩ (Jyt.1 hx)
theorem Kjf {g : List Int} : ∀ x ∈ g.map nA, (match x with
   | AV.agg _ => false
   | AV.tup _ => false
   | AV.any => false
   | _ => true) = true := by
 intro x hx
 obtain ⟨i, _, rfl⟩ := List.mem_map.1 hx
 rfl
def zeros : List AV := List.replicate 64 (.p (.int .i64 0))
def Jfx (c : Circuit) : List AV := (tabP (actR c)).map fun l => .p (.lst 1 l)
theorem J3h {c : Circuit} : (Jfx c).length = 64 := by simp [Jfx, tabP]
theorem J3g {c : Circuit} (h : Jad c = 0) {i : Nat} (hi : i < c.parts.length) (hn : c.parts.length <= 64) : (Jfx c)[i]? = some (.p (.lst 1 ((actK c i).map fun x => [PV.int .i64 x]))) := by
 have : i < 64 := by omega
 simp [Jfx, tabP, this, actR, h, hi]
theorem Jue {c : Circuit} : ∀ x ∈ Jfx c, (match x with
   | AV.agg _ => false
   | AV.tup _ => false
   | AV.any => false
   | _ => true) = true := by
 intro x hx
 obtain ⟨i, _, rfl⟩ := List.mem_map.1 hx
 rfl
@[simp] theorem Kir {c : Circuit} {ρ : List Nat} : renL ρ (Jfx c) = some (Jfx c) := by
 refine Jlr ?_
 unfold Jfx
 induction tabP (actR c) with
 | nil => rfl
 | cons i l ih => rw [List.map_cons, Ja3, ih]; rfl
theorem Jrq {g : List Int} : ∀ x ∈ g, (match nA x with
   | AV.agg _ => false
   | AV.tup _ => false
   | AV.any => false
   | _ => true) = true := fun _ _ => rfl
theorem J3e {c : Circuit} {i : Nat} (h : Jad c = 0) : (actK c i).length <= 1500000 := by
 have h2 := Jbg h
 have h3 := Jr0 (k := (allP c).length) (i := i) (Ji4 h2.1 (by omega))
 have h4 : ((limL c i).filter fun x => decide (0 <= x)).length <= 2 := by
   refine Nat.le_trans (List.length_filter_le ..) ?_
   unfold limL; split <;> simp
 unfold outP at h3
 rw [List.take_length] at h3
 unfold actK
 rw [List.length_append]
 omega
theorem Jwr {y : TyI} (h1 : y.agg = false) (h2 : y.size = 1) {eq : AV -> AV -> Option Bool} (heq : ∀ a b, eq (.p (.int .i64 a)) (.p (.int .i64 b)) = some (decide (a = b))) {g h : List Int} (hg : ∀ x ∈ g, -1 <= x) (hh : ∀ x ∈ h, -1 <= x) :
   ∀ (is : List Nat), (∀ i ∈ is, i < g.length /\ i < h.length) -> eqI eq y (g.map nA) (h.map nA) is = some (decide (∀ i ∈ is, g[i]? = h[i]?))
 | [], _ => by simp [eqI]
 | i :: is, hi => by
   obtain ⟨a, ea⟩ := Jae (hi i (by simp)).1
   obtain ⟨b, eb⟩ := Jae (hi i (by simp)).2
   have ih := Jwr h1 h2 heq hg hh is fun j hj => hi j (by simp [hj])
   have ha := hg a (List.mem_of_getElem? ea)
   have hb := hh b (List.mem_of_getElem? eb)
   have e1 : (g.map nA)[i]? = some (.p (.int .i64 (toN a))) := by rw [List.getElem?_map, ea]; rfl
   have e2 : (h.map nA)[i]? = some (.p (.int .i64 (toN b))) := by rw [List.getElem?_map, eb]; rfl
   have hiff : toN a = toN b ↔ a = b := ⟨Kgr ha hb, fun h => by rw [h]⟩
   simp only [eqI, Jig, h1, h2, Nat.mul_one, Bool.false_eq_true, if_false, e1, e2, Option.bind_some, heq, ih, Option.map_some, Option.some.injEq]
   simp only [List.mem_cons, forall_eq_or_imp, ea, eb, Option.some.injEq]
   by_cases hab : a = b <;> simp [hab, hiff]
theorem Kfo {g h : List Int} (hgl : g.length = 64) (hhl : h.length = 64) (hg : ∀ x ∈ g, -1 <= x) (hh : ∀ x ∈ h, -1 <= x) (f : Bool -> Prop) (k : f (decide (g = h))) : VEq Tryz.prog 376 (g.map nA) (h.map nA) f := by
 refine ⟨by kernel_rfl, ?_⟩
 have e : eqA Tryz.prog 8 376 (.agg (g.map nA)) (.agg (h.map nA)) = some (decide (g = h)) := by
   have hty : ∃ y, tyOf Tryz.prog 3 = some y /\ y.agg = false /\ y.size = 1 := ⟨_, ty3, rfl, rfl⟩
   obtain ⟨y, e1, e2, e3⟩ := hty
   have hu : Tryz.prog.underlying 376 = some (.array 64 3) := by kernel_rfl
   unfold eqA
   rw [hu]
   simp only [e1, Option.bind_some]
   rw [Jwr e2 e3 (fun a b => by unfold eqA; rw [show Tryz.prog.underlying 3 = some (.int .i64) by kernel_rfl]; simp) hg hh (List.range 64) (fun i hi => by rw [List.mem_range] at hi; omega)]
   refine congrArg some (decide_eq_decide.2 ?_)
   constructor
   . intro h
     apply List.ext_getElem?
     intro i
     by_cases hi : i < 64
     . exact h i (by simp [hi])
     . rw [List.getElem?_eq_none (by omega), List.getElem?_eq_none (by omega)]
   . rintro rfl _ _; rfl
 rw [e]
 exact k
def upG (c : Circuit) (k : Nat) : List Int := (Jfh c).take k
theorem Khz {c : Circuit} : upG c 0 = [] := rfl
def rowM (l : List Int) (i : Nat) (m : Int) : List Int := l.set i m
theorem Kfl {l : List Int} {i : Nat} {m : Int} : (rowM l i m).length = l.length := List.length_set
theorem Kfk {l : List Int} {i : Nat} {m : Int} (h : i < l.length) : (rowM l i m)[i]? = some m := List.getElem?_set_self h
theorem Kfm {l : List Int} {i : Nat} {m y : Int} (hy : y ≠ -1) : ((rowM l i m).map nA).set i (.p (.int .i64 y)) = (rowM l i y).map nA := by
 rw [show AV.p (.int .i64 y) = nA y by unfold nA; rw [Jkk hy], <- List.map_set]
 unfold rowM
 rw [List.set_set]
set_option maxRecDepth 20000 in
theorem J4z (c : Circuit) (hs : Sized c) : Pure Tryz.prog GL 256 [c.av] (.tup [.p (.lst 1 ((if Jad c = 0 then Jfh c else []).map Int.enc)), .p (.int .i64 (Jad c))]) := by
 refine Pure.of_walk (N := 85) Tryz.func256 rfl rfl rfl (by simp) (by first | (simp; done) | simp [*]) ?_
 have hD := J43 c hs
 simp
 refine Jab hD ?_
 rw [show List.map (fun l => AV.p (PV.lst 1 l)) (tabP (actR c)) = Jfx c from rfl]
 have hal := @J3h c
 by_cases h : Jad c = 0
 . have h2 := Jbg h
   have hn : c.parts.length <= 64 := h2.2.1
   have hF := J44 c hs h
   have hfl := @Jcy c 64 c.parts.length
   simp [h, hal]
   rw [show ([AV.nils, AV.nils, AV.nils, AV.nils, AV.nils, AV.nils, AV.nils, AV.nils, AV.nils, AV.nils, AV.nils, AV.nils, AV.nils, AV.nils, AV.nils, AV.nils, AV.nils, AV.nils, AV.nils, AV.nils, AV.nils, AV.nils, AV.nils, AV.nils, AV.nils, AV.nils, AV.nils, AV.nils, AV.nils, AV.nils, AV.nils, AV.nils, AV.nils, AV.nils, AV.nils, AV.nils, AV.nils, AV.nils, AV.nils, AV.nils, AV.nils, AV.nils, AV.nils, AV.nils, AV.nils, AV.nils, AV.nils, AV.nils, AV.nils, AV.nils, AV.nils, AV.nils, AV.nils, AV.nils, AV.nils, AV.nils, AV.nils, AV.nils, AV.nils, AV.nils, AV.nils, AV.nils, AV.nils, AV.nils] : List AV) = nilRow from rfl, Jc0 nilRow (Jfx c) (by rw [hal]; rfl)]
   refine ⟨Jue, ?_⟩
   refine Jab hF ?_
   simp [hfl]
   rw [show ([AV.p (.int .i64 0), AV.p (.int .i64 0), AV.p (.int .i64 0), AV.p (.int .i64 0), AV.p (.int .i64 0), AV.p (.int .i64 0), AV.p (.int .i64 0), AV.p (.int .i64 0), AV.p (.int .i64 0), AV.p (.int .i64 0), AV.p (.int .i64 0), AV.p (.int .i64 0), AV.p (.int .i64 0), AV.p (.int .i64 0), AV.p (.int .i64 0), AV.p (.int .i64 0), AV.p (.int .i64 0), AV.p (.int .i64 0), AV.p (.int .i64 0), AV.p (.int .i64 0), AV.p (.int .i64 0), AV.p (.int .i64 0), AV.p (.int .i64 0), AV.p (.int .i64 0), AV.p (.int .i64 0), AV.p (.int .i64 0), AV.p (.int .i64 0), AV.p (.int .i64 0), AV.p (.int .i64 0), AV.p (.int .i64 0), AV.p (.int .i64 0), AV.p (.int .i64 0), AV.p (.int .i64 0), AV.p (.int .i64 0), AV.p (.int .i64 0), AV.p (.int .i64 0), AV.p (.int .i64 0), AV.p (.int .i64 0), AV.p (.int .i64 0), AV.p (.int .i64 0), AV.p (.int .i64 0), AV.p (.int .i64 0), AV.p (.int .i64 0), AV.p (.int .i64 0), AV.p (.int .i64 0), AV.p (.int .i64 0), AV.p (.int .i64 0), AV.p (.int .i64 0), AV.p (.int .i64 0), AV.p (.int .i64 0), AV.p (.int .i64 0), AV.p (.int .i64 0), AV.p (.int .i64 0), AV.p (.int .i64 0), AV.p (.int .i64 0), AV.p (.int .i64 0), AV.p (.int .i64 0), AV.p (.int .i64 0), AV.p (.int .i64 0), AV.p (.int .i64 0), AV.p (.int .i64 0), AV.p (.int .i64 0), AV.p (.int .i64 0), AV.p (.int .i64 0)] : List AV) = zeros from rfl, Jc0 zeros ((firstT c 64 c.parts.length).map nA) (by rw [List.length_map, hfl]; rfl)]
   refine ⟨Jrq, ?_⟩
   refine Jag.go [1, 4, 6] [0, 1] 0 [] (fun _ => []) (fun _ (_ : Nat) => []) (fun _ k => [(2, some (.cells 64 [(itP c k).map nA]))]) (fun k => ∀ j, j < k -> itP c (j + 1) ≠ itP c j) (fun k => 64 - k) 0 (fun j hj => by omega) ?_ ?_
   . simp
     exact Jcq _
   intro k hk
   have hil := @J9x c k
   have hlo := @J9y c k
   have hnx := @J9z c k
   have hend := @J9w c hn k hk
   have hkn := Jxv hk
   generalize hg : itP c k = g at *
   have hml : (List.map nA g).length = 64 := by rw [List.length_map, hil]
   have ht : List.take 64 (List.map nA g) = List.map nA g := List.take_of_length_le (by omega)
   simp [hil, ht]
   rw [show ([AV.p (.int .i64 0), AV.p (.int .i64 0), AV.p (.int .i64 0), AV.p (.int .i64 0), AV.p (.int .i64 0), AV.p (.int .i64 0), AV.p (.int .i64 0), AV.p (.int .i64 0), AV.p (.int .i64 0), AV.p (.int .i64 0), AV.p (.int .i64 0), AV.p (.int .i64 0), AV.p (.int .i64 0), AV.p (.int .i64 0), AV.p (.int .i64 0), AV.p (.int .i64 0), AV.p (.int .i64 0), AV.p (.int .i64 0), AV.p (.int .i64 0), AV.p (.int .i64 0), AV.p (.int .i64 0), AV.p (.int .i64 0), AV.p (.int .i64 0), AV.p (.int .i64 0), AV.p (.int .i64 0), AV.p (.int .i64 0), AV.p (.int .i64 0), AV.p (.int .i64 0), AV.p (.int .i64 0), AV.p (.int .i64 0), AV.p (.int .i64 0), AV.p (.int .i64 0), AV.p (.int .i64 0), AV.p (.int .i64 0), AV.p (.int .i64 0), AV.p (.int .i64 0), AV.p (.int .i64 0), AV.p (.int .i64 0), AV.p (.int .i64 0), AV.p (.int .i64 0), AV.p (.int .i64 0), AV.p (.int .i64 0), AV.p (.int .i64 0), AV.p (.int .i64 0), AV.p (.int .i64 0), AV.p (.int .i64 0), AV.p (.int .i64 0), AV.p (.int .i64 0), AV.p (.int .i64 0), AV.p (.int .i64 0), AV.p (.int .i64 0), AV.p (.int .i64 0), AV.p (.int .i64 0), AV.p (.int .i64 0), AV.p (.int .i64 0), AV.p (.int .i64 0), AV.p (.int .i64 0), AV.p (.int .i64 0), AV.p (.int .i64 0), AV.p (.int .i64 0), AV.p (.int .i64 0), AV.p (.int .i64 0), AV.p (.int .i64 0), AV.p (.int .i64 0)] : List AV) = zeros from rfl, Jc0 zeros (List.map nA g) (by rw [List.length_map, hil]; rfl)]
   refine ⟨Jrq, ?_⟩
   refine Jag.go [1, 4, 6, 7, 27] [0, 1, 2] 0 [] (fun _ => []) (fun _ (i : Nat) => [(28, .p (.int .i64 i))]) (fun _ i => [(3, some (.cells 64 [(nxP c g i).map nA]))]) (fun i => i <= c.parts.length) (fun i => c.parts.length - i) 0 (by omega) ?_ ?_
   . simp [nxP, Kcb]
     try decide
   intro i hi
   have hnl : (nxP c g i).length = 64 := by unfold nxP; rw [Jep, hil]
   have hst := @Kca (fun i => actK c (i : Int)) g i
   rw [show Jbi (fun i => actK c (i : Int)) g (i + 1) = nxP c g (i + 1) from rfl, show Jbi (fun i => actK c (i : Int)) g i = nxP c g i from rfl] at hst
   simp
   refine Jac (fun h3 => ?_) (fun h3 => ?_)
   . simp at h3
     have hi64 : i < 64 := by omega
     have hst := hst (by omega)
     obtain ⟨x, ex⟩ := Jae (show i < g.length by omega)
     have hxl := hlo x (List.mem_of_getElem? ex)
     rw [Jd3 ex] at hst
     have har := J3g h (show i < c.parts.length by omega) hn
     have hnax : nA x = .p (.int .i64 (toN x)) := rfl
     simp [h3, ex, hil, hi64, hnax, -getElem?_pos, List.getElem?_cons_zero, List.getElem?_cons_succ]
     refine ⟨by omega, ?_⟩
     by_cases hx : x = -1
     . rw [if_pos hx] at hst
       subst hx
       have hnx : (nxP c g i)[i]? = some (-1) := by unfold nxP; rw [Jfk (by omega), if_neg (by omega), Jd3 ex]
       have hset : rowM (nxP c g i) i (minG g ((actK c i).take 0) (-1)) = nxP c g i := by
         unfold rowM
         rw [List.take_zero]
         apply List.ext_getElem?
         intro j
         by_cases hj : i = j
         . subst hj; rw [List.getElem?_set_self (by omega), hnx]; rfl
         . rw [List.getElem?_set_ne hj]
       have hAl := @J3e c i h
       have hAr := fun {y : Int} => @J3f c i (by omega) y
       generalize actK c (i : Int) = A at *
       simp [hi64, hil, har, hal, J17, -getElem?_pos, List.getElem?_cons_zero, List.getElem?_cons_succ]
       refine ⟨by omega, ?_⟩
       refine Jag.go [1, 4, 6, 7, 8, 27, 28, 37, 38] [0, 1, 2] 0 [] (fun _ => []) (fun _ (j : Nat) => [(39, .p (.int .i64 j))]) (fun _ j => [(3, some (.cells 64 [(rowM (nxP c g i) i (minG g (A.take j) (-1))).map nA]))]) (fun j => j <= A.length) (fun j => A.length - j) 0 (by omega) ?_ ?_
       . rw [hset]
         simp
         exact List.nodup_range
       intro j hj
       have hr4 : List.range 4 = [0, 1, 2, 3] := rfl
       have hm1 := @Jy0 g (A.take j)
       have hms := fun {k : Int} => @Kbm g k (A.take j) (-1)
       have hat : (rowM (nxP c g i) i (minG g (A.take j) (-1)))[i]? = some (minG g (A.take j) (-1)) := Kfk (by omega)
       have hrl := (@Kfl (nxP c g i) i (minG g (A.take j) (-1))).trans hnl
       have hss := fun {y : Int} => @Kfm (nxP c g i) i (minG g (A.take j) (-1)) y
       generalize hm : minG g (A.take j) (-1) = m at *
       have hnaM : nA m = .p (.int .i64 (toN m)) := rfl
       simp
       refine Jac (fun h4 => ?_) (fun h4 => ?_)
       . simp at h4
         obtain ⟨a, ea⟩ := Jae h4
         have har := hAr (List.mem_of_getElem? ea)
         obtain ⟨y, ey⟩ := Jae (show a.toNat < g.length by omega)
         have hyl := hlo y (List.mem_of_getElem? ey)
         have hga : gAt g a = y := by unfold gAt; rw [ey]
         have hms := @hms a
         rw [hga] at hms
         have hts : A.take (j + 1) = A.take j ++ [a] := take_snoc ea
         have hnaY : nA y = .p (.int .i64 (toN y)) := rfl
         rw [<- hts] at hms
         by_cases hy1 : 1 <= y
         . have hty : toN y = y := Jkk (by omega)
           by_cases hm0 : m = -1
           . subst hm0
             rw [if_pos ⟨hy1, .inl rfl⟩] at hms
             simp [h4, ea, ey, hil, hr4, hnaY, hi64, hnl, hrl, hty, hy1, hat, hnaM, J17, -getElem?_pos, List.getElem?_cons_zero, List.getElem?_cons_succ]
             exact ⟨by omega, by omega, by omega, by omega, wrap_i64 (by omega) (by omega), j + 1, by omega, by omega, by omega, by rw [hms, hss (by omega)]; exact Jcq _⟩
           . have htm : toN m = m := Jkk hm0
             have hm9 : ¬ m = -1099511627776 := by have := hm1 hm0; omega
             by_cases hlt : y < m
             . rw [if_pos ⟨hy1, .inr hlt⟩] at hms
               simp [h4, ea, ey, hil, hr4, hnaY, hi64, hnl, hrl, hty, hy1, hat, hnaM, htm, hlt, hm9, -getElem?_pos, List.getElem?_cons_zero, List.getElem?_cons_succ]
               exact ⟨by omega, by omega, by omega, by omega, wrap_i64 (by omega) (by omega), j + 1, by omega, by omega, by omega, by rw [hms, hss (by omega)]; exact Jcq _⟩
             . rw [if_neg (by omega)] at hms
               simp [h4, ea, ey, hil, hr4, hnaY, hi64, hnl, hrl, hty, hy1, hat, hnaM, htm, hlt, hm9, -getElem?_pos, List.getElem?_cons_zero, List.getElem?_cons_succ]
               exact ⟨by omega, by omega, by omega, wrap_i64 (by omega) (by omega), j + 1, by omega, by omega, by omega, by rw [hms]; exact Jcq _⟩
         . rw [if_neg (by omega)] at hms
           have hty : ¬ 1 <= toN y := by unfold toN; split <;> omega
           simp [h4, ea, ey, hil, hr4, hnaY, hi64, hnl, hrl, hty, -getElem?_pos, List.getElem?_cons_zero, List.getElem?_cons_succ]
           exact ⟨by omega, by omega, wrap_i64 (by omega) (by omega), j + 1, by omega, by omega, by omega, by rw [hms]; exact Jcq _⟩
       . simp at h4
         have hj2 : j = A.length := by omega
         subst hj2
         rw [List.take_length] at hm
         simp [hr4]
         exact ⟨wrap_i64 (by omega) (by omega), i + 1, by omega, by omega, by omega, by rw [hst, <- hm]; exact Jcq _⟩
     . rw [if_neg hx] at hst
       have hne : ¬ toN x = -1099511627776 := by rw [Jkk hx]; omega
       simp [hne]
       exact ⟨wrap_i64 (by omega) (by omega), i + 1, by omega, by omega, by omega, by rw [hst]; exact ⟨Jcq _, List.nodup_range⟩⟩
   . simp at h3
     have hk2 : i = c.parts.length := by omega
     subst hk2
     have hnlo : ∀ x ∈ nxP c g c.parts.length, -1 <= x := Jzd hlo
     have ht2 : List.take 64 (List.map nA (nxP c g c.parts.length)) = List.map nA (nxP c g c.parts.length) := List.take_of_length_le (by rw [List.length_map]; omega)
     simp [hnl, hil, ht, ht2]
     refine Kfo hnl hil hnlo hlo _ ?_
     rw [hnx] at hnl hnlo ht2 ⊢
     by_cases he : itP c (k + 1) = g
     . have hend := hend he
       simp [he]
       have hgat : ∀ {i : Nat} {x : Int}, (rawG c)[i]? = some x -> g[i]? = some x := fun {i x} e => by
         have hi := (gsI.1 e).1
         rw [Jsg] at hi
         rw [hend, Jog (by omega), Jd3 e]
       refine Jag.go [6, 72] [2] 1 [4] (nms [12]) (fun nx (k : Nat) => [(12, .acc nx 1 (upG c k).length), (73, .p (.int .i64 k))]) (fun nx k => [(nx, accB 1 ((upG c k).map rowI))]) (fun k => k <= c.parts.length) (fun k => c.parts.length - k) 0 (by omega) ?_ ?_
       . simp [Khz]
         try decide
       intro m hm
       have hgl := @Jra c
       have hrl := @Jsg c
       simp
       refine Jac (fun h5 => ?_) (fun h5 => ?_)
       . simp at h5
         obtain ⟨x, ex⟩ := Jae (show m < (rawG c).length by omega)
         have ex2 := hgat ex
         have hxl := hlo x (List.mem_of_getElem? ex2)
         have hmx : max (toN x) 0 = max x 0 := by unfold toN; split <;> omega
         have hts : upG c (m + 1) = upG c m ++ [max x 0] := by
           refine take_snoc ?_
           unfold Jfh
           rw [List.getElem?_map, ex]; rfl
         have htl : (upG c m).length = m := by unfold upG; rw [List.length_take]; omega
         have hrm : ∀ r ∈ (upG c m).map rowI, r.length = 1 := fun r hr => by obtain ⟨_, _, rfl⟩ := List.mem_map.1 hr; rfl
         have hr4 : List.range 4 = [0, 1, 2, 3] := rfl
         have hnaX : nA x = .p (.int .i64 (toN x)) := rfl
         have hm64 : m < 64 := by omega
         simp [h5, ex2, hnaX, hmx, hil, htl, hm64, hr4, -getElem?_pos, List.getElem?_cons_zero, List.getElem?_cons_succ]
         refine ⟨by omega, by omega, fun _ _ => rfl, wrap_i64 (by omega) (by omega), m + 1, by omega, by omega, ⟨by rw [hts, List.length_append, htl]; rfl, by omega⟩, ?_⟩
         rw [hts, List.map_append]
         simp [rowI]
       . simp at h5
         have hm2 : m = c.parts.length := by omega
         subst hm2
         have htg : upG c c.parts.length = Jfh c := by unfold upG; rw [<- hgl, List.take_length]
         simp [Jaa, h, htg]
         exact fun _ _ => rfl
     . have hk1 : k + 1 <= 64 := Jxv fun j hj => by
         by_cases hjk : j = k
         . subst hjk; rw [hg]; exact he
         . exact hk j (by omega)
       simp [he, hnl, hil, ht2]
       refine ⟨Jrq, k + 1, fun j hj => ?_, by omega, ?_⟩
       . by_cases hjk : j = k
         . subst hjk; rw [hg]; exact he
         . exact hk j (by omega)
       . rw [Jc0 _ _ (by rw [List.length_map, List.length_map, hnl, hil])]
         exact Jcq _
 . simp [h, hal, Jaa]
   exact Jue
end Go.Am
namespace Go.Am
open Go Go.Proofs Go.Pn
theorem Kax {k : Nat} (h : k < 14) : Jgu k = Jgt k := by
 rcases (by omega : k = 0 \/ k = 1 \/ k = 2 \/ k = 3 \/ k = 4 \/ k = 5 \/ k = 6 \/ k = 7 \/ k = 8 \/ k = 9 \/ k = 10 \/ k = 11 \/ k = 12 \/ k = 13) with rfl|rfl|rfl|rfl|rfl|rfl|rfl|rfl|rfl|rfl|rfl|rfl|rfl|rfl <;> rfl
theorem Jx4 : KeyOk Tryz.prog 272 Jfw := Kab (by kernel_rfl) (fun w em n s m => by kernel_rfl) (fun n m s t a b => by rw [J7l]; simp [Bool.decide_and])
def keyA (y : Int × Txt) : AV := .agg [.p (.int .i64 y.1), .p (.str y.2), .p (.int .i64 0)]
theorem Jx3 {y z : Int × Txt} : keyA y = keyA z ↔ y = z := by
 unfold keyA
 constructor
 . intro h
   simp only [AV.agg.injEq, List.cons.injEq, AV.p.injEq, PV.int.injEq, PV.str.injEq] at h
   exact Prod.ext h.1.2 h.2.1
 . rintro rfl; rfl
open Classical in
theorem Ji5 {x v y : AV} : ∀ {es : List (AV × AV)}, Jak (setA es x v) y = if x = y then some v else Jak es y
 | [] => by
   rw [setA, Jd0]
 | (k, u) :: es => by
   rw [setA]
   by_cases h : k = x
   . rw [if_pos h, Jd0, Jd0]
     by_cases h2 : x = y
     . rw [if_pos h2, if_pos h2]
     . rw [if_neg h2, if_neg h2, if_neg (fun h3 => h2 (h.symm.trans h3))]
   . rw [if_neg h, Jd0, Jd0, Ji5]
     by_cases h2 : k = y
     . rw [if_pos h2, if_pos h2, if_neg (fun h3 => h (h2.trans h3.symm))]
     . rw [if_neg h2, if_neg h2]
theorem J1e {K : AV -> Prop} {x v : AV} (hx : K x) : ∀ {es : List (AV × AV)}, (∀ e ∈ es, K e.1) -> ∀ e ∈ setA es x v, K e.1
 | [], _, e, he => by
   rw [setA, List.mem_singleton] at he
   subst he; exact hx
 | (k, u) :: es, h, e, he => by
   rw [setA] at he
   split at he
   . rcases List.mem_cons.1 he with rfl | he
     . exact hx
     . exact h e (List.mem_cons_of_mem _ he)
   . rcases List.mem_cons.1 he with rfl | he
     . exact h (k, u) (by simp)
     . exact J1e hx (fun e he => h e (List.mem_cons_of_mem _ he)) e he
theorem J3w {es : List (AV × AV)} {x z : AV} (h : Jak es x = none) : Jak (es ++ [(x, z)]) x = some z := by
 induction es with
 | nil => rw [List.nil_append, Jd0, if_pos rfl]
 | cons e es ih =>
   rw [Jd0] at h
   rw [List.cons_append, Jd0]
   by_cases he : e.1 = x
   . rw [if_pos he] at h; cases h
   . rw [if_neg he] at h
     rw [if_neg he, ih h]
theorem J7j {es : List (AV × AV)} {x z : AV} : Jak (entA es x z) x = some ((Jak es x).getD z) := by
 unfold entA
 cases h : Jak es x with
 | none => exact J3w h
 | some v => exact h
theorem J7k {K : AV -> Prop} {es : List (AV × AV)} {x z : AV} (h : ∀ e ∈ es, K e.1) (hx : K x) : ∀ e ∈ entA es x z, K e.1 := by
 intro e he
 unfold entA at he
 split at he
 . exact h e he
 . rcases List.mem_append.1 he with he | he
   . exact h e he
   . rw [List.mem_singleton] at he; subst he; exact hx
noncomputable def cntE (c : Circuit) : Nat -> List (AV × AV)
 | 0 => []
 | k + 1 => setA (cntE c k) (keyA (keyG c k)) (.p (.int .i64 ((cntG c (keyG c k) k : Nat) + 1)))
theorem Jqq {c : Circuit} {y : Int × Txt} : ∀ {k : Nat}, Jak (cntE c k) (keyA y) = if cntG c y k = 0 then none else some (.p (.int .i64 (cntG c y k : Nat)))
 | 0 => by rw [if_pos (by simp [cntG])]; rfl
 | k + 1 => by
   rw [cntE, Ji5, Jqq, Jm9]
   by_cases h : keyG c k = y
   . rw [if_pos (Jx3.2 h), if_pos h, if_neg (by omega), h]
     simp
   . rw [if_neg (fun h2 => h (Jx3.1 h2)), if_neg h]
     simp
theorem Jqr {c : Circuit} : ∀ {k : Nat}, ∀ e ∈ cntE c k, Jfw e.1
 | 0, _, he => by cases he
 | k + 1, e, he => J1e (K := Jfw) ⟨_, _, _, rfl⟩ Jqr e he
theorem Js4 {K : AV × AV -> Prop} {x v : AV} (hx : K (x, v)) : ∀ {es : List (AV × AV)}, (∀ e ∈ es, K e) -> ∀ e ∈ setA es x v, K e
 | [], _, e, he => by
   rw [setA, List.mem_singleton] at he
   subst he; exact hx
 | (k, u) :: es, h, e, he => by
   rw [setA] at he
   split at he
   . rcases List.mem_cons.1 he with rfl | he
     . exact hx
     . exact h e (List.mem_cons_of_mem _ he)
   . rcases List.mem_cons.1 he with rfl | he
     . exact h (k, u) (by simp)
     . exact Js4 hx (fun e he => h e (List.mem_cons_of_mem _ he)) e he
theorem Jwj {c : Circuit} : ∀ {k : Nat}, ∀ e ∈ cntE c k, Jap e.1 = true /\ Jap e.2 = true
 | 0, _, he => by cases he
 | k + 1, e, he => Js4 (K := fun e => Jap e.1 = true /\ Jap e.2 = true) ⟨rfl, rfl⟩ Jwj e he
theorem Jj6 {ρ : List Nat} : ∀ {es : List (AV × AV)}, (∀ e ∈ es, Jap e.1 = true /\ Jap e.2 = true) -> renE ρ es = some es
 | [], _ => rfl
 | e :: es, h => by
   obtain ⟨h1, h2⟩ := h e (by simp)
   rw [renE, Jfp.1 _ h1, Jfp.1 _ h2, Jj6 fun e he => h e (List.mem_cons_of_mem _ he)]
   rfl
@[simp] theorem Kj3 {c : Circuit} {k : Nat} {ρ : List Nat} : renE ρ (cntE c k) = some (cntE c k) := Jj6 Jwj
@[simp] theorem Ki4 {c : Circuit} {k : Nat} {a : Int} {s : Txt} : Jb0 Tryz.prog 272 (cntE c k) (.agg [.p (.int .i64 a), .p (.str s), .p (.int .i64 0)]) = True :=
 eq_true ⟨_, Jx4, ⟨_, _, _, rfl⟩, Jqr⟩
@[simp] theorem Kae {c : Circuit} {k : Nat} {a : Int} {s : Txt} {x z : AV} (hx : Jfw x) : Jb0 Tryz.prog 272 (entA (cntE c k) x z) (.agg [.p (.int .i64 a), .p (.str s), .p (.int .i64 0)]) = True :=
 eq_true ⟨_, Jx4, ⟨_, _, _, rfl⟩, J7k Jqr hx⟩
set_option maxRecDepth 20000 in
theorem J40 (c : Circuit) (hs : Sized c) : Pure Tryz.prog GL 192 [c.av] (.tup [.p (.lst 3 ((if Jad c = 0 then Je1 c else []).map Lbl.enc)), .p (.int .i64 (Jad c))]) := by
 refine Pure.of_walk (N := 63) Tryz.func192 rfl rfl rfl (by simp) (by first | (simp; done) | simp [*]) ?_
 have hG := J4z c hs
 simp
 refine Jab hG ?_
 by_cases h : Jad c = 0
 . have h2 := Jbg h
   have hn : c.parts.length <= 64 := h2.2.1
   have hgl := @Jra c
   simp [h]
   refine Jag.go [1, 6, 22, 23] [0] 1 [2] (nms [7]) (fun nx (k : Nat) => [(7, .acc nx 3 (Je2 c k).length), (24, .p (.int .i64 k))]) (fun nx k => [(1, some (.map (cntE c k))), (nx, accB 3 ((Je2 c k).map Lbl.row_))]) (fun k => k <= c.parts.length) (fun k => c.parts.length - k) 0 (by omega) ?_ ?_
   . simp [Je2, cntE]
     try decide
   intro k hk
   have htl := @Jx8 c k
   simp [hgl]
   refine Jac (fun h3 => ?_) (fun h3 => ?_)
   . simp at h3
     obtain ⟨p, ep⟩ := Jae h3
     obtain ⟨g, eg⟩ := Jae (show k < (Jfh c).length by omega)
     have hpk := Jz6 h ep
     have hke := Jcs.2 hpk
     have hLe := J5d p.kind
     have hlt : Jgu p.kind.toNat = Jgt p.kind := by
       have := @Kax p.kind.toNat (by omega)
       rw [this]; congr 1; omega
     rw [hke, if_pos rfl, hlt] at hLe
     have hkey : keyG c k = (g, Jgt p.kind) := by unfold keyG; rw [Jd3 eg, Jrj ep]
     have hat := @Jqq c (keyG c k) k
     have hnx : cntE c (k + 1) = setA (cntE c k) (keyA (keyG c k)) (.p (.int .i64 ((cntG c (keyG c k) k : Nat) + 1))) := rfl
     have hat' := @Jqq c (keyG c k) (k + 1)
     rw [Jm9, if_pos rfl, if_neg (by omega)] at hat'
     have hcl := @Jwk c (keyG c k) k
     have hlb : lblN c k = ⟨g, Jgt p.kind, ((cntG c (keyG c k) k : Nat) : Int) + 1⟩ := by unfold lblN; rw [hkey]
     have hls := @Kam c k
     rw [hlb] at hls
     generalize hcn : cntG c (keyG c k) k = n at *
     rw [hkey] at hat hnx hat'
     simp only [keyA] at hat hnx hat'
     simp [h3, ep, eg, hgl, -getElem?_pos, List.getElem?_cons_zero, List.getElem?_cons_succ]
     refine Jab hLe ?_
     simp
     refine Jaj.late 2 4 _ (by kernel_rfl) rfl rfl ?_
     have hhit : hit false (AV.p (PV.int IntKind.i64 0)) (if n = 0 then none else some (AV.p (PV.int IntKind.i64 ↑n))) = .p (.int .i64 n) := by
       by_cases hn0 : n = 0 <;> simp [hit, hn0]
     have hw : IntKind.i64.wrap ((n : Int) + 1) = n + 1 := wrap_i64 (by omega) (by omega)
     have hput := @Kew (cntE c k) (AV.agg [AV.p (PV.int IntKind.i64 g), AV.p (PV.str (Jgt p.kind)), AV.p (PV.int IntKind.i64 0)]) (.p (.int .i64 0)) (AV.p (PV.int IntKind.i64 (↑n + 1)))
     have hilt := @J9g (cntE c k) (AV.agg [AV.p (PV.int IntKind.i64 g), AV.p (PV.str (Jgt p.kind)), AV.p (PV.int IntKind.i64 0)]) (.p (.int .i64 0))
     rw [<- hnx] at hput
     have hr2 : List.range 2 = [0, 1] := rfl
     simp [hat, hhit, hw, hput, hilt, hat', htl, hr2, -getElem?_pos, List.getElem?_cons_zero, List.getElem?_cons_succ]
     refine ⟨.of (by kernel_rfl), ⟨?_, ?_⟩, by omega, wrap_i64 (by omega) (by omega), k + 1, by omega, by omega, ?_⟩
     . rw [Kae ⟨_, _, _, rfl⟩]; trivial
     . rw [J7j, hat]
       by_cases hn0 : n = 0 <;> simp [hit, hn0]
     rw [hls]
     simp [htl, hgl]
   . simp at h3
     have hk2 : k = c.parts.length := by omega
     subst hk2
     rw [show Je2 c c.parts.length = Je1 c from rfl]
     simp [Jaa, h]
 . simp [h, Jaa]
end Go.Am
