/- Lemmas and contracts for the proof of a statement of this seat. -/
import Derived.Test.YthojegdboknbbaaGreatDoorZY5
set_option linter.unusedVariables false
set_option linter.unusedSimpArgs false
namespace Go.Am
open Go Go.Proofs Go.Pn
theorem Jpv {c : Ctl} {s : Sta} {j : Nat} {x : Sig} (h : c.sigs[j]? = some x) : gatesT c s (j + 1) = Jdg x j (gatesT c s j) := by
 rw [gatesT, h]
theorem Jfn {c : Ctl} {s : Sta} : ∀ j : Nat, (gatesT c s j).ends = s.ends /\ (gatesT c s j).inputs = s.inputs /\ (gatesT c s j).valves = s.valves /\ (gatesT c s j).timers = s.timers
 | 0 => ⟨rfl, rfl, rfl, rfl⟩
 | j + 1 => by
   have ih := @Jfn c s j
   unfold gatesT
   split
   . exact ih
   . rename_i x _
     unfold Jdg
     split
     . exact ih
     . exact ih
theorem Jps {x : Sig} {j : Nat} {t : Sta} (h : ¬ x.kind = 0) : Jdg x j t = t := if_neg h
theorem Jpt {x : Sig} {j : Nat} {t : Sta} (h : x.kind = 0) : (Jdg x j t).values = t.values.set j (evX (lnF t) x.on) := by rw [Jdg, if_pos h]
theorem Jpr {x : Sig} {j : Nat} {t : Sta} (h : x.kind = 0) : Jax (Jdg x j t) = (Jax t).set (2 * t.ends.length + t.inputs.length + j) (evX (lnF t) x.on) := by rw [Jdg, if_pos h, Jy7]
theorem Jis {t : Sta} : vsF (Jax t) = lnF t := rfl
set_option maxHeartbeats 2000000 in
set_option maxRecDepth 20000 in
theorem Juw (c : Ctl) (s : Sta) (h : RS c s) (hc : RC c) (hL : Lg c) : Pure Tryz.prog GL 41 [c.av, s.av] ((Jbn c s).av) := by
 refine Pure.of_walk (N := 61) Tryz.func41 rfl rfl rfl (by simp) (by first | (simp; done) | simp [*]) ?_
 have hS := hc.sm hL
 have hF := Jh1 c hS
 have hsg := fun i x hx => hc.sigOk (i := i) (x := x) hS hx
 have hsm := h.small hc
 have hV := fun st nx => Jx8 s hsm st nx
 have hact := h.act
 have hvl := h.values
 have hin := h.inputs
 obtain ⟨k1, k2, k3, k4, k5⟩ := hsm
 obtain ⟨a1, a2, a3⟩ := hc.act
 have hi16 := hc.inputs
 have hs64 := hc.sigs
 have hfn : fstN c = 2 * s.ends.length + s.inputs.length := by unfold fstN; omega
 have hcn : cntN c = fstN c + c.sigs.length := rfl
 simp only [Ctl.av] at hF
 simp
 refine Jaf.intro (by kernel_rfl) ?_
 simp
 refine Jag (Jfm s.ends _ _ (by omega)) ?_
 simp
 refine Jag (Jdw s.valves _ _ (by omega)) ?_
 simp
 refine Jag (Jdw s.inputs _ _ (by omega)) ?_
 simp
 refine Jag (Jdw s.values _ _ (by omega)) ?_
 simp
 refine Jag (Jfm s.timers _ _ (by omega)) ?_
 simp
 refine ⟨.of (by kernel_rfl), ?_⟩
 refine Jhr ?_
 simp
 refine ⟨_, _, _, hV [] _, rfl, Jcv.acc .nil fun _ => rfl, ?_⟩
 simp
 refine Jai.go [2, 4, 5, 6, 30, 31] [0, 1, 2, 3, 4, 5, 7, 8] 0 [] (fun _ => []) (fun _ (j : Nat) => [(32, .p (.int .i64 j))]) (fun _ j => [(6, accB 1 ((gatesT c s j).values.map Bool.row)), (9, accB 1 ((Jax (gatesT c s j)).map Bool.row))]) (fun j => j <= c.sigs.length) (fun j => c.sigs.length - j) 0 (by omega) ?_ ?_
 . simp [gatesT]
   decide
 intro j hj
 simp
 refine Jan (fun h3 => ?_) (fun h3 => ?_)
 . simp at h3
   obtain ⟨x, e⟩ := Jae h3
   have hx := hsg j x e
   have hsn := Jpv (s := s) e
   obtain ⟨r1, r2, r3, r4⟩ := Jfn (c := c) (s := s) j
   have hRS := h.gatesT j
   have hvj := hRS.values
   have hll := @Jg6 (gatesT c s j)
   have hl0 := @Jg6 s
   rw [r1, r2, hvj] at hll
   rw [hvl] at hl0
   have hle : (Jax (gatesT c s j)).length = (Jax s).length := by omega
   generalize gatesT c s j = t at *
   by_cases k0 : x.kind = 0
   . have hE := Juq x.on (Jax t) (by omega) (by rw [hll, <- hfn, <- hcn]; exact hx.on)
     rw [Jis] at hE
     have g1 := Jpt (j := j) (t := t) k0
     have g2 := Jpr (j := j) (t := t) k0
     rw [<- hsn] at g1 g2
     simp [h3, e, k0, -getElem?_pos, List.getElem?_cons_zero, List.getElem?_cons_succ]
     refine Jc4 ?_
     simp [hle]
     refine ⟨_, hE, rfl, ?_⟩
     simp
     refine Jaf.intro (by kernel_rfl) ?_
     simp
     refine Jab hF ?_
     obtain ⟨v0, e0⟩ := Jae (xs := t.values) (k := j) (by omega)
     obtain ⟨v1, e1⟩ := Jae (xs := Jax t) (k := fstN c + j) (by omega)
     have n0 : ¬ t.values = [] := fun h => by rw [h] at e0; cases e0
     have n1 : ¬ Jax t = [] := fun h => by rw [h] at e1; cases e1
     have j1 : j < s.values.length := by omega
     have hidx : ((fstN c : Int) + (j : Int)).toNat = fstN c + j := by omega
     have m0 : (t.values.map Bool.row).set j [.p (.bool (evX (lnF t) x.on))] = (gatesT c s (j + 1)).values.map Bool.row := by rw [g1, List.map_set]
     have m1 : ((Jax t).map Bool.row).set (fstN c + j) [.p (.bool (evX (lnF t) x.on))] = (Jax (gatesT c s (j + 1))).map Bool.row := by rw [g2, List.map_set, r1, r2, <- hfn]
     simp [e0, e1, n0, n1, j1, hidx, m0, m1, -getElem?_pos, List.getElem?_cons_zero, List.getElem?_cons_succ]
     have q0 := @Jat _ 1 (gatesT c s (j + 1)).values Bool.row (by rw [g1]; intro h; exact n0 (by simpa using h))
     have q1 := @Jat _ 1 (Jax (gatesT c s (j + 1))) Bool.row (by rw [g2]; intro h; exact n1 (by simpa using h))
     refine ⟨wrap_i64 (by omega) (by omega), by omega, by omega, .of (by kernel_rfl), wrap_i64 (by omega) (by omega), j + 1, by omega, by omega, ⟨by omega, rfl, rfl, rfl, rfl⟩, ?_⟩
     rw [q0, q1]
     simp [Jak, Jal]
     decide
   . have g0 := Jps (j := j) (t := t) k0
     rw [<- hsn] at g0
     simp [h3, e, k0, -getElem?_pos, List.getElem?_cons_zero, List.getElem?_cons_succ]
     refine ⟨wrap_i64 (by omega) (by omega), j + 1, by omega, by omega, ⟨by omega, rfl, rfl, rfl, rfl⟩, ?_⟩
     rw [g0]
     simp [Jak, Jal]
     decide
 . simp at h3
   have hjl : j = c.sigs.length := by omega
   subst hjl
   rw [show Jbn c s = gatesT c s c.sigs.length from rfl]
   obtain ⟨r1, r2, r3, r4⟩ := Jfn (c := c) (s := s) c.sigs.length
   have hvj := (h.gatesT c.sigs.length).values
   have hvj : (gatesT c s c.sigs.length).values.length = s.values.length := by rw [hvj, hvl]
   generalize gatesT c s c.sigs.length = t at *
   simp [Jaa, r1, r2, r3, r4, hvj]
def zeroS (c : Ctl) : Sta := ⟨List.replicate (actN c) 0, List.replicate (actN c) false, List.replicate c.inputs.length false, c.sigs.map (·.init), List.replicate c.sigs.length 0⟩
theorem Jtl {c : Ctl} (hc : RC c) : RS c (zeroS c) := by
 obtain ⟨a1, a2, a3⟩ := hc.act
 refine ⟨by unfold zeroS; simpa using a1, by simp [zeroS], by simp [zeroS], by simp [zeroS], by simp [zeroS], fun e he => ?_, fun e he => ?_, fun i x hx => ?_⟩
 . have := List.eq_of_mem_replicate he; omega
 . have := List.eq_of_mem_replicate he; omega
 . have hi := (gsI.1 hx).1
   have ht : (zeroS c).timers.getD i 0 = 0 := by
     unfold zeroS
     simp [List.getD_eq_getElem?_getD, List.getElem?_replicate, hi]
   by_cases k2 : x.kind = 2
   . rw [if_pos k2, ht]
     have hz := (Jmm (hc.sig i x hx)).2.2.2.2.2.2.1 (by omega)
     have hv : (zeroS c).values.getD i false = x.init := by
       unfold zeroS
       rw [List.getD_eq_getElem?_getD, List.getElem?_map, hx]; rfl
     rw [hv, hz.2]; rfl
   . rw [if_neg k2, ht]
def Jch (c : Ctl) : Sta := Jbn c (zeroS c)
theorem Jid {c : Ctl} (hc : RC c) : RS c (Jch c) := (Jtl hc).gates
def Jcs (c : Ctl) (k : Nat) : List Bool := (c.sigs.map (·.init)).take k ++ List.replicate (c.sigs.length - k) false
theorem Jyh {c : Ctl} : Jcs c 0 = List.replicate c.sigs.length false := by unfold Jcs; simp
theorem Jye {c : Ctl} : Jcs c c.sigs.length = c.sigs.map (·.init) := by
 unfold Jcs
 rw [List.take_of_length_le (by simp)]
 simp
theorem Jyf {c : Ctl} {k : Nat} (h : k <= c.sigs.length) : (Jcs c k).length = c.sigs.length := by
 unfold Jcs
 rw [List.length_append, List.length_take, List.length_map, List.length_replicate]
 omega
theorem Jyg {c : Ctl} {k : Nat} {x : Sig} (e : c.sigs[k]? = some x) : Jcs c (k + 1) = (Jcs c k).set k x.init := by
 have hk := (gsI.1 e).1
 have e2 : (c.sigs.map (·.init))[k]? = some x.init := by rw [List.getElem?_map, e]; rfl
 have hl : ((c.sigs.map (·.init)).take k).length = k := by rw [List.length_take, List.length_map]; omega
 unfold Jcs
 rw [take_snoc e2, List.set_append_right _ _ (by omega), hl, Nat.sub_self, show c.sigs.length - k = (c.sigs.length - (k + 1)) + 1 by omega, List.replicate_succ, List.set_cons_zero, List.append_assoc]; rfl
set_option maxHeartbeats 2000000 in
set_option maxRecDepth 20000 in
theorem Jof (c : Ctl) (hc : RC c) (hL : Lg c) : Pure Tryz.prog GL 20 [c.av] (.tup [(Jch c).av, .p (.int .i64 0)]) := by
 refine Pure.of_walk (N := 51) Tryz.func20 rfl rfl rfl (by simp) (by first | (simp; done) | simp [*]) ?_
 have hC := Jog c hc hL
 have hG := Juw c (zeroS c) (Jtl hc) hc hL
 obtain ⟨a1, a2, a3⟩ := hc.act
 have hi16 := hc.inputs
 have hs64 := hc.sigs
 have hneg : ¬ c.act < 0 := by omega
 have hact : c.act.toNat = actN c := rfl
 simp
 refine Jab hC ?_
 simp
 refine Jaf.intro (by kernel_rfl) ?_
 simp
 refine ⟨by omega, by omega, by omega, by omega, by omega, by omega, by omega, by omega, by omega, by omega, by omega, by omega, .of (by kernel_rfl), ?_⟩
 refine Jai.go [1, 2, 6, 34, 35] [0, 1, 2, 3, 4, 6, 7] 0 [] (fun _ => []) (fun _ (j : Nat) => [(36, .p (.int .i64 j))]) (fun _ j => [(5, some (.cells 1 ((Jcs c j).map Bool.row)))]) (fun j => j <= c.sigs.length) (fun j => c.sigs.length - j) 0 (by omega) ?_ ?_
 . simp [Jyh]
   try decide
 intro j hj
 simp
 refine Jan (fun h3 => ?_) (fun h3 => ?_)
 . simp at h3
   obtain ⟨x, e⟩ := Jae h3
   have hl := Jyf (c := c) (k := j) (by omega)
   have m0 : ((Jcs c j).map Bool.row).set j [.p (.bool x.init)] = (Jcs c (j + 1)).map Bool.row := by rw [Jyg e, List.map_set]
   obtain ⟨v, ev⟩ := Jae (xs := Jcs c j) (k := j) (by omega)
   simp [h3, e, hl, ev, m0, -getElem?_pos, List.getElem?_cons_zero, List.getElem?_cons_succ]
   refine ⟨wrap_i64 (by omega) (by omega), j + 1, by omega, by omega, ?_⟩
   simp
   decide
 . simp at h3
   have hjl : j = c.sigs.length := by omega
   subst hjl
   rw [Jye]
   have hVl : (c.sigs.map (·.init)).length = c.sigs.length := List.length_map ..
   rw [show Jch c = Jbn c (zeroS c) from rfl]
   generalize Jbn c (zeroS c) = G at hG ⊢
   simp only [zeroS, Sta.av, Ctl.av, List.map_replicate] at hG
   generalize c.sigs.map (·.init) = V at *
   simp
   refine Jdn ?_
   have htk : List.take c.sigs.length (V.map Bool.row) = V.map Bool.row := List.take_of_length_le (by rw [List.length_map]; omega)
   simp [hVl, hact, htk]
   have hbf : Bool.enc false = [PV.bool false] := rfl
   simp [hbf] at hG
   refine ⟨_, hG, ?_⟩
   simp [Jaa]
end Go.Am
namespace Go.Am
open Go Go.Proofs Go.Pn
def cat3 (A B C : List Bool) : Nat -> List Bool
 | 0 => []
 | 1 => A
 | 2 => A ++ B
 | _ => A ++ (B ++ C)
def Je2 (a b c la lb lc : Nat) : ABlk := .cells 1 [[.acc a 1 la], [.acc b 1 lb], [.acc c 1 lc]]
def conS (A B C : List Bool) : Store := [(0, some (Je2 1 2 3 A.length B.length C.length)), (1, accB 1 (A.map Bool.row)), (2, accB 1 (B.map Bool.row)), (3, accB 1 (C.map Bool.row))]
theorem Jdy {ρ : List Nat} {b : Nat} {s : Store} {L : List Bool} (g : get s b = accB 1 (L.map Bool.row)) : (match accB 1 (L.map Bool.row) with
   | some y => Jaj (renB ρ y) fun y' => get s b = some y'
   | none => True) := by
 by_cases e : L = []
 . subst e; exact trivial
 . have e1 : accB 1 (L.map Bool.row) = some (.cells 1 (L.map Bool.row)) := Jat e
   have e3 : renB ρ (.cells 1 (L.map Bool.row)) = some (.cells 1 (L.map Bool.row)) := by show (renR _ _).map _ = _; rw [Jao fun x => rfl]; rfl
   rw [e1] at g ⊢
   simp [-renB, e3, g]
theorem Jir {ρ : List Nat} {b : Nat} {s : Store} {L : List Nat} (g : get s b = accB 1 (L.map nrow)) : (match accB 1 (L.map nrow) with
   | some y => Jaj (renB ρ y) fun y' => get s b = some y'
   | none => True) := by
 by_cases e : L = []
 . subst e; exact trivial
 . have e1 : accB 1 (L.map nrow) = some (.cells 1 (L.map nrow)) := Jat e
   have e3 : renB ρ (.cells 1 (L.map nrow)) = some (.cells 1 (L.map nrow)) := by show (renR _ _).map _ = _; rw [Jao fun x => rfl]; rfl
   rw [e1] at g ⊢
   simp [-renB, e3, g]
theorem Jwf {A B C : List Bool} {st : Store} {nx r a b c : Nat} {args args' : List AV} (hnd : [r, a, b, c].Nodup) (hlt : ∀ x ∈ [r, a, b, c], x < nx) (g0 : get st r = some (Je2 a b c A.length B.length C.length)) (g1 : get st a = accB 1 (A.map Bool.row)) (g2 : get st b = accB 1 (B.map Bool.row)) (g3 : get st c = accB 1 (C.map Bool.row)) (ha : renL [r, a, b, c] args = some args') :
   Jcq [r, a, b, c] nx (conS A B C) st args args' := by
 have r0 : renB [r, a, b, c] (Je2 1 2 3 A.length B.length C.length) = some (Je2 a b c A.length B.length C.length) := rfl
 refine ⟨?_, fun i i' hi hg => ?_, hnd, hlt, ha⟩
 . simp [-renB, conS, Jc0, g0, r0]
   exact ⟨Jdy g1, Jdy g2, Jdy g3⟩
 . match i, hi with
   | 0, _ => exact ⟨_, rfl⟩
   | 1, hi => simp at hi; subst hi; rw [g1] at hg; exact Option.ne_none_iff_exists'.1 hg
   | 2, hi => simp at hi; subst hi; rw [g2] at hg; exact Option.ne_none_iff_exists'.1 hg
   | 3, hi => simp at hi; subst hi; rw [g3] at hg; exact Option.ne_none_iff_exists'.1 hg
set_option maxHeartbeats 2000000 in
set_option maxRecDepth 20000 in
theorem Jxb (A B C : List Bool) (hA : A ≠ []) (ha : A.length <= 1000) (hb : B.length <= 1000) (hc : C.length <= 1000) (cap : Option Nat) (st : Store) (nx r a b c : Nat) (hnd : [r, a, b, c].Nodup) (hlt : ∀ x ∈ [r, a, b, c], x < nx) (g0 : get st r = some (Je2 a b c A.length B.length C.length)) (g1 : get st a = accB 1 (A.map Bool.row)) (g2 : get st b = accB 1 (B.map Bool.row)) (g3 : get st c = accB 1 (C.map Bool.row)) :
   Gives Tryz.prog GL 153 [.ref r 1 0 3 cap] st nx (.acc nx 1 (A ++ (B ++ C)).length) [r, a, b, c] [(nx, accB 1 ((A ++ (B ++ C)).map Bool.row))] (nx + 1) := by
 have hla : 0 < A.length := List.length_pos_iff.2 hA
 refine Gives.mk_walkA (N := 36) (args := [.ref 0 1 0 3 cap]) [r, a, b, c] [] (conS A B C) [(4, accB 1 ((A ++ (B ++ C)).map Bool.row))] 4 1 (.acc 4 1 (A ++ (B ++ C)).length) (nms [2]) (up1 := [(nx, accB 1 ((A ++ (B ++ C)).map Bool.row))]) Tryz.func153 rfl rfl rfl (by simp) rfl (Jwf hnd hlt g0 g1 g2 g3 rfl) (by simp) rfl (Jay rfl (Jao fun _ => rfl)) (by simp) rfl ?_
 simp [conS, Je2]
 refine Jai.go [0, 9, 10] [0, 1, 2, 3] 0 [] (fun _ => []) (fun _ (k : Nat) => [(3, .p (.int .i64 (cat3 A B C k).length)), (11, .p (.int .i64 k))]) (fun _ _ => []) (fun k => k <= 3) (fun k => 3 - k) 0 (by omega) ?_ ?_
 . simp [cat3, Jak]
   try decide
 intro k hk
 rcases (by omega : k = 0 \/ k = 1 \/ k = 2 \/ k = 3) with rfl | rfl | rfl | rfl
 . simp [cat3]
   have h1 : ¬ ((A.length : Int) < 0) := by omega
   simp [h1]
   exact ⟨wrap_i64 (by omega) (by omega), 1, by omega, by omega, ⟨rfl, rfl⟩, by decide⟩
 . have h1 : ¬ ((A.length : Int) + B.length < 0) := by omega
   simp [cat3, h1]
   exact ⟨wrap_i64 (by omega) (by omega), 2, by omega, by omega, ⟨by simp [cat3], rfl⟩, by decide⟩
 . have h1 : ¬ ((A.length : Int) + B.length + C.length < 0) := by omega
   simp [cat3, h1]
   refine ⟨wrap_i64 (by omega) (by omega), 3, by omega, by omega, ⟨?_, rfl⟩, by decide⟩
   show _ = (((A ++ (B ++ C)).length : Nat) : Int)
   rw [List.length_append, List.length_append]; omega
 . have hc3 : cat3 A B C 3 = A ++ (B ++ C) := rfl
   have hl3 : (A ++ (B ++ C)).length = A.length + (B.length + C.length) := by rw [List.length_append, List.length_append]
   rw [hc3]
   simp
   have hG := fun st nx => Jxc (A ++ (B ++ C)).length st nx (by omega) (by omega)
   simp only [List.length_append, Int.natCast_add] at hG
   refine Jag (hG _ _) ?_
   simp
   refine Jai.gor [25, 26] [0, 1, 2, 3] [0, 1, 2, 3, 4] (fun st => [0, 1, 2, 3, nameOf (slot st.t 6)]) (fun (k : Nat) => [(6, .ref 4 1 0 (cat3 A B C k).length none), (27, .p (.int .i64 k))]) (fun k => [(4, some (.cells 1 (if k = 0 then List.replicate (A.length + (B.length + C.length)) [.p (.bool false)] else (cat3 A B C k).map Bool.row)))]) (fun k => k <= 3) (fun k => 3 - k) 0 (by omega) ?_ ?_
   . simp [cat3, Jak]
     rfl
   intro k hk
   rcases (by omega : k = 0 \/ k = 1 \/ k = 2 \/ k = 3) with rfl | rfl | rfl | rfl
   . simp [cat3]
     refine ⟨by omega, 1, by omega, by omega, ⟨rfl, rfl⟩, ?_, rfl⟩
     simp
   . simp [cat3]
     refine ⟨by omega, 2, by omega, by omega, ⟨by simp, rfl⟩, ?_, rfl⟩
     simp
   . simp [cat3]
     refine ⟨by omega, 3, by omega, by omega, ⟨by simp; omega, rfl⟩, ?_, rfl⟩
     simp
     rw [List.take_of_length_le (by simp), List.append_assoc]
     exact Jc3 _
   . have hne : A ++ (B ++ C) ≠ [] := by simp [hA]
     have em : A.map Bool.row ++ (B.map Bool.row ++ C.map Bool.row) = (A ++ (B ++ C)).map Bool.row := by simp
     simp [cat3]
     rw [em, Jat hne]
     refine ⟨by omega, ⟨?_, ?_⟩, by decide⟩
     . show Jaj (Option.map (ABlk.cells 1) (renR _ _)) _
       rw [Jao fun _ => rfl]; rfl
     . simp [conS, Je2]
       exact ⟨Jam, Jam, Jam⟩
end Go.Am
namespace Go.Am
open Go Go.Proofs Go.Pn
def Ja0 (c : Ctl) (s : Sta) (a b i v t : Nat) : ABlk := .cells 11 [[.p (.int .i64 c.act), .p (.lst 1 (c.inputs.map Txt.enc)), .p (.lst 10 (c.sigs.map Sig.enc)), .p (.lst 1 (c.plus.map Int.enc)), .p (.lst 1 (c.minus.map Int.enc)),
 .acc a 1 s.ends.length, .acc b 1 s.valves.length, .acc i 1 s.inputs.length, .acc v 1 s.values.length, .acc t 1 s.timers.length, .p (.int .i64 (fstN c))]]
theorem Jiu {c : Ctl} {s u : Sta} {a b i v t : Nat} (h1 : RS c s) (h2 : RS c u) : Ja0 c s a b i v t = Ja0 c u a b i v t := by
 have e1 : s.ends.length = u.ends.length := by have := h1.act; have := h2.act; omega
 unfold Ja0
 rw [e1, h1.valves, h2.valves, h1.inputs, h2.inputs, h1.values, h2.values, h1.timers, h2.timers, e1]
def Jbl (c : Ctl) (s : Sta) : Store := [(0, accB 1 (s.ends.map nrow)), (1, accB 1 (s.valves.map Bool.row)), (2, accB 1 (s.inputs.map Bool.row)), (3, accB 1 (s.values.map Bool.row)), (4, accB 1 (s.timers.map nrow)), (5, some (Ja0 c s 0 1 2 3 4))]
structure MachAt (c : Ctl) (s : Sta) (st : Store) (nx a b i v t m : Nat) : Prop where
 nd : [a, b, i, v, t, m].Nodup
 lt : ∀ x ∈ [a, b, i, v, t, m], x < nx
 ga : get st a = accB 1 (s.ends.map nrow)
 gb : get st b = accB 1 (s.valves.map Bool.row)
 gi : get st i = accB 1 (s.inputs.map Bool.row)
 gv : get st v = accB 1 (s.values.map Bool.row)
 gt : get st t = accB 1 (s.timers.map nrow)
 gm : get st m = some (Ja0 c s a b i v t)
theorem Jfx {c : Ctl} {s : Sta} {st : Store} {nx a b i v t m : Nat} {args args' : List AV} (h : MachAt c s st nx a b i v t m) (ha : renL [a, b, i, v, t, m] args = some args') : Jcq [a, b, i, v, t, m] nx (Jbl c s) st args args' := by
 have r0 : renB [a, b, i, v, t, m] (Ja0 c s 0 1 2 3 4) = some (Ja0 c s a b i v t) := rfl
 refine ⟨?_, fun k k' hk hg => ?_, h.nd, h.lt, ha⟩
 . simp [-renB, Jbl, Jc0, h.gm, r0]
   exact ⟨Jir h.ga, Jdy h.gb, Jdy h.gi, Jdy h.gv, Jir h.gt⟩
 . match k, hk with
   | 0, hk => simp at hk; subst hk; rw [h.ga] at hg; exact Option.ne_none_iff_exists'.1 hg
   | 1, hk => simp at hk; subst hk; rw [h.gb] at hg; exact Option.ne_none_iff_exists'.1 hg
   | 2, hk => simp at hk; subst hk; rw [h.gi] at hg; exact Option.ne_none_iff_exists'.1 hg
   | 3, hk => simp at hk; subst hk; rw [h.gv] at hg; exact Option.ne_none_iff_exists'.1 hg
   | 4, hk => simp at hk; subst hk; rw [h.gt] at hg; exact Option.ne_none_iff_exists'.1 hg
   | 5, _ => exact ⟨_, rfl⟩
set_option maxHeartbeats 2000000 in
set_option maxRecDepth 20000 in
theorem Jpo (c : Ctl) (s : Sta) (h : RS c s) (hc : RC c) (st : Store) (nx a b i v t m : Nat) (hM : MachAt c s st nx a b i v t m) :
   Gives Tryz.prog GL 143 [.ptr m 11 0 0] st nx (.acc nx 1 (Jax s).length) [a, b, i, v, t, m] [(nx, accB 1 ((Jax s).map Bool.row))] (nx + 1) := by
 have hsm := h.small hc
 obtain ⟨k1, k2, k3, k4, k5⟩ := hsm
 have hact := h.act
 obtain ⟨a1, a2, a3⟩ := hc.act
 have hen : s.ends ≠ [] := fun e => by rw [e] at hact; simp at hact; omega
 refine Gives.mk_walkA (N := 37) (args := [.ptr 5 11 0 0]) [a, b, i, v, t, m] [] (Jbl c s) [(6, accB 1 ((Jax s).map Bool.row))] 6 1 (.acc 6 1 (Jax s).length) (nms [2]) (up1 := [(nx, accB 1 ((Jax s).map Bool.row))]) Tryz.func143 rfl rfl rfl (by simp) rfl (Jfx hM rfl) (by simp) rfl (Jay rfl (Jao fun _ => rfl)) (by simp) rfl ?_
 rw [Jqm]
 simp [Jbl, Ja0]
 refine Jai.go [0, 10, 11] [0, 1, 2, 3, 4, 5] 1 [6] (nms [3]) (fun nx (k : Nat) => [(3, .acc nx 1 (endB s k).length), (12, .p (.int .i64 k))]) (fun nx k => [(nx, accB 1 ((endB s k).map Bool.row))]) (fun k => k <= s.ends.length) (fun k => s.ends.length - k) 0 (by omega) ?_ ?_
 . simp [Jo6, Jak, Jal]
   decide
 intro k hk
 have hle := @Jo4 s k
 simp
 refine Jan (fun h => ?_) (fun h => ?_)
 . simp at h
   obtain ⟨e, he⟩ := Jae h
   have hsn := Jo5 he
   simp [h, he, hen, -getElem?_pos, List.getElem?_cons_zero, List.getElem?_cons_succ]
   have hd : decide ((e : Int) = 2) = decide (e = 2) := decide_eq_decide.2 (by omega)
   have em : (endB s k).map Bool.row ++ [[AV.p (PV.bool (decide (e = 0)))], [AV.p (PV.bool (decide ((e : Int) = 2)))]] = (endB s (k + 1)).map Bool.row := by rw [hsn, hd, List.map_append]; rfl
   rw [em]
   have hl2 : (endB s (k + 1)).length = (endB s k).length + 2 := by rw [hsn, List.length_append]; rfl
   refine ⟨by omega, wrap_i64 (by omega) (by omega), k + 1, by omega, by omega, ?_⟩
   simp [Jak, Jal, hl2]
   decide
 . simp at h
   have hkl : k = s.ends.length := by omega
   subst hkl
   have hEl : (endB s s.ends.length) ≠ [] := fun e => by
     have h1 : (endB s s.ends.length).length = 2 * s.ends.length := by unfold endB; rw [List.take_length, Jd3]
     rw [e, List.length_nil] at h1; exact hen (List.length_eq_zero_iff.1 (by omega))
   generalize endB s s.ends.length = L at *
   simp
   refine Jaf.intro (by kernel_rfl) ?_
   simp
   refine Jag (Jxb L s.inputs s.values hEl (by omega) (by omega) (by omega) _ _ _ 7 6 2 3 (by decide) (by decide) rfl rfl rfl rfl) ?_
   have em : L.map Bool.row ++ (s.inputs.map Bool.row ++ s.values.map Bool.row) = (L ++ (s.inputs ++ s.values)).map Bool.row := by simp
   simp
   rw [em]
   refine ⟨.of (by kernel_rfl), ⟨Jam, ?_⟩, by decide⟩
   simp [Jbl, Ja0]
   exact ⟨Jaw, Jam, Jam, Jam, Jaw⟩
end Go.Am
namespace Go.Am
open Go Go.Proofs Go.Pn
set_option maxHeartbeats 2000000 in
set_option maxRecDepth 20000 in
theorem Jx1 (c : Ctl) (s : Sta) (h : RS c s) (hc : RC c) (hL : Lg c) (st : Store) (nx a b i v t m : Nat) (hM : MachAt c s st nx a b i v t m) :
   Gives Tryz.prog GL 142 [.ptr m 11 0 0] st nx (.tup []) [a, b, i, v, t, m] [(v, accB 1 ((Jbn c s).values.map Bool.row))] nx := by
 have hS := hc.sm hL
 have hsg := fun i x hx => hc.sigOk (i := i) (x := x) hS hx
 have hsm := h.small hc
 have hact := h.act
 have hvl := h.values
 have hin := h.inputs
 obtain ⟨k1, k2, k3, k4, k5⟩ := hsm
 obtain ⟨a1, a2, a3⟩ := hc.act
 have hi16 := hc.inputs
 have hs64 := hc.sigs
 have hfn : fstN c = 2 * s.ends.length + s.inputs.length := by unfold fstN; omega
 have hcn : cntN c = fstN c + c.sigs.length := rfl
 refine Gives.mk_walkA (N := 44) (args := [.ptr 5 11 0 0]) [a, b, i, v, t, m] [] (Jbl c s) [(3, accB 1 ((Jbn c s).values.map Bool.row))] 6 0 (.tup []) (fun _ => []) (up1 := [(v, accB 1 ((Jbn c s).values.map Bool.row))]) Tryz.func142 rfl rfl rfl (by simp) rfl (Jfx hM rfl) (by simp) rfl (Jay rfl (Jao fun _ => rfl)) (by simp) rfl ?_
 have hLn := fun st nx hM => Jpo c s h hc st nx 0 1 2 3 4 5 hM
 simp [Jbl, Ja0]
 refine Jag (hLn _ _ ⟨by decide, by decide, rfl, rfl, rfl, rfl, rfl, rfl⟩) ?_
 simp
 refine Jai.go [0, 2, 12, 13] [0, 1, 2, 4, 5] 0 [] (fun _ => []) (fun _ (j : Nat) => [(14, .p (.int .i64 j))]) (fun _ j => [(3, accB 1 ((gatesT c s j).values.map Bool.row)), (6, accB 1 ((Jax (gatesT c s j)).map Bool.row))]) (fun j => j <= c.sigs.length) (fun j => c.sigs.length - j) 0 (by omega) ?_ ?_
 . simp [gatesT, Jak, Jal]
   decide
 intro j hj
 simp
 refine Jan (fun h3 => ?_) (fun h3 => ?_)
 . simp at h3
   obtain ⟨x, e⟩ := Jae h3
   have hx := hsg j x e
   have hsn := Jpv (s := s) e
   obtain ⟨r1, r2, r3, r4⟩ := Jfn (c := c) (s := s) j
   have hRS := h.gatesT j
   have hvj := hRS.values
   have hll := @Jg6 (gatesT c s j)
   have hl0 := @Jg6 s
   rw [r1, r2, hvj] at hll
   rw [hvl] at hl0
   have hle : (Jax (gatesT c s j)).length = (Jax s).length := by omega
   generalize gatesT c s j = t at *
   by_cases k0 : x.kind = 0
   . have hE := Jkl (Jax t) (by omega) x.on hx.on.ok (by rw [hll, <- hfn, <- hcn]; exact hx.on.nods)
     rw [Jis] at hE
     have g1 := Jpt (j := j) (t := t) k0
     have g2 := Jpr (j := j) (t := t) k0
     rw [<- hsn] at g1 g2
     obtain ⟨v0, e0⟩ := Jae (xs := t.values) (k := j) (by omega)
     obtain ⟨v1, e1⟩ := Jae (xs := Jax t) (k := fstN c + j) (by omega)
     have n0 : ¬ t.values = [] := fun h => by rw [h] at e0; cases e0
     have n1 : ¬ Jax t = [] := fun h => by rw [h] at e1; cases e1
     have j1 : j < s.values.length := by omega
     have hidx : ((fstN c : Int) + (j : Int)).toNat = fstN c + j := by omega
     have m0 : (t.values.map Bool.row).set j [.p (.bool (evX (lnF t) x.on))] = (gatesT c s (j + 1)).values.map Bool.row := by rw [g1, List.map_set]
     have m1 : ((Jax t).map Bool.row).set (fstN c + j) [.p (.bool (evX (lnF t) x.on))] = (Jax (gatesT c s (j + 1))).map Bool.row := by rw [g2, List.map_set, r1, r2, <- hfn]
     have q0 := @Jat _ 1 (gatesT c s (j + 1)).values Bool.row (by rw [g1]; intro h; exact n0 (by simpa using h))
     have q1 := @Jat _ 1 (Jax (gatesT c s (j + 1))) Bool.row (by rw [g2]; intro h; exact n1 (by simpa using h))
     simp [h3, e, k0, -getElem?_pos, List.getElem?_cons_zero, List.getElem?_cons_succ]
     refine Jc4 ?_
     simp [hle]
     refine ⟨_, hE, rfl, ?_⟩
     refine Jaf.intro (by kernel_rfl) ?_
     simp [e0, e1, n0, n1, j1, hidx, m0, m1, -getElem?_pos, List.getElem?_cons_zero, List.getElem?_cons_succ]
     refine ⟨wrap_i64 (by omega) (by omega), by omega, by omega, .of (by kernel_rfl), wrap_i64 (by omega) (by omega), j + 1, by omega, by omega, ⟨by omega, rfl, rfl⟩, ?_⟩
     rw [q0, q1]
     simp [Jak, Jal]
     decide
   . have g0 := Jps (j := j) (t := t) k0
     rw [<- hsn] at g0
     simp [h3, e, k0, -getElem?_pos, List.getElem?_cons_zero, List.getElem?_cons_succ]
     refine ⟨wrap_i64 (by omega) (by omega), j + 1, by omega, by omega, ⟨by omega, rfl, rfl⟩, ?_⟩
     rw [g0]
     simp [Jak, Jal]
     decide
 . simp at h3
   have hjl : j = c.sigs.length := by omega
   subst hjl
   rw [show Jbn c s = gatesT c s c.sigs.length from rfl]
   simp
   refine ⟨Jam, ?_⟩
   simp [Jbl, Ja0]
   exact ⟨Jaw, Jam, Jam, Jaw⟩
@[simp] def Chg.av (y : Chg) : AV := .agg [.p (.bool y.val), .p (.int .i64 y.tim), .p (.bool y.con)]
theorem J1z {v p q : Bool} {t : Nat} : Jb0 0 v t p q = ⟨v, t, false⟩ := rfl
theorem J10 {v p q : Bool} {t : Nat} : Jb0 1 v t p q = ⟨if p ≠ q then p else v, t, p && q⟩ := rfl
theorem rule2 {v p q : Bool} {t : Nat} : Jb0 2 v t p q = if p = false then ⟨false, 0, false⟩ else if t = 0 then ⟨v, 1, false⟩ else ⟨v, t, false⟩ := rfl
theorem Jvu (v : Bool) (t : Nat) (p q : Bool) : Pure Tryz.prog GL 154 [.agg [.p (.bool v), .p (.int .i64 t), .p (.bool false)], .p (.bool p), .p (.bool q)] ((Jb0 0 v t p q).av) := by
 refine Pure.of_walk (N := 8) Tryz.func154 rfl rfl rfl (by simp) (by first | (simp; done) | simp [*]) ?_
 rw [J1z]
 simp [Jaa]
theorem Jvv (v : Bool) (t : Nat) (p q : Bool) : Pure Tryz.prog GL 155 [.agg [.p (.bool v), .p (.int .i64 t), .p (.bool false)], .p (.bool p), .p (.bool q)] ((Jb0 1 v t p q).av) := by
 refine Pure.of_walk (N := 18) Tryz.func155 rfl rfl rfl (by simp) (by first | (simp; done) | simp [*]) ?_
 rw [J10]
 cases p <;> cases q <;> simp [Jaa]
theorem Jvw (v : Bool) (t : Nat) (p q : Bool) : Pure Tryz.prog GL 156 [.agg [.p (.bool v), .p (.int .i64 t), .p (.bool false)], .p (.bool p), .p (.bool q)] ((Jb0 2 v t p q).av) := by
 refine Pure.of_walk (N := 17) Tryz.func156 rfl rfl rfl (by simp) (by first | (simp; done) | simp [*]) ?_
 rw [rule2]
 cases p
 . simp [Jaa]
 by_cases h : t = 0
 . subst h
   simp [Jaa]
 . simp [h, Jaa]
theorem Jvt  : Pure Tryz.prog GL 144 [] (.agg [.fn (.func 154) [], .fn (.func 155) [], .fn (.func 156) []]) := by
 refine Pure.of_walk (N := 2) Tryz.func144 rfl rfl rfl (by simp) (by first | (simp; done) | simp [*]) ?_
 simp [Jaa]
end Go.Am
