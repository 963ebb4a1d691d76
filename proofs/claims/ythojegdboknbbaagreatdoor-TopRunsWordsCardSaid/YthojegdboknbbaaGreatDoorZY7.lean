/- Lemmas and contracts for the proof of a statement of this seat. -/
import Derived.Test.YthojegdboknbbaaGreatDoorZY6
set_option linter.unusedVariables false
set_option linter.unusedSimpArgs false
namespace Go.Am
open Go Go.Proofs Go.Pn
theorem Jpq (t : Sta) (h : SmS t) (s : Store) (nx : Nat) :
   Gives Tryz.prog GL 126 [t.av] s nx (.agg (t.own nx (nx + 1) (nx + 2) (nx + 3) (nx + 4))) [] (staB t nx (nx + 1) (nx + 2) (nx + 3) (nx + 4)) (nx + 5) := by
 obtain ⟨h1, h2, h3, h4, h5⟩ := h
 refine Gives.mk_walkK (N := 19) (args := [t.av]) [] [] [] (staB t 0 1 2 3 4) 0 5 (.agg (t.own 0 1 2 3 4)) (nms [5, 8, 11, 14, 17]) (up1 := staB t nx (nx + 1) (nx + 2) (nx + 3) (nx + 4)) Tryz.func126 rfl rfl rfl (by simp) rfl (by simp) (by simp) (by simp) Jrw (by simp) rfl ?_
 simp
 refine Jaf.intro (by kernel_rfl) ?_
 simp
 refine Jag (Jfm t.ends _ _ (by omega)) ?_
 simp
 refine Jag (Jdw t.valves _ _ (by omega)) ?_
 simp
 refine Jag (Jdw t.inputs _ _ (by omega)) ?_
 simp
 refine Jag (Jdw t.values _ _ (by omega)) ?_
 simp
 refine Jag (Jfm t.timers _ _ (by omega)) ?_
 simp
 refine ⟨.of (by kernel_rfl), ?_⟩
 simp [staB]
 exact ⟨Jaw, Jam, Jam, Jam, Jaw⟩
theorem J2d {t : Sta} {a b c d e : Nat} : Jcv (staB t a b c d e) := .acc (.acc (.acc (.acc (.acc .nil fun _ => rfl) fun _ => rfl) fun _ => rfl) fun _ => rfl) fun _ => rfl
theorem J1u {c : Ctl} {g : Sta} {j : Nat} {x : Sig} (h : c.sigs[j]? = some x) : rndT c g (j + 1) = Jhc c g x j (rndT c g j) := by
 rw [rndT, h]
theorem Ji7 {c : Ctl} {g : Sta} : ∀ j : Nat, (rndT c g j).st.ends = g.ends /\ (rndT c g j).st.inputs = g.inputs /\ (rndT c g j).st.valves = g.valves /\ (rndT c g j).con.length <= j
 | 0 => ⟨rfl, rfl, rfl, Nat.le_refl _⟩
 | j + 1 => by
   obtain ⟨h1, h2, h3, h4⟩ := @Ji7 c g j
   unfold rndT
   split
   . exact ⟨h1, h2, h3, by omega⟩
   . rename_i x _
     refine ⟨h1, h2, h3, ?_⟩
     unfold Jhc
     simp only
     split
     . rw [List.length_append]; simp; omega
     . omega
set_option maxHeartbeats 4000000 in
set_option maxRecDepth 20000 in
theorem Jli (c : Ctl) (s : Sta) (h : RS c s) (hc : RC c) (hL : Lg c) (st : Store) (nx a b i v t m : Nat) (hM : MachAt c s st nx a b i v t m) :
   Gives Tryz.prog GL 127 [.ptr m 11 0 0] st nx (.tup [.p (.bool (!decide (s = (sRnd c s).st))), .acc nx 1 (sRnd c s).con.length]) [a, b, i, v, t, m]
     [(v, accB 1 ((sRnd c s).st.values.map Bool.row)), (t, accB 1 ((sRnd c s).st.timers.map nrow)), (nx, accB 1 ((sRnd c s).con.map nrow))] (nx + 1) := by
 have hS := hc.sm hL
 have hk3 := hc.kinds
 have hsg := fun i x hx => hc.sigOk (i := i) (x := x) hS hx
 have hsm := h.small hc
 have hSS := fun u => Jh0 s u hsm
 have hact := h.act
 have hvl := h.values
 have hin := h.inputs
 obtain ⟨k1, k2, k3, k4, k5⟩ := id hsm
 obtain ⟨a1, a2, a3⟩ := hc.act
 have hi16 := hc.inputs
 have hs64 := hc.sigs
 have hfn : fstN c = 2 * s.ends.length + s.inputs.length := by unfold fstN; omega
 have hcn : cntN c = fstN c + c.sigs.length := rfl
 have hg : RS c (Jbn c s) := h.gates
 have hgs := Jx1 c s h hc hL
 have hgl := Jpo c (Jbn c s) hg hc
 have hmb : ∀ a b i v t, Ja0 c s a b i v t = Ja0 c (Jbn c s) a b i v t := fun a b i v t => Jiu h hg
 obtain ⟨q1, q2, q3, q4⟩ := Jfn (c := c) (s := s) c.sigs.length
 change (Jbn c s).ends = s.ends at q1
 change (Jbn c s).inputs = s.inputs at q2
 change (Jbn c s).valves = s.valves at q3
 change (Jbn c s).timers = s.timers at q4
 have hgv := hg.values
 have hlg := @Jg6 (Jbn c s)
 rw [q1, q2, hgv] at hlg
 have hR := Jvt
 rw [show sRnd c s = rndT c (Jbn c s) c.sigs.length from rfl]
 generalize Jbn c s = g at *
 refine Gives.mk_walkA (N := 105) (args := [.ptr 5 11 0 0]) [a, b, i, v, t, m] [] (Jbl c s)
   [(3, accB 1 ((rndT c g c.sigs.length).st.values.map Bool.row)), (4, accB 1 ((rndT c g c.sigs.length).st.timers.map nrow)), (6, accB 1 ((rndT c g c.sigs.length).con.map nrow))] 6 1 (.tup [.p (.bool (!decide (s = (rndT c g c.sigs.length).st))), .acc 6 1 (rndT c g c.sigs.length).con.length]) (nms [3])
   (up1 := [(v, accB 1 ((rndT c g c.sigs.length).st.values.map Bool.row)), (t, accB 1 ((rndT c g c.sigs.length).st.timers.map nrow)), (nx, accB 1 ((rndT c g c.sigs.length).con.map nrow))]) Tryz.func127 rfl rfl rfl (by simp) rfl (Jfx hM rfl) (by simp) rfl ?_ (by simp) rfl ?_
 . exact Ja6 (Jay rfl (Jao fun _ => rfl)) (Ja6 (Jay rfl (Jao fun _ => rfl)) (Jay rfl (Jao fun _ => rfl)))
 simp [Jbl, Ja0]
 refine Jhr ?_
 simp
 have hcp := Jpq s hsm
 unfold staB at hcp
 refine ⟨_, _, _, hcp [] _, rfl, J2d, ?_⟩
 simp
 refine Jag (hgs _ _ 0 1 2 3 4 5 ⟨by decide, by decide, rfl, rfl, rfl, rfl, rfl, rfl⟩) ?_
 simp
 refine Jag (hgl _ _ 0 1 2 3 4 5 ⟨by decide, by decide, by rw [q1]; rfl, by rw [q3]; rfl, by rw [q2]; rfl, rfl, by rw [q4]; rfl, by rw [<- hmb]; rfl⟩) ?_
 simp
 refine Jab hR ?_
 simp
 refine Jai.go [0, 4, 5, 6, 25, 26] [0, 1, 2, 5, 6, 7, 8, 9, 10, 11, 12, 13] 1 [14] (nms [7]) (fun nx (j : Nat) => [(7, .acc nx 1 (rndT c g j).con.length), (27, .p (.int .i64 j))]) (fun nx j => [(3, accB 1 ((rndT c g j).st.values.map Bool.row)), (4, accB 1 ((rndT c g j).st.timers.map nrow)), (nx, accB 1 ((rndT c g j).con.map nrow))]) (fun j => j <= c.sigs.length) (fun j => c.sigs.length - j) 0 (by omega) ?_ ?_
 . simp [rndT, Jak, Jal, q4]
   decide
 intro j hj
 obtain ⟨r1, r2, r3, r4⟩ := Ji7 (c := c) (g := g) j
 have hRS : RS c (rndT c g j).st := RS.rndT hk3 hg j
 have hvj := hRS.values
 have htj := hRS.timers
 simp
 refine Jan (fun h3 => ?_) (fun h3 => ?_)
 . simp at h3
   obtain ⟨x, e⟩ := Jae h3
   have hx := hsg j x e
   have hsn := J1u (g := g) e
   have hE := Jkl (Jax g) (by omega) x.on hx.on.ok (by rw [hlg, <- hfn, <- hcn]; exact hx.on.nods)
   have hO := fun k1 => Jkl (Jax g) (by omega) x.off (hx.off k1).ok (by rw [hlg, <- hfn, <- hcn]; exact (hx.off k1).nods)
   rw [Jis] at hE
   simp only [Jis] at hO
   generalize rndT c g j = r at *
   obtain ⟨v0, e0⟩ := Jae (xs := r.st.values) (k := j) (by omega)
   obtain ⟨t0, f0⟩ := Jae (xs := r.st.timers) (k := j) (by omega)
   have n0 : ¬ r.st.values = [] := fun h => by rw [h] at e0; cases e0
   have n1 : ¬ r.st.timers = [] := fun h => by rw [h] at f0; cases f0
   have j1 : j < s.values.length := by omega
   have j2 : j < s.timers.length := by have := h.timers; omega
   have hvd : r.st.values.getD j false = v0 := by rw [List.getD_eq_getElem?_getD, e0]; rfl
   have htd : r.st.timers.getD j 0 = t0 := by rw [List.getD_eq_getElem?_getD, f0]; rfl
   have hone : ∀ y, Jb0 x.kind v0 t0 (evX (lnF g) x.on) (decide (x.kind = 1) && evX (lnF g) x.off) = y -> rndT c g (j + 1) = ⟨{ r.st with values := r.st.values.set j y.val, timers := r.st.timers.set j y.tim }, if y.con then r.con ++ [fstN c + j] else r.con⟩ := fun y hy => by
     rw [hsn]
     unfold Jhc
     rw [hvd, htd, hy, q1, q2, <- hfn]
   rcases hx.kind with k | k | k
   . have hrl := Jvu v0 t0 (evX (lnF g) x.on) false
     have hone := hone (Jb0 0 v0 t0 (evX (lnF g) x.on) false) (by rw [k]; rfl)
     simp [h3, e, k, -getElem?_pos, List.getElem?_cons_zero, List.getElem?_cons_succ]
     refine Jaf.intro (by kernel_rfl) ?_
     simp [h3, e, k, e0, f0, n0, n1, j1, j2, -getElem?_pos, List.getElem?_cons_zero, List.getElem?_cons_succ]
     refine Jc4 ?_
     simp
     refine ⟨_, hE, rfl, ?_⟩
     refine Jab hrl ?_
     simp
     refine ⟨.of (by kernel_rfl), ?_⟩
     generalize Jb0 0 v0 t0 (evX (lnF g) x.on) false = y at hone ⊢
     obtain ⟨yv, yt, yc⟩ := y
     obtain ⟨V, hV⟩ : ∃ V, r.st.values.set j yv = V := ⟨_, rfl⟩
     obtain ⟨T, hT⟩ : ∃ T, r.st.timers.set j yt = T := ⟨_, rfl⟩
     have m0 : (r.st.values.map Bool.row).set j [.p (.bool yv)] = V.map Bool.row := by rw [<- hV, List.map_set]
     have m1 : (r.st.timers.map nrow).set j [.p (.int .i64 (yt : Int))] = T.map nrow := by rw [<- hT, List.map_set]; rfl
     have q0 := @Jat _ 1 V Bool.row (by rw [<- hV]; intro h; exact n0 (by simpa using h))
     have q1 := @Jat _ 1 T nrow (by rw [<- hT]; intro h; exact n1 (by simpa using h))
     refine Jaf.intro (by kernel_rfl) ?_
     simp [e0, f0, n0, n1, j1, j2, m0, m1, -getElem?_pos, List.getElem?_cons_zero, List.getElem?_cons_succ]
     refine ⟨.of (by kernel_rfl), ?_⟩
     cases yc
     . have h1 : (rndT c g (j + 1)).st.values = V := by rw [hone]; exact hV
       have h2 : (rndT c g (j + 1)).st.timers = T := by rw [hone]; exact hT
       have h4 : (rndT c g (j + 1)).con = r.con := by rw [hone]; rfl
       simp
       refine ⟨wrap_i64 (by omega) (by omega), j + 1, by omega, by omega, ⟨by rw [h4], by omega⟩, ?_⟩
       rw [h1, h2, h4, q0, q1]
       simp [Jak, Jal]
       decide
     . have h1 : (rndT c g (j + 1)).st.values = V := by rw [hone]; exact hV
       have h2 : (rndT c g (j + 1)).st.timers = T := by rw [hone]; exact hT
       have h4 : (rndT c g (j + 1)).con = r.con ++ [fstN c + j] := by rw [hone]; rfl
       have em : r.con.map nrow ++ [[AV.p (PV.int IntKind.i64 ((fstN c : Int) + (j : Int)))]] = (r.con ++ [fstN c + j]).map nrow := by rw [List.map_append]; rfl
       simp
       refine ⟨wrap_i64 (by omega) (by omega), by omega, wrap_i64 (by omega) (by omega), j + 1, by omega, by omega, ⟨by rw [h4, List.length_append]; rfl, by omega⟩, ?_⟩
       rw [h1, h2, h4, q0, q1]
       simp [Jak, Jal, em, -List.map_append]
       exact ⟨by decide, by decide⟩
   . have hrl := Jvv v0 t0 (evX (lnF g) x.on) (evX (lnF g) x.off)
     have hone := hone (Jb0 1 v0 t0 (evX (lnF g) x.on) (evX (lnF g) x.off)) (by rw [k]; rfl)
     simp [h3, e, k, -getElem?_pos, List.getElem?_cons_zero, List.getElem?_cons_succ]
     refine Jaf.intro (by kernel_rfl) ?_
     simp [h3, e, k, e0, f0, n0, n1, j1, j2, -getElem?_pos, List.getElem?_cons_zero, List.getElem?_cons_succ]
     refine Jc4 ?_
     simp
     refine ⟨_, hE, rfl, ?_⟩
     refine Jc4 ?_
     simp
     refine ⟨_, hO k, rfl, ?_⟩
     refine Jab hrl ?_
     simp
     refine ⟨.of (by kernel_rfl), ?_⟩
     generalize Jb0 1 v0 t0 (evX (lnF g) x.on) (evX (lnF g) x.off) = y at hone ⊢
     obtain ⟨yv, yt, yc⟩ := y
     obtain ⟨V, hV⟩ : ∃ V, r.st.values.set j yv = V := ⟨_, rfl⟩
     obtain ⟨T, hT⟩ : ∃ T, r.st.timers.set j yt = T := ⟨_, rfl⟩
     have m0 : (r.st.values.map Bool.row).set j [.p (.bool yv)] = V.map Bool.row := by rw [<- hV, List.map_set]
     have m1 : (r.st.timers.map nrow).set j [.p (.int .i64 (yt : Int))] = T.map nrow := by rw [<- hT, List.map_set]; rfl
     have q0 := @Jat _ 1 V Bool.row (by rw [<- hV]; intro h; exact n0 (by simpa using h))
     have q1 := @Jat _ 1 T nrow (by rw [<- hT]; intro h; exact n1 (by simpa using h))
     refine Jaf.intro (by kernel_rfl) ?_
     simp [e0, f0, n0, n1, j1, j2, m0, m1, -getElem?_pos, List.getElem?_cons_zero, List.getElem?_cons_succ]
     refine ⟨.of (by kernel_rfl), ?_⟩
     cases yc
     . have h1 : (rndT c g (j + 1)).st.values = V := by rw [hone]; exact hV
       have h2 : (rndT c g (j + 1)).st.timers = T := by rw [hone]; exact hT
       have h4 : (rndT c g (j + 1)).con = r.con := by rw [hone]; rfl
       simp
       refine ⟨wrap_i64 (by omega) (by omega), j + 1, by omega, by omega, ⟨by rw [h4], by omega⟩, ?_⟩
       rw [h1, h2, h4, q0, q1]
       simp [Jak, Jal]
       decide
     . have h1 : (rndT c g (j + 1)).st.values = V := by rw [hone]; exact hV
       have h2 : (rndT c g (j + 1)).st.timers = T := by rw [hone]; exact hT
       have h4 : (rndT c g (j + 1)).con = r.con ++ [fstN c + j] := by rw [hone]; rfl
       have em : r.con.map nrow ++ [[AV.p (PV.int IntKind.i64 ((fstN c : Int) + (j : Int)))]] = (r.con ++ [fstN c + j]).map nrow := by rw [List.map_append]; rfl
       simp
       refine ⟨wrap_i64 (by omega) (by omega), by omega, wrap_i64 (by omega) (by omega), j + 1, by omega, by omega, ⟨by rw [h4, List.length_append]; rfl, by omega⟩, ?_⟩
       rw [h1, h2, h4, q0, q1]
       simp [Jak, Jal, em, -List.map_append]
       exact ⟨by decide, by decide⟩
   . have hrl := Jvw v0 t0 (evX (lnF g) x.on) false
     have hone := hone (Jb0 2 v0 t0 (evX (lnF g) x.on) false) (by rw [k]; rfl)
     simp [h3, e, k, -getElem?_pos, List.getElem?_cons_zero, List.getElem?_cons_succ]
     refine Jaf.intro (by kernel_rfl) ?_
     simp [h3, e, k, e0, f0, n0, n1, j1, j2, -getElem?_pos, List.getElem?_cons_zero, List.getElem?_cons_succ]
     refine Jc4 ?_
     simp
     refine ⟨_, hE, rfl, ?_⟩
     refine Jab hrl ?_
     simp
     refine ⟨.of (by kernel_rfl), ?_⟩
     generalize Jb0 2 v0 t0 (evX (lnF g) x.on) false = y at hone ⊢
     obtain ⟨yv, yt, yc⟩ := y
     obtain ⟨V, hV⟩ : ∃ V, r.st.values.set j yv = V := ⟨_, rfl⟩
     obtain ⟨T, hT⟩ : ∃ T, r.st.timers.set j yt = T := ⟨_, rfl⟩
     have m0 : (r.st.values.map Bool.row).set j [.p (.bool yv)] = V.map Bool.row := by rw [<- hV, List.map_set]
     have m1 : (r.st.timers.map nrow).set j [.p (.int .i64 (yt : Int))] = T.map nrow := by rw [<- hT, List.map_set]; rfl
     have q0 := @Jat _ 1 V Bool.row (by rw [<- hV]; intro h; exact n0 (by simpa using h))
     have q1 := @Jat _ 1 T nrow (by rw [<- hT]; intro h; exact n1 (by simpa using h))
     refine Jaf.intro (by kernel_rfl) ?_
     simp [e0, f0, n0, n1, j1, j2, m0, m1, -getElem?_pos, List.getElem?_cons_zero, List.getElem?_cons_succ]
     refine ⟨.of (by kernel_rfl), ?_⟩
     cases yc
     . have h1 : (rndT c g (j + 1)).st.values = V := by rw [hone]; exact hV
       have h2 : (rndT c g (j + 1)).st.timers = T := by rw [hone]; exact hT
       have h4 : (rndT c g (j + 1)).con = r.con := by rw [hone]; rfl
       simp
       refine ⟨wrap_i64 (by omega) (by omega), j + 1, by omega, by omega, ⟨by rw [h4], by omega⟩, ?_⟩
       rw [h1, h2, h4, q0, q1]
       simp [Jak, Jal]
       decide
     . have h1 : (rndT c g (j + 1)).st.values = V := by rw [hone]; exact hV
       have h2 : (rndT c g (j + 1)).st.timers = T := by rw [hone]; exact hT
       have h4 : (rndT c g (j + 1)).con = r.con ++ [fstN c + j] := by rw [hone]; rfl
       have em : r.con.map nrow ++ [[AV.p (PV.int IntKind.i64 ((fstN c : Int) + (j : Int)))]] = (r.con ++ [fstN c + j]).map nrow := by rw [List.map_append]; rfl
       simp
       refine ⟨wrap_i64 (by omega) (by omega), by omega, wrap_i64 (by omega) (by omega), j + 1, by omega, by omega, ⟨by rw [h4, List.length_append]; rfl, by omega⟩, ?_⟩
       rw [h1, h2, h4, q0, q1]
       simp [Jak, Jal, em, -List.map_append]
       exact ⟨by decide, by decide⟩
 . simp at h3
   have hjl : j = c.sigs.length := by omega
   subst hjl
   have hSu := hSS (rndT c g c.sigs.length).st
   generalize rndT c g c.sigs.length = r at *
   have hv2 : r.st.values.length = s.values.length := by omega
   have ht2 : r.st.timers.length = s.timers.length := by have := h.timers; omega
   simp only [Sta.av, r1, r2, r3, q1, q2, q3] at hSu
   simp
   refine Jaf.intro (by kernel_rfl) ?_
   simp
   refine Jc4 ?_
   simp [hv2, ht2]
   refine ⟨_, hSu, rfl, ?_⟩
   simp
   refine ⟨.of (by kernel_rfl), ⟨Jam, Jaw, Jaw, ?_⟩, by decide⟩
   simp [Jbl, Ja0]
   exact ⟨Jaw, Jam, Jam⟩
end Go.Am
namespace Go.Am
open Go Go.Proofs Go.Pn
def conT (c : Ctl) (s : Sta) : Nat -> List Nat
 | 0 => []
 | n + 1 => conT c s n ++ (sRnd c (setT c s n)).con
theorem Jfi {c : Ctl} {s : Sta} : ∀ n, (conT c s n).length <= c.sigs.length * n
 | 0 => Nat.zero_le _
 | n + 1 => by
   have h1 := @Jfi c s n
   have h2 := (@Ji7 c (Jbn c (setT c s n)) c.sigs.length).2.2.2
   rw [conT, List.length_append, Nat.mul_succ]
   exact Nat.add_le_add h1 h2
theorem Jf9 {c : Ctl} {s : Sta} : ∀ n : Nat, (setT c s n).ends = s.ends /\ (setT c s n).inputs = s.inputs /\ (setT c s n).valves = s.valves
 | 0 => ⟨rfl, rfl, rfl⟩
 | n + 1 => by
   obtain ⟨h1, h2, h3⟩ := @Jf9 c s n
   obtain ⟨r1, r2, r3, _⟩ := @Ji7 c (Jbn c (setT c s n)) c.sigs.length
   obtain ⟨q1, q2, q3, _⟩ := @Jfn c (setT c s n) c.sigs.length
   exact ⟨r1.trans (q1.trans h1), r2.trans (q2.trans h2), r3.trans (q3.trans h3)⟩
structure RestAt (c : Ctl) (s : Sta) (n : Nat) : Prop where
 le : n <= 64
 st : (sRnd c (setT c s n)).st = setT c s n
 no : ∀ k < n, (sRnd c (setT c s k)).st ≠ setT c s k
theorem J1q {c : Ctl} {s t : Sta} (h : Jdj c s = some t) : ∃ n, RestAt c s n /\ setT c s n = t := by
 have h64 : ∃ n, n <= 64 /\ (sRnd c (setT c s n)).st = setT c s n := by
   unfold Jdj at h
   split at h
   . exact ⟨64, Nat.le_refl _, by assumption⟩
   . cases h
 obtain ⟨n, hn1, hn2⟩ := exists_least (fun n => n <= 64 /\ (sRnd c (setT c s n)).st = setT c s n) h64
 refine ⟨n, ⟨hn1.1, hn1.2, fun k hk e => ?_⟩, ?_⟩
 . have := hn2 k ⟨by omega, e⟩
   omega
 . have := Jmk hn1.1 hn1.2
   rw [h] at this
   exact (Option.some.inj this).symm
theorem J1r {c : Ctl} {s : Sta} (h : Jdj c s = none) : ∀ k, k <= 64 -> (sRnd c (setT c s k)).st ≠ setT c s k := fun k hk e => by
 have := Jmk hk e
 rw [h] at this; cases this
theorem Jmj {c : Ctl} {s : Sta} {n : Nat} : setT c s (n + 1) = (sRnd c (setT c s n)).st := rfl
theorem Jfj {c : Ctl} {s : Sta} {n : Nat} : conT c s (n + 1) = conT c s n ++ (sRnd c (setT c s n)).con := rfl
def Jbk (c : Ctl) (s : Sta) (n : Nat) : List Int := Jby (Jci (ints (conT c s (n + 1))))
set_option maxHeartbeats 2000000 in
set_option maxRecDepth 20000 in
theorem Jx0 (c : Ctl) (s : Sta) (h : RS c s) (hc : RC c) (hL : Lg c) (hno : ∀ k, k <= 64 -> (sRnd c (setT c s k)).st ≠ setT c s k) (st : Store) (nx a b i v t m : Nat) (hM : MachAt c s st nx a b i v t m) :
   Gives Tryz.prog GL 99 [.ptr m 11 0 0] st nx (.tup [.p (.int .i64 0), .nils, .p (.int .i64 21)]) [a, b, i, v, t, m]
     [(v, accB 1 ((setT c s 65).values.map Bool.row)), (t, accB 1 ((setT c s 65).timers.map nrow))] nx := by
 have hk3 := hc.kinds
 have hR := fun n => RS.setT hk3 h n
 have hsr := fun n => @Jf9 c s n
 have hmb : ∀ n a b i v t, Ja0 c s a b i v t = Ja0 c (setT c s n) a b i v t := fun n a b i v t => Jiu h (hR n)
 have hcl := fun n => @Jfi c s n
 have hs64 := hc.sigs
 have hrd := fun n st nx a b i v t m hM => Jli c (setT c s n) (hR n) hc hL st nx a b i v t m hM
 refine Gives.mk_walkA (N := 28) (args := [.ptr 5 11 0 0]) [a, b, i, v, t, m] [] (Jbl c s)
   [(3, accB 1 ((setT c s 65).values.map Bool.row)), (4, accB 1 ((setT c s 65).timers.map nrow))] 6 0 (.tup [.p (.int .i64 0), .nils, .p (.int .i64 21)]) (fun _ => [])
   (up1 := [(v, accB 1 ((setT c s 65).values.map Bool.row)), (t, accB 1 ((setT c s 65).timers.map nrow))]) Tryz.func99 rfl rfl rfl (by simp) rfl (Jfx hM rfl) (by simp) rfl ?_ (by simp) rfl ?_
 . exact Ja6 (Jay rfl (Jao fun _ => rfl)) (Jay rfl (Jao fun _ => rfl))
 simp [Jbl]
 refine Jai.go [0] [0, 1, 2, 5] 1 [6] (nms [5]) (fun nx (n : Nat) => [(5, .acc nx 1 (conT c s n).length), (6, .p (.int .i64 n))]) (fun nx n => [(3, accB 1 ((setT c s n).values.map Bool.row)), (4, accB 1 ((setT c s n).timers.map nrow)), (nx, accB 1 ((conT c s n).map nrow))]) (fun n => n <= 65) (fun n => 65 - n) 0 (by omega) ?_ ?_
 . simp [Ja0, setT, conT, Jak, Jal]
   decide
 intro n hn
 simp
 refine Jan (fun h3 => ?_) (fun h3 => ?_)
 . simp at h3
   obtain ⟨e1, e2, e3⟩ := hsr n
   have hcn : (conT c s n).length <= 64 * 64 := Nat.le_trans (hcl n) (Nat.mul_le_mul hs64 (by omega))
   have hcn2 : (conT c s (n + 1)).length <= 64 * 65 := Nat.le_trans (hcl (n + 1)) (Nat.mul_le_mul hs64 (by omega))
   have hlen2 : (conT c s (n + 1)).length = (conT c s n).length + (sRnd c (setT c s n)).con.length := by rw [Jfj, List.length_append]
   have hrn := hrd n
   rw [<- Jmj] at hrn
   try simp
   refine Jag (hrn _ _ 0 1 2 3 4 5 ⟨by decide, by decide, by rw [e1]; rfl, by rw [e3]; rfl, by rw [e2]; rfl, rfl, rfl, by rw [<- hmb]; rfl⟩) ?_
   have em : (conT c s n).map nrow ++ (sRnd c (setT c s n)).con.map nrow = (conT c s (n + 1)).map nrow := by rw [Jfj, List.map_append]
   generalize hD : (sRnd c (setT c s n)).con = D at *
   simp
   refine ⟨by omega, ?_⟩
   rw [em, <- hlen2]
   have hne : ¬ setT c s n = setT c s (n + 1) := fun e => hno n (by omega) e.symm
   simp [hne]
   refine ⟨wrap_i64 (by omega) (by omega), n + 1, by omega, by omega, ⟨rfl, by omega⟩, ?_⟩
   simp [Jak, Jal, Ja0]
   decide
 . simp at h3
   have hn5 : n = 65 := by omega
   subst hn5
   simp
   refine ⟨Jam, Jaw, ?_⟩
   simp [Jbl, Ja0]
   exact ⟨Jaw, Jam, Jam⟩
set_option maxHeartbeats 2000000 in
set_option maxRecDepth 20000 in
theorem Jxy (c : Ctl) (s : Sta) (h : RS c s) (hc : RC c) (hL : Lg c) (n0 : Nat) (h0 : RestAt c s n0) (hcon : conT c s (n0 + 1) = []) (st : Store) (nx a b i v t m : Nat) (hM : MachAt c s st nx a b i v t m) :
   Gives Tryz.prog GL 99 [.ptr m 11 0 0] st nx (.tup [.p (.int .i64 n0), .nils, .p (.int .i64 0)]) [a, b, i, v, t, m]
     [(v, accB 1 ((setT c s n0).values.map Bool.row)), (t, accB 1 ((setT c s n0).timers.map nrow))] nx := by
 have hk3 := hc.kinds
 have hR := fun n => RS.setT hk3 h n
 have hsr := fun n => @Jf9 c s n
 have hmb : ∀ n a b i v t, Ja0 c s a b i v t = Ja0 c (setT c s n) a b i v t := fun n a b i v t => Jiu h (hR n)
 have hcl := fun n => @Jfi c s n
 have hs64 := hc.sigs
 have hrd := fun n st nx a b i v t m hM => Jli c (setT c s n) (hR n) hc hL st nx a b i v t m hM
 have hn64 := h0.le
 refine Gives.mk_walkA (N := 28) (args := [.ptr 5 11 0 0]) [a, b, i, v, t, m] [] (Jbl c s)
   [(3, accB 1 ((setT c s n0).values.map Bool.row)), (4, accB 1 ((setT c s n0).timers.map nrow))] 6 0 (.tup [.p (.int .i64 n0), .nils, .p (.int .i64 0)]) (fun _ => [])
   (up1 := [(v, accB 1 ((setT c s n0).values.map Bool.row)), (t, accB 1 ((setT c s n0).timers.map nrow))]) Tryz.func99 rfl rfl rfl (by simp) rfl (Jfx hM rfl) (by simp) rfl ?_ (by simp) rfl ?_
 . exact Ja6 (Jay rfl (Jao fun _ => rfl)) (Jay rfl (Jao fun _ => rfl))
 simp [Jbl]
 refine Jai.go [0] [0, 1, 2, 5] 1 [6] (nms [5]) (fun nx (n : Nat) => [(5, .acc nx 1 (conT c s n).length), (6, .p (.int .i64 n))]) (fun nx n => [(3, accB 1 ((setT c s n).values.map Bool.row)), (4, accB 1 ((setT c s n).timers.map nrow)), (nx, accB 1 ((conT c s n).map nrow))]) (fun n => n <= n0) (fun n => 65 - n) 0 (by omega) ?_ ?_
 . simp [Ja0, setT, conT, Jak, Jal]
   decide
 intro n hn
 have h64 : (n : Int) <= 64 := by omega
 simp [h64]
 obtain ⟨e1, e2, e3⟩ := hsr n
 have hcn : (conT c s n).length <= 64 * 64 := Nat.le_trans (hcl n) (Nat.mul_le_mul hs64 (by omega))
 have hcn2 : (conT c s (n + 1)).length <= 64 * 65 := Nat.le_trans (hcl (n + 1)) (Nat.mul_le_mul hs64 (by omega))
 have hlen2 : (conT c s (n + 1)).length = (conT c s n).length + (sRnd c (setT c s n)).con.length := by rw [Jfj, List.length_append]
 have hrn := hrd n
 rw [<- Jmj] at hrn
 try simp
 refine Jag (hrn _ _ 0 1 2 3 4 5 ⟨by decide, by decide, by rw [e1]; rfl, by rw [e3]; rfl, by rw [e2]; rfl, rfl, rfl, by rw [<- hmb]; rfl⟩) ?_
 have em : (conT c s n).map nrow ++ (sRnd c (setT c s n)).con.map nrow = (conT c s (n + 1)).map nrow := by rw [Jfj, List.map_append]
 generalize hD : (sRnd c (setT c s n)).con = D at *
 simp
 refine ⟨by omega, ?_⟩
 rw [em, <- hlen2]
 by_cases hnn : n = n0
 . subst hnn
   have hst : setT c s (n + 1) = setT c s n := h0.st
   rw [hst, hcon]
   simp
   refine Jag (Gives.of_acc (rest := []) (fun _ => Jpn _ _) (fun h => absurd h (by simp))) ?_
   simp
   refine Jag (Gives.of_acc (rest := []) (fun _ => Jpl _ _) (fun h => absurd h (by simp))) ?_
   simp
   refine ⟨Jam, Jaw, ?_⟩
   simp [Jbl, Ja0]
   exact ⟨Jaw, Jam, Jam⟩
 . have hne : ¬ setT c s n = setT c s (n + 1) := fun e => h0.no n (by omega) e.symm
   simp [hne]
   refine ⟨wrap_i64 (by omega) (by omega), n + 1, by omega, by omega, ⟨rfl, by omega⟩, ?_⟩
   simp [Jak, Jal, Ja0]
   decide
set_option maxHeartbeats 2000000 in
set_option maxRecDepth 20000 in
theorem Jxz (c : Ctl) (s : Sta) (h : RS c s) (hc : RC c) (hL : Lg c) (n0 : Nat) (h0 : RestAt c s n0) (hcon : conT c s (n0 + 1) ≠ []) (st : Store) (nx a b i v t m : Nat) (hM : MachAt c s st nx a b i v t m) :
   Gives Tryz.prog GL 99 [.ptr m 11 0 0] st nx (.tup [.p (.int .i64 n0), .ref nx 1 0 (Jbk c s n0).length none, .p (.int .i64 0)]) [a, b, i, v, t, m]
     [(v, accB 1 ((setT c s n0).values.map Bool.row)), (t, accB 1 ((setT c s n0).timers.map nrow)), (nx, some (.cells 1 ((Jbk c s n0 ++ List.replicate ((conT c s (n0 + 1)).length - (Jbk c s n0).length) 0).map Int.row)))] (nx + 1) := by
 have hk3 := hc.kinds
 have hR := fun n => RS.setT hk3 h n
 have hsr := fun n => @Jf9 c s n
 have hmb : ∀ n a b i v t, Ja0 c s a b i v t = Ja0 c (setT c s n) a b i v t := fun n a b i v t => Jiu h (hR n)
 have hcl := fun n => @Jfi c s n
 have hs64 := hc.sigs
 have hrd := fun n st nx a b i v t m hM => Jli c (setT c s n) (hR n) hc hL st nx a b i v t m hM
 have hn64 := h0.le
 have hcf : Jbk c s n0 = Jby (Jci (ints (conT c s (n0 + 1)))) := rfl
 generalize Jbk c s n0 = K at *
 refine Gives.mk_walkA (N := 28) (args := [.ptr 5 11 0 0]) [a, b, i, v, t, m] [] (Jbl c s)
   [(3, accB 1 ((setT c s n0).values.map Bool.row)), (4, accB 1 ((setT c s n0).timers.map nrow)), (6, some (.cells 1 ((K ++ List.replicate ((conT c s (n0 + 1)).length - K.length) 0).map Int.row)))] 6 1 (.tup [.p (.int .i64 n0), .ref 6 1 0 K.length none, .p (.int .i64 0)]) (nms [3])
   (up1 := [(v, accB 1 ((setT c s n0).values.map Bool.row)), (t, accB 1 ((setT c s n0).timers.map nrow)), (nx, some (.cells 1 ((K ++ List.replicate ((conT c s (n0 + 1)).length - K.length) 0).map Int.row)))]) Tryz.func99 rfl rfl rfl (by simp) rfl (Jfx hM rfl) (by simp) rfl ?_ (by simp) rfl ?_
 . refine Ja6 (Jay rfl (Jao fun _ => rfl)) (Ja6 (Jay rfl (Jao fun _ => rfl)) ?_)
   generalize K ++ List.replicate ((conT c s (n0 + 1)).length - K.length) 0 = Z
   simp
 simp [Jbl]
 refine Jai.go [0] [0, 1, 2, 5] 1 [6] (nms [5]) (fun nx (n : Nat) => [(5, .acc nx 1 (conT c s n).length), (6, .p (.int .i64 n))]) (fun nx n => [(3, accB 1 ((setT c s n).values.map Bool.row)), (4, accB 1 ((setT c s n).timers.map nrow)), (nx, accB 1 ((conT c s n).map nrow))]) (fun n => n <= n0) (fun n => 65 - n) 0 (by omega) ?_ ?_
 . simp [Ja0, setT, conT, Jak, Jal]
   decide
 intro n hn
 have h64 : (n : Int) <= 64 := by omega
 simp [h64]
 obtain ⟨e1, e2, e3⟩ := hsr n
 have hcn : (conT c s n).length <= 64 * 64 := Nat.le_trans (hcl n) (Nat.mul_le_mul hs64 (by omega))
 have hcn2 : (conT c s (n + 1)).length <= 64 * 65 := Nat.le_trans (hcl (n + 1)) (Nat.mul_le_mul hs64 (by omega))
 have hlen2 : (conT c s (n + 1)).length = (conT c s n).length + (sRnd c (setT c s n)).con.length := by rw [Jfj, List.length_append]
 have hrn := hrd n
 rw [<- Jmj] at hrn
 try simp
 refine Jag (hrn _ _ 0 1 2 3 4 5 ⟨by decide, by decide, by rw [e1]; rfl, by rw [e3]; rfl, by rw [e2]; rfl, rfl, rfl, by rw [<- hmb]; rfl⟩) ?_
 have em : (conT c s n).map nrow ++ (sRnd c (setT c s n)).con.map nrow = (conT c s (n + 1)).map nrow := by rw [Jfj, List.map_append]
 generalize hD : (sRnd c (setT c s n)).con = D at *
 simp
 refine ⟨by omega, ?_⟩
 rw [em, <- hlen2]
 by_cases hnn : n = n0
 . subst hnn
   have hst : setT c s (n + 1) = setT c s n := h0.st
   rw [hst]
   simp
   have hln : (conT c s (n + 1)).length = (ints (conT c s (n + 1))).length := by unfold ints; rw [List.length_map]
   have hacC : accB 1 ((conT c s (n + 1)).map nrow) = some (.cells 1 ((ints (conT c s (n + 1))).map Int.row)) := by rw [Jat hcon, Jp6]
   have hCl : 0 < (ints (conT c s (n + 1))).length := by rw [<- hln]; exact List.length_pos_iff.2 hcon
   rw [hln] at hcn2 ⊢
   rw [hacC]
   generalize ints (conT c s (n + 1)) = C at *
   have hsl := @Jga C
   have hsne : Jci C ≠ [] := fun e => by rw [e] at hsl; simp at hsl; omega
   refine Jag (Gives.of_acc (rest := []) (fun h => absurd h (by omega)) (fun _ => Jpm C _ _ 8 none (by simp) (by omega))) ?_
   simp
   have hgc := fun s nx => Jpk (Jci C) s nx 8
   rw [hsl] at hgc
   refine Jag (Gives.of_acc (rest := []) (fun h => absurd h (by omega)) (fun _ => hgc _ _ (by simp) (by simp) (by omega) hsne)) ?_
   rw [<- hcf]
   generalize hZ : K ++ List.replicate (C.length - K.length) 0 = Z
   simp
   refine ⟨⟨Jam, Jaw, ?_⟩, by decide⟩
   simp [Jbl, Ja0]
   exact ⟨Jaw, Jam, Jam⟩
 . have hne : ¬ setT c s n = setT c s (n + 1) := fun e => h0.no n (by omega) e.symm
   simp [hne]
   refine ⟨wrap_i64 (by omega) (by omega), n + 1, by omega, by omega, ⟨rfl, by omega⟩, ?_⟩
   simp [Jak, Jal, Ja0]
   decide
end Go.Am
namespace Go.Am
open Go Go.Proofs Go.Pn
def Jey (c : Ctl) (s : Sta) (nx : Nat) : Store := [(nx, accB 1 (s.ends.map nrow)), (nx + 1, accB 1 (s.valves.map Bool.row)), (nx + 2, accB 1 (s.inputs.map Bool.row)), (nx + 3, accB 1 (s.values.map Bool.row)), (nx + 4, accB 1 (s.timers.map nrow)), (nx + 5, some (Ja0 c s nx (nx + 1) (nx + 2) (nx + 3) (nx + 4)))]
theorem J1o {c : Ctl} {s : Sta} {nx : Nat} : renS (Jaq [] nx 6) (Jbl c s) = some (Jey c s nx) := by
 have r0 : renB (Jaq [] nx 6) (Ja0 c s 0 1 2 3 4) = some (Ja0 c s nx (nx + 1) (nx + 2) (nx + 3) (nx + 4)) := rfl
 unfold Jbl Jey
 refine Ja6 (Jay rfl (Jao fun _ => rfl)) (Ja6 (Jay rfl (Jao fun _ => rfl)) (Ja6 (Jay rfl (Jao fun _ => rfl)) (Ja6 (Jay rfl (Jao fun _ => rfl)) (Ja6 (Jay rfl (Jao fun _ => rfl)) ?_))))
 simp [-renB, renS, r0, -Jaq]
 rfl
set_option maxHeartbeats 2000000 in
set_option maxRecDepth 20000 in
theorem g_of (c : Ctl) (s : Sta) (h : RS c s) (hc : RC c) (hL : Lg c) (st : Store) (nx : Nat) :
   Gives Tryz.prog GL 98 [c.av, s.av] st nx (.tup [.ptr (nx + 5) 11 0 0, .p (.int .i64 0)]) [] (Jey c s nx) (nx + 6) := by
 have hS := hc.sm hL
 have hRt := Jhz c s h hc hL
 have hcp := Jpq s (h.small hc)
 unfold staB at hcp
 obtain ⟨a1, a2, a3⟩ := hc.act
 have hi16 := hc.inputs
 have hw : IntKind.i64.wrap (2 * c.act) = 2 * c.act := wrap_i64 (by omega) (by omega)
 have hw2 : IntKind.i64.wrap (2 * c.act + (c.inputs.length : Int)) = 2 * c.act + (c.inputs.length : Int) := wrap_i64 (by omega) (by omega)
 have hfn : 2 * c.act + (c.inputs.length : Int) = (fstN c : Int) := by unfold fstN; omega
 refine Gives.mk_walkK (N := 25) (args := [c.av, s.av]) [] [] [] (Jbl c s) 0 6 (.tup [.ptr 5 11 0 0, .p (.int .i64 0)]) (fun _ => [2, 3, 4, 5, 6, 7]) (up1 := Jey c s nx) Tryz.func98 rfl rfl rfl (by simp) rfl (by simp) (by simp) (by simp) J1o (by simp) rfl ?_
 simp
 refine Jab hRt ?_
 simp
 refine Jaf.intro (by kernel_rfl) ?_
 simp
 refine Jag (hcp _ _) ?_
 simp [hw, hw2, hfn]
 refine ⟨by rw [<- hfn]; exact hw2, .of (by kernel_rfl), ?_⟩
 simp [Jbl, Ja0]
 exact ⟨Jaw, Jam, Jam, Jam, Jaw⟩
theorem Jql {nx : Nat} {st : Store} {args args' : List AV} (h : renL [] args = some args') : Jcq [] nx [] st args args' := ⟨trivial, (fun b b2 hb _ => by simp at hb), List.nodup_nil, (fun b hb => by cases hb), h⟩
@[simp] theorem J5n {s : Store} : toV s .nils .nils = True := by
 unfold toV; simp [Jas]
def Jbv : Sta := ⟨[], [], [], [], []⟩
set_option maxHeartbeats 2000000 in
set_option maxRecDepth 20000 in
theorem Jvs (c : Ctl) (s : Sta) (h : RS c s) (hc : RC c) (hL : Lg c) (e : Jdj c s = none) : Pure Tryz.prog GL 66 [c.av, s.av] (.tup [Jbv.av, .p (.lst 1 []), .p (.int .i64 21)]) := by
 have hOf := g_of c s h hc hL
 unfold Jey at hOf
 have hN := Jx0 c s h hc hL (J1r e)
 refine Pure.of_walk (N := 36) Tryz.func66 rfl rfl rfl (by simp) rfl ?_
 simp
 refine Jag (hOf _ _) ?_
 simp
 refine Jag (hN _ _ 3 4 5 6 7 8 ⟨by decide, by decide, rfl, rfl, rfl, rfl, rfl, rfl⟩) ?_
 simp [Jaa, Jbv]
set_option maxHeartbeats 2000000 in
set_option maxRecDepth 20000 in
theorem Jxf (c : Ctl) (s : Sta) (h : RS c s) (hc : RC c) (hL : Lg c) (n : Nat) (h0 : RestAt c s n) (hcon : conT c s (n + 1) = []) (st : Store) (nx : Nat) :
   Gives Tryz.prog GL 66 [c.av, s.av] st nx (.tup [(setT c s n).av, .nils, .p (.int .i64 0)]) [] [] nx := by
 have hOf := g_of c s h hc hL
 unfold Jey at hOf
 have hN := Jxy c s h hc hL n h0 hcon
 obtain ⟨e1, e2, e3⟩ := @Jf9 c s n
 have hu := RS.setT hc.kinds h n
 have hvl : (setT c s n).values.length = s.values.length := by rw [hu.values, h.values]
 have htl : (setT c s n).timers.length = s.timers.length := by rw [hu.timers, h.timers]
 generalize setT c s n = u at *
 refine Gives.mk_walkM (N := 36) (args := [c.av, s.av]) [] [] [] [] 0 0 [u.av, .nils, .p (.int .i64 0)] (fun _ => []) (up1 := []) Tryz.func66 rfl rfl rfl (by simp) rfl (Jql rfl) (by simp) (by simp) rfl (by simp) rfl ?_
 simp
 refine Jag (hOf _ _) ?_
 simp
 refine Jag (hN _ _ 3 4 5 6 7 8 ⟨by decide, by decide, rfl, rfl, rfl, rfl, rfl, rfl⟩) ?_
 simp [Ja0, e1, e2, e3, hvl, htl]
 try exact ⟨rfl, rfl, rfl⟩
set_option maxHeartbeats 2000000 in
set_option maxRecDepth 20000 in
theorem Jxg (c : Ctl) (s : Sta) (h : RS c s) (hc : RC c) (hL : Lg c) (n : Nat) (h0 : RestAt c s n) (hcon : conT c s (n + 1) ≠ []) (st : Store) (nx : Nat) :
   Gives Tryz.prog GL 66 [c.av, s.av] st nx (.tup [(setT c s n).av, .ref nx 1 0 (Jbk c s n).length none, .p (.int .i64 0)]) [] [(nx, some (.cells 1 ((Jbk c s n ++ List.replicate ((conT c s (n + 1)).length - (Jbk c s n).length) 0).map Int.row)))] (nx + 1) := by
 have hOf := g_of c s h hc hL
 unfold Jey at hOf
 have hN := Jxz c s h hc hL n h0 hcon
 obtain ⟨e1, e2, e3⟩ := @Jf9 c s n
 have hu := RS.setT hc.kinds h n
 have hvl : (setT c s n).values.length = s.values.length := by rw [hu.values, h.values]
 have htl : (setT c s n).timers.length = s.timers.length := by rw [hu.timers, h.timers]
 generalize Jbk c s n ++ List.replicate ((conT c s (n + 1)).length - (Jbk c s n).length) 0 = Z at *
 generalize (Jbk c s n).length = k at *
 generalize setT c s n = u at *
 refine Gives.mk_walkM (N := 36) (args := [c.av, s.av]) [] [] [] [(0, some (.cells 1 (Z.map Int.row)))] 0 1 [u.av, .ref 0 1 0 k none, .p (.int .i64 0)] (fun _ => [9]) (up1 := [(nx, some (.cells 1 (Z.map Int.row)))]) Tryz.func66 rfl rfl rfl (by simp) rfl (Jql rfl) (by simp) (by simp) (by simp) (by simp) rfl ?_
 simp
 refine Jag (hOf _ _) ?_
 simp
 refine Jag (hN _ _ 3 4 5 6 7 8 ⟨by decide, by decide, rfl, rfl, rfl, rfl, rfl, rfl⟩) ?_
 simp [Ja0, e1, e2, e3, hvl, htl]
 try exact ⟨rfl, rfl, rfl⟩
end Go.Am
