/- Lemmas and contracts for the proof of a statement of this seat. -/
import Derived.Test.YthojegdboknbbaaGreatDoorZY8
import Derived.Test.YthojegdboknbbaaGreatDoorZA7
set_option linter.unusedVariables false
set_option linter.unusedSimpArgs false
namespace Go.Am
open Go Go.Proofs Go.Pn
noncomputable def rdL (c : Ctl) (s : Sta) : List Int :=
 open Classical in if h : ∃ n, RestAt c s n then (if conT c s (Classical.choose h + 1) = [] then [] else Jbk c s (Classical.choose h)) ++ conP c (setT c s (Classical.choose h)) (actN c) else []
theorem Jwg {c : Ctl} {s : Sta} {n : Nat} (hs : c.sigs.length <= 64) (hn : n <= 64) : (Jbk c s n).length <= 64 * 65 := by
 have h1 := @Jks (Jci (ints (conT c s (n + 1))))
 have h2 := @Jfi c s (n + 1)
 have h3 : c.sigs.length * (n + 1) <= 64 * 65 := Nat.mul_le_mul hs (by omega)
 have h4 : (ints (conT c s (n + 1))).length = (conT c s (n + 1)).length := by unfold ints; rw [List.length_map]
 rw [Jga, h4] at h1
 unfold Jbk
 omega
theorem Jg9 {c : Ctl} {s : Sta} (hc : RC c) : (rdL c s).length <= 4200 := by
 unfold rdL
 split
 . rename_i h
   have hr := Classical.choose_spec h
   have h1 := Jwg (s := s) hc.sigs hr.le
   have h2 := @Jh8 c (setT c s (Classical.choose h)) (actN c)
   obtain ⟨_, _, a3⟩ := hc.act
   rw [List.length_append]
   split
   . simp; omega
   . omega
 . simp
theorem Jkk (c : Ctl) (s t : Sta) (h : RS c s) (hc : RC c) (hL : Lg c) (e : pRnd c s = some t) : Pure Tryz.prog GL 43 [c.av, s.av] (.tup [t.av, .p (.lst 1 ((rdL c s).map Int.enc)), .p (.int .i64 0)]) := by
 obtain ⟨u, h1, h2⟩ := Option.map_eq_some_iff.1 e
 obtain ⟨n0, hn0, _⟩ := J1q h1
 have hex : ∃ n, RestAt c s n := ⟨n0, hn0⟩
 have hr := Classical.choose_spec hex
 have hu : setT c s (Classical.choose hex) = u := by
   have := Jmk hr.le hr.st
   rw [h1] at this
   exact (Option.some.inj this).symm
 have hact : u.ends.length = actN c := by
   have hh := RS.setT hc.kinds h (Classical.choose hex)
   rw [hu] at hh
   have := hh.act
   have := hc.act.1
   omega
 rw [hact] at h2
 have hd : rdL c s = (if conT c s (Classical.choose hex + 1) = [] then [] else Jbk c s (Classical.choose hex)) ++ conP c u (actN c) := by
   unfold rdL
   rw [dif_pos hex, hu]
 rw [hd]
 by_cases hcon : conT c s (Classical.choose hex + 1) = []
 . have := Jvq c s h hc hL _ hr hcon
   rw [hu, h2] at this
   rw [if_pos hcon, List.nil_append]
   exact this
 . have := Jvr c s h hc hL _ hr hcon
   rw [hu, h2] at this
   rw [if_neg hcon]
   exact this
theorem Joq (c : Ctl) (s : Sta) (h : RS c s) (hc : RC c) (hL : Lg c) (e : pRnd c s = none) : Pure Tryz.prog GL 43 [c.av, s.av] (.tup [Jbv.av, .p (.lst 1 []), .p (.int .i64 21)]) :=
 Jve c s h hc hL (Option.map_eq_none_iff.1 e)
noncomputable def Jdt (c : Ctl) : Nat -> Sta -> List Int -> List Int
 | 0, _, _ => []
 | n + 1, s, A => match pRnd c s with
   | none => []
   | some t => if t = s then mrgI A (rdL c s) else Jdt c n t (mrgI A (rdL c s))
theorem Jou {c : Ctl} (hc : RC c) : ∀ {n : Nat} {s : Sta} {A : List Int}, (Jdt c n s A).length <= A.length + 4200 * n
 | 0, _, _ => by simp [Jdt]
 | n + 1, s, A => by
   have h1 := @Jiw A (rdL c s)
   have h2 := @Jg9 c s hc
   unfold Jdt
   split
   . simp
   . rename_i t _
     split
     . omega
     . have := @Jou c hc n t (mrgI A (rdL c s))
       omega
structure RstS where
 k : Nat
 m : Nat
 u : Sta
 A : List Int
set_option maxHeartbeats 2000000 in
set_option maxRecDepth 20000 in
theorem Jop (c : Ctl) (s t : Sta) (h : RS c s) (hc : RC c) (hL : Lg c) (e : Jcc c s = some t) : Pure Tryz.prog GL 21 [c.av, s.av] (.tup [t.av, .p (.lst 1 ((Jdt c 65 s []).map Int.enc)), .p (.int .i64 0)]) := by
 have hRt := Jhz c s h hc hL
 generalize hRl : Jdt c 65 s [] = R
 unfold Jcc at e
 refine Pure.of_walk (N := 43) Tryz.func21 rfl rfl rfl (by simp) rfl ?_
 simp
 refine Jab hRt ?_
 simp
 refine Jai.go [2, 3, 4] [0, 2] 0 [] (fun _ => []) (fun nx (g : RstS) => [(8, .p (.lst 1 (g.A.map Int.enc))), (19, .p (.int .i64 g.k))]) (fun nx g => [(1, some (.cells 5 [[.p (.lst 1 (g.u.ends.map nenc)), .p (.lst 1 (g.u.valves.map Bool.enc)), .p (.lst 1 (g.u.inputs.map Bool.enc)), .p (.lst 1 (g.u.values.map Bool.enc)), .p (.lst 1 (g.u.timers.map nenc))]]))]) (fun g => g.k + g.m = 65 /\ RS c g.u /\ g.A.length <= 4200 * g.k /\ calmT c g.m g.u = some t /\ Jdt c g.m g.u g.A = R) (fun g => g.m) ⟨0, 65, s, []⟩ ⟨rfl, h, by simp, e, hRl⟩ ?_ ?_
 . simp
   try decide
 rintro ⟨k, m, u, A⟩ ⟨hk, hu, hA, hcm, hal⟩
 simp only at hk hu hA hcm hal
 simp
 refine Jan (fun h3 => ?_) (fun h3 => ?_)
 . simp at h3
   obtain ⟨m, rfl⟩ : ∃ m', m = m' + 1 := ⟨m - 1, by omega⟩
   rw [calmT] at hcm
   rw [Jdt] at hal
   cases hp : pRnd c u with
   | none => rw [hp] at hcm; cases hcm
   | some v =>
     rw [hp] at hcm hal
     simp only at hcm hal
     have hRd := Jkk c u v hu hc hL hp
     have hv := hu.pRnd hc.kinds hp
     have hM := Jkg A (rdL c u) (by have := @Jg9 c u hc; omega)
     have hSS := Jh0 v u (hv.small hc)
     have hml := @Jiw A (rdL c u)
     have hrl := @Jg9 c u hc
     simp
     refine Jab hRd ?_
     simp
     refine Jab hM ?_
     simp
     refine Jab hSS ?_
     by_cases hvu : v = u
     . rw [if_pos hvu] at hcm hal
       cases hcm
       rw [<- hal]
       simp [hvu, Jaa]
     . rw [if_neg hvu] at hcm hal
       simp [hvu]
       exact ⟨wrap_i64 (by omega) (by omega), ⟨k + 1, m, v, mrgI A (rdL c u)⟩, ⟨by show k + 1 + m = 65; omega, hv, by show (mrgI A (rdL c u)).length <= 4200 * (k + 1); omega, hcm, hal⟩, by show m < m + 1; omega, ⟨rfl, by show (k : Int) + 1 = ((k + 1 : Nat) : Int); omega⟩, rfl, rfl, rfl, rfl, rfl⟩
 . simp at h3
   obtain rfl : m = 0 := by omega
   cases hcm
set_option maxHeartbeats 2000000 in
set_option maxRecDepth 20000 in
theorem Joo (c : Ctl) (s : Sta) (h : RS c s) (hc : RC c) (hL : Lg c) (e : Jcc c s = none) : Pure Tryz.prog GL 21 [c.av, s.av] (.tup [Jbv.av, .p (.lst 1 []), .p (.int .i64 21)]) := by
 have hRt := Jhz c s h hc hL
 unfold Jcc at e
 refine Pure.of_walk (N := 43) Tryz.func21 rfl rfl rfl (by simp) rfl ?_
 simp
 refine Jab hRt ?_
 simp
 refine Jai.go [2, 3, 4] [0, 2] 0 [] (fun _ => []) (fun nx (g : RstS) => [(8, .p (.lst 1 (g.A.map Int.enc))), (19, .p (.int .i64 g.k))]) (fun nx g => [(1, some (.cells 5 [[.p (.lst 1 (g.u.ends.map nenc)), .p (.lst 1 (g.u.valves.map Bool.enc)), .p (.lst 1 (g.u.inputs.map Bool.enc)), .p (.lst 1 (g.u.values.map Bool.enc)), .p (.lst 1 (g.u.timers.map nenc))]]))]) (fun g => g.k + g.m = 65 /\ RS c g.u /\ g.A.length <= 4200 * g.k /\ calmT c g.m g.u = none) (fun g => g.m) ⟨0, 65, s, []⟩ ⟨rfl, h, by simp, e⟩ ?_ ?_
 . simp
   try decide
 rintro ⟨k, m, u, A⟩ ⟨hk, hu, hA, hcm⟩
 simp only at hk hu hA hcm
 simp
 refine Jan (fun h3 => ?_) (fun h3 => ?_)
 . simp at h3
   obtain ⟨m, rfl⟩ : ∃ m', m = m' + 1 := ⟨m - 1, by omega⟩
   rw [calmT] at hcm
   cases hp : pRnd c u with
   | none =>
     have hRd := Joq c u hu hc hL hp
     simp
     refine Jab hRd ?_
     simp [Jaa, Jbv]
   | some v =>
     rw [hp] at hcm
     simp only at hcm
     have hRd := Jkk c u v hu hc hL hp
     have hv := hu.pRnd hc.kinds hp
     have hM := Jkg A (rdL c u) (by have := @Jg9 c u hc; omega)
     have hSS := Jh0 v u (hv.small hc)
     have hml := @Jiw A (rdL c u)
     have hrl := @Jg9 c u hc
     simp
     refine Jab hRd ?_
     simp
     refine Jab hM ?_
     simp
     refine Jab hSS ?_
     by_cases hvu : v = u
     . rw [if_pos hvu] at hcm
       cases hcm
     . rw [if_neg hvu] at hcm
       simp [hvu]
       exact ⟨wrap_i64 (by omega) (by omega), ⟨k + 1, m, v, mrgI A (rdL c u)⟩, ⟨by show k + 1 + m = 65; omega, hv, by show (mrgI A (rdL c u)).length <= 4200 * (k + 1); omega, hcm⟩, by show m < m + 1; omega, ⟨rfl, by show (k : Int) + 1 = ((k + 1 : Nat) : Int); omega⟩, rfl, rfl, rfl, rfl, rfl⟩
 . simp at h3
   simp [Jaa, Jbv]
def Jl5 (c : Ctl) (s : Sta) : Bool := decide (pRnd c s = some s)
theorem Jvb (c : Ctl) (s : Sta) (h : RS c s) (hc : RC c) (hL : Lg c) : Pure Tryz.prog GL 48 [c.av, s.av] (.tup [.p (.bool (Jl5 c s)), .p (.int .i64 0)]) := by
 refine Pure.of_walk (N := 30) Tryz.func48 rfl rfl rfl (by simp) (by first | (simp; done) | simp [*]) ?_
 have hRt := Jhz c s h hc hL
 unfold Jl5
 cases hp : pRnd c s with
 | none =>
   have hRd := Joq c s h hc hL hp
   simp
   refine Jab hRt ?_
   simp
   refine Jab hRd ?_
   simp [Jaa]
 | some v =>
   have hRd := Jkk c s v h hc hL hp
   have hv := h.pRnd hc.kinds hp
   have hSS := Jh0 v s (hv.small hc)
   simp
   refine Jab hRt ?_
   simp
   refine Jab hRd ?_
   simp
   refine Jab hSS ?_
   simp [Jaa]
theorem Jkh (c : Ctl) (s : Sta) (h : RS c s) (hc : RC c) (hL : Lg c) (hq : Jb8 c s) : Pure Tryz.prog GL 23 [c.av, s.av] (.p (.int .i64 0)) := by
 refine Pure.of_walk (N := 20) Tryz.func23 rfl rfl rfl (by simp) (by first | (simp; done) | simp [*]) ?_
 have hQ := Jvb c s h hc hL
 rw [show Jl5 c s = true from decide_eq_true hq] at hQ
 simp
 refine Jab hQ ?_
 simp [Jaa]
noncomputable def Jb9 (c : Ctl) (s : Sta) : List Int := Jdt c 65 s []
theorem J1p {c : Ctl} {s : Sta} (hc : RC c) : (Jb9 c s).length <= 273000 := by
 have := @Jou c hc 65 s []
 simpa [Jb9] using this
theorem Jot (c : Ctl) (t : Sta) (hc : RC c) (hL : Lg c) (e : Jcc c (Jch c) = some t) : Pure Tryz.prog GL 7 [c.av] (.tup [t.av, .p (.lst 1 ((Jb9 c (Jch c)).map Int.enc)), .p (.int .i64 0)]) := by
 have hF := Jof c hc hL
 have hR := Jop c (Jch c) t (Jid hc) hc hL e
 change Pure _ _ _ _ (.tup [t.av, .p (.lst 1 ((Jb9 c (Jch c)).map Int.enc)), .p (.int .i64 0)]) at hR
 generalize Jch c = f at *
 generalize Jb9 c f = R at *
 refine Pure.of_walk (N := 22) Tryz.func7 rfl rfl rfl (by simp) rfl ?_
 simp
 refine Jab hF ?_
 simp
 refine Jab hR ?_
 simp [Jaa]
theorem Jvz (c : Ctl) (hc : RC c) (hL : Lg c) (e : Jcc c (Jch c) = none) : Pure Tryz.prog GL 7 [c.av] (.tup [Jbv.av, .p (.lst 1 []), .p (.int .i64 21)]) := by
 have hF := Jof c hc hL
 have hR := Joo c (Jch c) (Jid hc) hc hL e
 generalize Jch c = f at *
 refine Pure.of_walk (N := 22) Tryz.func7 rfl rfl rfl (by simp) rfl ?_
 simp
 refine Jab hF ?_
 simp
 refine Jab hR ?_
 simp [Jaa, Jbv]
end Go.Am
namespace Go.Am
open Go Go.Proofs Go.Pn
@[simp] def Evt.enc (e : Evt) : List PV := [.int .i64 e.kind, .int .i64 e.idx, .bool e.val]
@[simp] def Evt.row (e : Evt) : List AV := [.p (.int .i64 e.kind), .p (.int .i64 e.idx), .p (.bool e.val)]
@[simp] def Evt.av (e : Evt) : AV := .agg [.p (.int .i64 e.kind), .p (.int .i64 e.idx), .p (.bool e.val)]
def endP (s : Sta) (i : Nat) : Bool := decide (s.ends.getD i 0 = 1) || decide (s.ends.getD i 0 = 3)
def timP (s : Sta) (i : Nat) : Bool := decide (s.timers.getD i 0 = 1)
def strU (s : Sta) (k : Nat) : List Evt := ((List.range k).filter (endP s)).map fun (i : Nat) => ⟨0, (i : Int), false⟩
def timU (s : Sta) (k : Nat) : List Evt := Jgf s ++ ((List.range k).filter (timP s)).map fun (i : Nat) => ⟨1, (i : Int), false⟩
theorem J2l {s : Sta} : strU s 0 = [] := rfl
theorem J2i {s : Sta} : strU s s.ends.length = Jgf s := rfl
theorem J2k {s : Sta} {k : Nat} (h : endP s k = true) : strU s (k + 1) = strU s k ++ [⟨0, (k : Int), false⟩] := by
 unfold strU
 rw [List.range_succ, List.filter_append, List.map_append]; simp [h]
theorem J2j {s : Sta} {k : Nat} (h : endP s k = false) : strU s (k + 1) = strU s k := by
 unfold strU
 rw [List.range_succ, List.filter_append, List.map_append]; simp [h]
theorem Jso {s : Sta} {k : Nat} : (strU s k).length <= k := by
 unfold strU
 rw [List.length_map]
 exact Nat.le_trans (List.length_filter_le ..) (by simp)
theorem J2v {s : Sta} : timU s 0 = Jgf s := by unfold timU; simp
theorem J2r {s : Sta} : timU s s.timers.length = Jbh s := rfl
theorem J2u {s : Sta} {k : Nat} (h : timP s k = true) : timU s (k + 1) = timU s k ++ [⟨1, (k : Int), false⟩] := by
 unfold timU
 rw [List.range_succ, List.filter_append, List.map_append]; simp [h]
theorem J2t {s : Sta} {k : Nat} (h : timP s k = false) : timU s (k + 1) = timU s k := by
 unfold timU
 rw [List.range_succ, List.filter_append, List.map_append]; simp [h]
theorem J2s {s : Sta} {k : Nat} : (timU s k).length <= s.ends.length + k := by
 have h1 : (Jgf s).length <= s.ends.length := @Jso s s.ends.length
 unfold timU
 rw [List.length_append, List.length_map]
 have := List.length_filter_le (timP s) (List.range k)
 rw [List.length_range] at this
 omega
def evtT (b0 : Nat) : Jap := [(2, .ptr b0 1 0 0)]
def outE (b1 : Nat) (l : List Evt) : ABlk := .cells 1 [[.acc b1 3 l.length]]
@[simp] theorem J4b {b : Nat} {l : List Evt} : Jh4 (outE b l) = b := rfl
def Jto (i : LoopI) : Prop :=
 ∀ (l : List Evt) (e : Evt) (s : Store) (nx b0 b1 lam : Nat), l.length <= 2000 -> [lam, b0, b1].Nodup -> (∀ b ∈ [lam, b0, b1], b < nx) -> get s b0 = some (outE b1 l) -> get s b1 = accB 3 (l.map Evt.row) -> get s lam = some (.loop i (evtT b0) none) ->
   GivesY Tryz.prog GL i.l [e.av] s nx (.p (.bool true)) [lam, b0, b1] [(lam, some (.loop i (evtT b0) none)), (b0, some (outE nx (l ++ [e]))), (nx, accB 3 ((l ++ [e]).map Evt.row)), (b1, none)] (nx + 1)
theorem Jrv {b0 lam nx : Nat} {L : List Evt} : renS (Jaq [b0, lam] nx 1) [(0, some (outE 2 L)), (2, accB 3 (L.map Evt.row))] = some [(b0, some (outE nx L)), (nx, accB 3 (L.map Evt.row))] := by
 by_cases h : L = []
 . subst h; rfl
 . have e : accB 3 (L.map Evt.row) = some (.cells 3 (L.map Evt.row)) := by simp [accB, h]
   have e2 : ∀ ρ, renR ρ (L.map Evt.row) = some (L.map Evt.row) := fun ρ => Jao fun x => rfl
   rw [e]
   have e3 : renB [b0, lam, nx] (.cells 3 (L.map Evt.row)) = some (.cells 3 (L.map Evt.row)) := by show (renR _ _).map _ = _; rw [e2]; rfl
   have e4 : renB [b0, lam, nx] (outE 2 L) = some (outE nx L) := rfl
   simp [-renB, renS, e3, e4, Jaq]
theorem Jgv {ρ : List Nat} {L : List Evt} : (match accB 3 (L.map Evt.row) with
   | some y => Jaj (renB ρ y) fun y' => accB 3 (L.map Evt.row) = some y'
   | none => True) := by
 by_cases h : L = []
 . subst h; exact trivial
 . have e : accB 3 (L.map Evt.row) = some (.cells 3 (L.map Evt.row)) := by simp [accB, h]
   have e3 : renB ρ (.cells 3 (L.map Evt.row)) = some (.cells 3 (L.map Evt.row)) := by show (renR _ _).map _ = _; rw [Jao fun x => rfl]; rfl
   rw [e]
   simp [-renB, e3]
theorem J1c {ρ : List Nat} {b : Nat} (h : ρ[b]? = some b) : (Jaj (renB ρ (outE b [])) fun z => wknB (.cells 1 [[.nils]]) z) := by
 unfold outE
 simp [h]
theorem Jgw {ρ : List Nat} {s' : Store} {b k : Nat} {L : List Evt} (h : (ρ[b]?).bind (get s') = accB k (L.map Evt.row)) : Jcr ρ s' b (accB k (L.map Evt.row)) = True := Jds h (Jao fun _ => rfl)
@[simp] def staP (s : Sta) : AV := .iptr 5 [[.lst 1 (s.ends.map nenc), .lst 1 (s.valves.map Bool.enc), .lst 1 (s.inputs.map Bool.enc), .lst 1 (s.values.map Bool.enc), .lst 1 (s.timers.map nenc)]] 0 0
set_option maxHeartbeats 2000000 in
set_option maxRecDepth 20000 in
theorem Jxs {i : LoopI} (hY : Jto i) (s : Sta) (h : SmS s) (st : Store) (nx b0 lam : Nat) (hnd : [b0, lam].Nodup) (hlt : ∀ b ∈ [b0, lam], b < nx) (g0 : get st b0 = some (.cells 1 [[.nils]])) (g3 : get st lam = some (.loop i (evtT b0) none)) :
   Gives Tryz.prog GL 84 [.fn (.yield i.l) [], staP s] st nx (.tup []) [b0, lam] [(b0, some (outE nx (Jbh s))), (nx, accB 3 ((Jbh s).map Evt.row))] (nx + 1) := by
 obtain ⟨k1, k2, k3, k4, k5⟩ := h
 have hl0 : renB [b0, lam] (.loop i (evtT 0) none) = some (.loop i (evtT b0) none) := rfl
 have e3 : ∀ (c : Nat) (l : List Evt), renB (List.range 2 ++ [c]) (outE 2 l) = some (outE c l) := fun c l => rfl
 have e9 : ∀ c : Nat, renB (List.range 2 ++ [c]) (.loop i (evtT 0) none) = some (.loop i (evtT 0) none) := fun c => rfl
 have f3 : ∀ (c : Nat) (l : List Evt), renB [0, 1, c] (outE 2 l) = some (outE c l) := fun c l => rfl
 have f9 : ∀ c : Nat, renB [0, 1, c] (.loop i (evtT 0) none) = some (.loop i (evtT 0) none) := fun c => rfl
 have hL : Jce [b0, lam] nx [(0, some (.cells 1 [[.nils]])), (1, some (.loop i (evtT 0) none))] st [.fn (.yield i.l) [], staP s] [.fn (.yield i.l) [], staP s] := by
   refine ⟨?_, rfl, hnd, hlt, rfl⟩
   simp [-renB, g0, g3, hl0]
   try exact rfl
 refine Gives.mk_walkK (N := 47) (args := [.fn (.yield i.l) [], staP s]) [b0, lam] []
   [(0, some (.cells 1 [[.nils]])), (1, some (.loop i (evtT 0) none))] [(0, some (outE 2 (Jbh s))), (2, accB 3 ((Jbh s).map Evt.row))] 2 1 (.tup []) (fun st => [Jh5 0 st]) (up1 := [(b0, some (outE nx (Jbh s))), (nx, accB 3 ((Jbh s).map Evt.row))]) Tryz.func84 rfl rfl rfl (by simp) rfl
   hL (by simp) rfl Jrv (by simp) rfl ?_
 simp [-renB]
 refine Jai.go [0, 1, 8, 9] [1] 1 [2] (fun st => [Jh5 0 st]) (fun _ (k : Nat) => [(10, .p (.int .i64 k))]) (fun _ k => [(0, some (outE 2 (strU s k))), (2, accB 3 ((strU s k).map Evt.row))]) (fun k => k <= s.ends.length) (fun k => s.ends.length - k) 0 (by omega) ?_ ?_
 . simp [-renB, e9, J2l]
   exact ⟨J1c rfl, by decide⟩
 intro k hk
 simp [-renB]
 refine Jan (fun h => ?_) (fun h => ?_)
 . simp at h
   obtain ⟨v, e⟩ := Jae h
   have hln := @Jso s k
   have hy := @J2k s k
   have hn := @J2j s k
   have hp : endP s k = (decide (v = 1) || decide (v = 3)) := by unfold endP; rw [List.getD_eq_getElem?_getD, e]; rfl
   rw [hp] at hy hn
   by_cases v1 : v = 1
   . subst v1
     have hsn := hy rfl
     simp [-renB, h, e, -getElem?_pos, List.getElem?_cons_zero, List.getElem?_cons_succ]
     refine Jfe (hY (strU s k) ⟨0, (k : Int), false⟩ _ _ 0 2 1 (by omega) (by simp) (by simp) rfl ?_ rfl) ?_
     . simp
     simp [-renB, e3, e9]
     have em : (strU s k).map Evt.row ++ [[AV.p (PV.int IntKind.i64 0), AV.p (PV.int IntKind.i64 (k : Int)), AV.p (PV.bool false)]] = (strU s (k + 1)).map Evt.row := by rw [hsn, List.map_append]; rfl
     refine ⟨wrap_i64 (by omega) (by omega), k + 1, by omega, by omega, by omega, ⟨by rw [hsn]; exact .inl rfl, ?_⟩, by decide⟩
     rw [em]
     exact Jhv (fun _ => rfl) (by simp)
   have w1 : ¬ (v : Int) = 1 := by omega
   by_cases v3 : v = 3
   . subst v3
     have hsn := hy rfl
     simp [-renB, h, e, w1, -getElem?_pos, List.getElem?_cons_zero, List.getElem?_cons_succ]
     refine Jfe (hY (strU s k) ⟨0, (k : Int), false⟩ _ _ 0 2 1 (by omega) (by simp) (by simp) rfl ?_ rfl) ?_
     . simp
     simp [-renB, e3, e9]
     have em : (strU s k).map Evt.row ++ [[AV.p (PV.int IntKind.i64 0), AV.p (PV.int IntKind.i64 (k : Int)), AV.p (PV.bool false)]] = (strU s (k + 1)).map Evt.row := by rw [hsn, List.map_append]; rfl
     refine ⟨wrap_i64 (by omega) (by omega), k + 1, by omega, by omega, by omega, ⟨by rw [hsn]; exact .inl rfl, ?_⟩, by decide⟩
     rw [em]
     exact Jhv (fun _ => rfl) (by simp)
   . have w3 : ¬ (v : Int) = 3 := by omega
     have hsn := hn (by rw [decide_eq_false v1, decide_eq_false v3]; rfl)
     simp [-renB, h, e, w1, w3, -getElem?_pos, List.getElem?_cons_zero, List.getElem?_cons_succ]
     refine ⟨wrap_i64 (by omega) (by omega), k + 1, by omega, by omega, by omega, ?_⟩
     rw [hsn]
     simp [-renB, e3, e9, Jgw]
     decide
 . simp at h
   have hkn : k = s.ends.length := by omega
   subst hkn
   rw [J2i]
   simp [-renB, e3, e9]
   refine Jai.gor [0, 30, 31] [1] [0, 1, 2] (fun st => [0, 1, Jh5 0 st]) (fun (k : Nat) => [(32, .p (.int .i64 k))]) (fun k => [(0, some (outE 2 (timU s k))), (2, accB 3 ((timU s k).map Evt.row))]) (fun k => k <= s.timers.length) (fun k => s.timers.length - k) 0 (by omega) ?_ ?_
   . rw [J2v]
     simp [-renB, f3, f9, Jgw]
     try rfl
   intro k hk
   simp [-renB]
   refine Jan (fun h => ?_) (fun h => ?_)
   . simp at h
     obtain ⟨v, e⟩ := Jae h
     have hln := @J2s s k
     have hy := @J2u s k
     have hn := @J2t s k
     have hp : timP s k = decide (v = 1) := by unfold timP; rw [List.getD_eq_getElem?_getD, e]; rfl
     rw [hp] at hy hn
     by_cases v1 : v = 1
     . subst v1
       have hsn := hy rfl
       simp [-renB, h, e, -getElem?_pos, List.getElem?_cons_zero, List.getElem?_cons_succ]
       refine Jfe (hY (timU s k) ⟨1, (k : Int), false⟩ _ _ 0 2 1 (by omega) (by simp) (by simp) rfl ?_ rfl) ?_
       . simp
       simp [-renB, f3, f9]
       have em : (timU s k).map Evt.row ++ [[AV.p (PV.int IntKind.i64 1), AV.p (PV.int IntKind.i64 (k : Int)), AV.p (PV.bool false)]] = (timU s (k + 1)).map Evt.row := by rw [hsn, List.map_append]; rfl
       refine ⟨wrap_i64 (by omega) (by omega), k + 1, by omega, by omega, by omega, ⟨by rw [hsn]; exact .inl rfl, ?_⟩, rfl⟩
       rw [em]
       exact Jhv (fun _ => rfl) (by simp)
     . have w1 : ¬ (v : Int) = 1 := by omega
       have hsn := hn (decide_eq_false v1)
       simp [-renB, h, e, w1, -getElem?_pos, List.getElem?_cons_zero, List.getElem?_cons_succ]
       refine ⟨wrap_i64 (by omega) (by omega), k + 1, by omega, by omega, by omega, ?_⟩
       rw [hsn]
       simp [-renB, f3, f9, Jgw]
       rfl
   . simp at h
     have hkn : k = s.timers.length := by omega
     subst hkn
     rw [J2r]
     simp [-renB, e3, e9]
     exact ⟨Jgv, by decide⟩
theorem Jvd (s : Sta) : Pure Tryz.prog GL 60 [s.av] (.fn (.func 84) [staP s]) := by
 refine Pure.of_walk (N := 4) Tryz.func60 rfl rfl rfl (by simp) (by first | (simp; done) | simp [*]) ?_
 simp [Jaa]
theorem Jy3 {s : Store} {b0 b1 : Nat} {l : List Evt} (g0 : get s b0 = some (outE b1 l)) (g1 : get s b1 = accB 3 (l.map Evt.row)) :
   Jc0 [b0, b1] s [(0, some (outE 1 l)), (1, accB 3 (l.map Evt.row))] := by
 have e1 : renB [b0, b1] (outE 1 l) = some (outE b1 l) := rfl
 by_cases h : l = []
 . subst h
   simp [-renB, g0, e1]
 . have e : accB 3 (l.map Evt.row) = some (.cells 3 (l.map Evt.row)) := by simp [accB, h]
   have e3 : renB [b0, b1] (.cells 3 (l.map Evt.row)) = some (.cells 3 (l.map Evt.row)) := by show (renR _ _).map _ = _; rw [Jao fun x => rfl]; rfl
   rw [e] at g1 ⊢
   simp [-renB, g0, g1, e1, e3]
theorem Jy2 {s : Store} {b0 b1 : Nat} {l : List Evt} (g1 : get s b1 = accB 3 (l.map Evt.row)) :
   ∀ b b', [b0, b1][b]? = some b' -> get s b' ≠ none -> ∃ y, get [(0, some (outE 1 l)), (1, accB 3 (l.map Evt.row))] b = some y := by
 intro b b' hb hg
 match b, hb with
 | 0, _ => exact ⟨_, rfl⟩
 | 1, hb =>
   simp at hb
   subst hb
   rw [g1] at hg
   exact Option.ne_none_iff_exists'.1 hg
@[simp] def seqE (s : Sta) : AV := .fn (.func 84) [staP s]
set_option maxRecDepth 20000 in
theorem Jw8 (x : Sta) (hx : SmS x) (s : Store) (nx : Nat) :
   Gives Tryz.prog GL 83 [.nils, seqE x] s nx (.acc nx 3 (Jbh x).length) [] [(nx, accB 3 ((Jbh x).map Evt.row))] (nx + 1) := by
 refine Gives.mk_walkK (N := 13) (args := [.nils, seqE x]) [] [] [] [(0, accB 3 ((Jbh x).map Evt.row))] 0 1 (.acc 0 3 (Jbh x).length) (fun st => [nameOf (slot st.t 12)]) (up1 := [(nx, accB 3 ((Jbh x).map Evt.row))]) Tryz.func83 rfl rfl rfl (by simp) rfl (by simp [seqE]) (by simp) (by simp) (Jay rfl (Jao fun _ => rfl)) (by simp) rfl ?_
 simp [seqE]
 refine Jcw.intro [2] Tryz.func84 rfl rfl fun l0 fn => ?_
 refine ⟨_, _, _, _, none, Jxs (i := ⟨l0, 13, fn, #[7], _, _⟩) ?_ x hx _ _ 0 1 (by simp) (by simp) rfl rfl, rfl, ?_⟩
 . intro l v s nx b0 b1 lam hlen hnd hlt g0 g1 g3
   have hnd2 : [b0, b1].Nodup := (List.nodup_cons.1 hnd).2
   have hlt2 : ∀ b ∈ [b0, b1], b < nx := fun b hb => hlt b (List.mem_cons_of_mem _ hb)
   refine GivesY.of_walkA (σ := [b0, b1]) (t0 := evtT 0) (args := [v.av]) (free := [1]) (m := 2) (x := 1) (j := none)
     (s0 := [(0, some (outE 1 l)), (1, accB 3 (l.map Evt.row))])
     (s1 := [(0, some (outE 2 (l ++ [v]))), (2, accB 3 ((l ++ [v]).map Evt.row))])
     (fun st => [Jh5 0 st]) rfl ⟨Jy3 g0 g1, Jy2 g1, hnd2, hlt2, rfl⟩ g3 (List.nodup_cons.1 hnd).1 (hlt lam (by simp)) rfl rfl (by simp) (by simp) Jrv ?_
   simp [-renB, Jda, evtT, outE]
   refine ⟨by omega, Jdr.of ⟨rfl, ?_⟩⟩
   have em : List.map Evt.row l ++ [[AV.p (PV.int IntKind.i64 v.kind), AV.p (PV.int IntKind.i64 v.idx), AV.p (PV.bool v.val)]] = (l ++ [v]).map Evt.row := by simp
   rw [em]
   have ea : accB 3 ((l ++ [v]).map Evt.row) = some (.cells 3 ((l ++ [v]).map Evt.row)) := by simp [accB]
   rw [ea]
   have e1 : renB [0, 1, 4] (.cells 1 [[.acc 2 3 (l.length + 1)]]) = some (.cells 1 [[.acc 4 3 (l.length + 1)]]) := rfl
   have e3 : renB [0, 1, 4] (.cells 3 ((l ++ [v]).map Evt.row)) = some (.cells 3 ((l ++ [v]).map Evt.row)) := by show (renR _ _).map _ = _; rw [Jao fun x => rfl]; rfl
   refine ⟨?_, show [0, 1, 4].Nodup by decide, show [0, 1, 4].length <= 3 by decide⟩
   show Jdz [0, 1, 4] _ _ _
   simp [-renB, e1, e3, -List.map_append]
 . simp [Jea, outE]
   exact Jgv
theorem Jxa (x : Sta) (hx : SmS x) (s : Store) (nx : Nat) :
   Gives Tryz.prog GL 59 [seqE x] s nx (.acc nx 3 (Jbh x).length) [] [(nx, accB 3 ((Jbh x).map Evt.row))] (nx + 1) := by
 refine Gives.mk_walkK (N := 5) (args := [seqE x]) [] [] [] [(0, accB 3 ((Jbh x).map Evt.row))] 0 1 (.acc 0 3 (Jbh x).length) (fun st => [nameOf (slot st.t 4)]) (up1 := [(nx, accB 3 ((Jbh x).map Evt.row))]) Tryz.func59 rfl rfl rfl (by simp) rfl (by simp [seqE]) (by simp) (by simp) (Jay rfl (Jao fun _ => rfl)) (by simp) rfl ?_
 simp
 refine Jag (Jw8 x hx _ _) ?_
 simp
 exact Jgv
theorem Jlh (c : Ctl) (s : Sta) (h : RS c s) (hc : RC c) (hL : Lg c) (hq : Jb8 c s) (st : Store) (nx : Nat) :
   Gives Tryz.prog GL 39 [c.av, s.av] st nx (.tup [.acc nx 3 (Jbh s).length, .p (.int .i64 0)]) [] [(nx, accB 3 ((Jbh s).map Evt.row))] (nx + 1) := by
 have hQ := Jkh c s h hc hL hq
 have hP := Jvd s
 have hCo := Jxa s (h.small hc)
 generalize Jbh s = L at *
 refine Gives.mk_walkK (N := 16) (args := [c.av, s.av]) [] [] [] [(0, accB 3 (L.map Evt.row))] 0 1 (.tup [.acc 0 3 L.length, .p (.int .i64 0)]) (fun st => [nameOf (slot st.t 4)]) (up1 := [(nx, accB 3 (L.map Evt.row))]) Tryz.func39 rfl rfl rfl (by simp) rfl (by simp) (by simp) (by simp) (Jay rfl (Jao fun _ => rfl)) (by simp) rfl ?_
 simp
 refine Jab hQ ?_
 simp
 refine Jab hP ?_
 simp
 refine Jag (hCo _ _) ?_
 simp
 exact Jgv
end Go.Am
namespace Go.Am
open Go Go.Proofs Go.Pn
def plB (s : Sta) (a b i v t : Nat) : ABlk := .cells 5 [[.acc a 1 s.ends.length, .acc b 1 s.valves.length, .acc i 1 s.inputs.length, .acc v 1 s.values.length, .acc t 1 s.timers.length]]
def plS (s : Sta) : Store := [(0, accB 1 (s.ends.map nrow)), (1, accB 1 (s.valves.map Bool.row)), (2, accB 1 (s.inputs.map Bool.row)), (3, accB 1 (s.values.map Bool.row)), (4, accB 1 (s.timers.map nrow)), (5, some (plB s 0 1 2 3 4))]
structure PlAt (s : Sta) (st : Store) (nx a b i v t m : Nat) : Prop where
 nd : [a, b, i, v, t, m].Nodup
 lt : ∀ x ∈ [a, b, i, v, t, m], x < nx
 ga : get st a = accB 1 (s.ends.map nrow)
 gb : get st b = accB 1 (s.valves.map Bool.row)
 gi : get st i = accB 1 (s.inputs.map Bool.row)
 gv : get st v = accB 1 (s.values.map Bool.row)
 gt : get st t = accB 1 (s.timers.map nrow)
 gm : get st m = some (plB s a b i v t)
theorem Jf3 {s : Sta} {st : Store} {nx a b i v t m : Nat} {args args' : List AV} (h : PlAt s st nx a b i v t m) (ha : renL [a, b, i, v, t, m] args = some args') : Jcq [a, b, i, v, t, m] nx (plS s) st args args' := by
 have r0 : renB [a, b, i, v, t, m] (plB s 0 1 2 3 4) = some (plB s a b i v t) := rfl
 refine ⟨?_, fun k k' hk hg => ?_, h.nd, h.lt, ha⟩
 . simp [-renB, plS, Jc0, h.gm, r0]
   exact ⟨Jir h.ga, Jdy h.gb, Jdy h.gi, Jdy h.gv, Jir h.gt⟩
 . match k, hk with
   | 0, hk => simp at hk; subst hk; rw [h.ga] at hg; exact Option.ne_none_iff_exists'.1 hg
   | 1, hk => simp at hk; subst hk; rw [h.gb] at hg; exact Option.ne_none_iff_exists'.1 hg
   | 2, hk => simp at hk; subst hk; rw [h.gi] at hg; exact Option.ne_none_iff_exists'.1 hg
   | 3, hk => simp at hk; subst hk; rw [h.gv] at hg; exact Option.ne_none_iff_exists'.1 hg
   | 4, hk => simp at hk; subst hk; rw [h.gt] at hg; exact Option.ne_none_iff_exists'.1 hg
   | 5, _ => exact ⟨_, rfl⟩
theorem Jnr {ρ : List Nat} {L : List Bool} : (match accB 1 (L.map Bool.row) with
   | some y => Jaj (renB ρ y) fun y' => ABlk.cells 1 (L.map Bool.row) = y'
   | none => True) := by
 by_cases h : L = []
 . subst h; exact trivial
 . rw [Jat h]
   show Jaj ((renR _ _).map _) _
   rw [Jao fun x => rfl]; rfl
theorem Jj0 {ρ : List Nat} {L : List Nat} : (match accB 1 (L.map nrow) with
   | some y => Jaj (renB ρ y) fun y' => ABlk.cells 1 (L.map nrow) = y'
   | none => True) := by
 by_cases h : L = []
 . subst h; exact trivial
 . rw [Jat h]
   show Jaj ((renR _ _).map _) _
   rw [Jao fun x => rfl]; rfl
set_option maxHeartbeats 2000000 in
set_option maxRecDepth 20000 in
theorem Jx3 (s : Sta) (h : SmS s) (x : Evt) (hx : x.idx < 0 \/ (s.ends.length : Int) <= x.idx \/ ∃ k e : Nat, x.idx = k /\ s.ends[k]? = some e /\ e ≠ 1 /\ e ≠ 3) (st : Store) (nx a b i v t m : Nat) (hM : PlAt s st nx a b i v t m) :
   Gives Tryz.prog GL 51 [.ptr m 5 0 0, x.av] st nx (.p (.bool false)) [a, b, i, v, t, m] [] nx := by
 refine Gives.mk_walkA (N := 39) (args := [.ptr 5 5 0 0, x.av]) [a, b, i, v, t, m] [] (plS s) [] 6 0 (.p (.bool false)) (fun _ => []) (up1 := []) Tryz.func51 rfl rfl rfl (by simp) rfl (Jf3 hM rfl) (by simp) rfl rfl (by simp) rfl ?_
 simp [plS, plB]
 refine Jaf.intro (by kernel_rfl) ?_
 by_cases h1 : x.idx < 0
 . simp [h1]
   refine ⟨.of (by kernel_rfl), ?_⟩
   simp [plS, plB]
   exact ⟨Jaw, Jam, Jam, Jam, Jaw⟩
 by_cases h2 : (s.ends.length : Int) <= x.idx
 . simp [h1, h2]
   refine ⟨.of (by kernel_rfl), ?_⟩
   simp [plS, plB]
   exact ⟨Jaw, Jam, Jam, Jam, Jaw⟩
 obtain ⟨k, e, hk, he, n1, n3⟩ : ∃ k e : Nat, x.idx = k /\ s.ends[k]? = some e /\ e ≠ 1 /\ e ≠ 3 := by
   rcases hx with hx | hx | hx
   . exact absurd hx h1
   . exact absurd hx h2
   . exact hx
 have hkl := (gsI.1 he).1
 have hne : ¬ s.ends = [] := fun h => by rw [h] at he; cases he
 have w1 : ¬ (e : Int) = 1 := by omega
 have w3 : ¬ (e : Int) = 3 := by omega
 have c1 : ¬ (k : Int) < 0 := by omega
 have c2 : ¬ s.ends.length <= k := by omega
 simp only [hk] at *
 simp [c1, c2, -getElem?_pos, List.getElem?_cons_zero, List.getElem?_cons_succ]
 refine ⟨.of (by kernel_rfl), ?_⟩
 refine Jaf.intro (by kernel_rfl) ?_
 simp [hkl, he, hne, -getElem?_pos, List.getElem?_cons_zero, List.getElem?_cons_succ]
 refine ⟨.of (by kernel_rfl), ?_⟩
 simp [he, hne, w1, w3, -getElem?_pos, List.getElem?_cons_zero, List.getElem?_cons_succ]
 simp [plS, plB]
 exact ⟨Jaw, Jam, Jam, Jam, Jaw⟩
set_option maxHeartbeats 2000000 in
set_option maxRecDepth 20000 in
theorem Jx4 (s : Sta) (h : SmS s) (x : Evt) (k e e' : Nat) (hk : x.idx = k) (he : s.ends[k]? = some e) (hx : e = 1 /\ e' = 2 \/ e = 3 /\ e' = 0) (st : Store) (nx a b i v t m : Nat) (hM : PlAt s st nx a b i v t m) :
   Gives Tryz.prog GL 51 [.ptr m 5 0 0, x.av] st nx (.p (.bool true)) [a, b, i, v, t, m] [(a, accB 1 ((s.ends.set k e').map nrow))] nx := by
 have hkl := (gsI.1 he).1
 have hne : ¬ s.ends = [] := fun h => by rw [h] at he; cases he
 have c1 : ¬ (k : Int) < 0 := by omega
 have c2 : ¬ s.ends.length <= k := by omega
 have hs2 : (s.ends.map nrow).set k [.p (.int .i64 (e' : Int))] = (s.ends.set k e').map nrow := by rw [List.map_set]; rfl
 have hn2 : s.ends.set k e' ≠ [] := fun h => hne (by simpa using h)
 generalize hE : s.ends.set k e' = E at *
 refine Gives.mk_walkA (N := 39) (args := [.ptr 5 5 0 0, x.av]) [a, b, i, v, t, m] [] (plS s) [(0, accB 1 (E.map nrow))] 6 0 (.p (.bool true)) (fun _ => []) (up1 := [(a, accB 1 (E.map nrow))]) Tryz.func51 rfl rfl rfl (by simp) rfl (Jf3 hM rfl) (by simp) rfl (Jay rfl (Jao fun _ => rfl)) (by simp) rfl ?_
 simp [plS, plB, hk]
 refine Jaf.intro (by kernel_rfl) ?_
 simp [c1, c2, -getElem?_pos, List.getElem?_cons_zero, List.getElem?_cons_succ]
 refine ⟨.of (by kernel_rfl), ?_⟩
 refine Jaf.intro (by kernel_rfl) ?_
 simp [hkl, he, hne, -getElem?_pos, List.getElem?_cons_zero, List.getElem?_cons_succ]
 refine ⟨.of (by kernel_rfl), ?_⟩
 rcases hx with ⟨rfl, rfl⟩ | ⟨rfl, rfl⟩
 . simp only [Int.cast_ofNat_Int] at hs2
   simp [he, hne, hs2, -getElem?_pos, List.getElem?_cons_zero, List.getElem?_cons_succ]
   refine ⟨Jj0, ?_⟩
   simp [plS, plB]
   exact ⟨Jam, Jam, Jam, Jaw⟩
 . simp only [Int.cast_ofNat_Int] at hs2
   simp [he, hne, hs2, -getElem?_pos, List.getElem?_cons_zero, List.getElem?_cons_succ]
   refine ⟨Jj0, ?_⟩
   simp [plS, plB]
   exact ⟨Jam, Jam, Jam, Jaw⟩
set_option maxHeartbeats 2000000 in
set_option maxRecDepth 20000 in
theorem Jx6 (s : Sta) (h : SmS s) (x : Evt) (hx : x.idx < 0 \/ (s.timers.length : Int) <= x.idx \/ ∃ k e : Nat, x.idx = k /\ s.timers[k]? = some e /\ e ≠ 1) (st : Store) (nx a b i v t m : Nat) (hM : PlAt s st nx a b i v t m) :
   Gives Tryz.prog GL 52 [.ptr m 5 0 0, x.av] st nx (.p (.bool false)) [a, b, i, v, t, m] [] nx := by
 refine Gives.mk_walkA (N := 47) (args := [.ptr 5 5 0 0, x.av]) [a, b, i, v, t, m] [] (plS s) [] 6 0 (.p (.bool false)) (fun _ => []) (up1 := []) Tryz.func52 rfl rfl rfl (by simp) rfl (Jf3 hM rfl) (by simp) rfl rfl (by simp) rfl ?_
 simp [plS, plB]
 refine Jaf.intro (by kernel_rfl) ?_
 by_cases h1 : x.idx < 0
 . simp [h1]
   refine ⟨.of (by kernel_rfl), ?_⟩
   simp [plS, plB]
   exact ⟨Jaw, Jam, Jam, Jam, Jaw⟩
 by_cases h2 : (s.timers.length : Int) <= x.idx
 . simp [h1, h2]
   refine ⟨.of (by kernel_rfl), ?_⟩
   simp [plS, plB]
   exact ⟨Jaw, Jam, Jam, Jam, Jaw⟩
 obtain ⟨k, e, hk, he, n1⟩ : ∃ k e : Nat, x.idx = k /\ s.timers[k]? = some e /\ e ≠ 1 := by
   rcases hx with hx | hx | hx
   . exact absurd hx h1
   . exact absurd hx h2
   . exact hx
 have hkl := (gsI.1 he).1
 have hne : ¬ s.timers = [] := fun h => by rw [h] at he; cases he
 have w1 : ¬ (e : Int) = 1 := by omega
 have c1 : ¬ (k : Int) < 0 := by omega
 have c2 : ¬ s.timers.length <= k := by omega
 simp only [hk] at *
 simp [c1, c2, hkl, he, hne, w1, -getElem?_pos, List.getElem?_cons_zero, List.getElem?_cons_succ]
 refine ⟨.of (by kernel_rfl), ?_⟩
 simp [plS, plB]
 exact ⟨Jaw, Jam, Jam, Jam, Jaw⟩
set_option maxHeartbeats 2000000 in
set_option maxRecDepth 20000 in
theorem Jx7 (s : Sta) (h : SmS s) (x : Evt) (k : Nat) (hk : x.idx = k) (he : s.timers[k]? = some 1) (hvt : s.values.length = s.timers.length) (st : Store) (nx a b i v t m : Nat) (hM : PlAt s st nx a b i v t m) :
   Gives Tryz.prog GL 52 [.ptr m 5 0 0, x.av] st nx (.p (.bool true)) [a, b, i, v, t, m] [(v, accB 1 ((s.values.set k true).map Bool.row)), (t, accB 1 ((s.timers.set k 2).map nrow))] nx := by
 have hkl := (gsI.1 he).1
 have hne : ¬ s.timers = [] := fun h => by rw [h] at he; cases he
 obtain ⟨w, hw⟩ := Jae (xs := s.values) (k := k) (by omega)
 have hnv : ¬ s.values = [] := fun h => by rw [h] at hw; cases hw
 have hkv : k < s.values.length := by omega
 have c1 : ¬ (k : Int) < 0 := by omega
 have c2 : ¬ s.timers.length <= k := by omega
 have hs2 : (s.timers.map nrow).set k [.p (.int .i64 2)] = (s.timers.set k 2).map nrow := by rw [List.map_set]; rfl
 have hs3 : (s.values.map Bool.row).set k [.p (.bool true)] = (s.values.set k true).map Bool.row := by rw [List.map_set]
 have hn2 : s.timers.set k 2 ≠ [] := fun h => hne (by simpa using h)
 have hn3 : s.values.set k true ≠ [] := fun h => hnv (by simpa using h)
 generalize s.timers.set k 2 = T at *
 generalize s.values.set k true = V at *
 refine Gives.mk_walkA (N := 47) (args := [.ptr 5 5 0 0, x.av]) [a, b, i, v, t, m] [] (plS s) [(3, accB 1 (V.map Bool.row)), (4, accB 1 (T.map nrow))] 6 0 (.p (.bool true)) (fun _ => []) (up1 := [(v, accB 1 (V.map Bool.row)), (t, accB 1 (T.map nrow))]) Tryz.func52 rfl rfl rfl (by simp) rfl (Jf3 hM rfl) (by simp) rfl (Ja6 (Jay rfl (Jao fun _ => rfl)) (Jay rfl (Jao fun _ => rfl))) (by simp) rfl ?_
 simp [plS, plB, hk]
 refine Jaf.intro (by kernel_rfl) ?_
 simp [c1, c2, hkl, he, hne, -getElem?_pos, List.getElem?_cons_zero, List.getElem?_cons_succ]
 refine ⟨.of (by kernel_rfl), ?_⟩
 refine Jaf.intro (by kernel_rfl) ?_
 simp [hkl, he, hne, hw, hnv, hkv, hs2, hs3, -getElem?_pos, List.getElem?_cons_zero, List.getElem?_cons_succ]
 refine ⟨.of (by kernel_rfl), Jnr, Jj0, ?_⟩
 simp [plS, plB]
 exact ⟨Jaw, Jam, Jam⟩
set_option maxHeartbeats 2000000 in
set_option maxRecDepth 20000 in
theorem Jxp (s : Sta) (h : SmS s) (x : Evt) (hx : x.idx < 0 \/ (s.inputs.length : Int) <= x.idx \/ ∃ k : Nat, x.idx = k /\ s.inputs[k]? = some x.val) (st : Store) (nx a b i v t m : Nat) (hM : PlAt s st nx a b i v t m) :
   Gives Tryz.prog GL 53 [.ptr m 5 0 0, x.av] st nx (.p (.bool false)) [a, b, i, v, t, m] [] nx := by
 refine Gives.mk_walkA (N := 43) (args := [.ptr 5 5 0 0, x.av]) [a, b, i, v, t, m] [] (plS s) [] 6 0 (.p (.bool false)) (fun _ => []) (up1 := []) Tryz.func53 rfl rfl rfl (by simp) rfl (Jf3 hM rfl) (by simp) rfl rfl (by simp) rfl ?_
 simp [plS, plB]
 refine Jaf.intro (by kernel_rfl) ?_
 by_cases h1 : x.idx < 0
 . simp [h1]
   refine ⟨.of (by kernel_rfl), ?_⟩
   simp [plS, plB]
   exact ⟨Jaw, Jam, Jam, Jam, Jaw⟩
 by_cases h2 : (s.inputs.length : Int) <= x.idx
 . simp [h1, h2]
   refine ⟨.of (by kernel_rfl), ?_⟩
   simp [plS, plB]
   exact ⟨Jaw, Jam, Jam, Jam, Jaw⟩
 obtain ⟨k, hk, he⟩ : ∃ k : Nat, x.idx = k /\ s.inputs[k]? = some x.val := by
   rcases hx with hx | hx | hx
   . exact absurd hx h1
   . exact absurd hx h2
   . exact hx
 have hkl := (gsI.1 he).1
 have hne : ¬ s.inputs = [] := fun h => by rw [h] at he; cases he
 have c1 : ¬ (k : Int) < 0 := by omega
 have c2 : ¬ s.inputs.length <= k := by omega
 simp only [hk] at *
 simp [c1, c2, hkl, he, hne, -getElem?_pos, List.getElem?_cons_zero, List.getElem?_cons_succ]
 refine ⟨.of (by kernel_rfl), ?_⟩
 simp [plS, plB]
 exact ⟨Jaw, Jam, Jam, Jam, Jaw⟩
set_option maxHeartbeats 2000000 in
set_option maxRecDepth 20000 in
theorem Jxq (s : Sta) (h : SmS s) (x : Evt) (k : Nat) (w : Bool) (hk : x.idx = k) (he : s.inputs[k]? = some w) (hwx : w ≠ x.val) (st : Store) (nx a b i v t m : Nat) (hM : PlAt s st nx a b i v t m) :
   Gives Tryz.prog GL 53 [.ptr m 5 0 0, x.av] st nx (.p (.bool true)) [a, b, i, v, t, m] [(i, accB 1 ((s.inputs.set k x.val).map Bool.row))] nx := by
 have hkl := (gsI.1 he).1
 have hne : ¬ s.inputs = [] := fun h => by rw [h] at he; cases he
 have c1 : ¬ (k : Int) < 0 := by omega
 have c2 : ¬ s.inputs.length <= k := by omega
 have hs2 : (s.inputs.map Bool.row).set k [.p (.bool x.val)] = (s.inputs.set k x.val).map Bool.row := by rw [List.map_set]
 have hn2 : s.inputs.set k x.val ≠ [] := fun h => hne (by simpa using h)
 have hb : (w == x.val) = false := by simpa using hwx
 generalize s.inputs.set k x.val = T at *
 refine Gives.mk_walkA (N := 43) (args := [.ptr 5 5 0 0, x.av]) [a, b, i, v, t, m] [] (plS s) [(2, accB 1 (T.map Bool.row))] 6 0 (.p (.bool true)) (fun _ => []) (up1 := [(i, accB 1 (T.map Bool.row))]) Tryz.func53 rfl rfl rfl (by simp) rfl (Jf3 hM rfl) (by simp) rfl (Jay rfl (Jao fun _ => rfl)) (by simp) rfl ?_
 simp [plS, plB, hk]
 refine Jaf.intro (by kernel_rfl) ?_
 simp [c1, c2, hkl, he, hne, hb, -getElem?_pos, List.getElem?_cons_zero, List.getElem?_cons_succ]
 refine ⟨.of (by kernel_rfl), ?_⟩
 refine Jaf.intro (by kernel_rfl) ?_
 simp [hkl, he, hne, hs2, -getElem?_pos, List.getElem?_cons_zero, List.getElem?_cons_succ]
 refine ⟨.of (by kernel_rfl), Jnr, ?_⟩
 simp [plS, plB]
 exact ⟨Jaw, Jam, Jam, Jaw⟩
end Go.Am
