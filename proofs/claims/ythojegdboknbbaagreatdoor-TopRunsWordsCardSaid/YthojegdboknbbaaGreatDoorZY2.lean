/- Lemmas and contracts for the proof of a statement of this seat. -/
import Derived.Test.YthojegdboknbbaaGreatDoorZY1
import Derived.Test.YthojegdboknbbaaGreatDoorZX8
import Derived.Test.YthojegdboknbbaaGreatDoorZCA
set_option linter.unusedVariables false
set_option linter.unusedSimpArgs false
namespace Go.Am
open Go Go.Proofs Go.Pn
theorem Jkb (xs ys : List Bool) (hl : xs.length < 4611686018427387904) : Pure Tryz.prog GL 69 [.p (.lst 1 (xs.map Bool.enc)), .p (.lst 1 (ys.map Bool.enc))] (.p (.bool (decide (xs = ys)))) := by
 refine Pure.of_walk (N := 26) Tryz.func69 rfl rfl rfl (by simp) (by first | (simp; done) | simp [*]) ?_
 simp
 refine Jan (fun h0 => ?_) (fun h0 => ?_)
 . simp at h0
   have hne : ¬ xs = ys := fun h => h0 (by rw [h])
   simp [Jaa, hne]
 . simp at h0
   simp
   refine Jai.go [0, 1, 12] [] 0 [] (fun _ => []) (fun _ (k : Nat) => [(13, .p (.int .i64 k))]) (fun _ _ => []) (fun k => k <= xs.length /\ ∀ (j : Nat), j < k -> xs[j]? = ys[j]?) (fun k => xs.length - k) 0 ⟨by omega, fun j h => by omega⟩ ?_ ?_
   . simp
   . rintro k ⟨hk, hp⟩
     simp
     refine Jan (fun h => ?_) (fun h => ?_)
     . simp at h
       obtain ⟨x, e⟩ := Jae h
       have h2 : k < ys.length := by omega
       obtain ⟨y, e2⟩ := Jae h2
       simp
       refine Jaf.intro (by kernel_rfl) ?_
       simp [h, e, h2, e2, -getElem?_pos, List.getElem?_cons_zero, List.getElem?_cons_succ]
       refine ⟨.of (by kernel_rfl), ?_⟩
       refine Jan (fun h3 => ?_) (fun h3 => ?_)
       . have hne : ¬ xs = ys := fun h => by subst h; rw [e] at e2; cases e2; simp at h3
         simp [Jaa, hne]
       . have hxy : x = y := by simpa using h3
         subst hxy
         simp
         refine ⟨wrap_i64 (by omega) (by omega), k + 1, ⟨by omega, fun j hj => ?_⟩, by omega, ?_⟩
         . by_cases hjk : j = k
           . subst hjk; rw [e, e2]
           . exact hp j (by omega)
         . simp
     . simp at h
       have hk2 : k = xs.length := by omega
       have hxy : xs = ys := List.ext_getElem? fun j => by
         by_cases hj : j < k
         . exact hp j hj
         . rw [List.getElem?_eq_none (by omega), List.getElem?_eq_none (by omega)]
       simp [Jaa, hxy]
theorem Jp5 : ∀ {l m : List Nat}, ints l = ints m -> l = m
 | [], [], _ => rfl
 | [], _ :: _, h => by cases h
 | _ :: _, [], h => by cases h
 | a :: l, b :: m, h => by
   unfold ints at h
   rw [List.map_cons, List.map_cons, List.cons.injEq] at h
   rw [show a = b by omega, Jp5 h.2]
theorem Joa (l m : List Nat) (hl : l.length < 4611686018427387904) : Pure Tryz.prog GL 68 [.p (.lst 1 (l.map nenc)), .p (.lst 1 (m.map nenc))] (.p (.bool (decide (l = m)))) := by
 have h := Jug (ints l) (ints m) (by unfold ints; rw [List.length_map]; exact hl)
 have e : ∀ l : List Nat, (ints l).map Int.enc = l.map nenc := fun l => by unfold ints; rw [List.map_map]; rfl
 rw [e, e] at h
 have e2 : decide (ints l = ints m) = decide (l = m) := decide_eq_decide.2 ⟨Jp5, fun h => by rw [h]⟩
 rwa [e2] at h
@[simp] def Sta.av (s : Sta) : AV := .agg [.p (.lst 1 (s.ends.map nenc)), .p (.lst 1 (s.valves.map Bool.enc)), .p (.lst 1 (s.inputs.map Bool.enc)), .p (.lst 1 (s.values.map Bool.enc)), .p (.lst 1 (s.timers.map nenc))]
structure SmS (s : Sta) : Prop where
 e : s.ends.length <= 1000
 v : s.valves.length <= 1000
 i : s.inputs.length <= 1000
 w : s.values.length <= 1000
 t : s.timers.length <= 1000
theorem Jh0 (s t : Sta) (h : SmS s) : Pure Tryz.prog GL 44 [s.av, t.av] (.p (.bool (decide (s = t)))) := by
 refine Pure.of_walk (N := 38) Tryz.func44 rfl rfl rfl (by simp) (by first | (simp; done) | simp [*]) ?_
 obtain ⟨h1, h2, h3, h4, h5⟩ := h
 have e1 := Joa s.ends t.ends (by omega)
 have e2 := Jkb s.valves t.valves (by omega)
 have e3 := Jkb s.inputs t.inputs (by omega)
 have e4 := Jkb s.values t.values (by omega)
 have e5 := Joa s.timers t.timers (by omega)
 have hd : decide (s = t) = (decide (s.ends = t.ends) && (decide (s.valves = t.valves) && (decide (s.inputs = t.inputs) && (decide (s.values = t.values) && decide (s.timers = t.timers))))) := by
   rw [Bool.eq_iff_iff]
   simp only [Bool.and_eq_true, decide_eq_true_eq]
   exact ⟨fun h => by rw [h]; exact ⟨rfl, rfl, rfl, rfl, rfl⟩, fun ⟨a, b, c, d, e⟩ => by cases s; cases t; simp only at a b c d e; subst a; subst b; subst c; subst d; subst e; rfl⟩
 rw [hd]
 generalize decide (s.ends = t.ends) = b1 at *
 generalize decide (s.valves = t.valves) = b2 at *
 generalize decide (s.inputs = t.inputs) = b3 at *
 generalize decide (s.values = t.values) = b4 at *
 generalize decide (s.timers = t.timers) = b5 at *
 simp
 refine Jab e1 ?_
 cases b1
 . simp [Jaa]
 simp
 refine Jab e2 ?_
 cases b2
 . simp [Jaa]
 simp
 refine Jab e3 ?_
 cases b3
 . simp [Jaa]
 simp
 refine Jab e4 ?_
 cases b4
 . simp [Jaa]
 simp
 refine Jab e5 ?_
 simp [Jaa]
theorem Jdw (l : List Bool) (s : Store) (nx : Nat) (hn : l.length < 1000000) :
   Gives Tryz.prog GL 50 [.p (.lst 1 (l.map Bool.enc))] s nx (.acc nx 1 l.length) [] [(nx, accB 1 (l.map Bool.row))] (nx + 1) := by
 refine Gives.mk_walkK (N := 8) (args := [.p (.lst 1 (l.map Bool.enc))]) [] [] [] [(0, accB 1 (l.map Bool.row))] 0 1 (.acc 0 1 l.length) (nms [2]) (up1 := [(nx, accB 1 (l.map Bool.row))]) Tryz.func50 rfl rfl rfl (by simp) rfl (by simp) (by simp) (by simp) (Jay rfl (Jao fun _ => rfl)) (by simp) rfl ?_
 simp
 refine Jtd (fun h => ?_) (fun h => ?_)
 . subst h
   simp
 . have h0 : 0 < l.length := List.length_pos_iff.2 h
   have hrow : (fun x => List.map AV.p x) ∘ Bool.enc = Bool.row := rfl
   simp [h, h0, hrow, accB, Nat.pos_iff_ne_zero]
   omega
theorem Jfm (l : List Nat) (s : Store) (nx : Nat) (hn : l.length < 1000000) :
   Gives Tryz.prog GL 49 [.p (.lst 1 (l.map nenc))] s nx (.acc nx 1 l.length) [] [(nx, accB 1 (l.map nrow))] (nx + 1) := by
 have h := Jw9 (ints l) s nx (by unfold ints; rw [List.length_map]; exact hn)
 have e1 : Ints.av (ints l) = .p (.lst 1 (l.map nenc)) := by unfold Ints.av ints; rw [List.map_map]; rfl
 have e2 : (ints l).length = l.length := by unfold ints; rw [List.length_map]
 rw [e1, e2, <- Jp6] at h
 exact h
end Go.Am
namespace Go.Am
open Go Go.Proofs Go.Pn
theorem Ja6 {ρ : List Nat} {p p' : Nat × Option ABlk} {q q' : Store} (h1 : renS ρ [p] = some [p']) (h2 : renS ρ q = some q') : renS ρ (p :: q) = some (p' :: q') := by
 obtain ⟨b, x⟩ := p
 cases hb : ρ[b]? with
 | none => simp [renS, hb] at h1
 | some b' =>
   cases x with
   | none => simp [renS, hb] at h1 ⊢; simp [h1, h2]
   | some y =>
     cases hy : renB ρ y with
     | none => simp [-renB, renS, hb, hy] at h1
     | some z => simp [-renB, renS, hb, hy] at h1 ⊢; simp [h1, h2]
@[simp] def Sta.own (s : Sta) (a b c d e : Nat) : List AV := [.acc a 1 s.ends.length, .acc b 1 s.valves.length, .acc c 1 s.inputs.length, .acc d 1 s.values.length, .acc e 1 s.timers.length]
def staB (s : Sta) (a b c d e : Nat) : Store := [(a, accB 1 (s.ends.map nrow)), (b, accB 1 (s.valves.map Bool.row)), (c, accB 1 (s.inputs.map Bool.row)), (d, accB 1 (s.values.map Bool.row)), (e, accB 1 (s.timers.map nrow))]
theorem Jrw {s : Sta} {nx : Nat} : renS (Jaq [] nx 5) (staB s 0 1 2 3 4) = some (staB s nx (nx + 1) (nx + 2) (nx + 3) (nx + 4)) := by
 unfold staB
 exact Ja6 (Jay rfl (Jao fun _ => rfl)) (Ja6 (Jay rfl (Jao fun _ => rfl)) (Ja6 (Jay rfl (Jao fun _ => rfl)) (Ja6 (Jay rfl (Jao fun _ => rfl)) (Jay rfl (Jao fun _ => rfl)))))
theorem Jam {ρ : List Nat} {L : List Bool} : (match accB 1 (L.map Bool.row) with
   | some y => Jaj (renB ρ y) fun y' => accB 1 (L.map Bool.row) = some y'
   | none => True) := by
 by_cases h : L = []
 . subst h; exact trivial
 . have e : accB 1 (L.map Bool.row) = some (.cells 1 (L.map Bool.row)) := by simp [accB, h]
   have e3 : renB ρ (.cells 1 (L.map Bool.row)) = some (.cells 1 (L.map Bool.row)) := by show (renR _ _).map _ = _; rw [Jao fun x => rfl]; rfl
   rw [e]
   simp [-renB, e3]
theorem Jig (t : Sta) (h : SmS t) (s : Store) (nx : Nat) :
   Gives Tryz.prog GL 24 [t.av] s nx (.agg (t.own nx (nx + 1) (nx + 2) (nx + 3) (nx + 4))) [] (staB t nx (nx + 1) (nx + 2) (nx + 3) (nx + 4)) (nx + 5) := by
 obtain ⟨h1, h2, h3, h4, h5⟩ := h
 refine Gives.mk_walkK (N := 19) (args := [t.av]) [] [] [] (staB t 0 1 2 3 4) 0 5 (.agg (t.own 0 1 2 3 4)) (nms [5, 8, 11, 14, 17]) (up1 := staB t nx (nx + 1) (nx + 2) (nx + 3) (nx + 4)) Tryz.func24 rfl rfl rfl (by simp) rfl (by simp) (by simp) (by simp) Jrw (by simp) rfl ?_
 simp
 refine Jaf.intro (by kernel_rfl) ?_
 simp
 refine Jag (Jfm t.ends _ _ (by omega)) ?_
 simp
 refine Jag (Jdw t.valves _ _ (by omega)) ?_
 simp
 refine Jag (Jdw t.inputs _ _ (by omega)) ?_
 simp
 refine Jag (Jdw t.values _ _ (by omega)) ?_
 simp
 refine Jag (Jfm t.timers _ _ (by omega)) ?_
 simp
 refine ⟨.of (by kernel_rfl), ?_⟩
 simp [staB]
 exact ⟨Jaw, Jam, Jam, Jam, Jaw⟩
end Go.Am
namespace Go.Am
open Go Go.Proofs Go.Pn
def twoB (e : Nat) : List Bool := [decide (e = 0), decide (e = 2)]
def endB (s : Sta) (k : Nat) : List Bool := (s.ends.take k).flatMap twoB
theorem Jo6 {s : Sta} : endB s 0 = [] := rfl
theorem Jo5 {s : Sta} {k e : Nat} (h : s.ends[k]? = some e) : endB s (k + 1) = endB s k ++ twoB e := by
 unfold endB
 rw [take_snoc h, List.flatMap_append]; simp
theorem Jo4 {s : Sta} {k : Nat} : (endB s k).length <= 2 * k := by
 unfold endB
 rw [List.length_flatMap]
 have h1 : ∀ l : List Nat, (l.map fun e => (twoB e).length).sum = 2 * l.length := fun l => by
   induction l with
   | nil => rfl
   | cons a l ih => rw [List.map_cons, List.sum_cons, ih, List.length_cons]; show 2 + 2 * l.length = _; omega
 rw [h1, List.length_take]; omega
theorem Jqm {s : Sta} : Jax s = endB s s.ends.length ++ s.inputs ++ s.values := by
 unfold Jax endB
 rw [List.take_length]; rfl
end Go.Am
namespace Go.Am
open Go Go.Proofs Go.Pn
theorem RS.small {c : Ctl} {s : Sta} (h : RS c s) (hc : RC c) : SmS s := by
 have h1 := h.act
 have h2 := hc.act
 have h3 := h.valves
 have h4 := h.inputs
 have h5 := h.values
 have h6 := h.timers
 have h7 := hc.inputs
 have h8 := hc.sigs
 exact ⟨by omega, by omega, by omega, by omega, by omega⟩
theorem RC.sm {c : Ctl} (hc : RC c) (hL : Lg c) : Sm c := by
 have h2 := hc.act
 have h7 := hc.inputs
 have h8 := hc.sigs
 exact hL.sm (by omega) (by omega)
theorem Jh1 (c : Ctl) (h : Sm c) : Pure Tryz.prog GL 64 [c.av] (.p (.int .i64 (fstN c))) := by
 refine Pure.of_walk (N := 10) Tryz.func64 rfl rfl rfl (by simp) (by first | (simp; done) | simp [*]) ?_
 obtain ⟨h1, h2, h3, h4, _, _⟩ := h
 simp [h1]
 refine ⟨wrap_i64 (by omega) (by omega), wrap_i64 (by omega) (by omega), ?_⟩
 simp [Jaa, fstN]
theorem Jke (c : Ctl) (h : Sm c) : Pure Tryz.prog GL 93 [c.av] (.p (.int .i64 (cntN c))) := by
 refine Pure.of_walk (N := 9) Tryz.func93 rfl rfl rfl (by simp) (by first | (simp; done) | simp [*]) ?_
 have hF := Jh1 c h
 obtain ⟨h1, h2, h3, h4, _, _⟩ := h
 have hfn : fstN c <= 100 := by unfold fstN; omega
 simp
 refine Jaf.intro (by kernel_rfl) ?_
 simp
 refine Jab hF ?_
 simp
 refine ⟨wrap_i64 (by omega) (by omega), .of (by kernel_rfl), ?_⟩
 simp [Jaa, cntN]
theorem Joi (x : Ex) : Pure Tryz.prog GL 116 [x.av] (.p (.bool (Jdb x))) := by
 refine Pure.of_walk (N := 17) Tryz.func116 rfl rfl rfl (by simp) (by first | (simp; done) | simp [*]) ?_
 unfold Jdb
 by_cases h1 : x.op = 0
 . by_cases h2 : x.idx = 0
   . simp [h1, h2, Jaa]
   . simp [h1, h2, Jaa]
 . simp [h1, Jaa]
theorem Joh (x m : Int) : Pure Tryz.prog GL 97 [.p (.int .i64 x), .iptr 1 [[.int .i64 m]] 0 0] (.p (.bool (decide (x < 0) || decide (m <= x)))) := by
 refine Pure.of_walk (N := 11) Tryz.func97 rfl rfl rfl (by simp) (by first | (simp; done) | simp [*]) ?_
 by_cases h1 : x < 0
 . simp [h1, Jaa]
 . simp [h1, Jaa]
theorem Juv (m : Int) : Pure Tryz.prog GL 96 [.p (.int .i64 m)] (.fn (.func 97) [.iptr 1 [[.int .i64 m]] 0 0]) := by
 refine Pure.of_walk (N := 4) Tryz.func96 rfl rfl rfl (by simp) (by first | (simp; done) | simp [*]) ?_
 simp [Jaa]
theorem Jnv {l : List Nat} {m : Nat} {k : Int} (hk : k = m) (h : ∀ n ∈ l, n < m) : ((ints l).any fun x => decide (x < 0) || decide (k <= x)) = false := by
 rw [List.any_eq_false]
 intro x hx
 obtain ⟨n, hn, rfl⟩ := List.mem_map.1 hx
 have := h n hn
 simp
 omega
set_option maxRecDepth 20000 in
set_option maxHeartbeats 1000000 in
theorem Juu (c : Ctl) (s : Sta) (h : RS c s) (hc : RC c) : Pure Tryz.prog GL 65 [c.av, s.av] (.p (.int .i64 0)) := by
 refine Pure.of_walk (N := 97) Tryz.func65 rfl rfl rfl (by simp) (by first | (simp; done) | simp [*]) ?_
 obtain ⟨k1, k2, k3, k4, k5⟩ := h.small hc
 have e1 := h.act
 have e2 := h.valves
 have e3 := h.inputs
 have e4 := h.values
 have e5 := h.timers
 have f1 := fun m => Juv m
 have g1 := Jka (ints s.ends) (fun x => decide (x < 0) || decide (4 <= x)) 97 [.iptr 1 [[.int .i64 4]] 0 0] rfl (by unfold ints; rw [List.length_map]; omega) (fun x _ => Joh x 4)
 have g2 := Jka (ints s.timers) (fun x => decide (x < 0) || decide (3 <= x)) 97 [.iptr 1 [[.int .i64 3]] 0 0] rfl (by unfold ints; rw [List.length_map]; omega) (fun x _ => Joh x 3)
 have e : ∀ l : List Nat, (ints l).map Int.enc = l.map nenc := fun l => by unfold ints; rw [List.map_map]; rfl
 rw [e, Jnv (k := 4) (m := 4) rfl h.ends4] at g1
 rw [e, Jnv (k := 3) (m := 3) rfl h.tim3] at g2
 have q1 : (s.ends.length : Int) = c.act := by omega
 simp [e1, e2, e3, e4, e5]
 refine Jaf.intro (by kernel_rfl) ?_
 simp
 refine Jab (f1 4) ?_
 simp
 refine Jab g1 ?_
 simp
 refine Jab (f1 3) ?_
 simp
 refine Jab g2 ?_
 simp
 refine ⟨.of (by kernel_rfl), ?_⟩
 refine Jai.go [2, 3, 63, 64] [0, 1] 0 [] (fun _ => []) (fun _ (j : Nat) => [(65, .p (.int .i64 j))]) (fun _ _ => []) (fun j => j <= c.sigs.length) (fun j => c.sigs.length - j) 0 (by omega) ?_ ?_
 . simp
   try decide
 intro j hj
 simp
 refine Jan (fun h3 => ?_) (fun h3 => ?_)
 . simp at h3
   obtain ⟨x, ex⟩ := Jae (xs := c.sigs) (k := j) (by omega)
   obtain ⟨t, et⟩ := Jae (xs := s.timers) (k := j) (by omega)
   obtain ⟨v, ev⟩ := Jae (xs := s.values) (k := j) (by omega)
   have hf := h.fit j x ex
   rw [List.getD_eq_getElem?_getD, List.getD_eq_getElem?_getD, ev, et] at hf
   have hj2 : j < s.timers.length := by omega
   have hj3 : j < s.values.length := by omega
   have hj4 : j < c.sigs.length := by omega
   simp [h3, ex, et, hj2, hj4, -getElem?_pos, List.getElem?_cons_zero, List.getElem?_cons_succ]
   by_cases k2 : x.kind = 2
   . rw [if_pos k2] at hf
     have hf2 : v = decide (t = 2) := hf
     simp [k2, h3, ex, et, ev, hj2, hj3, hj4, -getElem?_pos, List.getElem?_cons_zero, List.getElem?_cons_succ]
     have ht : decide ((t : Int) = 2) = v := by rw [hf2]; exact decide_eq_decide.2 (by omega)
     rw [ht]
     have hb : (!v == v) = false := by cases v <;> rfl
     rw [hb]
     simp
     exact ⟨wrap_i64 (by omega) (by omega), j + 1, by omega, by omega, by omega⟩
   . rw [if_neg k2] at hf
     have hf2 : t = 0 := hf
     simp [k2, hf2, h3, ex, et, ev, hj2, hj3, hj4, -getElem?_pos, List.getElem?_cons_zero, List.getElem?_cons_succ]
     exact ⟨wrap_i64 (by omega) (by omega), j + 1, by omega, by omega, by omega⟩
 . simp at h3
   simp [Jaa]
end Go.Am
namespace Go.Am
open Go Go.Proofs Go.Pn
theorem Juj (xs : List Ex) (q : Ex -> Bool) (m : Nat) (cap : List AV) (hcap : Ja5 cap = true) (hl : xs.length < 4611686018427387904) (hq : ∀ x ∈ xs, Pure Tryz.prog GL m ((Ex.av x) :: cap) (.p (.bool (q x)))) : Pure Tryz.prog GL 165 [.p (.lst 3 (xs.map Ex.enc)), .fn (.func m) cap] (.p (.int .i64 (idxI xs q))) := by
 refine Pure.of_walk (N := 19) Tryz.func165 rfl rfl rfl (by simp) (by first | (simp; done) | simp [*]) ?_
 have hren := fun ρ => (Jf7 (ρ := ρ)).2 cap hcap
 simp
 refine Jai.go [0, 1, 7] [] 0 [] (fun _ => []) (fun _ (k : Nat) => [(8, .p (.int .i64 k))]) (fun _ _ => []) (fun k => k <= xs.length /\ ∀ (j : Nat) x, j < k -> xs[j]? = some x -> q x = false) (fun k => xs.length - k) 0 ⟨by omega, fun j b h => by omega⟩ ?_ ?_
 . simp [hren]
 . rintro k ⟨hk, hp⟩
   simp
   refine Jan (fun h => ?_) (fun h => ?_)
   . simp at h
     obtain ⟨x, e⟩ := Jae h
     simp [h, e, -getElem?_pos, List.getElem?_cons_zero, List.getElem?_cons_succ]
     refine Jab (hq x (List.mem_of_getElem? e)) ?_
     simp
     refine Jan (fun h2 => ?_) (fun h2 => ?_)
     . simp [Jaa, Jp0 e h2 hp]
     . simp [hren]
       refine ⟨wrap_i64 (by omega) (by omega), k + 1, ⟨by omega, Jn3 hp e h2⟩, by omega, ?_⟩
       simp [hren]
   . simp at h
     have hk2 : k = xs.length := by omega
     subst hk2
     simp [Jaa, Jp1 (Jn2 hp)]
theorem Jn7 (xs : List Ex) (q : Ex -> Bool) (m : Nat) (cap : List AV) (hcap : Ja5 cap = true) (hl : xs.length < 4611686018427387904) (hq : ∀ x ∈ xs, Pure Tryz.prog GL m ((Ex.av x) :: cap) (.p (.bool (q x)))) : Pure Tryz.prog GL 157 [.p (.lst 3 (xs.map Ex.enc)), .fn (.func m) cap] (.p (.bool (xs.any q))) := by
 refine Pure.of_walk (N := 9) Tryz.func157 rfl rfl rfl (by simp) (by first | (simp; done) | simp [*]) ?_
 simp
 refine Jab (Juj xs q m cap hcap hl hq) ?_
 simp [Jaa]
 rw [Bool.eq_iff_iff]
 simp [Jp2]
theorem Jk2 {v : Nat -> Bool} {w : Bool} : ∀ {l : List Ex}, Ja8 v w l = l.all fun y => evX v y == w
 | [] => rfl
 | y :: l => by rw [Ja8, Jk2]; rfl
theorem Jt0 {v : Nat -> Bool} {l : List Ex} : (l.any fun y => !evX v y) = !Ja8 v true l := by
 rw [Jk2]
 induction l with
 | nil => rfl
 | cons y l ih => rw [List.any_cons, List.all_cons, ih]; cases evX v y <;> simp
theorem Jt2 {v : Nat -> Bool} {l : List Ex} : (l.any fun y => evX v y) = !Ja8 v false l := by
 rw [Jk2]
 induction l with
 | nil => rfl
 | cons y l ih => rw [List.any_cons, List.all_cons, ih]; cases evX v y <;> simp
theorem Jkl (vs : List Bool) (hv : vs.length <= 256) : ∀ x : Ex, okX x -> Jbj vs.length x = 0 -> Pure Tryz.prog GL 145 [x.av, .p (.lst 1 (vs.map Bool.enc))] (.p (.bool (evX (vsF vs) x))) := Ex.ind' (fun x ih hok hr => by
 obtain ⟨hl, ho⟩ := Jc8 hok
 obtain ⟨hr0, hra⟩ := Jiz hr
 obtain ⟨hop, hi0, hi1, _, ha1, ha2, ha3, _⟩ := Jlx hr0
 refine Pure.of_walk (N := 39) Tryz.func145 rfl rfl rfl (by simp) rfl ?_
 have s1 : ∀ y ∈ x.args, Pure Tryz.prog GL 158 [y.av, .iptr 1 [[.lst 1 (vs.map Bool.enc)]] 0 0] (.p (.bool (!evX (vsF vs) y))) := fun y hy => by
   refine Pure.of_walk (N := 8) Tryz.func158 rfl rfl rfl (by simp) rfl ?_
   simp
   refine Jab (ih y hy (ho y hy) (hra y hy)) ?_
   simp [Jaa]
 have s2 : ∀ y ∈ x.args, Pure Tryz.prog GL 159 [y.av, .iptr 1 [[.lst 1 (vs.map Bool.enc)]] 0 0] (.p (.bool (evX (vsF vs) y))) := fun y hy => by
   refine Pure.of_walk (N := 7) Tryz.func159 rfl rfl rfl (by simp) rfl ?_
   simp
   refine Jab (ih y hy (ho y hy) (hra y hy)) ?_
   simp [Jaa]
 have C1 := Jn7 x.args (fun y => !evX (vsF vs) y) 158 [.iptr 1 [[.lst 1 (vs.map Bool.enc)]] 0 0] rfl (by omega) s1
 have C2 := Jn7 x.args (fun y => evX (vsF vs) y) 159 [.iptr 1 [[.lst 1 (vs.map Bool.enc)]] 0 0] rfl (by omega) s2
 rw [Jt0] at C1
 rw [Jt2] at C2
 rcases hop with e | e | e | e | e
 . rw [Jfl, if_pos e]
   simp [e, Jaa]
 . rw [Jfl, if_neg (by omega), if_pos e]
   obtain ⟨k, hk⟩ : ∃ k : Nat, x.idx = k := ⟨x.idx.toNat, by omega⟩
   have hkl : k < vs.length := by have := hi1 e; omega
   obtain ⟨b, eb⟩ := Jae hkl
   have hvs : vsF vs k = b := by unfold vsF; rw [List.getD_eq_getElem?_getD, eb]; rfl
   simp [e, hk, hkl, eb, hvs, -getElem?_pos, List.getElem?_cons_zero, List.getElem?_cons_succ]
   simp [Jaa]
 . obtain ⟨y, hy⟩ := List.length_eq_one_iff.1 (ha2 e)
   have hym : y ∈ x.args := by rw [hy]; exact List.mem_singleton.2 rfl
   have hI := ih y hym (ho y hym) (hra y hym)
   have ev : evX (vsF vs) x = !evX (vsF vs) y := by
     rw [Jfl, if_neg (by omega), if_neg (by omega), if_pos e, hy, Ja8, Ja8]
     cases evX (vsF vs) y <;> rfl
   rw [ev]
   simp [e, hy]
   refine Jaf.intro (by kernel_rfl) ?_
   simp [hy]
   refine Jab hI ?_
   simp
   exact ⟨.of (by kernel_rfl), by simp [Jaa]⟩
 . rw [Jfl, if_neg (by omega), if_neg (by omega), if_neg (by omega), if_pos e]
   simp [e]
   refine Jc4 ?_
   simp
   refine ⟨_, C1, rfl, ?_⟩
   simp [Jaa]
 . rw [Jfl, if_neg (by omega), if_neg (by omega), if_neg (by omega), if_neg (by omega)]
   simp [e]
   refine Jc4 ?_
   simp
   refine ⟨_, C2, rfl, ?_⟩
   simp [Jaa])
end Go.Am
namespace Go.Am
open Go Go.Proofs Go.Pn
@[simp] def Stk.enc (y : Stk) : List PV := [.int .i64 y.act, .bool y.out]
@[simp] def Stk.row (y : Stk) : List AV := [.p (.int .i64 y.act), .p (.bool y.out)]
@[simp] def Stk.av (y : Stk) : AV := .agg [.p (.int .i64 y.act), .p (.bool y.out)]
def Jhh (a b : Sta) (i : Nat) : Bool := decide (b.ends.getD i 0 ≠ a.ends.getD i 0) && (decide (b.ends.getD i 0 = 1) || decide (b.ends.getD i 0 = 3))
def Jbs (a b : Sta) (k : Nat) : List Stk := ((List.range k).filter (Jhh a b)).map fun (i : Nat) => ⟨(i : Int), decide (b.ends.getD i 0 = 1)⟩
theorem Jj6 {a b : Sta} : Jbs a b b.ends.length = Jb2 a b := rfl
theorem Juc {a b : Sta} : Jbs a b 0 = [] := rfl
theorem Jub {a b : Sta} {k : Nat} (h : Jhh a b k = true) : Jbs a b (k + 1) = Jbs a b k ++ [⟨(k : Int), decide (b.ends.getD k 0 = 1)⟩] := by
 unfold Jbs
 rw [List.range_succ, List.filter_append, List.map_append]
 simp [h]
theorem Jua {a b : Sta} {k : Nat} (h : Jhh a b k = false) : Jbs a b (k + 1) = Jbs a b k := by
 unfold Jbs
 rw [List.range_succ, List.filter_append, List.map_append]
 simp [h]
theorem Jj7 {a b : Sta} {k : Nat} : (Jbs a b k).length <= k := by
 unfold Jbs
 rw [List.length_map]
 exact Nat.le_trans (List.length_filter_le ..) (by simp)
set_option maxHeartbeats 1000000 in
theorem Joj (a b : Sta) (hab : a.ends.length = b.ends.length) (h : b.ends.length <= 1000) : Pure Tryz.prog GL 26 [a.av, b.av] (.p (.lst 2 ((Jb2 a b).map Stk.enc))) := by
 refine Pure.of_walk (N := 40) Tryz.func26 rfl rfl rfl (by simp) (by first | (simp; done) | simp [*]) ?_
 rw [<- Jj6]
 simp
 refine Jai.go [2, 9, 10] [0, 1] 1 [2] (nms [5]) (fun nx (k : Nat) => [(5, .acc nx 2 (Jbs a b k).length), (11, .p (.int .i64 k))]) (fun nx k => [(nx, accB 2 ((Jbs a b k).map Stk.row))]) (fun k => k <= b.ends.length) (fun k => b.ends.length - k) 0 (by omega) ?_ ?_
 . simp [Juc]
   try decide
 intro k hk
 have hle := @Jj7 a b k
 have hy := @Jub a b k
 have hn := @Jua a b k
 simp
 refine Jan (fun h1 => ?_) (fun h1 => ?_)
 . simp at h1
   obtain ⟨e, he⟩ := Jae h1
   obtain ⟨d, hd⟩ := Jae (xs := a.ends) (k := k) (by omega)
   have hst : Jhh a b k = (decide (e ≠ d) && (decide (e = 1) || decide (e = 3))) := by
     unfold Jhh
     rw [List.getD_eq_getElem?_getD, List.getD_eq_getElem?_getD, he, hd]; rfl
   have hb : b.ends.getD k 0 = e := by rw [List.getD_eq_getElem?_getD, he]; rfl
   rw [hst, hb] at hy
   rw [hst] at hn
   have hk2 : k < a.ends.length := by omega
   simp [h1, he, hd, hk2, -getElem?_pos, List.getElem?_cons_zero, List.getElem?_cons_succ]
   by_cases e0 : e = d
   . have e0' : (e : Int) = (d : Int) := by omega
     have hn := hn (by rw [decide_eq_false (by simpa using e0)]; rfl)
     simp [e0', h1, he, hd, hk2, -getElem?_pos, List.getElem?_cons_zero, List.getElem?_cons_succ]
     refine ⟨wrap_i64 (by omega) (by omega), k + 1, by omega, by omega, ?_⟩
     rw [hn]
     simp
     try decide
   have e0' : ¬ (e : Int) = (d : Int) := by omega
   rw [decide_eq_true e0, Bool.true_and] at hy hn
   by_cases e1 : e = 1
   . have e1' : (e : Int) = 1 := by omega
     have hy := hy (by rw [decide_eq_true e1]; rfl)
     subst e1
     have e0' : ¬ (1 : Int) = (d : Int) := by omega
     have em : (Jbs a b k).map Stk.row ++ [[AV.p (PV.int IntKind.i64 (k : Int)), AV.p (PV.bool true)]] = (Jbs a b (k + 1)).map Stk.row := by rw [hy, List.map_append]; rfl
     have el : (Jbs a b k).length + 1 = (Jbs a b (k + 1)).length := by rw [hy, List.length_append]; rfl
     simp [e0', h1, he, hd, hk2, -getElem?_pos, List.getElem?_cons_zero, List.getElem?_cons_succ]
     rw [em]
     refine ⟨by omega, wrap_i64 (by omega) (by omega), k + 1, by omega, by omega, ?_⟩
     rw [el]
     simp
     decide
   have e1' : ¬ (e : Int) = 1 := by omega
   by_cases e3 : e = 3
   . have e3' : (e : Int) = 3 := by omega
     have hy := hy (by rw [decide_eq_false e1, decide_eq_true e3]; rfl)
     subst e3
     have e0' : ¬ (3 : Int) = (d : Int) := by omega
     have em : (Jbs a b k).map Stk.row ++ [[AV.p (PV.int IntKind.i64 (k : Int)), AV.p (PV.bool false)]] = (Jbs a b (k + 1)).map Stk.row := by rw [hy, List.map_append]; rfl
     have el : (Jbs a b k).length + 1 = (Jbs a b (k + 1)).length := by rw [hy, List.length_append]; rfl
     simp [e0', h1, he, hd, hk2, -getElem?_pos, List.getElem?_cons_zero, List.getElem?_cons_succ]
     rw [em]
     refine ⟨by omega, wrap_i64 (by omega) (by omega), k + 1, by omega, by omega, ?_⟩
     rw [el]
     simp
     decide
   . have e3' : ¬ (e : Int) = 3 := by omega
     have hn := hn (by rw [decide_eq_false e1, decide_eq_false e3]; rfl)
     simp [e0', e1', e3', h1, he, hd, hk2, -getElem?_pos, List.getElem?_cons_zero, List.getElem?_cons_succ]
     refine ⟨wrap_i64 (by omega) (by omega), k + 1, by omega, by omega, ?_⟩
     rw [hn]
     simp
     try decide
 . simp at h1
   have hkl : k = b.ends.length := by omega
   subst hkl
   generalize Jbs a b b.ends.length = L at *
   simp [Jaa]
end Go.Am
namespace Go.Am
open Go Go.Proofs Go.Pn
theorem Jsz : ∀ {l : List Nat} {i e : Nat}, l[i / 2]? = some e -> (l.flatMap twoB)[i]? = some (decide (e = if i % 2 = 0 then 0 else 2))
 | [], i, e, h => by cases h
 | a :: l, 0, e, h => by
   cases h; rfl
 | a :: l, 1, e, h => by
   cases h; rfl
 | a :: l, i + 2, e, h => by
   have h2 : l[i / 2]? = some e := by
     rw [show (i + 2) / 2 = i / 2 + 1 by omega] at h
     exact h
   have ih := Jsz h2
   rw [List.flatMap_cons]
   show (twoB a ++ l.flatMap twoB)[i + 2]? = _
   rw [List.getElem?_append_right (by show 2 <= i + 2; omega), show (i + 2) % 2 = i % 2 by omega]
   exact ih
theorem Jd3 : ∀ {l : List Nat}, (l.flatMap twoB).length = 2 * l.length
 | [] => rfl
 | a :: l => by rw [List.flatMap_cons, List.length_append, Jd3, List.length_cons]; show 2 + _ = _; omega
theorem Jy8 {s : Sta} {i e : Nat} (h : s.ends[i / 2]? = some e) : lnF s i = decide (e = if i % 2 = 0 then 0 else 2) := by
 have h1 := Jsz h
 have h2 : i < (s.ends.flatMap twoB).length := (gsI.1 h1).1
 unfold lnF Jax
 change ((s.ends.flatMap twoB ++ s.inputs ++ s.values).getD _ false) = _
 rw [List.getD_eq_getElem?_getD, List.append_assoc, List.getElem?_append_left h2, h1]; rfl
theorem Jy9 {s : Sta} {i : Nat} {b : Bool} (h : s.inputs[i]? = some b) : lnF s (2 * s.ends.length + i) = b := by
 have h2 : i < s.inputs.length := (gsI.1 h).1
 unfold lnF Jax
 change ((s.ends.flatMap twoB ++ s.inputs ++ s.values).getD _ false) = _
 rw [List.getD_eq_getElem?_getD, List.append_assoc, List.getElem?_append_right (by rw [Jd3]; omega), Jd3, Nat.add_sub_cancel_left, List.getElem?_append_left h2, h]; rfl
theorem Jza {s : Sta} {i : Nat} {b : Bool} (h : s.values[i]? = some b) : lnF s (2 * s.ends.length + s.inputs.length + i) = b := by
 unfold lnF Jax
 change ((s.ends.flatMap twoB ++ s.inputs ++ s.values).getD _ false) = _
 rw [List.getD_eq_getElem?_getD, List.getElem?_append_right (by rw [List.length_append, Jd3]; omega), List.length_append, Jd3, Nat.add_sub_cancel_left, h]; rfl
set_option maxHeartbeats 1000000 in
theorem Jok (c : Ctl) (s : Sta) (i : Nat) (h : RS c s) (hc : RC c) (hi : i < cntN c) : Pure Tryz.prog GL 67 [c.av, s.av, .p (.int .i64 i)] (.p (.bool (lnF s i))) := by
 refine Pure.of_walk (N := 47) Tryz.func67 rfl rfl rfl (by simp) (by first | (simp; done) | simp [*]) ?_
 have h1 := hc.act
 have e1 := h.act
 have e2 := h.inputs
 have e3 := h.values
 have h7 := hc.inputs
 have h8 := hc.sigs
 have hcn : cntN c = 2 * actN c + c.inputs.length + c.sigs.length := rfl
 have hd : (i : Int).tdiv 2 = ((i / 2 : Nat) : Int) := by rw [Int.tdiv_eq_ediv_of_nonneg (by omega)]; rfl
 have hm : (i : Int).tmod 2 = ((i % 2 : Nat) : Int) := by rw [Int.tmod_eq_emod_of_nonneg (by omega)]; rfl
 have hw : IntKind.i64.wrap (2 * c.act) = 2 * c.act := wrap_i64 (by omega) (by omega)
 simp [hw]
 refine Jan (fun h3 => ?_) (fun h3 => ?_)
 . simp at h3
   obtain ⟨e, he⟩ := Jae (xs := s.ends) (k := i / 2) (by omega)
   rw [Jy8 he]
   have hx : ((i : Int) / 2).toNat = i / 2 := by omega
   simp
   refine Jaf.intro (by kernel_rfl) ?_
   rcases (by omega : i % 2 = 0 \/ i % 2 = 1) with hp | hp
   . rw [hp] at hm
     simp [hd, hm, hp]
     refine ⟨wrap_i64 (by omega) (by omega), by omega, by omega, ?_⟩
     rw [hx, he]
     simp
     rw [hm]
     simp
     exact ⟨.of (by kernel_rfl), by simp [Jaa, hp]⟩
   . rw [hp] at hm
     simp [hd, hm, hp]
     refine ⟨wrap_i64 (by omega) (by omega), by omega, by omega, ?_⟩
     rw [hx, he]
     simp
     rw [hm]
     simp
     exact ⟨.of (by kernel_rfl), by simp [Jaa, hp]; omega⟩
 . simp at h3
   have hw2 : IntKind.i64.wrap ((i : Int) - 2 * c.act) = ((i - 2 * s.ends.length : Nat) : Int) := by rw [wrap_i64 (by omega) (by omega)]; omega
   obtain ⟨n, hn⟩ : ∃ n : Nat, n = i - 2 * s.ends.length := ⟨_, rfl⟩
   have hin : i = 2 * s.ends.length + n := by omega
   have hsub : (i : Int) - 2 * c.act = (n : Int) := by omega
   simp [hsub]
   refine ⟨hw, wrap_i64 (by omega) (by omega), ?_⟩
   refine Jan (fun h4 => ?_) (fun h4 => ?_)
   . simp at h4
     obtain ⟨b, hb⟩ := Jae h4
     rw [hin, Jy9 hb]
     simp [h4, hb, -getElem?_pos, List.getElem?_cons_zero, List.getElem?_cons_succ]
     simp [Jaa]
   . simp at h4
     obtain ⟨b, hb⟩ := Jae (xs := s.values) (k := n - s.inputs.length) (by omega)
     have hin2 : i = 2 * s.ends.length + s.inputs.length + (n - s.inputs.length) := by omega
     have hl := Jza hb
     rw [<- hin2] at hl
     rw [hl]
     simp
     refine ⟨wrap_i64 (by omega) (by omega), by omega, by omega, ?_⟩
     rw [hb]
     simp [Jaa]
end Go.Am
namespace Go.Am
open Go Go.Proofs Go.Pn
def Ji4 (n : Nat) : Bool := (decide ((97 : Int) <= n) && decide ((n : Int) <= 122)) || (decide ((65 : Int) <= n) && decide ((n : Int) <= 90)) || (decide ((48 : Int) <= n) && decide ((n : Int) <= 57)) || decide ((n : Int) = 95)
set_option maxHeartbeats 1000000 in
theorem Juy (n : Nat) (h : n < 256) : Pure Tryz.prog GL 119 [.p (.int .u8 n)] (.p (.bool (Ji4 n))) := by
 refine Pure.of_walk (N := 29) Tryz.func119 rfl rfl rfl (by simp) (by first | (simp; done) | simp [*]) ?_
 unfold Ji4
 by_cases f1 : (97 : Int) <= n <;> by_cases f2 : (n : Int) <= 122 <;> by_cases f3 : (65 : Int) <= n <;> by_cases f4 : (n : Int) <= 90 <;> by_cases f5 : (48 : Int) <= n <;> by_cases f6 : (n : Int) <= 57 <;> by_cases f7 : (n : Int) = 95
 all_goals first
   | (exfalso; omega)
   | (simp [f1, f2, f3, f4, f5, f6, f7, Jaa]; done)
def badN (n : Nat) : Bool := decide ((122 : Int) < n) || !Ji4 n
theorem Jut (n : Nat) : Pure Tryz.prog GL 118 [.p (.int .i32 n)] (.p (.bool (badN n))) := by
 refine Pure.of_walk (N := 11) Tryz.func118 rfl rfl rfl (by simp) (by first | (simp; done) | simp [*]) ?_
 unfold badN
 by_cases h1 : (122 : Int) < n
 . simp [h1, Jaa]
 . have hP := Juy n (by omega)
   simp [h1]
   refine ⟨of_eq_true (wrap_u8 (by omega) (by omega)), ?_⟩
   refine Jab hP ?_
   simp [Jaa]
   omega
theorem Jt8 {b : UInt8} (h : Jcn b = true) : badN b.toNat = false /\ b.toNat < 128 := by
 unfold Jcn Jd2 Jlj Jkw at h
 simp only [Bool.or_eq_true, Bool.and_eq_true, decide_eq_true_eq, beq_iff_eq] at h
 have h95 : b = 95 -> b.toNat = 95 := fun e => by rw [e]; rfl
 unfold badN Ji4
 have hle : b.toNat <= 122 := by
   rcases h with ((h | h) | h) | h
   . omega
   . omega
   . have := h95 h; omega
   . omega
 refine ⟨?_, by omega⟩
 rw [decide_eq_false (by omega), Bool.false_or, Bool.not_eq_false']
 rcases h with ((h | h) | h) | h
 . rw [decide_eq_true (show (97 : Int) <= (b.toNat : Int) by omega), decide_eq_true (show (b.toNat : Int) <= 122 by omega)]; simp
 . rw [decide_eq_true (show (65 : Int) <= (b.toNat : Int) by omega), decide_eq_true (show (b.toNat : Int) <= 90 by omega)]; simp
 . have := h95 h
   rw [decide_eq_true (show (b.toNat : Int) = 95 by omega)]; simp
 . rw [decide_eq_true (show (48 : Int) <= (b.toNat : Int) by omega), decide_eq_true (show (b.toNat : Int) <= 57 by omega)]; simp
end Go.Am
namespace Go.Am
open Go Go.Proofs Go.Pn
theorem Js6 {n : Int} (h1 : 0 <= n) (h2 : n < 128) : IntKind.i32.wrap n = n := by
 simp [IntKind.wrap, IntKind.bits, IntKind.signed]
 omega
set_option maxHeartbeats 1000000 in
theorem Jux (c : Ctl) (i : Nat) (h : Sm c) (hi : i < cntN c) : Pure Tryz.prog GL 88 [c.av, .p (.int .i64 i)] (.p (.str (nmF c i))) := by
 refine Pure.of_walk (N := 46) Tryz.func88 rfl rfl rfl (by simp) (by first | (simp; done) | simp [*]) ?_
 have hF := Jh1 c h
 obtain ⟨h1, h2, h3, h4, _, _⟩ := h
 simp only [Ctl.av, h1] at hF
 have hw : IntKind.i64.wrap (2 * (actN c : Int)) = ((2 * actN c : Nat) : Int) := by rw [wrap_i64 (by omega) (by omega)]; omega
 simp [h1, hw]
 refine Jab hF ?_
 simp
 refine ⟨wrap_i64 (by omega) (by omega), ?_⟩
 refine Jan (fun h5 => ?_) (fun h5 => ?_)
 . simp at h5
   have h6 : i < 2 * actN c := by omega
   have e : nmF c i = endT i := if_pos h6
   rw [e]
   rcases (by omega : i = 0 \/ i = 1 \/ i = 2 \/ i = 3 \/ i = 4 \/ i = 5 \/ i = 6 \/ i = 7 \/ i = 8 \/ i = 9 \/ i = 10 \/ i = 11) with rfl | rfl | rfl | rfl | rfl | rfl | rfl | rfl | rfl | rfl | rfl | rfl
   all_goals
     simp
     refine ⟨Js6 (by decide) (by decide), Js6 (by decide) (by decide), ?_⟩
     simp [Jaa]
     rfl
 . simp at h5
   have h6 : ¬ i < 2 * actN c := by omega
   simp
   refine Jan (fun h7 => ?_) (fun h7 => ?_)
   . simp at h7
     have h8 : i - 2 * actN c < c.inputs.length := by unfold fstN at h7; omega
     obtain ⟨s, e⟩ := Jae h8
     rw [Jlu h6 h7 e]
     have hidx : ((i : Int) - 2 * (actN c : Int)).toNat = i - 2 * actN c := by omega
     simp [h1, hw]
     refine ⟨wrap_i64 (by omega) (by omega), by omega, by omega, ?_⟩
     rw [hidx, e]
     simp [Jaa]
   . simp at h7
     have h8 : i - fstN c < c.sigs.length := by unfold cntN at hi; omega
     obtain ⟨x, e⟩ := Jae h8
     rw [Jlv (by omega) e]
     simp
     refine ⟨wrap_i64 (by omega) (by omega), by omega, by omega, ?_⟩
     rw [e]
     simp [Jaa]
end Go.Am
