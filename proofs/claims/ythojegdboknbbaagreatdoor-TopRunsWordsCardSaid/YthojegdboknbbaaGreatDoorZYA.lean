/- Lemmas and contracts for the proof of a statement of this seat. -/
import Derived.Test.YthojegdboknbbaaGreatDoorZY9
import Derived.Test.YthojegdboknbbaaGreatDoorZA9
import Derived.Test.YthojegdboknbbaaGreatDoorZY4
set_option linter.unusedVariables false
set_option linter.unusedSimpArgs false
namespace Go.Am
open Go Go.Proofs Go.Pn
@[simp] def J3z (m : Nat) : AV := .agg [.fn (.via 0 #[] 51 true) [.ptr m 5 0 0], .fn (.via 0 #[] 52 true) [.ptr m 5 0 0], .fn (.via 0 #[] 53 true) [.ptr m 5 0 0]]
@[simp] def noR (e : Int) : AV := .tup [.agg [.p (.lst 1 []), .p (.lst 1 []), .p (.lst 1 []), .p (.lst 1 []), .p (.lst 1 [])], .p (.lst 1 []), .p (.int .i64 e)]
noncomputable def aftR (c : Ctl) (s : Sta) (x : Evt) : AV := if x.kind < 0 \/ 3 <= x.kind then noR 1 else match actF s x with | none => noR 14 | some u => match Jcc c u with | none => noR 21 | some t => .tup [t.av, .p (.lst 1 ((Jb9 c u).map Int.enc)), .p (.int .i64 0)]
theorem Jj1 {s u : Sta} {x : Evt} (h : actF s x = some u) : x.kind = 0 \/ x.kind = 1 \/ x.kind = 2 := by
 unfold actF at h
 by_cases k0 : x.kind = 0
 . exact .inl k0
 rw [if_neg k0] at h
 by_cases k1 : x.kind = 1
 . exact .inr (.inl k1)
 rw [if_neg k1] at h
 by_cases k2 : x.kind = 2
 . exact .inr (.inr k2)
 rw [if_neg k2] at h
 cases h
theorem Jtw {s : Sta} {x : Evt} (k0 : x.kind = 0) : (actF s x = none /\ (x.idx < 0 \/ (s.ends.length : Int) <= x.idx \/ ∃ k e : Nat, x.idx = k /\ s.ends[k]? = some e /\ e ≠ 1 /\ e ≠ 3)) \/ ∃ k e e' : Nat, x.idx = k /\ s.ends[k]? = some e /\ (e = 1 /\ e' = 2 \/ e = 3 /\ e' = 0) /\ actF s x = some { s with ends := s.ends.set k e' } := by
 unfold actF
 rw [if_pos k0]
 by_cases h : 0 <= x.idx /\ x.idx.toNat < s.ends.length
 . rw [if_pos h]
   obtain ⟨e, he⟩ := Jae h.2
   have hd : s.ends.getD x.idx.toNat 0 = e := by rw [List.getD_eq_getElem?_getD, he]; rfl
   rw [hd]
   by_cases h1 : e = 1
   . exact .inr ⟨_, e, 2, by omega, he, .inl ⟨h1, rfl⟩, if_pos h1⟩
   . rw [if_neg h1]
     by_cases h3 : e = 3
     . exact .inr ⟨_, e, 0, by omega, he, .inr ⟨h3, rfl⟩, if_pos h3⟩
     . rw [if_neg h3]
       exact .inl ⟨rfl, .inr (.inr ⟨_, e, by omega, he, h1, h3⟩)⟩
 . rw [if_neg h]
   exact .inl ⟨rfl, by omega⟩
theorem Jtx {s : Sta} {x : Evt} (k1 : x.kind = 1) : (actF s x = none /\ (x.idx < 0 \/ (s.timers.length : Int) <= x.idx \/ ∃ k e : Nat, x.idx = k /\ s.timers[k]? = some e /\ e ≠ 1)) \/ ∃ k : Nat, x.idx = k /\ s.timers[k]? = some 1 /\ actF s x = some { s with timers := s.timers.set k 2, values := s.values.set k true } := by
 unfold actF
 rw [if_neg (by omega), if_pos k1]
 by_cases h : 0 <= x.idx /\ x.idx.toNat < s.timers.length
 . obtain ⟨e, he⟩ := Jae h.2
   have hd : s.timers.getD x.idx.toNat 0 = e := by rw [List.getD_eq_getElem?_getD, he]; rfl
   rw [hd]
   by_cases h1 : e = 1
   . rw [if_pos ⟨h.1, h.2, h1⟩]
     exact .inr ⟨_, by omega, by rw [he, h1], rfl⟩
   . rw [if_neg fun hh => h1 hh.2.2]
     exact .inl ⟨rfl, .inr (.inr ⟨_, e, by omega, he, h1⟩)⟩
 . rw [if_neg fun hh => h ⟨hh.1, hh.2.1⟩]
   exact .inl ⟨rfl, by omega⟩
theorem Jtu {s : Sta} {x : Evt} (k2 : x.kind = 2) : (actF s x = none /\ (x.idx < 0 \/ (s.inputs.length : Int) <= x.idx \/ ∃ k : Nat, x.idx = k /\ s.inputs[k]? = some x.val)) \/ ∃ (k : Nat) (w : Bool), x.idx = k /\ s.inputs[k]? = some w /\ w ≠ x.val /\ actF s x = some { s with inputs := s.inputs.set k x.val } := by
 unfold actF
 rw [if_neg (by omega), if_neg (by omega), if_pos k2]
 by_cases h : 0 <= x.idx /\ x.idx.toNat < s.inputs.length
 . obtain ⟨w, he⟩ := Jae h.2
   have hd : s.inputs.getD x.idx.toNat false = w := by rw [List.getD_eq_getElem?_getD, he]; rfl
   rw [hd]
   by_cases h1 : w = x.val
   . rw [if_neg fun hh => hh.2.2 h1]
     exact .inl ⟨rfl, .inr (.inr ⟨x.idx.toNat, by omega, by rw [he, h1]⟩)⟩
   . rw [if_pos ⟨h.1, h.2, h1⟩]
     exact .inr ⟨_, w, by omega, he, h1, rfl⟩
 . rw [if_neg fun hh => h ⟨hh.1, hh.2.1⟩]
   exact .inl ⟨rfl, by omega⟩
set_option maxHeartbeats 4000000 in
set_option maxRecDepth 20000 in
theorem Joc (c : Ctl) (s : Sta) (x : Evt) (h : RS c s) (hc : RC c) (hL : Lg c) : Pure Tryz.prog GL 25 [c.av, s.av, x.av] (aftR c s x) := by
 have hsm := h.small hc
 have hcp := Jig s hsm
 unfold staB at hcp
 have hvt : s.values.length = s.timers.length := by rw [h.values, h.timers]
 have hRy := fun u t hu e => Jop c u t hu hc hL e
 have hRn := fun u hu e => Joo c u hu hc hL e
 have hR : ∀ u, actF s x = some u -> ∃ r, Pure Tryz.prog GL 21 [c.av, u.av] r /\ (aftR c s x = r \/ (x.kind < 0 \/ 3 <= x.kind)) /\ ∃ a b d, r = .tup [.agg a, .p b, .p d] /\ Ja5 a = true /\ a.length = 5 := fun u e => by
   have hu := h.act_ e
   cases hca : Jcc c u with
   | none =>
     refine ⟨_, hRn u hu hca, ?_, _, _, _, rfl, rfl, rfl⟩
     by_cases hk : x.kind < 0 \/ 3 <= x.kind
     . exact .inr hk
     . refine .inl ?_
       unfold aftR
       rw [if_neg hk, e]
       simp only [hca]
       rfl
   | some t =>
     refine ⟨_, hRy u t hu hca, ?_, _, _, _, rfl, rfl, rfl⟩
     by_cases hk : x.kind < 0 \/ 3 <= x.kind
     . exact .inr hk
     . refine .inl ?_
       unfold aftR
       rw [if_neg hk, e]
       simp only [hca]
       rfl
 obtain ⟨kd, ix, vl⟩ := x
 have hp : Ja5 [c.av, s.av, Evt.av ⟨kd, ix, vl⟩] = true := by simp
 refine Pure.of_walk (N := 48) Tryz.func25 rfl rfl rfl (by simp) hp ?_
 simp
 refine Jag (hcp _ _) ?_
 by_cases k0 : kd < 0
 . rw [show aftR c s ⟨kd, ix, vl⟩ = noR 1 from if_pos (.inl k0)]
   simp [k0, Jaa]
 by_cases k3 : 3 <= kd
 . rw [show aftR c s ⟨kd, ix, vl⟩ = noR 1 from if_pos (.inr k3)]
   simp [k0, k3, Jaa]
 have ha : aftR c s ⟨kd, ix, vl⟩ = match actF s ⟨kd, ix, vl⟩ with | none => noR 14 | some u => match Jcc c u with | none => noR 21 | some t => .tup [t.av, .p (.lst 1 ((Jb9 c u).map Int.enc)), .p (.int .i64 0)] := if_neg (by simp only; omega)
 simp [k0, k3]
 refine Jaf.intro (by kernel_rfl) ?_
 rcases (by omega : kd = 0 \/ kd = 1 \/ kd = 2) with rfl | rfl | rfl
 . rcases Jtw (s := s) (x := ⟨0, ix, vl⟩) rfl with ⟨e, hx⟩ | ⟨i, a, b, hi, hae, hab, e⟩
   . have hG := Jx3 s hsm ⟨0, ix, vl⟩ hx
     rw [e] at ha
     simp only at ha
     rw [ha]
     simp
     refine Jag (hG _ _ 4 5 6 7 8 9 ⟨by decide, by decide, rfl, rfl, rfl, rfl, rfl, rfl⟩) ?_
     simp
     exact ⟨.of (by kernel_rfl), by simp [Jaa]⟩
   . have hG := Jx4 s hsm ⟨0, ix, vl⟩ i a b hi hae hab
     clear hcp hR
     have hEl : (s.ends.set i b).length = s.ends.length := by simp
     generalize s.ends.set i b = E at *
     have hu := h.act_ e
     cases hca : Jcc c { s with ends := E } with
     | none =>
       have hRu := hRn _ hu hca
       rw [e] at ha
       simp only [hca] at ha
       rw [ha]
       simp
       simp at hRu
       refine Jag (hG _ _ 4 5 6 7 8 9 ⟨by decide, by decide, rfl, rfl, rfl, rfl, rfl, rfl⟩) ?_
       simp
       refine ⟨.of (by kernel_rfl), ?_⟩
       refine Jaf.intro (by kernel_rfl) ?_
       simp
       refine Jdn ?_
       simp [hEl]
       refine ⟨_, hRu, ?_⟩
       simp
       exact ⟨.of (by kernel_rfl), by simp [Jaa, Jbv, Jb9]⟩
     | some q =>
       have hRu := hRy _ q hu hca
       rw [e] at ha
       simp only [hca] at ha
       rw [ha]
       simp
       simp at hRu
       refine Jag (hG _ _ 4 5 6 7 8 9 ⟨by decide, by decide, rfl, rfl, rfl, rfl, rfl, rfl⟩) ?_
       simp
       refine ⟨.of (by kernel_rfl), ?_⟩
       refine Jaf.intro (by kernel_rfl) ?_
       simp
       refine Jdn ?_
       simp [hEl]
       refine ⟨_, hRu, ?_⟩
       simp
       exact ⟨.of (by kernel_rfl), by simp [Jaa, Jbv, Jb9]⟩
 . rcases Jtx (s := s) (x := ⟨1, ix, vl⟩) rfl with ⟨e, hx⟩ | ⟨i, hi, hae, e⟩
   . have hG := Jx6 s hsm ⟨1, ix, vl⟩ hx
     rw [e] at ha
     simp only at ha
     rw [ha]
     simp
     refine Jag (hG _ _ 4 5 6 7 8 9 ⟨by decide, by decide, rfl, rfl, rfl, rfl, rfl, rfl⟩) ?_
     simp
     exact ⟨.of (by kernel_rfl), by simp [Jaa]⟩
   . have hG := Jx7 s hsm ⟨1, ix, vl⟩ i hi hae hvt
     clear hcp hR
     have hEl : (s.timers.set i 2).length = s.timers.length := by simp
     have hVl : (s.values.set i true).length = s.values.length := by simp
     generalize s.timers.set i 2 = E at *
     generalize s.values.set i true = V at *
     have hu := h.act_ e
     cases hca : Jcc c { s with timers := E, values := V } with
     | none =>
       have hRu := hRn _ hu hca
       rw [e] at ha
       simp only [hca] at ha
       rw [ha]
       simp
       simp at hRu
       refine Jag (hG _ _ 4 5 6 7 8 9 ⟨by decide, by decide, rfl, rfl, rfl, rfl, rfl, rfl⟩) ?_
       simp
       refine ⟨.of (by kernel_rfl), ?_⟩
       refine Jaf.intro (by kernel_rfl) ?_
       simp
       refine Jdn ?_
       simp [hEl, hVl]
       refine ⟨_, hRu, ?_⟩
       simp
       exact ⟨.of (by kernel_rfl), by simp [Jaa, Jbv, Jb9]⟩
     | some q =>
       have hRu := hRy _ q hu hca
       rw [e] at ha
       simp only [hca] at ha
       rw [ha]
       simp
       simp at hRu
       refine Jag (hG _ _ 4 5 6 7 8 9 ⟨by decide, by decide, rfl, rfl, rfl, rfl, rfl, rfl⟩) ?_
       simp
       refine ⟨.of (by kernel_rfl), ?_⟩
       refine Jaf.intro (by kernel_rfl) ?_
       simp
       refine Jdn ?_
       simp [hEl, hVl]
       refine ⟨_, hRu, ?_⟩
       simp
       exact ⟨.of (by kernel_rfl), by simp [Jaa, Jbv, Jb9]⟩
 . rcases Jtu (s := s) (x := ⟨2, ix, vl⟩) rfl with ⟨e, hx⟩ | ⟨i, w, hi, hae, hw, e⟩
   . have hG := Jxp s hsm ⟨2, ix, vl⟩ hx
     rw [e] at ha
     simp only at ha
     rw [ha]
     simp
     refine Jag (hG _ _ 4 5 6 7 8 9 ⟨by decide, by decide, rfl, rfl, rfl, rfl, rfl, rfl⟩) ?_
     simp
     exact ⟨.of (by kernel_rfl), by simp [Jaa]⟩
   . have hG := Jxq s hsm ⟨2, ix, vl⟩ i w hi hae hw
     clear hcp hR
     simp only at hG e
     have hEl : (s.inputs.set i vl).length = s.inputs.length := by simp
     generalize s.inputs.set i vl = E at *
     have hu := h.act_ e
     cases hca : Jcc c { s with inputs := E } with
     | none =>
       have hRu := hRn _ hu hca
       rw [e] at ha
       simp only [hca] at ha
       rw [ha]
       simp
       simp at hRu
       refine Jag (hG _ _ 4 5 6 7 8 9 ⟨by decide, by decide, rfl, rfl, rfl, rfl, rfl, rfl⟩) ?_
       simp
       refine ⟨.of (by kernel_rfl), ?_⟩
       refine Jaf.intro (by kernel_rfl) ?_
       simp
       refine Jdn ?_
       simp [hEl]
       refine ⟨_, hRu, ?_⟩
       simp
       exact ⟨.of (by kernel_rfl), by simp [Jaa, Jbv, Jb9]⟩
     | some q =>
       have hRu := hRy _ q hu hca
       rw [e] at ha
       simp only [hca] at ha
       rw [ha]
       simp
       simp at hRu
       refine Jag (hG _ _ 4 5 6 7 8 9 ⟨by decide, by decide, rfl, rfl, rfl, rfl, rfl, rfl⟩) ?_
       simp
       refine ⟨.of (by kernel_rfl), ?_⟩
       refine Jaf.intro (by kernel_rfl) ?_
       simp
       refine Jdn ?_
       simp [hEl]
       refine ⟨_, hRu, ?_⟩
       simp
       exact ⟨.of (by kernel_rfl), by simp [Jaa, Jbv, Jb9]⟩
end Go.Am
namespace Go.Am
open Go Go.Proofs Go.Pn
theorem Jty (c : Ctl) (s : Sta) (x : Evt) : ∃ (t : Sta) (l : List Int) (e : Int), aftR c s x = .tup [t.av, .p (.lst 1 (l.map Int.enc)), .p (.int .i64 e)] := by
 unfold aftR
 split
 . exact ⟨Jbv, [], 1, rfl⟩
 . split
   . exact ⟨Jbv, [], 14, rfl⟩
   . split
     . exact ⟨Jbv, [], 21, rfl⟩
     . exact ⟨_, _, 0, rfl⟩
theorem J30 {c : Ctl} {s t : Sta} {x : Evt} (h : Jbm c s x = some t) : ∃ u, aftR c s x = .tup [t.av, .p (.lst 1 ((Jb9 c u).map Int.enc)), .p (.int .i64 0)] := by
 unfold Jbm at h
 obtain ⟨u, hu, hc⟩ := Option.bind_eq_some_iff.1 h
 refine ⟨u, ?_⟩
 unfold aftR
 rw [if_neg (by rcases Jj1 hu with h | h | h <;> omega), hu]
 simp only [hc]
theorem Jva (c : Ctl) (s : Sta) (x : Evt) (h : RS c s) (hc : RC c) (hL : Lg c) (hq : Jb8 c s) : Pure Tryz.prog GL 77 [c.av, s.av, x.av] (aftR c s x) := by
 refine Pure.of_walk (N := 24) Tryz.func77 rfl rfl rfl (by simp) (by first | (simp; done) | simp [*]) ?_
 have hQ := Jkh c s h hc hL hq
 have hA := Joc c s x h hc hL
 obtain ⟨t, l, e, hr⟩ := Jty c s x
 rw [hr] at hA ⊢
 obtain ⟨kd, ix, vl⟩ := x
 simp at hA
 simp
 refine Jab hQ ?_
 simp
 refine Jab hA ?_
 simp [Jaa]
theorem Jv5 {a b : List Int} : catI [a, b] = a ++ b := by simp [catI]
set_option maxHeartbeats 1000000 in
theorem Ju9 (a b : Sta) (hab : a.ends.length = b.ends.length) (h6 : b.ends.length <= 6) (ha4 : ∀ e ∈ a.ends, e < 4) (hb4 : ∀ e ∈ b.ends, e < 4) : Pure Tryz.prog GL 78 [a.av, b.av] (.tup [.p (.lst 2 ((Jb2 a b).map Stk.enc)), .p (.int .i64 0)]) := by
 refine Pure.of_walk (N := 42) Tryz.func78 rfl rfl rfl (by simp) (by first | (simp; done) | simp [*]) ?_
 have hB := Joj a b hab (by omega)
 generalize Jb2 a b = R at *
 have e1 : ∀ l : List Nat, l.map nenc = (l.map fun (n : Nat) => (n : Int)).map Int.enc := fun l => by rw [List.map_map]; rfl
 have hl4 : ∀ e ∈ (a.ends ++ b.ends).map (fun (n : Nat) => (n : Int)), 0 <= e /\ e < 4 := fun e he => by
   obtain ⟨n, hn, rfl⟩ := List.mem_map.1 he
   rcases List.mem_append.1 hn with h | h
   . have := ha4 n h; omega
   . have := hb4 n h; omega
 have hlen : ((a.ends ++ b.ends).map (fun (n : Nat) => (n : Int))).length = a.ends.length + b.ends.length := by simp
 have hcat : catI [a.ends.map fun (n : Nat) => (n : Int), b.ends.map fun (n : Nat) => (n : Int)] = (a.ends ++ b.ends).map (fun (n : Nat) => (n : Int)) := by rw [Jv5, List.map_append]
 have hC := fun nx => Jlg [a.ends.map fun (n : Nat) => (n : Int), b.ends.map fun (n : Nat) => (n : Int)] (by rw [hcat, hlen]; omega) (by simp) [] nx
 rw [hcat] at hC
 have hg : ¬ (6 : Int) < (b.ends.length : Int) := by omega
 generalize (a.ends ++ b.ends).map (fun (n : Nat) => (n : Int)) = L at *
 simp only [List.map_cons, List.map_nil, lstI, <- e1] at hC
 simp [hab, h6, hg]
 refine Jhr ?_
 simp
 refine ⟨_, _, _, hC _, rfl, Jcv.acc .nil fun _ => rfl, ?_⟩
 simp
 refine Jai.go [2, 3, 26, 27] [0, 1, 3] 0 [] (fun _ => []) (fun _ (k : Nat) => [(28, .p (.int .i64 k))]) (fun _ _ => []) (fun k => k <= L.length) (fun k => L.length - k) 0 (by omega) ?_ ?_
 . simp
   decide
 . intro k hk
   simp
   refine Jan (fun h => ?_) (fun h => ?_)
   . simp at h
     obtain ⟨x, e⟩ := Jae h
     obtain ⟨h0, h4⟩ := hl4 x (List.mem_of_getElem? e)
     have h0' : ¬ x < 0 := by omega
     have h4' : ¬ 4 <= x := by omega
     have hLe : ¬ L = [] := fun hh => by rw [hh] at e; cases e
     simp [h, e, h0', h4', hLe, -getElem?_pos, List.getElem?_cons_zero, List.getElem?_cons_succ]
     refine ⟨wrap_i64 (by omega) (by omega), k + 1, by omega, by omega, ?_⟩
     simp
     try decide
   . simp
     refine Jab hB ?_
     simp [Jaa]
@[simp] def Jmg (u : Sta) (w : List (List Stk)) (m : List Int) : AV := .tup [.agg [.p (.lst 1 (u.ends.map nenc)), .p (.lst 1 (u.valves.map Bool.enc)), .p (.lst 1 (u.inputs.map Bool.enc)), .p (.lst 1 (u.values.map Bool.enc)), .p (.lst 1 (u.timers.map nenc)), .p (.lst 1 (w.map fun x => [.lst 2 (x.map Stk.enc)])), .p (.lst 1 (m.map Int.enc))], .p (.int .i64 0), .p (.int .i64 0)]
@[simp] def Jmf (k e : Int) : AV := .tup [.agg [.p (.lst 1 []), .p (.lst 1 []), .p (.lst 1 []), .p (.lst 1 []), .p (.lst 1 []), .p (.lst 1 []), .p (.lst 1 [])], .p (.int .i64 k), .p (.int .i64 e)]
noncomputable def errN (s : Sta) (x : Evt) : Int := if x.kind < 0 \/ 3 <= x.kind then 1 else match actF s x with | none => 14 | some _ => 21
theorem Jk1 {s : Sta} {x : Evt} : errN s x ≠ 0 := by
 unfold errN
 split
 . decide
 . split <;> decide
theorem Jns {c : Ctl} {s : Sta} {x : Evt} (h : Jbm c s x = none) : aftR c s x = noR (errN s x) := by
 unfold aftR errN
 split
 . rfl
 . split
   . rename_i hu; first | rfl | simp only [hu]
   . rename_i u hu
     try simp only [hu]
     unfold Jbm at h
     rw [hu] at h
     change Jcc c u = none at h
     rw [h]
noncomputable def midL (c : Ctl) (s : Sta) (x : Evt) : List Int := Jb9 c ((actF s x).getD s)
theorem Jqo {c : Ctl} {s : Sta} {x : Evt} (hc : RC c) : (midL c s x).length <= 273000 := J1p hc
theorem Jnt {c : Ctl} {s t : Sta} {x : Evt} (h : Jbm c s x = some t) : aftR c s x = .tup [t.av, .p (.lst 1 ((midL c s x).map Int.enc)), .p (.int .i64 0)] := by
 unfold Jbm at h
 obtain ⟨u, hu, hc⟩ := Option.bind_eq_some_iff.1 h
 unfold aftR midL
 rw [if_neg (by rcases Jj1 hu with h | h | h <;> omega), hu]
 simp only [hc]
 rfl
noncomputable def runR (c : Ctl) : List Evt -> Nat -> Sta -> List (List Stk) -> List Int -> AV
 | [], _, s, w, m => Jmg s w m
 | x :: l, k, s, w, m => match Jbm c s x with
   | none => Jmf k (errN s x)
   | some t => runR c l (k + 1) t (w ++ [Jb2 s t]) (mrgI m (midL c s x))
theorem Ji9 {c : Ctl} : ∀ {l : List Evt} {k : Nat} {s u : Sta} {w w' : List (List Stk)} {m : List Int}, runF c l s = some (u, w') -> ∃ m', runR c l k s w m = Jmg u (w ++ w') m'
 | [], k, s, u, w, w', m, h => by
   cases h
   exact ⟨m, by rw [List.append_nil]; rfl⟩
 | x :: l, k, s, u, w, w', m, h => by
   unfold runF at h
   cases hn : Jbm c s x with
   | none => rw [hn] at h; cases h
   | some t =>
     rw [hn] at h
     obtain ⟨⟨u2, w2⟩, h1, h2⟩ := Option.map_eq_some_iff.1 h
     cases h2
     obtain ⟨m', hm⟩ := Ji9 (k := k + 1) (w := w ++ [Jb2 s t]) (m := mrgI m (midL c s x)) h1
     refine ⟨m', ?_⟩
     simp only [runR, hn, hm, List.append_assoc, List.singleton_append]
theorem Ji8 {c : Ctl} : ∀ {l : List Evt} {k : Nat} {s : Sta} {w : List (List Stk)} {m : List Int}, runF c l s = none -> ∃ k' e : Int, runR c l k s w m = Jmf k' e /\ e ≠ 0
 | [], k, s, w, m, h => by cases h
 | x :: l, k, s, w, m, h => by
   unfold runF at h
   cases hn : Jbm c s x with
   | none => exact ⟨k, errN s x, by simp only [runR, hn], Jk1⟩
   | some t =>
     rw [hn] at h
     have h1 : runF c l t = none := by
       simp only at h
       cases h2 : runF c l t with
       | none => rfl
       | some r => rw [h2] at h; cases h
     obtain ⟨k', e, hm, he⟩ := Ji8 (k := k + 1) (w := w ++ [Jb2 s t]) (m := mrgI m (midL c s x)) h1
     exact ⟨k', e, by simp only [runR, hn, hm], he⟩
structure RunG where
 s : Sta
 w : List (List Stk)
 m : List Int
 k : Nat
@[simp] def rowW (x : List Stk) : List AV := [.p (.lst 2 (x.map Stk.enc))]
def RunI (c : Ctl) (s0 : Sta) (l : List Evt) (g : RunG) : Prop := g.k <= l.length /\ g.w.length = g.k /\ RS c g.s /\ g.m.length <= 273000 * g.k /\ runR c l 0 s0 [] [] = runR c (l.drop g.k) g.k g.s g.w g.m
theorem RunI.init {c : Ctl} {s : Sta} {l : List Evt} (h : RS c s) : RunI c s l ⟨s, [], [], 0⟩ := ⟨by simp, rfl, h, by simp, rfl⟩
theorem RunI.cons {l : List Evt} {k : Nat} {x : Evt} (hx : l[k]? = some x) : l.drop k = x :: l.drop (k + 1) := by
 have hl := (gsI.1 hx).1
 rw [List.drop_eq_getElem_cons hl]; congr 1; exact (gsI.1 hx).2
theorem RunI.step {c : Ctl} {s0 t : Sta} {l : List Evt} {g : RunG} {x : Evt} (hc : RC c) (h : RunI c s0 l g) (hx : l[g.k]? = some x) (hn : Jbm c g.s x = some t) : RunI c s0 l ⟨t, g.w ++ [Jb2 g.s t], mrgI g.m (midL c g.s x), g.k + 1⟩ := by
 obtain ⟨h1, h2, h3, h4, h5⟩ := h
 have hl := (gsI.1 hx).1
 refine ⟨hl, by simp [h2], (h3.next hc.kinds hn).1, ?_, ?_⟩
 . have := @Jiw g.m (midL c g.s x)
   have := @Jqo c g.s x hc
   simp only
   omega
 . rw [h5, RunI.cons hx]
   simp only [runR, hn]
theorem RunI.stop {c : Ctl} {s0 : Sta} {l : List Evt} {g : RunG} {x : Evt} (h : RunI c s0 l g) (hx : l[g.k]? = some x) (hn : Jbm c g.s x = none) : runR c l 0 s0 [] [] = Jmf g.k (errN g.s x) := by
 rw [h.2.2.2.2, RunI.cons hx]
 simp only [runR, hn]
theorem RunI.done {c : Ctl} {s0 : Sta} {l : List Evt} {g : RunG} (h : RunI c s0 l g) (hk : g.k = l.length) : runR c l 0 s0 [] [] = Jmg g.s g.w g.m := by
 rw [h.2.2.2.2, hk, List.drop_length]
 rfl
set_option maxHeartbeats 2000000 in
theorem Jvc (c : Ctl) (s : Sta) (l : List Evt) (h : RS c s) (hc : RC c) (hL : Lg c) (hq : Jb8 c s) (hl : l.length <= 10) : Pure Tryz.prog GL 9 [c.av, s.av, .p (.lst 3 (l.map Evt.enc))] (runR c l 0 s [] []) := by
 refine Pure.of_walk (N := 67) Tryz.func9 rfl rfl rfl (by simp) (by first | (simp; done) | simp [*]) ?_
 have hQ := Jkh c s h hc hL hq
 have hcp := Jig s (h.small hc)
 unfold staB at hcp
 have hl1 : ¬ (4096 : Int) < (l.length : Int) := by omega
 have hI0 := RunI.init (l := l) h
 generalize hR : runR c l 0 s [] [] = R at *
 simp
 refine Jab hQ ?_
 simp [hl1]
 refine Jag (hcp _ _) ?_
 simp
 refine Jai.goK [3, 6, 10, 30, 31] [0, 1, 2] 1 (fun nx (g : RunG) => [(32, .p (.int .i64 g.k))]) (fun nx g => [(8, some (.cells 7 [[.p (.lst 1 (g.s.ends.map nenc)), .p (.lst 1 (g.s.valves.map Bool.enc)), .p (.lst 1 (g.s.inputs.map Bool.enc)), .p (.lst 1 (g.s.values.map Bool.enc)), .p (.lst 1 (g.s.timers.map nenc)), .acc nx 1 g.w.length, .p (.lst 1 (g.m.map Int.enc))]])), (nx, accB 1 (g.w.map rowW))]) (RunI c s l) (fun g => l.length - g.k) ⟨s, [], [], 0⟩ hI0 ?_ ?_
 . refine Leads.frz_sub (B := [3, 4, 5, 6, 7]) (ρ := [0, 1, 2, 3, 4, 5, 6, 7, 8, 9]) [] [(3, none), (4, none), (5, none), (6, none), (7, none), (8, some (.cells 7 [[.p (.lst 1 (s.ends.map nenc)), .p (.lst 1 (s.valves.map Bool.enc)), .p (.lst 1 (s.inputs.map Bool.enc)), .p (.lst 1 (s.values.map Bool.enc)), .p (.lst 1 (s.timers.map nenc)), .nils, .p (.lst 1 [])]]))] (Freeze.of [] _ (by simp) ?_ (by simp [keys])) ?_
   . intro p hp' x hx
     simp only [List.mem_cons, List.not_mem_nil, or_false] at hp'
     rcases hp' with rfl | rfl | rfl | rfl | rfl | rfl
     . cases hx
     . cases hx
     . cases hx
     . cases hx
     . cases hx
     . simp only [Option.some.injEq] at hx
       subst hx
       refine ⟨by simp, _, rfl, FrzB.row ?_⟩
       simp only [rowK, and_true]
       refine ⟨FrzK.grown (rows := s.ends.map nrow) (by simp) (by simp [get]) (by rw [List.map_map]; rfl) (by simp), FrzK.grown (rows := s.valves.map Bool.row) (by simp) (by simp [get]) (by rw [List.map_map]; rfl) (by simp), FrzK.grown (rows := s.inputs.map Bool.row) (by simp) (by simp [get]) (by rw [List.map_map]; rfl) (by simp), FrzK.grown (rows := s.values.map Bool.row) (by simp) (by simp [get]) (by rw [List.map_map]; rfl) (by simp), FrzK.grown (rows := s.timers.map nrow) (by simp) (by simp [get]) (by rw [List.map_map]; rfl) (by simp), .keep _, .frz _ _ (.one _ _ (.nils _))⟩
   . simp
 rintro ⟨t, w, m, k⟩ hI
 obtain ⟨hk, hwl, ht, hm, hRe⟩ := id hI
 simp only at hk hwl ht hm hRe
 simp
 refine Jan (fun h3 => ?_) (fun h3 => ?_)
 . simp at h3
   obtain ⟨x, e⟩ := Jae h3
   have hA := Joc c t x ht hc hL
   cases hn : Jbm c t x with
   | none =>
     have hS := hI.stop e hn
     simp only at hS
     rw [<- hR, hS]
     rw [Jns hn] at hA
     have hern := @Jk1 t x
     generalize errN t x = er at *
     simp at hA
     simp [h3, e, -getElem?_pos, List.getElem?_cons_zero, List.getElem?_cons_succ]
     refine Jab hA ?_
     simp [Jaa, hern]
   | some v =>
     have hS := hI.step hc e hn
     rw [Jnt hn] at hA
     have hv := (ht.next hc.kinds hn).1
     have hact := hc.act
     have hB := Joj t v (by have := ht.act; have := hv.act; omega) (by have := hv.act; omega)
     have hM := Jkg m (midL c t x) (by have := @Jqo c t x hc; omega)
     simp only at hS
     generalize midL c t x = M at *
     generalize mrgI m M = M2 at *
     generalize Jb2 t v = K at *
     simp at hA
     simp [h3, e, -getElem?_pos, List.getElem?_cons_zero, List.getElem?_cons_succ]
     refine Jab hA ?_
     simp
     refine Jaf.intro (by kernel_rfl) ?_
     simp
     refine Jab hB ?_
     simp
     refine ⟨by omega, Jab hM ?_⟩
     have hr1 : accB 1 (w.map rowW ++ [[AV.p (.lst 2 (K.map Stk.enc))]]) = some (.cells 1 (w.map rowW ++ [[AV.p (.lst 2 (K.map Stk.enc))]])) := by simp [accB]
     simp
     refine ⟨.of (by kernel_rfl), wrap_i64 (by omega) (by omega), ⟨v, w ++ [K], M2, k + 1⟩, hS, by simp only; omega, Leads.subx (ρ := [0, 1, 2, 3, 4, 5, 6, 7, 8, 13]) ?_⟩
     simp [hr1]
 . simp at h3
   have hS := hI.done (by simp only; omega)
   simp only at hS
   rw [<- hR, hS]
   simp [Jaa]
end Go.Am
namespace Go.Am
open Go Go.Proofs Go.Pn
theorem Jyu : KeyOk Tryz.prog 47 IsIB := Jyt (by kernel_rfl) (fun w em n s => by kernel_rfl) (fun n m s t => by rw [eq47]; simp [Bool.decide_and, Bool.beq_eq_decide_eq])
def begM (l : List Stk) : List (AV × AV) := l.map fun k => (k.av, .p (.bool true))
def insK (l : List Stk) (k : Stk) : List Stk := if k ∈ l then l else l ++ [k]
theorem Stk.av_inj {a b : Stk} (h : a.av = b.av) : a = b := by
 cases a; cases b
 simp at h
 rw [h.1, h.2]
theorem Jn0 {k : Stk} : ∀ {l : List Stk}, Jbb (begM l) k.av = if k ∈ l then some (.p (.bool true)) else none
 | [] => rfl
 | a :: l => by
   show Jbb ((a.av, .p (.bool true)) :: begM l) k.av = _
   rw [Jfh]
   by_cases e : a = k
   . subst e; simp
   . rw [if_neg (fun h => e (Stk.av_inj h)), Jn0]
     simp [Ne.symm e]
theorem Jn1 {k : Stk} : ∀ {l : List Stk}, setA (begM l) k.av (.p (.bool true)) = begM (insK l k)
 | [] => rfl
 | a :: l => by
   show setA ((a.av, .p (.bool true)) :: begM l) k.av _ = _
   by_cases e : a = k
   . subst e
     rw [setA, if_pos rfl]
     simp [insK, begM]
   . rw [setA, if_neg (fun h => e (Stk.av_inj h)), Jn1]
     unfold insK
     simp only [List.mem_cons, Ne.symm e, false_or]
     by_cases h : k ∈ l
     . rw [if_pos h, if_pos h]; rfl
     . rw [if_neg h, if_neg h]; rfl
@[simp] theorem Jt9 {l : List Stk} {k : Stk} : Jdo Tryz.prog 47 (begM l) (.agg [.p (.int .i64 k.act), .p (.bool k.out)]) = True :=
 eq_true ⟨_, Jyu, ⟨_, _, rfl⟩, fun e he => by obtain ⟨p, _, rfl⟩ := List.mem_map.1 he; exact ⟨_, _, rfl⟩⟩
@[simp] theorem J33 {l : List Stk} {ρ : List Nat} : renE ρ (begM l) = some (begM l) :=
 Jl9 fun e he => by obtain ⟨p, _, rfl⟩ := List.mem_map.1 he; exact ⟨rfl, rfl⟩
theorem Jyk {l : List Stk} {k x : Stk} : x ∈ insK l k ↔ x ∈ l \/ x = k := by
 unfold insK
 split
 . rename_i h
   exact ⟨.inl, fun hh => hh.elim id fun e => e ▸ h⟩
 . simp
theorem Jqx {s : Txt} : ∀ {l : List Txt} {i j : Nat}, l.Nodup -> l[j]? = some s -> Jbb ((l.zipIdx i).map nmsE) (.p (.str s)) = some (.p (.int .i64 ((i + j : Nat) : Int)))
 | [], _, _, _, h => by simp at h
 | a :: l, i, j, hn, h => by
   rw [List.zipIdx_cons, List.map_cons, Jfh]
   cases j with
   | zero =>
     simp at h; subst h
     rw [if_pos (show (nmsE (a, i)).1 = AV.p (.str a) from rfl)]; rfl
   | succ j =>
     have hs : l[j]? = some s := by simpa using h
     rw [if_neg (fun e => (List.nodup_cons.1 hn).1 (by cases e; exact List.mem_of_getElem? hs)), Jqx (List.nodup_cons.1 hn).2 hs, show i + 1 + j = i + (j + 1) by omega]
theorem Jzp {s : Txt} {l : List Txt} {j : Nat} (hn : l.Nodup) (h : l[j]? = some s) : Jbb (nmsM l) (.p (.str s)) = some (.p (.int .i64 j)) := by
 have := Jqx (i := 0) hn h
 rw [Nat.zero_add] at this; exact this
structure Nod where
 st : Sta
 by_ : Int
 ev : Evt
@[simp] def Nod.row (n : Nod) : List AV := [.p (.lst 1 (n.st.ends.map nenc)), .p (.lst 1 (n.st.valves.map Bool.enc)), .p (.lst 1 (n.st.inputs.map Bool.enc)), .p (.lst 1 (n.st.values.map Bool.enc)), .p (.lst 1 (n.st.timers.map nenc)), .p (.int .i64 n.by_), .p (.int .i64 n.ev.kind), .p (.int .i64 n.ev.idx), .p (.bool n.ev.val)]
@[simp] def rowJ (o : List Int) : List AV := [.p (.lst 1 (o.map Int.enc))]
structure SG where
 nodes : List Nod
 bh : List (List Int)
 begun : List Stk
 err : Int
def stsN (l : List Nod) : List Sta := l.map (·.st)
def SG.txts (g : SG) : List Txt := (stsN g.nodes).map staT
def srcB (c : Ctl) (pr : Bool) (most : Int) (g : SG) (n p b k : Nat) : ABlk := .cells 12 [[.p (.int .i64 c.act), .p (.lst 1 (c.inputs.map Txt.enc)), .p (.lst 10 (c.sigs.map Sig.enc)), .p (.lst 1 (c.plus.map Int.enc)), .p (.lst 1 (c.minus.map Int.enc)),
 .p (.bool pr), .p (.int .i64 most), .acc n 9 g.nodes.length, .map p, .acc b 1 g.bh.length, .map k, .p (.int .i64 g.err)]]
def srcS (c : Ctl) (pr : Bool) (most : Int) (g : SG) : Store := [(0, some (srcB c pr most g 1 2 3 4)), (1, accB 9 (g.nodes.map Nod.row)), (2, some (.map (nmsM g.txts))), (3, accB 1 (g.bh.map rowJ)), (4, some (.map (begM g.begun)))]
structure SrcAt (c : Ctl) (pr : Bool) (most : Int) (g : SG) (st : Store) (nx x n p b k : Nat) : Prop where
 nd : [x, n, p, b, k].Nodup
 lt : ∀ y ∈ [x, n, p, b, k], y < nx
 gx : get st x = some (srcB c pr most g n p b k)
 gn : get st n = accB 9 (g.nodes.map Nod.row)
 gp : get st p = some (.map (nmsM g.txts))
 gb : get st b = accB 1 (g.bh.map rowJ)
 gk : get st k = some (.map (begM g.begun))
theorem Jfv {α : Type} {st : Store} {σ : List Nat} {b k : Nat} {L : List α} {f : α -> List AV} (hf : ∀ x, Ja5 (f x) = true) (h : get st b = accB k (L.map f)) : (match accB k (L.map f) with
   | some y => Jaj (renB σ y) fun y' => get st b = some y'
   | none => True) := by
 by_cases hl : L = []
 . subst hl; exact trivial
 . rw [Jat hl] at h ⊢
   show Jaj ((renR _ _).map _) _
   rw [Jao hf]
   exact h
theorem Jsf {c : Ctl} {pr : Bool} {most : Int} {g : SG} {st : Store} {nx x n p b k : Nat} {args args' : List AV} (h : SrcAt c pr most g st nx x n p b k) (ha : renL [x, n, p, b, k] args = some args') : Jcq [x, n, p, b, k] nx (srcS c pr most g) st args args' := by
 have r0 : renB [x, n, p, b, k] (srcB c pr most g 1 2 3 4) = some (srcB c pr most g n p b k) := rfl
 refine ⟨?_, fun i i' hk hg => ?_, h.nd, h.lt, ha⟩
 . simp [-renB, srcS, Jc0, h.gx, r0]
   simp [h.gp, h.gk]
   exact ⟨Jfv (fun _ => rfl) h.gn, Jfv (fun _ => rfl) h.gb⟩
 . match i, hk with
   | 0, _ => exact ⟨_, rfl⟩
   | 1, hk => simp at hk; subst hk; rw [h.gn] at hg; exact Option.ne_none_iff_exists'.1 hg
   | 2, _ => exact ⟨_, rfl⟩
   | 3, hk => simp at hk; subst hk; rw [h.gb] at hg; exact Option.ne_none_iff_exists'.1 hg
   | 4, _ => exact ⟨_, rfl⟩
end Go.Am
namespace Go.Am
open Go Go.Proofs Go.Pn
theorem Jcf {α : Type} {ρ : List Nat} {k : Nat} {L : List α} {f : α -> List AV} (hf : ∀ x, Ja5 (f x) = true) : (match accB k (L.map f) with
   | some y => Jaj (renB ρ y) fun y' => accB k (L.map f) = some y'
   | none => True) := by
 by_cases hl : L = []
 . subst hl; exact trivial
 . rw [Jat hl]
   show Jaj ((renR _ _).map _) _
   rw [Jao hf]
   rfl
def evsT (s : Sta) (k : Nat) : List Evt := Jbh s ++ (Jfr s).take k
theorem Jw0 {s : Sta} : evsT s 0 = Jbh s := by simp [evsT]
theorem Jp4 {s : Sta} : (Jfr s).length = s.inputs.length := by unfold Jfr; simp
theorem Jyj {s : Sta} {k : Nat} {w : Bool} (h : s.inputs[k]? = some w) : (Jfr s)[k]? = some ⟨2, k, !w⟩ := by
 have hl := (gsI.1 h).1
 unfold Jfr
 rw [List.getElem?_map, List.getElem?_range hl]
 simp [h]
theorem Jwz {s : Sta} {k : Nat} {w : Bool} (h : s.inputs[k]? = some w) : evsT s (k + 1) = evsT s k ++ [⟨2, k, !w⟩] := by
 unfold evsT
 rw [take_snoc (Jyj h), List.append_assoc]
theorem Jpd {s : Sta} : evsT s s.inputs.length = evsF s := by
 unfold evsT evsF
 rw [<- Jp4, List.take_length]
theorem Jpe {s : Sta} {k : Nat} (h : SmS s) : (evsT s k).length <= 100000 := by
 have h1 : (evsT s k).length <= s.ends.length + s.timers.length + s.inputs.length := by
   unfold evsT Jbh Jgf Jsv
   rw [List.length_append, List.length_append, List.length_map, List.length_map, List.length_take, Jp4]
   have a := List.length_filter_le (fun i => decide (s.ends.getD i 0 = 1) || decide (s.ends.getD i 0 = 3)) (List.range s.ends.length)
   have b := List.length_filter_le (fun i => decide (s.timers.getD i 0 = 1)) (List.range s.timers.length)
   rw [List.length_range] at a b
   omega
 obtain ⟨k1, k2, k3, k4, k5⟩ := h
 omega
theorem Jee {ρ : List Nat} {s' : Store} {b k : Nat} {L : List Nod} (h : (ρ[b]?).bind (get s') = accB k (L.map Nod.row)) : Jcr ρ s' b (accB k (L.map Nod.row)) = True := Jds h (Jao fun _ => rfl)
theorem Jed {ρ : List Nat} {s' : Store} {b k : Nat} {L : List (List Int)} (h : (ρ[b]?).bind (get s') = accB k (L.map rowJ)) : Jcr ρ s' b (accB k (L.map rowJ)) = True := Jds h (Jao fun _ => rfl)
set_option maxHeartbeats 2000000 in
set_option maxRecDepth 20000 in
theorem Jxl (c : Ctl) (most : Int) (g : SG) (s : Sta) (h : RS c s) (hc : RC c) (hL : Lg c) (hq : Jb8 c s) (st : Store) (nx x n p b k : Nat) (hM : SrcAt c true most g st nx x n p b k) :
   Gives Tryz.prog GL 76 [.ptr x 12 0 0, s.av] st nx (.tup [.acc nx 3 (evsF s).length, .p (.int .i64 0)]) [x, n, p, b, k] [(nx, accB 3 ((evsF s).map Evt.row))] (nx + 1) := by
 have hE := Jlh c s h hc hL hq
 rw [<- Jw0] at hE
 have hl := fun k => @Jpe s k (h.small hc)
 have hil := h.inputs
 have hil2 := hc.inputs
 refine Gives.mk_walkA (N := 47) (args := [.ptr 0 12 0 0, s.av]) [x, n, p, b, k] [] (srcS c true most g) [(5, accB 3 ((evsF s).map Evt.row))] 5 1 (.tup [.acc 5 3 (evsF s).length, .p (.int .i64 0)]) (fun st => [nameOf (slot st.t 4)]) (up1 := [(nx, accB 3 ((evsF s).map Evt.row))]) Tryz.func76 rfl rfl rfl (by simp) rfl (Jsf hM rfl) (by simp) rfl (Jay rfl (Jao fun _ => rfl)) (by simp) rfl ?_
 simp [srcS, srcB]
 refine Jaf.intro (by kernel_rfl) ?_
 simp
 refine Jag (hE _ _) ?_
 simp
 refine ⟨.of (by kernel_rfl), ?_⟩
 refine Jai.goe [31, 32] [0, 1, 2, 3, 4, 5] 1 (fun nx (k : Nat) => [(6, .acc nx 3 (evsT s k).length), (33, .p (.int .i64 k))]) (fun nx k => [(nx, accB 3 ((evsT s k).map Evt.row))]) (fun k => k <= s.inputs.length) (fun k => s.inputs.length - k) 0 (by omega) ⟨[0, 1, 2, 3, 4, 5, 7, 6], ?_⟩ ?_
 . simp [Jgw, Jee, Jed]
   try decide
 intro k hk
 simp
 refine Jan (fun h => ?_) (fun h => ?_)
 . simp at h
   obtain ⟨w, e⟩ := Jae h
   have hs := Jwz e
   have hlk := hl k
   have em : (evsT s k).map Evt.row ++ [[AV.p (.int .i64 2), AV.p (.int .i64 (k : Int)), AV.p (.bool !w)]] = (evsT s (k + 1)).map Evt.row := by rw [hs, List.map_append]; rfl
   have hlen : (evsT s (k + 1)).length = (evsT s k).length + 1 := by rw [hs]; simp
   simp [h, e, -getElem?_pos, List.getElem?_cons_zero, List.getElem?_cons_succ]
   rw [em]
   refine ⟨by omega, wrap_i64 (by omega) (by omega), k + 1, by omega, by omega, [0, 1, 2, 3, 4, 5, 6, 9], ?_⟩
   generalize evsT s (k + 1) = T at *
   simp [hlen, Jgw, Jee, Jed]
   try decide
 . simp at h
   have hkn : k = s.inputs.length := by omega
   subst hkn
   rw [Jpd]
   simp [srcS, srcB]
   exact ⟨⟨Jgv, Jcf fun _ => rfl, Jcf fun _ => rfl⟩, by decide⟩
end Go.Am
namespace Go.Am
open Go Go.Pn
structure EG where
 nodes : List Nod
 begun : List Stk
 bhd : List Int
 err : Int
def insA (l m : List Stk) : List Stk := m.foldl insK l
noncomputable def Jcy (c : Ctl) (most : Nat) (s : Sta) (i : Int) (x : EG) (e : Evt) : EG :=
 if x.err ≠ 0 then x else match Jbm c s e with
 | none => { x with err := errN s e }
 | some t => if t ∈ stsN x.nodes then ⟨x.nodes, insA x.begun (Jb2 s t), x.bhd ++ [((stsN x.nodes).idxOf t : Int)], 0⟩
   else ⟨x.nodes ++ [⟨t, i, e⟩], insA x.begun (Jb2 s t), x.bhd ++ [(x.nodes.length : Int)], if most < x.nodes.length + 1 then 12 else 0⟩
noncomputable def Jdu (c : Ctl) (most : Nat) (s : Sta) (i : Int) (l : List Evt) (x : EG) : EG := l.foldl (Jcy c most s i) x
theorem Jw1 {c : Ctl} {most : Nat} {s : Sta} {i : Int} {x : EG} {e : Evt} (h : x.err ≠ 0) : Jcy c most s i x e = x := by unfold Jcy; rw [if_pos h]
theorem Jk6 {c : Ctl} {most : Nat} {s : Sta} {i : Int} : ∀ {l : List Evt} {x : EG}, x.err ≠ 0 -> Jdu c most s i l x = x
 | [], _, _ => rfl
 | e :: l, x, h => by
   show Jdu c most s i l (Jcy c most s i x e) = x
   rw [Jw1 h, Jk6 h]
theorem Jk5 {c : Ctl} {most : Nat} {s : Sta} {i : Int} {e : Evt} {l : List Evt} {x : EG} : Jdu c most s i (e :: l) x = Jdu c most s i l (Jcy c most s i x e) := rfl
structure EI (c : Ctl) (most : Nat) (x : EG) : Prop where
 right : ∀ n ∈ x.nodes, RS c n.st /\ Jb8 c n.st
 nodup : (stsN x.nodes).Nodup
 few : x.err = 0 -> x.nodes.length <= most
 big : x.nodes.length <= most + 1
theorem EI.one {c : Ctl} (hc : RC c) {most : Nat} {s : Sta} (hs : RS c s) {i : Int} {x : EG} (h : EI c most x) (e : Evt) : EI c most (Jcy c most s i x e) := by
 unfold Jcy
 split
 . exact h
 . rename_i h0
   have h0 : x.err = 0 := Classical.byContradiction h0
   split
   . exact ⟨h.right, h.nodup, fun _ => h.few h0, h.big⟩
   . rename_i t ht
     have hn := hs.next hc.kinds ht
     split
     . exact ⟨h.right, h.nodup, fun _ => h.few h0, h.big⟩
     . rename_i hm
       refine ⟨fun n hn2 => ?_, ?_, fun he => ?_, ?_⟩
       . rcases List.mem_append.1 hn2 with h1 | h1
         . exact h.right n h1
         . rw [List.mem_singleton.1 h1]; exact hn
       . show (stsN (x.nodes ++ [_])).Nodup
         unfold stsN
         rw [List.map_append]
         exact List.nodup_append.2 ⟨h.nodup, by simp, fun a ha b hb => by
           simp at hb
           intro hab
           exact hm (by rw [<- hb, <- hab]; exact ha)⟩
       . show (x.nodes ++ [_]).length <= most
         rw [List.length_append, List.length_singleton]
         apply Classical.byContradiction
         intro hc2
         have hl : most < x.nodes.length + 1 := by omega
         simp only [if_pos hl] at he
         cases he
       . show (x.nodes ++ [_]).length <= most + 1
         have := h.few h0
         rw [List.length_append, List.length_singleton]; omega
theorem EI.all {c : Ctl} (hc : RC c) {most : Nat} {s : Sta} (hs : RS c s) {i : Int} : ∀ {l : List Evt} {x : EG}, EI c most x -> EI c most (Jdu c most s i l x)
 | [], _, h => h
 | e :: l, x, h => by rw [Jk5]; exact EI.all hc hs (h.one hc hs e)
theorem Jp3 {α : Type} [DecidableEq α] {a : α} : ∀ {l : List α}, a ∈ l -> l[l.idxOf a]? = some a
 | b :: l, h => by
   rw [List.idxOf_cons]
   by_cases e : b = a
   . subst e; simp
   . have h2 : a ∈ l := by
       rcases List.mem_cons.1 h with h | h
       . exact absurd h.symm e
       . exact h
     have e2 : (b == a) = false := by simpa using e
     rw [e2]
     simpa using Jp3 h2
theorem EI.txts {c : Ctl} {most : Nat} {x : EG} (h : EI c most x) : ((stsN x.nodes).map staT).Nodup := by
 refine List.pairwise_map.2 (List.Pairwise.imp_of_mem (fun {a b} ha hb hne hab => hne ?_) h.nodup)
 obtain ⟨n, hn, rfl⟩ := List.mem_map.1 ha
 obtain ⟨m, hm, rfl⟩ := List.mem_map.1 hb
 exact Jsh (h.right n hn).1 (h.right m hm).1 hab
structure SimE (x : EG) (y : Sr Sta Stk) : Prop where
 nodes : y.nodes = stsN x.nodes
 begun : ∀ k, k ∈ x.begun ↔ k ∈ y.begun
 err : x.err = (y.err : Int)
theorem Jll {x : Stk} : ∀ {m l : List Stk}, x ∈ insA l m ↔ x ∈ l \/ x ∈ m
 | [], l => by simp [insA]
 | a :: m, l => by
   show x ∈ insA (insK l a) m ↔ _
   rw [Jll, Jyk]
   simp only [List.mem_cons, or_assoc]
theorem SimE.one {c : Ctl} {most : Nat} {s : Sta} {i : Int} {x : EG} {y : Sr Sta Stk} (h : SimE x y) (e : Evt) (he : e ∈ evsF s) : SimE (Jcy c most s i x e) (Jbc (Jbi c) most s y e) := by
 obtain ⟨u, hu⟩ := Jwy he
 have herr : errN s e = 21 := by
   unfold errN
   rw [if_neg (by rcases Jj1 hu with h | h | h <;> omega), hu]
 unfold Jcy Jbc
 by_cases h0 : y.err = 0
 . have h0' : x.err = 0 := by rw [h.err, h0]; rfl
   rw [if_neg (show ¬ x.err ≠ 0 from fun h => h h0'), if_neg (show ¬ y.err ≠ 0 from fun h => h h0)]
   simp only [Jbi]
   cases hn : Jbm c s e with
   | none => exact ⟨h.nodes, h.begun, by simp [herr]⟩
   | some t =>
     simp only
     rw [h.nodes]
     by_cases ht : t ∈ stsN x.nodes
     . rw [if_pos ht, if_pos ht]
       refine ⟨rfl, fun k => ?_, by simp [h0]⟩
       show k ∈ insA _ _ ↔ k ∈ y.begun ++ Jb2 s t
       rw [Jll, h.begun k, List.mem_append]
     . rw [if_neg ht, if_neg ht]
       refine ⟨by simp [stsN], fun k => ?_, ?_⟩
       . show k ∈ insA _ _ ↔ k ∈ y.begun ++ Jb2 s t
         rw [Jll, h.begun k, List.mem_append]
       . have : (stsN x.nodes).length = x.nodes.length := by simp [stsN]
         simp only [this]
         split <;> rfl
 . rw [if_pos (show x.err ≠ 0 by rw [h.err]; omega), if_pos h0]
   exact h
theorem SimE.all {c : Ctl} {most : Nat} {s : Sta} {i : Int} : ∀ {l : List Evt} {x : EG} {y : Sr Sta Stk}, SimE x y -> (∀ e ∈ l, e ∈ evsF s) -> SimE (Jdu c most s i l x) (Jb5 (Jbi c) most s l y)
 | [], _, _, h, _ => h
 | e :: l, x, y, h, hl => by
   rw [Jk5]
   show SimE _ (Jb5 _ _ _ l (Jbc _ _ _ y e))
   exact SimE.all (h.one e (hl e List.mem_cons_self)) fun e he => hl e (List.mem_cons_of_mem _ he)
end Go.Am
