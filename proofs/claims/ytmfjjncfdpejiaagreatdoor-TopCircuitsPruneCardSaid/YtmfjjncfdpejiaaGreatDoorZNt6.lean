/- Contracts: pneumatictop.TopCircuitsPrune. -/
import Derived.Test.YtmfjjncfdpejiaaGreatDoorZNT
import Derived.Test.YtmfjjncfdpejiaaGreatDoorZP4
import Derived.Test.YtmfjjncfdpejiaaGreatDoorZP3
import Derived.Test.YtmfjjncfdpejiaaGreatDoorZCQ
import Derived.Test.YtmfjjncfdpejiaaGreatDoorZC6
import Derived.Test.YtmfjjncfdpejiaaGreatDoorZCA
import Derived.Test.YtmfjjncfdpejiaaGreatDoorZA7
set_option linter.unusedVariables false
set_option linter.unusedSimpArgs false
namespace Go.Am
open Go Go.Proofs Go.Pn
noncomputable def ckK (L : List Port) : List AV := (cqR L).map (·.1)
noncomputable def ckV (L : List Port) : List AV := (cqR L).map (·.2)
theorem J43 {L : List Port} : (ckK L).length = (cqR L).length := List.length_map ..
theorem J1j {α β : Type} : ∀ {l : List (α × β)}, (l.map (·.1)).zip (l.map (·.2)) = l
 | [] => rfl
 | x :: l => by rw [List.map_cons, List.map_cons, List.zip_cons_cons, J1j]
def badE (k : Nat) (e : AV × AV) : Prop := ∃ (y : Port) (m : Nat), e = (keyP y, .p (.int .i64 (m : Nat))) /\ y.part = k /\ 1 < m
theorem J42 (L : List Port) (s : Store) (B : Nat -> Prop) (hB : B 1) (hg : get s 1 = some (.map (cqR L))) : FrzA s B (.map 1) (.pmap (ckK L) (ckV L)) :=
 .map 1 (cqR L) _ _ hB hg (fun e he => by obtain ⟨y, m, rfl⟩ := Jmn e he; exact ⟨rfl, rfl⟩) (by simp [ckK, ckV]) Jpy (by unfold ckK ckV; rw [J1j])
theorem J8j {c : Circuit} (h : Jad c = 0) {x : Int} (hx : x ∈ Jb4 c) : ∃ k : Nat, x = k /\ k < c.parts.length /\ idleB c k = true := by
 unfold Jb4 Jdp at hx
 rw [if_pos h] at hx
 obtain ⟨k, hk, rfl⟩ := List.mem_map.1 hx
 obtain ⟨h1, h2⟩ := List.mem_filter.1 hk
 exact ⟨k, rfl, List.mem_range.1 h1, h2⟩
theorem Jwa {c : Circuit} (h : Jad c = 0) {k : Nat} (hk : k < c.parts.length) : decide ((k : Int) ∈ Jb4 c) = idleB c k := by
 rw [Bool.eq_iff_iff, decide_eq_true_eq]
 unfold Jb4 Jdp
 rw [if_pos h]
 constructor
 . intro hx
   obtain ⟨j, hj, e⟩ := List.mem_map.1 hx
   have : j = k := by omega
   subst this
   exact (List.mem_filter.1 hj).2
 . intro hx
   exact List.mem_map.2 ⟨k, List.mem_filter.2 ⟨List.mem_range.2 hk, hx⟩, rfl⟩
set_option maxRecDepth 20000 in
theorem J4l (c : Circuit) (a : Nat) (ha : a < 256) (hs : Sized c) : Pure Tryz.prog GL 13 [c.av, .p (.int .u8 a)] (.p (.bool true)) := by
 have hR := J4n c hs
 have hP := J4m ()
 refine Pure.of_aevT (N := 221) Tryz.func13 rfl rfl rfl (by simp) rfl ?_
 refine AEv.seqY ?_
 simp
 refine AEv.seqY ?_
 simp
 refine Jab hR ?_
 cases hf : (fewP c && decide (Jad c = 0)) with
 | false =>
   simp
   refine Jab hP ?_
   simp [Jaa]
 | true =>
 simp only [Bool.and_eq_true, decide_eq_true_eq] at hf
 obtain ⟨hfw, h⟩ := hf
 simp
 have hI := Jt9 c hs
 rw [h] at hI
 refine AEv.seqY ?_
 simp
 refine Jab hI ?_
 simp
 refine AEv.seqY ?_
 simp
 refine AEv.seqY ?_
 simp
 by_cases h0 : Jb4 c = []
 . simp [h0]
   refine Jab hP ?_
   simp [Jaa]
 have h0l : 0 < (Jb4 c).length := List.length_pos_iff.2 h0
 have hjl : a % (Jb4 c).length < (Jb4 c).length := Nat.mod_lt _ h0l
 obtain ⟨kI, eI⟩ := Jah hjl
 obtain ⟨k, rfl, hk, hid⟩ := J8j h (List.mem_of_getElem? eI)
 have hrem : ((a : Int).tmod ((Jb4 c).length : Int)) = ((a % (Jb4 c).length : Nat) : Int) := rfl
 generalize a % (Jb4 c).length = j at hjl eI hrem
 have hji : (j : Int) < ((Jb4 c).length : Int) := by omega
 have hne : ¬ ((Jb4 c).length : Int) = 0 := by omega
 have hwa : IntKind.i64.wrap (a : Int) = a := wrap_i64 (by omega) (by omega)
 have hk0 : ¬ (k : Int) < 0 := by omega
 have hk1 : ¬ (c.parts.length : Int) <= k := by omega
 simp [h0]
 refine AEv.seqY ?_
 simp [h0, hrem, eI, hwa, hji, hjl, -getElem?_pos]
 simp [hk0, hk1, hk]
 refine AEv.seqY ?_
 simp [hk0, hk1, hk]
 refine AEv.seqY ?_
 simp
 refine AEv.seqY ?_
 simp
 have h2 := Jcx h
 refine Jaj.go [2, 5, 7, 8, 60, 61] [0] 0 [] (fun _ => []) (fun _ (i : Nat) => [(62, .p (.int .i64 i))]) (fun _ i => [(1, some (.map (cqR (endR c i))))]) (fun i => i <= c.pipes.length) (fun i => c.pipes.length - i) 0 (by omega) ?_ ?_
 . simp [endR, cqR]
   try decide
 intro i hi
 simp
 refine Jac (fun h3 => ?_) (fun h3 => ?_)
 . simp at h3
   obtain ⟨x, e⟩ := Jah h3
   have hE := Ju7 e
   have hEl := @Ju8 c i
   have hhit : ∀ n : Nat, hit false (AV.p (PV.int IntKind.i64 0)) (if n = 0 then none else some (AV.p (PV.int IntKind.i64 ↑n))) = .p (.int .i64 n) := fun n => by
     by_cases hn0 : n = 0 <;> simp [hit, hn0]
   have a1 := @Jin x.fr (endR c i)
   have b1 := @Jy0 (cqR (endR c i)) (keyP x.fr) (.p (.int .i64 0)) (AV.p (PV.int IntKind.i64 ((cntP (endR c i) x.fr : Nat) + 1)))
   have d1 := @Jwb (cqR (endR c i)) (keyP x.fr) (.p (.int .i64 0))
   rw [<- show cqR (x.fr :: endR c i) = setA (cqR (endR c i)) (keyP x.fr) (.p (.int .i64 ((cntP (endR c i) x.fr : Nat) + 1))) from rfl] at b1
   have f1 := @Ju2 (endR c i) x.fr
   have g1 := @Jin x.fr (x.fr :: endR c i)
   rw [Jhi, if_pos rfl, if_neg (by omega)] at g1
   have w1 : IntKind.i64.wrap ((cntP (endR c i) x.fr : Nat) + 1 : Int) = (cntP (endR c i) x.fr : Nat) + 1 := wrap_i64 (by omega) (by omega)
   simp only [keyP] at a1 b1 d1 g1
   simp [h3, e, Pipe.enc, -getElem?_pos, List.getElem?_cons_zero, List.getElem?_cons_succ]
   refine Jak.late 3 5 _ (by kernel_rfl) rfl rfl ?_
   have hr2 : List.range 2 = [0, 1] := rfl
   simp [a1, hhit, w1, b1, d1, g1, hr2, -getElem?_pos, List.getElem?_cons_zero, List.getElem?_cons_succ]
   refine ⟨.of (by kernel_rfl), ⟨?_, ?_⟩, ?_⟩
   . rw [Jwn ⟨_, _, rfl⟩]; trivial
   . rw [Ju9, a1]
     by_cases hn0 : cntP (endR c i) x.fr = 0 <;> simp [hit, hn0]
   have hEl2 : (x.fr :: endR c i).length <= 2 * i + 1 := by simp only [List.length_cons]; omega
   generalize x.fr :: endR c i = L at hE hEl2 ⊢
   have a2 := @Jin x.to L
   have b2 := @Jy0 (cqR L) (keyP x.to) (.p (.int .i64 0)) (AV.p (PV.int IntKind.i64 ((cntP L x.to : Nat) + 1)))
   have d2 := @Jwb (cqR L) (keyP x.to) (.p (.int .i64 0))
   rw [<- show cqR (x.to :: L) = setA (cqR L) (keyP x.to) (.p (.int .i64 ((cntP L x.to : Nat) + 1))) from rfl] at b2
   have f2 := @Ju2 L x.to
   have g2 := @Jin x.to (x.to :: L)
   rw [Jhi, if_pos rfl, if_neg (by omega)] at g2
   have w2 : IntKind.i64.wrap ((cntP L x.to : Nat) + 1 : Int) = (cntP L x.to : Nat) + 1 := wrap_i64 (by omega) (by omega)
   simp only [keyP] at a2 b2 d2 g2
   refine Jak.late 3 5 _ (by kernel_rfl) rfl rfl ?_
   simp [a2, hhit, w2, b2, d2, g2, hr2, -getElem?_pos, List.getElem?_cons_zero, List.getElem?_cons_succ]
   refine ⟨.of (by kernel_rfl), ⟨?_, ?_⟩, wrap_i64 (by omega) (by omega), i + 1, by omega, by omega, by omega, ?_⟩
   . rw [Jwn ⟨_, _, rfl⟩]; trivial
   . rw [Ju9, a2]
     by_cases hn0 : cntP L x.to = 0 <;> simp [hit, hn0]
   rw [hE]
 simp at h3
 have hin : i = c.pipes.length := by omega
 subst hin
 simp
 have hck : ∀ n, (ckK (endR c c.pipes.length))[n]? = ((cqR (endR c c.pipes.length))[n]?).map (fun e : AV × AV => e.1) := fun n => by unfold ckK; rw [List.getElem?_map]
 have hcv : ∀ n, (ckV (endR c c.pipes.length))[n]? = ((cqR (endR c c.pipes.length))[n]?).map (fun e : AV × AV => e.2) := fun n => by unfold ckV; rw [List.getElem?_map]
 have hone : (∀ n e, (cqR (endR c c.pipes.length))[n]? = some e -> ¬ badE k e) -> Je3 c k := fun hb => Kam fun y hy => by
   refine Nat.le_of_not_lt fun hlt => ?_
   obtain ⟨n, e⟩ := @J5i (endR c c.pipes.length) y (by omega)
   exact hb n _ e ⟨y, _, rfl, hy, hlt⟩
 have hent := fun e he => @Jmn (endR c c.pipes.length) e he
 have hfr := J42 (endR c c.pipes.length)
 have hkl := @J43 (endR c c.pipes.length)
 refine AEv.leads (st := ⟨[(8, .pmap (ckK (endR c c.pipes.length)) (ckV (endR c c.pipes.length))), (5, .p (.lst 1 ((Jb4 c).map Int.enc))), (7, .p (.int .i64 k)), (2, .ptr 0 2 0 0)], [(0, some (.cells 2 [[.p (.lst 3 (c.parts.map Part.enc)), .p (.lst 4 (c.pipes.map Pipe.enc))]]))], 1⟩) ?_ (Jgh ?_)
 . refine Leads.frz_sub (B := [1]) (ρ := [0]) [(8, .pmap (ckK (endR c c.pipes.length)) (ckV (endR c c.pipes.length)))] [(1, none)] (Freeze.of _ _ ?_ (by simp) (by simp [keys])) ?_
   . intro p hp
     simp only [List.mem_cons, List.not_mem_nil, or_false] at hp
     subst hp
     exact .frz _ _ (hfr _ _ (by simp) rfl)
   . simp
     try decide
 generalize ckK (endR c c.pipes.length) = KS at hck hkl ⊢
 generalize ckV (endR c c.pipes.length) = VS at hcv ⊢
 generalize cqR (endR c c.pipes.length) = ES at hck hcv hone hent hkl
 simp
 refine Jaj.go [2, 5, 7, 82] [0] 0 [] (fun _ => []) (fun _ (_ : List Nat) => []) (fun _ seen => [(1, some (.iter KS VS seen))]) (fun seen => seen.Nodup /\ (∀ n ∈ seen, n < KS.length) /\ ∀ n ∈ seen, ∀ e, ES[n]? = some e -> ¬ badE k e) (fun seen => KS.length - seen.length) [] ⟨List.nodup_nil, by simp, by simp⟩ ?_ ?_
 . simp
   try decide
 rintro seen ⟨hsn, hsl, hsb⟩
 simp
 refine Jlt (fun n kk vv hns hkn hvn => ?_) (fun hall => ?_)
 . have hkn' := hkn
   rw [hck] at hkn'
   obtain ⟨e, en, rfl⟩ := Option.map_eq_some_iff.1 hkn'
   rw [hcv, en, Option.map_some, Option.some.injEq] at hvn
   subst hvn
   obtain ⟨y, m, rfl⟩ := hent e (List.mem_of_getElem? en)
   have hvn : VS[n]? = some (AV.p (PV.int IntKind.i64 (m : Nat))) := by rw [hcv, en]; rfl
   have hnl : n < KS.length := (gsI.1 hkn).1
   have hsn2 : (seen ++ [n]).Nodup := by
     rw [List.nodup_append]
     exact ⟨hsn, by simp, fun a ha b hb e => hns (by simp at hb; rw [<- hb, <- e]; exact ha)⟩
   have hsl2 : ∀ m ∈ seen ++ [n], m < KS.length := fun m hm => by
     rcases List.mem_append.1 hm with hm | hm
     . exact hsl m hm
     . simp at hm; subst hm; exact hnl
   have hcn : seen.length + 1 <= KS.length := by
     have := Jfm (m := List.range KS.length) hsn2 (fun m hm => List.mem_range.2 (hsl2 m hm))
     simpa using this
   simp only [keyP] at hkn
   by_cases hb : y.part = k /\ 1 < m
   . have hb2 : (1 : Int) < m := by omega
     simp [hkn, hvn, hb.1, hb2]
     refine Jab hP ?_
     simp [Jaa]
   . have hsb2 : ∀ i ∈ seen ++ [n], ∀ e, ES[i]? = some e -> ¬ badE k e := fun i him e ei => by
       rcases List.mem_append.1 him with him | him
       . exact hsb i him e ei
       . simp at him; subst him
         rw [en] at ei
         cases ei
         rintro ⟨y', m', e1, e2, e3⟩
         simp only [Prod.mk.injEq] at e1
         obtain ⟨e4, e5⟩ := e1
         rw [<- Jqu.1 e4] at e2
         simp only [AV.p.injEq, PV.int.injEq, true_and] at e5
         exact hb ⟨e2, by omega⟩
     have hcond : (decide (y.part = (k : Int)) && decide ((1 : Int) < m)) = false := by
       rw [Bool.eq_false_iff]
       simp only [ne_eq, Bool.and_eq_true, decide_eq_true_eq]
       exact fun hh => hb ⟨hh.1, by omega⟩
     by_cases hy : y.part = (k : Int)
     . have hm1 : ¬ (1 : Int) < m := fun hh => hb ⟨hy, by omega⟩
       simp [hkn, hvn, hy, hm1]
       exact ⟨⟨hsn2, ⟨hsl, hnl⟩, fun x hx a b e2 => hsb x hx _ e2, fun a b e2 => hsb2 n (by simp) _ e2⟩, by omega⟩
     . simp [hkn, hvn, hy]
       exact ⟨⟨hsn2, ⟨hsl, hnl⟩, fun x hx a b e2 => hsb x hx _ e2, fun a b e2 => hsb2 n (by simp) _ e2⟩, by omega⟩
 have hOne := hone fun n e en => hsb n (hall n (by rw [hkl]; exact (gsI.1 en).1)) e en
 obtain ⟨pk, epk⟩ := Jah hk
 have hkc := (Jiw.1 hid).1
 have hd := Jn1 h hk hkc
 have hsd : Sized (Jag c k) := Kcp hd
 have hRm := J20 c pk.name hs (by have := hs.names pk (List.mem_of_getElem? epk); omega)
 have hpi := Jht h epk
 have hrE : Jfr c pk.name = 0 := by
   unfold Jfr
   rw [if_neg (by simpa using h), hpi, if_neg (by omega), if_neg (fun hh => hkc hh.1)]
 have hrP : remP c pk.name = Jag c k := by
   unfold remP
   rw [hrE, if_neg (by simp), hpi, Int.toNat_natCast]
 rw [hrE, hrP] at hRm
 have hI2 := Jt9 (Jag c k) hsd
 rw [hd] at hI2
 have hlen : (Jag c k).parts.length + 1 = c.parts.length := by
   show (c.parts.take k ++ c.parts.drop (k + 1)).length + 1 = _
   simp; omega
 have hlen2 : ((Jag c k).parts.length : Int) = (c.parts.length : Int) - 1 := by omega
 have hki : (k : Int) < c.parts.length := by omega
 simp
 refine Jak.intro (by kernel_rfl) ?_
 simp [hk, hki, epk, -getElem?_pos, List.getElem?_cons_zero, List.getElem?_cons_succ]
 refine Jab hRm ?_
 simp
 refine ⟨.of (by kernel_rfl), ?_⟩
 refine Jab hI2 ?_
 simp [hlen2]
 refine ⟨wrap_i64 (by omega) (by omega), ?_⟩
 have hil := @Jqp c c.parts.length
 have hil2 := @Jqp (Jag c k) (Jag c k).parts.length
 have hiL : (Jb4 c).length < 4611686018427387904 := by unfold Jb4; rw [if_pos h]; omega
 have hiR : (Jb4 (Jag c k)).length < 4611686018427387904 := by unfold Jb4; rw [if_pos hd]; omega
 refine Jaj.go [2, 5, 7, 13, 14, 128, 129] [0, 2] 0 [] (fun _ => []) (fun _ (i : Nat) => [(130, .p (.int .i64 i))]) (fun _ _ => []) (fun i => i <= c.parts.length) (fun i => c.parts.length - i) 0 (by omega) ?_ ?_
 . simp
   try decide
 intro i hi2
 simp
 refine Jac (fun h4 => ?_) (fun h4 => ?_)
 . simp at h4
   obtain ⟨p, e⟩ := Jah h4
   by_cases hik : i = k
   . subst hik
     simp [h4, e, -getElem?_pos, List.getElem?_cons_zero, List.getElem?_cons_succ]
     exact ⟨wrap_i64 (by omega) (by omega), i + 1, by omega, by omega, by omega⟩
   . have hik2 : ¬ (i : Int) = k := by omega
     obtain ⟨j', hij⟩ : ∃ j' : Nat, (i : Int) = upK k j' := by
       by_cases hlt : i < k
       . exact ⟨i, by unfold upK; rw [if_pos (by omega)]⟩
       . exact ⟨i - 1, by unfold upK; rw [if_neg (by omega)]; omega⟩
     have ed : (Jag c k).parts[j']? = some p := by rw [Jey, <- hij, Int.toNat_natCast]; exact e
     have hj2 := (gsI.1 ed).1
     have hFd := Jvk (c := Jag c k) (s := p.name) hd hsd
     have q2 : Jdv (Jag c k) p.name = j' := Jht hd ed
     rw [q2, if_neg (by omega), if_neg (by omega)] at hFd
     have hD1 := Jpj c p.name hs
     have hD2 := Jpj (Jag c k) p.name hsd
     obtain ⟨d1, d2, d3⟩ := Kbm h hk hOne hid e hij
     rw [d1, d2] at hD2
     have m1 := Jwa h h4
     have m2 := Jwa hd hj2
     rw [J7j h hk hOne hid hj2, <- hij, Int.toNat_natCast] at m2
     simp [h4, e, hik2, hik, -getElem?_pos, List.getElem?_cons_zero, List.getElem?_cons_succ]
     refine Jab hFd ?_
     simp
     refine Jab hD1 ?_
     simp
     refine Jab hD2 ?_
     simp
     refine Jab (Jtw (Jb4 c) (i : Int) hiL) ?_
     rw [m1]
     simp
     refine Jab (Jtw (Jb4 (Jag c k)) (j' : Int) hiR) ?_
     rw [m2]
     simp
     by_cases he : Jbk c p.name = 0
     . obtain ⟨a', b', q, f1, f2, f3, f4⟩ := d3 he
       have ha := (gsI.1 f2).1
       have hb := (gsI.1 f4).1
       have ha0 : ¬ (a' : Int) < 0 := by omega
       have hb0 : ¬ (b' : Int) < 0 := by omega
       have ha1 : ¬ (c.parts.length : Int) <= a' := by omega
       have hb1 : ¬ ((Jag c k).parts.length : Int) <= b' := by omega
       refine Jak.intro (by kernel_rfl) ?_
       simp [he, f1, f3, ha0, hb0, ha1, hb1, ha, hb, f2, f4, -getElem?_pos, List.getElem?_cons_zero, List.getElem?_cons_succ]
       exact ⟨.of (by kernel_rfl), wrap_i64 (by omega) (by omega), i + 1, by omega, by omega, by omega⟩
     . refine Jak.intro (by kernel_rfl) ?_
       simp [he]
       refine ⟨.of (by kernel_rfl), ?_⟩
       exact ⟨wrap_i64 (by omega) (by omega), i + 1, by omega, by omega, by omega⟩
 . simp at h4
   simp
   refine Jab hP ?_
   simp [Jaa]
theorem J2u (c : Circuit) (u : Int) (hs : Sized c) (hu : 0 <= u /\ u < 256) : Pure Tryz.prog GL 13 [c.av, .p (.int .u8 u)] (.p (.bool true)) := by
 obtain ⟨a, rfl⟩ : ∃ a : Nat, u = a := ⟨u.toNat, by omega⟩
 exact J4l c a (by omega) hs
end Go.Am
