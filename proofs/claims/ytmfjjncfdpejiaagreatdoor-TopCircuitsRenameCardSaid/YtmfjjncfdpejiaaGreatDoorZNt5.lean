/- Contracts: pneumatictop.TopCircuitsRename. -/
import Derived.Test.YtmfjjncfdpejiaaGreatDoorZNT
import Derived.Test.YtmfjjncfdpejiaaGreatDoorZP4
set_option linter.unusedVariables false
set_option linter.unusedSimpArgs false
namespace Go.Am
open Go Go.Proofs Go.Pn
theorem Kjj {c : Circuit} (h : Jad c = 0) : (Jf8 c).length < 4611686018427387904 := by
 have h2 := Jc7 h
 have h3 := @Jru c 7
 have h4 := Jk4 h2.1 (by omega)
 unfold Jf8
 omega
set_option maxRecDepth 20000 in
theorem Kjo (a0 a1 a2 a3 a4 a5 a6 a7 : Int) (f : Cont (Bool -> Prop)) (h : f.k true) :
   @xEq Tryz.prog 105 [.p (.int .i64 a0), .p (.int .i64 a1), .p (.int .i64 a2), .p (.int .i64 a3), .p (.int .i64 a4), .p (.int .i64 a5), .p (.int .i64 a6), .p (.int .i64 a7)] [.p (.int .i64 a0), .p (.int .i64 a1), .p (.int .i64 a2), .p (.int .i64 a3), .p (.int .i64 a4), .p (.int .i64 a5), .p (.int .i64 a6), .p (.int .i64 a7)] f := by
 unfold xEq VEq
 refine ⟨by kernel_rfl, Ja5.2 ⟨true, ?_, h⟩⟩
 have hr : List.range 8 = [0, 1, 2, 3, 4, 5, 6, 7] := rfl
 simp [eqA, Tryz.underlying105, Tryz.underlying3, ty3, eqI, Jil, hr]
set_option maxRecDepth 20000 in
theorem Kjd (c : Circuit) (old new : Txt) (hs : Sized c) : Pure Tryz.prog GL 14 [c.av, .p (.str old), .p (.str new)] (.p (.bool true)) := by
 refine Pure.of_walk (N := 172) Tryz.func14 rfl rfl rfl (by simp) (by first | (simp; done) | simp [*]) ?_
 have hR := Kax c hs
 have hP := Kau ()
 simp
 refine Jab hR ?_
 cases hf : (fewP c && decide (Jad c = 0)) with
 | false =>
   simp
   refine Jab hP ?_
   simp [Jaa]
 | true =>
   simp only [Bool.and_eq_true, decide_eq_true_eq] at hf
   obtain ⟨hfw, h⟩ := hf
   by_cases h60 : 60 < (old.length : Int)
   . simp [h60]
     refine Jab hP ?_
     simp [Jaa]
   by_cases h61 : 60 < (new.length : Int)
   . simp [h60, h61]
     refine Jab hP ?_
     simp [Jaa]
   simp [h60, h61]
   have hRn := Kat c old new hs (by omega) (by omega)
   refine Jab hRn ?_
   simp
   by_cases hE : rnmE c old new = 0
   . have I := Jxb hE
     have hlen := (J7x hE).2
     have hsd : Sized (rnmC c old new) := Kcm I.hd
     have hF1 := J0p c hs
     rw [h, if_pos rfl] at hF1
     have hF2 := J0p (rnmC c old new) hsd
     rw [I.hd, if_pos rfl] at hF2
     have hK1 := Kav (Jf8 c) (Kjj h) (fun f hf => J4r (by omega) f hf)
     have hK2 := Kav (Jf8 (rnmC c old new)) (Kjj I.hd) (fun f hf => J4r (by omega) f hf)
     have hkk : kntL (Jf8 (rnmC c old new)) = kntL (Jf8 c) := by
       unfold kntL
       exact List.map_congr_left fun k _ => Kce hE k
     rw [hkk] at hK2
     rw [Jux] at hK1 hK2
     simp [hE]
     refine Jab hF1 ?_
     simp
     refine Jab hF2 ?_
     simp
     refine Jab hK1 ?_
     simp
     refine Jab hK2 ?_
     simp [hlen]
     refine Kjo _ _ _ _ _ _ _ _ _ ?_
     simp [hlen]
     refine Jaj.go [1, 2, 3, 7, 95, 96] [0, 1] 0 [] (fun _ => []) (fun _ (k : Nat) => [(97, .p (.int .i64 k))]) (fun _ _ => []) (fun k => k <= c.parts.length) (fun k => c.parts.length - k) 0 (by omega) ?_ ?_
     . simp
       try decide
     intro k hk
     simp
     refine Jac (fun h3 => ?_) (fun h3 => ?_)
     . simp at h3
       have h64 := (Jc7 h).2.1
       obtain ⟨p, e⟩ := Jah h3
       have hpm := List.mem_of_getElem? e
       have hpn := hs.names p hpm
       have hDv := J0o c p.name hs
       have hNm := Kaw c p old new hs (by have := (Jno (Jim (Jpv h hpm)).2.1).2.2; omega) (by omega)
       rw [Kck h hpm (Jj9 hE).2.1] at hNm
       have hDw := J0o (rnmC c old new) (Jam c old new p.name) hsd
       obtain ⟨d1, d2, d3⟩ := Kcd hE e
       rw [d1, d2] at hDw
       simp [h3, e, -getElem?_pos, List.getElem?_cons_zero, List.getElem?_cons_succ]
       refine Jab hDv ?_
       simp
       refine Jag.intro (by kernel_rfl) ?_
       simp
       refine Jab hNm ?_
       simp
       refine Jab hDw ?_
       simp
       refine ⟨.of (by kernel_rfl), ?_⟩
       by_cases he : Jbm c p.name = 0
       . obtain ⟨a, b, q, f1, f2, f3, f4⟩ := d3 he
         have ha := (gsI.1 f2).1
         have hb := (gsI.1 f4).1
         rw [hlen] at hb
         have ha0 : ¬ (a : Int) < 0 := by omega
         have hb0 : ¬ (b : Int) < 0 := by omega
         have ha1 : ¬ (c.parts.length : Int) <= a := by omega
         have hb1 : ¬ (c.parts.length : Int) <= b := by omega
         have hqm := List.mem_of_getElem? f2
         have hNq := Kaw c q old new hs (by have := (Jno (Jim (Jpv h hqm)).2.1).2.2; omega) (by omega)
         rw [Kck h hqm (Jj9 hE).2.1] at hNq
         refine Jag.intro (by kernel_rfl) ?_
         simp [he, f1, f3, ha0, hb0, ha1, hb1, ha, hb, f2, f4, hlen, -getElem?_pos, List.getElem?_cons_zero, List.getElem?_cons_succ]
         refine Jab hNq ?_
         simp [f4, Jbr]
         exact ⟨by omega, .of (by kernel_rfl), wrap_i64 (by omega) (by omega), k + 1, by omega, by omega, by omega, by decide⟩
       . refine Jag.intro (by kernel_rfl) ?_
         simp [he]
         refine ⟨.of (by kernel_rfl), ?_⟩
         exact ⟨wrap_i64 (by omega) (by omega), k + 1, by omega, by omega, by omega, by decide⟩
     . simp at h3
       simp
       refine Jab hP ?_
       simp [Jaa]
   . simp [hE]
     refine Jab hP ?_
     simp [Jaa]
theorem Kjc (c : Circuit) (old new : Txt) (hs : Sized c) (_ : old.length < 4611686018427387900) (_ : new.length < 4611686018427387900) : Pure Tryz.prog GL 14 [c.av, .p (.str old), .p (.str new)] (.p (.bool true)) :=
 Kjd c old new hs
end Go.Am
