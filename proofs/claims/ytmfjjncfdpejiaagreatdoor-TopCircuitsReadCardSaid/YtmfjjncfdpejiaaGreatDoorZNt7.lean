/- Contracts: pneumatictop.TopCircuitsRead. -/
import Derived.Test.YtmfjjncfdpejiaaGreatDoorZW1
import Derived.Test.YtmfjjncfdpejiaaGreatDoorZP4
import Derived.Test.YtmfjjncfdpejiaaGreatDoorZP3
import Derived.Test.YtmfjjncfdpejiaaGreatDoorZCQ
set_option linter.unusedVariables false
set_option linter.unusedSimpArgs false
namespace Go.Am
open Go Go.Proofs Go.Pn
theorem Kjc (xs ys : List Fnd) (hl : xs.length < 4611686018427387904) : Pure Tryz.prog GL 57 [.p (.lst 3 (xs.map Fnd.enc)), .p (.lst 3 (ys.map Fnd.enc))] (.p (.bool (decide (xs = ys)))) := by
 refine Pure.of_walk (N := 26) Tryz.func57 rfl rfl rfl (by simp) (by first | (simp; done) | simp [*]) ?_
 simp
 refine Jac (fun h0 => ?_) (fun h0 => ?_)
 . simp at h0
   have hne : ¬ xs = ys := fun h => h0 (by rw [h])
   simp [Jaa, hne]
 . simp at h0
   simp
   refine Jai.go [0, 1, 12] [] 0 [] (fun _ => []) (fun _ (k : Nat) => [(13, .p (.int .i64 k))]) (fun _ _ => []) (fun k => k <= xs.length /\ ∀ (j : Nat), j < k -> xs[j]? = ys[j]?) (fun k => xs.length - k) 0 ⟨by omega, fun j h => by omega⟩ ?_ ?_
   . simp
   . rintro k ⟨hk, hp⟩
     simp
     refine Jac (fun h => ?_) (fun h => ?_)
     . simp at h
       obtain ⟨x, e⟩ := Jag h
       have h2 : k < ys.length := by omega
       obtain ⟨y, e2⟩ := Jag h2
       simp
       refine Jak.intro (by kernel_rfl) ?_
       simp [h, e, h2, e2, -getElem?_pos, List.getElem?_cons_zero, List.getElem?_cons_succ]
       refine ⟨.of (by kernel_rfl), ?_⟩
       refine Jac (fun h3 => ?_) (fun h3 => ?_)
       . have hne : ¬ xs = ys := fun h => by subst h; rw [e] at e2; cases e2; simp at h3
         simp [Jaa, hne]
       . have hxy : x = y := by cases x; cases y; simpa using h3
         subst hxy
         simp
         refine ⟨wrap_i64 (by omega) (by omega), k + 1, ⟨by omega, fun j hj => ?_⟩, by omega, ?_⟩
         . by_cases hjk : j = k
           . subst hjk; rw [e, e2]
           . exact hp j (by omega)
         . simp
     . simp at h
       have hk2 : k = xs.length := by omega
       have hxy : xs = ys := List.ext_getElem? fun j => by
         by_cases hj : j < k
         . exact hp j hj
         . rw [List.getElem?_eq_none (by omega), List.getElem?_eq_none (by omega)]
       simp [Jaa, hxy]
def sumK (c : Circuit) (k : Nat) : Int := ((cntC c).take k).sum
theorem Kkf {c : Circuit} {k : Nat} {x : Int} (e : (cntC c)[k]? = some x) : sumK c (k + 1) = sumK c k + x := by
 unfold sumK
 rw [take_snoc e, List.sum_append]
 simp
theorem Kjk {c : Circuit} {k : Nat} {x : Int} (e : (cntC c)[k]? = some x) : 0 <= x /\ x <= c.parts.length := by
 unfold cntC at e
 rw [List.getElem?_map] at e
 obtain ⟨j, _, rfl⟩ := Option.map_eq_some_iff.1 e
 have := List.countP_le_length (p := fun p : Part => decide (p.kind = (j : Int))) (l := c.parts)
 omega
theorem Kjl {c : Circuit} : (cntC c).length = 14 := by simp [cntC]
theorem Kkg : ∀ {l : List Part}, (∀ p ∈ l, 0 <= p.kind /\ p.kind < 14) -> (((List.range 14).map fun (k : Nat) => ((l.countP fun p => decide (p.kind = (k : Int)) : Nat) : Int)).sum) = l.length
 | [], _ => rfl
 | p :: l, h => by
   have ih := Kkg (l := l) fun q hq => h q (List.mem_cons_of_mem _ hq)
   obtain ⟨h0, h1⟩ := h p List.mem_cons_self
   obtain ⟨j, hj⟩ : ∃ j : Nat, p.kind = j := ⟨p.kind.toNat, by omega⟩
   have hj2 : j < 14 := by omega
   simp only [List.countP_cons, hj]
   rw [show (List.range 14) = [0, 1, 2, 3, 4, 5, 6, 7, 8, 9, 10, 11, 12, 13] from rfl] at ih ⊢
   simp only [List.map_cons, List.map_nil, List.sum_cons, List.sum_nil, List.length_cons] at ih ⊢
   rcases (by omega : j = 0 \/ j = 1 \/ j = 2 \/ j = 3 \/ j = 4 \/ j = 5 \/ j = 6 \/ j = 7 \/ j = 8 \/ j = 9 \/ j = 10 \/ j = 11 \/ j = 12 \/ j = 13) with rfl|rfl|rfl|rfl|rfl|rfl|rfl|rfl|rfl|rfl|rfl|rfl|rfl|rfl <;> simp at ih ⊢ <;> omega
theorem Kkh {c : Circuit} (h : Jad c = 0) : sumK c 14 = c.parts.length := by
 unfold sumK
 rw [show (14 : Nat) = (cntC c).length from Kjl.symm, List.take_length]
 exact Kkg fun p hp => (Jd0 (Jek h hp)).1
set_option maxRecDepth 40000 in
theorem Kjd (c : Circuit) (hs : Sized c) : Pure Tryz.prog GL5 12 [c.av] (.p (.bool true)) := by
 refine Pure.of_walk (N := 111) Tryz.func12 rfl rfl rfl (by simp) rfl ?_
 have hR := w5 (Ka2 c hs)
 have hP := w5 (Ka1 ())
 cases hf : (fewP c && decide (Jad c = 0)) with
 | false =>
   rw [hf] at hR
   simp
   refine Jab hR ?_
   simp
   refine Jab hP ?_
   simp [Jaa]
 | true =>
 rw [hf] at hR
 simp only [Bool.and_eq_true, decide_eq_true_eq] at hf
 obtain ⟨hfw, h⟩ := hf
 obtain ⟨f1, f2, f3, f4⟩ := Ka4 hfw h
 obtain ⟨g1, g2⟩ := Kcs f1
 have h1 := Kaz c hs
 have h2 := w5 (Jsl (fmtC c) (by omega))
 have h3 := w5 (Jz1 c hs)
 have h4 := w5 (J0f c hs)
 have h5 := w5 (Kay c hs)
 have h6 := w5 (J1k c c hs hs)
 have hnl := Jva h
 have h7 := w5 (Ka0 (nets c) (nets c) (by omega) (by omega) (fun l hl => by have := hnl.2 l hl; omega) (fun l hl => by have := hnl.2 l hl; omega))
 have h8 := w5 (Kjc (Jg6 c) (Jg6 c) (by have := Ka5 h; omega))
 have hn : cntR c = cntC c := by unfold cntR; rw [if_pos h]
 rw [f1] at h1
 rw [g1, g2] at h2
 rw [h, if_neg (by simp)] at h3
 rw [h, if_pos rfl] at h4
 rw [h, hn] at h5
 have hcl := @Kjl c
 have hsum := Kkh h
 simp
 refine Jab hR ?_
 simp
 refine Jab h1 ?_
 simp
 refine Jab h2 ?_
 simp
 refine Jab h3 ?_
 simp
 refine Jab h3 ?_
 simp
 refine Jab h4 ?_
 simp
 refine Jab h4 ?_
 simp
 refine Jab h5 ?_
 simp
 refine Jab h6 ?_
 simp
 refine Jab h7 ?_
 simp
 refine Jab h8 ?_
 simp
 refine Jai.go [1, 93, 94] [0] 0 [] (fun _ => []) (fun _ (k : Nat) => [(18, .p (.int .i64 (sumK c k))), (95, .p (.int .i64 k))]) (fun _ _ => []) (fun k => k <= 14 /\ 0 <= sumK c k /\ sumK c k <= 64 * k) (fun k => 14 - k) 0 ⟨by omega, by simp [sumK], by simp [sumK]⟩ ?_ ?_
 . simp [sumK]
 rintro k ⟨hk, ha, hb⟩
 simp
 refine Jac (fun h9 => ?_) (fun h9 => ?_)
 . simp at h9
   obtain ⟨x, e⟩ := (Jag (by omega) : ∃ x, (cntC c)[k]? = some x)
   obtain ⟨b1, b2⟩ := Kjk e
   have hst := Kkf e
   simp [h9, e, -getElem?_pos, List.getElem?_cons_zero, List.getElem?_cons_succ]
   refine ⟨wrap_i64 (by omega) (by omega), wrap_i64 (by omega) (by omega), k + 1, ⟨by omega, by omega, by omega⟩, by omega, ?_⟩
   rw [hst]
   try simp
 . simp at h9
   have hkn : k = 14 := by omega
   subst hkn
   simp [hsum]
   refine Jab hP ?_
   simp [Jaa]
end Go.Am
