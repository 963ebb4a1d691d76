/- Lemmas and contracts for the proof of a statement of this seat. -/
import Derived.Test.YthojegdboknbbaaGreatDoorZY0
set_option linter.unusedVariables false
set_option linter.unusedSimpArgs false
namespace Go.Am
open Go Go.Proofs Go.Pn
@[simp] def Sig.enc (x : Sig) : List PV := [.str x.name, .int .i64 x.kind, .int .i64 x.on.op, .int .i64 x.on.idx, .lst 3 (x.on.args.map Ex.enc), .int .i64 x.off.op, .int .i64 x.off.idx, .lst 3 (x.off.args.map Ex.enc), .int .i64 x.delay, .bool x.init]
@[simp] def Ctl.av (c : Ctl) : AV := .agg [.p (.int .i64 c.act), .p (.lst 1 (c.inputs.map Txt.enc)), .p (.lst 10 (c.sigs.map Sig.enc)), .p (.lst 1 (c.plus.map Int.enc)), .p (.lst 1 (c.minus.map Int.enc))]
structure Sm (c : Ctl) : Prop where
 act : c.act = actN c
 act6 : actN c <= 6
 inp : c.inputs.length <= 16
 sg : c.sigs.length <= 64
 nml : ∀ i, (nmF c i).length < 4611686018427387904
 oks : ∀ x ∈ c.sigs, okX x.on /\ okX x.off
theorem Jkj (c : Ctl) (h : Sm c) : Pure Tryz.prog GL 34 [c.av] (.p (.int .i64 (fstN c))) := by
 refine Pure.of_walk (N := 10) Tryz.func34 rfl rfl rfl (by simp) (by first | (simp; done) | simp [*]) ?_
 obtain ⟨h1, h2, h3, h4, _, _⟩ := h
 simp [h1]
 refine ⟨wrap_i64 (by omega) (by omega), wrap_i64 (by omega) (by omega), ?_⟩
 simp [Jaa, fstN]
theorem Jom (c : Ctl) (h : Sm c) : Pure Tryz.prog GL 36 [c.av] (.p (.int .i64 (cntN c))) := by
 refine Pure.of_walk (N := 14) Tryz.func36 rfl rfl rfl (by simp) (by first | (simp; done) | simp [*]) ?_
 obtain ⟨h1, h2, h3, h4, _, _⟩ := h
 simp [h1]
 refine ⟨wrap_i64 (by omega) (by omega), wrap_i64 (by omega) (by omega), wrap_i64 (by omega) (by omega), ?_⟩
 simp [Jaa, cntN, fstN]
theorem Jlu {c : Ctl} {i : Nat} {s : Txt} (h1 : ¬ i < 2 * actN c) (h2 : i < fstN c) (e : c.inputs[i - 2 * actN c]? = some s) : nmF c i = s := by
 unfold nmF
 rw [if_neg h1, if_pos h2, List.getD_eq_getElem?_getD, e]; rfl
theorem Jlv {c : Ctl} {i : Nat} {x : Sig} (h2 : ¬ i < fstN c) (e : c.sigs[i - fstN c]? = some x) : nmF c i = x.name := by
 unfold nmF
 rw [if_neg (by unfold fstN at h2; omega), if_neg h2, e]; rfl
theorem Jvh (c : Ctl) (i : Nat) (h : Sm c) (hi : i < cntN c) : Pure Tryz.prog GL 32 [c.av, .p (.int .i64 i)] (.p (.str (nmF c i))) := by
 refine Pure.of_walk (N := 45) Tryz.func32 rfl rfl rfl (by simp) (by first | (simp; done) | simp [*]) ?_
 have hS := Jkj c h
 obtain ⟨h1, h2, h3, h4, _, _⟩ := h
 simp only [Ctl.av, h1] at hS
 have hw : IntKind.i64.wrap (2 * (actN c : Int)) = ((2 * actN c : Nat) : Int) := by rw [wrap_i64 (by omega) (by omega)]; omega
 simp [h1, hw]
 refine Jan (fun h5 => ?_) (fun h5 => ?_)
 . simp at h5
   have h6 : i < 2 * actN c := by omega
   have e : nmF c i = endT i := if_pos h6
   rw [e]
   rcases (by omega : i = 0 \/ i = 1 \/ i = 2 \/ i = 3 \/ i = 4 \/ i = 5 \/ i = 6 \/ i = 7 \/ i = 8 \/ i = 9 \/ i = 10 \/ i = 11) with rfl | rfl | rfl | rfl | rfl | rfl | rfl | rfl | rfl | rfl | rfl | rfl
   all_goals
     simp
     refine Jaf.intro (by kernel_rfl) ?_
     simp
     exact ⟨.of (by kernel_rfl), by simp [Jaa]; rfl⟩
 . simp at h5
   have h6 : ¬ i < 2 * actN c := by omega
   simp
   refine Jab hS ?_
   simp
   refine Jan (fun h7 => ?_) (fun h7 => ?_)
   . simp at h7
     have h8 : i - 2 * actN c < c.inputs.length := by unfold fstN at h7; omega
     obtain ⟨s, e⟩ := Jae h8
     have hs : IntKind.i64.wrap ((i : Int) - ((2 * actN c : Nat) : Int)) = ((i - 2 * actN c : Nat) : Int) := by rw [wrap_i64 (by omega) (by omega)]; omega
     rw [Jlu h6 h7 e]
     have hidx : ((i : Int) - 2 * (actN c : Int)).toNat = i - 2 * actN c := by omega
     simp [h1, hw]
     refine ⟨wrap_i64 (by omega) (by omega), by omega, by omega, ?_⟩
     rw [hidx, e]
     simp [Jaa]
   . simp at h7
     have h8 : i - fstN c < c.sigs.length := by unfold cntN at hi; omega
     obtain ⟨x, e⟩ := Jae h8
     rw [Jlv (by omega) e]
     simp
     refine Jaf.intro (by kernel_rfl) ?_
     simp
     refine Jab hS ?_
     simp
     refine ⟨wrap_i64 (by omega) (by omega), by omega, by omega, ?_⟩
     rw [e]
     simp
     exact ⟨.of (by kernel_rfl), by simp [Jaa]⟩
def chrB (i : Nat) (b : UInt8) : Bool := if i = 0 then Jd2 b else Jcn b
def Jd7 (s : Txt) (j : Nat) : Bool := (List.range j).all fun i => chrB i (s.getD i 0)
theorem Jnb {s : Txt} {j : Nat} {b : UInt8} (e : s[j]? = some b) : Jd7 s (j + 1) = (Jd7 s j && chrB j b) := by
 unfold Jd7
 rw [List.range_succ, List.all_append]
 simp [e, -getElem?_pos, List.getD_eq_getElem?_getD]
theorem Js5 {s : Txt} (h : s ≠ []) : Jck s = Jd7 s s.length := by
 match s, h with
 | a :: r, _ =>
   have key : ∀ (r : Txt) (l : Txt), l ≠ [] -> Jd7 (l ++ r) (l ++ r).length = (Jd7 (l ++ r) l.length && r.all Jcn) := by
     intro r
     induction r with
     | nil => intro l hl; simp
     | cons b r ih =>
       intro l hl
       have e1 : l ++ b :: r = (l ++ [b]) ++ r := by simp
       have e2 : (l ++ b :: r)[l.length]? = some b := by simp
       rw [e1, ih (l ++ [b]) (by simp), <- e1, List.length_append, List.length_singleton, Jnb e2]
       have h0 : l.length ≠ 0 := fun hc => hl (List.length_eq_zero_iff.1 hc)
       unfold chrB
       rw [if_neg h0, List.all_cons, Bool.and_assoc]
   have := key r [a] (by simp)
   rw [List.singleton_append] at this
   rw [this]
   show (Jd2 a && r.all Jcn) = (Jd7 (a :: r) (0 + 1) && r.all Jcn)
   rw [Jnb (b := a) rfl]
   rfl
theorem J3m {s : Txt} {j : Nat} {b : UInt8} (e : s[j]? = some b) (h : chrB j b = false) : Jck s = false := by
 have hj : j < s.length := (gsI.1 e).1
 rw [Js5 (by intro hc; subst hc; simp at hj)]
 cases hw : Jd7 s s.length with
 | false => rfl
 | true =>
   have := List.all_eq_true.1 hw j (List.mem_range.2 hj)
   rw [List.getD_eq_getElem?_getD, e] at this
   exact absurd this (by rw [show (some b).getD 0 = b from rfl, h]; decide)
set_option maxHeartbeats 1000000 in
theorem Jvl (s : Txt) (hs : s.length < 4611686018427387904) : Pure Tryz.prog GL 33 [.p (.str s)] (.p (.bool (Jck s))) := by
 refine Pure.of_walk (N := 66) Tryz.func33 rfl rfl rfl (by simp) (by first | (simp; done) | simp [*]) ?_
 simp
 refine Jai.go [0] [] 0 [] (fun _ => []) (fun _ (j : Nat) => [(3, .p (.int .i64 j))]) (fun _ _ => []) (fun j => j <= s.length /\ Jd7 s j = true) (fun j => s.length - j) 0 ⟨by omega, rfl⟩ ?_ ?_
 . simp
   try decide
 rintro j ⟨hj, hp⟩
 simp
 refine Jan (fun h => ?_) (fun h => ?_)
 . simp at h
   obtain ⟨b, e⟩ := Jae h
   have hsn := Jnb e
   have hnt := fun hc => J3m e hc
   have hb := b.toNat_lt
   have hch : chrB j b = (if j = 0 then Jd2 b else Jcn b) := rfl
   rw [hch] at hsn hnt
   unfold Jcn Jd2 Jlj Jkw at hsn hnt
   have he95 : (b == 95) = decide (b.toNat = 95) := by
     rw [Bool.eq_iff_iff, beq_iff_eq, decide_eq_true_eq]
     exact ⟨fun h => by rw [h]; rfl, fun h => UInt8.toNat_inj.1 h⟩
   rw [he95] at hsn hnt
   obtain ⟨n, hn⟩ : ∃ n, b.toNat = n := ⟨_, rfl⟩
   rw [hn] at hsn hnt
   simp [h, e, -getElem?_pos, List.getElem?_cons_zero, List.getElem?_cons_succ]
   refine Jaf.intro (by kernel_rfl) ?_
   simp [h, e, hn, -getElem?_pos, List.getElem?_cons_zero, List.getElem?_cons_succ]
   rw [hp, Bool.true_and] at hsn
   have hw := wrap_i64 (n := (j : Int) + 1) (by omega) (by omega)
   clear hp he95
   rw [show decide (97 <= n) = decide ((97 : Int) <= n) from decide_eq_decide.2 (by omega), show decide (n <= 122) = decide ((n : Int) <= 122) from decide_eq_decide.2 (by omega), show decide (65 <= n) = decide ((65 : Int) <= n) from decide_eq_decide.2 (by omega), show decide (n <= 90) = decide ((n : Int) <= 90) from decide_eq_decide.2 (by omega),
     show decide (n = 95) = decide ((n : Int) = 95) from decide_eq_decide.2 (by omega), show decide (48 <= n) = decide (¬ (n : Int) < 48) from decide_eq_decide.2 (by omega), show decide (n <= 57) = decide (¬ (57 : Int) < n) from decide_eq_decide.2 (by omega)] at hsn hnt
   by_cases f1 : (97 : Int) <= n <;> by_cases f2 : (n : Int) <= 122 <;> by_cases f3 : (65 : Int) <= n <;> by_cases f4 : (n : Int) <= 90 <;> by_cases f5 : (n : Int) = 95 <;> by_cases f6 : (n : Int) < 48 <;> by_cases f7 : (57 : Int) < n
   all_goals first
     | (exfalso; omega)
     | skip
   all_goals
     simp [f1, f2, f3, f4, f5, f6, f7, h, e, hn, -getElem?_pos, List.getElem?_cons_zero, List.getElem?_cons_succ]
   all_goals
     refine ⟨.of (by kernel_rfl), ?_⟩
     by_cases f0 : j = 0
     all_goals
       first | rw [if_pos f0] at hsn hnt | rw [if_neg f0] at hsn hnt
       simp only [f1, f2, f3, f4, f5, f6, f7, decide_true, decide_false, not_true, not_false_iff, Bool.and_true, Bool.true_and, Bool.and_false, Bool.false_and, Bool.or_true, Bool.true_or, Bool.or_false, Bool.false_or, reduceCtorEq, forall_const, Int.reduceLE, Int.reduceLT, Int.reduceEq] at hsn hnt
       first
         | (rw [hnt]
            simp [f0, f1, f2, f3, f4, f5, f6, f7, h, e, hn, Jaa, -getElem?_pos, List.getElem?_cons_zero, List.getElem?_cons_succ]
            done)
         | (simp [f0, f1, f2, f3, f4, f5, f6, f7, h, e, hn, -getElem?_pos, List.getElem?_cons_zero, List.getElem?_cons_succ]
            refine ⟨hw, j + 1, ⟨by omega, hsn⟩, by omega, by omega⟩)
         | (subst f0
            simp [f1, f2, f3, f4, f5, f6, f7, h, e, hn, -getElem?_pos, List.getElem?_cons_zero, List.getElem?_cons_succ]
            exact ⟨1, ⟨by omega, hsn⟩, by omega, by omega⟩)
         | skip
 . simp at h
   have hjl : j = s.length := by omega
   subst hjl
   by_cases h0 : s = []
   . subst h0
     simp [Jaa, Jck]
   . rw [Js5 h0, hp]
     simp [Jaa, h0]
end Go.Am
namespace Go.Am
open Go Go.Proofs Go.Pn
theorem nm_3 {c : Ctl} {i : Nat} (h : Jck (nmF c i) = false) : nmE c i = 3 := if_pos h
theorem Jzo {c : Ctl} {i : Nat} (h : Jck (nmF c i) = true) (h2 : 24 < (nmF c i).length) : nmE c i = 17 := by
 unfold nmE; rw [if_neg (by rw [h]; decide), if_pos h2]
theorem nm_7 {c : Ctl} {i k : Nat} (h : Jck (nmF c i) = true) (h2 : ¬ 24 < (nmF c i).length) (hk : k < i) (he : nmF c k = nmF c i) : nmE c i = 7 := by
 unfold nmE
 rw [if_neg (by rw [h]; decide), if_neg h2, if_pos]
 exact List.any_eq_true.2 ⟨k, List.mem_range.2 hk, by rw [he]; exact beq_self_eq_true _⟩
theorem nm_0 {c : Ctl} {i : Nat} (h : Jck (nmF c i) = true) (h2 : ¬ 24 < (nmF c i).length) (h3 : ∀ k, k < i -> nmF c k ≠ nmF c i) : nmE c i = 0 := by
 unfold nmE
 rw [if_neg (by rw [h]; decide), if_neg h2, if_neg]
 intro hc
 obtain ⟨k, hk, he⟩ := List.any_eq_true.1 hc
 exact h3 k (List.mem_range.1 hk) (by simpa using he)
theorem Jon (c : Ctl) (i : Nat) (h : Sm c) (hi : i < cntN c) : Pure Tryz.prog GL 15 [c.av, .p (.int .i64 i)] (.p (.int .i64 (nmE c i))) := by
 refine Pure.of_walk (N := 26) Tryz.func15 rfl rfl rfl (by simp) (by first | (simp; done) | simp [*]) ?_
 have hN := fun k (hk : k < cntN c) => Jvh c k h hk
 have hNi := hN i hi
 have hl := h.nml i
 have hcn : cntN c <= 200 := by have := h.act6; have := h.inp; have := h.sg; unfold cntN fstN; omega
 have hW := Jvl (nmF c i) hl
 have g3 := @nm_3 c i
 have g17 := @Jzo c i
 have g7 := @nm_7 c i
 have g0 := @nm_0 c i
 generalize nmE c i = r at *
 simp
 refine Jab hNi ?_
 simp
 refine Jab hW ?_
 cases hw : Jck (nmF c i) with
 | false =>
   rw [g3 hw]
   simp [Jaa]
 | true =>
   simp
   by_cases h24 : 24 < (nmF c i).length
   . have h24' : (24 : Int) < ((nmF c i).length : Int) := by omega
     rw [g17 hw h24]
     simp [h24', Jaa]
   . have h24' : ¬ (24 : Int) < ((nmF c i).length : Int) := by omega
     simp [h24']
     refine Jai.go [1, 2, 5] [0] 0 [] (fun _ => []) (fun _ (k : Nat) => [(6, .p (.int .i64 k))]) (fun _ _ => []) (fun k => k <= i /\ ∀ q, q < k -> nmF c q ≠ nmF c i) (fun k => i - k) 0 ⟨by omega, fun q hq => by omega⟩ ?_ ?_
     . simp
       try decide
     rintro k ⟨hk, hp⟩
     simp
     refine Jan (fun h3 => ?_) (fun h3 => ?_)
     . simp at h3
       have hNk := hN k (by omega)
       simp
       refine Jab hNk ?_
       by_cases hv : nmF c k = nmF c i
       . rw [g7 hw h24 h3 hv]
         simp [hv, Jaa]
       . simp [hv]
         refine ⟨wrap_i64 (by omega) (by omega), k + 1, ⟨by omega, fun q hq => ?_⟩, by omega, by omega⟩
         rcases (by omega : q = k \/ q < k) with rfl | hq
         . exact hv
         . exact hp q hq
     . simp at h3
       have hki : k = i := by omega
       subst hki
       rw [g0 hw h24 hp]
       simp [Jaa]
theorem Jvm (x : Ex) : Pure Tryz.prog GL 38 [x.av] (.p (.bool (Jdb x))) := by
 refine Pure.of_walk (N := 17) Tryz.func38 rfl rfl rfl (by simp) (by first | (simp; done) | simp [*]) ?_
 unfold Jdb
 by_cases h1 : x.op = 0
 . by_cases h2 : x.idx = 0
   . simp [h1, h2, Jaa]
   . simp [h1, h2, Jaa]
 . simp [h1, Jaa]
theorem Jun (v : Int) : ∀ x : Ex, okX x -> Pure Tryz.prog GL 58 [x.av, .p (.int .i64 v)] (.p (.bool (occX v x))) := Ex.ind' (fun x ih hok => by
 obtain ⟨hl, ho⟩ := Jc8 hok
 refine Pure.of_walk (N := 27) Tryz.func58 rfl rfl rfl (by simp) rfl ?_
 rw [Jlz]
 by_cases h1 : x.op = 1
 . simp [h1, Jaa]
 rw [if_neg h1]
 simp [h1]
 refine Jai.go [1, 2] [0] 0 [] (fun _ => []) (fun _ (j : Nat) => [(5, .p (.int .i64 j))]) (fun _ _ => []) (fun j => j <= x.args.length /\ (x.args.take j).any (occX v) = false) (fun j => x.args.length - j) 0 ⟨by omega, rfl⟩ ?_ ?_
 . simp
   try decide
 rintro j ⟨hj, hp⟩
 simp
 refine Jan (fun h => ?_) (fun h => ?_)
 . simp at h
   obtain ⟨y, e⟩ := Jae h
   have hy := List.mem_of_getElem? e
   have hI := ih y hy (ho y hy)
   simp [h, e, -getElem?_pos, List.getElem?_cons_zero, List.getElem?_cons_succ]
   refine Jab hI ?_
   cases hv : occX v y with
   | true =>
     have : x.args.any (occX v) = true := List.any_eq_true.2 ⟨y, hy, hv⟩
     rw [this]
     simp [Jaa]
   | false =>
     have : (x.args.take (j + 1)).any (occX v) = false := by rw [take_snoc e, List.any_append, hp]; simp [hv]
     simp
     exact ⟨wrap_i64 (by omega) (by omega), j + 1, ⟨by omega, by simpa using this⟩, by omega, by omega⟩
 . simp at h
   have hjl : j = x.args.length := by omega
   subst hjl
   rw [List.take_length] at hp
   rw [hp]
   simp [Jaa])
theorem Jyw {c : Ctl} {i k : Nat} {x y : Sig} (hy : c.sigs[k]? = some y) (hik : i <= k) (hk : y.kind = 0) (ho : occX ((fstN c : Int) + (k : Int)) x.on = true) : Jcz c i x.on = true := by
 refine List.any_eq_true.2 ⟨k, List.mem_range.2 (gsI.1 hy).1, ?_⟩
 rw [decide_eq_true hik, hy, Bool.true_and]
 show (decide (y.kind = 0) && _) = true
 rw [decide_eq_true hk, Bool.true_and]; exact ho
theorem Jyy {c : Ctl} {i : Nat} {on : Ex} (h : ∀ k y, i <= k -> c.sigs[k]? = some y -> y.kind = 0 -> occX ((fstN c : Int) + (k : Int)) on = false) : Jcz c i on = false := by
 cases hl : Jcz c i on with
 | false => rfl
 | true =>
   obtain ⟨k, hk, he⟩ := List.any_eq_true.1 hl
   obtain ⟨y, hy⟩ := Jae (List.mem_range.1 hk)
   rw [hy, Bool.and_eq_true, decide_eq_true_eq] at he
   have he2 : (decide (y.kind = 0) && occX ((fstN c + k : Nat) : Int) on) = true := he.2
   rw [Bool.and_eq_true, decide_eq_true_eq] at he2
   have h9 : occX ((fstN c : Int) + (k : Int)) on = true := he2.2
   rw [h k y he.1 hy he2.1] at h9
   cases h9
theorem Jvi (c : Ctl) (i : Nat) (x : Sig) (h : Sm c) (hx : c.sigs[i]? = some x) : Pure Tryz.prog GL 37 [c.av, .p (.int .i64 i)] (.p (.bool (Jcz c i x.on))) := by
 refine Pure.of_walk (N := 34) Tryz.func37 rfl rfl rfl (by simp) (by first | (simp; done) | simp [*]) ?_
 have hS := Jkj c h
 have hil : i < c.sigs.length := (gsI.1 hx).1
 have hsg := h.sg
 have hfn : fstN c <= 100 := by have := h.act6; have := h.inp; unfold fstN; omega
 have hO := fun v => Jun v x.on (h.oks x (List.mem_of_getElem? hx)).1
 have la := fun k y => @Jyw c i k x y
 have ln := @Jyy c i x.on
 generalize Jcz c i x.on = r at *
 simp
 refine Jai.go [1, 2] [0] 0 [] (fun _ => []) (fun _ (k : Nat) => [(5, .p (.int .i64 k))]) (fun _ _ => []) (fun k => i <= k /\ k <= c.sigs.length /\ ∀ q y, i <= q -> q < k -> c.sigs[q]? = some y -> y.kind = 0 -> occX ((fstN c : Int) + (q : Int)) x.on = false) (fun k => c.sigs.length - k) i ⟨by omega, by omega, fun q y h1 h2 => by omega⟩ ?_ ?_
 . simp
   try decide
 rintro k ⟨hk1, hk2, hp⟩
 simp
 refine Jan (fun h3 => ?_) (fun h3 => ?_)
 . simp at h3
   obtain ⟨y, hy⟩ := Jae h3
   have hw : IntKind.i64.wrap ((fstN c : Int) + k) = (fstN c : Int) + k := wrap_i64 (by omega) (by omega)
   simp [h3, hy, -getElem?_pos, List.getElem?_cons_zero, List.getElem?_cons_succ]
   refine Jaf.intro (by kernel_rfl) ?_
   simp [h3, hy, -getElem?_pos, List.getElem?_cons_zero, List.getElem?_cons_succ]
   by_cases h0 : y.kind = 0
   . simp [h3, hy, h0, hil, hx, -getElem?_pos, List.getElem?_cons_zero, List.getElem?_cons_succ]
     refine Jab hS ?_
     simp [h3, hy, h0, hil, hx, hw, -getElem?_pos, List.getElem?_cons_zero, List.getElem?_cons_succ]
     refine Jab (hO _) ?_
     cases hv : occX ((fstN c : Int) + (k : Int)) x.on with
     | true =>
       rw [la k y hy hk1 h0 hv]
       simp
       exact ⟨.of (by kernel_rfl), by simp [Jaa]⟩
     | false =>
       simp
       refine ⟨.of (by kernel_rfl), wrap_i64 (by omega) (by omega), k + 1, ⟨by omega, by omega, fun q z h1 h2 h4 h5 => ?_⟩, by omega, by omega⟩
       rcases (by omega : q = k \/ q < k) with rfl | hq
       . exact hv
       . exact hp q z h1 hq h4 h5
   . simp [h3, hy, h0, -getElem?_pos, List.getElem?_cons_zero, List.getElem?_cons_succ]
     refine ⟨.of (by kernel_rfl), wrap_i64 (by omega) (by omega), k + 1, ⟨by omega, by omega, fun q z h1 h2 h4 h5 => ?_⟩, by omega, by omega⟩
     rcases (by omega : q = k \/ q < k) with rfl | hq
     . rw [hy] at h4; cases h4; exact absurd h5 h0
     . exact hp q z h1 hq h4 h5
 . simp at h3
   rw [ln fun q y h1 h2 => hp q y h1 (by have := (gsI.1 h2).1; omega) h2]
   simp [Jaa]
set_option maxHeartbeats 1000000 in
theorem Jvk (c : Ctl) (i : Nat) (x : Sig) (h : Sm c) (hx : c.sigs[i]? = some x) : Pure Tryz.prog GL 16 [c.av, .p (.int .i64 i)] (.p (.int .i64 (sgE c i x))) := by
 refine Pure.of_walk (N := 96) Tryz.func16 rfl rfl rfl (by simp) (by first | (simp; done) | simp [*]) ?_
 have hS := Jkj c h
 have hL := Jom c h
 have hil : i < c.sigs.length := (gsI.1 hx).1
 have hsg := h.sg
 have hfn : fstN c <= 100 := by have := h.act6; have := h.inp; unfold fstN; omega
 have hcn : cntN c = fstN c + c.sigs.length := rfl
 have hN := Jon c (fstN c + i) h (by omega)
 obtain ⟨ho1, ho2⟩ := h.oks x (List.mem_of_getElem? hx)
 have hA := Jol x.on (cntN c) ho1
 have hB := Jol x.off (cntN c) ho2
 have hT := Jvi c i x h hx
 have hZ := Jvm x.off
 have hw : IntKind.i64.wrap ((fstN c : Int) + i) = (fstN c : Int) + i := wrap_i64 (by omega) (by omega)
 have hcast : ((fstN c + i : Nat) : Int) = (fstN c : Int) + i := rfl
 rw [hcast] at hN
 generalize hr : sgE c i x = r
 unfold sgE at hr
 simp [hil, hx, -getElem?_pos, List.getElem?_cons_zero, List.getElem?_cons_succ]
 refine Jaf.intro (by kernel_rfl) ?_
 simp [hil, hx, -getElem?_pos, List.getElem?_cons_zero, List.getElem?_cons_succ]
 refine Jab hS ?_
 simp [hil, hx, hw, -getElem?_pos, List.getElem?_cons_zero, List.getElem?_cons_succ]
 refine Jab hN ?_
 generalize nmE c (fstN c + i) = e1 at *
 by_cases n1 : e1 ≠ 0
 . rw [if_pos n1] at hr
   subst hr
   simp [n1]
   exact ⟨.of (by kernel_rfl), by simp [Jaa]⟩
 rw [if_neg n1] at hr
 obtain rfl : e1 = 0 := Decidable.not_not.1 n1
 simp
 refine ⟨.of (by kernel_rfl), ?_⟩
 by_cases k1 : x.kind < 0 \/ 3 <= x.kind
 . rw [if_pos k1] at hr
   subst hr
   by_cases k2 : x.kind < 0
   . simp [k2, Jaa]
   . have k3 : 3 <= x.kind := by omega
     simp [k2, k3, Jaa]
 rw [if_neg k1] at hr
 have k2 : ¬ x.kind < 0 := by omega
 have k3 : ¬ 3 <= x.kind := by omega
 simp [k2, k3]
 refine Jaf.intro (by kernel_rfl) ?_
 simp
 refine Jab hL ?_
 simp
 refine Jab hA ?_
 generalize chkE (cntN c) x.on = e2 at *
 by_cases n2 : e2 ≠ 0
 . rw [if_pos n2] at hr
   subst hr
   simp [n2]
   exact ⟨.of (by kernel_rfl), by simp [Jaa]⟩
 rw [if_neg n2] at hr
 obtain rfl : e2 = 0 := Decidable.not_not.1 n2
 simp
 refine ⟨.of (by kernel_rfl), ?_⟩
 refine Jaf.intro (by kernel_rfl) ?_
 simp
 refine ⟨.of (by kernel_rfl), ?_⟩
 rcases (by omega : x.kind = 0 \/ x.kind = 1 \/ x.kind = 2) with k | k | k
 . rw [k, if_neg (by intro hc; cases hc.1)] at hr
   simp [k]
   refine Jab hT ?_
   cases hl : Jcz c i x.on with
   | true =>
     rw [hl, if_pos ⟨rfl, rfl⟩] at hr
     subst hr
     simp [Jaa]
   | false =>
     rw [hl, if_neg (by intro hc; cases hc.2), if_neg (by intro hc; cases hc.1)] at hr
     simp
     refine Jab hZ ?_
     cases hz : Jdb x.off with
     | false =>
       rw [hz, if_pos (.inl ⟨by decide, .inl rfl⟩)] at hr
       subst hr
       simp [Jaa]
     | true =>
       cases hi : x.init with
       | true =>
         rw [hi, if_pos (.inl ⟨by decide, .inr rfl⟩)] at hr
         subst hr
         simp [Jaa]
       | false =>
         by_cases hd : x.delay = 0
         . rw [hz, hi, if_neg (by simp [hd])] at hr
           subst hr
           simp [hd, Jaa]
         . rw [if_pos (.inr ⟨by decide, hd⟩)] at hr
           subst hr
           simp [hd, Jaa]
 . rw [k] at hr
   simp [k]
   refine Jaf.intro (by kernel_rfl) ?_
   simp
   refine Jab hL ?_
   simp
   refine Jab hB ?_
   generalize chkE (cntN c) x.off = e3 at *
   by_cases n3 : e3 ≠ 0
   . rw [if_pos ⟨rfl, n3⟩] at hr
     subst hr
     simp [n3]
     exact ⟨.of (by kernel_rfl), by simp [Jaa]⟩
   rw [if_neg (fun hc => n3 hc.2), if_neg (by intro hc; cases hc.1), if_neg (by intro hc; cases hc.1)] at hr
   obtain rfl : e3 = 0 := Decidable.not_not.1 n3
   simp
   refine ⟨.of (by kernel_rfl), ?_⟩
   by_cases hd : x.delay = 0
   . rw [if_neg (by simp [hd])] at hr
     subst hr
     simp [k, hd, Jaa]
   . rw [if_pos (.inr ⟨by decide, hd⟩)] at hr
     subst hr
     simp [k, hd, Jaa]
 . rw [k, if_neg (by intro hc; cases hc.1), if_neg (by intro hc; cases hc.1)] at hr
   simp [k]
   by_cases d1 : x.delay < 1
   . rw [if_pos ⟨rfl, .inl d1⟩] at hr
     subst hr
     simp [d1, Jaa]
   by_cases d2 : 1000000 < x.delay
   . rw [if_pos ⟨rfl, .inr d2⟩] at hr
     subst hr
     simp [d1, d2, Jaa]
   rw [if_neg (by omega)] at hr
   simp [d1, d2]
   refine Jab hZ ?_
   cases hz : Jdb x.off with
   | false =>
     rw [hz, if_pos (.inl ⟨by decide, .inl rfl⟩)] at hr
     subst hr
     simp [Jaa]
   | true =>
     cases hi : x.init with
     | true =>
       rw [hi, if_pos (.inl ⟨by decide, .inr rfl⟩)] at hr
       subst hr
       simp [Jaa]
     | false =>
       rw [hz, hi, if_neg (by simp)] at hr
       subst hr
       simp [Jaa]
def lnOk (c : Ctl) (v : Int) : Prop := 0 <= v /\ v < (cntN c : Int)
theorem Jvj (c : Ctl) (h : Sm c) (hp : c.plus.length < 4611686018427387904) (hm : c.minus.length < 4611686018427387904) : Pure Tryz.prog GL 17 [c.av] (.p (.int .i64 (pilE c))) := by
 refine Pure.of_walk (N := 51) Tryz.func17 rfl rfl rfl (by simp) (by first | (simp; done) | simp [*]) ?_
 have hL := Jom c h
 generalize hr : pilE c = r
 unfold pilE at hr
 by_cases n1 : (c.plus.length : Int) ≠ c.act
 . rw [if_pos (.inl n1)] at hr
   subst hr
   simp [n1, Jaa]
 by_cases n2 : (c.minus.length : Int) ≠ c.act
 . rw [if_pos (.inr n2)] at hr
   subst hr
   have n3 := Decidable.not_not.1 n1
   simp [n3, n2, Jaa]
 rw [if_neg (by omega)] at hr
 have n3 := Decidable.not_not.1 n1
 have n4 := Decidable.not_not.1 n2
 have p6 : ∀ v ∈ c.plus ++ c.minus, (v < 0 \/ (cntN c : Int) <= v) -> r = 6 := fun v hv hb => by
   rw [<- hr, if_pos]
   exact List.any_eq_true.2 ⟨v, hv, by rw [Bool.or_eq_true, decide_eq_true_eq, decide_eq_true_eq]; exact hb⟩
 have p0 : (∀ v ∈ c.plus, lnOk c v) -> (∀ v ∈ c.minus, lnOk c v) -> r = 0 := fun h1 h2 => by
   rw [<- hr, if_neg]
   intro hc
   obtain ⟨v, hv, hb⟩ := List.any_eq_true.1 hc
   rw [Bool.or_eq_true, decide_eq_true_eq, decide_eq_true_eq] at hb
   rcases List.mem_append.1 hv with hv | hv
   . have := h1 v hv; unfold lnOk at this; omega
   . have := h2 v hv; unfold lnOk at this; omega
 clear hr
 simp [n3, n4]
 refine Jai.go [1, 24, 25] [0, 1] 0 [] (fun _ => []) (fun _ (j : Nat) => [(26, .p (.int .i64 j))]) (fun _ _ => []) (fun j => j <= 2 /\ (0 < j -> ∀ v ∈ c.plus, lnOk c v) /\ (1 < j -> ∀ v ∈ c.minus, lnOk c v)) (fun j => 2 - j) 0 ⟨by omega, fun h => by omega, fun h => by omega⟩ ?_ ?_
 . simp
   try decide
 rintro j ⟨hj, hj1, hj2⟩
 rcases (by omega : j = 0 \/ j = 1 \/ j = 2) with rfl | rfl | rfl
 . simp
   refine Jai.go [1, 4, 24, 25, 26] [0, 1] 0 [] (fun _ => []) (fun _ (q : Nat) => [(5, .p (.int .i64 q))]) (fun _ _ => []) (fun q => q <= c.plus.length /\ ∀ (p : Nat) v, p < q -> c.plus[p]? = some v -> lnOk c v) (fun q => c.plus.length - q) 0 ⟨by omega, fun p v hp => by omega⟩ ?_ ?_
   . simp
     try decide
   rintro q ⟨hq, hpr⟩
   simp
   refine Jan (fun h5 => ?_) (fun h5 => ?_)
   . simp at h5
     obtain ⟨v, e⟩ := Jae h5
     have hv := List.mem_of_getElem? e
     simp [h5, e, -getElem?_pos, List.getElem?_cons_zero, List.getElem?_cons_succ]
     refine Jaf.intro (by kernel_rfl) ?_
     simp [h5, e, -getElem?_pos, List.getElem?_cons_zero, List.getElem?_cons_succ]
     by_cases v1 : v < 0
     . rw [p6 v (List.mem_append.2 (by first | exact .inl hv | exact .inr hv)) (.inl v1)]
       simp [v1]
       exact ⟨.of (by kernel_rfl), by simp [Jaa]⟩
     . simp [v1, h5, e, -getElem?_pos, List.getElem?_cons_zero, List.getElem?_cons_succ]
       refine Jab hL ?_
       by_cases v2 : (cntN c : Int) <= v
       . rw [p6 v (List.mem_append.2 (by first | exact .inl hv | exact .inr hv)) (.inr v2)]
         simp [v2]
         exact ⟨.of (by kernel_rfl), by simp [Jaa]⟩
       . simp [v2]
         refine ⟨.of (by kernel_rfl), wrap_i64 (by omega) (by omega), q + 1, ⟨by omega, fun p w hp hw => ?_⟩, by omega, by omega⟩
         rcases (by omega : p = q \/ p < q) with rfl | hp
         . rw [e] at hw; cases hw; exact ⟨by omega, by omega⟩
         . exact hpr p w hp hw
   . simp at h5
     have hall : ∀ v ∈ c.plus, lnOk c v := fun v hv => by
       obtain ⟨p, hp, rfl⟩ := List.getElem_of_mem hv
       exact hpr p _ (by omega) (List.getElem?_eq_getElem hp)
     simp
     exact ⟨1, ⟨by omega, fun _ => hall, fun h => by omega⟩, by omega, by omega⟩
 . simp
   refine Jai.go [1, 4, 24, 25, 26] [0, 1] 0 [] (fun _ => []) (fun _ (q : Nat) => [(5, .p (.int .i64 q))]) (fun _ _ => []) (fun q => q <= c.minus.length /\ ∀ (p : Nat) v, p < q -> c.minus[p]? = some v -> lnOk c v) (fun q => c.minus.length - q) 0 ⟨by omega, fun p v hp => by omega⟩ ?_ ?_
   . simp
     try decide
   rintro q ⟨hq, hpr⟩
   simp
   refine Jan (fun h5 => ?_) (fun h5 => ?_)
   . simp at h5
     obtain ⟨v, e⟩ := Jae h5
     have hv := List.mem_of_getElem? e
     simp [h5, e, -getElem?_pos, List.getElem?_cons_zero, List.getElem?_cons_succ]
     refine Jaf.intro (by kernel_rfl) ?_
     simp [h5, e, -getElem?_pos, List.getElem?_cons_zero, List.getElem?_cons_succ]
     by_cases v1 : v < 0
     . rw [p6 v (List.mem_append.2 (by first | exact .inl hv | exact .inr hv)) (.inl v1)]
       simp [v1]
       exact ⟨.of (by kernel_rfl), by simp [Jaa]⟩
     . simp [v1, h5, e, -getElem?_pos, List.getElem?_cons_zero, List.getElem?_cons_succ]
       refine Jab hL ?_
       by_cases v2 : (cntN c : Int) <= v
       . rw [p6 v (List.mem_append.2 (by first | exact .inl hv | exact .inr hv)) (.inr v2)]
         simp [v2]
         exact ⟨.of (by kernel_rfl), by simp [Jaa]⟩
       . simp [v2]
         refine ⟨.of (by kernel_rfl), wrap_i64 (by omega) (by omega), q + 1, ⟨by omega, fun p w hp hw => ?_⟩, by omega, by omega⟩
         rcases (by omega : p = q \/ p < q) with rfl | hp
         . rw [e] at hw; cases hw; exact ⟨by omega, by omega⟩
         . exact hpr p w hp hw
   . simp at h5
     have hall : ∀ v ∈ c.minus, lnOk c v := fun v hv => by
       obtain ⟨p, hp, rfl⟩ := List.getElem_of_mem hv
       exact hpr p _ (by omega) (List.getElem?_eq_getElem hp)
     simp
     exact ⟨2, ⟨by omega, fun _ => hj1 (by omega), fun _ => hall⟩, by omega, by omega⟩
 . rw [p0 (hj1 (by omega)) (hj2 (by omega))]
   simp [Jaa]
end Go.Am
namespace Go.Am
open Go Go.Proofs Go.Pn
theorem Jlk {c : Ctl} {j : Nat} : inpE c (j + 1) = if inpE c j ≠ 0 then inpE c j else nmE c (2 * actN c + j) := by
 unfold inpE
 rw [List.range_succ, List.map_append]
 exact Jla
theorem Jml {c : Ctl} {j : Nat} {x : Sig} (e : c.sigs[j]? = some x) : sgsE c (j + 1) = if sgsE c j ≠ 0 then sgsE c j else sgE c j x := by
 unfold sgsE
 have hj : j < c.sigs.length := (gsI.1 e).1
 rw [take_snoc e, List.zipIdx_append, List.map_append, List.length_take, Nat.min_eq_left (by omega), Nat.zero_add]
 exact Jla
theorem Jms {f : Nat -> Int} {j : Nat} {e : Int} (he : e ≠ 0) (hj : f j = e) (hs : ∀ k, f k ≠ 0 -> f (k + 1) = f k) : ∀ k, f (j + k) = e
 | 0 => hj
 | k + 1 => by
   have ih := Jms he hj hs k
   show f (j + k + 1) = e
   rw [hs _ (by rw [ih]; exact he), ih]
theorem Jyi {c : Ctl} {j n : Nat} (h0 : inpE c j = 0) (he : nmE c (2 * actN c + j) ≠ 0) (hn : j < n) : inpE c n = nmE c (2 * actN c + j) := by
 have h1 : inpE c (j + 1) = nmE c (2 * actN c + j) := by rw [Jlk, if_neg (by simpa using h0)]
 have := Jms he h1 (fun k hk => by rw [Jlk, if_pos hk]) (n - (j + 1))
 rwa [show j + 1 + (n - (j + 1)) = n by omega] at this
theorem Jsb {c : Ctl} {k : Nat} (h : c.sigs.length <= k) : sgsE c k = sgsE c c.sigs.length := by
 unfold sgsE
 rw [List.take_of_length_le h, List.take_length]
theorem J17 {c : Ctl} {j : Nat} {x : Sig} (e : c.sigs[j]? = some x) (h0 : sgsE c j = 0) (he : sgE c j x ≠ 0) : sgsE c c.sigs.length = sgE c j x := by
 have hj : j < c.sigs.length := (gsI.1 e).1
 have h1 : sgsE c (j + 1) = sgE c j x := by rw [Jml e, if_neg (by simpa using h0)]
 have := Jms he h1 (fun k hk => by
   by_cases hl : k < c.sigs.length
   . obtain ⟨y, hy⟩ := Jae hl
     rw [Jml hy, if_pos hk]
   . rw [Jsb (by omega), Jsb (k := k) (by omega)]) (c.sigs.length - (j + 1))
 rwa [show j + 1 + (c.sigs.length - (j + 1)) = c.sigs.length by omega] at this
structure Lg (c : Ctl) : Prop where
 inp : c.inputs.length < 2305843009213693952
 sg : c.sigs.length < 2305843009213693952
 plus : c.plus.length < 2305843009213693952
 minus : c.minus.length < 2305843009213693952
 inl : ∀ s ∈ c.inputs, List.length s < 2305843009213693952
 sgl : ∀ x ∈ c.sigs, List.length x.name < 2305843009213693952
 oks : ∀ x ∈ c.sigs, okX x.on /\ okX x.off
theorem Lg.sm {c : Ctl} (h : Lg c) (h1 : ¬ (c.act < 1 \/ 6 < c.act)) (h2 : ¬ (16 < c.inputs.length \/ 64 < c.sigs.length)) : Sm c := by
 refine ⟨by unfold actN; omega, by unfold actN; omega, by omega, by omega, fun i => ?_, h.oks⟩
 unfold nmF
 split
 . show 2 < _; decide
 . split
   . rw [List.getD_eq_getElem?_getD]
     cases e : c.inputs[i - 2 * actN c]? with
     | none => show 0 < _; decide
     | some s => have := h.inl s (List.mem_of_getElem? e); show List.length s < _; omega
   . cases e : c.sigs[i - fstN c]? with
     | none => show 0 < _; decide
     | some s => have := h.sgl s (List.mem_of_getElem? e); show List.length s.name < _; omega
set_option maxHeartbeats 1000000 in
theorem Jvf (c : Ctl) (h : Lg c) : Pure Tryz.prog GL 5 [c.av] (.p (.int .i64 (refE c))) := by
 refine Pure.of_walk (N := 57) Tryz.func5 rfl rfl rfl (by simp) (by first | (simp; done) | simp [*]) ?_
 generalize hr : refE c = r
 unfold refE at hr
 have hLg := h
 obtain ⟨l1, l2, l3, l4, _, _, _⟩ := h
 by_cases a1 : c.act < 1
 . rw [if_pos (.inl a1)] at hr
   subst hr
   simp [a1, Jaa]
 by_cases a2 : 6 < c.act
 . rw [if_pos (.inr a2)] at hr
   subst hr
   simp [a1, a2, Jaa]
 rw [if_neg (by omega)] at hr
 by_cases b1 : 16 < c.inputs.length
 . rw [if_pos (.inl b1)] at hr
   subst hr
   have b1' : (16 : Int) < (c.inputs.length : Int) := by omega
   simp [a1, a2, b1', Jaa]
 have b1' : ¬ (16 : Int) < (c.inputs.length : Int) := by omega
 by_cases b2 : 64 < c.sigs.length
 . rw [if_pos (.inr b2)] at hr
   subst hr
   have b2' : (64 : Int) < (c.sigs.length : Int) := by omega
   simp [a1, a2, b1', b2', Jaa]
 have b2' : ¬ (64 : Int) < (c.sigs.length : Int) := by omega
 rw [if_neg (by omega)] at hr
 have hS := Lg.sm hLg (by omega) (by omega)
 have hP := Jvj c hS (by omega) (by omega)
 have hcn : cntN c = 2 * actN c + c.inputs.length + c.sigs.length := rfl
 have hact := hS.act
 have hact6 := hS.act6
 simp [a1, a2, b1', b2']
 refine Jai.go [1] [0] 0 [] (fun _ => []) (fun _ (j : Nat) => [(3, .p (.int .i64 j))]) (fun _ _ => []) (fun j => j <= c.inputs.length /\ inpE c j = 0) (fun j => c.inputs.length - j) 0 ⟨by omega, rfl⟩ ?_ ?_
 . simp
   try decide
 rintro j ⟨hj, hi0⟩
 simp
 refine Jan (fun h3 => ?_) (fun h3 => ?_)
 . simp at h3
   have hN := Jon c (2 * actN c + j) hS (by omega)
   have hcast : ((2 * actN c + j : Nat) : Int) = 2 * c.act + j := by omega
   rw [hcast] at hN
   have hw1 : IntKind.i64.wrap (2 * c.act) = 2 * c.act := wrap_i64 (by omega) (by omega)
   have hw2 : IntKind.i64.wrap (2 * c.act + j) = 2 * c.act + j := wrap_i64 (by omega) (by omega)
   have hsn := @Jlk c j
   have hee := fun he => @Jyi c j c.inputs.length hi0 he h3
   rw [if_neg (by simpa using hi0)] at hsn
   simp [hw1, hw2]
   refine Jab hN ?_
   generalize nmE c (2 * actN c + j) = e1 at *
   by_cases n1 : e1 = 0
   . simp [n1]
     exact ⟨wrap_i64 (by omega) (by omega), j + 1, ⟨by omega, by rw [hsn, n1]⟩, by omega, by omega⟩
   . rw [hee n1, if_pos n1] at hr
     subst hr
     simp [n1, Jaa]
 . simp at h3
   have hjl : j = c.inputs.length := by omega
   subst hjl
   rw [if_neg (by simpa using hi0)] at hr
   simp
   refine Jai.go [1] [0] 0 [] (fun _ => []) (fun _ (k : Nat) => [(5, .p (.int .i64 k))]) (fun _ _ => []) (fun k => k <= c.sigs.length /\ sgsE c k = 0) (fun k => c.sigs.length - k) 0 ⟨by omega, rfl⟩ ?_ ?_
   . simp
     try decide
   rintro k ⟨hk, hk0⟩
   simp
   refine Jan (fun h4 => ?_) (fun h4 => ?_)
   . simp at h4
     obtain ⟨x, e⟩ := Jae h4
     have hG := Jvk c k x hS e
     have hsn := Jml e
     have hee := J17 e hk0
     rw [if_neg (by simpa using hk0)] at hsn
     simp
     refine Jab hG ?_
     generalize sgE c k x = e1 at *
     by_cases n1 : e1 = 0
     . simp [n1]
       exact ⟨wrap_i64 (by omega) (by omega), k + 1, ⟨by omega, by rw [hsn, n1]⟩, by omega, by omega⟩
     . rw [hee n1, if_pos n1] at hr
       subst hr
       simp [n1, Jaa]
   . simp at h4
     have hkl : k = c.sigs.length := by omega
     subst hkl
     rw [if_neg (by simpa using hk0)] at hr
     subst hr
     simp
     refine Jab hP ?_
     simp [Jaa]
def Jei (x : Ex) : Bool := decide (cntX 256 x <= 256) && Ja2 16 x
def Je4 (x : Sig) : Bool := decide (x.name.length <= 200) && (Jei x.on && Jei x.off)
def bigB (c : Ctl) : Bool := decide (32 < c.inputs.length) || (decide (16 < c.sigs.length) && decide (c.sigs.length <= 64)) || decide (128 < c.sigs.length) || decide (40 < c.plus.length) || decide (40 < c.minus.length)
def fewB (c : Ctl) : Bool := !bigB c && (c.inputs.all (fun s => decide (List.length s <= 200)) && c.sigs.all Je4)
set_option maxRecDepth 20000 in
set_option maxHeartbeats 1000000 in
theorem Jvg (c : Ctl) (h : Lg c) : Pure Tryz.prog GL 4 [c.av] (.p (.bool (fewB c))) := by
 refine Pure.of_walk (N := 82) Tryz.func4 rfl rfl rfl (by simp) (by first | (simp; done) | simp [*]) ?_
 obtain ⟨l1, l2, l3, l4, l5, l6, l7⟩ := h
 have fB : bigB c = true -> fewB c = false := fun e => by unfold fewB; rw [e]; rfl
 have fI : ∀ s ∈ c.inputs, 200 < List.length s -> fewB c = false := fun s hs hl => by
   unfold fewB
   have : c.inputs.all (fun s => decide (List.length s <= 200)) = false := by
     rw [List.all_eq_false]
     exact ⟨s, hs, by simp; omega⟩
   rw [this, Bool.false_and, Bool.and_false]
 have fS : ∀ x ∈ c.sigs, Je4 x = false -> fewB c = false := fun x hx hl => by
   unfold fewB
   have : c.sigs.all Je4 = false := by
     rw [List.all_eq_false]
     exact ⟨x, hx, by rw [hl]; decide⟩
   rw [this, Bool.and_false, Bool.and_false]
 have fT : bigB c = false -> (∀ s ∈ c.inputs, List.length s <= 200) -> (∀ x ∈ c.sigs, Je4 x = true) -> fewB c = true := fun e h1 h2 => by
   unfold fewB
   rw [e, List.all_eq_true.2 h2, List.all_eq_true.2 fun s hs => decide_eq_true (h1 s hs)]; rfl
 generalize fewB c = r at *
 by_cases a1 : (32 : Int) < (c.inputs.length : Int)
 . rw [fB (by unfold bigB; simp; omega)]
   simp [a1, Jaa]
 by_cases a2 : (16 : Int) < (c.sigs.length : Int) /\ (c.sigs.length : Int) <= 64
 . rw [fB (by unfold bigB; simp; omega)]
   simp [a1, a2.1, a2.2, Jaa]
 by_cases a3 : (128 : Int) < (c.sigs.length : Int)
 . rw [fB (by unfold bigB; simp; omega)]
   have a4 : (16 : Int) < (c.sigs.length : Int) := by omega
   have a5 : ¬ (c.sigs.length : Int) <= 64 := by omega
   simp [a1, a3, a4, a5, Jaa]
 have hrest : ∀ K : Prop, (16 : Int) < (c.sigs.length : Int) /\ ¬ (c.sigs.length : Int) <= 64 \/ ¬ (16 : Int) < (c.sigs.length : Int) := fun _ => by omega
 rcases hrest True with a4 | a4
 all_goals
   by_cases a6 : (40 : Int) < (c.plus.length : Int)
   . rw [fB (by unfold bigB; simp; omega)]
     simp [a1, a3, a4, a6, Jaa]
   by_cases a7 : (40 : Int) < (c.minus.length : Int)
   . rw [fB (by unfold bigB; simp; omega)]
     simp [a1, a3, a4, a6, a7, Jaa]
   have fb0 : bigB c = false := by
     cases hb : bigB c with
     | false => rfl
     | true =>
       unfold bigB at hb
       simp at hb
       omega
   simp [a1, a3, a4, a6, a7]
   refine Jai.go [1] [0] 0 [] (fun _ => []) (fun _ (j : Nat) => [(3, .p (.int .i64 j))]) (fun _ _ => []) (fun j => j <= c.inputs.length /\ ∀ (q : Nat) s, q < j -> c.inputs[q]? = some s -> List.length s <= 200) (fun j => c.inputs.length - j) 0 ⟨by omega, fun q s hq => by omega⟩ ?_ ?_
   . simp
     try decide
   rintro j ⟨hj, hi⟩
   simp
   refine Jan (fun h3 => ?_) (fun h3 => ?_)
   . simp at h3
     obtain ⟨s, e⟩ := Jae h3
     have hs := l5 s (List.mem_of_getElem? e)
     simp [h3, e, -getElem?_pos, List.getElem?_cons_zero, List.getElem?_cons_succ]
     by_cases hl : (200 : Int) < (List.length s : Int)
     . rw [fI s (List.mem_of_getElem? e) (by omega)]
       simp [hl, Jaa]
     . simp [hl]
       refine ⟨wrap_i64 (by omega) (by omega), j + 1, ⟨by omega, fun q t hq ht => ?_⟩, by omega, by omega⟩
       rcases (by omega : q = j \/ q < j) with rfl | hq
       . rw [e] at ht; cases ht; omega
       . exact hi q t hq ht
   . simp at h3
     have hall : ∀ s ∈ c.inputs, List.length s <= 200 := fun s hs => by
       obtain ⟨p, hp, rfl⟩ := List.getElem_of_mem hs
       exact hi p _ (by omega) (List.getElem?_eq_getElem hp)
     simp
     refine Jai.go [1] [0] 0 [] (fun _ => []) (fun _ (k : Nat) => [(4, .p (.int .i64 k))]) (fun _ _ => []) (fun k => k <= c.sigs.length /\ ∀ (q : Nat) s, q < k -> c.sigs[q]? = some s -> Je4 s = true) (fun k => c.sigs.length - k) 0 ⟨by omega, fun q s hq => by omega⟩ ?_ ?_
     . simp
       try decide
     rintro k ⟨hk, hs⟩
     simp
     refine Jan (fun h4 => ?_) (fun h4 => ?_)
     . simp at h4
       obtain ⟨x, e⟩ := Jae h4
       have hx := List.mem_of_getElem? e
       have hn := l6 x hx
       have hA := Jki x.on (l7 x hx).1
       have hB := Jki x.off (l7 x hx).2
       change Pure _ _ _ _ (.p (.bool (Jei x.on))) at hA
       change Pure _ _ _ _ (.p (.bool (Jei x.off))) at hB
       have hf : Je4 x = (decide (x.name.length <= 200) && (Jei x.on && Jei x.off)) := rfl
       have hfs := fS x hx
       generalize Jei x.on = b1 at *
       generalize Jei x.off = b2 at *
       simp [h4, e, -getElem?_pos, List.getElem?_cons_zero, List.getElem?_cons_succ]
       by_cases hl : (200 : Int) < (List.length x.name : Int)
       . rw [hfs (by rw [hf, decide_eq_false (by omega)]; rfl)]
         simp [hl, Jaa]
       . rw [decide_eq_true (by omega), Bool.true_and] at hf
         simp [hl]
         refine Jab hA ?_
         cases b1 with
         | false =>
           rw [hfs hf]
           simp [Jaa]
         | true =>
           simp
           refine Jab hB ?_
           cases b2 with
           | false =>
             rw [hfs hf]
             simp [Jaa]
           | true =>
             simp
             refine ⟨wrap_i64 (by omega) (by omega), k + 1, ⟨by omega, fun q t hq ht => ?_⟩, by omega, by omega⟩
             rcases (by omega : q = k \/ q < k) with rfl | hq
             . rw [e] at ht; cases ht; exact hf
             . exact hs q t hq ht
     . simp at h4
       have hall2 : ∀ s ∈ c.sigs, Je4 s = true := fun s hm => by
         obtain ⟨p, hp, rfl⟩ := List.getElem_of_mem hm
         exact hs p _ (by omega) (List.getElem?_eq_getElem hp)
       rw [fT fb0 hall hall2]
       simp [Jaa]
end Go.Am
