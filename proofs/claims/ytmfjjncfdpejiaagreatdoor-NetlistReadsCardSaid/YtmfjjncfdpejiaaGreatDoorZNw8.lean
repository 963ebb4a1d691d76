/- Contracts: NetlistReads; chapter 23. -/
import Derived.Test.YtmfjjncfdpejiaaGreatDoorZW1
import Derived.Test.YtmfjjncfdpejiaaGreatDoorZW4
import Derived.Test.YtmfjjncfdpejiaaGreatDoorZCP
set_option linter.unusedVariables false
set_option linter.unusedSimpArgs false
namespace Go.Am
open Go Go.Proofs Go.Pn
theorem Kim {x : Txt} {r : List Txt} : Lib.trimSuffix (unl (x :: r)) [10] = Lib.join (x :: r) [10] := by
 unfold Lib.trimSuffix Lib.hasSuffix
 have h : ([10] : Txt).isSuffixOf (unl (x :: r)) = true := by
   rw [List.isSuffixOf_iff_suffix, <- Jsd]
   exact ⟨_, rfl⟩
 rw [if_pos h]
 exact Ka0.1
theorem Khq {l : List Txt} {k : Nat} {v x y z w : Txt} (e : l[k]? = some v) : (ins3 l k x y z).set (k + 3) w = l.take k ++ ([x, y, z, w] ++ l.drop (k + 1)) := by
 obtain ⟨h, rfl⟩ := gsI.1 e
 have ht : (l.take k).length = k := by rw [List.length_take]; omega
 unfold ins3
 rw [List.drop_eq_getElem_cons h, List.set_append, if_neg (by omega), ht, Nat.add_sub_cancel_left]
 rfl
theorem Khr {l : List Txt} {k : Nat} {v : Txt} (e : l[k]? = some v) : (ins3 l k [] ([35, 32] ++ v) [32, 32, 35, 120]).set (k + 3) (([32, 32] ++ repl v) ++ [32]) = insL l k v := by
 rw [Khq e]; rfl
theorem Khs {l : List Txt} {k : Nat} {v : Txt} : ∃ x r, insL l k v = x :: r := by
 unfold insL
 cases h : l.take k with
 | nil => exact ⟨_, _, rfl⟩
 | cons a t => exact ⟨a, _, rfl⟩
theorem Khk {l : List Txt} {j : Nat} {a b : Txt} (e1 : l[j]? = some a) (e2 : l[j + 1]? = some b) : (l.set j b).set (j + 1) a = Jcs l j a b := by
 have h1 := (gsI.1 e1).1
 have ht : (l.take j).length = j := by rw [List.length_take]; omega
 unfold Jcs
 conv => lhs; rw [J6j e1 e2]
 rw [List.set_append, if_neg (by omega), ht, Nat.sub_self, List.set_cons_zero, List.set_append, if_neg (by omega), ht, Nat.add_sub_cancel_left]
 rfl
theorem Khj {l : List Txt} {j : Nat} {a b : Txt} : ∃ x r, Jcs l j a b = x :: r := by
 unfold Jcs
 cases h : l.take j with
 | nil => exact ⟨_, _, rfl⟩
 | cons a t => exact ⟨a, _, rfl⟩
theorem Kh6 {c : Circuit} (h : Jad c = 0) {p : Port} (hp : p ∈ allP c) : ptE c p = 0 /\ rpE c (ptT c p) = 0 /\ rpP c (ptT c p) = p := by
 have hg := Jjw.1 hp
 have e1 : ptE c p = 0 := by unfold ptE; rw [if_neg (by simp [h])]; exact hg
 obtain ⟨a, b⟩ := Jue h (List.Perm.refl c.parts) hg
 have et : ptT c p = endX (Jak c p) := by unfold ptT; rw [if_pos e1]
 have e2 : rpE c (ptT c p) = 0 := by rw [et]; unfold rpE; rw [if_neg (by simp [h])]; exact a
 refine ⟨e1, e2, ?_⟩
 unfold rpP
 rw [if_pos e2, et]
 unfold Jby at b
 rw [if_pos a] at b
 have b1 : befD (endX (Jak c p)) = nameAt c p.part := congrArg End.part b
 have b2 : aftD (endX (Jak c p)) = p.name := congrArg End.port b
 obtain ⟨q, e, h0, _⟩ := Jdq.1 hg
 obtain ⟨i, hi⟩ : ∃ i : Nat, p.part = i := ⟨p.part.toNat, by omega⟩
 rw [b1, b2]
 have hn : nameAt c p.part = q.name := by unfold nameAt; rw [e]
 rw [hn, J9g h (i := i) (by rw [<- e, hi]; rfl), <- hi]
theorem Kg9 (s : Txt) (hs : s.length < 4611686018427387904) : Pure Tryz.prog GL 117 [.p (.str s), .p (.str Jd0)] (.p (.bool (Jd0.isPrefixOf s))) := by
 refine Pure.of_walk (N := 18) Tryz.func117 rfl rfl rfl (by simp) rfl ?_
 have hsp : Jd0 = [112, 97, 114, 116, 32] := rfl
 rw [hsp]
 by_cases h : 5 <= s.length
 . have h' : (5 : Int) <= (s.length : Int) := by omega
   have e : ([112, 97, 114, 116, 32] : Txt).isPrefixOf s = decide (List.take 5 s = [112, 97, 114, 116, 32]) := by
     rw [Bool.eq_iff_iff, List.isPrefixOf_iff_prefix, List.prefix_iff_eq_take, decide_eq_true_eq]
     exact eq_comm
   simp [h, h', e]
   simp [Jaa]
 . have h' : ¬ (5 : Int) <= (s.length : Int) := by omega
   have e : ([112, 97, 114, 116, 32] : Txt).isPrefixOf s = false := by
     rw [Bool.eq_false_iff]
     intro hp
     have := (List.isPrefixOf_iff_prefix.1 hp).length_le
     simp at this
     omega
   simp [h, h', Jaa, e]
theorem Kha (s : Txt) (hs : s.length < 4611686018427387904) : Pure Tryz.prog GL 45 [.p (.str s), .p (.str Jd0)] (.p (.bool (Jd0.isPrefixOf s))) := by
 refine Pure.of_walk (N := 8) Tryz.func45 rfl rfl rfl (by simp) rfl ?_
 have h := Kg9 s hs
 simp
 refine Jab h ?_
 simp [Jaa]
theorem w6 {m : Int} {f : Nat} {args : List AV} {r : AV} (h : Pure Tryz.prog GL f args r) : Pure Tryz.prog (GL6 m) f args r := (w5 h).wider (J8b m)
theorem w56 {m : Int} {f : Nat} {args : List AV} {r : AV} (h : Pure Tryz.prog GL5 f args r) : Pure Tryz.prog (GL6 m) f args r := h.wider (J8b m)
theorem Kij {c : Circuit} (h : Jad c = 0) (hf : fewP c = true) (h0 : c.parts ≠ []) {k : Nat} (hk : k < (Jdu c).length) :
   ∃ x r v, Jdu c = x :: r /\ (Jdu c)[k]? = some v /\ (Jdu c).length = c.parts.length + c.pipes.length /\ (Jdu c).length <= 36 /\ (∀ l ∈ Jdu c, l.length <= 60) /\ Jc5 c = 0 /\ fmtC c = unl (Jdu c) /\
     prsE (unl (insL (Jdu c) k v)) = 0 /\ prsC (unl (insL (Jdu c) k v)) = c /\ (unl (insL (Jdu c) k v)).length <= 16384 := by
 obtain ⟨f1, f2, f3, f4⟩ := J8u hf h
 have hl : (Jdu c).length = c.parts.length + c.pipes.length := by simp [Jdu]
 obtain ⟨v, e⟩ := Jah hk
 obtain ⟨x, r, hx⟩ : ∃ x r, Jdu c = x :: r := by
   cases hq : Jdu c with
   | nil => rw [hq] at hk; simp at hk
   | cons x r => exact ⟨x, r, rfl⟩
 have h60 := Kaj h
 have hlen := J81 (ls := Jdu c) (k := k) h60 (h60 v (List.mem_of_getElem? e))
 have hno := J82 e (J6t h)
 have hw : ((insL (Jdu c) k v).map fldR).filter (fun w => !noop w) = c.parts.map Jb1 ++ c.pipes.map (Jcq c) := by
   rw [J83 e, J6u h, Jpl]
 obtain ⟨a, b⟩ := J2p h (List.Perm.refl _) (List.Perm.refl _) hno (by omega) hw
 exact ⟨x, r, v, hx, e, hl, by omega, h60, f1, by unfold fmtC; rw [if_pos f1]; rfl, a, b, by omega⟩
theorem Kil {c : Circuit} (h : Jad c = 0) (hf : fewP c = true) {j : Nat} {a b : Txt} (e1 : (Jdu c)[j]? = some a) (e2 : (Jdu c)[j + 1]? = some b) (hp : Jd0.isPrefixOf b = Jd0.isPrefixOf a) :
   prsE (unl (Jcs (Jdu c) j a b)) = 0 /\ prsC (unl (Jcs (Jdu c) j a b)) = c /\ (unl (Jcs (Jdu c) j a b)).length <= 16384 := by
 obtain ⟨f1, f2, f3, f4⟩ := J8u hf h
 have hperm := Jnb e1 e2
 have hlen : (unl (Jcs (Jdu c) j a b)).length <= 16384 := by
   rw [Ka2 hperm]
   unfold fmtC at f2
   rw [if_pos f1] at f2
   exact f2
 have hk : j + 1 < c.parts.length \/ c.parts.length <= j := by
   have p1 := J9h e1
   have p2 := J9h e2
   cases ha : Jd0.isPrefixOf a with
   | true => rw [ha] at hp; exact .inl (p2.1 hp)
   | false =>
     refine .inr (Nat.le_of_not_lt fun hlt => ?_)
     have := p1.2 hlt
     rw [ha] at this; cases this
 obtain ⟨ps, xs, q1, q2, q3⟩ := J8t h e1 e2 hk
 obtain ⟨u1, u2⟩ := J2p h q1 q2 (fun l hl => J6t h l ((J8s e1 e2).1 hl)) hlen q3
 exact ⟨u1, u2, hlen⟩
set_option maxRecDepth 40000 in
theorem Khb (m : Int) (c : Circuit) (u : Int) (hs : Sized c) (hu : 0 <= u /\ u < 256) : Pure Tryz.prog (GL6 m) 10 [c.av, .p (.int .u8 u)] (.p (.bool true)) := by
 refine Pure.of_walk (N := 206) Tryz.func10 rfl rfl rfl (by simp) rfl ?_
 have hA := w56 (m := m) J8m
 have hR := w56 (m := m) (J8q c hs)
 cases hf : (fewP c && decide (Jad c = 0)) with
 | false =>
   rw [hf] at hR
   simp
   refine Jab hR ?_
   simp
   refine Jab hA ?_
   simp [Jaa]
 | true =>
 rw [hf] at hR
 simp only [Bool.and_eq_true, decide_eq_true_eq] at hf
 obtain ⟨hfw, h⟩ := hf
 obtain ⟨f1, f2, f3, f4⟩ := J8u hfw h
 obtain ⟨g1, g2⟩ := Kak f1
 have h1 := w56 (m := m) (Jyp c hs)
 have h2 := w6 (m := m) (Jqj (fmtC c) (by omega))
 have h3 := w6 (m := m) (Jzh c c hs hs)
 rw [f1] at h1
 rw [g1, g2] at h2
 simp
 refine Jab hR ?_
 simp
 refine Jab h1 ?_
 simp
 refine Jab h2 ?_
 simp
 refine Jab h3 ?_
 simp
 by_cases h0 : c.parts = []
 . have hx : c.pipes = [] := by
     apply List.eq_nil_iff_forall_not_mem.2
     intro x hx
     obtain ⟨q, e, _, _⟩ := Jdq.1 (Jdt h hx).1
     rw [h0] at e; simp at e
   have he : fmtC c = [] := by unfold fmtC; rw [if_pos f1]; unfold Jf9 Jdu; rw [h0, hx]; rfl
   simp [h0, he]
   refine Jab hA ?_
   simp [Jaa]
 have hn : 0 < (Jdu c).length := by
   have := List.length_pos_iff.2 h0
   simp [Jdu]; omega
 obtain ⟨x, r, _, hx, _, hl, hl36, h60, _, hfm, _⟩ := Kij h hfw h0 hn
 obtain ⟨k, hk⟩ : ∃ k : Nat, u.tmod (((Jdu c).length : Nat) : Int) = k := ⟨(u.tmod (((Jdu c).length : Nat) : Int)).toNat, by have := Int.tmod_nonneg (((Jdu c).length : Nat) : Int) hu.1; omega⟩
 have hkl : k < (Jdu c).length := by have := Int.tmod_lt_of_pos u (b := (((Jdu c).length : Nat) : Int)) (by omega); omega
 obtain ⟨_, _, v, _, ev, _, _, _, _, _, i1, i2, i3⟩ := Kij h hfw h0 hkl
 have hv60 := h60 v (List.mem_of_getElem? ev)
 have hno : ∀ l ∈ x :: r, ∀ b ∈ l, b ≠ 10 := by rw [<- hx]; exact J6t h
 have k1 := w6 (m := m) (J8l (fmtC c) [10] (by omega))
 have ht : Lib.trimSuffix (fmtC c) [10] = Lib.join (Jdu c) [10] := by rw [hfm, hx]; exact Kim
 rw [ht] at k1
 have hjl : (Lib.join (Jdu c) [10]).length <= 16384 := by
   have := congrArg List.length (Jsd (x := x) (r := r))
   rw [<- hx, <- hfm] at this
   simp at this
   omega
 have k2 := J8k (m := m) (Lib.join (Jdu c) [10]) 10 (by omega)
 have hsp : Lib.split (Lib.join (Jdu c) [10]) [10] = Jdu c := by rw [hx]; exact J6h hno
 rw [hsp] at k2
 generalize hL : Jdu c = L at *
 have hp0 : 0 < c.parts.length := List.length_pos_iff.2 h0
 have h0' : ¬ c.parts.length = 0 := by omega
 simp [h0, h0']
 refine Jab k1 ?_
 simp
 refine Jab k2 ?_
 have hl' : (L.length : Int) = c.parts.length + c.pipes.length := by omega
 have hk' : u.tmod ((c.parts.length : Int) + (c.pipes.length : Int)) = k := by rw [<- hl']; exact hk
 simp [hl', hk']
 refine ⟨wrap_i64 (by omega) (by omega), wrap_i64 (by omega) (by omega), by omega, ?_⟩
 refine Jaj.intro (by kernel_rfl) ?_
 have hLne : ¬ L = [] := fun e => by rw [e] at hn; simp at hn
 have hL1 : L.map (fun x => [PV.str x]) = L.map Txt.enc := rfl
 rw [hL1]
 simp
 refine Ja7 (J8x L _ _ (by omega)) ?_
 have hac : accB 1 (L.map Txt.row) = some (.cells 1 (L.map Txt.row)) := by rw [accB, if_neg (by simpa using hLne)]
 rw [hac]
 simp [hkl, ev, -getElem?_pos, List.getElem?_cons_zero, List.getElem?_cons_succ]
 refine ⟨by omega, ?_⟩
 refine Ja7 (J8y L k [] ([35, 32] ++ v) [32, 32, 35, 120] 2 3 (some 3) _ 4 (by decide) (by decide) (by decide) hkl (by omega) (by simp [get]) (by simp [get])) ?_
 simp
 refine ⟨.of (by kernel_rfl), wrap_i64 (by omega) (by omega), hkl, ?_⟩
 have k3 := J8j (m := m) v [32] [32, 32, 32] (by simp) (by omega) (by simp)
 rw [J99] at k3
 have hrv := @J5x v
 simp [hkl, ev, -getElem?_pos, List.getElem?_cons_zero, List.getElem?_cons_succ]
 refine Jab k3 ?_
 have e15 : ((k : Int) + 3).toNat = k + 3 := by omega
 have e16 : (0 : Int) <= k + 3 := by omega
 have hlen3 : (ins3 L k [] ([35, 32] ++ v) [32, 32, 35, 120]).length = L.length + 3 := by simp [ins3]; omega
 obtain ⟨w0, ew⟩ := (Jah (by omega) : ∃ w0, (ins3 L k [] ([35, 32] ++ v) [32, 32, 35, 120])[k + 3]? = some w0)
 have ew' : (ins3 L k [] (35 :: 32 :: v) [32, 32, 35, 120])[k + 3]? = some w0 := ew
 simp [e15, e16, hkl, ew', -getElem?_pos, List.getElem?_cons_zero, List.getElem?_cons_succ]
 refine ⟨by omega, by omega, ?_⟩
 have hset : (List.map Txt.row (ins3 L k [] (35 :: 32 :: v) [32, 32, 35, 120])).set (k + 3) [AV.p (PV.str (32 :: 32 :: (repl v ++ [32])))] = List.map Txt.row (insL L k v) := by
   rw [<- Khr ev, List.map_set]; rfl
 rw [hset]
 have hIl : (insL L k v).length = L.length + 3 := by rw [<- Khr ev, List.length_set]; exact hlen3
 obtain ⟨y, s, hI⟩ := @Khs L k v
 have hju := @Jsd y s
 rw [<- hI] at hju
 generalize insL L k v = I at *
 rw [<- hIl]
 have hjl3 : (Lib.join I [10]).length <= 16384 := by
   have := congrArg List.length hju
   simp at this
   omega
 have k4 := w6 (m := m) (J8i I [10] (by omega) (by omega))
 have k5 := w6 (m := m) (Jqj (unl I) (by omega))
 rw [i1, i2] at k5
 refine Jeo ?_
 simp
 refine ⟨_, k4, rfl, ?_⟩
 simp [hju]
 refine ⟨by omega, ?_⟩
 refine Jab k5 ?_
 simp
 refine Jab h3 ?_
 simp
 refine Jaj.intro (by kernel_rfl) ?_
 have k6 := w6 (m := m) (J8n c hs)
 rw [h, if_neg (by simp)] at k6
 obtain ⟨q0, hq0, _⟩ := J9i h (i := 0) hp0
 have hA0 : 0 < (allP c).length := List.length_pos_of_mem hq0
 have hA1 : ¬ allP c = [] := fun e => by rw [e] at hA0; simp at hA0
 have hA2 := J8d (Jd5 h).1 (by omega)
 obtain ⟨n, hnn⟩ : ∃ n : Nat, u.tmod (((allP c).length : Nat) : Int) = n := ⟨(u.tmod (((allP c).length : Nat) : Int)).toNat, by have := Int.tmod_nonneg (((allP c).length : Nat) : Int) hu.1; omega⟩
 have hnl : n < (allP c).length := by have := Int.tmod_lt_of_pos u (b := (((allP c).length : Nat) : Int)) (by omega); omega
 obtain ⟨p, ep⟩ := Jah hnl
 have hpm := List.mem_of_getElem? ep
 obtain ⟨d1, d2, d3⟩ := Kh6 h hpm
 have k7 := w6 (m := m) (J8o c p hs)
 have hpt : (ptT c p).length <= 27 := by unfold ptT; rw [if_pos d1]; exact (Jg4 h (Jjw.1 hpm)).2.2
 have k8 := w6 (m := m) (J8p c (ptT c p) hs (by omega))
 rw [d1] at k7
 rw [d2, d3] at k8
 by_cases hk0 : k = 0
 . subst hk0
   simp
   refine ⟨.of (by kernel_rfl), ?_⟩
   refine Jab k6 ?_
   have hu3 : IntKind.i64.wrap u = u := wrap_i64 (by omega) (by omega)
   simp [hA1, hnn, ep, hu3, -getElem?_pos, List.getElem?_cons_zero, List.getElem?_cons_succ]
   refine ⟨by omega, ?_⟩
   refine Jab k7 ?_
   simp
   refine Jab k8 ?_
   simp
   refine Jab hA ?_
   simp [Jaa]
 . have hkp : (0 : Int) < k := by omega
   obtain ⟨j, rfl⟩ : ∃ j, k = j + 1 := ⟨k - 1, by omega⟩
   obtain ⟨a, ea⟩ := (Jah (by omega) : ∃ a, L[j]? = some a)
   have hj1 : (0 : Int) < (j : Int) + 1 := by omega
   have k9 := w6 (m := m) (Kha v (by omega))
   have ha60 := h60 a (List.mem_of_getElem? ea)
   have k10 := w6 (m := m) (Kha a (by omega))
   have hjl : (j : Int) + 1 - 1 = j := by omega
   have hjlt : j < L.length := by omega
   simp [hj1, hkl, hjlt, ev, ea, -getElem?_pos, List.getElem?_cons_zero, List.getElem?_cons_succ]
   refine ⟨by omega, by omega, ?_⟩
   refine Jab k9 ?_
   have hjw : IntKind.i64.wrap ((j : Int) + 1 - 1) = (j : Int) + 1 - 1 := wrap_i64 (by omega) (by omega)
   simp [hj1, hkl, hjlt, ev, ea, hjw, -getElem?_pos, List.getElem?_cons_zero, List.getElem?_cons_succ]
   refine ⟨wrap_i64 (by omega) (by omega), ?_⟩
   refine Jab k10 ?_
   simp
   refine ⟨.of (by kernel_rfl), ?_⟩
   by_cases hpp : Jd0.isPrefixOf v = Jd0.isPrefixOf a
   . simp [hpp]
     obtain ⟨s1, s2, s3⟩ := Kil h hfw (by rw [hL]; exact ea) (by rw [hL]; exact ev) hpp
     rw [hL] at s1 s2 s3
     refine Ja7 (J8x L _ _ (by omega)) ?_
     rw [hac]
     simp
     refine Jaj.intro (by kernel_rfl) ?_
     simp [hj1, hkl, hjlt, ev, ea, hjw, -getElem?_pos, List.getElem?_cons_zero, List.getElem?_cons_succ]
     refine ⟨wrap_i64 (by omega) (by omega), by omega, by omega, wrap_i64 (by omega) (by omega), by omega, by omega, .of (by kernel_rfl), ?_⟩
     have hset2 : ((List.map Txt.row L).set j [AV.p (PV.str v)]).set (j + 1) [AV.p (PV.str a)] = List.map Txt.row (Jcs L j a v) := by
       rw [<- Khk ea ev, List.map_set, List.map_set]
     rw [hset2]
     have hXl : (Jcs L j a v).length = L.length := by rw [<- Khk ea ev, List.length_set, List.length_set]
     obtain ⟨y2, s4, hX⟩ := @Khj L j a v
     have hju2 := @Jsd y2 s4
     rw [<- hX] at hju2
     generalize Jcs L j a v = X at *
     rw [<- hXl]
     have hjl4 : (Lib.join X [10]).length <= 16384 := by
       have := congrArg List.length hju2
       simp at this
       omega
     have k11 := w6 (m := m) (J8i X [10] (by omega) (by omega))
     have k12 := w6 (m := m) (Jqj (unl X) (by omega))
     rw [s1, s2] at k12
     have hac2 : some (ABlk.cells 1 (List.map Txt.row X)) = accB 1 (List.map Txt.row X) := by
       rw [accB, if_neg]
       intro e
       have := congrArg List.length e
       simp at this
       rw [this] at hXl
       simp at hXl
       omega
     rw [hac2]
     refine Jeo ?_
     simp
     refine ⟨_, k11, rfl, ?_⟩
     simp [hju2]
     refine ⟨by omega, ?_⟩
     refine Jab k12 ?_
     simp
     refine Jab h3 ?_
     simp
     refine Jab k6 ?_
     have hu3 : IntKind.i64.wrap u = u := wrap_i64 (by omega) (by omega)
     simp [hA1, hnn, ep, hu3, -getElem?_pos, List.getElem?_cons_zero, List.getElem?_cons_succ]
     refine ⟨by omega, ?_⟩
     refine Jab k7 ?_
     simp
     refine Jab k8 ?_
     simp
     refine Jab hA ?_
     simp [Jaa]
   . have hpb : (Jd0.isPrefixOf v == Jd0.isPrefixOf a) = false := beq_eq_false_iff_ne.2 hpp
     simp [hpb]
     refine Jab k6 ?_
     have hu3 : IntKind.i64.wrap u = u := wrap_i64 (by omega) (by omega)
     simp [hA1, hnn, ep, hu3, -getElem?_pos, List.getElem?_cons_zero, List.getElem?_cons_succ]
     refine ⟨by omega, ?_⟩
     refine Jab k7 ?_
     simp
     refine Jab k8 ?_
     simp
     refine Jab hA ?_
     simp [Jaa]
end Go.Am
