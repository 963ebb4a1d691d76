/- Plain: findings by kinds, drivers by new names; TopCircuitsRename. -/
import Derived.Test.YtmfjjncfdpejiaaGreatDoorZN1
import Derived.Test.YtmfjjncfdpejiaaGreatDoorZCQ
set_option linter.unusedVariables false
set_option linter.unusedSimpArgs false
namespace Go.Am
open Go Go.Proofs Go.Pn
def cntF (l : List Fnd) (k : Nat) : Int := ((l.filter fun f => decide (f.kind = (k : Int))).length : Nat)
theorem J2g {l m : List Fnd} {k : Nat} : cntF (l ++ m) k = cntF l k + cntF m k := by
 unfold cntF
 rw [List.filter_append, List.length_append]; omega
theorem J2h {c : Circuit} {j k : Nat} {l : List Port} : cntF (Jbi c j l) k = if j = k then (((l.filter (Jcw c j)).length : Nat) : Int) else 0 := by
 unfold cntF Jbi
 rw [List.filter_map, List.length_map]
 by_cases e : j = k
 . subst e
   rw [if_pos rfl, List.filter_eq_self.2]
   intro x hx
   simp
 . rw [if_neg e, List.filter_eq_nil_iff.2]
   . rfl
   . intro x hx
     simp
     omega
theorem Joo {c : Circuit} {k : Nat} : ∀ {n : Nat}, cntF (allF c n) k = cntF (Jdo c) k + (if 1 <= k /\ k <= n then ((((allP c).filter (Jcw c k)).length : Nat) : Int) else 0)
 | 0 => by rw [if_neg (by omega)]; simp [allF]
 | n + 1 => by
   rw [allF, J2g, Joo (n := n), J2h]
   by_cases e : n + 1 = k
   . subst e
     rw [if_neg (by omega), if_pos rfl, if_pos (by omega)]; omega
   . rw [if_neg e]
     by_cases h : 1 <= k /\ k <= n
     . rw [if_pos h, if_pos (by omega)]; omega
     . rw [if_neg h, if_neg (by omega)]; omega
theorem J4r {c : Circuit} : ∀ {n : Nat}, n <= 7 -> ∀ f ∈ allF c n, 0 <= f.kind /\ f.kind < 8
 | 0, _, f, h => by
   unfold allF Jdo at h
   split at h
   . cases h
   . rw [List.mem_singleton.1 h]; simp
 | n + 1, hn, f, h => by
   rw [allF] at h
   rcases List.mem_append.1 h with h | h
   . exact J4r (by omega) f h
   . unfold Jbi at h
     obtain ⟨p, _, rfl⟩ := List.mem_map.1 h
     simp; omega
theorem J7z {c : Circuit} {old new : Txt} (h : rnmE c old new = 0) : supB (rnmC c old new) = supB c := by
 have h1 := (J7x h).2
 unfold supB
 rw [h1]
 congr 1
 rw [Bool.eq_iff_iff, List.any_eq_true, List.any_eq_true]
 constructor
 . rintro ⟨q, hq, e⟩
   obtain ⟨p, hp, rfl⟩ := (Jmz h).1 hq
   exact ⟨p, hp, e⟩
 . rintro ⟨p, hp, e⟩
   exact ⟨_, (Jmz h).2 ⟨p, hp, rfl⟩, e⟩
theorem Kce {c : Circuit} {old new : Txt} (h : rnmE c old new = 0) (k : Nat) : cntF (Jf8 (rnmC c old new)) k = cntF (Jf8 c) k := by
 have I := Jxb h
 unfold Jf8
 rw [Joo, Joo, I.cnt k]
 congr 1
 unfold Jdo
 rw [J7z h]
def kntL (l : List Fnd) : List Int := (List.range 8).map (cntF l)
theorem Jl2 {l : List Fnd} : (kntL l).length = 8 := by simp [kntL]
theorem Jpf {l : List Fnd} {k : Nat} (h : k < 8) : (kntL l)[k]? = some (cntF l k) := by simp [kntL, h]
theorem J2j {l : List Fnd} {j : Nat} {f : Fnd} (e : l[j]? = some f) (k : Nat) : cntF (l.take (j + 1)) k = cntF (l.take j) k + if f.kind = (k : Int) then 1 else 0 := by
 unfold cntF
 rw [Joy e, List.length_append]
 by_cases h : f.kind = (k : Int)
 . rw [if_pos h, if_pos (by simpa using h)]; simp
 . rw [if_neg h, if_neg (by simpa using h)]; simp
theorem J4t {l : List Fnd} {j : Nat} {f : Fnd} (e : l[j]? = some f) {k : Nat} (hk : f.kind = (k : Int)) (h8 : k < 8) : kntL (l.take (j + 1)) = (kntL (l.take j)).set k (cntF (l.take j) k + 1) := by
 refine List.ext_getElem? fun i => ?_
 by_cases hi : i < 8
 . rw [Jpf hi, J2j e]
   by_cases h2 : k = i
   . subst h2
     rw [List.getElem?_set_self (by rw [Jl2]; exact hi), if_pos hk]
   . rw [List.getElem?_set_ne h2, Jpf hi, if_neg (by omega)]; simp
 . rw [List.getElem?_eq_none (by rw [Jl2]; omega), List.getElem?_eq_none (by rw [List.length_set, Jl2]; omega)]
theorem J4s : kntL [] = [0, 0, 0, 0, 0, 0, 0, 0] := rfl
theorem J2u {c : Circuit} {i : Int} {v : Int} {b : Bool} (h : Jdd c i = some (v, b)) : ∃ (j : Nat) (q : Part), v = j /\ c.parts[j]? = some q := by
 unfold Jdd at h
 split at h
 . rename_i x y e1 e2
   split at h
   . cases h
   . split at h
     . cases h
       have ma : x ∈ allP c := (Jot (i := i) (s := [50]) (by rw [e1]; simp)).2.1
       obtain ⟨j, q, f1, f2, _⟩ := Jhc ma
       exact ⟨j, q, f1, f2⟩
     . cases h
 . cases h
theorem Kcd {c : Circuit} {old new : Txt} (h : rnmE c old new = 0) {i : Nat} {p : Part} (e : c.parts[i]? = some p) :
   Jbm (rnmC c old new) (Jam c old new p.name) = Jbm c p.name /\ (Jbx (rnmC c old new) (Jam c old new p.name)).2 = (Jbx c p.name).2 /\
   (Jbm c p.name = 0 -> ∃ (j k : Nat) (q : Part), (Jbx c p.name).1 = j /\ c.parts[j]? = some q /\ (Jbx (rnmC c old new) (Jam c old new p.name)).1 = k /\ (rnmC c old new).parts[k]? = some (Jbr (Jam c old new) q)) := by
 have I := Jxb h
 have h1 : Jd4 c p.name = i := Jpu I.hc e
 obtain ⟨j, ej, eq⟩ := Jgl h e
 have h2 : Jd4 (rnmC c old new) (Jam c old new p.name) = j := Jpu I.hd eq
 have k1 : Jas c (i : Int) = p.kind := by rw [Jas, Int.toNat_natCast, e]; rfl
 have k2 : Jas (rnmC c old new) (j : Int) = p.kind := by rw [Jas, Int.toNat_natCast, eq]; rfl
 have E1 : Jbm c p.name = if p.kind ≠ 1 then 1 else if (Jdd c i).isNone then 14 else 0 := by
   unfold Jbm
   rw [if_neg (by simpa using I.hc), h1, if_neg (by omega), k1]
 have E2 : Jbm (rnmC c old new) (Jam c old new p.name) = if p.kind ≠ 1 then 1 else if (Jdd (rnmC c old new) j).isNone then 14 else 0 := by
   unfold Jbm
   rw [if_neg (by simpa using I.hd), h2, if_neg (by omega), k2]
 by_cases hk : p.kind = 1
 . have hd := I.drv e hk
   rw [ej] at hd
   rw [if_neg (by simpa using hk)] at E1 E2
   have R1 : Jbx c p.name = if Jbm c p.name ≠ 0 then (0, false) else (Jdd c i).getD (0, false) := by unfold Jbx; rw [h1]
   have R2 : Jbx (rnmC c old new) (Jam c old new p.name) = if Jbm (rnmC c old new) (Jam c old new p.name) ≠ 0 then (0, false) else (Jdd (rnmC c old new) j).getD (0, false) := by unfold Jbx; rw [h2]
   cases ho : Jdd c (i : Int) with
   | none =>
     rw [ho] at hd E1
     rw [hd] at E2
     have E1' : Jbm c p.name = 14 := E1
     have E2' : Jbm (rnmC c old new) (Jam c old new p.name) = 14 := E2
     rw [E1', if_pos (by decide)] at R1
     rw [E2', if_pos (by decide)] at R2
     exact ⟨by rw [E1', E2'], by rw [R1, R2], fun h0 => by rw [E1'] at h0; cases h0⟩
   | some r =>
     obtain ⟨v, b⟩ := r
     rw [ho] at hd E1 R1
     rw [hd] at E2 R2
     have E1' : Jbm c p.name = 0 := E1
     have E2' : Jbm (rnmC c old new) (Jam c old new p.name) = 0 := E2
     rw [E1', if_neg (by decide)] at R1
     rw [E2', if_neg (by decide)] at R2
     refine ⟨by rw [E1', E2'], by rw [R1, R2]; rfl, fun _ => ?_⟩
     obtain ⟨a, q, f1, f2⟩ := J2u ho
     obtain ⟨k, g1, g2⟩ := Jgl h f2
     refine ⟨a, k, q, by rw [R1]; exact f1, f2, ?_, g2⟩
     rw [R2]
     show renG c old new v = k
     rw [f1]; exact g1
 . rw [if_pos hk] at E1 E2
   have R1 : Jbx c p.name = (0, false) := by unfold Jbx; rw [E1, if_pos (by decide)]
   have R2 : Jbx (rnmC c old new) (Jam c old new p.name) = (0, false) := by unfold Jbx; rw [E2, if_pos (by decide)]
   exact ⟨by rw [E1, E2], by rw [R1, R2], fun h0 => by rw [E1] at h0; cases h0⟩
end Go.Am
