/- Lemmas and contracts for the proof of a statement of this seat. -/
import Derived.Test.YtmfjjncfdpejiaaGreatDoorZCE
import Derived.Test.YtmfjjncfdpejiaaGreatDoorZA6
set_option linter.unusedVariables false
set_option linter.unusedSimpArgs false
namespace Go.Am
open Go Go.Proofs Go.Pn
def prA (es : List (Port × Nat)) : List (AV × AV) := es.map fun e => (e.1.av, .p (.int .i64 (e.2 : Nat)))
def Jcx : List (Port × Nat) -> Port -> Option Nat
 | [], _ => none
 | (a, n) :: es, p => if a = p then some n else Jcx es p
theorem Jq3 {p : Port} {n : Nat} : ∀ {es : List (Port × Nat)}, Jcx es p = some n -> (p, n) ∈ es
 | [], h => by cases h
 | (a, m) :: es, h => by
   simp only [Jcx] at h
   split at h
   . rename_i e; cases h; subst e; simp
   . exact List.mem_cons_of_mem _ (Jq3 h)
theorem Jnj {p : Port} {n : Nat} : ∀ {es : List (Port × Nat)}, (p, n) ∈ es -> Jcx es p ≠ none
 | [], h => by cases h
 | (a, m) :: es, h => by
   simp only [Jcx]
   split
   . simp
   . rename_i e
     rcases List.mem_cons.1 h with h | h
     . cases h; exact absurd rfl e
     . exact Jnj h
theorem J3z {es : List (Port × Nat)} {p : Port} : Jak (prA es) p.av = (Jcx es p).map fun (n : Nat) => AV.p (.int .i64 n) := by
 induction es with
 | nil => simp [prA, Jak, Jcx]
 | cons e es ih =>
   obtain ⟨a, b⟩ := e
   simp only [prA, List.map_cons, Jcx] at ih ⊢
   by_cases h : a = p
   . subst h
     simp [Jak]
   . have hne : a.av ≠ p.av := fun h2 => h (Jgz h2)
     rw [if_neg h, <- ih]
     unfold Jak
     rw [List.find?_cons_of_neg (by simpa using hne)]
theorem Ka6 {es : List (Port × Nat)} {i : Int} {s : Txt} : (Jak (prA es) (.agg [.p (.int .i64 i), .p (.str s)])) = (Jcx es ⟨i, s⟩).map fun (n : Nat) => AV.p (.int .i64 n) := J3z (p := ⟨i, s⟩)
@[simp] theorem Ki9 {es : List (Port × Nat)} {i : Int} {s : Txt} : Jb0 Tryz.prog 55 (prA es) (.agg [.p (.int .i64 i), .p (.str s)]) = True := eq_true (Jrh (f := Prod.fst) (p := ⟨i, s⟩))
theorem Kf0 {es : List (Port × Nat)} {p : Port} {n : Nat} (h : Jcx es p = none) : setA (prA es) (.agg [.p (.int .i64 p.part), .p (.str p.name)]) (.p (.int .i64 n)) = prA (es ++ [(p, n)]) := by
 rw [Jka]
 . simp [prA]
 . intro e he
   obtain ⟨q, hq, rfl⟩ := List.mem_map.1 he
   intro h2
   have : q.1 = p := Jgz h2
   exact Jnj (n := q.2) (by rw [<- this]; exact hq) h
theorem Jbs {ρ : List Nat} {es : List (Port × Nat)} : renE ρ (prA es) = some (prA es) := by
 unfold prA
 induction es with
 | nil => rfl
 | cons e es ih => simp only [List.map_cons, renE, ih]; rfl
def Jc2 (c : Circuit) : Nat -> List (Port × Nat)
 | 0 => []
 | k + 1 => Jc2 c k ++ match (nets c)[k]? with | some g => g.map (·, k) | none => []
def pairs (c : Circuit) : List (Port × Nat) := Jc2 c (nets c).length
def Je4 (c : Circuit) (k : Nat) (g : List Port) (j : Nat) : List (Port × Nat) := Jc2 c k ++ (g.take j).map (·, k)
theorem Jz2 {c : Circuit} {k : Nat} {g : List Port} : Je4 c k g 0 = Jc2 c k := by simp [Je4]
theorem Jz1 {c : Circuit} {k j : Nat} {g : List Port} {p : Port} (e : g[j]? = some p) : Je4 c k g (j + 1) = Je4 c k g j ++ [(p, k)] := by
 unfold Je4
 rw [take_snoc e]; simp
theorem Jz0 {c : Circuit} {k : Nat} {g : List Port} (e : (nets c)[k]? = some g) : Je4 c k g g.length = Jc2 c (k + 1) := by
 simp only [Je4, Jc2, e, List.take_length]
theorem Jlk {c : Circuit} {p : Port} {n : Nat} : ∀ {k : Nat}, (p, n) ∈ Jc2 c k ↔ n < k /\ ∃ g, (nets c)[n]? = some g /\ p ∈ g
 | 0 => by simp [Jc2]
 | k + 1 => by
   simp only [Jc2, List.mem_append]
   rw [Jlk (k := k)]
   constructor
   . rintro (⟨h1, h2⟩ | h)
     . exact ⟨by omega, h2⟩
     . split at h
       . rename_i g e
         obtain ⟨q, hq, hh⟩ := List.mem_map.1 h
         cases hh
         exact ⟨by omega, g, e, hq⟩
       . cases h
   . rintro ⟨h1, g, e, hp⟩
     by_cases hn : n = k
     . subst hn
       right
       rw [e]
       exact List.mem_map.2 ⟨p, hp, rfl⟩
     . exact .inl ⟨by omega, g, e, hp⟩
theorem Jzc {c : Circuit} (h : Jad c = 0) {g : List Port} (hg : g ∈ nets c) : g.Nodup := by
 rw [Jlh h] at hg
 obtain ⟨r, _, rfl⟩ := List.mem_map.1 hg
 exact (Jp2 (Jbg h).1).filter _
theorem Jz3 {c : Circuit} (h : Jad c = 0) {k j : Nat} {g : List Port} {p : Port} (eg : (nets c)[k]? = some g) (e : g[j]? = some p) : Jcx (Je4 c k g j) p = none := by
 cases hf : Jcx (Je4 c k g j) p with
 | none => rfl
 | some n =>
   exfalso
   have hm := Jq3 hf
   unfold Je4 at hm
   rcases List.mem_append.1 hm with hm | hm
   . obtain ⟨hn, g', e', hp⟩ := Jlk.1 hm
     have h1 := (Jlg h e' hp).1
     have h2 := (Jlg h eg (List.mem_of_getElem? e)).1
     omega
   . obtain ⟨q, hq, hh⟩ := List.mem_map.1 hm
     cases hh
     obtain ⟨i, hi, ei⟩ := List.getElem_of_mem hq
     have hi2 : i < j := by simp at hi; omega
     have : g[i]? = some p := by
       rw [<- List.getElem?_take_of_lt hi2, List.getElem?_eq_getElem hi, ei]
     have := Jze (Jzc h (List.mem_of_getElem? eg)) this e
     omega
theorem Jw1 {c : Circuit} (h : Jad c = 0) {i : Int} {s : Txt} (hp : (⟨i, s⟩ : Port) ∈ allP c) : Jcx (pairs c) ⟨i, s⟩ = some (netN c i s) := by
 obtain ⟨g, e, hg⟩ := Jy9 h hp
 have hlt := (Jd7 h hp).2
 have hm : ((⟨i, s⟩ : Port), netN c i s) ∈ pairs c := Jlk.2 ⟨hlt, g, e, hg⟩
 cases hf : Jcx (pairs c) ⟨i, s⟩ with
 | none => exact absurd hf (Jnj hm)
 | some n =>
   obtain ⟨_, g', e', hp'⟩ := Jlk.1 (Jq3 hf)
   rw [Kbz h e' hp']
def Jbw (c : Circuit) (mb : Nat) : List AV := [.p (.lst 3 (c.parts.map Part.enc)), .p (.lst 4 (c.pipes.map Pipe.enc)), .p (.int .i64 (nets c).length), .map mb]
theorem Jjd (c : Circuit) (hc : Jad c = 0) (i : Int) (t : Txt) (hp : (⟨i, t⟩ : Port) ∈ allP c) (b mb : Nat) (s : Store) (nx : Nat) (hb : b < nx) (hm : mb < nx) (hne : b ≠ mb) (hg : get s b = some (.cells 4 [Jbw c mb])) (hgm : get s mb = some (.map (prA (pairs c)))) :
   Gives Tryz.prog GL 191 [.ptr b 4 0 0, .p (.int .i64 i), .p (.str t)] s nx (.p (.int .i64 (netN c i t))) [b, mb] [] nx := by
 have hf := Jw1 hc hp
 refine Gives.mk_walkK (N := 15) (args := [.ptr 0 4 0 0, .p (.int .i64 i), .p (.str t)]) [b, mb] [] [(0, some (.cells 4 [Jbw c 1])), (1, some (.map (prA (pairs c))))] [] 2 0 (.p (.int .i64 (netN c i t))) (fun _ => []) (up1 := []) Tryz.func191 rfl rfl rfl (by simp) rfl (by simp [hg, hb, hm, hne, hgm, Jbs, Jbw]; intro q hq; match q, hq with | 0, _ => simp | 1, _ => simp) (by simp) (by simp) (by simp) (by simp) rfl ?_
 simp [Jbw]
 rw [Ka6, hf]
 simp [hit, Jbs]
 decide
theorem g_of (c : Circuit) (l : List Int) (hs : Sized c) (hl : l.length < 4611686018427387904) (h : Jam c l = 0) (s : Store) (nx : Nat) :
   Gives Tryz.prog GL 124 [c.av, Ints.av l] s nx (.tup [.ptr nx 4 0 0, .p (.int .i64 0)]) [] [(nx, some (.cells 4 [Jbw c (nx + 1)])), (nx + 1, some (.map (prA (pairs c))))] (nx + 2) := by
 have hc := (Jeg h).1
 have hnl := Jjn hc
 refine Gives.mk_walkK (N := 56) (args := [c.av, Ints.av l]) [] [] [] [(0, some (.cells 4 [Jbw c 1])), (1, some (.map (prA (pairs c))))] 0 2 (.tup [.ptr 0 4 0 0, .p (.int .i64 0)]) (fun _ => [2, 1]) (up1 := [(nx, some (.cells 4 [Jbw c (nx + 1)])), (nx + 1, some (.map (prA (pairs c))))]) Tryz.func124 rfl rfl rfl (by simp) rfl (by simp) (by simp) (by simp) (by simp [Jbw, Jbs]) (by simp) rfl ?_
 simp
 refine Jab (Jv1 c l hs hl) ?_
 simp [h]
 refine Jab (Jve c hs) ?_
 simp [hc]
 refine Jag.go [9, 34, 35] [0, 2] 0 [] (fun _ => []) (fun _ (k : Nat) => [(36, .p (.int .i64 k))]) (fun _ k => [(1, some (.map (prA (Jc2 c k))))]) (fun k => k <= (nets c).length) (fun k => (nets c).length - k) 0 (by omega) ?_ ?_
 . simp [Jc2, prA]
   try decide
 . intro k hk
   simp
   refine Jac (fun h3 => ?_) (fun h3 => ?_)
   . simp at h3
     obtain ⟨g, eg⟩ := Jae h3
     have hgl := hnl.2 g (List.mem_of_getElem? eg)
     have hall := Jz0 eg
     simp [h3, eg, Ports.enc, -getElem?_pos, List.getElem?_cons_zero, List.getElem?_cons_succ]
     refine Jag.go [9, 10, 34, 35, 36, 41, 42] [0, 2] 0 [] (fun _ => []) (fun _ (j : Nat) => [(43, .p (.int .i64 j))]) (fun _ j => [(1, some (.map (prA (Je4 c k g j))))]) (fun j => j <= g.length) (fun j => g.length - j) 0 (by omega) ?_ ?_
     . simp [Jz2, Jbs]
       try decide
     . intro j hj
       simp
       refine Jac (fun h4 => ?_) (fun h4 => ?_)
       . simp at h4
         obtain ⟨p, ep⟩ := Jae h4
         have hfr := Jz3 hc eg ep
         have hsn := Jz1 (c := c) (k := k) ep
         have hset := Kf0 (n := k) hfr
         simp [h4, ep, -getElem?_pos, List.getElem?_cons_zero, List.getElem?_cons_succ]
         refine Jaj.intro (by kernel_rfl) ?_
         simp
         refine ⟨.of (by kernel_rfl), ?_⟩
         refine ⟨wrap_i64 (by omega) (by omega), j + 1, by omega, by omega, ?_⟩
         simp [hset, hsn, Jbs]
         try decide
       . simp at h4
         have hjl : j = g.length := by omega
         subst hjl
         simp
         refine ⟨wrap_i64 (by omega) (by omega), k + 1, by omega, by omega, ?_⟩
         simp [hall, Jbs]
         try decide
   . simp at h3
     have hkl : k = (nets c).length := by omega
     subst hkl
     have hpe : Jc2 c (nets c).length = pairs c := rfl
     rw [hpe]
     simp [Jbw, Jbs]
     try decide
theorem Jv4 (c : Circuit) (l : List Int) (hs : Sized c) (hl : l.length < 4611686018427387904) (h : Jam c l ≠ 0) : Pure Tryz.prog GL 124 [c.av, Ints.av l] (.tup [.nilp, .p (.int .i64 (Jam c l))]) := by
 refine Pure.of_walk (N := 56) Tryz.func124 rfl rfl rfl (by simp) (by first | (simp; done) | simp [*]) ?_
 simp
 refine Jab (Jv1 c l hs hl) ?_
 simp [h]
 simp [Jaa]
end Go.Am
namespace Go.Am
open Go Go.Proofs Go.Pn
def Jbp (l : List Nat) : List Int := l.map fun (n : Nat) => (n : Int)
@[simp] def Psg.enc (y : Psg) : List PV := [.int .i64 y.part, .int .i64 y.to, .lst 1 ((Jbp y.fr).map Int.enc), .bool y.all]
@[simp] def Psg.row (y : Psg) : List AV := [.p (.int .i64 y.part), .p (.int .i64 y.to), .p (.lst 1 ((Jbp y.fr).map Int.enc)), .p (.bool y.all)]
@[simp] def Psg.av (y : Psg) : AV := .agg [.p (.int .i64 y.part), .p (.int .i64 y.to), .p (.lst 1 ((Jbp y.fr).map Int.enc)), .p (.bool y.all)]
@[simp] theorem Kkv {l : List Psg} : unpR (l.map Psg.row) = some (l.map Psg.enc) := Jtp (f := Psg.row) (g := Psg.enc) (fun _ => rfl) l
def isSt (S : List Int) (v : Int) (n : Nat) : Bool := decide (S[n]? = some v)
theorem Jrd {S : List Int} {v x : Int} {n : Nat} (e : S[n]? = some x) : isSt S v n = decide (x = v) := by simp [isSt, e, -getElem?_pos]
theorem Jv3 (S : List Int) (n : Nat) (hn : n < S.length) : Pure Tryz.prog GL 265 [.p (.int .i64 n), .iptr 1 [[.lst 1 (S.map Int.enc)]] 0 0] (.p (.bool (isSt S 2 n))) := by
 refine Pure.of_walk (N := 9) Tryz.func265 rfl rfl rfl (by simp) (by first | (simp; done) | simp [*]) ?_
 obtain ⟨x, e⟩ := Jae hn
 rw [Jrd e]
 simp
 simp [hn, e, -getElem?_pos, List.getElem?_cons_zero, List.getElem?_cons_succ]
 simp [Jaa]
theorem J8v (S : List Int) (n : Nat) (hn : n < S.length) (b d : Nat) (s : Store) (nx : Nat) (hb : b < nx) (hd : d < nx) (hne : d ≠ b) (hg : get s b = some (.cells 1 [[.fn (.func 265) [.ptr d 1 0 0]]])) (hgd : get s d = some (.cells 1 [[.p (.lst 1 (S.map Int.enc))]])) :
   Gives Tryz.prog GL 266 [.p (.int .i64 n), .ptr b 1 0 0] s nx (.p (.bool (!isSt S 2 n))) [d, b] [] nx := by
 refine Gives.mk_walkK (N := 8) (args := [.p (.int .i64 n), .ptr 1 1 0 0]) [d, b] [] [(0, some (.cells 1 [[.p (.lst 1 (S.map Int.enc))]])), (1, some (.cells 1 [[.fn (.func 265) [.ptr 0 1 0 0]]]))] [] 2 0 (.p (.bool (!isSt S 2 n))) (fun _ => []) (up1 := []) Tryz.func266 rfl rfl rfl (by simp) rfl (by simp [hg, hb, hd, hne, hgd]; intro q hq; match q, hq with | 0, _ => simp | 1, _ => simp) (by simp) (by simp) (by simp) (by simp) rfl ?_
 simp
 refine Jcv ?_
 simp
 refine ⟨_, Jv3 S n hn, rfl, ?_⟩
 simp
 try decide
theorem J8i (S : List Int) (xs : List Nat) (hx : ∀ n ∈ xs, n < S.length) (hl : xs.length < 4611686018427387904) (b d : Nat) (s : Store) (nx : Nat) (hb : b < nx) (hd : d < nx) (hne : d ≠ b) (hg : get s b = some (.cells 1 [[.fn (.func 265) [.ptr d 1 0 0]]])) (hgd : get s d = some (.cells 1 [[.p (.lst 1 (S.map Int.enc))]])) :
   Gives Tryz.prog GL 268 [.p (.lst 1 ((Jbp xs).map Int.enc)), .fn (.func 266) [.ptr b 1 0 0]] s nx (.p (.int .i64 (idxI xs fun n => !isSt S 2 n))) [d, b] [] nx := by
 have hnl : (Jbp xs).length = xs.length := by simp [Jbp]
 refine Gives.mk_walkK (N := 19) (args := [.p (.lst 1 ((Jbp xs).map Int.enc)), .fn (.func 266) [.ptr 1 1 0 0]]) [d, b] [] [(0, some (.cells 1 [[.p (.lst 1 (S.map Int.enc))]])), (1, some (.cells 1 [[.fn (.func 265) [.ptr 0 1 0 0]]]))] [] 2 0 (.p (.int .i64 (idxI xs fun n => !isSt S 2 n))) (fun _ => []) (up1 := []) Tryz.func268 rfl rfl rfl (by simp) rfl (by simp [hg, hb, hd, hne, hgd]; intro q hq; match q, hq with | 0, _ => simp | 1, _ => simp) (by simp) (by simp) (by simp) (by simp) rfl ?_
 simp [hnl]
 refine Jag.go [0, 1, 7] [0, 1] 0 [] (fun _ => []) (fun _ (k : Nat) => [(8, .p (.int .i64 k))]) (fun _ _ => []) (fun k => k <= xs.length /\ ∀ (j : Nat) x, j < k -> xs[j]? = some x -> (!isSt S 2 x) = false) (fun k => xs.length - k) 0 ⟨by omega, fun j b h => by omega⟩ ?_ ?_
 . simp
   try decide
 . rintro k ⟨hk, hp⟩
   simp
   refine Jac (fun h => ?_) (fun h => ?_)
   . simp at h
     obtain ⟨x, e⟩ := Jae h
     have e2 : (Jbp xs)[k]? = some (x : Int) := by simp [Jbp, e, -getElem?_pos]
     have hk2 : k < (Jbp xs).length := by omega
     simp [hk2, e2, -getElem?_pos, List.getElem?_cons_zero, List.getElem?_cons_succ]
     refine Jaw (J8v S x (hx x (List.mem_of_getElem? e)) 1 0 _ _ (by simp) (by simp) (by simp) (by simp) (by simp)) ?_
     simp
     refine Jac (fun h2 => ?_) (fun h2 => ?_)
     . simp [Jaa, Jez (q := fun n => !isSt S 2 n) e (by simpa using h2) hp]
       try decide
     . simp
       refine ⟨wrap_i64 (by omega) (by omega), k + 1, ⟨by omega, by simpa using Jd1 (P := fun n => (!isSt S 2 n) = false) hp e (by simpa using h2)⟩, by omega, ?_⟩
       simp
       try decide
   . simp at h
     have hk2 : k = xs.length := by omega
     subst hk2
     simp [Jaa, Je0 (q := fun n => !isSt S 2 n) (Jef hp)]
     try decide
theorem J8c (S : List Int) (xs : List Nat) (hx : ∀ n ∈ xs, n < S.length) (hl : xs.length < 4611686018427387904) (b d : Nat) (s : Store) (nx : Nat) (hb : b < nx) (hd : d < nx) (hne : d ≠ b) (hg : get s b = some (.cells 1 [[.fn (.func 265) [.ptr d 1 0 0]]])) (hgd : get s d = some (.cells 1 [[.p (.lst 1 (S.map Int.enc))]])) :
   Gives Tryz.prog GL 210 [.p (.lst 1 ((Jbp xs).map Int.enc)), .fn (.func 266) [.ptr b 1 0 0]] s nx (.p (.bool (xs.any fun n => !isSt S 2 n))) [d, b] [] nx := by
 refine Gives.mk_walkK (N := 9) (args := [.p (.lst 1 ((Jbp xs).map Int.enc)), .fn (.func 266) [.ptr 1 1 0 0]]) [d, b] [] [(0, some (.cells 1 [[.p (.lst 1 (S.map Int.enc))]])), (1, some (.cells 1 [[.fn (.func 265) [.ptr 0 1 0 0]]]))] [] 2 0 (.p (.bool (xs.any fun n => !isSt S 2 n))) (fun _ => []) (up1 := []) Tryz.func210 rfl rfl rfl (by simp) rfl (by simp [hg, hb, hd, hne, hgd]; intro q hq; match q, hq with | 0, _ => simp | 1, _ => simp) (by simp) (by simp) (by simp) (by simp) rfl ?_
 simp
 refine Jaw (J8i S xs hx hl 1 0 _ _ (by simp) (by simp) (by simp) (by simp) (by simp)) ?_
 have hq : decide ((0 : Int) <= idxI xs fun n => !isSt S 2 n) = xs.any (fun n => !isSt S 2 n) := by rw [Bool.eq_iff_iff]; simp [Jh9]
 simp [hq]
 try decide
theorem J58 (S : List Int) (y : Psg) (hx : ∀ n ∈ y.fr, n < S.length) (hl : y.fr.length < 4611686018427387904) : Pure Tryz.prog GL 207 [.p (.lst 1 (S.map Int.enc)), y.av] (.p (.bool (Jcr (isSt S 2) y))) := by
 refine Pure.of_walk (N := 18) Tryz.func207 rfl rfl rfl (by simp) (by first | (simp; done) | simp [*]) ?_
 simp
 refine Jac (fun h => ?_) (fun h => ?_)
 . simp
   refine Jaw (J8c S y.fr hx hl 2 0 _ _ (by simp) (by simp) (by simp) (by simp) (by simp)) ?_
   simp [Jaa, Jcr, h]
   rw [List.any_eq_not_all_not]
   simp
 . simp
   refine Jcv ?_
   simp
   have hcl : ∀ n ∈ Jbp y.fr, Pure Tryz.prog GL 265 (Int.av n :: [.iptr 1 [[.lst 1 (S.map Int.enc)]] 0 0]) (.p (.bool (decide (S[n.toNat]? = some 2)))) := fun n hn => by
     obtain ⟨m, hm, rfl⟩ := List.mem_map.1 hn
     simpa [isSt] using Jv3 S m (hx m hm)
   refine ⟨_, J36 (Jbp y.fr) (fun n => decide (S[n.toNat]? = some 2)) 265 [.iptr 1 [[.lst 1 (S.map Int.enc)]] 0 0] (by simp) (by simpa [Jbp] using hl) hcl, rfl, ?_⟩
   simp [Jaa, Jcr, h, isSt, Jbp, List.any_map, Function.comp_def]
   rfl
end Go.Am
namespace Go.Am
open Go Go.Proofs Go.Pn
@[simp] theorem Kjm : (List.range 2)[0]? = some 0 := rfl
@[simp] theorem Kjn : (List.range 2)[1]? = some 1 := rfl
@[simp] theorem Kjp : (List.range 3)[0]? = some 0 := rfl
@[simp] theorem Kjq : (List.range 3)[1]? = some 1 := rfl
@[simp] theorem Kjr : (List.range 3)[2]? = some 2 := rfl
@[simp] theorem Kjo : (List.range 2).Nodup := List.nodup_range
@[simp] theorem Kjs : (List.range 3).Nodup := List.nodup_range
def Jcb (q : List Int -> Psg -> Bool) (v : Int) (S : List Int) (y : Psg) : List Int := if S[y.to]? = some 0 /\ q S y = true then S.set y.to v else S
def Jkz (q : List Int -> Psg -> Bool) (v : Int) (l : List Psg) (S : List Int) : List Int := l.foldl (Jcb q v) S
def Jew (S : List Int) : Nat := S.countP fun x => decide (x = 0)
def cFin (q : List Int -> Psg -> Bool) (v : Int) (l : List Psg) : Nat -> List Int -> List Int
 | 0, S => S
 | k + 1, S => if Jkz q v l S = S then S else cFin q v l k (Jkz q v l S)
def Jeh (q : List Int -> Psg -> Bool) (v : Int) (l : List Psg) (S : List Int) : List Int := cFin q v l (Jew S + 1) S
theorem Ju6 {q v S y} (h : ¬(S[y.to]? = some 0 /\ q S y = true)) : Jcb q v S y = S := if_neg h
theorem Ju7 {q v S} {y : Psg} (h : S[y.to]? = some 0) (h2 : q S y = true) : Jcb q v S y = S.set y.to v := if_pos ⟨h, h2⟩
theorem J29 {S : List Int} {n : Nat} {v : Int} (hv : v ≠ 0) (h : S[n]? = some 0) : Jew (S.set n v) < Jew S := by
 unfold Jew
 obtain ⟨hn, e⟩ := gsI.1 h
 rw [List.countP_set hn]
 have h1 : 0 < S.countP fun x => decide (x = 0) := List.countP_pos_iff.2 ⟨0, List.mem_of_getElem? h, by simp⟩
 simp [e, hv]
 omega
theorem Jqb {q} {v : Int} {S y} (hv : v ≠ 0) : Jew (Jcb q v S y) < Jew S \/ Jcb q v S y = S := by
 unfold Jcb
 split
 . rename_i h
   exact .inl (J29 hv h.1)
 . exact .inr rfl
inductive CReach (q : List Int -> Psg -> Bool) (v : Int) (l : List Psg) (S : List Int) : List Int -> Prop
 | refl : CReach q v l S S
 | step {R : List Int} {y : Psg} (h : CReach q v l S R) (hm : y ∈ l) (h0 : R[y.to]? = some 0) (hq : q R y = true) : CReach q v l S (R.set y.to v)
theorem CReach.trans {q v l S R T} (h : CReach q v l S R) (k : CReach q v l R T) : CReach q v l S T := by
 induction k with
 | refl => exact h
 | step _ hm h0 hq ih => exact .step ih hm h0 hq
theorem CReach.one {q v l S} {y : Psg} (hm : y ∈ l) : CReach q v l S (Jcb q v S y) := by
 unfold Jcb
 split
 . rename_i h
   exact .step .refl hm h.1 h.2
 . exact .refl
theorem CReach.fold {q v l} : ∀ {l' : List Psg} {S : List Int}, (∀ y ∈ l', y ∈ l) -> CReach q v l S (l'.foldl (Jcb q v) S)
 | [], S, _ => .refl
 | y :: l', S, h => (CReach.one (h y (by simp))).trans (CReach.fold fun z hz => h z (by simp [hz]))
theorem Ju4 {q v l} : ∀ {k : Nat} {S : List Int}, CReach q v l S (cFin q v l k S)
 | 0, S => .refl
 | k + 1, S => by
   unfold cFin
   split
   . exact .refl
   . exact (CReach.fold fun _ h => h).trans Ju4
theorem Jq5 {q} {v : Int} (hv : v ≠ 0) : ∀ {l : List Psg} {S : List Int}, Jew (l.foldl (Jcb q v) S) < Jew S \/ l.foldl (Jcb q v) S = S
 | [], S => .inr rfl
 | y :: l, S => by
   rw [List.foldl_cons]
   rcases Jq5 (q := q) hv (l := l) (S := Jcb q v S y) with h | h
   . rcases Jqb (q := q) (S := S) (y := y) hv with k | k
     . exact .inl (by omega)
     . rw [k] at h ⊢; exact .inl h
   . rw [h]; exact Jqb hv
theorem Jw2 {q} {v : Int} (hv : v ≠ 0) : ∀ {l : List Psg} {S : List Int}, l.foldl (Jcb q v) S = S -> ∀ y ∈ l, Jcb q v S y = S
 | [], S, _, y, hy => by cases hy
 | z :: l, S, h, y, hy => by
   rw [List.foldl_cons] at h
   have hz : Jcb q v S z = S := by
     rcases Jqb (q := q) (S := S) (y := z) hv with k | k
     . rcases Jq5 (q := q) hv (l := l) (S := Jcb q v S z) with j | j
       . rw [h] at j; omega
       . rw [h] at j; rw [<- j] at k; omega
     . exact k
   rw [hz] at h
   rcases List.mem_cons.1 hy with rfl | hy
   . exact hz
   . exact Jw2 hv h y hy
theorem Ju5 {q} {v : Int} {l : List Psg} (hv : v ≠ 0) : ∀ {k : Nat} {S : List Int}, Jew S < k -> Jkz q v l (cFin q v l k S) = cFin q v l k S
 | 0, S, h => by omega
 | k + 1, S, h => by
   unfold cFin
   split
   . assumption
   . rename_i hne
     refine Ju5 hv ?_
     rcases Jq5 (q := q) hv (l := l) (S := S) with j | j
     . unfold Jkz; omega
     . exact absurd j hne
theorem Ji8 {q v l S} : CReach q v l S (Jeh q v l S) := Ju4
theorem Jwc {q} {v : Int} {l S} (hv : v ≠ 0) : ∀ y ∈ l, Jcb q v (Jeh q v l S) y = Jeh q v l S :=
 Jw2 hv (Ju5 hv (by omega))
theorem CReach.len {q v l S R} (h : CReach q v l S R) : R.length = S.length := by
 induction h with
 | refl => rfl
 | step _ _ _ _ ih => simp [ih]
theorem Jwb {q v l S} : (Jeh q v l S).length = S.length := Ji8.len
structure CSt where
 S : List Int
 b : Bool
 n : Nat
def Jpz (N : Nat) (cp : Option Nat) (m : Nat) (q : List Int -> Psg -> Bool) (l : List Psg) : Prop := ∀ (S : List Int) (y : Psg), S.length = N -> y ∈ l -> ∀ (s : Store) (nx bs bo : Nat), bs < nx -> bo < nx -> bs ≠ bo ->
 get s bs = some (.cells 1 (S.map Int.row)) -> get s bo = some (.cells 1 [[.ref bs 1 0 N cp]]) -> Gives Tryz.prog GL m [y.av, .ptr bo 1 0 0] s nx (.p (.bool (q S y))) [bs, bo] [] nx
theorem Jxd (S : List Int) (l : List Psg) (v : Int) (hv : v ≠ 0) (m : Nat) (q : List Int -> Psg -> Bool) (cp : Option Nat) (ht : Jpz S.length cp m q l) (hto : ∀ y ∈ l, y.to < S.length) (hl : l.length < 4611686018427387904)
   (s : Store) (nx bs bo : Nat) (hb : bs < nx) (hd : bo < nx) (hne : bs ≠ bo) (hg : get s bs = some (.cells 1 (S.map Int.row))) (hgd : get s bo = some (.cells 1 [[.ref bs 1 0 S.length cp]])) :
   Gives Tryz.prog GL 205 [.ref bs 1 0 S.length cp, .p (.lst 4 (l.map Psg.enc)), .p (.int .i64 v), .fn (.func m) [.ptr bo 1 0 0]] s nx (.tup []) [bs, bo] [(bs, some (.cells 1 ((Jeh q v l S).map Int.row)))] nx := by
 refine Gives.mk_walkK (N := 35) (args := [.ref 0 1 0 S.length cp, .p (.lst 4 (l.map Psg.enc)), .p (.int .i64 v), .fn (.func m) [.ptr 1 1 0 0]]) [bs, bo] [] [(0, some (.cells 1 (S.map Int.row))), (1, some (.cells 1 [[.ref 0 1 0 S.length cp]]))] [(0, some (.cells 1 ((Jeh q v l S).map Int.row)))] 2 0 (.tup []) (fun _ => []) (up1 := [(bs, some (.cells 1 ((Jeh q v l S).map Int.row)))]) Tryz.func205 rfl rfl rfl (by simp) rfl (by simp [hg, hb, hd, hne, hgd]; intro q hq; match q, hq with | 0, _ => simp | 1, _ => simp) (by simp) (by simp) (by simp) (by simp) rfl ?_
 simp
 refine Jag.go [0, 1, 2, 3] [1] 0 [] (fun _ => []) (fun _ (g : CSt) => [(8, .p (.bool g.b))]) (fun _ g => [(0, some (.cells 1 (g.S.map Int.row)))]) (fun g => g.S.length = S.length /\ (g.b = true -> Jew g.S < g.n) /\ (g.b = true -> cFin q v l g.n g.S = Jeh q v l S) /\ (g.b = false -> g.S = Jeh q v l S)) (fun g => g.n + if g.b = true then 1 else 0) ⟨S, true, Jew S + 1⟩ ⟨rfl, fun _ => by simp, fun _ => rfl, by simp⟩ ?_ ?_
 . simp
   try decide
 . rintro ⟨T, more, k⟩ ⟨hlen, h0, h1, h2⟩
   dsimp only at hlen h0 h1 h2
   simp
   refine Jac (fun h3 => ?_) (fun h3 => ?_)
   . subst h3
     have hz := h0 rfl
     have hfin := h1 rfl
     simp
     refine Jag.go [0, 1, 2, 3, 12, 13] [1] 0 [] (fun _ => []) (fun _ (g : CSt) => [(8, .p (.bool g.b)), (14, .p (.int .i64 g.n))]) (fun _ g => [(0, some (.cells 1 (g.S.map Int.row)))]) (fun g => g.n <= l.length /\ g.S.length = S.length /\ g.S = (l.take g.n).foldl (Jcb q v) T /\ (g.b = true -> Jew g.S < Jew T) /\ (g.b = false -> g.S = T)) (fun g => l.length - g.n) ⟨T, false, 0⟩ ⟨by simp, hlen, by simp, by simp, by simp⟩ ?_ ?_
     . simp
       try decide
     . rintro ⟨U, ch, j⟩ ⟨hj, hUl, hU, hc1, hc2⟩
       dsimp only at hj hUl hU hc1 hc2
       simp
       refine Jac (fun h4 => ?_) (fun h4 => ?_)
       . simp at h4
         obtain ⟨y, ey⟩ := Jae h4
         have hm := List.mem_of_getElem? ey
         have hyt := hto y hm
         obtain ⟨x, ex⟩ := Jae (xs := U) (k := y.to) (by omega)
         simp [h4, ey, Psg.enc, hyt, ex, -getElem?_pos, List.getElem?_cons_zero, List.getElem?_cons_succ]
         have hsn : (l.take (j + 1)).foldl (Jcb q v) T = Jcb q v U y := by rw [foldl_snoc ey, <- hU]
         refine Jac (fun h5 => ?_) (fun h5 => ?_)
         . simp at h5
           subst h5
           simp
           refine Jaw (ht U y hUl hm _ _ 0 1 (by simp) (by simp) (by simp) (by simp) (by simp)) ?_
           simp
           refine Jac (fun h6 => ?_) (fun h6 => ?_)
           . have hon := Ju7 (v := v) ex h6
             have hz2 := J29 hv ex
             simp [h4, ey, Psg.enc, hyt, ex, -getElem?_pos, List.getElem?_cons_zero, List.getElem?_cons_succ]
             refine ⟨wrap_i64 (by omega) (by omega), ⟨U.set y.to v, true, j + 1⟩, ⟨by dsimp only; omega, by simpa using hUl, by rw [hsn, hon], fun _ => ?_, by simp⟩, by dsimp only; omega, ?_⟩
             . by_cases e : ch = true
               . have := hc1 e
                 dsimp only; omega
               . have := hc2 (by simpa using e)
                 subst this; exact hz2
             . simp
               try decide
           . have hoff := Ju6 (q := q) (v := v) (S := U) (y := y) (by simp [h6])
             simp
             refine ⟨wrap_i64 (by omega) (by omega), ⟨U, ch, j + 1⟩, ⟨by dsimp only; omega, hUl, by rw [hsn, hoff], hc1, hc2⟩, by dsimp only; omega, ?_⟩
             simp
             try decide
         . simp at h5
           have hoff := Ju6 (q := q) (v := v) (S := U) (y := y) (by rw [ex]; simp [h5])
           have hf5 : decide (x = 0) = false := by simp [h5]
           simp [hf5]
           refine ⟨wrap_i64 (by omega) (by omega), ⟨U, ch, j + 1⟩, ⟨by dsimp only; omega, hUl, by rw [hsn, hoff], hc1, hc2⟩, by dsimp only; omega, ?_⟩
           simp
           try decide
       . simp at h4
         have hjl : j = l.length := by omega
         subst hjl
         rw [List.take_length] at hU
         have hR : Jkz q v l T = U := hU.symm
         simp
         cases ch with
         | true =>
           have hlt := hc1 rfl
           match k, hfin, hz with
           | k + 1, hfin, hz =>
             refine ⟨⟨U, true, k⟩, ⟨hUl, fun _ => by dsimp only; omega, fun _ => ?_, by simp⟩, by simp, ?_⟩
             . unfold cFin at hfin
               rw [hR, if_neg (by intro e; subst e; omega)] at hfin
               exact hfin
             . simp
               try decide
         | false =>
           have he := hc2 rfl
           subst he
           refine ⟨⟨U, false, 0⟩, ⟨hUl, by simp, by simp, fun _ => ?_⟩, by simp, ?_⟩
           . rw [<- hfin]
             match k, hz with
             | k + 1, hz => unfold cFin; rw [if_pos hR]
           . simp
             try decide
   . have he := h2 h3
     subst he
     simp
     try decide
end Go.Am
namespace Go.Am
open Go Go.Proofs Go.Pn
def venF (S : List Int) (y : Psg) : Bool := y.fr.any (isSt S 1)
theorem J8y (S : List Int) (n : Nat) (hn : n < S.length) (cp : Option Nat) (s : Store) (nx bs bo : Nat) (hb : bs < nx) (hd : bo < nx) (hne : bs ≠ bo) (hg : get s bs = some (.cells 1 (S.map Int.row))) (hgd : get s bo = some (.cells 1 [[.ref bs 1 0 S.length cp]])) :
   Gives Tryz.prog GL 211 [.p (.int .i64 n), .ptr bo 1 0 0] s nx (.p (.bool (isSt S 1 n))) [bs, bo] [] nx := by
 obtain ⟨x, e⟩ := Jae hn
 rw [Jrd e]
 refine Gives.mk_walkK (N := 9) (args := [.p (.int .i64 n), .ptr 1 1 0 0]) [bs, bo] [] [(0, some (.cells 1 (S.map Int.row))), (1, some (.cells 1 [[.ref 0 1 0 S.length cp]]))] [] 2 0 (.p (.bool (decide (x = 1)))) (fun _ => []) (up1 := []) Tryz.func211 rfl rfl rfl (by simp) rfl (by simp [hg, hb, hd, hne, hgd]; intro q hq; match q, hq with | 0, _ => simp | 1, _ => simp) (by simp) (by simp) (by simp) (by simp) rfl ?_
 simp
 simp [hn, e, -getElem?_pos, List.getElem?_cons_zero, List.getElem?_cons_succ]
 try decide
theorem J8j (S : List Int) (xs : List Nat) (hx : ∀ n ∈ xs, n < S.length) (hl : xs.length < 4611686018427387904) (cp : Option Nat) (s : Store) (nx bs bo : Nat) (hb : bs < nx) (hd : bo < nx) (hne : bs ≠ bo) (hg : get s bs = some (.cells 1 (S.map Int.row))) (hgd : get s bo = some (.cells 1 [[.ref bs 1 0 S.length cp]])) :
   Gives Tryz.prog GL 268 [.p (.lst 1 ((Jbp xs).map Int.enc)), .fn (.func 211) [.ptr bo 1 0 0]] s nx (.p (.int .i64 (idxI xs fun n => isSt S 1 n))) [bs, bo] [] nx := by
 have hnl : (Jbp xs).length = xs.length := by simp [Jbp]
 refine Gives.mk_walkK (N := 19) (args := [.p (.lst 1 ((Jbp xs).map Int.enc)), .fn (.func 211) [.ptr 1 1 0 0]]) [bs, bo] [] [(0, some (.cells 1 (S.map Int.row))), (1, some (.cells 1 [[.ref 0 1 0 S.length cp]]))] [] 2 0 (.p (.int .i64 (idxI xs fun n => isSt S 1 n))) (fun _ => []) (up1 := []) Tryz.func268 rfl rfl rfl (by simp) rfl (by simp [hg, hb, hd, hne, hgd]; intro q hq; match q, hq with | 0, _ => simp | 1, _ => simp) (by simp) (by simp) (by simp) (by simp) rfl ?_
 simp [hnl]
 refine Jag.go [0, 1, 7] [0, 1] 0 [] (fun _ => []) (fun _ (k : Nat) => [(8, .p (.int .i64 k))]) (fun _ _ => []) (fun k => k <= xs.length /\ ∀ (j : Nat) x, j < k -> xs[j]? = some x -> (isSt S 1 x) = false) (fun k => xs.length - k) 0 ⟨by omega, fun j b h => by omega⟩ ?_ ?_
 . simp
   try decide
 . rintro k ⟨hk, hp⟩
   simp
   refine Jac (fun h => ?_) (fun h => ?_)
   . simp at h
     obtain ⟨x, e⟩ := Jae h
     have e2 : (Jbp xs)[k]? = some (x : Int) := by simp [Jbp, e, -getElem?_pos]
     have hk2 : k < (Jbp xs).length := by omega
     simp [hk2, e2, -getElem?_pos, List.getElem?_cons_zero, List.getElem?_cons_succ]
     refine Jaw (J8y S x (hx x (List.mem_of_getElem? e)) cp _ _ 0 1 (by simp) (by simp) (by simp) (by simp) (by simp)) ?_
     simp
     refine Jac (fun h2 => ?_) (fun h2 => ?_)
     . simp [Jaa, Jez (q := fun n => isSt S 1 n) e (by simpa using h2) hp]
       try decide
     . simp
       refine ⟨wrap_i64 (by omega) (by omega), k + 1, ⟨by omega, by simpa using Jd1 (P := fun n => isSt S 1 n = false) hp e (by simpa using h2)⟩, by omega, ?_⟩
       simp
       try decide
   . simp at h
     have hk2 : k = xs.length := by omega
     subst hk2
     simp [Jaa, Je0 (q := fun n => isSt S 1 n) (Jef hp)]
     try decide
theorem J8d (S : List Int) (xs : List Nat) (hx : ∀ n ∈ xs, n < S.length) (hl : xs.length < 4611686018427387904) (cp : Option Nat) (s : Store) (nx bs bo : Nat) (hb : bs < nx) (hd : bo < nx) (hne : bs ≠ bo) (hg : get s bs = some (.cells 1 (S.map Int.row))) (hgd : get s bo = some (.cells 1 [[.ref bs 1 0 S.length cp]])) :
   Gives Tryz.prog GL 210 [.p (.lst 1 ((Jbp xs).map Int.enc)), .fn (.func 211) [.ptr bo 1 0 0]] s nx (.p (.bool (xs.any (isSt S 1)))) [bs, bo] [] nx := by
 refine Gives.mk_walkK (N := 9) (args := [.p (.lst 1 ((Jbp xs).map Int.enc)), .fn (.func 211) [.ptr 1 1 0 0]]) [bs, bo] [] [(0, some (.cells 1 (S.map Int.row))), (1, some (.cells 1 [[.ref 0 1 0 S.length cp]]))] [] 2 0 (.p (.bool (xs.any (isSt S 1)))) (fun _ => []) (up1 := []) Tryz.func210 rfl rfl rfl (by simp) rfl (by simp [hg, hb, hd, hne, hgd]; intro q hq; match q, hq with | 0, _ => simp | 1, _ => simp) (by simp) (by simp) (by simp) (by simp) rfl ?_
 simp
 refine Jaw (J8j S xs hx hl cp _ _ 0 1 (by simp) (by simp) (by simp) (by simp) (by simp)) ?_
 have hq : decide ((0 : Int) <= idxI xs fun n => isSt S 1 n) = xs.any (isSt S 1) := by rw [Bool.eq_iff_iff]; simp [Jh9]
 simp [hq]
 try decide
theorem Kgj {N : Nat} {cp : Option Nat} {l : List Psg} (hx : ∀ y ∈ l, ∀ n ∈ y.fr, n < N) (hl : ∀ y ∈ l, y.fr.length < 4611686018427387904) : Jpz N cp 206 (fun S => Jcr (isSt S 2)) l := by
 intro S y hS hm s nx bs bo hb hd hne hg hgd
 subst hS
 refine Gives.mk_walkK (N := 7) (args := [y.av, .ptr 1 1 0 0]) [bs, bo] [] [(0, some (.cells 1 (S.map Int.row))), (1, some (.cells 1 [[.ref 0 1 0 S.length cp]]))] [] 2 0 (.p (.bool (Jcr (isSt S 2) y))) (fun _ => []) (up1 := []) Tryz.func206 rfl rfl rfl (by simp) rfl (by simp [hg, hb, hd, hne, hgd]; intro q hq; match q, hq with | 0, _ => simp | 1, _ => simp) (by simp) (by simp) (by simp) (by simp) rfl ?_
 simp
 refine Jcv ?_
 simp
 refine ⟨_, J58 S y (hx y hm) (hl y hm), rfl, ?_⟩
 simp
 try decide
theorem Kgk {N : Nat} {cp : Option Nat} {l : List Psg} (hx : ∀ y ∈ l, ∀ n ∈ y.fr, n < N) (hl : ∀ y ∈ l, y.fr.length < 4611686018427387904) : Jpz N cp 209 venF l := by
 intro S y hS hm s nx bs bo hb hd hne hg hgd
 subst hS
 refine Gives.mk_walkK (N := 8) (args := [y.av, .ptr 1 1 0 0]) [bs, bo] [] [(0, some (.cells 1 (S.map Int.row))), (1, some (.cells 1 [[.ref 0 1 0 S.length cp]]))] [] 2 0 (.p (.bool (venF S y))) (fun _ => []) (up1 := []) Tryz.func209 rfl rfl rfl (by simp) rfl (by simp [hg, hb, hd, hne, hgd]; intro q hq; match q, hq with | 0, _ => simp | 1, _ => simp) (by simp) (by simp) (by simp) (by simp) rfl ?_
 simp
 refine Jaw (J8d S y.fr (hx y hm) (hl y hm) cp _ _ 0 1 (by simp) (by simp) (by simp) (by simp) (by simp)) ?_
 simp [venF]
 try decide
end Go.Am
namespace Go.Am
open Go Go.Proofs Go.Pn
theorem J8u (b : Bool) (s : Store) (nx : Nat) : Gives Tryz.prog GL 275 [.p (.int .i64 (posI b))] s nx (.acc nx 1 1) [] [(nx, accB 1 ([if b then t2 else t4].map Txt.row))] (nx + 1) := by
 refine Gives.mk_walkK (N := 8) (args := [.p (.int .i64 (posI b))]) [] [] [] [(0, accB 1 ([if b then t2 else t4].map Txt.row))] 0 1 (.acc 0 1 1) (nms [2]) (up1 := [(nx, accB 1 ([if b then t2 else t4].map Txt.row))]) Tryz.func275 rfl rfl rfl (by simp) rfl (by simp) (by simp) (by simp) (by cases b <;> simp [accB]) (by simp) rfl ?_
 cases b
 . simp [posI]
   rfl
 . simp [posI]
   rfl
theorem J8x (pos : Int) (s : Store) (nx : Nat) : Gives Tryz.prog GL 273 [.p (.int .i64 pos)] s nx (.acc nx 1 0) [] [(nx, accB 1 [])] (nx + 1) := by
 refine Gives.mk_walkK (N := 3) (args := [.p (.int .i64 pos)]) [] [] [] [(0, accB 1 [])] 0 1 (.acc 0 1 0) (nms [2]) (up1 := [(nx, accB 1 [])]) Tryz.func273 rfl rfl rfl (by simp) rfl (by simp) (by simp) (by simp) (by simp [accB]) (by simp) rfl ?_
 simp
theorem Jxf (n pos : Int) (s : Store) (nx : Nat) : Gives Tryz.prog GL 337 [.p (.int .i64 pos), .iptr 1 [[.int .i64 n]] 0 0] s nx (.acc nx 1 (if pos = n then [] else [t2]).length) [] [(nx, accB 1 ((if pos = n then [] else [t2]).map Txt.row))] (nx + 1) := by
 refine Gives.mk_walkK (N := 8) (args := [.p (.int .i64 pos), .iptr 1 [[.int .i64 n]] 0 0]) [] [] [] [(0, accB 1 ((if pos = n then [] else [t2]).map Txt.row))] 0 1 (.acc 0 1 (if pos = n then [] else [t2]).length) (nms [4]) (up1 := [(nx, accB 1 ((if pos = n then [] else [t2]).map Txt.row))]) Tryz.func337 rfl rfl rfl (by simp) rfl (by simp) (by simp) (by simp) (by split <;> simp [accB]) (by simp) rfl ?_
 simp
 by_cases h : pos = n
 . simp [h]
 . simp [h]
   rfl
theorem J81 (k : Nat) (hk : k < 14) (b : Bool) : ∃ m cap, (catRow k)[11]? = some (.fn (.func m) cap) /\ Ja3 cap = true /\ ∀ (s : Store) (nx : Nat), Gives Tryz.prog GL m (.p (.int .i64 (posI b)) :: cap) s nx (.acc nx 1 (Je8 k b).length) [] [(nx, accB 1 ((Je8 k b).map Txt.row))] (nx + 1) := by
 have g1 := Jxf 1 (posI b)
 have g0 := Jxf 0 (posI b)
 have ch := J8u b
 have no := J8x (posI b)
 cases b
 all_goals
   simp only [posI, Bool.false_eq_true, if_true, if_false] at g1 g0 ch no ⊢
   rcases (by omega : k = 0 \/ k = 1 \/ k = 2 \/ k = 3 \/ k = 4 \/ k = 5 \/ k = 6 \/ k = 7 \/ k = 8 \/ k = 9 \/ k = 10 \/ k = 11 \/ k = 12 \/ k = 13) with rfl|rfl|rfl|rfl|rfl|rfl|rfl|rfl|rfl|rfl|rfl|rfl|rfl|rfl
   all_goals first
     | exact ⟨_, _, rfl, rfl, no⟩
     | exact ⟨_, _, rfl, rfl, ch⟩
     | exact ⟨_, _, rfl, rfl, g1⟩
     | exact ⟨_, _, rfl, rfl, g0⟩
theorem J8t (k pos : Int) (hp : Jb3 k pos = 0) (s : Store) (nx : Nat) : Gives Tryz.prog GL 267 [.p (.int .i64 k), .p (.int .i64 pos)] s nx (.tup [.acc nx 1 (Jev k pos).length, .p (.int .i64 0)]) [] [(nx, accB 1 ((Jev k pos).map Txt.row))] (nx + 1) := by
 refine Gives.mk_walkK (N := 21) (args := [.p (.int .i64 k), .p (.int .i64 pos)]) [] [] [] [(0, accB 1 ((Jev k pos).map Txt.row))] 0 1 (.tup [.acc 0 1 (Jev k pos).length, .p (.int .i64 0)]) (nms [4]) (up1 := [(nx, accB 1 ((Jev k pos).map Txt.row))]) Tryz.func267 rfl rfl rfl (by simp) rfl (by simp) (by simp) (by simp) (by unfold accB; split <;> simp) (by simp) rfl ?_
 simp
 refine Jab (Jvs k pos) ?_
 obtain ⟨hk, b, hb⟩ := Jom hp
 have hl := Jfa (k := k.toNat)
 have h6 := Jfb (k := k.toNat)
 obtain ⟨m, cap, g1, g2, g3⟩ := J81 k.toNat (by omega) b
 have hpa : Jev k pos = Je8 k.toNat b := by rw [Jev, if_pos hp, hb, J0m]
 simp [hp, hl, Jc0]
 refine ⟨by simpa using h6, ?_⟩
 obtain ⟨_, g1'⟩ := gsI.1 g1
 simp [g1']
 rw [hb]
 refine Jaw (g3 _ _) ?_
 simp
 rw [<- hb]
 simp [hpa, hp]
 cases Je8 k.toNat b <;> simp [accB]
@[simp] theorem Kka {P : Program} {e b k n : Nat} {K : Cont Prop} : @Jlx P (.slice e) (.acc b k n) K = (@xTy P e ⟨fun _ => True⟩ /\ K.k) := (rfl)
def Jd8 (k pos : Int) (n : Nat) : List Txt := Jev k pos ++ ((Jaq k.toNat).take n).filter fun s => decide (Jdt k.toNat s = 2)
theorem Kd2 {k pos : Int} {n : Nat} {t : Txt} (e : (Jaq k.toNat)[n]? = some t) : Jd8 k pos (n + 1) = Jd8 k pos n ++ if Jdt k.toNat t = 2 then [t] else [] := by
 unfold Jd8
 rw [take_snoc e, List.filter_append, List.append_assoc]
 congr 2
 by_cases h : Jdt k.toNat t = 2 <;> simp [h]
theorem Jzr {k pos : Int} (hp : Jb3 k pos = 0) {n : Nat} : (Jd8 k pos n).length <= 1000 := by
 obtain ⟨hk, b, hb⟩ := Jom hp
 have h1 : (Jev k pos).length <= 100 := by
   rw [Jev, if_pos hp]
   exact (by decide +kernel : ∀ k, k < 14 -> ∀ b, (Je8 k b).length <= 100) k.toNat (by omega) _
 have h2 : (Jaq k.toNat).length <= 100 := (by decide +kernel : ∀ k, k < 14 -> (Jaq k).length <= 100) k.toNat (by omega)
 have h3 := List.length_filter_le (fun s => decide (Jdt k.toNat s = 2)) ((Jaq k.toNat).take n)
 have h4 : ((Jaq k.toNat).take n).length <= (Jaq k.toNat).length := by simp; omega
 unfold Jd8
 rw [List.length_append]
 omega
set_option maxRecDepth 20000 in
theorem J59 (q : Part) (pos : Int) (hp : Jb3 q.kind pos = 0) : Pure Tryz.prog GL 208 [q.av, .p (.int .i64 pos)] (.p (.lst 1 ((Jd8 q.kind pos (Jaq q.kind.toNat).length).map Txt.enc))) := by
 refine Pure.of_walk (N := 52) Tryz.func208 rfl rfl rfl (by simp) (by first | (simp; done) | simp [*]) ?_
 obtain ⟨hk, _⟩ := Jom hp
 have hke : Jax q.kind = 0 := Jcs.2 hk
 have h2 : (Jaq q.kind.toNat).length <= 100 := (by decide +kernel : ∀ k, k < 14 -> (Jaq k).length <= 100) q.kind.toNat (by omega)
 have h0 : Jd8 q.kind pos 0 = Jev q.kind pos := by simp [Jd8]
 simp
 refine Jaw (J8t q.kind pos hp _ _) ?_
 simp
 refine Jab (Jvp q.kind) ?_
 simp [hke]
 rw [<- h0]
 refine Jag.gor [2, 26, 27] [0] [0, 1] (fun st => 0 :: nms [5] st) (fun (j : Nat) => [(5, .acc 1 1 (Jd8 q.kind pos j).length), (28, .p (.int .i64 j))]) (fun j => [(1, accB 1 ((Jd8 q.kind pos j).map Txt.row))]) (fun j => j <= (Jaq q.kind.toNat).length) (fun j => (Jaq q.kind.toNat).length - j) 0 (by omega) ?_ ?_
 . simp
   try decide
 . intro j hj
   have hol := Jzr hp (n := j)
   simp
   refine Jac (fun h3 => ?_) (fun h3 => ?_)
   . simp at h3
     obtain ⟨t, e⟩ := Jae h3
     have hsn := Kd2 (pos := pos) e
     simp [h3, e, Txt.enc, -getElem?_pos, List.getElem?_cons_zero, List.getElem?_cons_succ]
     refine Jab (Jqe q.kind t hk) ?_
     generalize Jd8 q.kind pos j = O at *
     generalize Jdt q.kind.toNat t = ro at *
     simp
     have hro : decide ((if ro < 0 then 0 else ro) = 2) = decide (ro = 2) := by
       by_cases hn : ro < 0
       . simp [hn]; omega
       . simp [hn]
     rw [hro]
     refine Jac (fun h4 => ?_) (fun h4 => ?_)
     . simp at h4
       rw [if_pos h4] at hsn
       simp
       refine Jfu (fun h5 => ?_) (fun h5 => ?_)
       . subst h5
         simp
         refine ⟨wrap_i64 (by omega) (by omega), j + 1, by omega, by omega, ?_⟩
         simp [hsn]
         try decide
       . simp
         refine ⟨by omega, h5, wrap_i64 (by omega) (by omega), j + 1, by omega, by omega, ?_⟩
         have hac : accB 1 (O.map Txt.row ++ [[.p (.str t)]]) = some (.cells 1 (O.map Txt.row ++ [[.p (.str t)]])) := by simp [accB]
         simp [hsn, hac]
         try decide
     . simp at h4
       rw [if_neg h4] at hsn
       simp at hsn
       simp
       refine ⟨wrap_i64 (by omega) (by omega), j + 1, by omega, by omega, ?_⟩
       simp [hsn]
       try decide
   . simp at h3
     have hjl : j = (Jaq q.kind.toNat).length := by omega
     subst hjl
     generalize Jd8 q.kind pos (Jaq q.kind.toNat).length = O at *
     simp [Jaa]
end Go.Am
namespace Go.Am
open Go Go.Proofs Go.Pn
section
variable {P : Program} {G : Jaf} {N n0 : Nat}
theorem Jag.goN {γ : Type} {c : Cont Code} {t : Jan} {s : Store} {nx : Nat} {Q : Cont KQ} (keep keepB : List Nat) (n : Nat) (M : γ -> Jan) (B : γ -> Store) (I : γ -> Prop) (μ : γ -> Nat) (g0 : γ) (hi : I g0)
   (h0 : Leads G N n0 ⟨t, s, nx⟩ ⟨M g0 ++ pick keep t, B g0 ++ Jcd keepB s, n⟩)
   (round : ∀ g, I g -> @xc P G N n0 c (M g ++ pick keep t) (B g ++ Jcd keepB s) n ⟨fun x st' => @Jgg x st' ⟨fun st' => ∃ g', I g' /\ μ g' < μ g /\
     Leads G N n0 st' ⟨M g' ++ pick keep t, B g' ++ Jcd keepB s, n⟩⟩ Q⟩) : @Jag P G N n0 c ⟨t, s, nx⟩ Q :=
 Jag.goL (fun g => ⟨M g ++ pick keep t, B g ++ Jcd keepB s, n⟩) I μ g0 hi h0 round
end
theorem FrzK.accRows {s : Store} {B : List Nat} {b k n : Nat} {rows : List (List AV)} {r : List (List PV)} (hB : b ∈ B) (hg : get s b = accB k rows) (hr : unpR rows = some r) (hn : rows.length = n) : FrzK s (· ∈ B) (.acc b k n) (.p (.lst k r)) := by
 have e := Jkm hr
 refine .frz _ _ (.one _ _ (.accRows hB hg e ?_))
 rw [<- hn, e]; simp
theorem FrzB.last {s : Store} {B : List Nat} {k : Nat} {A : List (List AV)} {a b z x d : AV} (h : FrzK s (· ∈ B) z x) : FrzB s B (.cells k (A ++ [[a, b, z, d]])) (.cells k (A ++ [[a, b, x, d]])) := by
 refine .inr ⟨k, _, _, rfl, rfl, fun i j row x' h1 h2 => ?_⟩
 by_cases hi : i < A.length
 . rw [List.getElem?_append_left hi] at h1
   exact ⟨row, x', by rw [List.getElem?_append_left hi]; exact h1, h2, .keep _⟩
 . rw [List.getElem?_append_right (by omega)] at h1
   have hz : i - A.length = 0 := by
     cases e : i - A.length with
     | zero => rfl
     | succ m => rw [e] at h1; simp at h1
   rw [hz] at h1
   simp at h1
   subst h1
   refine ⟨[a, b, z, d], ?_⟩
   match j with
   | 0 => simp at h2; subst h2; exact ⟨a, by rw [List.getElem?_append_right (by omega), hz]; rfl, rfl, .keep _⟩
   | 1 => simp at h2; subst h2; exact ⟨b, by rw [List.getElem?_append_right (by omega), hz]; rfl, rfl, .keep _⟩
   | 2 => simp at h2; subst h2; exact ⟨z, by rw [List.getElem?_append_right (by omega), hz]; rfl, rfl, h⟩
   | 3 => simp at h2; subst h2; exact ⟨d, by rw [List.getElem?_append_right (by omega), hz]; rfl, rfl, .keep _⟩
   | j + 4 => simp at h2
@[simp] def Kgp : Option ABlk -> Nat
 | some (.cells _ ([_, _, z, _] :: _)) => nameOf z
 | _ => 0
def pTs (c : Circuit) (l : List Int) (k : Nat) : List Psg := (List.range k).flatMap (Jhq c l)
theorem Jzz {c : Circuit} {l : List Int} {k : Nat} : pTs c l (k + 1) = pTs c l k ++ Jhq c l k := by simp [pTs, List.range_succ]
theorem Jzy {c : Circuit} {l : List Int} {k : Nat} : (pTs c l k).length <= k := by
 induction k with
 | zero => simp [pTs]
 | succ k ih =>
   rw [Jzz, List.length_append]
   have : (Jhq c l k).length <= 1 := by
     unfold Jhq
     rcases Jz9 c l k with h | ⟨y, h⟩ <;> simp [h]
   omega
def frT (c : Circuit) (k : Nat) (y : Pass) (j : Nat) : List Int := (y.fr.take j).map fun t => (netN c k t : Int)
theorem J77 {c : Circuit} {k : Nat} {y : Pass} {j : Nat} (h : j <= y.fr.length) : (frT c k y j).length = j := by simp [frT]; omega
theorem J78 {c : Circuit} {k : Nat} {y : Pass} {j : Nat} {t : Txt} (e : y.fr[j]? = some t) : frT c k y (j + 1) = frT c k y j ++ [(netN c k t : Int)] := by simp [frT, take_snoc e]
set_option maxRecDepth 20000 in
theorem J8w (c : Circuit) (l : List Int) (h : Jam c l = 0) (b mb : Nat) (s : Store) (nx : Nat) (hb : b < nx) (hm : mb < nx) (hne : b ≠ mb) (hg : get s b = some (.cells 4 [Jbw c mb])) (hgm : get s mb = some (.map (prA (pairs c)))) :
   Gives Tryz.prog GL 204 [.ptr b 4 0 0, Ints.av l] s nx (.acc nx 4 (psgs c l).length) [b, mb] [(nx, accB 4 ((psgs c l).map Psg.row))] (nx + 1) := by
 have hc := (Jeg h).1
 have h2 := Jbg hc
 have hend : pTs c l c.parts.length = psgs c l := rfl
 refine Gives.mk_walkK (N := 75) (args := [.ptr 0 4 0 0, Ints.av l]) [b, mb] [] [(0, some (.cells 4 [Jbw c 1])), (1, some (.map (prA (pairs c))))] [(2, accB 4 ((psgs c l).map Psg.row))] 2 1 (.acc 2 4 (psgs c l).length) (nms [4]) (up1 := [(nx, accB 4 ((psgs c l).map Psg.row))]) Tryz.func204 rfl rfl rfl (by simp) rfl (by simp [hg, hb, hm, hne, hgm, Jbs, Jbw]; intro q hq; match q, hq with | 0, _ => simp | 1, _ => simp) (by simp) (by simp) (by unfold accB; split <;> simp) (by simp) rfl ?_
 simp [Jbw]
 refine Jag.go [0, 1, 19, 20] [0, 1] 1 [2] (nms [5]) (fun nx (k : Nat) => [(5, .acc nx 4 (pTs c l k).length), (21, .p (.int .i64 k))]) (fun nx k => [(nx, accB 4 ((pTs c l k).map Psg.row))]) (fun k => k <= c.parts.length) (fun k => c.parts.length - k) 0 (by omega) ?_ ?_
 . simp [pTs, Jbs]
   try decide
 . intro k hk
   have hpl := @Jzy c l k
   have hps := @Jzz c l k
   have hend1 : k = c.parts.length -> pTs c l k = psgs c l := fun e => by rw [e]; rfl
   generalize pTs c l k = A at hpl hps hend1
   simp
   refine Jac (fun h3 => ?_) (fun h3 => ?_)
   . simp at h3
     obtain ⟨q, e⟩ := Jae h3
     obtain ⟨a, F⟩ := Jhn h e
     have f2 := F.pos
     have f4 := F.ltl
     simp [h3, e, Part.enc, -getElem?_pos, List.getElem?_cons_zero, List.getElem?_cons_succ]
     refine Jaj.intro (by kernel_rfl) ?_
     simp [f2, f4, Int.enc, -getElem?_pos, List.getElem?_cons_zero, List.getElem?_cons_succ]
     refine Jab (J5e q.kind a) ?_
     rw [F.passes, F.placed]
     simp [Passes.av]
     refine ⟨.of (by kernel_rfl), ?_⟩
     rcases Jz9 c l k with hp | ⟨y, hp⟩
     . have hnone : pTs c l (k + 1) = A := by rw [hps]; simp [Jhq, hp]
       simp [hp]
       refine Jag.goN [0, 1, 6, 19, 20, 21, 36, 37] [0, 1] 3 (fun (j : Nat) => [(5, .acc 2 4 A.length), (38, .p (.int .i64 0))]) (fun j => [(2, accB 4 (A.map Psg.row))]) (fun j => j = 0) (fun j => 1 - j) 0 rfl ?_ ?_
       . refine Leads.subx (ρ := [0, 1, 2]) ?_
         simp [Jbs]
         try decide
       . intro j hj
         simp
         refine ⟨wrap_i64 (by omega) (by omega), k + 1, by omega, by omega, ?_⟩
         simp [hnone, Jbs]
         try decide
     . obtain ⟨z, hz⟩ : ∃ z : Psg, z = ⟨k, netN c k y.to, y.fr.map (netN c k), y.all⟩ := ⟨_, rfl⟩
       have hone : pTs c l (k + 1) = A ++ [z] := by rw [hps, hz]; simp [Jhq, hp]
       obtain ⟨hto, hfr, _⟩ := Jjv h h3 (z := y) (by rw [hp]; simp)
       have hq14 : q.kind.toNat < 14 := by have := F.kind; omega
       have hyl : y.fr.length <= 2 := (by decide +kernel : ∀ k, k < 14 -> ∀ b, ∀ z ∈ Jeb k b, z.fr.length <= 2) q.kind.toNat hq14 (decide (a = 1)) y (by rw [<- F.pass, hp]; simp)
       simp [hp]
       refine Jag.goN [0, 1, 6, 19, 20, 21, 36, 37] [0, 1] 3 (fun (j : Nat) => [(5, .acc 2 4 (if j = 0 then A else A ++ [z]).length), (38, .p (.int .i64 j))]) (fun j => [(2, accB 4 ((if j = 0 then A else A ++ [z]).map Psg.row))]) (fun j => j <= 1) (fun j => 1 - j) 0 (by omega) ?_ ?_
       . refine Leads.subx (ρ := [0, 1, 2]) ?_
         simp [Jbs]
         try decide
       . intro j hj
         obtain rfl | rfl : j = 0 \/ j = 1 := by omega
         . simp
           refine Jaj.intro (by kernel_rfl) ?_
           simp
           refine Jaw (Jjd c hc k y.to hto 0 1 _ _ (by simp) (by simp) (by simp) (by simp [Jbw]) (by simp)) ?_
           simp
           refine ⟨.of (by kernel_rfl), ?_⟩
           refine Jag.go [0, 1, 5, 6, 12, 19, 20, 21, 36, 37, 38, 52, 53] [0, 1, 2] 1 [5] (fun st => [Kgp (get st.s 4)]) (fun nx (j : Nat) => [(54, .p (.int .i64 j))]) (fun nx j => [(nx, accB 1 ((frT c k y j).map Int.row)), (4, some (.cells 4 [[.p (.int .i64 k), .p (.int .i64 (netN c k y.to)), .acc nx 1 j, .p (.bool y.all)]]))]) (fun j => j <= y.fr.length) (fun j => y.fr.length - j) 0 (by omega) ?_ ?_
           . simp [frT, Jbs]
             try decide
           . intro j hj
             have hfl := J77 hj (c := c) (k := k)
             have hfs := @J78 c k y j
             have hfe : j = y.fr.length -> frT c k y j = Jbp z.fr := fun e => by rw [e, hz]; simp [frT, Jbp]
             generalize frT c k y j = T at hfl hfs hfe
             subst hfl
             simp
             refine Jac (fun h4 => ?_) (fun h4 => ?_)
             . simp at h4
               obtain ⟨t, et⟩ := Jae h4
               have hts := hfs et
               have htp := hfr t (List.mem_of_getElem? et)
               simp [h4, et, Txt.enc, -getElem?_pos, List.getElem?_cons_zero, List.getElem?_cons_succ]
               refine Jaj.intro (by kernel_rfl) ?_
               simp
               refine Jaw (Jjd c hc k t htp 0 1 _ _ (by simp) (by simp) (by simp) (by simp [Jbw]) (by simp)) ?_
               simp
               refine ⟨by omega, .of (by kernel_rfl), wrap_i64 (by omega) (by omega), T.length + 1, by omega, by omega, ?_⟩
               simp [hts, Jbs]
               try decide
             . simp at h4
               have hT := hfe (by omega)
               simp
               have hac : ∀ r : List AV, accB 4 (A.map Psg.row ++ [r]) = some (.cells 4 (A.map Psg.row ++ [r])) := fun r => by simp [accB]
               refine ⟨by omega, 1, by omega, by omega, ?_⟩
               refine Leads.frz_sub (B := [5]) (ρ := [0, 1, 7]) [] [(5, none), (7, some (.cells 4 (A.map Psg.row ++ [z.row])))] (Freeze.of [] _ (by simp) ?_ (by simp [keys])) ?_
               . intro p hp' x hx
                 simp only [List.mem_cons, List.not_mem_nil, or_false] at hp'
                 rcases hp' with rfl | rfl
                 . cases hx
                 . simp only [Option.some.injEq] at hx
                   subst hx
                   refine ⟨by simp, _, by simp only [get, if_pos]; exact hac _, ?_⟩
                   subst hz
                   refine FrzB.last ?_
                   exact FrzK.accRows (rows := T.map Int.row) (by simp) (by simp [get]) (by rw [hT]; simp) (by simp)
               . simp [hac, Jbs]
                 try decide
         . simp
           refine ⟨wrap_i64 (by omega) (by omega), k + 1, by omega, by omega, ?_⟩
           simp [hone, Jbs]
           try decide
   . simp at h3
     have hA := hend1 (by omega)
     clear hend1 hps
     subst hA
     simp
     generalize psgs c l = X
     cases X <;> simp [accB, Jbw, Jbs] <;> decide
end Go.Am
