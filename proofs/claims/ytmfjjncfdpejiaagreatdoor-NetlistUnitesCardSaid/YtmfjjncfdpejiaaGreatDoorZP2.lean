/- Lemmas and contracts for the proof of a statement of this seat. -/
import Derived.Test.YtmfjjncfdpejiaaGreatDoorZP1
import Derived.Test.YtmfjjncfdpejiaaGreatDoorZN4
import Derived.Test.YtmfjjncfdpejiaaGreatDoorZA7
import Derived.Test.YtmfjjncfdpejiaaGreatDoorZN8
set_option linter.unusedVariables false
set_option linter.unusedSimpArgs false
namespace Go.Am
open Go Go.Proofs Go.Pn
structure PSt where
 D : Drf
 n : Int
 e : Int
 i : Int
def Jak (g : PSt) (k : Nat) (l : Txt) : PSt := ⟨Jbt g.D l, k + 1, linE g.D l, if linE g.D l = 0 then g.i else k⟩
def intC (n : Int) : ABlk := .cells 1 [[.p (.int .i64 n)]]
def zerC : ABlk := .cells 2 [[.nils, .nils]]
def drC (m q : Nat) : ABlk := .cells 2 [[.map m, .map q]]
def pmC (g : PSt) : ABlk := .map (Jas g.D.parts)
def pqC (g : PSt) : ABlk := .map (Jaw (g.D.pipes.map ordX))
def rdM (f g : AV) : List (AV × AV) := [(.p (.str Jcv), f), (.p (.str Jde), g)]
def rdC (d : Nat) : ABlk := .map (rdM (.fn (.via 0 #[] 66 true) [.ptr d 2 0 0]) (.fn (.via 0 #[] 67 true) [.ptr d 2 0 0]))
def rcC (r : Nat) : ABlk := .cells 1 [[.map r]]
def linT (b0 b1 b2 d b7 b8 : Nat) : Jao := [(2, .ptr b0 2 0 0), (3, .ptr b1 1 0 0), (4, .ptr b2 1 0 0), (5, .ptr d 2 0 0), (6, .ptr b7 1 0 0), (7, .ptr b8 1 0 0)]
@[simp] theorem J7t {ρ : List Nat} {n : Int} : renB ρ (intC n) = some (intC n) := rfl
@[simp] theorem Ke4 {ρ : List Nat} : renB ρ zerC = some zerC := rfl
@[simp] theorem J75 {ρ : List Nat} {g : PSt} : renB ρ (pmC g) = some (pmC g) := by simp [pmC]
@[simp] theorem J78 {ρ : List Nat} {g : PSt} : renB ρ (pqC g) = some (pqC g) := by simp [pqC]
def jmpL (e : Int) : Option Code := if e = 0 then none else some .ret
def Jwi (i : LoopI) (ok : PSt -> Nat -> Txt -> Prop) : Prop :=
 ∀ (g : PSt) (k : Nat) (l : Txt) (s : Store) (nx b0 b1 b2 m q d r b7 b8 lam : Nat), ok g k l -> [lam, b0, b1, b2, m, q, d, r, b7, b8].Nodup -> (∀ b ∈ [lam, b0, b1, b2, m, q, d, r, b7, b8], b < nx) ->
   get s b0 = some zerC -> get s b1 = some (intC g.i) -> get s b2 = some (intC g.e) -> get s m = some (pmC g) -> get s q = some (pqC g) -> get s d = some (drC m q) -> get s r = some (rdC d) -> get s b7 = some (rcC r) -> get s b8 = some (intC g.n) ->
   get s lam = some (.loop i (linT b0 b1 b2 d b7 b8) none) ->
   GivesY Tryz.prog GL i.l [.p (.int .i64 k), .p (.str l)] s nx (.p (.bool (jmpL (linE g.D l)).isNone)) [lam, b0, b1, b2, m, q, d, r, b7, b8]
     [(lam, some (.loop i (linT b0 b1 b2 d b7 b8) (jmpL (linE g.D l)))), (b1, some (intC (Jak g k l).i)), (b2, some (intC (Jak g k l).e)), (m, some (pmC (Jak g k l))), (q, some (pqC (Jak g k l))), (b8, some (intC (Jak g k l).n))] nx
def pRun (g : PSt) (k : Nat) : List Txt -> PSt
 | [] => g
 | l :: ls => if linE g.D l = 0 then pRun (Jak g k l) (k + 1) ls else Jak g k l
theorem Jta {g : PSt} {k : Nat} {ls : List Txt} (h : g.e = 0) (hi : g.i = 0) (hn : g.n = k) :
   (pRun g k ls).D = runD g.D ls /\ (pRun g k ls).e = runE g.D ls /\ (pRun g k ls).i = (if runE g.D ls = 0 then 0 else ((k + Jgf g.D ls : Nat) : Int)) /\ (runE g.D ls = 0 -> (pRun g k ls).n = ((k + ls.length : Nat) : Int)) := by
 induction ls generalizing g k with
 | nil => simp [pRun, runD, runE, Jgf, h, hi, hn]
 | cons l ls ih =>
   unfold pRun runD runE Jgf
   by_cases e : linE g.D l = 0
   . simp only [e, if_true]
     obtain ⟨a, b, c, d⟩ := ih (g := Jak g k l) (k := k + 1) e (by simp [Jak, e, hi]) (by simp [Jak])
     refine ⟨a, b, ?_, fun h2 => ?_⟩
     . rw [c]
       show (if runE (Jbt g.D l) ls = 0 then _ else _) = _
       by_cases z : runE (Jbt g.D l) ls = 0
       . simp [z]
       . rw [if_neg z, if_neg z]
         show (((k + 1) + Jgf (Jbt g.D l) ls : Nat) : Int) = _
         omega
     . rw [d h2]
       simp
       omega
   . simp [e, Jak]
end Go.Am
namespace Go.Am
open Go Go.Proofs Go.Pn
theorem Jzj {l u : Txt} (h : ∀ b ∈ l, b ≠ 10) : cutB (l ++ 10 :: u) 10 = (l, u, true) := by
 have e : Lib.indexByte (l ++ 10 :: u) 10 = l.length := by
   rw [Jne]
   refine Jd8 (k := l.length) (x := 10) (by simp) (by simp) fun j y hj hy => ?_
   rw [List.getElem?_append_left hj] at hy
   simpa using h y (List.mem_of_getElem? hy)
 unfold cutB
 rw [e, if_neg (by omega)]
 simp [List.drop_append]
def txtL (ls : List Txt) : Txt := ls.flatMap fun l => l ++ [10]
theorem Jjd {l : Txt} {ls : List Txt} : txtL (l :: ls) = l ++ 10 :: txtL ls := by simp [txtL]
def Jjp (ok : PSt -> Nat -> Txt -> Prop) (g : PSt) (k : Nat) : List Txt -> Prop
 | [] => True
 | l :: ls => ok g k l /\ (linE g.D l = 0 -> Jjp ok (Jak g k l) (k + 1) ls)
section
variable {i : LoopI} {ok : PSt -> Nat -> Txt -> Prop}
def Jha (i : LoopI) (g : PSt) (t : Txt) : Store := [(0, some zerC), (1, some (intC g.i)), (2, some (intC g.e)), (3, some (pmC g)), (4, some (pqC g)), (5, some (drC 3 4)), (6, some (rdC 5)), (7, some (rcC 6)), (8, some (intC g.n)), (9, some (.loop i (linT 0 1 2 5 7 8) none)), (10, some (.cells 1 [[.p (.str t)]]))]
set_option maxRecDepth 20000 in
theorem Jrj (hY : Jwi i ok) (ls : List Txt) (g : PSt) (s : Store) (nx b0 b1 b2 m q d r b7 b8 lam bt : Nat) (hrun : Jjp ok g 0 ls) (hln : ∀ l ∈ ls, ∀ b ∈ l, b ≠ 10) (hl : (txtL ls).length <= 100000) (hnd : [b0, b1, b2, m, q, d, r, b7, b8, lam, bt].Nodup) (hlt : ∀ b ∈ [b0, b1, b2, m, q, d, r, b7, b8, lam, bt], b < nx) (hge : g.e = 0)
   (g0 : get s b0 = some zerC) (g1 : get s b1 = some (intC g.i)) (g2 : get s b2 = some (intC g.e)) (g3 : get s m = some (pmC g)) (g4 : get s q = some (pqC g)) (g5 : get s d = some (drC m q)) (g6 : get s r = some (rdC d)) (g7 : get s b7 = some (rcC r)) (g8 : get s b8 = some (intC g.n))
   (g9 : get s lam = some (.loop i (linT b0 b1 b2 d b7 b8) none)) (g10 : get s bt = some (.cells 1 [[.p (.str (txtL ls))]])) :
   Gives Tryz.prog GL 147 [.fn (.yield i.l) [], .ptr bt 1 0 0] s nx (.tup []) [b0, b1, b2, m, q, d, r, b7, b8, lam, bt]
     [(lam, some (.loop i (linT b0 b1 b2 d b7 b8) (jmpL (pRun g 0 ls).e))), (b1, some (intC (pRun g 0 ls).i)), (b2, some (intC (pRun g 0 ls).e)), (m, some (pmC (pRun g 0 ls))), (q, some (pqC (pRun g 0 ls))), (b8, some (intC (pRun g 0 ls).n)), (bt, none)] nx := by
 have hL : Jfj [b0, b1, b2, m, q, d, r, b7, b8, lam, bt] nx (Jha i g (txtL ls)) s [.fn (.yield i.l) [], .ptr 10 1 0 0] [.fn (.yield i.l) [], .ptr bt 1 0 0] := by
   have e5 : renB [b0, b1, b2, m, q, d, r, b7, b8, lam, bt] (drC 3 4) = some (drC m q) := rfl
   have e6 : renB [b0, b1, b2, m, q, d, r, b7, b8, lam, bt] (rdC 5) = some (rdC d) := rfl
   have e7 : renB [b0, b1, b2, m, q, d, r, b7, b8, lam, bt] (rcC 6) = some (rcC r) := rfl
   have e9 : renB [b0, b1, b2, m, q, d, r, b7, b8, lam, bt] (.loop i (linT 0 1 2 5 7 8) none) = some (.loop i (linT b0 b1 b2 d b7 b8) none) := rfl
   have e10 : renB [b0, b1, b2, m, q, d, r, b7, b8, lam, bt] (.cells 1 [[.p (.str (txtL ls))]]) = some (.cells 1 [[.p (.str (txtL ls))]]) := rfl
   refine ⟨?_, rfl, hnd, hlt, rfl⟩
   simp [-renB, Jha, g0, g1, g2, g3, g4, g5, g6, g7, g8, g9, g10, e5, e6, e7, e9, e10]
 refine Gives.mk_walkK (N := 23) (args := [.fn (.yield i.l) [], .ptr 10 1 0 0]) [b0, b1, b2, m, q, d, r, b7, b8, lam, bt] [10] (Jha i g (txtL ls))
   [(9, some (.loop i (linT 0 1 2 5 7 8) (jmpL (pRun g 0 ls).e))), (1, some (intC (pRun g 0 ls).i)), (2, some (intC (pRun g 0 ls).e)), (3, some (pmC (pRun g 0 ls))), (4, some (pqC (pRun g 0 ls))), (8, some (intC (pRun g 0 ls).n))] 11 0 (.tup []) (fun _ => [])
   (up1 := [(lam, some (.loop i (linT b0 b1 b2 d b7 b8) (jmpL (pRun g 0 ls).e))), (b1, some (intC (pRun g 0 ls).i)), (b2, some (intC (pRun g 0 ls).e)), (m, some (pmC (pRun g 0 ls))), (q, some (pqC (pRun g 0 ls))), (b8, some (intC (pRun g 0 ls).n))])
   Tryz.func147 rfl rfl rfl (by simp) rfl hL (by simp) rfl ?_ (by simp) rfl ?_
 . have e9 : renB [b0, b1, b2, m, q, d, r, b7, b8, lam, bt] (.loop i (linT 0 1 2 5 7 8) (jmpL (pRun g 0 ls).e)) = some (.loop i (linT b0 b1 b2 d b7 b8) (jmpL (pRun g 0 ls).e)) := rfl
   simp [-renB, e9]
 simp [-renB, Jha]
 have r5 : renB (List.range 11) (drC 3 4) = some (drC 3 4) := rfl
 have r6 : renB (List.range 11) (rdC 5) = some (rdC 5) := rfl
 have r7 : renB (List.range 11) (rcC 6) = some (rcC 6) := rfl
 have r9 : renB (List.range 11) (.loop i (linT 0 1 2 5 7 8) none) = some (.loop i (linT 0 1 2 5 7 8) none) := rfl
 have r10 : ∀ u : Txt, renB (List.range 11) (.cells 1 [[.p (.str u)]]) = some (.cells 1 [[.p (.str u)]]) := fun _ => rfl
 refine Jah.go [0, 1] [0, 5, 6, 7] 0 [] (fun _ => []) (fun _ (x : PSt × Nat × List Txt) => [(3, .p (.int .i64 x.2.1))]) (fun _ x => [(1, some (intC x.1.i)), (2, some (intC x.1.e)), (3, some (pmC x.1)), (4, some (pqC x.1)), (8, some (intC x.1.n)), (9, some (.loop i (linT 0 1 2 5 7 8) none)), (10, some (.cells 1 [[.p (.str (txtL x.2.2))]]))])
   (fun x => x.1.e = 0 /\ Jjp ok x.1 x.2.1 x.2.2 /\ pRun x.1 x.2.1 x.2.2 = pRun g 0 ls /\ (∀ l ∈ x.2.2, ∀ b ∈ l, b ≠ 10) /\ (txtL x.2.2).length <= 100000 /\ x.2.1 + (txtL x.2.2).length <= 100000) (fun x => x.2.2.length) (g, 0, ls) ⟨hge, hrun, rfl, hln, hl, by simpa using hl⟩ ?_ ?_
 . simp [-renB, r5, r6, r7, r9, r10]
   try decide
 rintro ⟨h, k, us⟩ ⟨k1, k2, k3, k4, k5, k6⟩
 simp only at k1 k2 k3 k4 k5 k6
 simp [-renB]
 cases us with
 | nil =>
   have e0 : txtL [] = [] := rfl
   have e3 : pRun g 0 ls = h := k3.symm
   have hj : jmpL h.e = none := by rw [k1]; rfl
   simp [-renB, e0]
   rw [e3, hj]
   simp [-renB, Jha, r5, r6, r7, r9]
   try decide
 | cons l us =>
   have e0 : ¬ txtL (l :: us) = [] := by rw [Jjd]; simp
   have hl2 : l.length <= 100000 := by rw [Jjd] at k5; simp at k5; omega
   simp [-renB, e0]
   refine Jab (Jqe (txtL (l :: us)) 10 (by omega)) ?_
   rw [show cutB (txtL (l :: us)) 10 = (l, txtL us, true) from by rw [Jjd]; exact Jzj (k4 l (by simp))]
   simp [-renB]
   refine J7b (hY h k l _ _ 0 1 2 3 4 5 6 7 8 9 k2.1 (by simp) (by simp) rfl rfl rfl rfl rfl rfl rfl rfl rfl rfl) ?_
   by_cases e : linE h.D l = 0
   . have hj : jmpL (linE h.D l) = none := by rw [e]; rfl
     have h1 : (Jak h k l).e = 0 := e
     have h3 : pRun h k (l :: us) = pRun (Jak h k l) (k + 1) us := by rw [pRun, if_pos e]
     rw [hj]
     simp [-renB]
     have hlen : (txtL (l :: us)).length = l.length + 1 + (txtL us).length := by rw [Jjd]; simp; omega
     refine ⟨wrap_i64 (by omega) (by omega), Jak h k l, k + 1, us, ⟨h1, k2.2 e, by rw [<- h3]; exact k3, fun x hx b hb => k4 x (by simp [hx]) b hb, by omega, by omega⟩, by omega, by omega, ?_⟩
     simp [-renB, r5, r6, r7, r9, r10]
     try decide
   . have hj : jmpL (linE h.D l) = some .ret := by unfold jmpL; rw [if_neg e]
     have h3 : pRun g 0 ls = Jak h k l := by rw [<- k3, pRun, if_neg e]
     rw [hj, h3]
     have hj2 : jmpL (Jak h k l).e = some .ret := hj
     rw [hj2]
     have r9' : renB (List.range 11) (.loop i (linT 0 1 2 5 7 8) (some .ret)) = some (.loop i (linT 0 1 2 5 7 8) (some .ret)) := rfl
     simp [-renB, Jha, r5, r6, r7, r9']
     try decide
end
end Go.Am
namespace Go.Am
open Go Go.Proofs Go.Pn
theorem Jlr : ∀ {s cur : Txt}, (linS s cur).2 = [] -> txtL (linS s cur).1 = cur ++ s
 | [], cur, h => by
   have h : cur = [] := h
   subst h; rfl
 | b :: t, cur, h => by
   unfold linS at h ⊢
   by_cases e : b = 10
   . rw [if_pos e] at h ⊢
     have h2 : (linS t []).2 = [] := h
     show txtL (cur :: (linS t []).1) = _
     rw [Jjd, Jlr h2, e]; rfl
   . rw [if_neg e] at h ⊢
     rw [Jlr h]; simp
theorem Jkx : ∀ {s cur : Txt}, (∀ b ∈ cur, b ≠ 10) -> ∀ l ∈ (linS s cur).1, ∀ b ∈ l, b ≠ 10
 | [], cur, _, l, h => by simp [linS] at h
 | b :: t, cur, hc, l, h => by
   unfold linS at h
   by_cases e : b = 10
   . rw [if_pos e] at h
     rcases List.mem_cons.1 h with rfl | h
     . exact hc
     . exact Jkx (by simp) l h
   . rw [if_neg e] at h
     refine Jkx (fun x hx => ?_) l h
     rcases List.mem_append.1 hx with hx | hx
     . exact hc x hx
     . rw [List.mem_singleton.1 hx]; exact e
theorem Jke : ∀ {t cur w : Txt}, w ∈ fldG cur t -> w.length <= cur.length + t.length
 | [], cur, w, h => by
   unfold fldG at h
   split at h
   . cases h
   . rw [List.mem_singleton.1 h]; simp
 | b :: t, cur, w, h => by
   unfold fldG at h
   split at h
   . split at h
     . have := @Jke t [] w h; simp only [List.length_nil, List.length_cons] at this ⊢; omega
     . rcases List.mem_cons.1 h with rfl | h
       . simp
       . have := @Jke t [] w h; simp only [List.length_nil, List.length_cons] at this ⊢; omega
   . have := @Jke t (cur ++ [b]) w h; simp only [List.length_append, List.length_nil, List.length_cons] at this ⊢; omega
theorem Jkd : ∀ {t cur : Txt}, (fldG cur t).length <= t.length + 1
 | [], cur => by
   unfold fldG
   split <;> simp
 | b :: t, cur => by
   unfold fldG
   split
   . split
     . have := @Jkd t []; simp only [List.length_cons] at this ⊢; omega
     . have := @Jkd t []; simp only [List.length_cons] at this ⊢; omega
   . have := @Jkd t (cur ++ [b]); simp only [List.length_cons] at this ⊢; omega
theorem Jra {l w : Txt} (h : w ∈ fldR l) : w.length <= l.length := by
 rw [Jna] at h
 simpa using Jke h
theorem Jq9 {l : Txt} : (fldR l).length <= l.length + 1 := by
 rw [Jna]
 exact Jkd
structure DrfIn (d : Drf) : Prop where
 nx : (d.pipes.map ordX).Nodup
 pe : ∀ p ∈ d.parts, Ja7 p = 0
theorem Jte {ps : List Part} {a b : Txt} {o : Option Txt} (h : ∀ p ∈ ps, Ja7 p = 0) : ∀ p ∈ Jbb ps a b o, Ja7 p = 0 := fun p hp => by
 unfold Jbb at hp
 split at hp
 . rename_i e
   rcases List.mem_append.1 hp with hp | hp
   . exact h p hp
   . rw [List.mem_singleton.1 hp]
     unfold Jbh at e
     split at e
     . cases e
     . split at e
       . contradiction
       . split at e
         . contradiction
         . rename_i h3
           exact Classical.byContradiction h3
 . exact h p hp
theorem J3v {d : Drf} {a b : Txt} (h : (d.pipes.map ordX).Nodup) : ((Jb0 d a b).map ordX).Nodup := by
 unfold Jb0
 split
 . rename_i e
   rw [List.map_append, List.nodup_append]
   refine ⟨h, by simp, fun x hx y hy => ?_⟩
   simp [ordX] at hy
   subst hy
   intro e2
   subst e2
   unfold Jcp at e
   split at e
   . contradiction
   . split at e
     . contradiction
     . split at e
       . cases e
       . rename_i h3
         exact h3 (.inr hx)
 . exact h
theorem Jo7 {d : Drf} (h : DrfIn d) {w : List Txt} : DrfIn (Jf5 d w) := by
 unfold Jf5
 split
 . exact h
 . split
   . exact h
   . split
     . refine ⟨h.nx, fun p hp => ?_⟩
       simp only [Jbd] at hp
       split at hp
       . exact Jte h.pe p hp
       . exact Jte h.pe p hp
       . exact h.pe p hp
     . split
       . refine ⟨?_, h.pe⟩
         simp only [Jbj]
         split
         . exact J3v h.nx
         . exact h.nx
       . exact h
theorem Joc : ∀ {ls : List Txt} {d : Drf}, DrfIn d -> DrfIn (runD d ls)
 | [], _, h => h
 | l :: ls, d, h => by
   unfold runD
   split
   . exact Joc (Jo7 h)
   . exact Jo7 h
theorem Jk2 : DrfIn noD := ⟨by simp [noD], by simp [noD]⟩
def okP (g : PSt) (k : Nat) (l : Txt) : Prop := DrfOk g.D /\ DrfSz g.D /\ l.length <= 16384 /\ k <= 16384 /\ g.e = 0 /\ DrfIn g.D
theorem Jof : ∀ {ls : List Txt} {g : PSt} {k : Nat}, DrfOk g.D -> DrfSz g.D -> (∀ l ∈ ls, l.length <= 16384) -> k + ls.length <= 16384 -> g.e = 0 -> DrfIn g.D -> Jjp okP g k ls
 | [], _, _, _, _, _, _, _, _ => trivial
 | l :: ls, g, k, h1, h2, h3, h4, h5, h6 => by
   refine ⟨⟨h1, h2, h3 l (by simp), by omega, h5, h6⟩, fun e => ?_⟩
   simp only [List.length_cons] at h4
   exact Jof (g := Jak g k l) (Jo8 h1) (Jo9 h2) (fun x hx => h3 x (by simp [hx])) (by omega) e (Jo7 h6)
theorem Jhx {d : Drf} {h : Txt} {t : List Txt} : Jv0 d (h :: t) = if h.head? = some 35 then 0 else if h = Jcv then Jco d.parts t else if h = Jde then Jc3 d t else 4 := rfl
theorem Jhy {d : Drf} {h : Txt} {t : List Txt} : Jf5 d (h :: t) = if h.head? = some 35 then d else if h = Jcv then ⟨Jbd d.parts t, d.pipes⟩ else if h = Jde then ⟨d.parts, Jbj d t⟩ else d := rfl
theorem Jqg (s : Txt) (b : UInt8) (hs : s.length < 4611686018427387904) : Pure Tryz.prog GL 45 [.p (.str s), .p (.str [b])] (.p (.bool (decide (s.head? = some b)))) := by
 refine Pure.of_walk (N := 8) Tryz.func45 rfl rfl rfl (by simp) (by first | (simp; done) | simp [*]) ?_
 simp
 refine Jab (Jpy s b hs) ?_
 simp [Jaa]
end Go.Am
namespace Go.Am
open Go Go.Proofs Go.Pn
theorem Jve {t : Txt} (h : t ≠ []) : (([10] : Txt).length <= t.length /\ t.drop (t.length - ([10] : Txt).length) = [10]) ↔ t.getLast? = some 10 := by
 rcases List.eq_nil_or_concat t with rfl | ⟨u, x, rfl⟩
 . exact absurd rfl h
 . simp
theorem Juz (f : AV) : setA [] (.p (.str Jcv)) f = [(.p (.str Jcv), f)] := rfl
theorem Ju0 (f g : AV) : setA [(.p (.str Jcv), f)] (.p (.str Jde)) g = rdM f g := by
 rw [setA, if_neg (by simp [Jcv, Jde])]; rfl
theorem Jr3 (s : Txt) : Jcy Tryz.prog 9 [] (.p (.str s)) := ⟨_, Jg7, ⟨_, rfl⟩, fun e he => by cases he⟩
theorem Jr4 (s t : Txt) (f : AV) : Jcy Tryz.prog 9 [(.p (.str t), f)] (.p (.str s)) := ⟨_, Jg7, ⟨_, rfl⟩, fun e he => by
 simp only [List.mem_cons, List.not_mem_nil, or_false] at he; subst he; exact ⟨_, rfl⟩⟩
theorem Jr5 (s : Txt) (f g : AV) : Jcy Tryz.prog 9 (rdM f g) (.p (.str s)) := ⟨_, Jg7, ⟨_, rfl⟩, fun e he => by
 simp only [rdM, List.mem_cons, List.not_mem_nil, or_false] at he
 rcases he with rfl | rfl
 . exact ⟨_, rfl⟩
 . exact ⟨_, rfl⟩⟩
theorem Jt6 {t : Txt} (h1 : ¬ 16384 < t.length) (h2 : ¬ (linS t []).2 ≠ []) : prsE t = if runE noD (Ja0 t) ≠ 0 then runE noD (Ja0 t) else Jad (Jap (runD noD (Ja0 t))) := by
 unfold prsE
 rw [if_neg h1, if_neg h2]
theorem Jt7 {t : Txt} (h1 : ¬ 16384 < t.length) (h2 : ¬ (linS t []).2 ≠ []) : prsI t = if runE noD (Ja0 t) ≠ 0 then ((Jgf noD (Ja0 t) : Nat) : Int) else if Jad (Jap (runD noD (Ja0 t))) ≠ 0 then ((Ja0 t).length : Int) else 0 := by
 unfold prsI
 rw [if_neg h1, if_neg h2]
theorem Ju2 {d : Drf} (h1 : DrfOk d) (h2 : DrfSz d) (h3 : DrfIn d) : Sized (Jap d) := by
 refine ⟨?_, ?_, fun p hp => ?_⟩
 . have := h2.parts
   rw [(Jgh h1).length_eq]; omega
 . have := h2.pipes
   rw [<- Jie h1]
   show ((Jar Ja6 _).map _).length < _
   rw [List.length_map, Jea]
   show (d.pipes.map _).length < _
   rw [List.length_map]; omega
 . have := (Jfh (Jdq (h3.pe p ((Jgh h1).mem_iff.1 hp))).2.1).2.2
   omega
theorem Jsg (f g : AV) : Jaq (rdM f g) (.p (.str Jcv)) = some f := by simp [Jaq, rdM]
theorem Jsh (f g : AV) : Jaq (rdM f g) (.p (.str Jde)) = some g := by simp [Jaq, rdM, Jcv, Jde]
theorem Jsf {f g : AV} {s : Txt} (h1 : ¬ s = Jcv) (h2 : ¬ s = Jde) : Jaq (rdM f g) (.p (.str s)) = none := by
 have e1 : ¬ Jcv = s := fun h => h1 h.symm
 have e2 : ¬ Jde = s := fun h => h2 h.symm
 simp [Jaq, rdM, e1, e2]
set_option maxRecDepth 20000 in
theorem Jp5 (t : Txt) (hl : t.length < 4611686018427387904) : Pure Tryz.prog GL 17 [.p (.str t)] (.tup [(prsC t).av, .p (.int .i64 (prsI t)), .p (.int .i64 (prsE t))]) := by
 refine Pure.of_walk (N := 85) Tryz.func17 rfl rfl rfl (by simp) (by first | (simp; done) | simp [*]) ?_
 simp
 by_cases h1 : 16384 < t.length
 . have eE : prsE t = 17 := if_pos h1
   have eI : prsI t = 0 := if_pos h1
   have eC : prsC t = noC := by unfold prsC; rw [if_neg (by rw [eE]; decide)]
   have h1' : (16384 : Int) < t.length := by omega
   simp [h1', Jaa, eE, eI, eC, noC]
 . have h1' : ¬ ((16384 : Int) < t.length) := by omega
   simp [h1']
   by_cases h2 : t ≠ [] /\ ¬ t.getLast? = some 10
   . have hT : (linS t []).2 ≠ [] := fun h => h2.2 ((Jio h2.1).1 h)
     have eE : prsE t = 18 := by unfold prsE; rw [if_neg h1, if_pos hT]
     have eI : prsI t = 0 := by unfold prsI; rw [if_neg h1, if_pos hT]
     have eC : prsC t = noC := by unfold prsC; rw [if_neg (by rw [eE]; decide)]
     have h3 : decide (([10] : Txt).length <= t.length /\ t.drop (t.length - ([10] : Txt).length) = [10]) = false := decide_eq_false (fun h => h2.2 ((Jve h2.1).1 h))
     simp [h2.1]
     refine Jab (Jqh t [10] hl (by simp)) ?_
     rw [h3]
     simp [Jaa, eE, eI, eC, noC]
   . have hT : (linS t []).2 = [] := by
       by_cases h0 : t = []
       . rw [h0]; rfl
       . exact (Jio h0).2 (Classical.byContradiction fun h => h2 ⟨h0, h⟩)
     by_cases h0 : t = []
     . have h0' : (t = []) = True := eq_true h0
       simp [h0']
       refine Ja4 (Jij _ _) ?_
       simp
       have eP : ([112, 97, 114, 116] : Txt) = Jcv := rfl
       have eQ : ([112, 105, 112, 101] : Txt) = Jde := rfl
       rw [eP, eQ, Juz, Ju0]
       refine ⟨Jr3 _, Jr4 _ _ _, ?_⟩
       refine Ja4 (Jri t _ _) ?_
       simp
       refine Jed.leads (st2 := ⟨[(38, .fn (.func 147) [.ptr 9 1 0 0]), (7, .ptr 8 1 0 0), (6, .ptr 7 1 0 0), (5, .ptr 5 2 0 0), (4, .ptr 2 1 0 0), (3, .ptr 1 1 0 0), (2, .ptr 0 2 0 0)],
         [(0, some zerC), (1, some (intC 0)), (2, some (intC 0)), (3, some (pmC ⟨noD, 0, 0, 0⟩)), (4, some (pqC ⟨noD, 0, 0, 0⟩)), (5, some (drC 3 4)), (6, some (rdC 5)), (7, some (rcC 6)), (8, some (intC 0)), (9, some (.cells 1 [[.p (.str t)]]))], 10⟩) ?_ rfl ?_
       . refine Leads.subx (ρ := List.range 10) ?_
         simp [zerC, intC, pmC, pqC, drC, rdC, rcC, noD, Jas, Jaw, rdM]
         decide
       have hlines : txtL (Ja0 t) = t := Jlr hT
       have hlen : ∀ l ∈ Ja0 t, l.length <= 16384 := fun l hl => by have := Jkw (s := t) (cur := []) hl; simp at this; omega
       have hcnt : (Ja0 t).length <= 16384 := by have := Jkv (s := t) (cur := []); unfold Ja0; omega
       refine Jed.intro [2, 3, 4, 5, 6, 7] Tryz.func147 rfl rfl fun l0 fn => ?_
       refine ⟨_, _, _, _, jmpL (pRun ⟨noD, 0, 0, 0⟩ 0 (Ja0 t)).e, Jrj (i := ⟨l0, 85, fn, #[39, 40], _, _⟩) (ok := okP)
         ?_ (Ja0 t) ⟨noD, 0, 0, 0⟩ _ _ 0 1 2 3 4 5 6 7 8 10 9 ?_ ?_ ?_ (by simp) (by simp) rfl rfl rfl rfl rfl rfl rfl rfl rfl rfl rfl (by rw [hlines]; rfl), rfl, ?_⟩
       . intro g k l s nx b0 b1 b2 m q d r b7 b8 lam hok hnd hlt e0 e1 e2 e3 e4 e5 e6 e7 e8 e9
         obtain ⟨hD1, hD2, hl1, hk1, ge, hD3⟩ := hok
         have hnd2 : [b0, b1, b2, m, q, d, r, b7, b8].Nodup := (List.nodup_cons.1 hnd).2
         have hlt2 : ∀ b ∈ [b0, b1, b2, m, q, d, r, b7, b8], b < nx := fun b hb => hlt b (List.mem_cons_of_mem _ hb)
         refine GivesY.of_walk (σ := [b0, b1, b2, m, q, d, r, b7, b8]) (t0 := linT 0 1 2 5 7 8) (args := [.p (.int .i64 k), .p (.str l)]) (free := []) (m := 9) (x := 0) (j := jmpL (linE g.D l))
           (s0 := [(0, some zerC), (1, some (intC g.i)), (2, some (intC g.e)), (3, some (pmC g)), (4, some (pqC g)), (5, some (drC 3 4)), (6, some (rdC 5)), (7, some (rcC 6)), (8, some (intC g.n))])
           (s1 := [(1, some (intC (Jak g k l).i)), (2, some (intC (Jak g k l).e)), (3, some (pmC (Jak g k l))), (4, some (pqC (Jak g k l))), (8, some (intC (Jak g k l).n))])
           (up1 := [(b1, some (intC (Jak g k l).i)), (b2, some (intC (Jak g k l).e)), (m, some (pmC (Jak g k l))), (q, some (pqC (Jak g k l))), (b8, some (intC (Jak g k l).n))])
           (fun _ => []) rfl ⟨?_, rfl, hnd2, hlt2, rfl⟩ e9 (List.nodup_cons.1 hnd).1 (hlt lam (by simp)) rfl rfl (by simp) (by simp) (by simp [-renB]) ?_
         . have f5 : renB [b0, b1, b2, m, q, d, r, b7, b8] (drC 3 4) = some (drC m q) := rfl
           have f6 : renB [b0, b1, b2, m, q, d, r, b7, b8] (rdC 5) = some (rdC d) := rfl
           have f7 : renB [b0, b1, b2, m, q, d, r, b7, b8] (rcC 6) = some (rcC r) := rfl
           simp [-renB, e0, e1, e2, e3, e4, e5, e6, e7, e8, f5, f6, f7]
         . simp [Ji4, linT, intC]
           refine ⟨wrap_i64 (by omega) (by omega), ?_⟩
           refine Jab (Jp1 l (by omega)) ?_
           cases hf : fldR l with
           | nil =>
             have z1 : linE g.D l = 0 := by unfold linE; rw [hf]; rfl
             have z2 : Jak g k l = ⟨g.D, k + 1, 0, g.i⟩ := by unfold Jak; rw [z1]; simp; unfold Jbt; rw [hf]; rfl
             rw [z1, z2]
             simp [-renB]
             refine Jcr.of ?_
             have q5 : renB (List.range 9) (drC 3 4) = some (drC 3 4) := rfl
             have q6 : renB (List.range 9) (rdC 5) = some (rdC 5) := rfl
             have q7 : renB (List.range 9) (rcC 6) = some (rcC 6) := rfl
             have q3 : pmC ⟨g.D, k + 1, 0, g.i⟩ = pmC g := rfl
             have q4 : pqC ⟨g.D, k + 1, 0, g.i⟩ = pqC g := rfl
             have hi : ∀ n, ABlk.cells 1 [[AV.p (PV.int IntKind.i64 n)]] = intC n := fun _ => rfl
             rw [q3, q4, ge]
             simp only [hi]
             simp [-renB, Jc7, jmpL, Jbr, q5, q6, q7]
             decide
           | cons w0 ws =>
             have hsz : ∀ x ∈ w0 :: ws, x.length <= 100000 := fun x hx => by
               have h1 := Jra (l := l) (w := x) (by rw [hf]; exact hx)
               omega
             have hcn : ws.length <= 99999 := by
               have h1 := @Jq9 l
               rw [hf] at h1
               simp only [List.length_cons] at h1
               omega
             have hw1 : ¬ ((ws.length : Int) + 1 = 0) := by omega
             simp [-renB, hw1]
             refine Jab (Jqg w0 35 (by have := hsz w0 (by simp); omega)) ?_
             by_cases c1 : w0.head? = some 35
             . have z1 : linE g.D l = 0 := by unfold linE; rw [hf]; exact if_pos c1
               have z2 : Jak g k l = ⟨g.D, k + 1, 0, g.i⟩ := by unfold Jak; rw [z1]; simp; unfold Jbt; rw [hf]; exact if_pos c1
               rw [z1, z2]
               simp [-renB, c1]
               refine Jcr.of ?_
               have q5 : renB (List.range 9) (drC 3 4) = some (drC 3 4) := rfl
               have q6 : renB (List.range 9) (rdC 5) = some (rdC 5) := rfl
               have q7 : renB (List.range 9) (rcC 6) = some (rcC 6) := rfl
               have q3 : pmC ⟨g.D, k + 1, 0, g.i⟩ = pmC g := rfl
               have q4 : pqC ⟨g.D, k + 1, 0, g.i⟩ = pqC g := rfl
               have hi : ∀ n, ABlk.cells 1 [[AV.p (PV.int IntKind.i64 n)]] = intC n := fun _ => rfl
               rw [q3, q4, ge]
               simp only [hi]
               simp [-renB, Jc7, jmpL, Jbr, q5, q6, q7]
               decide
             . simp [-renB, c1]
               refine Jai.intro (by kernel_rfl) ?_
               simp [-renB, rcC, rdC]
               refine ⟨Jr5 _ _ _, rfl, ?_⟩
               have q5 : renB (List.range 9) (drC 3 4) = some (drC 3 4) := rfl
               have q6 : renB (List.range 9) (rdC 5) = some (rdC 5) := rfl
               have q7 : renB (List.range 9) (rcC 6) = some (rcC 6) := rfl
               have hi : ∀ n, ABlk.cells 1 [[AV.p (PV.int IntKind.i64 n)]] = intC n := fun _ => rfl
               have hz : ABlk.cells 2 [[AV.nils, AV.nils]] = zerC := rfl
               have h6 : ABlk.map (rdM (AV.fn (Fn.via 0 #[] 66 true) [AV.ptr 5 2 0 0]) (AV.fn (Fn.via 0 #[] 67 true) [AV.ptr 5 2 0 0])) = rdC 5 := rfl
               have h7 : ABlk.cells 1 [[AV.map 6]] = rcC 6 := rfl
               by_cases c2 : w0 = Jcv
               . subst c2
                 rw [Jsg]
                 simp [-renB, hit]
                 refine ⟨.of (by kernel_rfl), ?_⟩
                 have hw2 : (1 : Int) <= (ws.length : Int) + 1 := by omega
                 simp [-renB, hw2]
                 refine Ja4 (Jrk g.D.parts ws (fun x hx => hsz x (by simp [hx])) (by omega) _ _ 5 3 4 (Jaw (g.D.pipes.map ordX)) (by simp) (by simp) (by simp) rfl rfl rfl) ?_
                 have z1 : linE g.D l = Jco g.D.parts ws := by
                   unfold linE; rw [hf, Jhx, if_neg c1, if_pos rfl]
                 have z3 : Jbt g.D l = ⟨Jbd g.D.parts ws, g.D.pipes⟩ := by
                   unfold Jbt; rw [hf, Jhy, if_neg c1, if_pos rfl]
                 by_cases e0 : Jco g.D.parts ws = 0
                 . rw [e0] at z1
                   have z2 : Jak g k l = ⟨⟨Jbd g.D.parts ws, g.D.pipes⟩, k + 1, 0, g.i⟩ := by unfold Jak; rw [z1, z3]; rfl
                   rw [z1, z2]
                   simp [-renB, e0]
                   refine Jcr.of ?_
                   have q3 : ABlk.map (Jas (Jbd g.D.parts ws)) = pmC ⟨⟨Jbd g.D.parts ws, g.D.pipes⟩, k + 1, 0, g.i⟩ := rfl
                   have q4 : pqC ⟨⟨Jbd g.D.parts ws, g.D.pipes⟩, k + 1, 0, g.i⟩ = pqC g := rfl
                   rw [q4, ge]
                   simp only [hi, hz, h6, h7, q3]
                   simp [-renB, Jc7, jmpL, Jbr, q5, q6, q7]
                   decide
                 . have z2 : Jak g k l = ⟨⟨Jbd g.D.parts ws, g.D.pipes⟩, k + 1, Jco g.D.parts ws, k⟩ := by unfold Jak; rw [z1, z3, if_neg e0]
                   rw [z1, z2]
                   simp [-renB, e0, zerC, intC]
                   refine Jcr.of ?_
                   have q3 : ABlk.map (Jas (Jbd g.D.parts ws)) = pmC ⟨⟨Jbd g.D.parts ws, g.D.pipes⟩, k + 1, Jco g.D.parts ws, k⟩ := rfl
                   have q4 : pqC ⟨⟨Jbd g.D.parts ws, g.D.pipes⟩, k + 1, Jco g.D.parts ws, k⟩ = pqC g := rfl
                   rw [q4]
                   simp only [hi, hz, h6, h7, q3]
                   simp [-renB, Jc7, jmpL, Jbr, q5, q6, q7, e0]
                   decide
               by_cases c3 : w0 = Jde
               . subst c3
                 rw [Jsh]
                 simp [-renB, hit]
                 refine ⟨.of (by kernel_rfl), ?_⟩
                 have hw2 : (1 : Int) <= (ws.length : Int) + 1 := by omega
                 simp [-renB, hw2]
                 refine Ja4 (Jrl g.D ws (fun p hp => (Jdq (hD3.pe p hp)).1) (fun x hx => hsz x (by simp [hx])) (by omega) _ _ 5 3 4 (by simp) (by simp) rfl rfl rfl) ?_
                 have z1 : linE g.D l = Jc3 g.D ws := by
                   unfold linE; rw [hf, Jhx, if_neg c1, if_neg c2, if_pos rfl]
                 have z3 : Jbt g.D l = ⟨g.D.parts, Jbj g.D ws⟩ := by
                   unfold Jbt; rw [hf, Jhy, if_neg c1, if_neg c2, if_pos rfl]
                 by_cases e0 : Jc3 g.D ws = 0
                 . rw [e0] at z1
                   have z2 : Jak g k l = ⟨⟨g.D.parts, Jbj g.D ws⟩, k + 1, 0, g.i⟩ := by unfold Jak; rw [z1, z3]; rfl
                   rw [z1, z2]
                   simp [-renB, e0]
                   refine Jcr.of ?_
                   have q3 : pmC ⟨⟨g.D.parts, Jbj g.D ws⟩, k + 1, 0, g.i⟩ = pmC g := rfl
                   have q4 : ABlk.map (Jaw ((Jbj g.D ws).map ordX)) = pqC ⟨⟨g.D.parts, Jbj g.D ws⟩, k + 1, 0, g.i⟩ := rfl
                   rw [q3, ge]
                   simp only [hi, hz, h6, h7, q4]
                   simp [-renB, Jc7, jmpL, Jbr, q5, q6, q7]
                   decide
                 . have z2 : Jak g k l = ⟨⟨g.D.parts, Jbj g.D ws⟩, k + 1, Jc3 g.D ws, k⟩ := by unfold Jak; rw [z1, z3, if_neg e0]
                   rw [z1, z2]
                   simp [-renB, e0, zerC, intC]
                   refine Jcr.of ?_
                   have q3 : pmC ⟨⟨g.D.parts, Jbj g.D ws⟩, k + 1, Jc3 g.D ws, k⟩ = pmC g := rfl
                   have q4 : ABlk.map (Jaw ((Jbj g.D ws).map ordX)) = pqC ⟨⟨g.D.parts, Jbj g.D ws⟩, k + 1, Jc3 g.D ws, k⟩ := rfl
                   rw [q3]
                   simp only [hi, hz, h6, h7, q4]
                   simp [-renB, Jc7, jmpL, Jbr, q5, q6, q7, e0]
                   decide
               . rw [Jsf c2 c3]
                 simp [-renB, hit]
                 refine ⟨.of (by kernel_rfl), ?_⟩
                 have z1 : linE g.D l = 4 := by
                   unfold linE; rw [hf, Jhx, if_neg c1, if_neg c2, if_neg c3]
                 have z3 : Jbt g.D l = g.D := by
                   unfold Jbt; rw [hf, Jhy, if_neg c1, if_neg c2, if_neg c3]
                 have z2 : Jak g k l = ⟨g.D, k + 1, 4, k⟩ := by unfold Jak; rw [z1, z3]; rfl
                 rw [z1, z2]
                 simp [-renB, zerC, intC]
                 refine Jcr.of ?_
                 have q3 : pmC ⟨g.D, k + 1, 4, k⟩ = pmC g := rfl
                 have q4 : pqC ⟨g.D, k + 1, 4, k⟩ = pqC g := rfl
                 rw [q3, q4]
                 simp only [hi, hz, h6, h7]
                 simp [-renB, Jc7, jmpL, Jbr, q5, q6, q7]
                 decide
       . exact Jof Jk3 Jk4 hlen (by omega) rfl Jk2
       . exact Jkx (by simp)
       . rw [hlines]; omega
       . obtain ⟨r1, r2, r3, r4⟩ := Jta (g := ⟨noD, 0, 0, 0⟩) (k := 0) (ls := Ja0 t) rfl rfl rfl
         have hRo := Jod (ls := Ja0 t) Jk3
         have hRs := Joe (ls := Ja0 t) Jk4
         have hRi := Joc (ls := Ja0 t) Jk2
         have hT' : ¬ (linS t []).2 ≠ [] := by simpa using hT
         have eE := Jt6 h1 hT'
         have eI := Jt7 h1 hT'
         simp only at r1 r2 r3 r4
         generalize pRun ⟨noD, 0, 0, 0⟩ 0 (Ja0 t) = R at r1 r2 r3 r4 ⊢
         by_cases hE : runE noD (Ja0 t) = 0
         . rw [if_neg (by simpa using hE)] at eE eI
           rw [hE] at r2
           rw [if_pos hE] at r3
           have r4' := r4 hE
           rw [Nat.zero_add] at r4'
           have hsz := Ju2 hRo hRs hRi
           have eC : prsC t = if Jad (Jap (runD noD (Ja0 t))) = 0 then Jap (runD noD (Ja0 t)) else noC := by unfold prsC; rw [eE]
           rw [<- r1] at eE eI eC hRo hRs hRi hsz
           rw [r2]
           show Jfk _ none _
           rw [Jfk]
           simp [-renB]
           refine Ja4 (Jii R.D.parts (R.D.pipes.map ordX) hRo.nd hRi.nx (by have := hRs.parts; omega) (by have := hRs.pipes; rw [List.length_map]; omega) _ _ 5 3 4 (by simp) (by simp) rfl rfl rfl) ?_
           rw [show Jd5 ⟨R.D.parts, R.D.pipes.map ordX⟩ = Jap R.D from Jie hRo]
           generalize Jap R.D = S at eE eI eC hsz ⊢
           simp [-renB, r4', intC]
           refine Jab (Jex S hsz) ?_
           by_cases hc : Jad S = 0
           . rw [if_pos hc] at eC
             rw [if_neg (by simpa using hc)] at eI
             rw [hc] at eE
             simp [-renB, hc, Jaa, eE, eI, eC, zerC]
           . rw [if_neg hc] at eC
             rw [if_pos hc] at eI
             simp [-renB, hc, zerC]
             refine Jai.intro (by kernel_rfl) ?_
             simp [-renB]
             refine ⟨.of (by kernel_rfl), ?_⟩
             simp [-renB, Jaa, eE, eI, eC, noC]
         . rw [if_pos hE] at eE eI
           rw [if_neg hE, Nat.zero_add] at r3
           have eC : prsC t = noC := by unfold prsC; rw [eE, if_neg hE]
           have r2' : jmpL R.e = some .ret := by unfold jmpL; rw [r2]; exact if_neg hE
           rw [r2']
           rw [Jfk]
           simp [-renB, Jaa, zerC, intC, r2, r3, eE, eI, eC, noC]
     . have h3 : decide (([10] : Txt).length <= t.length /\ t.drop (t.length - ([10] : Txt).length) = [10]) = true := decide_eq_true ((Jve h0).2 ((Jio h0).1 hT))
       simp [h0]
       refine Jab (Jqh t [10] hl (by simp)) ?_
       rw [h3]
       simp
       refine Ja4 (Jij _ _) ?_
       simp
       have eP : ([112, 97, 114, 116] : Txt) = Jcv := rfl
       have eQ : ([112, 105, 112, 101] : Txt) = Jde := rfl
       rw [eP, eQ, Juz, Ju0]
       refine ⟨Jr3 _, Jr4 _ _ _, ?_⟩
       refine Ja4 (Jri t _ _) ?_
       simp
       refine Jed.leads (st2 := ⟨[(38, .fn (.func 147) [.ptr 9 1 0 0]), (7, .ptr 8 1 0 0), (6, .ptr 7 1 0 0), (5, .ptr 5 2 0 0), (4, .ptr 2 1 0 0), (3, .ptr 1 1 0 0), (2, .ptr 0 2 0 0)],
         [(0, some zerC), (1, some (intC 0)), (2, some (intC 0)), (3, some (pmC ⟨noD, 0, 0, 0⟩)), (4, some (pqC ⟨noD, 0, 0, 0⟩)), (5, some (drC 3 4)), (6, some (rdC 5)), (7, some (rcC 6)), (8, some (intC 0)), (9, some (.cells 1 [[.p (.str t)]]))], 10⟩) ?_ rfl ?_
       . refine Leads.subx (ρ := List.range 10) ?_
         simp [zerC, intC, pmC, pqC, drC, rdC, rcC, noD, Jas, Jaw, rdM]
         decide
       have hlines : txtL (Ja0 t) = t := Jlr hT
       have hlen : ∀ l ∈ Ja0 t, l.length <= 16384 := fun l hl => by have := Jkw (s := t) (cur := []) hl; simp at this; omega
       have hcnt : (Ja0 t).length <= 16384 := by have := Jkv (s := t) (cur := []); unfold Ja0; omega
       refine Jed.intro [2, 3, 4, 5, 6, 7] Tryz.func147 rfl rfl fun l0 fn => ?_
       refine ⟨_, _, _, _, jmpL (pRun ⟨noD, 0, 0, 0⟩ 0 (Ja0 t)).e, Jrj (i := ⟨l0, 85, fn, #[39, 40], _, _⟩) (ok := okP)
         ?_ (Ja0 t) ⟨noD, 0, 0, 0⟩ _ _ 0 1 2 3 4 5 6 7 8 10 9 ?_ ?_ ?_ (by simp) (by simp) rfl rfl rfl rfl rfl rfl rfl rfl rfl rfl rfl (by rw [hlines]; rfl), rfl, ?_⟩
       . intro g k l s nx b0 b1 b2 m q d r b7 b8 lam hok hnd hlt e0 e1 e2 e3 e4 e5 e6 e7 e8 e9
         obtain ⟨hD1, hD2, hl1, hk1, ge, hD3⟩ := hok
         have hnd2 : [b0, b1, b2, m, q, d, r, b7, b8].Nodup := (List.nodup_cons.1 hnd).2
         have hlt2 : ∀ b ∈ [b0, b1, b2, m, q, d, r, b7, b8], b < nx := fun b hb => hlt b (List.mem_cons_of_mem _ hb)
         refine GivesY.of_walk (σ := [b0, b1, b2, m, q, d, r, b7, b8]) (t0 := linT 0 1 2 5 7 8) (args := [.p (.int .i64 k), .p (.str l)]) (free := []) (m := 9) (x := 0) (j := jmpL (linE g.D l))
           (s0 := [(0, some zerC), (1, some (intC g.i)), (2, some (intC g.e)), (3, some (pmC g)), (4, some (pqC g)), (5, some (drC 3 4)), (6, some (rdC 5)), (7, some (rcC 6)), (8, some (intC g.n))])
           (s1 := [(1, some (intC (Jak g k l).i)), (2, some (intC (Jak g k l).e)), (3, some (pmC (Jak g k l))), (4, some (pqC (Jak g k l))), (8, some (intC (Jak g k l).n))])
           (up1 := [(b1, some (intC (Jak g k l).i)), (b2, some (intC (Jak g k l).e)), (m, some (pmC (Jak g k l))), (q, some (pqC (Jak g k l))), (b8, some (intC (Jak g k l).n))])
           (fun _ => []) rfl ⟨?_, rfl, hnd2, hlt2, rfl⟩ e9 (List.nodup_cons.1 hnd).1 (hlt lam (by simp)) rfl rfl (by simp) (by simp) (by simp [-renB]) ?_
         . have f5 : renB [b0, b1, b2, m, q, d, r, b7, b8] (drC 3 4) = some (drC m q) := rfl
           have f6 : renB [b0, b1, b2, m, q, d, r, b7, b8] (rdC 5) = some (rdC d) := rfl
           have f7 : renB [b0, b1, b2, m, q, d, r, b7, b8] (rcC 6) = some (rcC r) := rfl
           simp [-renB, e0, e1, e2, e3, e4, e5, e6, e7, e8, f5, f6, f7]
         . simp [Ji4, linT, intC]
           refine ⟨wrap_i64 (by omega) (by omega), ?_⟩
           refine Jab (Jp1 l (by omega)) ?_
           cases hf : fldR l with
           | nil =>
             have z1 : linE g.D l = 0 := by unfold linE; rw [hf]; rfl
             have z2 : Jak g k l = ⟨g.D, k + 1, 0, g.i⟩ := by unfold Jak; rw [z1]; simp; unfold Jbt; rw [hf]; rfl
             rw [z1, z2]
             simp [-renB]
             refine Jcr.of ?_
             have q5 : renB (List.range 9) (drC 3 4) = some (drC 3 4) := rfl
             have q6 : renB (List.range 9) (rdC 5) = some (rdC 5) := rfl
             have q7 : renB (List.range 9) (rcC 6) = some (rcC 6) := rfl
             have q3 : pmC ⟨g.D, k + 1, 0, g.i⟩ = pmC g := rfl
             have q4 : pqC ⟨g.D, k + 1, 0, g.i⟩ = pqC g := rfl
             have hi : ∀ n, ABlk.cells 1 [[AV.p (PV.int IntKind.i64 n)]] = intC n := fun _ => rfl
             rw [q3, q4, ge]
             simp only [hi]
             simp [-renB, Jc7, jmpL, Jbr, q5, q6, q7]
             decide
           | cons w0 ws =>
             have hsz : ∀ x ∈ w0 :: ws, x.length <= 100000 := fun x hx => by
               have h1 := Jra (l := l) (w := x) (by rw [hf]; exact hx)
               omega
             have hcn : ws.length <= 99999 := by
               have h1 := @Jq9 l
               rw [hf] at h1
               simp only [List.length_cons] at h1
               omega
             have hw1 : ¬ ((ws.length : Int) + 1 = 0) := by omega
             simp [-renB, hw1]
             refine Jab (Jqg w0 35 (by have := hsz w0 (by simp); omega)) ?_
             by_cases c1 : w0.head? = some 35
             . have z1 : linE g.D l = 0 := by unfold linE; rw [hf]; exact if_pos c1
               have z2 : Jak g k l = ⟨g.D, k + 1, 0, g.i⟩ := by unfold Jak; rw [z1]; simp; unfold Jbt; rw [hf]; exact if_pos c1
               rw [z1, z2]
               simp [-renB, c1]
               refine Jcr.of ?_
               have q5 : renB (List.range 9) (drC 3 4) = some (drC 3 4) := rfl
               have q6 : renB (List.range 9) (rdC 5) = some (rdC 5) := rfl
               have q7 : renB (List.range 9) (rcC 6) = some (rcC 6) := rfl
               have q3 : pmC ⟨g.D, k + 1, 0, g.i⟩ = pmC g := rfl
               have q4 : pqC ⟨g.D, k + 1, 0, g.i⟩ = pqC g := rfl
               have hi : ∀ n, ABlk.cells 1 [[AV.p (PV.int IntKind.i64 n)]] = intC n := fun _ => rfl
               rw [q3, q4, ge]
               simp only [hi]
               simp [-renB, Jc7, jmpL, Jbr, q5, q6, q7]
               decide
             . simp [-renB, c1]
               refine Jai.intro (by kernel_rfl) ?_
               simp [-renB, rcC, rdC]
               refine ⟨Jr5 _ _ _, rfl, ?_⟩
               have q5 : renB (List.range 9) (drC 3 4) = some (drC 3 4) := rfl
               have q6 : renB (List.range 9) (rdC 5) = some (rdC 5) := rfl
               have q7 : renB (List.range 9) (rcC 6) = some (rcC 6) := rfl
               have hi : ∀ n, ABlk.cells 1 [[AV.p (PV.int IntKind.i64 n)]] = intC n := fun _ => rfl
               have hz : ABlk.cells 2 [[AV.nils, AV.nils]] = zerC := rfl
               have h6 : ABlk.map (rdM (AV.fn (Fn.via 0 #[] 66 true) [AV.ptr 5 2 0 0]) (AV.fn (Fn.via 0 #[] 67 true) [AV.ptr 5 2 0 0])) = rdC 5 := rfl
               have h7 : ABlk.cells 1 [[AV.map 6]] = rcC 6 := rfl
               by_cases c2 : w0 = Jcv
               . subst c2
                 rw [Jsg]
                 simp [-renB, hit]
                 refine ⟨.of (by kernel_rfl), ?_⟩
                 have hw2 : (1 : Int) <= (ws.length : Int) + 1 := by omega
                 simp [-renB, hw2]
                 refine Ja4 (Jrk g.D.parts ws (fun x hx => hsz x (by simp [hx])) (by omega) _ _ 5 3 4 (Jaw (g.D.pipes.map ordX)) (by simp) (by simp) (by simp) rfl rfl rfl) ?_
                 have z1 : linE g.D l = Jco g.D.parts ws := by
                   unfold linE; rw [hf, Jhx, if_neg c1, if_pos rfl]
                 have z3 : Jbt g.D l = ⟨Jbd g.D.parts ws, g.D.pipes⟩ := by
                   unfold Jbt; rw [hf, Jhy, if_neg c1, if_pos rfl]
                 by_cases e0 : Jco g.D.parts ws = 0
                 . rw [e0] at z1
                   have z2 : Jak g k l = ⟨⟨Jbd g.D.parts ws, g.D.pipes⟩, k + 1, 0, g.i⟩ := by unfold Jak; rw [z1, z3]; rfl
                   rw [z1, z2]
                   simp [-renB, e0]
                   refine Jcr.of ?_
                   have q3 : ABlk.map (Jas (Jbd g.D.parts ws)) = pmC ⟨⟨Jbd g.D.parts ws, g.D.pipes⟩, k + 1, 0, g.i⟩ := rfl
                   have q4 : pqC ⟨⟨Jbd g.D.parts ws, g.D.pipes⟩, k + 1, 0, g.i⟩ = pqC g := rfl
                   rw [q4, ge]
                   simp only [hi, hz, h6, h7, q3]
                   simp [-renB, Jc7, jmpL, Jbr, q5, q6, q7]
                   decide
                 . have z2 : Jak g k l = ⟨⟨Jbd g.D.parts ws, g.D.pipes⟩, k + 1, Jco g.D.parts ws, k⟩ := by unfold Jak; rw [z1, z3, if_neg e0]
                   rw [z1, z2]
                   simp [-renB, e0, zerC, intC]
                   refine Jcr.of ?_
                   have q3 : ABlk.map (Jas (Jbd g.D.parts ws)) = pmC ⟨⟨Jbd g.D.parts ws, g.D.pipes⟩, k + 1, Jco g.D.parts ws, k⟩ := rfl
                   have q4 : pqC ⟨⟨Jbd g.D.parts ws, g.D.pipes⟩, k + 1, Jco g.D.parts ws, k⟩ = pqC g := rfl
                   rw [q4]
                   simp only [hi, hz, h6, h7, q3]
                   simp [-renB, Jc7, jmpL, Jbr, q5, q6, q7, e0]
                   decide
               by_cases c3 : w0 = Jde
               . subst c3
                 rw [Jsh]
                 simp [-renB, hit]
                 refine ⟨.of (by kernel_rfl), ?_⟩
                 have hw2 : (1 : Int) <= (ws.length : Int) + 1 := by omega
                 simp [-renB, hw2]
                 refine Ja4 (Jrl g.D ws (fun p hp => (Jdq (hD3.pe p hp)).1) (fun x hx => hsz x (by simp [hx])) (by omega) _ _ 5 3 4 (by simp) (by simp) rfl rfl rfl) ?_
                 have z1 : linE g.D l = Jc3 g.D ws := by
                   unfold linE; rw [hf, Jhx, if_neg c1, if_neg c2, if_pos rfl]
                 have z3 : Jbt g.D l = ⟨g.D.parts, Jbj g.D ws⟩ := by
                   unfold Jbt; rw [hf, Jhy, if_neg c1, if_neg c2, if_pos rfl]
                 by_cases e0 : Jc3 g.D ws = 0
                 . rw [e0] at z1
                   have z2 : Jak g k l = ⟨⟨g.D.parts, Jbj g.D ws⟩, k + 1, 0, g.i⟩ := by unfold Jak; rw [z1, z3]; rfl
                   rw [z1, z2]
                   simp [-renB, e0]
                   refine Jcr.of ?_
                   have q3 : pmC ⟨⟨g.D.parts, Jbj g.D ws⟩, k + 1, 0, g.i⟩ = pmC g := rfl
                   have q4 : ABlk.map (Jaw ((Jbj g.D ws).map ordX)) = pqC ⟨⟨g.D.parts, Jbj g.D ws⟩, k + 1, 0, g.i⟩ := rfl
                   rw [q3, ge]
                   simp only [hi, hz, h6, h7, q4]
                   simp [-renB, Jc7, jmpL, Jbr, q5, q6, q7]
                   decide
                 . have z2 : Jak g k l = ⟨⟨g.D.parts, Jbj g.D ws⟩, k + 1, Jc3 g.D ws, k⟩ := by unfold Jak; rw [z1, z3, if_neg e0]
                   rw [z1, z2]
                   simp [-renB, e0, zerC, intC]
                   refine Jcr.of ?_
                   have q3 : pmC ⟨⟨g.D.parts, Jbj g.D ws⟩, k + 1, Jc3 g.D ws, k⟩ = pmC g := rfl
                   have q4 : ABlk.map (Jaw ((Jbj g.D ws).map ordX)) = pqC ⟨⟨g.D.parts, Jbj g.D ws⟩, k + 1, Jc3 g.D ws, k⟩ := rfl
                   rw [q3]
                   simp only [hi, hz, h6, h7, q4]
                   simp [-renB, Jc7, jmpL, Jbr, q5, q6, q7, e0]
                   decide
               . rw [Jsf c2 c3]
                 simp [-renB, hit]
                 refine ⟨.of (by kernel_rfl), ?_⟩
                 have z1 : linE g.D l = 4 := by
                   unfold linE; rw [hf, Jhx, if_neg c1, if_neg c2, if_neg c3]
                 have z3 : Jbt g.D l = g.D := by
                   unfold Jbt; rw [hf, Jhy, if_neg c1, if_neg c2, if_neg c3]
                 have z2 : Jak g k l = ⟨g.D, k + 1, 4, k⟩ := by unfold Jak; rw [z1, z3]; rfl
                 rw [z1, z2]
                 simp [-renB, zerC, intC]
                 refine Jcr.of ?_
                 have q3 : pmC ⟨g.D, k + 1, 4, k⟩ = pmC g := rfl
                 have q4 : pqC ⟨g.D, k + 1, 4, k⟩ = pqC g := rfl
                 rw [q3, q4]
                 simp only [hi, hz, h6, h7]
                 simp [-renB, Jc7, jmpL, Jbr, q5, q6, q7]
                 decide
       . exact Jof Jk3 Jk4 hlen (by omega) rfl Jk2
       . exact Jkx (by simp)
       . rw [hlines]; omega
       . obtain ⟨r1, r2, r3, r4⟩ := Jta (g := ⟨noD, 0, 0, 0⟩) (k := 0) (ls := Ja0 t) rfl rfl rfl
         have hRo := Jod (ls := Ja0 t) Jk3
         have hRs := Joe (ls := Ja0 t) Jk4
         have hRi := Joc (ls := Ja0 t) Jk2
         have hT' : ¬ (linS t []).2 ≠ [] := by simpa using hT
         have eE := Jt6 h1 hT'
         have eI := Jt7 h1 hT'
         simp only at r1 r2 r3 r4
         generalize pRun ⟨noD, 0, 0, 0⟩ 0 (Ja0 t) = R at r1 r2 r3 r4 ⊢
         by_cases hE : runE noD (Ja0 t) = 0
         . rw [if_neg (by simpa using hE)] at eE eI
           rw [hE] at r2
           rw [if_pos hE] at r3
           have r4' := r4 hE
           rw [Nat.zero_add] at r4'
           have hsz := Ju2 hRo hRs hRi
           have eC : prsC t = if Jad (Jap (runD noD (Ja0 t))) = 0 then Jap (runD noD (Ja0 t)) else noC := by unfold prsC; rw [eE]
           rw [<- r1] at eE eI eC hRo hRs hRi hsz
           rw [r2]
           show Jfk _ none _
           rw [Jfk]
           simp [-renB]
           refine Ja4 (Jii R.D.parts (R.D.pipes.map ordX) hRo.nd hRi.nx (by have := hRs.parts; omega) (by have := hRs.pipes; rw [List.length_map]; omega) _ _ 5 3 4 (by simp) (by simp) rfl rfl rfl) ?_
           rw [show Jd5 ⟨R.D.parts, R.D.pipes.map ordX⟩ = Jap R.D from Jie hRo]
           generalize Jap R.D = S at eE eI eC hsz ⊢
           simp [-renB, r4', intC]
           refine Jab (Jex S hsz) ?_
           by_cases hc : Jad S = 0
           . rw [if_pos hc] at eC
             rw [if_neg (by simpa using hc)] at eI
             rw [hc] at eE
             simp [-renB, hc, Jaa, eE, eI, eC, zerC]
           . rw [if_neg hc] at eC
             rw [if_pos hc] at eI
             simp [-renB, hc, zerC]
             refine Jai.intro (by kernel_rfl) ?_
             simp [-renB]
             refine ⟨.of (by kernel_rfl), ?_⟩
             simp [-renB, Jaa, eE, eI, eC, noC]
         . rw [if_pos hE] at eE eI
           rw [if_neg hE, Nat.zero_add] at r3
           have eC : prsC t = noC := by unfold prsC; rw [eE, if_neg hE]
           have r2' : jmpL R.e = some .ret := by unfold jmpL; rw [r2]; exact if_neg hE
           rw [r2']
           rw [Jfk]
           simp [-renB, Jaa, zerC, intC, r2, r3, eE, eI, eC, noC]
end Go.Am
