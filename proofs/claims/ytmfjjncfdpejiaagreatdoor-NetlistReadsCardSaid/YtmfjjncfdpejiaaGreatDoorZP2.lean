/- Lemmas and contracts for the proof of a statement of this seat. -/
import Derived.Test.YtmfjjncfdpejiaaGreatDoorZP1
import Derived.Test.YtmfjjncfdpejiaaGreatDoorZN4
import Derived.Test.YtmfjjncfdpejiaaGreatDoorZA7
import Derived.Test.YtmfjjncfdpejiaaGreatDoorZN8
set_option linter.unusedVariables false
set_option linter.unusedSimpArgs false
namespace Go.Am
open Go Go.Proofs Go.Pn
structure PSt where
 D : Drf
 n : Int
 e : Int
 i : Int
def Jai (g : PSt) (k : Nat) (l : Txt) : PSt := ⟨Jbs g.D l, k + 1, linE g.D l, if linE g.D l = 0 then g.i else k⟩
def intC (n : Int) : ABlk := .cells 1 [[.p (.int .i64 n)]]
def zerC : ABlk := .cells 2 [[.nils, .nils]]
def drC (m q : Nat) : ABlk := .cells 2 [[.map m, .map q]]
def pmC (g : PSt) : ABlk := .map (Jap g.D.parts)
def pqC (g : PSt) : ABlk := .map (Jau (g.D.pipes.map ordX))
def rdM (f g : AV) : List (AV × AV) := [(.p (.str Jbv), f), (.p (.str Jb7), g)]
def rdC (d : Nat) : ABlk := .map (rdM (.fn (.via 0 #[] 66 true) [.ptr d 2 0 0]) (.fn (.via 0 #[] 67 true) [.ptr d 2 0 0]))
def rcC (r : Nat) : ABlk := .cells 1 [[.map r]]
def linT (b0 b1 b2 d b7 b8 : Nat) : Jaq := [(2, .ptr b0 2 0 0), (3, .ptr b1 1 0 0), (4, .ptr b2 1 0 0), (5, .ptr d 2 0 0), (6, .ptr b7 1 0 0), (7, .ptr b8 1 0 0)]
@[simp] theorem J84 {ρ : List Nat} {n : Int} : renB ρ (intC n) = some (intC n) := rfl
@[simp] theorem Kg1 {ρ : List Nat} : renB ρ zerC = some zerC := rfl
@[simp] theorem J9j {ρ : List Nat} {g : PSt} : renB ρ (pmC g) = some (pmC g) := by simp [pmC]
@[simp] theorem J9m {ρ : List Nat} {g : PSt} : renB ρ (pqC g) = some (pqC g) := by simp [pqC]
def jmpL (e : Int) : Option Code := if e = 0 then none else some .ret
def Jw4 (i : LoopI) (ok : PSt -> Nat -> Txt -> Prop) : Prop :=
 ∀ (g : PSt) (k : Nat) (l : Txt) (s : Store) (nx b0 b1 b2 m q d r b7 b8 lam : Nat), ok g k l -> [lam, b0, b1, b2, m, q, d, r, b7, b8].Nodup -> (∀ b ∈ [lam, b0, b1, b2, m, q, d, r, b7, b8], b < nx) ->
   get s b0 = some zerC -> get s b1 = some (intC g.i) -> get s b2 = some (intC g.e) -> get s m = some (pmC g) -> get s q = some (pqC g) -> get s d = some (drC m q) -> get s r = some (rdC d) -> get s b7 = some (rcC r) -> get s b8 = some (intC g.n) ->
   get s lam = some (.loop i (linT b0 b1 b2 d b7 b8) none) ->
   GivesY Tryz.prog GL i.l [.p (.int .i64 k), .p (.str l)] s nx (.p (.bool (jmpL (linE g.D l)).isNone)) [lam, b0, b1, b2, m, q, d, r, b7, b8]
     [(lam, some (.loop i (linT b0 b1 b2 d b7 b8) (jmpL (linE g.D l)))), (b1, some (intC (Jai g k l).i)), (b2, some (intC (Jai g k l).e)), (m, some (pmC (Jai g k l))), (q, some (pqC (Jai g k l))), (b8, some (intC (Jai g k l).n))] nx
def pRun (g : PSt) (k : Nat) : List Txt -> PSt
 | [] => g
 | l :: ls => if linE g.D l = 0 then pRun (Jai g k l) (k + 1) ls else Jai g k l
theorem Jtq {g : PSt} {k : Nat} {ls : List Txt} (h : g.e = 0) (hi : g.i = 0) (hn : g.n = k) :
   (pRun g k ls).D = runD g.D ls /\ (pRun g k ls).e = runE g.D ls /\ (pRun g k ls).i = (if runE g.D ls = 0 then 0 else ((k + Jgo g.D ls : Nat) : Int)) /\ (runE g.D ls = 0 -> (pRun g k ls).n = ((k + ls.length : Nat) : Int)) := by
 induction ls generalizing g k with
 | nil => simp [pRun, runD, runE, Jgo, h, hi, hn]
 | cons l ls ih =>
   unfold pRun runD runE Jgo
   by_cases e : linE g.D l = 0
   . simp only [e, if_true]
     obtain ⟨a, b, c, d⟩ := ih (g := Jai g k l) (k := k + 1) e (by simp [Jai, e, hi]) (by simp [Jai])
     refine ⟨a, b, ?_, fun h2 => ?_⟩
     . rw [c]
       show (if runE (Jbs g.D l) ls = 0 then _ else _) = _
       by_cases z : runE (Jbs g.D l) ls = 0
       . simp [z]
       . rw [if_neg z, if_neg z]
         show (((k + 1) + Jgo (Jbs g.D l) ls : Nat) : Int) = _
         omega
     . rw [d h2]
       simp
       omega
   . simp [e, Jai]
end Go.Am
namespace Go.Am
open Go Go.Proofs Go.Pn
theorem Jz9 {l u : Txt} (h : ∀ b ∈ l, b ≠ 10) : cutB (l ++ 10 :: u) 10 = (l, u, true) := by
 have e : Lib.indexByte (l ++ 10 :: u) 10 = l.length := by
   rw [Jnn]
   refine Jey (k := l.length) (x := 10) (by simp) (by simp) fun j y hj hy => ?_
   rw [List.getElem?_append_left hj] at hy
   simpa using h y (List.mem_of_getElem? hy)
 unfold cutB
 rw [e, if_neg (by omega)]
 simp [List.drop_append]
def txtL (ls : List Txt) : Txt := ls.flatMap fun l => l ++ [10]
theorem Jjg {l : Txt} {ls : List Txt} : txtL (l :: ls) = l ++ 10 :: txtL ls := by simp [txtL]
def Jjt (ok : PSt -> Nat -> Txt -> Prop) (g : PSt) (k : Nat) : List Txt -> Prop
 | [] => True
 | l :: ls => ok g k l /\ (linE g.D l = 0 -> Jjt ok (Jai g k l) (k + 1) ls)
section
variable {i : LoopI} {ok : PSt -> Nat -> Txt -> Prop}
def Jhf (i : LoopI) (g : PSt) (t : Txt) : Store := [(0, some zerC), (1, some (intC g.i)), (2, some (intC g.e)), (3, some (pmC g)), (4, some (pqC g)), (5, some (drC 3 4)), (6, some (rdC 5)), (7, some (rcC 6)), (8, some (intC g.n)), (9, some (.loop i (linT 0 1 2 5 7 8) none)), (10, some (.cells 1 [[.p (.str t)]]))]
set_option maxRecDepth 20000 in
theorem Jru (hY : Jw4 i ok) (ls : List Txt) (g : PSt) (s : Store) (nx b0 b1 b2 m q d r b7 b8 lam bt : Nat) (hrun : Jjt ok g 0 ls) (hln : ∀ l ∈ ls, ∀ b ∈ l, b ≠ 10) (hl : (txtL ls).length <= 100000) (hnd : [b0, b1, b2, m, q, d, r, b7, b8, lam, bt].Nodup) (hlt : ∀ b ∈ [b0, b1, b2, m, q, d, r, b7, b8, lam, bt], b < nx) (hge : g.e = 0)
   (g0 : get s b0 = some zerC) (g1 : get s b1 = some (intC g.i)) (g2 : get s b2 = some (intC g.e)) (g3 : get s m = some (pmC g)) (g4 : get s q = some (pqC g)) (g5 : get s d = some (drC m q)) (g6 : get s r = some (rdC d)) (g7 : get s b7 = some (rcC r)) (g8 : get s b8 = some (intC g.n))
   (g9 : get s lam = some (.loop i (linT b0 b1 b2 d b7 b8) none)) (g10 : get s bt = some (.cells 1 [[.p (.str (txtL ls))]])) :
   Gives Tryz.prog GL 147 [.fn (.yield i.l) [], .ptr bt 1 0 0] s nx (.tup []) [b0, b1, b2, m, q, d, r, b7, b8, lam, bt]
     [(lam, some (.loop i (linT b0 b1 b2 d b7 b8) (jmpL (pRun g 0 ls).e))), (b1, some (intC (pRun g 0 ls).i)), (b2, some (intC (pRun g 0 ls).e)), (m, some (pmC (pRun g 0 ls))), (q, some (pqC (pRun g 0 ls))), (b8, some (intC (pRun g 0 ls).n)), (bt, none)] nx := by
 have hL : Jfn [b0, b1, b2, m, q, d, r, b7, b8, lam, bt] nx (Jhf i g (txtL ls)) s [.fn (.yield i.l) [], .ptr 10 1 0 0] [.fn (.yield i.l) [], .ptr bt 1 0 0] := by
   have e5 : renB [b0, b1, b2, m, q, d, r, b7, b8, lam, bt] (drC 3 4) = some (drC m q) := rfl
   have e6 : renB [b0, b1, b2, m, q, d, r, b7, b8, lam, bt] (rdC 5) = some (rdC d) := rfl
   have e7 : renB [b0, b1, b2, m, q, d, r, b7, b8, lam, bt] (rcC 6) = some (rcC r) := rfl
   have e9 : renB [b0, b1, b2, m, q, d, r, b7, b8, lam, bt] (.loop i (linT 0 1 2 5 7 8) none) = some (.loop i (linT b0 b1 b2 d b7 b8) none) := rfl
   have e10 : renB [b0, b1, b2, m, q, d, r, b7, b8, lam, bt] (.cells 1 [[.p (.str (txtL ls))]]) = some (.cells 1 [[.p (.str (txtL ls))]]) := rfl
   refine ⟨?_, rfl, hnd, hlt, rfl⟩
   simp [-renB, Jhf, g0, g1, g2, g3, g4, g5, g6, g7, g8, g9, g10, e5, e6, e7, e9, e10]
 refine Gives.mk_walkK (N := 23) (args := [.fn (.yield i.l) [], .ptr 10 1 0 0]) [b0, b1, b2, m, q, d, r, b7, b8, lam, bt] [10] (Jhf i g (txtL ls))
   [(9, some (.loop i (linT 0 1 2 5 7 8) (jmpL (pRun g 0 ls).e))), (1, some (intC (pRun g 0 ls).i)), (2, some (intC (pRun g 0 ls).e)), (3, some (pmC (pRun g 0 ls))), (4, some (pqC (pRun g 0 ls))), (8, some (intC (pRun g 0 ls).n))] 11 0 (.tup []) (fun _ => [])
   (up1 := [(lam, some (.loop i (linT b0 b1 b2 d b7 b8) (jmpL (pRun g 0 ls).e))), (b1, some (intC (pRun g 0 ls).i)), (b2, some (intC (pRun g 0 ls).e)), (m, some (pmC (pRun g 0 ls))), (q, some (pqC (pRun g 0 ls))), (b8, some (intC (pRun g 0 ls).n))])
   Tryz.func147 rfl rfl rfl (by simp) rfl hL (by simp) rfl ?_ (by simp) rfl ?_
 . have e9 : renB [b0, b1, b2, m, q, d, r, b7, b8, lam, bt] (.loop i (linT 0 1 2 5 7 8) (jmpL (pRun g 0 ls).e)) = some (.loop i (linT b0 b1 b2 d b7 b8) (jmpL (pRun g 0 ls).e)) := rfl
   simp [-renB, e9]
 simp [-renB, Jhf]
 have r5 : renB (List.range 11) (drC 3 4) = some (drC 3 4) := rfl
 have r6 : renB (List.range 11) (rdC 5) = some (rdC 5) := rfl
 have r7 : renB (List.range 11) (rcC 6) = some (rcC 6) := rfl
 have r9 : renB (List.range 11) (.loop i (linT 0 1 2 5 7 8) none) = some (.loop i (linT 0 1 2 5 7 8) none) := rfl
 have r10 : ∀ u : Txt, renB (List.range 11) (.cells 1 [[.p (.str u)]]) = some (.cells 1 [[.p (.str u)]]) := fun _ => rfl
 refine Jam.go [0, 1] [0, 5, 6, 7] 0 [] (fun _ => []) (fun _ (x : PSt × Nat × List Txt) => [(3, .p (.int .i64 x.2.1))]) (fun _ x => [(1, some (intC x.1.i)), (2, some (intC x.1.e)), (3, some (pmC x.1)), (4, some (pqC x.1)), (8, some (intC x.1.n)), (9, some (.loop i (linT 0 1 2 5 7 8) none)), (10, some (.cells 1 [[.p (.str (txtL x.2.2))]]))])
   (fun x => x.1.e = 0 /\ Jjt ok x.1 x.2.1 x.2.2 /\ pRun x.1 x.2.1 x.2.2 = pRun g 0 ls /\ (∀ l ∈ x.2.2, ∀ b ∈ l, b ≠ 10) /\ (txtL x.2.2).length <= 100000 /\ x.2.1 + (txtL x.2.2).length <= 100000) (fun x => x.2.2.length) (g, 0, ls) ⟨hge, hrun, rfl, hln, hl, by simpa using hl⟩ ?_ ?_
 . simp [-renB, r5, r6, r7, r9, r10]
   try decide
 rintro ⟨h, k, us⟩ ⟨k1, k2, k3, k4, k5, k6⟩
 simp only at k1 k2 k3 k4 k5 k6
 simp [-renB]
 cases us with
 | nil =>
   have e0 : txtL [] = [] := rfl
   have e3 : pRun g 0 ls = h := k3.symm
   have hj : jmpL h.e = none := by rw [k1]; rfl
   simp [-renB, e0]
   rw [e3, hj]
   simp [-renB, Jhf, r5, r6, r7, r9]
   try decide
 | cons l us =>
   have e0 : ¬ txtL (l :: us) = [] := by rw [Jjg]; simp
   have hl2 : l.length <= 100000 := by rw [Jjg] at k5; simp at k5; omega
   simp [-renB, e0]
   refine Jab (Jqq (txtL (l :: us)) 10 (by omega)) ?_
   rw [show cutB (txtL (l :: us)) 10 = (l, txtL us, true) from by rw [Jjg]; exact Jz9 (k4 l (by simp))]
   simp [-renB]
   refine J78 (hY h k l _ _ 0 1 2 3 4 5 6 7 8 9 k2.1 (by simp) (by simp) rfl rfl rfl rfl rfl rfl rfl rfl rfl rfl) ?_
   by_cases e : linE h.D l = 0
   . have hj : jmpL (linE h.D l) = none := by rw [e]; rfl
     have h1 : (Jai h k l).e = 0 := e
     have h3 : pRun h k (l :: us) = pRun (Jai h k l) (k + 1) us := by rw [pRun, if_pos e]
     rw [hj]
     simp [-renB]
     have hlen : (txtL (l :: us)).length = l.length + 1 + (txtL us).length := by rw [Jjg]; simp; omega
     refine ⟨wrap_i64 (by omega) (by omega), Jai h k l, k + 1, us, ⟨h1, k2.2 e, by rw [<- h3]; exact k3, fun x hx b hb => k4 x (by simp [hx]) b hb, by omega, by omega⟩, by omega, by omega, ?_⟩
     simp [-renB, r5, r6, r7, r9, r10]
     try decide
   . have hj : jmpL (linE h.D l) = some .ret := by unfold jmpL; rw [if_neg e]
     have h3 : pRun g 0 ls = Jai h k l := by rw [<- k3, pRun, if_neg e]
     rw [hj, h3]
     have hj2 : jmpL (Jai h k l).e = some .ret := hj
     rw [hj2]
     have r9' : renB (List.range 11) (.loop i (linT 0 1 2 5 7 8) (some .ret)) = some (.loop i (linT 0 1 2 5 7 8) (some .ret)) := rfl
     simp [-renB, Jhf, r5, r6, r7, r9']
     try decide
end
end Go.Am
namespace Go.Am
open Go Go.Proofs Go.Pn
theorem Jly : ∀ {s cur : Txt}, (linS s cur).2 = [] -> txtL (linS s cur).1 = cur ++ s
 | [], cur, h => by
   have h : cur = [] := h
   subst h; rfl
 | b :: t, cur, h => by
   unfold linS at h ⊢
   by_cases e : b = 10
   . rw [if_pos e] at h ⊢
     have h2 : (linS t []).2 = [] := h
     show txtL (cur :: (linS t []).1) = _
     rw [Jjg, Jly h2, e]; rfl
   . rw [if_neg e] at h ⊢
     rw [Jly h]; simp
theorem Jk3 : ∀ {s cur : Txt}, (∀ b ∈ cur, b ≠ 10) -> ∀ l ∈ (linS s cur).1, ∀ b ∈ l, b ≠ 10
 | [], cur, _, l, h => by simp [linS] at h
 | b :: t, cur, hc, l, h => by
   unfold linS at h
   by_cases e : b = 10
   . rw [if_pos e] at h
     rcases List.mem_cons.1 h with rfl | h
     . exact hc
     . exact Jk3 (by simp) l h
   . rw [if_neg e] at h
     refine Jk3 (fun x hx => ?_) l h
     rcases List.mem_append.1 hx with hx | hx
     . exact hc x hx
     . rw [List.mem_singleton.1 hx]; exact e
theorem Jkj : ∀ {t cur w : Txt}, w ∈ fldG cur t -> w.length <= cur.length + t.length
 | [], cur, w, h => by
   unfold fldG at h
   split at h
   . cases h
   . rw [List.mem_singleton.1 h]; simp
 | b :: t, cur, w, h => by
   unfold fldG at h
   split at h
   . split at h
     . have := @Jkj t [] w h; simp only [List.length_nil, List.length_cons] at this ⊢; omega
     . rcases List.mem_cons.1 h with rfl | h
       . simp
       . have := @Jkj t [] w h; simp only [List.length_nil, List.length_cons] at this ⊢; omega
   . have := @Jkj t (cur ++ [b]) w h; simp only [List.length_append, List.length_nil, List.length_cons] at this ⊢; omega
theorem Jki : ∀ {t cur : Txt}, (fldG cur t).length <= t.length + 1
 | [], cur => by
   unfold fldG
   split <;> simp
 | b :: t, cur => by
   unfold fldG
   split
   . split
     . have := @Jki t []; simp only [List.length_cons] at this ⊢; omega
     . have := @Jki t []; simp only [List.length_cons] at this ⊢; omega
   . have := @Jki t (cur ++ [b]); simp only [List.length_cons] at this ⊢; omega
theorem Jrl {l w : Txt} (h : w ∈ fldR l) : w.length <= l.length := by
 rw [Jfx] at h
 simpa using Jkj h
theorem Jrk {l : Txt} : (fldR l).length <= l.length + 1 := by
 rw [Jfx]
 exact Jki
structure DrfIn (d : Drf) : Prop where
 nx : (d.pipes.map ordX).Nodup
 pe : ∀ p ∈ d.parts, Ja0 p = 0
theorem Jtt {ps : List Part} {a b : Txt} {o : Option Txt} (h : ∀ p ∈ ps, Ja0 p = 0) : ∀ p ∈ Ja6 ps a b o, Ja0 p = 0 := fun p hp => by
 unfold Ja6 at hp
 split at hp
 . rename_i e
   rcases List.mem_append.1 hp with hp | hp
   . exact h p hp
   . rw [List.mem_singleton.1 hp]
     unfold Jbc at e
     split at e
     . cases e
     . split at e
       . contradiction
       . split at e
         . contradiction
         . rename_i h3
           exact Classical.byContradiction h3
 . exact h p hp
theorem J44 {d : Drf} {a b : Txt} (h : (d.pipes.map ordX).Nodup) : ((Jb2 d a b).map ordX).Nodup := by
 unfold Jb2
 split
 . rename_i e
   rw [List.map_append, List.nodup_append]
   refine ⟨h, by simp, fun x hx y hy => ?_⟩
   simp [ordX] at hy
   subst hy
   intro e2
   subst e2
   unfold Jci at e
   split at e
   . contradiction
   . split at e
     . contradiction
     . split at e
       . cases e
       . rename_i h3
         exact h3 (.inr hx)
 . exact h
theorem Jpi {d : Drf} (h : DrfIn d) {w : List Txt} : DrfIn (Jbz d w) := by
 unfold Jbz
 split
 . exact h
 . split
   . exact h
   . split
     . refine ⟨h.nx, fun p hp => ?_⟩
       simp only [Ja8] at hp
       split at hp
       . exact Jtt h.pe p hp
       . exact Jtt h.pe p hp
       . exact h.pe p hp
     . split
       . refine ⟨?_, h.pe⟩
         simp only [Jbi]
         split
         . exact J44 h.nx
         . exact h.nx
       . exact h
theorem Jop : ∀ {ls : List Txt} {d : Drf}, DrfIn d -> DrfIn (runD d ls)
 | [], _, h => h
 | l :: ls, d, h => by
   unfold runD
   split
   . exact Jop (Jpi h)
   . exact Jpi h
theorem Jk7 : DrfIn noD := ⟨by simp [noD], by simp [noD]⟩
def okP (g : PSt) (k : Nat) (l : Txt) : Prop := DrfOk g.D /\ DrfSz g.D /\ l.length <= 16384 /\ k <= 16384 /\ g.e = 0 /\ DrfIn g.D
theorem Jos : ∀ {ls : List Txt} {g : PSt} {k : Nat}, DrfOk g.D -> DrfSz g.D -> (∀ l ∈ ls, l.length <= 16384) -> k + ls.length <= 16384 -> g.e = 0 -> DrfIn g.D -> Jjt okP g k ls
 | [], _, _, _, _, _, _, _, _ => trivial
 | l :: ls, g, k, h1, h2, h3, h4, h5, h6 => by
   refine ⟨⟨h1, h2, h3 l (by simp), by omega, h5, h6⟩, fun e => ?_⟩
   simp only [List.length_cons] at h4
   exact Jos (g := Jai g k l) (Jpj h1) (Jpk h2) (fun x hx => h3 x (by simp [hx])) (by omega) e (Jpi h6)
theorem Jh5 {d : Drf} {h : Txt} {t : List Txt} : Jd1 d (h :: t) = if h.head? = some 35 then 0 else if h = Jbv then Jct d.parts t else if h = Jb7 then Jdb d t else 4 := rfl
theorem Jh6 {d : Drf} {h : Txt} {t : List Txt} : Jbz d (h :: t) = if h.head? = some 35 then d else if h = Jbv then ⟨Ja8 d.parts t, d.pipes⟩ else if h = Jb7 then ⟨d.parts, Jbi d t⟩ else d := rfl
theorem Jqs (s : Txt) (b : UInt8) (hs : s.length < 4611686018427387904) : Pure Tryz.prog GL 45 [.p (.str s), .p (.str [b])] (.p (.bool (decide (s.head? = some b)))) := by
 refine Pure.of_walk (N := 8) Tryz.func45 rfl rfl rfl (by simp) (by first | (simp; done) | simp [*]) ?_
 simp
 refine Jab (Jqc s b hs) ?_
 simp [Jaa]
end Go.Am
namespace Go.Am
open Go Go.Proofs Go.Pn
theorem Jvw {t : Txt} (h : t ≠ []) : (([10] : Txt).length <= t.length /\ t.drop (t.length - ([10] : Txt).length) = [10]) ↔ t.getLast? = some 10 := by
 rcases List.eq_nil_or_concat t with rfl | ⟨u, x, rfl⟩
 . exact absurd rfl h
 . simp
theorem Jvf (f : AV) : setA [] (.p (.str Jbv)) f = [(.p (.str Jbv), f)] := rfl
theorem Jvg (f g : AV) : setA [(.p (.str Jbv), f)] (.p (.str Jb7)) g = rdM f g := by
 rw [setA, if_neg (by simp [Jbv, Jb7])]; rfl
theorem Jsg (s : Txt) : Jc2 Tryz.prog 9 [] (.p (.str s)) := ⟨_, Jhc, ⟨_, rfl⟩, fun e he => by cases he⟩
theorem Jsh (s t : Txt) (f : AV) : Jc2 Tryz.prog 9 [(.p (.str t), f)] (.p (.str s)) := ⟨_, Jhc, ⟨_, rfl⟩, fun e he => by
 simp only [List.mem_cons, List.not_mem_nil, or_false] at he; subst he; exact ⟨_, rfl⟩⟩
theorem Jsi (s : Txt) (f g : AV) : Jc2 Tryz.prog 9 (rdM f g) (.p (.str s)) := ⟨_, Jhc, ⟨_, rfl⟩, fun e he => by
 simp only [rdM, List.mem_cons, List.not_mem_nil, or_false] at he
 rcases he with rfl | rfl
 . exact ⟨_, rfl⟩
 . exact ⟨_, rfl⟩⟩
theorem Jui {t : Txt} (h1 : ¬ 16384 < t.length) (h2 : ¬ (linS t []).2 ≠ []) : prsE t = if runE noD (Jaw t) ≠ 0 then runE noD (Jaw t) else Jad (Jbe (runD noD (Jaw t))) := by
 unfold prsE
 rw [if_neg h1, if_neg h2]
theorem Juj {t : Txt} (h1 : ¬ 16384 < t.length) (h2 : ¬ (linS t []).2 ≠ []) : prsI t = if runE noD (Jaw t) ≠ 0 then ((Jgo noD (Jaw t) : Nat) : Int) else if Jad (Jbe (runD noD (Jaw t))) ≠ 0 then ((Jaw t).length : Int) else 0 := by
 unfold prsI
 rw [if_neg h1, if_neg h2]
theorem Jvi {d : Drf} (h1 : DrfOk d) (h2 : DrfSz d) (h3 : DrfIn d) : Sized (Jbe d) := by
 refine ⟨?_, ?_, fun p hp => ?_⟩
 . have := h2.parts
   rw [(Jhr h1).length_eq]; omega
 . have := h2.pipes
   rw [<- Jgh h1]
   show ((Jav Jba _).map _).length < _
   rw [List.length_map, Jez]
   show (d.pipes.map _).length < _
   rw [List.length_map]; omega
 . have := (Jen (Jc7 (h3.pe p ((Jhr h1).mem_iff.1 hp))).2.1).2.2
   omega
theorem Jsw (f g : AV) : Jao (rdM f g) (.p (.str Jbv)) = some f := by simp [Jao, rdM]
theorem Jsx (f g : AV) : Jao (rdM f g) (.p (.str Jb7)) = some g := by simp [Jao, rdM, Jbv, Jb7]
theorem Jsv {f g : AV} {s : Txt} (h1 : ¬ s = Jbv) (h2 : ¬ s = Jb7) : Jao (rdM f g) (.p (.str s)) = none := by
 have e1 : ¬ Jbv = s := fun h => h1 h.symm
 have e2 : ¬ Jb7 = s := fun h => h2 h.symm
 simp [Jao, rdM, e1, e2]
set_option maxRecDepth 20000 in
theorem Jqj (t : Txt) (hl : t.length < 4611686018427387904) : Pure Tryz.prog GL 17 [.p (.str t)] (.tup [(prsC t).av, .p (.int .i64 (prsI t)), .p (.int .i64 (prsE t))]) := by
 refine Pure.of_walk (N := 85) Tryz.func17 rfl rfl rfl (by simp) (by first | (simp; done) | simp [*]) ?_
 simp
 by_cases h1 : 16384 < t.length
 . have eE : prsE t = 17 := if_pos h1
   have eI : prsI t = 0 := if_pos h1
   have eC : prsC t = noC := by unfold prsC; rw [if_neg (by rw [eE]; decide)]
   have h1' : (16384 : Int) < t.length := by omega
   simp [h1', Jaa, eE, eI, eC, noC]
 . have h1' : ¬ ((16384 : Int) < t.length) := by omega
   simp [h1']
   by_cases h2 : t ≠ [] /\ ¬ t.getLast? = some 10
   . have hT : (linS t []).2 ≠ [] := fun h => h2.2 ((Jiu h2.1).1 h)
     have eE : prsE t = 18 := by unfold prsE; rw [if_neg h1, if_pos hT]
     have eI : prsI t = 0 := by unfold prsI; rw [if_neg h1, if_pos hT]
     have eC : prsC t = noC := by unfold prsC; rw [if_neg (by rw [eE]; decide)]
     have h3 : decide (([10] : Txt).length <= t.length /\ t.drop (t.length - ([10] : Txt).length) = [10]) = false := decide_eq_false (fun h => h2.2 ((Jvw h2.1).1 h))
     simp [h2.1]
     refine Jab (Jqt t [10] hl (by simp)) ?_
     rw [h3]
     simp [Jaa, eE, eI, eC, noC]
   . have hT : (linS t []).2 = [] := by
       by_cases h0 : t = []
       . rw [h0]; rfl
       . exact (Jiu h0).2 (Classical.byContradiction fun h => h2 ⟨h0, h⟩)
     by_cases h0 : t = []
     . have h0' : (t = []) = True := eq_true h0
       simp [h0']
       refine Ja7 (Jip _ _) ?_
       simp
       have eP : ([112, 97, 114, 116] : Txt) = Jbv := rfl
       have eQ : ([112, 105, 112, 101] : Txt) = Jb7 := rfl
       rw [eP, eQ, Jvf, Jvg]
       refine ⟨Jsg _, Jsh _ _ _, ?_⟩
       refine Ja7 (Jrt t _ _) ?_
       simp
       refine Jer.leads (st2 := ⟨[(38, .fn (.func 147) [.ptr 9 1 0 0]), (7, .ptr 8 1 0 0), (6, .ptr 7 1 0 0), (5, .ptr 5 2 0 0), (4, .ptr 2 1 0 0), (3, .ptr 1 1 0 0), (2, .ptr 0 2 0 0)],
         [(0, some zerC), (1, some (intC 0)), (2, some (intC 0)), (3, some (pmC ⟨noD, 0, 0, 0⟩)), (4, some (pqC ⟨noD, 0, 0, 0⟩)), (5, some (drC 3 4)), (6, some (rdC 5)), (7, some (rcC 6)), (8, some (intC 0)), (9, some (.cells 1 [[.p (.str t)]]))], 10⟩) ?_ rfl ?_
       . refine Leads.subx (ρ := List.range 10) ?_
         simp [zerC, intC, pmC, pqC, drC, rdC, rcC, noD, Jap, Jau, rdM]
         decide
       have hlines : txtL (Jaw t) = t := Jly hT
       have hlen : ∀ l ∈ Jaw t, l.length <= 16384 := fun l hl => by have := Jk2 (s := t) (cur := []) hl; simp at this; omega
       have hcnt : (Jaw t).length <= 16384 := by have := Jk1 (s := t) (cur := []); unfold Jaw; omega
       refine Jer.intro [2, 3, 4, 5, 6, 7] Tryz.func147 rfl rfl fun l0 fn => ?_
       refine ⟨_, _, _, _, jmpL (pRun ⟨noD, 0, 0, 0⟩ 0 (Jaw t)).e, Jru (i := ⟨l0, 85, fn, #[39, 40], _, _⟩) (ok := okP)
         ?_ (Jaw t) ⟨noD, 0, 0, 0⟩ _ _ 0 1 2 3 4 5 6 7 8 10 9 ?_ ?_ ?_ (by simp) (by simp) rfl rfl rfl rfl rfl rfl rfl rfl rfl rfl rfl (by rw [hlines]; rfl), rfl, ?_⟩
       . intro g k l s nx b0 b1 b2 m q d r b7 b8 lam hok hnd hlt e0 e1 e2 e3 e4 e5 e6 e7 e8 e9
         obtain ⟨hD1, hD2, hl1, hk1, ge, hD3⟩ := hok
         have hnd2 : [b0, b1, b2, m, q, d, r, b7, b8].Nodup := (List.nodup_cons.1 hnd).2
         have hlt2 : ∀ b ∈ [b0, b1, b2, m, q, d, r, b7, b8], b < nx := fun b hb => hlt b (List.mem_cons_of_mem _ hb)
         refine GivesY.of_walk (σ := [b0, b1, b2, m, q, d, r, b7, b8]) (t0 := linT 0 1 2 5 7 8) (args := [.p (.int .i64 k), .p (.str l)]) (free := []) (m := 9) (x := 0) (j := jmpL (linE g.D l))
           (s0 := [(0, some zerC), (1, some (intC g.i)), (2, some (intC g.e)), (3, some (pmC g)), (4, some (pqC g)), (5, some (drC 3 4)), (6, some (rdC 5)), (7, some (rcC 6)), (8, some (intC g.n))])
           (s1 := [(1, some (intC (Jai g k l).i)), (2, some (intC (Jai g k l).e)), (3, some (pmC (Jai g k l))), (4, some (pqC (Jai g k l))), (8, some (intC (Jai g k l).n))])
           (up1 := [(b1, some (intC (Jai g k l).i)), (b2, some (intC (Jai g k l).e)), (m, some (pmC (Jai g k l))), (q, some (pqC (Jai g k l))), (b8, some (intC (Jai g k l).n))])
           (fun _ => []) rfl ⟨?_, rfl, hnd2, hlt2, rfl⟩ e9 (List.nodup_cons.1 hnd).1 (hlt lam (by simp)) rfl rfl (by simp) (by simp) (by simp [-renB]) ?_
         . have f5 : renB [b0, b1, b2, m, q, d, r, b7, b8] (drC 3 4) = some (drC m q) := rfl
           have f6 : renB [b0, b1, b2, m, q, d, r, b7, b8] (rdC 5) = some (rdC d) := rfl
           have f7 : renB [b0, b1, b2, m, q, d, r, b7, b8] (rcC 6) = some (rcC r) := rfl
           simp [-renB, e0, e1, e2, e3, e4, e5, e6, e7, e8, f5, f6, f7]
         . simp [Ji6, linT, intC]
           refine ⟨wrap_i64 (by omega) (by omega), ?_⟩
           refine Jab (Jqf l (by omega)) ?_
           cases hf : fldR l with
           | nil =>
             have z1 : linE g.D l = 0 := by unfold linE; rw [hf]; rfl
             have z2 : Jai g k l = ⟨g.D, k + 1, 0, g.i⟩ := by unfold Jai; rw [z1]; simp; unfold Jbs; rw [hf]; rfl
             rw [z1, z2]
             simp [-renB]
             refine Jcv.of ?_
             have q5 : renB (List.range 9) (drC 3 4) = some (drC 3 4) := rfl
             have q6 : renB (List.range 9) (rdC 5) = some (rdC 5) := rfl
             have q7 : renB (List.range 9) (rcC 6) = some (rcC 6) := rfl
             have q3 : pmC ⟨g.D, k + 1, 0, g.i⟩ = pmC g := rfl
             have q4 : pqC ⟨g.D, k + 1, 0, g.i⟩ = pqC g := rfl
             have hi : ∀ n, ABlk.cells 1 [[AV.p (PV.int IntKind.i64 n)]] = intC n := fun _ => rfl
             rw [q3, q4, ge]
             simp only [hi]
             simp [-renB, Jde, jmpL, Jb0, q5, q6, q7]
             decide
           | cons w0 ws =>
             have hsz : ∀ x ∈ w0 :: ws, x.length <= 100000 := fun x hx => by
               have h1 := Jrl (l := l) (w := x) (by rw [hf]; exact hx)
               omega
             have hcn : ws.length <= 99999 := by
               have h1 := @Jrk l
               rw [hf] at h1
               simp only [List.length_cons] at h1
               omega
             have hw1 : ¬ ((ws.length : Int) + 1 = 0) := by omega
             simp [-renB, hw1]
             refine Jab (Jqs w0 35 (by have := hsz w0 (by simp); omega)) ?_
             by_cases c1 : w0.head? = some 35
             . have z1 : linE g.D l = 0 := by unfold linE; rw [hf]; exact if_pos c1
               have z2 : Jai g k l = ⟨g.D, k + 1, 0, g.i⟩ := by unfold Jai; rw [z1]; simp; unfold Jbs; rw [hf]; exact if_pos c1
               rw [z1, z2]
               simp [-renB, c1]
               refine Jcv.of ?_
               have q5 : renB (List.range 9) (drC 3 4) = some (drC 3 4) := rfl
               have q6 : renB (List.range 9) (rdC 5) = some (rdC 5) := rfl
               have q7 : renB (List.range 9) (rcC 6) = some (rcC 6) := rfl
               have q3 : pmC ⟨g.D, k + 1, 0, g.i⟩ = pmC g := rfl
               have q4 : pqC ⟨g.D, k + 1, 0, g.i⟩ = pqC g := rfl
               have hi : ∀ n, ABlk.cells 1 [[AV.p (PV.int IntKind.i64 n)]] = intC n := fun _ => rfl
               rw [q3, q4, ge]
               simp only [hi]
               simp [-renB, Jde, jmpL, Jb0, q5, q6, q7]
               decide
             . simp [-renB, c1]
               refine Jaj.intro (by kernel_rfl) ?_
               simp [-renB, rcC, rdC]
               refine ⟨Jsi _ _ _, rfl, ?_⟩
               have q5 : renB (List.range 9) (drC 3 4) = some (drC 3 4) := rfl
               have q6 : renB (List.range 9) (rdC 5) = some (rdC 5) := rfl
               have q7 : renB (List.range 9) (rcC 6) = some (rcC 6) := rfl
               have hi : ∀ n, ABlk.cells 1 [[AV.p (PV.int IntKind.i64 n)]] = intC n := fun _ => rfl
               have hz : ABlk.cells 2 [[AV.nils, AV.nils]] = zerC := rfl
               have h6 : ABlk.map (rdM (AV.fn (Fn.via 0 #[] 66 true) [AV.ptr 5 2 0 0]) (AV.fn (Fn.via 0 #[] 67 true) [AV.ptr 5 2 0 0])) = rdC 5 := rfl
               have h7 : ABlk.cells 1 [[AV.map 6]] = rcC 6 := rfl
               by_cases c2 : w0 = Jbv
               . subst c2
                 rw [Jsw]
                 simp [-renB, hit]
                 refine ⟨.of (by kernel_rfl), ?_⟩
                 have hw2 : (1 : Int) <= (ws.length : Int) + 1 := by omega
                 simp [-renB, hw2]
                 refine Ja7 (Jrv g.D.parts ws (fun x hx => hsz x (by simp [hx])) (by omega) _ _ 5 3 4 (Jau (g.D.pipes.map ordX)) (by simp) (by simp) (by simp) rfl rfl rfl) ?_
                 have z1 : linE g.D l = Jct g.D.parts ws := by
                   unfold linE; rw [hf, Jh5, if_neg c1, if_pos rfl]
                 have z3 : Jbs g.D l = ⟨Ja8 g.D.parts ws, g.D.pipes⟩ := by
                   unfold Jbs; rw [hf, Jh6, if_neg c1, if_pos rfl]
                 by_cases e0 : Jct g.D.parts ws = 0
                 . rw [e0] at z1
                   have z2 : Jai g k l = ⟨⟨Ja8 g.D.parts ws, g.D.pipes⟩, k + 1, 0, g.i⟩ := by unfold Jai; rw [z1, z3]; rfl
                   rw [z1, z2]
                   simp [-renB, e0]
                   refine Jcv.of ?_
                   have q3 : ABlk.map (Jap (Ja8 g.D.parts ws)) = pmC ⟨⟨Ja8 g.D.parts ws, g.D.pipes⟩, k + 1, 0, g.i⟩ := rfl
                   have q4 : pqC ⟨⟨Ja8 g.D.parts ws, g.D.pipes⟩, k + 1, 0, g.i⟩ = pqC g := rfl
                   rw [q4, ge]
                   simp only [hi, hz, h6, h7, q3]
                   simp [-renB, Jde, jmpL, Jb0, q5, q6, q7]
                   decide
                 . have z2 : Jai g k l = ⟨⟨Ja8 g.D.parts ws, g.D.pipes⟩, k + 1, Jct g.D.parts ws, k⟩ := by unfold Jai; rw [z1, z3, if_neg e0]
                   rw [z1, z2]
                   simp [-renB, e0, zerC, intC]
                   refine Jcv.of ?_
                   have q3 : ABlk.map (Jap (Ja8 g.D.parts ws)) = pmC ⟨⟨Ja8 g.D.parts ws, g.D.pipes⟩, k + 1, Jct g.D.parts ws, k⟩ := rfl
                   have q4 : pqC ⟨⟨Ja8 g.D.parts ws, g.D.pipes⟩, k + 1, Jct g.D.parts ws, k⟩ = pqC g := rfl
                   rw [q4]
                   simp only [hi, hz, h6, h7, q3]
                   simp [-renB, Jde, jmpL, Jb0, q5, q6, q7, e0]
                   decide
               by_cases c3 : w0 = Jb7
               . subst c3
                 rw [Jsx]
                 simp [-renB, hit]
                 refine ⟨.of (by kernel_rfl), ?_⟩
                 have hw2 : (1 : Int) <= (ws.length : Int) + 1 := by omega
                 simp [-renB, hw2]
                 refine Ja7 (Jrw g.D ws (fun p hp => (Jc7 (hD3.pe p hp)).1) (fun x hx => hsz x (by simp [hx])) (by omega) _ _ 5 3 4 (by simp) (by simp) rfl rfl rfl) ?_
                 have z1 : linE g.D l = Jdb g.D ws := by
                   unfold linE; rw [hf, Jh5, if_neg c1, if_neg c2, if_pos rfl]
                 have z3 : Jbs g.D l = ⟨g.D.parts, Jbi g.D ws⟩ := by
                   unfold Jbs; rw [hf, Jh6, if_neg c1, if_neg c2, if_pos rfl]
                 by_cases e0 : Jdb g.D ws = 0
                 . rw [e0] at z1
                   have z2 : Jai g k l = ⟨⟨g.D.parts, Jbi g.D ws⟩, k + 1, 0, g.i⟩ := by unfold Jai; rw [z1, z3]; rfl
                   rw [z1, z2]
                   simp [-renB, e0]
                   refine Jcv.of ?_
                   have q3 : pmC ⟨⟨g.D.parts, Jbi g.D ws⟩, k + 1, 0, g.i⟩ = pmC g := rfl
                   have q4 : ABlk.map (Jau ((Jbi g.D ws).map ordX)) = pqC ⟨⟨g.D.parts, Jbi g.D ws⟩, k + 1, 0, g.i⟩ := rfl
                   rw [q3, ge]
                   simp only [hi, hz, h6, h7, q4]
                   simp [-renB, Jde, jmpL, Jb0, q5, q6, q7]
                   decide
                 . have z2 : Jai g k l = ⟨⟨g.D.parts, Jbi g.D ws⟩, k + 1, Jdb g.D ws, k⟩ := by unfold Jai; rw [z1, z3, if_neg e0]
                   rw [z1, z2]
                   simp [-renB, e0, zerC, intC]
                   refine Jcv.of ?_
                   have q3 : pmC ⟨⟨g.D.parts, Jbi g.D ws⟩, k + 1, Jdb g.D ws, k⟩ = pmC g := rfl
                   have q4 : ABlk.map (Jau ((Jbi g.D ws).map ordX)) = pqC ⟨⟨g.D.parts, Jbi g.D ws⟩, k + 1, Jdb g.D ws, k⟩ := rfl
                   rw [q3]
                   simp only [hi, hz, h6, h7, q4]
                   simp [-renB, Jde, jmpL, Jb0, q5, q6, q7, e0]
                   decide
               . rw [Jsv c2 c3]
                 simp [-renB, hit]
                 refine ⟨.of (by kernel_rfl), ?_⟩
                 have z1 : linE g.D l = 4 := by
                   unfold linE; rw [hf, Jh5, if_neg c1, if_neg c2, if_neg c3]
                 have z3 : Jbs g.D l = g.D := by
                   unfold Jbs; rw [hf, Jh6, if_neg c1, if_neg c2, if_neg c3]
                 have z2 : Jai g k l = ⟨g.D, k + 1, 4, k⟩ := by unfold Jai; rw [z1, z3]; rfl
                 rw [z1, z2]
                 simp [-renB, zerC, intC]
                 refine Jcv.of ?_
                 have q3 : pmC ⟨g.D, k + 1, 4, k⟩ = pmC g := rfl
                 have q4 : pqC ⟨g.D, k + 1, 4, k⟩ = pqC g := rfl
                 rw [q3, q4]
                 simp only [hi, hz, h6, h7]
                 simp [-renB, Jde, jmpL, Jb0, q5, q6, q7]
                 decide
       . exact Jos Jk8 Jk9 hlen (by omega) rfl Jk7
       . exact Jk3 (by simp)
       . rw [hlines]; omega
       . obtain ⟨r1, r2, r3, r4⟩ := Jtq (g := ⟨noD, 0, 0, 0⟩) (k := 0) (ls := Jaw t) rfl rfl rfl
         have hRo := Joq (ls := Jaw t) Jk8
         have hRs := Jor (ls := Jaw t) Jk9
         have hRi := Jop (ls := Jaw t) Jk7
         have hT' : ¬ (linS t []).2 ≠ [] := by simpa using hT
         have eE := Jui h1 hT'
         have eI := Juj h1 hT'
         simp only at r1 r2 r3 r4
         generalize pRun ⟨noD, 0, 0, 0⟩ 0 (Jaw t) = R at r1 r2 r3 r4 ⊢
         by_cases hE : runE noD (Jaw t) = 0
         . rw [if_neg (by simpa using hE)] at eE eI
           rw [hE] at r2
           rw [if_pos hE] at r3
           have r4' := r4 hE
           rw [Nat.zero_add] at r4'
           have hsz := Jvi hRo hRs hRi
           have eC : prsC t = if Jad (Jbe (runD noD (Jaw t))) = 0 then Jbe (runD noD (Jaw t)) else noC := by unfold prsC; rw [eE]
           rw [<- r1] at eE eI eC hRo hRs hRi hsz
           rw [r2]
           show Jfo _ none _
           rw [Jfo]
           simp [-renB]
           refine Ja7 (Jkl R.D.parts (R.D.pipes.map ordX) hRo.nd hRi.nx (by have := hRs.parts; omega) (by have := hRs.pipes; rw [List.length_map]; omega) _ _ 5 3 4 (by simp) (by simp) rfl rfl rfl) ?_
           rw [show Jdp ⟨R.D.parts, R.D.pipes.map ordX⟩ = Jbe R.D from Jgh hRo]
           generalize Jbe R.D = S at eE eI eC hsz ⊢
           simp [-renB, r4', intC]
           refine Jab (Jeu S hsz) ?_
           by_cases hc : Jad S = 0
           . rw [if_pos hc] at eC
             rw [if_neg (by simpa using hc)] at eI
             rw [hc] at eE
             simp [-renB, hc, Jaa, eE, eI, eC, zerC]
           . rw [if_neg hc] at eC
             rw [if_pos hc] at eI
             simp [-renB, hc, zerC]
             refine Jaj.intro (by kernel_rfl) ?_
             simp [-renB]
             refine ⟨.of (by kernel_rfl), ?_⟩
             simp [-renB, Jaa, eE, eI, eC, noC]
         . rw [if_pos hE] at eE eI
           rw [if_neg hE, Nat.zero_add] at r3
           have eC : prsC t = noC := by unfold prsC; rw [eE, if_neg hE]
           have r2' : jmpL R.e = some .ret := by unfold jmpL; rw [r2]; exact if_neg hE
           rw [r2']
           rw [Jfo]
           simp [-renB, Jaa, zerC, intC, r2, r3, eE, eI, eC, noC]
     . have h3 : decide (([10] : Txt).length <= t.length /\ t.drop (t.length - ([10] : Txt).length) = [10]) = true := decide_eq_true ((Jvw h0).2 ((Jiu h0).1 hT))
       simp [h0]
       refine Jab (Jqt t [10] hl (by simp)) ?_
       rw [h3]
       simp
       refine Ja7 (Jip _ _) ?_
       simp
       have eP : ([112, 97, 114, 116] : Txt) = Jbv := rfl
       have eQ : ([112, 105, 112, 101] : Txt) = Jb7 := rfl
       rw [eP, eQ, Jvf, Jvg]
       refine ⟨Jsg _, Jsh _ _ _, ?_⟩
       refine Ja7 (Jrt t _ _) ?_
       simp
       refine Jer.leads (st2 := ⟨[(38, .fn (.func 147) [.ptr 9 1 0 0]), (7, .ptr 8 1 0 0), (6, .ptr 7 1 0 0), (5, .ptr 5 2 0 0), (4, .ptr 2 1 0 0), (3, .ptr 1 1 0 0), (2, .ptr 0 2 0 0)],
         [(0, some zerC), (1, some (intC 0)), (2, some (intC 0)), (3, some (pmC ⟨noD, 0, 0, 0⟩)), (4, some (pqC ⟨noD, 0, 0, 0⟩)), (5, some (drC 3 4)), (6, some (rdC 5)), (7, some (rcC 6)), (8, some (intC 0)), (9, some (.cells 1 [[.p (.str t)]]))], 10⟩) ?_ rfl ?_
       . refine Leads.subx (ρ := List.range 10) ?_
         simp [zerC, intC, pmC, pqC, drC, rdC, rcC, noD, Jap, Jau, rdM]
         decide
       have hlines : txtL (Jaw t) = t := Jly hT
       have hlen : ∀ l ∈ Jaw t, l.length <= 16384 := fun l hl => by have := Jk2 (s := t) (cur := []) hl; simp at this; omega
       have hcnt : (Jaw t).length <= 16384 := by have := Jk1 (s := t) (cur := []); unfold Jaw; omega
       refine Jer.intro [2, 3, 4, 5, 6, 7] Tryz.func147 rfl rfl fun l0 fn => ?_
       refine ⟨_, _, _, _, jmpL (pRun ⟨noD, 0, 0, 0⟩ 0 (Jaw t)).e, Jru (i := ⟨l0, 85, fn, #[39, 40], _, _⟩) (ok := okP)
         ?_ (Jaw t) ⟨noD, 0, 0, 0⟩ _ _ 0 1 2 3 4 5 6 7 8 10 9 ?_ ?_ ?_ (by simp) (by simp) rfl rfl rfl rfl rfl rfl rfl rfl rfl rfl rfl (by rw [hlines]; rfl), rfl, ?_⟩
       . intro g k l s nx b0 b1 b2 m q d r b7 b8 lam hok hnd hlt e0 e1 e2 e3 e4 e5 e6 e7 e8 e9
         obtain ⟨hD1, hD2, hl1, hk1, ge, hD3⟩ := hok
         have hnd2 : [b0, b1, b2, m, q, d, r, b7, b8].Nodup := (List.nodup_cons.1 hnd).2
         have hlt2 : ∀ b ∈ [b0, b1, b2, m, q, d, r, b7, b8], b < nx := fun b hb => hlt b (List.mem_cons_of_mem _ hb)
         refine GivesY.of_walk (σ := [b0, b1, b2, m, q, d, r, b7, b8]) (t0 := linT 0 1 2 5 7 8) (args := [.p (.int .i64 k), .p (.str l)]) (free := []) (m := 9) (x := 0) (j := jmpL (linE g.D l))
           (s0 := [(0, some zerC), (1, some (intC g.i)), (2, some (intC g.e)), (3, some (pmC g)), (4, some (pqC g)), (5, some (drC 3 4)), (6, some (rdC 5)), (7, some (rcC 6)), (8, some (intC g.n))])
           (s1 := [(1, some (intC (Jai g k l).i)), (2, some (intC (Jai g k l).e)), (3, some (pmC (Jai g k l))), (4, some (pqC (Jai g k l))), (8, some (intC (Jai g k l).n))])
           (up1 := [(b1, some (intC (Jai g k l).i)), (b2, some (intC (Jai g k l).e)), (m, some (pmC (Jai g k l))), (q, some (pqC (Jai g k l))), (b8, some (intC (Jai g k l).n))])
           (fun _ => []) rfl ⟨?_, rfl, hnd2, hlt2, rfl⟩ e9 (List.nodup_cons.1 hnd).1 (hlt lam (by simp)) rfl rfl (by simp) (by simp) (by simp [-renB]) ?_
         . have f5 : renB [b0, b1, b2, m, q, d, r, b7, b8] (drC 3 4) = some (drC m q) := rfl
           have f6 : renB [b0, b1, b2, m, q, d, r, b7, b8] (rdC 5) = some (rdC d) := rfl
           have f7 : renB [b0, b1, b2, m, q, d, r, b7, b8] (rcC 6) = some (rcC r) := rfl
           simp [-renB, e0, e1, e2, e3, e4, e5, e6, e7, e8, f5, f6, f7]
         . simp [Ji6, linT, intC]
           refine ⟨wrap_i64 (by omega) (by omega), ?_⟩
           refine Jab (Jqf l (by omega)) ?_
           cases hf : fldR l with
           | nil =>
             have z1 : linE g.D l = 0 := by unfold linE; rw [hf]; rfl
             have z2 : Jai g k l = ⟨g.D, k + 1, 0, g.i⟩ := by unfold Jai; rw [z1]; simp; unfold Jbs; rw [hf]; rfl
             rw [z1, z2]
             simp [-renB]
             refine Jcv.of ?_
             have q5 : renB (List.range 9) (drC 3 4) = some (drC 3 4) := rfl
             have q6 : renB (List.range 9) (rdC 5) = some (rdC 5) := rfl
             have q7 : renB (List.range 9) (rcC 6) = some (rcC 6) := rfl
             have q3 : pmC ⟨g.D, k + 1, 0, g.i⟩ = pmC g := rfl
             have q4 : pqC ⟨g.D, k + 1, 0, g.i⟩ = pqC g := rfl
             have hi : ∀ n, ABlk.cells 1 [[AV.p (PV.int IntKind.i64 n)]] = intC n := fun _ => rfl
             rw [q3, q4, ge]
             simp only [hi]
             simp [-renB, Jde, jmpL, Jb0, q5, q6, q7]
             decide
           | cons w0 ws =>
             have hsz : ∀ x ∈ w0 :: ws, x.length <= 100000 := fun x hx => by
               have h1 := Jrl (l := l) (w := x) (by rw [hf]; exact hx)
               omega
             have hcn : ws.length <= 99999 := by
               have h1 := @Jrk l
               rw [hf] at h1
               simp only [List.length_cons] at h1
               omega
             have hw1 : ¬ ((ws.length : Int) + 1 = 0) := by omega
             simp [-renB, hw1]
             refine Jab (Jqs w0 35 (by have := hsz w0 (by simp); omega)) ?_
             by_cases c1 : w0.head? = some 35
             . have z1 : linE g.D l = 0 := by unfold linE; rw [hf]; exact if_pos c1
               have z2 : Jai g k l = ⟨g.D, k + 1, 0, g.i⟩ := by unfold Jai; rw [z1]; simp; unfold Jbs; rw [hf]; exact if_pos c1
               rw [z1, z2]
               simp [-renB, c1]
               refine Jcv.of ?_
               have q5 : renB (List.range 9) (drC 3 4) = some (drC 3 4) := rfl
               have q6 : renB (List.range 9) (rdC 5) = some (rdC 5) := rfl
               have q7 : renB (List.range 9) (rcC 6) = some (rcC 6) := rfl
               have q3 : pmC ⟨g.D, k + 1, 0, g.i⟩ = pmC g := rfl
               have q4 : pqC ⟨g.D, k + 1, 0, g.i⟩ = pqC g := rfl
               have hi : ∀ n, ABlk.cells 1 [[AV.p (PV.int IntKind.i64 n)]] = intC n := fun _ => rfl
               rw [q3, q4, ge]
               simp only [hi]
               simp [-renB, Jde, jmpL, Jb0, q5, q6, q7]
               decide
             . simp [-renB, c1]
               refine Jaj.intro (by kernel_rfl) ?_
               simp [-renB, rcC, rdC]
               refine ⟨Jsi _ _ _, rfl, ?_⟩
               have q5 : renB (List.range 9) (drC 3 4) = some (drC 3 4) := rfl
               have q6 : renB (List.range 9) (rdC 5) = some (rdC 5) := rfl
               have q7 : renB (List.range 9) (rcC 6) = some (rcC 6) := rfl
               have hi : ∀ n, ABlk.cells 1 [[AV.p (PV.int IntKind.i64 n)]] = intC n := fun _ => rfl
               have hz : ABlk.cells 2 [[AV.nils, AV.nils]] = zerC := rfl
               have h6 : ABlk.map (rdM (AV.fn (Fn.via 0 #[] 66 true) [AV.ptr 5 2 0 0]) (AV.fn (Fn.via 0 #[] 67 true) [AV.ptr 5 2 0 0])) = rdC 5 := rfl
               have h7 : ABlk.cells 1 [[AV.map 6]] = rcC 6 := rfl
               by_cases c2 : w0 = Jbv
               . subst c2
                 rw [Jsw]
                 simp [-renB, hit]
                 refine ⟨.of (by kernel_rfl), ?_⟩
                 have hw2 : (1 : Int) <= (ws.length : Int) + 1 := by omega
                 simp [-renB, hw2]
                 refine Ja7 (Jrv g.D.parts ws (fun x hx => hsz x (by simp [hx])) (by omega) _ _ 5 3 4 (Jau (g.D.pipes.map ordX)) (by simp) (by simp) (by simp) rfl rfl rfl) ?_
                 have z1 : linE g.D l = Jct g.D.parts ws := by
                   unfold linE; rw [hf, Jh5, if_neg c1, if_pos rfl]
                 have z3 : Jbs g.D l = ⟨Ja8 g.D.parts ws, g.D.pipes⟩ := by
                   unfold Jbs; rw [hf, Jh6, if_neg c1, if_pos rfl]
                 by_cases e0 : Jct g.D.parts ws = 0
                 . rw [e0] at z1
                   have z2 : Jai g k l = ⟨⟨Ja8 g.D.parts ws, g.D.pipes⟩, k + 1, 0, g.i⟩ := by unfold Jai; rw [z1, z3]; rfl
                   rw [z1, z2]
                   simp [-renB, e0]
                   refine Jcv.of ?_
                   have q3 : ABlk.map (Jap (Ja8 g.D.parts ws)) = pmC ⟨⟨Ja8 g.D.parts ws, g.D.pipes⟩, k + 1, 0, g.i⟩ := rfl
                   have q4 : pqC ⟨⟨Ja8 g.D.parts ws, g.D.pipes⟩, k + 1, 0, g.i⟩ = pqC g := rfl
                   rw [q4, ge]
                   simp only [hi, hz, h6, h7, q3]
                   simp [-renB, Jde, jmpL, Jb0, q5, q6, q7]
                   decide
                 . have z2 : Jai g k l = ⟨⟨Ja8 g.D.parts ws, g.D.pipes⟩, k + 1, Jct g.D.parts ws, k⟩ := by unfold Jai; rw [z1, z3, if_neg e0]
                   rw [z1, z2]
                   simp [-renB, e0, zerC, intC]
                   refine Jcv.of ?_
                   have q3 : ABlk.map (Jap (Ja8 g.D.parts ws)) = pmC ⟨⟨Ja8 g.D.parts ws, g.D.pipes⟩, k + 1, Jct g.D.parts ws, k⟩ := rfl
                   have q4 : pqC ⟨⟨Ja8 g.D.parts ws, g.D.pipes⟩, k + 1, Jct g.D.parts ws, k⟩ = pqC g := rfl
                   rw [q4]
                   simp only [hi, hz, h6, h7, q3]
                   simp [-renB, Jde, jmpL, Jb0, q5, q6, q7, e0]
                   decide
               by_cases c3 : w0 = Jb7
               . subst c3
                 rw [Jsx]
                 simp [-renB, hit]
                 refine ⟨.of (by kernel_rfl), ?_⟩
                 have hw2 : (1 : Int) <= (ws.length : Int) + 1 := by omega
                 simp [-renB, hw2]
                 refine Ja7 (Jrw g.D ws (fun p hp => (Jc7 (hD3.pe p hp)).1) (fun x hx => hsz x (by simp [hx])) (by omega) _ _ 5 3 4 (by simp) (by simp) rfl rfl rfl) ?_
                 have z1 : linE g.D l = Jdb g.D ws := by
                   unfold linE; rw [hf, Jh5, if_neg c1, if_neg c2, if_pos rfl]
                 have z3 : Jbs g.D l = ⟨g.D.parts, Jbi g.D ws⟩ := by
                   unfold Jbs; rw [hf, Jh6, if_neg c1, if_neg c2, if_pos rfl]
                 by_cases e0 : Jdb g.D ws = 0
                 . rw [e0] at z1
                   have z2 : Jai g k l = ⟨⟨g.D.parts, Jbi g.D ws⟩, k + 1, 0, g.i⟩ := by unfold Jai; rw [z1, z3]; rfl
                   rw [z1, z2]
                   simp [-renB, e0]
                   refine Jcv.of ?_
                   have q3 : pmC ⟨⟨g.D.parts, Jbi g.D ws⟩, k + 1, 0, g.i⟩ = pmC g := rfl
                   have q4 : ABlk.map (Jau ((Jbi g.D ws).map ordX)) = pqC ⟨⟨g.D.parts, Jbi g.D ws⟩, k + 1, 0, g.i⟩ := rfl
                   rw [q3, ge]
                   simp only [hi, hz, h6, h7, q4]
                   simp [-renB, Jde, jmpL, Jb0, q5, q6, q7]
                   decide
                 . have z2 : Jai g k l = ⟨⟨g.D.parts, Jbi g.D ws⟩, k + 1, Jdb g.D ws, k⟩ := by unfold Jai; rw [z1, z3, if_neg e0]
                   rw [z1, z2]
                   simp [-renB, e0, zerC, intC]
                   refine Jcv.of ?_
                   have q3 : pmC ⟨⟨g.D.parts, Jbi g.D ws⟩, k + 1, Jdb g.D ws, k⟩ = pmC g := rfl
                   have q4 : ABlk.map (Jau ((Jbi g.D ws).map ordX)) = pqC ⟨⟨g.D.parts, Jbi g.D ws⟩, k + 1, Jdb g.D ws, k⟩ := rfl
                   rw [q3]
                   simp only [hi, hz, h6, h7, q4]
                   simp [-renB, Jde, jmpL, Jb0, q5, q6, q7, e0]
                   decide
               . rw [Jsv c2 c3]
                 simp [-renB, hit]
                 refine ⟨.of (by kernel_rfl), ?_⟩
                 have z1 : linE g.D l = 4 := by
                   unfold linE; rw [hf, Jh5, if_neg c1, if_neg c2, if_neg c3]
                 have z3 : Jbs g.D l = g.D := by
                   unfold Jbs; rw [hf, Jh6, if_neg c1, if_neg c2, if_neg c3]
                 have z2 : Jai g k l = ⟨g.D, k + 1, 4, k⟩ := by unfold Jai; rw [z1, z3]; rfl
                 rw [z1, z2]
                 simp [-renB, zerC, intC]
                 refine Jcv.of ?_
                 have q3 : pmC ⟨g.D, k + 1, 4, k⟩ = pmC g := rfl
                 have q4 : pqC ⟨g.D, k + 1, 4, k⟩ = pqC g := rfl
                 rw [q3, q4]
                 simp only [hi, hz, h6, h7]
                 simp [-renB, Jde, jmpL, Jb0, q5, q6, q7]
                 decide
       . exact Jos Jk8 Jk9 hlen (by omega) rfl Jk7
       . exact Jk3 (by simp)
       . rw [hlines]; omega
       . obtain ⟨r1, r2, r3, r4⟩ := Jtq (g := ⟨noD, 0, 0, 0⟩) (k := 0) (ls := Jaw t) rfl rfl rfl
         have hRo := Joq (ls := Jaw t) Jk8
         have hRs := Jor (ls := Jaw t) Jk9
         have hRi := Jop (ls := Jaw t) Jk7
         have hT' : ¬ (linS t []).2 ≠ [] := by simpa using hT
         have eE := Jui h1 hT'
         have eI := Juj h1 hT'
         simp only at r1 r2 r3 r4
         generalize pRun ⟨noD, 0, 0, 0⟩ 0 (Jaw t) = R at r1 r2 r3 r4 ⊢
         by_cases hE : runE noD (Jaw t) = 0
         . rw [if_neg (by simpa using hE)] at eE eI
           rw [hE] at r2
           rw [if_pos hE] at r3
           have r4' := r4 hE
           rw [Nat.zero_add] at r4'
           have hsz := Jvi hRo hRs hRi
           have eC : prsC t = if Jad (Jbe (runD noD (Jaw t))) = 0 then Jbe (runD noD (Jaw t)) else noC := by unfold prsC; rw [eE]
           rw [<- r1] at eE eI eC hRo hRs hRi hsz
           rw [r2]
           show Jfo _ none _
           rw [Jfo]
           simp [-renB]
           refine Ja7 (Jkl R.D.parts (R.D.pipes.map ordX) hRo.nd hRi.nx (by have := hRs.parts; omega) (by have := hRs.pipes; rw [List.length_map]; omega) _ _ 5 3 4 (by simp) (by simp) rfl rfl rfl) ?_
           rw [show Jdp ⟨R.D.parts, R.D.pipes.map ordX⟩ = Jbe R.D from Jgh hRo]
           generalize Jbe R.D = S at eE eI eC hsz ⊢
           simp [-renB, r4', intC]
           refine Jab (Jeu S hsz) ?_
           by_cases hc : Jad S = 0
           . rw [if_pos hc] at eC
             rw [if_neg (by simpa using hc)] at eI
             rw [hc] at eE
             simp [-renB, hc, Jaa, eE, eI, eC, zerC]
           . rw [if_neg hc] at eC
             rw [if_pos hc] at eI
             simp [-renB, hc, zerC]
             refine Jaj.intro (by kernel_rfl) ?_
             simp [-renB]
             refine ⟨.of (by kernel_rfl), ?_⟩
             simp [-renB, Jaa, eE, eI, eC, noC]
         . rw [if_pos hE] at eE eI
           rw [if_neg hE, Nat.zero_add] at r3
           have eC : prsC t = noC := by unfold prsC; rw [eE, if_neg hE]
           have r2' : jmpL R.e = some .ret := by unfold jmpL; rw [r2]; exact if_neg hE
           rw [r2']
           rw [Jfo]
           simp [-renB, Jaa, zerC, intC, r2, r3, eE, eI, eC, noC]
end Go.Am
