/- Lemmas and contracts for the proof of a statement of this seat. -/
import Derived.Test.YthojegdboknbbaaGreatDoorZYB
set_option linter.unusedVariables false
set_option linter.unusedSimpArgs false
namespace Go.Am
open Go Go.Proofs Go.Pn
def fstP (p : Stk -> Bool) : List Stk -> Nat -> Int
 | [], _ => -1
 | x :: l, i => if p x then (i : Int) else fstP p l (i + 1)
theorem Jif {p : Stk -> Bool} : ∀ {l : List Stk} {i : Nat}, decide (0 <= fstP p l i) = l.any p
 | [], _ => rfl
 | x :: l, i => by
   unfold fstP
   rw [List.any_cons]
   cases h : p x with
   | true => simp
   | false => simp [Jif]
theorem Jkz {l : List Stk} {k : Nat} {x : Stk} (hx : l[k]? = some x) : l.drop k = x :: l.drop (k + 1) := by
 have hl := (gsI.1 hx).1
 rw [List.drop_eq_getElem_cons hl]; congr 1; exact (gsI.1 hx).2
def isK (v : Stk) : Stk -> Bool := fun x => decide (v.act = x.act /\ v.out = x.out)
theorem Jyn {v x : Stk} : isK v x = decide (v = x) := by
 obtain ⟨a, b⟩ := v
 obtain ⟨c, d⟩ := x
 simp [isK]
theorem Jul (l : List Stk) (v : Stk) (h : l.length < 100000) : Pure Tryz.prog GL 29 [.p (.lst 2 (l.map Stk.enc)), v.av] (.p (.int .i64 (fstP (isK v) l 0))) := by
 refine Pure.of_walk (N := 19) Tryz.func29 rfl rfl rfl (by simp) (by first | (simp; done) | simp [*]) ?_
 simp
 refine Jai.go [0, 3, 7] [0] 0 [] (fun _ => []) (fun _ (k : Nat) => [(8, .p (.int .i64 k))]) (fun _ _ => []) (fun k => k <= l.length /\ fstP (isK v) l 0 = fstP (isK v) (l.drop k) k) (fun k => l.length - k) 0 ⟨by omega, rfl⟩ ?_ ?_
 . simp
   try decide
 rintro k ⟨hk, he⟩
 simp
 refine Jan (fun h3 => ?_) (fun h3 => ?_)
 . simp at h3
   obtain ⟨x, e⟩ := Jae h3
   rw [Jkz e, fstP] at he
   simp [h3, e, -getElem?_pos, List.getElem?_cons_zero, List.getElem?_cons_succ]
   refine Jaf.intro (by kernel_rfl) ?_
   simp [h3, e, -getElem?_pos, List.getElem?_cons_zero, List.getElem?_cons_succ]
   refine ⟨.of (by kernel_rfl), ?_⟩
   by_cases hb : v.act = x.act /\ v.out = x.out
   . rw [if_pos (by unfold isK; simpa using hb)] at he
     rw [he]
     simp [hb, Jaa]
   . rw [if_neg (by unfold isK; simpa using hb)] at he
     have hb2 : (decide (v.act = x.act) && decide (v.out = x.out)) = false := by simpa using hb
     rw [hb2]
     simp
     refine ⟨wrap_i64 (by omega) (by omega), k + 1, ⟨by omega, he⟩, by omega, ?_⟩
     try simp
     try decide
 . simp at h3
   have hkl : k = l.length := by omega
   rw [hkl, List.drop_length] at he
   rw [he]
   simp [fstP, Jaa]
theorem Jn8 (l : List Stk) (v : Stk) (h : l.length < 100000) : Pure Tryz.prog GL 12 [.p (.lst 2 (l.map Stk.enc)), v.av] (.p (.bool (decide (v ∈ l)))) := by
 refine Pure.of_walk (N := 9) Tryz.func12 rfl rfl rfl (by simp) (by first | (simp; done) | simp [*]) ?_
 have hI := Jul l v h
 have hr : decide (0 <= fstP (isK v) l 0) = decide (v ∈ l) := by
   rw [Jif]
   have e : isK v = fun x => decide (v = x) := funext fun x => Jyn
   rw [e]
   simp [List.any_eq]
 rw [<- hr]
 simp
 refine Jab hI ?_
 simp [Jaa]
theorem Jvn (y : Stk) (N : List Stk) (h : N.length < 100000) : Pure Tryz.prog GL 11 [y.av, .iptr 1 [[.lst 2 (N.map Stk.enc)]] 0 0] (.p (.bool (decide (y ∈ N)))) := by
 refine Pure.of_walk (N := 7) Tryz.func11 rfl rfl rfl (by simp) (by first | (simp; done) | simp [*]) ?_
 have hC := Jn8 N y h
 simp
 refine Jab hC ?_
 simp [Jaa]
theorem Jvo (y : Stk) (N : List Stk) (h : N.length < 100000) : Pure Tryz.prog GL 13 [y.av, .iptr 1 [[.lst 2 (N.map Stk.enc)]] 0 0] (.p (.bool (!decide (y ∈ N)))) := by
 refine Pure.of_walk (N := 8) Tryz.func13 rfl rfl rfl (by simp) (by first | (simp; done) | simp [*]) ?_
 have hC := Jn8 N y h
 simp
 refine Jab hC ?_
 simp [Jaa]
theorem Juh (l N : List Stk) (h : l.length < 100000) (hN : N.length < 100000) : Pure Tryz.prog GL 28 [.p (.lst 2 (l.map Stk.enc)), .fn (.func 11) [.iptr 1 [[.lst 2 (N.map Stk.enc)]] 0 0]] (.p (.int .i64 (fstP (fun y => decide (y ∈ N)) l 0))) := by
 have hf := fun y => Jvn y N hN
 refine Pure.of_walk (N := 19) Tryz.func28 rfl rfl rfl (by simp) (by simp) ?_
 simp
 refine Jai.go [0, 1, 7] [] 0 [] (fun _ => []) (fun _ (k : Nat) => [(8, .p (.int .i64 k))]) (fun _ _ => []) (fun k => k <= l.length /\ fstP (fun y => decide (y ∈ N)) l 0 = fstP (fun y => decide (y ∈ N)) (l.drop k) k) (fun k => l.length - k) 0 ⟨by omega, rfl⟩ ?_ ?_
 . simp
   try decide
 rintro k ⟨hk, he⟩
 simp
 refine Jan (fun h3 => ?_) (fun h3 => ?_)
 . simp at h3
   obtain ⟨x, e⟩ := Jae h3
   rw [Jkz e, fstP] at he
   have hfx := hf x
   simp at hfx
   simp [h3, e, -getElem?_pos, List.getElem?_cons_zero, List.getElem?_cons_succ]
   refine Jab hfx ?_
   by_cases hb : (decide (x ∈ N)) = true
   . rw [if_pos hb] at he
     rw [he, hb]
     simp [Jaa]
   . rw [if_neg hb] at he
     have hb2 : (decide (x ∈ N)) = false := by simpa using hb
     rw [hb2]
     simp
     refine ⟨wrap_i64 (by omega) (by omega), k + 1, ⟨by omega, he⟩, by omega, ?_⟩
     try simp
     try decide
 . simp at h3
   have hkl : k = l.length := by omega
   rw [hkl, List.drop_length] at he
   rw [he]
   simp [fstP, Jaa]
theorem Jue (l N : List Stk) (h : l.length < 100000) (hN : N.length < 100000) : Pure Tryz.prog GL 10 [.p (.lst 2 (l.map Stk.enc)), .fn (.func 11) [.iptr 1 [[.lst 2 (N.map Stk.enc)]] 0 0]] (.p (.bool (l.any fun y => decide (y ∈ N)))) := by
 have hI := Juh l N h hN
 refine Pure.of_walk (N := 9) Tryz.func10 rfl rfl rfl (by simp) (by simp) ?_
 rw [<- @Jif _ _ 0]
 simp
 refine Jab hI ?_
 simp [Jaa]
theorem Jui (l N : List Stk) (h : l.length < 100000) (hN : N.length < 100000) : Pure Tryz.prog GL 28 [.p (.lst 2 (l.map Stk.enc)), .fn (.func 13) [.iptr 1 [[.lst 2 (N.map Stk.enc)]] 0 0]] (.p (.int .i64 (fstP (fun y => !decide (y ∈ N)) l 0))) := by
 have hf := fun y => Jvo y N hN
 refine Pure.of_walk (N := 19) Tryz.func28 rfl rfl rfl (by simp) (by simp) ?_
 simp
 refine Jai.go [0, 1, 7] [] 0 [] (fun _ => []) (fun _ (k : Nat) => [(8, .p (.int .i64 k))]) (fun _ _ => []) (fun k => k <= l.length /\ fstP (fun y => !decide (y ∈ N)) l 0 = fstP (fun y => !decide (y ∈ N)) (l.drop k) k) (fun k => l.length - k) 0 ⟨by omega, rfl⟩ ?_ ?_
 . simp
   try decide
 rintro k ⟨hk, he⟩
 simp
 refine Jan (fun h3 => ?_) (fun h3 => ?_)
 . simp at h3
   obtain ⟨x, e⟩ := Jae h3
   rw [Jkz e, fstP] at he
   have hfx := hf x
   simp at hfx
   simp [h3, e, -getElem?_pos, List.getElem?_cons_zero, List.getElem?_cons_succ]
   refine Jab hfx ?_
   by_cases hb : (!decide (x ∈ N)) = true
   . rw [if_pos hb] at he
     rw [he, hb]
     simp [Jaa]
   . rw [if_neg hb] at he
     have hb2 : (!decide (x ∈ N)) = false := by simpa using hb
     rw [hb2]
     simp
     refine ⟨wrap_i64 (by omega) (by omega), k + 1, ⟨by omega, he⟩, by omega, ?_⟩
     try simp
     try decide
 . simp at h3
   have hkl : k = l.length := by omega
   rw [hkl, List.drop_length] at he
   rw [he]
   simp [fstP, Jaa]
theorem Juf (l N : List Stk) (h : l.length < 100000) (hN : N.length < 100000) : Pure Tryz.prog GL 10 [.p (.lst 2 (l.map Stk.enc)), .fn (.func 13) [.iptr 1 [[.lst 2 (N.map Stk.enc)]] 0 0]] (.p (.bool (l.any fun y => !decide (y ∈ N)))) := by
 have hI := Jui l N h hN
 refine Pure.of_walk (N := 9) Tryz.func10 rfl rfl rfl (by simp) (by simp) ?_
 rw [<- @Jif _ _ 0]
 simp
 refine Jab hI ?_
 simp [Jaa]
end Go.Am
namespace Go.Am
open Go Go.Proofs Go.Pn
def celF (s : Store) (B : Nat -> Prop) : List AV -> List PV -> Prop
 | [], [] => True
 | y :: ys, x :: xs => Frz s B y x /\ celF s B ys xs
 | _, _ => False
def rowF (s : Store) (B : Nat -> Prop) : List (List AV) -> List (List PV) -> Prop
 | [], [] => True
 | y :: ys, x :: xs => celF s B y x /\ rowF s B ys xs
 | _, _ => False
theorem Jko {s : Store} {B : Nat -> Prop} : ∀ {ys : List AV} {xs : List PV}, celF s B ys xs -> ∀ (j : Nat) x, xs[j]? = some x -> ∃ y, ys[j]? = some y /\ Frz s B y x
 | [], [], _, j, x, h => by simp at h
 | y :: ys, z :: xs, h, j, x, hx => by
   cases j with
   | zero => simp at hx; subst hx; exact ⟨y, rfl, h.1⟩
   | succ j => simpa using Jko h.2 j x (by simpa using hx)
 | [], _ :: _, h, _, _, _ => h.elim
 | _ :: _, [], h, _, _, _ => h.elim
theorem Jmc {s : Store} {B : Nat -> Prop} : ∀ {ys : List (List AV)} {xs : List (List PV)}, rowF s B ys xs -> ∀ (p : Nat) row, xs[p]? = some row -> ∃ arow, ys[p]? = some arow /\ celF s B arow row
 | [], [], _, j, x, h => by simp at h
 | y :: ys, z :: xs, h, j, x, hx => by
   cases j with
   | zero => simp at hx; subst hx; exact ⟨y, rfl, h.1⟩
   | succ j => simpa using Jmc h.2 j x (by simpa using hx)
 | [], _ :: _, h, _, _, _ => h.elim
 | _ :: _, [], h, _, _, _ => h.elim
theorem Frz.deep {s : Store} {B : Nat -> Prop} {b k n : Nat} {c : Option Nat} {arows : List (List AV)} {rows : List (List PV)} (hB : B b) (hg : get s b = some (.cells k arows)) (hn : rows.length = n) (h : rowF s B arows rows) : Frz s B (.ref b k 0 n c) (.lst k rows) := by
 refine .ref b k 0 n c arows rows (fun p j => ((arows[p]?.getD [])[j]?).getD .nils) hB hg hn (fun p j row x h1 h2 => ?_) fun p j row x h1 h2 => ?_
 . obtain ⟨arow, e1, e2⟩ := Jmc h p row h1
   obtain ⟨y, e3, e4⟩ := Jko e2 j x h2
   exact ⟨arow, by rw [Nat.zero_add]; exact e1, by simp [e1, e3]⟩
 . obtain ⟨arow, e1, e2⟩ := Jmc h p row h1
   obtain ⟨y, e3, e4⟩ := Jko e2 j x h2
   simpa [e1, e3] using e4
def aggF (s : Store) (B : Nat -> Prop) : List AV -> List AV -> Prop
 | [], [] => True
 | y :: ys, x :: xs => FrzA s B y x /\ aggF s B ys xs
 | _, _ => False
theorem Jj2 {s : Store} {B : Nat -> Prop} : ∀ {ys xs : List AV}, aggF s B ys xs -> xs.length = ys.length /\ ∀ (i : Nat) y x, ys[i]? = some y -> xs[i]? = some x -> FrzA s B y x
 | [], [], _ => ⟨rfl, fun j y x h => by simp at h⟩
 | y :: ys, z :: xs, h => by
   obtain ⟨h1, h2⟩ := Jj2 h.2
   refine ⟨by simp [h1], fun j a b ha hb => ?_⟩
   cases j with
   | zero => simp at ha hb; subst ha; subst hb; exact h.1
   | succ j => exact h2 j a b (by simpa using ha) (by simpa using hb)
 | [], _ :: _, h => h.elim
 | _ :: _, [], h => h.elim
theorem FrzA.agg5 {s : Store} {B : Nat -> Prop} {ys xs : List AV} (h : aggF s B ys xs) : FrzA s B (.agg ys) (.agg xs) := .agg _ _ (Jj2 h).1 (Jj2 h).2
def levC : Ctl := ⟨1, [[103, 111]], [⟨[111, 117, 116], 0, .mk 1 2 [], .mk 0 0 [], 0, false⟩, ⟨[105, 110], 0, .mk 2 0 [.mk 1 2 []], .mk 0 0 [], 0, false⟩], [3], [4]⟩
set_option maxHeartbeats 2000000 in
theorem Jum : Pure Tryz.prog GL 18 [.p (.bool true)] levC.av := by
 refine Pure.of_walkZ (N := 23) Tryz.func18 rfl rfl rfl (by simp) rfl ?_
 simp
 simp [Jnp]
 refine FrzA.agg5 ?_
 simp only [aggF, and_true]
 refine ⟨.same _ rfl, .one _ _ (.deep trivial rfl rfl ?_), .one _ _ (.deep trivial rfl rfl ?_), .one _ _ (.deep trivial rfl rfl ?_), .one _ _ (.deep trivial rfl rfl ?_)⟩
 . exact ⟨⟨.p _, trivial⟩, trivial⟩
 . refine ⟨⟨.p _, .p _, .p _, .p _, .nils _, .p _, .p _, .nils _, .p _, .p _, trivial⟩, ⟨.p _, .p _, .p _, .p _, .deep trivial rfl rfl ?_, .p _, .p _, .nils _, .p _, .p _, trivial⟩, trivial⟩
   exact ⟨⟨.p _, .p _, .nils _, trivial⟩, trivial⟩
 . exact ⟨⟨.p _, trivial⟩, trivial⟩
 . exact ⟨⟨.p _, trivial⟩, trivial⟩
theorem Jvy (c : Ctl) (s : Sta) (h : RS c s) (hc : RC c) (hL : Lg c) (hq : Jb8 c s) (h0 : Jbh s = []) : Pure Tryz.prog GL 19 [c.av, s.av] (.tup [.p (.bool true), .p (.int .i64 0)]) := by
 refine Pure.of_walk (N := 22) Tryz.func19 rfl rfl rfl (by simp) (by first | (simp; done) | simp [*]) ?_
 have hE := fun st nx => Jlh c s h hc hL hq st nx
 rw [h0] at hE
 simp
 refine Jag (hE _ _) ?_
 simp [Jaa]
theorem Jy6 : refE levC = 0 := by
 decide +kernel
theorem Jy4 : ∃ t, Jcc levC (Jch levC) = some t /\ Jbh t = [] := by
 refine ⟨⟨[0], [false], [false], [false, true], [0, 0]⟩, ?_, ?_⟩
 . decide +kernel
 . decide +kernel
theorem Jy5 : Lg levC := by
 refine ⟨by decide, by decide, by decide, by decide, fun s hs => ?_, fun x hx => ?_, fun x hx => ?_⟩
 . rw [List.mem_singleton.1 hs]; decide
 . rcases List.mem_cons.1 hx with rfl | hx
   . decide
   . rw [List.mem_singleton.1 hx]; decide
 . rcases List.mem_cons.1 hx with rfl | hx
   . simp [okX, okL]
   . rw [List.mem_singleton.1 hx]; simp [okX, okL]
theorem Jvp (x : Unit) : Pure Tryz.prog GL 6 [] (.p (.bool true)) := by
 refine Pure.of_walk (N := 27) Tryz.func6 rfl rfl rfl (by simp) (by first | (simp; done) | simp [*]) ?_
 obtain ⟨t, ht, hp⟩ := Jy4
 have hc := Jrq Jy6
 have hL := Jy5
 have hl := Jum
 have hS := Jot levC t hc hL ht
 have hrt : RS levC t /\ Jb8 levC t := ⟨(Jid hc).calmT hc.kinds ht, Jh2 ht⟩
 have hT := Jvy levC t hrt.1 hc hL hrt.2 hp
 generalize Jb9 levC (Jch levC) = M at *
 simp at hl hS hT
 simp
 refine Jab hl ?_
 simp
 refine Jab hS ?_
 simp
 refine Jaf.intro (by kernel_rfl) ?_
 simp
 refine Jab hl ?_
 simp
 refine Jab hT ?_
 simp [Jaa]
 exact .of (by kernel_rfl)
end Go.Am
namespace Go.Am
open Go Go.Proofs Go.Pn
theorem J2a {c : Ctl} {s : Sta} : (Jbt c s).err = 0 \/ (Jbt c s).err = 12 \/ (Jbt c s).err = 21 := by
 have h1 : ∀ (most : Nat) (t : Sta) (y : Sr Sta Stk) (e : Evt), (y.err = 0 \/ y.err = 12 \/ y.err = 21) -> ((Jbc (Jbi c) most t y e).err = 0 \/ (Jbc (Jbi c) most t y e).err = 12 \/ (Jbc (Jbi c) most t y e).err = 21) := by
   intro most t y e h
   unfold Jbc
   split
   . exact h
   . rename_i h0
     split
     . exact .inr (.inr rfl)
     . split
       . exact h
       . simp only
         split
         . exact .inr (.inl rfl)
         . exact .inl rfl
 have h2 : ∀ (most : Nat) (t : Sta) (l : List Evt) (y : Sr Sta Stk), (y.err = 0 \/ y.err = 12 \/ y.err = 21) -> ((Jb5 (Jbi c) most t l y).err = 0 \/ (Jb5 (Jbi c) most t l y).err = 12 \/ (Jb5 (Jbi c) most t l y).err = 21) := by
   intro most t l
   induction l with
   | nil => exact fun y h => h
   | cons e l ih => exact fun y h => ih _ (h1 most t y e h)
 have h3 : ∀ (most n : Nat), ((itrS (Jbi c) most s n).err = 0 \/ (itrS (Jbi c) most s n).err = 12 \/ (itrS (Jbi c) most s n).err = 21) := by
   intro most n
   induction n with
   | zero => exact .inl rfl
   | succ n ih =>
     show (rndS (Jbi c) most (itrS (Jbi c) most s n) n).err = 0 \/ (rndS (Jbi c) most (itrS (Jbi c) most s n) n).err = 12 \/ (rndS (Jbi c) most (itrS (Jbi c) most s n) n).err = 21
     unfold rndS
     split
     . exact ih
     . split
       . exact ih
       . exact h2 _ _ _ _ ih
 exact h3 60 61
theorem Jr3 {c : Ctl} (hc : RC c) : ∀ {l : List Evt} {s u : Sta} {w : List (List Stk)}, RS c s -> Jb8 c s -> runF c l s = some (u, w) -> RS c u /\ Jb8 c u
 | [], s, u, w, h, hq, e => by
   cases e
   exact ⟨h, hq⟩
 | x :: l, s, u, w, h, hq, e => by
   unfold runF at e
   cases hn : Jbm c s x with
   | none => rw [hn] at e; cases e
   | some t =>
     rw [hn] at e
     obtain ⟨⟨u', w'⟩, h1, h2⟩ := Option.map_eq_some_iff.1 e
     cases h2
     have := h.next hc.kinds hn
     exact Jr3 hc this.1 this.2 h1
theorem Jr2 {c : Ctl} (hc : RC c) : ∀ {l : List Evt} {s u : Sta} {w : List (List Stk)}, RS c s -> runF c l s = some (u, w) -> w.length <= l.length /\ ∀ x ∈ w, x.length <= 6
 | [], s, u, w, h, e => by
   cases e
   exact ⟨by simp, fun x hx => by cases hx⟩
 | x :: l, s, u, w, h, e => by
   unfold runF at e
   cases hn : Jbm c s x with
   | none => rw [hn] at e; cases e
   | some t =>
     rw [hn] at e
     obtain ⟨⟨u', w'⟩, h1, h2⟩ := Option.map_eq_some_iff.1 e
     cases h2
     have ht := h.next hc.kinds hn
     obtain ⟨i1, i2⟩ := Jr2 hc ht.1 h1
     refine ⟨by simp; exact i1, fun y hy => ?_⟩
     rcases List.mem_cons.1 hy with rfl | hy
     . rw [<- Jj6]
       have := ht.1.act
       have := hc.act
       exact Nat.le_trans Jj7 (by omega)
     . exact i2 y hy
set_option maxHeartbeats 4000000 in
set_option maxRecDepth 20000 in
theorem J39 (c : Ctl) (l : List Evt) (hL : Lg c) : Pure Tryz.prog GL 3 [c.av, .p (.lst 3 (l.map Evt.enc))] (.p (.bool true)) := by
 refine Pure.of_walk (N := 102) Tryz.func3 rfl rfl rfl (by simp) (by first | (simp; done) | simp [*]) ?_
 have hP := Jvp ()
 have hF := Jvg c hL
 have hC := Jvf c hL
 simp at hF hC
 simp
 refine Jab hF ?_
 cases hf : fewB c with
 | false =>
   simp
   refine Jab hP ?_
   simp [Jaa]
 | true =>
   simp
   refine Jab hC ?_
   by_cases hr : refE c = 0
   . by_cases hl : 10 < l.length
     . have hl2 : (10 : Int) < (l.length : Int) := by omega
       simp [hr, hl2]
       refine Jab hP ?_
       simp [Jaa]
     . have hl2 : ¬ (10 : Int) < (l.length : Int) := by omega
       have hc := Jrq hr
       simp [hr, hl2]
       cases hcm : Jcc c (Jch c) with
       | none =>
         have hS := Jvz c hc hL hcm
         simp [Jbv] at hS
         refine Jab hS ?_
         simp
         refine Jab hP ?_
         simp [Jaa]
       | some s =>
         have hS := Jot c s hc hL hcm
         have hrs : RS c s := (Jid hc).calmT hc.kinds hcm
         have hq : Jb8 c s := Jh2 hcm
         have hN := Jor c s hrs hc hL hq
         have hR := Jvc c s l hrs hc hL hq (by omega)
         generalize Jb9 c (Jch c) = M at *
         simp at hS hN hR
         refine Jab hS ?_
         simp
         unfold nevR at hN
         rcases J2a (c := c) (s := s) with h0 | h12 | h21
         . rw [if_pos h0] at hN
           refine Jab hN ?_
           simp
           cases hru : runF c l s with
           | none =>
             obtain ⟨k', e', hm, he⟩ := Ji8 (k := 0) (w := []) (m := []) hru
             rw [hm] at hR
             simp at hR
             refine Jab hR ?_
             simp [he]
             refine Jab hP ?_
             simp [Jaa]
           | some r =>
             obtain ⟨u, w⟩ := r
             obtain ⟨m', hm⟩ := Ji9 (k := 0) (w := []) (m := []) hru
             rw [hm] at hR
             simp at hR
             refine Jab hR ?_
             simp
             obtain ⟨hw, hw6⟩ := Jr2 hc hrs hru
             obtain ⟨hru2, hqu⟩ := Jr3 hc hrs hq hru
             obtain ⟨g1, g2, g3⟩ := J13 h0 hru
             have hN2 := Jor c u hru2 hc hL hqu
             unfold nevR at hN2
             rw [if_pos g2] at hN2
             have hact := hc.act
             have hNl := @Jlq (Jbt c s).begun (actN c)
             have hNl2 := @Jlq (Jbt c u).begun (actN c)
             have hno : ∀ x ∈ w, (x.any fun y => decide (y ∈ nevT (Jbt c s).begun (actN c))) = false := fun x hx => by
               rw [List.any_eq_false]
               intro y hy
               simp only [decide_eq_true_eq]
               intro hm
               exact (Jlr.1 hm).2 (g1 x hx y hy)
             have hall : ((nevT (Jbt c s).begun (actN c)).any fun y => !decide (y ∈ nevT (Jbt c u).begun (actN c))) = false := by
               rw [List.any_eq_false]
               intro y hy
               obtain ⟨e1, e2⟩ := Jlr.1 hy
               have : y ∈ nevT (Jbt c u).begun (actN c) := Jlr.2 ⟨e1, fun h => e2 (g3 y h)⟩
               simp [this]
             generalize nevT (Jbt c s).begun (actN c) = N at *
             generalize nevT (Jbt c u).begun (actN c) = N2 at *
             refine Jai.go [2, 8, 9, 76, 77] [0, 2, 3] 0 [] (fun _ => []) (fun _ (k : Nat) => [(78, .p (.int .i64 k))]) (fun _ _ => []) (fun k => k <= w.length) (fun k => w.length - k) 0 (by omega) ?_ ?_
             . simp
               try decide
             intro k hk
             simp
             refine Jan (fun h3 => ?_) (fun h3 => ?_)
             . simp at h3
               obtain ⟨x, e⟩ := Jae h3
               have hx := List.mem_of_getElem? e
               have hCF := Jue x N (by have := hw6 x hx; omega) (by omega)
               rw [hno x hx] at hCF
               simp [h3, e, -getElem?_pos, List.getElem?_cons_zero, List.getElem?_cons_succ]
               refine Jc4 ?_
               simp
               refine ⟨_, hCF, rfl, ?_⟩
               simp
               refine ⟨wrap_i64 (by omega) (by omega), k + 1, by omega, by omega, ?_⟩
               try simp
               try decide
             . simp at h3
               simp at hN2
               simp
               refine Jab hN2 ?_
               simp
               have hCF := Juf N N2 (by omega) (by omega)
               rw [hall] at hCF
               refine Jc4 ?_
               simp
               refine ⟨_, hCF, rfl, ?_⟩
               simp
               refine Jab hP ?_
               simp [Jaa]
         . rw [if_neg (by omega), h12] at hN
           refine Jab hN ?_
           simp
           cases hru : runF c l s with
           | none =>
             obtain ⟨k', e', hm, he⟩ := Ji8 (k := 0) (w := []) (m := []) hru
             rw [hm] at hR
             simp at hR
             refine Jab hR ?_
             simp
             refine Jab hP ?_
             simp [Jaa]
           | some r =>
             obtain ⟨u, w⟩ := r
             obtain ⟨m', hm⟩ := Ji9 (k := 0) (w := []) (m := []) hru
             rw [hm] at hR
             simp at hR
             refine Jab hR ?_
             simp
             refine Jab hP ?_
             simp [Jaa]
         . rw [if_neg (by omega), h21] at hN
           refine Jab hN ?_
           simp
           cases hru : runF c l s with
           | none =>
             obtain ⟨k', e', hm, he⟩ := Ji8 (k := 0) (w := []) (m := []) hru
             rw [hm] at hR
             simp at hR
             refine Jab hR ?_
             simp
             refine Jab hP ?_
             simp [Jaa]
           | some r =>
             obtain ⟨u, w⟩ := r
             obtain ⟨m', hm⟩ := Ji9 (k := 0) (w := []) (m := []) hru
             rw [hm] at hR
             simp at hR
             refine Jab hR ?_
             simp
             refine Jab hP ?_
             simp [Jaa]
   . simp [hr]
     refine Jab hP ?_
     simp [Jaa]
end Go.Am
