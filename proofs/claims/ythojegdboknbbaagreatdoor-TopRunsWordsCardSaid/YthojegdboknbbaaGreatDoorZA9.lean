/- Lemmas and contracts for the proof of a statement of this seat. -/
import Derived.Test.YthojegdboknbbaaGreatDoorZA7
import Derived.Test.YthojegdboknbbaaGreatDoorZA5
set_option linter.unusedVariables false
set_option linter.unusedSimpArgs false
namespace Go.Am
open Go
mutual
def ownFree : AV -> Bool
 | .any => true
 | .p x => Jr6 x
 | .agg cs | .tup cs => Jem cs
 | .fn _ cs => Jem cs
 | .iptr .. => false
 | .pmap .. => false
 | _ => true
def Jem : List AV -> Bool
 | [] => true
 | x :: xs => ownFree x && Jem xs
end
theorem Jf1 : ∀ {xs : List AV} {i : Nat} {x : AV}, Jem xs = true -> xs[i]? = some x -> ownFree x = true
 | [], _, _, _, h => by simp at h
 | y :: ys, 0, x, hp, h => by
   simp only [Jem, Bool.and_eq_true] at hp
   simp at h; subst h; exact hp.1
 | y :: ys, i + 1, x, hp, h => by
   simp only [Jem, Bool.and_eq_true] at hp
   exact Jf1 hp.2 (by simpa using h)
theorem VR.ownFree {φ : Places} {own own' : Nat -> Prop} {w : World} {x : AV} {v : Value} (h : VR φ own w x v) (hp : Am.ownFree x = true) : VR φ own' w x v := by
 induction h with
 | any v => exact .any v
 | p x v h =>
   refine .p _ _ ?_
   cases h with
   | int => exact .int ..
   | bool => exact .bool ..
   | str => exact .str ..
   | nilf => exact .nilf
   | nilsl => exact .nilsl
   | nilif => exact .nilif
   | ifc => exact .ifc ..
   | lst0 => cases hp
   | lst => cases hp
   | ptr => cases hp
   | full => cases hp
 | agg cs vs hl h ih => exact .agg cs vs hl fun i c v hc hv => ih i c v hc hv (Jf1 (by simpa [Am.ownFree] using hp) hc)
 | tup cs vs hl h ih => exact .tup cs vs hl fun i c v hc hv => ih i c v hc hv (Jf1 (by simpa [Am.ownFree] using hp) hc)
 | nils a => exact .nils a
 | ref b k i n c β δ cap hφ hc hn room => exact .ref b k i n c β δ cap hφ hc hn room
 | ptr b k i j β δ hφ => exact .ptr b k i j β δ hφ
 | ubool b => exact .ubool b
 | acc0 b k a => exact .acc0 b k a
 | acc b k n β δ cap hφ h0 hn room => exact .acc b k n β δ cap hφ h0 hn room
 | iptr => cases hp
 | nilp => exact .nilp
 | map b r δ hφ => exact .map b r δ hφ
 | pmap => cases hp
 | nilm => exact .nilm
 | fn f cs vs hf hl h ih => exact .fn f cs vs hf hl fun i c v hc hv => ih i c v hc hv (Jf1 (by simpa [Am.ownFree] using hp) hc)
 | bfn t p n b cs vs hl h ih => exact .bfn t p n b cs vs hl fun i c v hc hv => ih i c v hc hv (Jf1 (by simpa [Am.ownFree] using hp) hc)
def Jcv (up : Store) : Prop := ∀ b x, get up b = some x -> ∃ k rows, x = .cells k rows /\ ∀ r ∈ rows, Jem r = true
section
variable {P : Program} {G : Jac} {N n0 : Nat}
theorem Jg1 {up s : Store} {b : Nat} {x : ABlk} (h : get (up ++ s) b = some x) : get up b = some x \/ get s b = some x := by
 rw [get_append] at h
 split at h
 . exact .inl h
 . exact .inr h
theorem Gives.lendV {f : Nat} {args args' : List AV} {s : Store} {nx nx' : Nat} {B : List Nat} {v : AV} {up : Store} (hl : args'.length = args.length) (hz : ∀ (i : Nat) a x, args'[i]? = some a -> args[i]? = some x -> FrzA s (· ∈ B) a x)
   (h : Gives P G f args [] nx v [] up nx') (hv : Am.ownFree v = true) (hu : Jcv up) : Gives P G f args' s nx v B up nx' := by
 refine ⟨h.le, fun F φ s1 w vs hag hs hfr hlv hvs => ?_⟩
 have hh := Jpx (B := B) hs
 let F' : Nat -> Prop := ownF F φ (hid B s1)
 have e0 : ∀ F'' : Nat -> Prop, ownF F'' φ [] = F'' := fun F'' => funext fun β => propext ⟨Ji2, .inl⟩
 have hs0 : SR G F' φ [] w := by
   refine ⟨fun b x h => (by cases h), fun b b' x x' p p' h => (by cases h), fun b x p h => (by cases h), fun β hβ => hs.osize β (hh.sub β hβ), fun g k rows hg => ?_⟩
   obtain ⟨h1, h2, h3⟩ := hs.glob g k rows hg
   change g < w.heap.size /\ ¬ (ownF F' φ []) g /\ GlobAt (ownF F' φ []) w k rows g
   rw [e0]
   exact ⟨h1, fun h' => h2 (hh.sub g h'), h3.mono hh.step h1 h2⟩
 refine (h.calls F' φ [] w vs (fun b hb => by cases hb) hs0 hfr (by omega) fun i x u hx hu => ?_).mono fun u w' hp => ?_
 . rw [e0]
   have hi : i < args'.length := hl ▸ (gsI.1 hx).1
   have ha := List.getElem?_eq_getElem hi
   exact VR.frzA hs hh (hvs i _ u ha hu) ((hz i _ x ha hx).agrees hag)
 . obtain ⟨φ', h1, h2, h3, h4, h5⟩ := hp
   rw [List.append_nil] at h3 h4
   have h5' : ∀ F'' : Nat -> Prop, Step F'' (ownF F'' φ' up) w w' := fun F'' => by
     have := h5 F''
     rw [List.append_nil, e0] at this
     exact this
   have kept : ∀ β, β < w.heap.size -> w'.heap[β]? = w.heap[β]? /\ ¬ ownS φ' up β := fun β hβ => by
     obtain ⟨k1, k2⟩ := (h5' fun _ => False).keep β hβ (fun h => h)
     exact ⟨k1, fun h => k2 (.inr h)⟩
   have place : ∀ b x, get s1 b = some x -> ∃ p, φ b = some p /\ φ' b = some p /\ p.1 < w.heap.size := fun b x hb => by
     obtain ⟨p, e1, e2⟩ := (hs.blk b x hb).place
     exact ⟨p, e1, h1 _ _ e1, e2⟩
   have hst : ∀ F'' : Nat -> Prop, Step (ownF F'' φ s1) (ownF F'' φ' (up ++ s1)) w w' := fun F'' => by
     have st := h5' (fun _ => False)
     refine ⟨fun β hβ hn => ⟨(kept β hβ).1, fun ho => ?_⟩, st.size, st.shape, st.os, st.tape, st.output⟩
     rcases ho with ho | ⟨b, x, p, hb, hp, rfl⟩
     . exact hn (.inl ho)
     . rcases Jg1 hb with hb | hb
       . exact (kept _ hβ).2 ⟨b, x, p, hb, hp, rfl⟩
       . obtain ⟨q, e1, e2, _⟩ := place b x hb
         rw [hp] at e2; cases e2
         exact hn (.inr ⟨b, x, p, hb, e1, rfl⟩)
   have far : ∀ b x p, get up b = some x -> φ' b = some p -> w.heap.size <= p.1 := fun b x p hb hp => by
     apply Classical.byContradiction
     intro hc
     exact (kept p.1 (by omega)).2 ⟨b, x, p, hb, hp, rfl⟩
   refine ⟨φ', h1, h2, ?_, h4.ownFree hv, hst⟩
   refine hs.change h1 (hst F) (fun b x hb => ?_) (fun b b' x x' p p' hb hb' hp hp' he => ?_) (fun b x p hb hp => ?_)
   . rcases Jg1 hb with hb | hb
     . refine .inr ?_
       obtain ⟨k, rows, rfl, hr⟩ := hu b x hb
       obtain ⟨β, δ, arr, T, e1, e2, e3⟩ := h3.blk b _ hb
       refine ⟨β, δ, arr, T, e1, e2, fun i j row z hrow hz => ?_⟩
       obtain ⟨hj, v, hv, hvr⟩ := e3 i j row z hrow hz
       exact ⟨hj, v, hv, hvr.ownFree (Jf1 (hr row (List.mem_of_getElem? hrow)) hz)⟩
     . obtain ⟨q, e1, _, e3⟩ := place b x hb
       exact .inl ⟨hb, fun p hp => by rw [e1] at hp; cases hp; exact (kept _ e3).1⟩
   . rcases Jg1 hb with hb | hb <;> rcases Jg1 hb' with hb' | hb'
     . exact h3.inj b b' x x' p p' hb hb' hp hp' he
     . have := far b x p hb hp
       obtain ⟨q, _, e2, e3⟩ := place b' x' hb'
       rw [hp'] at e2; cases e2
       omega
     . have := far b' x' p' hb' hp'
       obtain ⟨q, _, e2, e3⟩ := place b x hb
       rw [hp] at e2; cases e2
       omega
     . obtain ⟨q, e1, e2, _⟩ := place b x hb
       obtain ⟨q', e1', e2', _⟩ := place b' x' hb'
       rw [hp] at e2; cases e2
       rw [hp'] at e2'; cases e2'
       exact hs.inj b b' x x' p p' hb hb' e1 e1' he
   . rcases Jg1 hb with hb | hb
     . exact fun hF => h3.disj b x p hb hp (.inl hF)
     . obtain ⟨q, e1, e2, _⟩ := place b x hb
       rw [hp] at e2; cases e2
       exact hs.disj b x p hb e1
theorem Jhr {f : Nat} {args : List AV} {s : Store} {nx : Nat} {K : Cont KT} (h : @Jht (frzL s args) ⟨fun xs B => ∃ v up nx', Gives P G f xs [] nx v [] up nx' /\ Am.ownFree v = true /\ Jcv up /\ K.k v B up nx'⟩) : @Jer P G f args s nx K := by
 obtain ⟨q, hq, v, up, nx', h1, h2, h3, h4⟩ := h
 obtain ⟨e1, e2⟩ := Jeu hq
 exact ⟨v, q.2, up, nx', Gives.lendV e1.symm (fun i a x ha hx => e2 i a x ha hx) h1 h2 h3, h4⟩
theorem Jcv.nil : Jcv [] := fun b x h => by cases h
theorem Jcv.acc {α : Type} {b k : Nat} {L : List α} {f : α -> List AV} {up : Store} (h : Jcv up) (hf : ∀ x, Jem (f x) = true) : Jcv ((b, accB k (L.map f)) :: up) := fun c x hg => by
 by_cases e : b = c
 . subst e
   rw [get, if_pos rfl] at hg
   unfold accB at hg
   split at hg
   . cases hg
   . cases hg
     exact ⟨_, _, rfl, fun r hr => by obtain ⟨y, _, rfl⟩ := List.mem_map.1 hr; exact hf y⟩
 . rw [get, if_neg e] at hg; exact h c x hg
end
mutual
def bsV : AV -> List Nat
 | .ref b .. => [b]
 | .ptr b .. => [b]
 | .acc b .. => [b]
 | .map b => [b]
 | .agg cs | .tup cs => bsL cs
 | .fn _ cs => bsL cs
 | _ => []
def bsL : List AV -> List Nat
 | [] => []
 | x :: xs => bsV x ++ bsL xs
end
mutual
theorem Jsx {s : Store} : ∀ {a x : AV}, toV s a x -> FrzA s (· ∈ bsV a) a x := fun {a x} h => by
 unfold toV at h
 split at h
 . have := Jji h; exact .agg _ _ this.1 this.2
 . have := Jji h; exact .tup _ _ this.1 this.2
 . obtain ⟨rfl, h⟩ := h
   have := Jji h; exact .fn _ _ _ this.1 this.2
 . subst h; exact .one _ _ (.nils _)
 . obtain ⟨rfl, rfl, rfl, h⟩ := h
   obtain ⟨ar, hg, h⟩ := Jcj.1 h
   exact .cell (by simp [bsV]) hg h
 . obtain ⟨rfl, hl, h⟩ := h
   obtain ⟨ar, hg, h⟩ := Jcj.1 h
   exact .one _ _ (.rows (by simp [bsV]) hg h hl)
 . obtain ⟨rfl, hl, h⟩ := h
   obtain ⟨ar, hg, h⟩ := Jna.1 h
   exact .one _ _ (.accRows (by simp [bsV]) hg h hl)
 . obtain ⟨es, hg, hq, hl, hn, hp⟩ := Jfb.1 h
   exact .map _ es _ _ (by simp [bsV]) hg (Jl3.1 hq) hl hn hp
 . obtain ⟨h, rfl⟩ := h; exact .same _ h
termination_by a => SizeOf.sizeOf a
theorem Jji {s : Store} : ∀ {a x : List AV}, toL s a x -> x.length = a.length /\ ∀ (i : Nat) c d, a[i]? = some c -> x[i]? = some d -> FrzA s (· ∈ bsL a) c d
 | [], [], _ => ⟨rfl, fun i c d h => by simp at h⟩
 | a :: az, x :: xs, h => by
   simp only [toL] at h
   have h1 := Jsx h.1
   obtain ⟨h2, h3⟩ := Jji h.2
   refine ⟨by simp [h2], fun i c d hc hd => ?_⟩
   cases i with
   | zero => simp at hc hd; subst hc; subst hd; exact h1.mono fun b hb => by simp [bsL, hb]
   | succ i => exact (h3 i c d (by simpa using hc) (by simpa using hd)).mono fun b hb => by simp [bsL, hb]
 | [], _ :: _, h => by simp [toL] at h
 | _ :: _, [], h => by simp [toL] at h
termination_by a => SizeOf.sizeOf a
end
section
variable {P : Program} {G : Jac} {N : Nat}
def Jtr (P : Program) (rs : List ResultVar) (m x : Nat) (sF : Store) (r : AV) (names : St -> List Nat) (e : Exit) (st : St) : Prop :=
 (e = .ret \/ e = .normal) /\ ∃ vs, resA P st rs vs /\ toV st.s (resV vs) r /\ (∀ b ∈ bsV (resV vs), b ∉ List.range m ++ names st) /\ Jdz (List.range m ++ names st) st.s [] sF /\ (List.range m ++ names st).Nodup /\ (List.range m ++ names st).length <= m + x
attribute [simp] Jtr bsV bsL
end
def bsM : List AV -> List AV -> List Nat
 | c :: cs, d :: ds => (if Jas d = true then bsV c else []) ++ bsM cs ds
 | _, _ => []
def mixL (s : Store) (τ : List Nat) : List AV -> List AV -> Prop
 | [], [] => True
 | c :: cs, d :: ds => (if Jas d = true then toV s c d else renA τ d = some c) /\ mixL s τ cs ds
 | _, _ => False
theorem Jqq {s : Store} {τ : List Nat} : ∀ {cs ds : List AV}, mixL s τ cs ds -> ∃ es, renL τ ds = some es /\ es.length = cs.length /\ ∀ (i : Nat) c e, cs[i]? = some c -> es[i]? = some e -> FrzK s (· ∈ bsM cs ds) c e
 | [], [], _ => ⟨[], rfl, rfl, fun i c e h => by simp at h⟩
 | c :: cs, d :: ds, h => by
   obtain ⟨h1, h2⟩ := h
   obtain ⟨es, e1, e2, e3⟩ := Jqq h2
   have hrest : ∀ (i : Nat) c' e', cs[i]? = some c' -> es[i]? = some e' -> FrzK s (· ∈ bsM (c :: cs) (d :: ds)) c' e' := fun i c' e' hc he => by
     have hk := e3 i c' e' hc he
     have hsub : ∀ b, b ∈ bsM cs ds -> b ∈ bsM (c :: cs) (d :: ds) := fun b hb => by simp [bsM, hb]
     clear e3 hc he
     induction hk with
     | keep a => exact .keep a
     | frz a x hx => exact .frz a x (hx.mono hsub)
     | tup cs ds hl hc ih => exact .tup cs ds hl ih
   by_cases hd : Jas d = true
   . rw [if_pos hd] at h1
     refine ⟨d :: es, by simp [renL, Jf7.1 d hd, e1], by simp [e2], fun i c' e' hc he => ?_⟩
     cases i with
     | zero =>
       simp at hc he; subst hc; subst he
       exact .frz _ _ ((Jsx h1).mono fun b hb => by simp [bsM, hd, hb])
     | succ i => exact hrest i c' e' (by simpa using hc) (by simpa using he)
   . rw [if_neg hd] at h1
     refine ⟨c :: es, by simp [renL, h1, e1], by simp [e2], fun i c' e' hc he => ?_⟩
     cases i with
     | zero =>
       simp at hc he; subst hc; subst he
       exact .keep _
     | succ i => exact hrest i c' e' (by simpa using hc) (by simpa using he)
 | [], _ :: _, h => h.elim
 | _ :: _, [], h => h.elim
section
variable {P : Program} {G : Jac} {N : Nat}
def Jnn (P : Program) (rs : List ResultVar) (m x : Nat) (sF : Store) (ds : List AV) (names : St -> List Nat) (e : Exit) (st : St) : Prop :=
 (e = .ret \/ e = .normal) /\ ∃ vs, resA P st rs vs /\ 2 <= vs.length /\ mixL st.s (List.range m ++ names st) vs ds /\ (∀ b ∈ bsM vs ds, b ∉ List.range m ++ names st) /\ Jdz (List.range m ++ names st) st.s [] sF /\ (List.range m ++ names st).Nodup /\ (List.range m ++ names st).length <= m + x
theorem Gives.mk_walkM {f : Nat} {fn : Func} {c : Code} {args args' : List AV} {s : Store} {nx : Nat} {up : Store} {nx' : Nat} {rc : AV} (σ free : List Nat) (s0 s1 : Store) (m x : Nat) (ds : List AV) (names : St -> List Nat) {up1 : Store}
   (hf : P.funcs[f]? = some fn) (hb : fn.body = some c) (hname : (fn.name == "runtime.NumGoroutine") = false)
   (hN : fn.ntmps = N) (hargs : args.length <= N) (hm : σ.length = m) (hL : Jcq σ nx s0 s args args') (hfree : ∀ b ∈ free, b < m) (hr : renA (Jaq σ nx x) (.tup ds) = some rc) (hup : renS (Jaq σ nx x) s1 = some up1)
   (e1 : (up1 ++ free.map fun b => ((σ[b]?).getD 0, (none : Option ABlk))) = up) (e2 : nx + x = nx')
   (h : @xc P G N m ⟨c⟩ (Jbr 0 args) s0 m ⟨Jnn P fn.results.toList m x (s1 ++ (free.map (·, none) ++ s0)) ds names⟩) :
   Gives P G f args' s nx rc σ up nx' := by
 subst e1; subst e2
 exact Gives.of_bodyA hf hb hname hN hargs hm hL.lends hfree hr hup ((Jdm h).mono fun e st hst => by
   obtain ⟨he, vs, h1, hl2, h2, h3, h4, h5, h6⟩ := hst
   obtain ⟨es, k1, k2, k3⟩ := Jqq h2
   have hres : resV vs = .tup vs := by
     match vs, hl2 with
     | _ :: _ :: _, _ => rfl
   refine ⟨he, vs, h1, _, (· ∈ bsM vs ds), .tup vs, .tup es, by rw [hres]; exact Jho _, .tup _ _ k2 k3, by rw [renA, k1]; rfl, ⟨fun b y hg => Jez h4 b y (by simp) hg, h5, h6, by simp⟩, fun b b' y hb' _ hB => ?_⟩
   exact h3 b' hB (List.mem_of_getElem? hb'))
attribute [simp] Jnn bsM mixL
end
end Go.Am
namespace Go.Am
open Go
section
variable {P : Program} {G : Jac} {N n0 : Nat}
theorem AEv.post {c : Code} {st : St} {Q : Exit -> St -> Prop} (h : AEv P G N n0 c st fun e st => ∃ st2, Leads G N n0 st st2 /\ Q e st2) : AEv P G N n0 c st Q :=
 .mk fun F φ a w hr => wpIn_mono (h.run F φ a w hr) fun e a' w' ha => by
   obtain ⟨st', φ', ⟨st2, hL, hQ⟩, h1, h2, h3⟩ := ha
   obtain ⟨φ2, k1, k2, k3⟩ := hL.run F φ' a' w' h1
   exact ⟨st2, φ2, hQ, k1, fun b hb => (k2 b hb).trans (h2 b hb), fun F' => (h3 F').trans (k3 F')⟩
def Jgt (G : Jac) (N : Nat) (P : Program) (rs : List ResultVar) (m x : Nat) (sF : Store) (r : AV) (names : St -> List Nat) (e : Exit) (st : St) : Prop :=
 ∃ st2, Leads G N m st st2 /\ Jff P rs m x sF r names e st2
theorem Jgt.of {rs : List ResultVar} {m x : Nat} {sF : Store} {r : AV} {names : St -> List Nat} {e : Exit} {st : St} (h : Jff P rs m x sF r names e st) : Jgt G N P rs m x sF r names e st := ⟨st, Leads.refl st, h⟩
theorem Gives.mk_walkAL {f : Nat} {fn : Func} {c : Code} {args args' : List AV} {s : Store} {nx : Nat} {rc : AV} {up : Store} {nx' : Nat} (σ free : List Nat) (s0 s1 : Store) (m x : Nat) (r : AV) (names : St -> List Nat) {up1 : Store}
   (hf : P.funcs[f]? = some fn) (hb : fn.body = some c) (hname : (fn.name == "runtime.NumGoroutine") = false)
   (hN : fn.ntmps = N) (hargs : args.length <= N) (hm : σ.length = m) (hL : Jcq σ nx s0 s args args') (hfree : ∀ b ∈ free, b < m) (hr : renA (Jaq σ nx x) r = some rc) (hup : renS (Jaq σ nx x) s1 = some up1)
   (e1 : (up1 ++ free.map fun b => ((σ[b]?).getD 0, (none : Option ABlk))) = up) (e2 : nx + x = nx')
   (h : @xc P G N m ⟨c⟩ (Jbr 0 args) s0 m ⟨Jgt G N P fn.results.toList m x (s1 ++ (free.map (·, none) ++ s0)) r names⟩) :
   Gives P G f args' s nx rc σ up nx' := by
 subst e1; subst e2
 exact Gives.of_bodyA hf hb hname hN hargs hm hL.lends hfree hr hup (AEv.post ((Jdm h).mono fun e st hst => by
   obtain ⟨st2, hL2, he, vs, h1, h2, h3, h4, h5⟩ := hst
   obtain ⟨r1, h6, h7⟩ := Jaz.1 h2
   exact ⟨st2, hL2, he, vs, h1, _, fun _ => False, r1, r1, h7, .keep _, h6, ⟨fun b y hg => Jez h3 b y (by simp) hg, h4, h5, by simp⟩, fun _ _ _ _ _ h => h⟩))
end
def rowK (s : Store) (B : List Nat) : List AV -> List AV -> Prop
 | [], [] => True
 | y :: ys, x :: xs => FrzK s (· ∈ B) y x /\ rowK s B ys xs
 | _, _ => False
theorem Jmd {s : Store} {B : List Nat} : ∀ {ys xs : List AV}, rowK s B ys xs -> ∀ (j : Nat) x, xs[j]? = some x -> ∃ y, ys[j]? = some y /\ FrzK s (· ∈ B) y x
 | [], [], _, j, x, h => by simp at h
 | y :: ys, z :: xs, h, j, x, hx => by
   cases j with
   | zero => simp at hx; subst hx; exact ⟨y, rfl, h.1⟩
   | succ j => simpa using Jmd h.2 j x (by simpa using hx)
 | [], _ :: _, h, _, _, _ => h.elim
 | _ :: _, [], h, _, _, _ => h.elim
theorem FrzB.row {s : Store} {B : List Nat} {k : Nat} {ys xs : List AV} (h : rowK s B ys xs) : FrzB s B (.cells k [ys]) (.cells k [xs]) := by
 refine .inr ⟨k, _, _, rfl, rfl, fun i j row' x h1 h2 => ?_⟩
 match i with
 | 0 =>
   simp at h1; subst h1
   obtain ⟨y, e1, e2⟩ := Jmd h j x h2
   exact ⟨ys, y, rfl, e1, e2⟩
 | i + 1 => simp at h1
theorem FrzB.lastRow {s : Store} {B : List Nat} {k : Nat} {A : List (List AV)} {ys xs : List AV} (h : rowK s B ys xs) : FrzB s B (.cells k (A ++ [ys])) (.cells k (A ++ [xs])) := by
 refine .inr ⟨k, _, _, rfl, rfl, fun i j row x' h1 h2 => ?_⟩
 by_cases hi : i < A.length
 . rw [List.getElem?_append_left hi] at h1
   exact ⟨row, x', by rw [List.getElem?_append_left hi]; exact h1, h2, .keep _⟩
 . rw [List.getElem?_append_right (by omega)] at h1
   have h0 : i - A.length = 0 := by
     cases e : i - A.length with
     | zero => rfl
     | succ n => rw [e] at h1; simp at h1
   rw [h0] at h1
   simp at h1; subst h1
   obtain ⟨y, e1, e2⟩ := Jmd h j x' h2
   exact ⟨ys, y, by rw [List.getElem?_append_right (by omega), h0]; rfl, e1, e2⟩
theorem FrzK.grown {s : Store} {B : List Nat} {b k n : Nat} {rows : List (List AV)} {r : List (List PV)} (hB : b ∈ B) (hg : get s b = accB k rows) (hr : rows = r.map fun x => x.map AV.p) (hn : r.length = n) : FrzK s (· ∈ B) (.acc b k n) (.p (.lst k r)) :=
 .frz _ _ (.one _ _ (.accRows hB hg hr hn))
end Go.Am
namespace Go.Am
open Go
theorem Leads.subD {G : Jac} {N n0 : Nat} {st' st : St} (ρ D : List Nat) (h1 : Jhg ρ st'.t st.t) (h2 : Jgx ρ st'.s st.s) (hD : ∀ d ∈ D, get st.s d = none) (hn : ((ρ.zipIdx.filter fun p => !D.contains p.2).map (·.1)).Nodup)
   (hl : ρ.length <= st.nx) (hbase : ρ.take n0 = List.range n0) : Leads G N n0 st' st := .mk fun F φ a w h => by
 have hlen : n0 <= ρ.length := by
   have := congrArg List.length hbase
   simp at this; omega
 have hblk : ∀ b x, get st.s b = some x -> ∃ b' z y, ρ[b]? = some b' /\ renB ρ x = some z /\ get st'.s b' = some y /\ wknB y z := fun b x hx => Jj8 h2 (b, some x) (get_mem hx) x rfl
 have hlive : ∀ b x, get st.s b = some x -> b ∉ D := fun b x hx hb => by rw [hD b hb] at hx; cases hx
 have hown : ∀ (F' : Nat -> Prop) β, ownF F' (via φ ρ) st.s β -> ownF F' φ st'.s β := by
   rintro F' β (hF | ⟨b, x, p, h1, h2, rfl⟩)
   . exact .inl hF
   . obtain ⟨b', _, y, e1, _, e3, _⟩ := hblk b x h1
     exact .inr ⟨b', y, p, e3, by simpa [via, e1] using h2, rfl⟩
 have hstF : ∀ F' : Nat -> Prop, Step (ownF F' φ st'.s) (ownF F' (via φ ρ) st.s) w w := fun F' => ⟨fun β _ hn => ⟨rfl, fun h' => hn (hown F' β h')⟩, Nat.le_refl _, fun _ arr _ h => ⟨arr, h, rfl⟩, rfl, rfl, rfl⟩
 have hst := hstF F
 refine ⟨via φ ρ, ⟨⟨?_, ?_, ?_, h.sr.fsize, ?_⟩, ?_, ?_, ⟨h.tr.size, ?_⟩, h.side.mono (hstF _) rfl⟩, ?_, hstF⟩
 . intro b x hx
   obtain ⟨b', z, y, e1, e2, e3, e4⟩ := hblk b x hx
   have := ((h.sr.blk b' y e3).mono (fun _ _ h => h) hst (fun _ _ => rfl)).wkn e4
   exact this.ren e1 e2
 . intro b c x z p p' k1 k2 k3 k4 k5
   obtain ⟨b', _, y, e1, e2, e3, _⟩ := hblk b x k1
   obtain ⟨c', _, y', e1', e2', e3', _⟩ := hblk c z k2
   have := h.sr.inj b' c' y y' p p' e3 e3' (by simpa [via, e1] using k3) (by simpa [via, e1'] using k4) k5
   subst this
   have key : ∀ (l : List (Nat × Nat)) (q r : Nat × Nat), (l.map (·.1)).Nodup -> q ∈ l -> r ∈ l -> q.1 = r.1 -> q = r := by
     intro l
     induction l with
     | nil => intro q r _ h; cases h
     | cons t l ih =>
       intro q r hn hq hr he
       rw [List.map_cons, List.nodup_cons] at hn
       rcases List.mem_cons.1 hq with rfl | hq2 <;> rcases List.mem_cons.1 hr with rfl | hr2
       . rfl
       . exact absurd (by rw [he]; exact List.mem_map_of_mem (f := (·.1)) hr2) hn.1
       . exact absurd (by rw [<- he]; exact List.mem_map_of_mem (f := (·.1)) hq2) hn.1
       . exact ih q r hn.2 hq2 hr2 he
   have hm : ∀ d, d ∉ D -> ρ[d]? = some b' -> (b', d) ∈ ρ.zipIdx.filter fun p => !D.contains p.2 := fun d hd he => by
     refine List.mem_filter.2 ⟨?_, by simpa using hd⟩
     exact List.mk_mem_zipIdx_iff_getElem?.2 he
   have := key _ _ _ hn (hm b (hlive b x k1) e1) (hm c (hlive c z k2) e1') rfl
   exact (Prod.mk.injEq .. ▸ this).2
 . intro b x p k1 k2
   obtain ⟨b', _, y, e1, e2, e3, _⟩ := hblk b x k1
   exact h.sr.disj b' y p e3 (by simpa [via, e1] using k2)
 . intro g k rows hg
   obtain ⟨k1, k2, k3⟩ := h.sr.glob g k rows hg
   exact ⟨k1, fun h' => k2 (hown F g h'), k3.mono hst k1 k2⟩
 . intro b hb
   have : ρ[b]? = none := List.getElem?_eq_none (Nat.le_trans hl hb)
   simp [via, this]
 . exact Nat.le_trans hlen hl
 . intro d
   rcases Jmn (t := st.t) (d := d) with k1 | k1
   . rw [k1]; exact .any _
   . obtain ⟨z, k2, k3⟩ := Jmo h1 _ k1
     exact (((h.tr.slots d).mono (fun _ _ h => h) hst).wkn k3).ren k2
 . intro b hb
   have e1 : ρ[b]? = some b := by
     have e2 : (ρ.take n0)[b]? = some b := by rw [hbase]; simp [hb]
     rwa [List.getElem?_take_of_lt hb] at e2
   simp [via, e1]
end Go.Am
namespace Go.Am
open Go
section
variable {P : Program}
def IsIB (x : AV) : Prop := ∃ (n : Int) (m : Bool), x = .agg [.p (.int .i64 n), .p (.bool m)]
theorem IsIB.val {φ : Places} {own : Nat -> Prop} {w : World} {n : Int} {m : Bool} {v : Value} (h : VR φ own w (.agg [.p (.int .i64 n), .p (.bool m)]) v) : v = .agg ⟨[.int .i64 n, .bool m]⟩ := by
 obtain ⟨us, rfl, h1, h2⟩ := h.agg_inv
 match us, h1 with
 | [a, b], _ =>
   have e1 := (h2 0 _ a rfl rfl).int_inv
   have e2 := (h2 1 _ b rfl rfl).bool_inv
   rw [e1, e2]
theorem Jyt {k : Nat} (hwide : (match P.underlying k with | some (.array _ _) | some (.struct _) => true | _ => false) = true)
   (hcheck : ∀ (w : World) (em : Bool) (n : Int) (m : Bool), (Instr.checkKey em 10000 k (.agg ⟨[.int .i64 n, .bool m]⟩)).run P w = .ok () w)
   (heq : ∀ (n m : Int) (s t : Bool), eqA P 8 k (.agg [.p (.int .i64 n), .p (.bool s)]) (.agg [.p (.int .i64 m), .p (.bool t)]) = some (decide (n = m /\ s = t))) : KeyOk P k IsIB where
 check := fun φ own w em x v hx hv => by
   obtain ⟨n, s, rfl⟩ := hx
   rw [IsIB.val hv]
   exact hcheck w em n _
 find := fun φ own w x v es ms hx hv hes h => by
   have e : (Instr.findKey k v ms).run P w = (Instr.findAsking k v ms).run P w := run_findKey_eq w hwide v ms
   rw [e]
   have := Jk9 (P := P) (k := k) (Kp := IsIB) hx hv (fun x y hx hy => by
     obtain ⟨n, s, rfl⟩ := hx
     obtain ⟨m, t, rfl⟩ := hy
     exact ⟨_, heq n m s t, by simp; grind⟩) es ms 0 hes h
   simpa using this
 stays := fun φ own w x v v' hx hv hv' => by
   obtain ⟨n, s, rfl⟩ := hx
   rw [IsIB.val hv, IsIB.val hv']
   have e : Instr.sameBits 10000 (.agg ⟨[.int .i64 n, .bool s]⟩) (.agg ⟨[.int .i64 n, .bool s]⟩) = true := by
     simp [Instr.sameBits]
   rw [Instr.keyThatStays, if_pos e]
   rfl
end
end Go.Am
