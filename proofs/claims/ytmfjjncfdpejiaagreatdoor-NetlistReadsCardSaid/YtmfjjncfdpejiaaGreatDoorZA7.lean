/- Lemmas and contracts for the proof of a statement of this seat. -/
import Derived.Test.YtmfjjncfdpejiaaGreatDoorZA4
import Derived.ProofKit
import Derived.LaidMore
import Derived.Carry
import Derived.OpenVars
import Derived.OpenShut
import Derived.Below
import Derived.Shelf.Abstract
import Derived.Laws.AppendOwn
import Derived.Test.YtmfjjncfdpejiaaGreatDoorZA5
set_option linter.unusedVariables false
set_option linter.unusedSimpArgs false
namespace Go.Am
open Go Go.RowKit Go.WideElems Go.ChangeShapes Go.ChangeAt
theorem Pure.calls_of {P : Program} {G : Jae} {f : Nat} {fn : Func} {args : List AV} {r : AV} (h : Pure P G f args r) (hf : P.funcs[f]? = some fn) (hb : fn.body.isNone = false) (hn : (fn.name == "runtime.NumGoroutine") = false) {w : World} {vs : List Value}
   (hg : Jeq G (fun _ => False) w) (hl : vs.length = args.length) (hv : ∀ (i : Nat) x v, args[i]? = some x -> vs[i]? = some v -> VR (fun _ => none) (fun _ => False) w x v) :
   Calls P f ⟨vs⟩ w fun e w' => ∃ v, e = .returned v /\ VR (fun _ => none) (fun _ => False) w' r v /\ Below w.heap.size w w' := by
 have h1 := h.run (fun _ => False) w vs hg (fun β h => h.elim) hl hv
 have e : (callFunc f ⟨vs⟩).run P w = .ok (.enter f ⟨vs⟩) w := by
   simp only [callFunc, Sem.run_bind, run_program, Result.andThen_ok, hf, hn, hb, Bool.false_eq_true, if_false, Sem.run_pure]
 rw [e] at h1
 have h2 : Calls P f ⟨vs⟩ w fun e w' => ∃ v, e = .returned v /\ (VR (fun _ => none) (fun _ => False) w' r v /\ (∀ β, β < w.heap.size -> w'.heap[β]? = w.heap[β]?) /\ Step (fun _ => False) (fun _ => False) w w') := h1
 exact h2.mono fun e w' ⟨v, he, hr, hk, hs⟩ => ⟨v, he, hr, ⟨hs.os, hs.tape, hs.output, hs.size, hk⟩⟩
section
variable {H : Type} {enc : TypeId × Value -> H} {P : Program}
theorem Jv4 (hl : laidOutB P = true) {W W' : World} (hb : Below W.heap.size W W') : ∀ {ts : List TypeId} {vs : List Value} {ds : List (DataW H)} {ps : List MemPlace},
   (∀ t ∈ ts, P.readableRec t = true /\ t < P.types.size) -> DataW.TrodAll enc P W 0 (fun _ => true) true ts vs ds ps -> (∀ x ∈ ps, x.block < W.heap.size) ->
   DataW.TrodAll enc P W' 0 (fun b => decide (b < W.heap.size)) true ts vs ds ps
 | [], [], [], _, _, h, _ => h
 | t :: ts, v :: vs, d :: ds, ps, ht, h, hlt => by
   obtain ⟨p, q, h1, h2, rfl⟩ := h
   exact ⟨p, q, Below.trod hl (ht t (by simp)).1 (ht t (by simp)).2 h1 hb (fun x hx => hlt x (by simp [hx])), Jv4 hl hb (fun t h => ht t (by simp [h])) h2 (fun x hx => hlt x (by simp [hx])), rfl⟩
 | [], _ :: _, _, _, _, h, _ => h.elim
 | [], [], _ :: _, _, _, h, _ => h.elim
 | _ :: _, [], _, _, _, h, _ => h.elim
 | _ :: _, _ :: _, [], _, _, h, _ => h.elim
theorem J2m {fn : Func} {s : ChangeSpec} {apart fresh handsOn : Bool} {W W' : World} {args : Array Value} {ds gs : List (DataW H)} {before : List MemPlace} {tb : TypeId}
   (hW : DataW.Whole enc P fn.params.toList s.vars apart W args.toList ds gs before) (hl : laidOutB P = true) (hvars : varsRowed P s.vars = true)
   (hpar : ∀ t ∈ fn.params.toList, P.readableRec t = true /\ t < P.types.size) (hres : fn.resultTypes = #[tb]) (htb : P.underlying tb = some .bool)
   (hsp : s.fn H (ds ++ gs) = { results := [.lit (.bool true)], args := ds, vars := gs }) (hb : Below W.heap.size W W') :
   s.post enc P fn apart fresh handsOn false W args (.bool true) W' := by
 have hW2 := hW
 obtain ⟨p, q, hA, hV, rfl, hz, hn⟩ := hW2
 have hlt : ∀ x ∈ p ++ q, x.block < W.heap.size := fun x hx => hW.lt x hx
 refine ⟨ds, gs, p ++ q, [], p, q, hW, ?_, ?_, ?_, hb.frame _, fun h => by cases h⟩
 . rw [hres, hsp]
   exact trodAll_mk1 (shut_bool htb _)
 . rw [hsp]
   exact Jv4 hl hb hpar hA (fun x hx => hlt x (List.mem_append.2 (.inl hx)))
 . rw [hsp]
   exact Below.trodVars hl hb hvars hV
theorem J89 {G : Jae} {f : Nat} {fn : Func} {avs : List AV} {s : ChangeSpec} {apart fresh handsOn : Bool} {W : World} {args : Array Value} {ds gs : List (DataW H)} {before : List MemPlace} {tb : TypeId}
   (h : Pure P G f avs (.p (.bool true))) (hf : P.funcs[f]? = some fn) (hb : fn.body.isNone = false) (hn : (fn.name == "runtime.NumGoroutine") = false)
   (hg : Jeq G (fun _ => False) W) (hl : args.toList.length = avs.length) (hv : ∀ (i : Nat) x v, avs[i]? = some x -> args.toList[i]? = some v -> VR (fun _ => none) (fun _ => False) W x v)
   (hW : DataW.Whole enc P fn.params.toList s.vars apart W args.toList ds gs before) (hlaid : laidOutB P = true) (hvars : varsRowed P s.vars = true)
   (hpar : (fn.params.toList.all fun t => P.readableRec t && decide (t < P.types.size)) = true) (hres : fn.resultTypes = #[tb]) (htb : P.underlying tb = some .bool)
   (hsp : s.fn H (ds ++ gs) = { results := [.lit (.bool true)], args := ds, vars := gs }) :
   Calls P f args W fun e W' => ∃ v, e = .returned v /\ s.post enc P fn apart fresh handsOn false W args v W' := by
 have hc := h.calls_of hf hb hn (vs := args.toList) hg hl hv
 refine Calls.mono hc fun e W' ⟨v, he, hr, hbel⟩ => ⟨v, he, ?_⟩
 have hvt : v = .bool true := by
   cases hr with
   | p _ _ h => cases h; rfl
 subst hvt
 refine J2m hW hlaid hvars (fun t ht => ?_) hres htb hsp hbel
 have := List.all_eq_true.1 hpar t ht
 simpa using this
end
end Go.Am
namespace Go.Am
open Go Go.Proofs Go.RowKit
theorem Jvr {own : Nat -> Prop} {w w' : World} (h : Below w.heap.size w w') : Step own own w w' where
 keep := fun β hβ ho => ⟨h.block β hβ, ho⟩
 size := h.size
 shape := fun β arr T ha => ⟨arr, by rw [h.block β (Array.getElem?_eq_some_iff.1 ha).1]; exact ha, rfl⟩
 os := h.os
 tape := h.tape
 output := h.output
theorem Pure.of_below {P : Program} {G : Jae} {f : Nat} {fn : Func} {c : Code} {args : List AV} {r : AV} (hf : P.funcs[f]? = some fn) (hname : (fn.name == "runtime.NumGoroutine") = false) (hb : fn.body = some c) (hp : Ja9 args = true)
   (h : ∀ (own : Nat -> Prop) (w : World) (vs : List Value), Jeq G own w -> (∀ β, own β -> β < w.heap.size) -> vs.length = args.length -> (∀ (i : Nat) x v, args[i]? = some x -> vs[i]? = some v -> VR (fun _ => none) own w x v) ->
     Calls P f ⟨vs⟩ w fun e w' => ∃ u, e = .returned u /\ VR (fun _ => none) own w' r u /\ Below w.heap.size w w') : Pure P G f args r := by
 refine ⟨hp, fun own w vs hg hs hl hv => ?_⟩
 have eC := enters_of hf hname hb ⟨vs⟩ w
 rw [eC]
 refine Calls.mono (h own w vs hg hs hl hv) ?_
 rintro e w' ⟨u, rfl, h1, h2⟩
 exact ⟨u, rfl, h1, h2.block, Jvr h2⟩
theorem Pure.wider {P : Program} {G G' : Jae} {f : Nat} {args : List AV} {r : AV} (h : Pure P G f args r) (hG : ∀ x ∈ G, x ∈ G') : Pure P G' f args r :=
 ⟨h.pure, fun own w vs hg hs hl hv => h.run own w vs (fun g k rows hm => hg g k rows (hG _ hm)) hs hl hv⟩
theorem J7w {φ : Places} {own : Nat -> Prop} {w w' : World} {e : TypeId} {v : Value} {l : List (List UInt8)} (hs : ∀ β, own β -> β < w.heap.size) (h : w'.ownsRow w.heap.size e 1 v l.length (l.map fun x => Value.string ⟨x.toArray⟩)) :
   VR φ own w' (.p (.lst 1 (l.map fun s => [PV.str s]))) v := by
 obtain ⟨h1, h2 | ⟨g, cap, cur, rfl, h3, h4, h5, h6, h7, h8⟩⟩ := h
 . obtain ⟨rfl, h2⟩ := h2
   have : l = [] := List.eq_nil_of_length_eq_zero h2
   subst this
   exact .p _ _ (.lst0 _ _ _)
 . have hl : (l.map fun s => [PV.str s]).length = l.length := by simp
   rw [<- hl]
   refine .p _ _ (VRp.lst_of (by rw [hl]; exact h5) (Array.getElem?_eq_some_iff.1 h4).1 (fun ho => by have := hs g ho; omega) fun i j row x hr hx => ?_)
   rw [List.getElem?_map, Option.map_eq_some_iff] at hr
   obtain ⟨s, e1, rfl⟩ := hr
   match j with
   | 0 =>
     simp only [List.getElem?_cons_zero, Option.some.injEq] at hx
     subst hx
     refine ⟨.string ⟨⟨s⟩⟩, ?_, .str s⟩
     have e2 : (l.map fun x => Value.string ⟨x.toArray⟩)[i]? = some (.string ⟨⟨s⟩⟩) := by rw [List.getElem?_map, e1]; rfl
     rw [<- h8, List.getElem?_take] at e2
     split at e2
     . simp only [World.cell?, h4, Nat.mul_one, Nat.add_zero, Nat.zero_add]
       simpa using e2
     . cases e2
   | j + 1 => simp at hx
end Go.Am
namespace Go.Am
open Go
section
variable {P : Program} {G : Jae} {N n0 : Nat}
def Ji6 (ps : Array Tmp) (args : List AV) (t : Jaq) : Jaq := (ps.toList.zip args).reverse ++ t
theorem Jrp {φ : Places} {own : Nat -> Prop} {w : World} {N : Nat} : ∀ (ps : List Tmp) (vs : List Value) (xs : List AV) (tmps : Array Value) (t : Jaq), vs.length = xs.length -> tmps.size = N -> (∀ d ∈ ps, d < N) ->
   (∀ d, VR φ own w (slot t d) (tmps.getD d undef)) -> (∀ (i : Nat) x v, xs[i]? = some x -> vs[i]? = some v -> VR φ own w x v) ->
   ((ps.zip vs).foldl (fun tmps (t, a) => tmps.setIfInBounds t a) tmps).size = N /\ ∀ d, VR φ own w (slot ((ps.zip xs).reverse ++ t) d) (((ps.zip vs).foldl (fun tmps (t, a) => tmps.setIfInBounds t a) tmps).getD d undef)
 | [], vs, xs, tmps, t, _, hN, _, ht, _ => by simpa [hN] using ht
 | p :: ps, [], [], tmps, t, _, hN, _, ht, _ => by simpa [hN] using ht
 | p :: ps, v :: vs, x :: xs, tmps, t, hl, hN, hp, ht, hx => by
   have ih := Jrp ps vs xs (tmps.setIfInBounds p v) ((p, x) :: t) (by simpa using hl) (by simpa using hN) (fun d hd => hp d (by simp [hd])) (fun d => by
     have hpN := hp p (by simp)
     simp only [slot]
     by_cases e : p = d
     . subst e
       rw [if_pos rfl]
       have : (tmps.setIfInBounds p v).getD p undef = v := by simp [hN, hpN]
       rw [this]; exact hx 0 x v rfl rfl
     . rw [if_neg e]
       have : (tmps.setIfInBounds p v).getD d undef = tmps.getD d undef := by simp [Array.getElem?_setIfInBounds_ne e]
       rw [this]; exact ht d) (fun i y u hy hu => hx (i + 1) y u (by simpa using hy) (by simpa using hu))
   refine ⟨by simpa using ih.1, fun d => ?_⟩
   have := ih.2 d
   simpa [List.zip_cons_cons, List.reverse_cons, List.append_assoc] using this
 | p :: ps, [], x :: xs, _, _, hl, _, _, _, _ => by simp at hl
 | p :: ps, v :: vs, [], _, _, hl, _, _, _, _ => by simp at hl
def Jb0 : Option Code -> Exit -> Prop
 | none, e => e = .normal
 | some .ret, e => e = .ret
 | some (.exit id), e => e = .exit id
 | _, _ => False
def Jw3 (G : Jae) (N m x : Nat) (j : Option Code) (sF : Store) (e : Exit) (st : St) : Prop :=
 Jb0 j e /\ ∃ (st2 : St) (τ : List Nat), Leads G N m st st2 /\ Out τ m x st2 sF
theorem J6o {o o1 o2 : Nat -> Prop} {w w1 w3 : World} {l : Nat} {b r : Loop} (h1 : Step o o1 w w1) (h2 : Step o1 o2 (w1.putObj l (.loop b)) w3) (h0 : w.heap[l]? = some (.loop r)) (hl1 : w1.heap[l]? = some (.loop r)) :
   Step o o2 w (w3.putObj l (.loop r)) := by
 have hlt := (Array.getElem?_eq_some_iff.1 h0).1
 have hlt1 := (Array.getElem?_eq_some_iff.1 hl1).1
 have hs1 : (w1.putObj l (.loop b)).heap.size = w1.heap.size := by simp [World.putObj]
 have hlt3 : l < w3.heap.size := by have := h2.size; have := h1.size; omega
 refine ⟨fun β hβ ho => ?_, ?_, fun β arr T ha => ?_, ?_, ?_, ?_⟩
 . obtain ⟨e1, e2⟩ := h1.keep β hβ ho
   obtain ⟨e3, e4⟩ := h2.keep β (by rw [hs1]; exact Nat.lt_of_lt_of_le hβ h1.size) e2
   refine ⟨?_, e4⟩
   by_cases e : β = l
   . subst e
     rw [World.putObj_heap_same hlt3, h0]
   . rw [World.putObj_heap_other e, e3, World.putObj_heap_other e, e1]
 . have := h2.size; have := h1.size; simp [World.putObj]; omega
 . have hne : β ≠ l := by rintro rfl; rw [h0] at ha; cases ha
   obtain ⟨a1, k1, k2⟩ := h1.shape β arr T ha
   obtain ⟨a3, k3, k4⟩ := h2.shape β a1 T (by rw [World.putObj_heap_other hne]; exact k1)
   exact ⟨a3, by rw [World.putObj_heap_other hne]; exact k3, by omega⟩
 . exact h2.os.trans h1.os
 . exact h2.tape.trans h1.tape
 . exact h2.output.trans h1.output
theorem Jur {w : World} {l : Nat} {r r' : Loop} (h : w.heap[l]? = some (.loop r)) : Quiet w (w.putObj l (.loop r')) :=
 ⟨by simp [World.putObj], fun β o ho _ hr => by
   have : β ≠ l := by rintro rfl; rw [h] at ho; cases ho; exact hr _ rfl
   rw [World.putObj_heap_other this]; exact ho, rfl, rfl, rfl⟩
theorem Rel.busy [B : Base] {F : Nat -> Prop} {st : St} {φ : Places} {a : Act} {w : World} {l : Nat} {r r' : Loop} (h : Rel G N n0 F st φ a w) (hF : F l) (hl : w.heap[l]? = some (.loop r)) : Rel G N n0 F st φ a (w.putObj l (.loop r')) := by
 have q := Jur (r' := r') hl
 have hlt := (Array.getElem?_eq_some_iff.1 hl).1
 refine ⟨h.sr.quiet q (fun b i t j hb => World.putObj_heap_other fun e => ?_), h.fresh, h.base, ⟨h.tr.size, fun d => (h.tr.slots d).quiet q⟩, by rw [q.size]; exact h.side.low, ?_, ?_⟩
 . obtain ⟨tmps, D, h1, _⟩ := h.sr.blk b _ hb
   exact h.sr.disj b _ _ hb h1 (by rw [e]; exact hF)
 . obtain ⟨Ds, h1, h2, h3⟩ := h.side.marks
   refine ⟨Ds, h1, h2, fun D hD => ?_⟩
   obtain ⟨k1, k2, k3⟩ := h3 D hD
   exact ⟨k1, by rw [World.putObj_heap_other (fun e => by rw [e, hl] at k2; cases k2)]; exact k2, k3⟩
 . intro l' hl'
   obtain ⟨r1, k1, k2⟩ := h.side.round l' hl'
   by_cases e : l' = l
   . subst e; exact ⟨r', World.putObj_heap_same hlt, k2⟩
   . exact ⟨r1, by rw [World.putObj_heap_other e]; exact k1, k2⟩
theorem GivesY.of_round {i : LoopI} {tl t0 : Jaq} {args args' : List AV} {σ free : List Nat} {s s0 s1 up1 : Store} {nx m x lam : Nat} {j : Option Code}
   (hm : σ.length = m) (hL : Lends σ nx s0 s args args') (hlam : get s lam = some (.loop i tl none)) (hlσ : lam ∉ σ) (hlnx : lam < nx) (ht : renT σ t0 = some tl) (hps : i.ps.size = args'.length) (hpN : ∀ d ∈ i.ps.toList, d < i.N)
   (hfree : ∀ b ∈ free, b < m) (hup : renS (Jbt σ nx x) s1 = some up1)
   (h : AEv P G i.N m i.asg ⟨Ji6 i.ps args t0, s0, m⟩ (Je5 (fun st => AEv P G i.N m i.body st (Jw3 G i.N m x j (s1 ++ (free.map (·, none) ++ s0)))) (fun _ _ => False))) :
   GivesY P G i.l args' s nx (.p (.bool j.isNone)) (lam :: σ) ((lam, some (.loop i tl j)) :: (up1 ++ free.map fun b => ((σ[b]?).getD 0, none))) (nx + x) := by
 refine ⟨Nat.le_add_right _ _, fun F φ s1c w vs hag0 hs hfr hlv hv => ?_⟩
 have hag : Jdd s s1c σ := fun b hb => hag0 b (by simp [hb])
 have hlam1 : get s1c lam = some (.loop i tl none) := (hag0 lam (by simp)).trans hlam
 obtain ⟨tmps, D, hφ, hrec, hsz, hsl⟩ := hs.blk lam _ hlam1
 have hlen : args'.length = args.length := (Jdl hL.args).1
 have hloop : Jb9 i tmps D none = { state := .ready, pending := none, fn := i.fn, tmps := tmps, params := i.ps, assign := i.asg, body := i.body, defers := D } := rfl
 let φ0 := via φ σ
 let F2 := Jf5 φ σ s1c F
 have hFl : F2 i.l := .inr ⟨lam, _, _, hlam1, hlσ, hφ, rfl⟩
 have hlt := (Array.getElem?_eq_some_iff.1 hrec).1
 have hnot : ∀ (φx : Places) (s' : Store) (w' : World), SR G F2 φx s' w' -> ¬ ownF (fun _ => False) φx s' i.l := by
   rintro φx s' w' hx (hh | ⟨b, y, p, h1, h2, h3⟩)
   . exact hh
   . exact hx.disj b y p h1 h2 (by rw [h3]; exact hFl)
 rw [run_yield hrec (by show vs.length = i.ps.size; omega)]
 let _B : Base := ⟨w.heap.size, some i.l⟩
 have hsr0 := Jsq hL hag hs
 have hrel : Rel G i.N m F2 ⟨Ji6 i.ps args t0, s0, m⟩ φ0 { tmps := (i.ps.zip ⟨vs⟩).foldl (fun tmps (t, a) => tmps.setIfInBounds t a) tmps, defers := [] } w := by
   have hslots := Jrp (φ := φ0) (own := ownF F2 φ0 s0) (w := w) (N := i.N) i.ps.toList vs args tmps t0 (by omega) hsz hpN (fun d => by
     rw [Jit hL hag F]
     rcases Jlp ht d with ⟨e1, _⟩ | e
     . rw [e1]; exact .any _
     . exact (hsl d).ren e) (fun k y v hy hv' => by
     rw [Jit hL hag F]
     obtain ⟨y', e1, e2⟩ := (Jdl hL.args).2 k y hy
     exact (hv k y' v e1 hv').ren e2)
   have hfold : (i.ps.zip ⟨vs⟩).foldl (fun tmps (t, a) => tmps.setIfInBounds t a) tmps = (i.ps.toList.zip vs).foldl (fun tmps (t, a) => tmps.setIfInBounds t a) tmps := by
     rw [<- Array.foldl_toList, Array.toList_zip]
   refine ⟨hsr0, fun b hb => ?_, Nat.le_refl _, ⟨by simp only [hfold]; exact hslots.1, fun d => by simp only [hfold]; exact hslots.2 d⟩, ⟨Nat.le_refl _, ⟨[], rfl, List.nodup_nil, by simp⟩, fun l hl => ?_⟩⟩
   . have hb : m <= b := hb
     have : σ[b]? = none := List.getElem?_eq_none (by omega)
     simp [φ0, via, this]
   . cases hl
     exact ⟨_, hrec, hnot _ _ _ hsr0⟩
 show RoundIn Fence.wide 0 P i.l i.fn _ i.asg i.body w _
 refine roundIn_of_wpIn trivial ?_
 refine wpIn_mono (h.run F2 φ0 _ w hrel) fun e a1 w1 ha => ?_
 obtain ⟨st1, φ1, hk1, hr1, hb1, hst1⟩ := ha
 cases e with
 | normal =>
   have hl1 : w1.heap[i.l]? = some (.loop (Jb9 i tmps D none)) := (((hst1 (fun _ => False)).keep i.l hlt (hnot _ _ _ hsr0)).1).trans hrec
   refine ⟨_, run_beginRound hl1 rfl, ?_⟩
   have hr2 := hr1.busy (r' := { Jb9 i tmps D none with state := .busy }) hFl hl1
   have hlt1 := (Array.getElem?_eq_some_iff.1 hl1).1
   refine wpIn_mono (hk1.run F2 φ1 a1 _ hr2) fun e a3 w3 ha => ?_
   obtain ⟨st3, φ3, ⟨hje, st4, τ, hlead, hout⟩, hr3, hb3, hst3⟩ := ha
   have hl3 : w3.heap[i.l]? = some (.loop { Jb9 i tmps D none with state := .busy }) :=
     (((hst3 (fun _ => False)).keep i.l (by simpa [World.putObj] using hlt1) (hnot _ _ _ hr1.sr)).1).trans (World.putObj_heap_same hlt1)
   have hlt3 := (Array.getElem?_eq_some_iff.1 hl3).1
   -- the end of the round
   have fin : ∀ (c : Option Code), c = j -> ∃ v w', (Instr.endRound i.l c).run P w3 = .ok v w' /\ ∃ v', Ending.returned v = .returned v' /\
       Post G F φ s1c w (.p (.bool j.isNone)) ((lam, some (.loop i tl j)) :: (up1 ++ free.map fun b => ((σ[b]?).getD 0, none))) nx (nx + x) v' w' := by
     rintro c rfl
     refine ⟨_, _, run_endRound c hl3, _, rfl, ?_⟩
     -- the world with the record as it was
     have hsr3 := (hr3.busy (r' := Jb9 i tmps D none) hFl hl3)
     obtain ⟨φ4, hr4, hb4, hst4⟩ := hlead.run F2 φ3 a3 _ hsr3
     have hstep : ∀ F' : Nat -> Prop, Step (ownF F' φ0 s0) (ownF F' φ4 st4.s) w (w3.putObj i.l (.loop (Jb9 i tmps D none))) := fun F' => (J6o (hst1 F') (hst3 F') hrec hl1).trans (hst4 F')
     have hpost := Jsp (s1 := s1) (r := .p (.bool c.isNone)) (rc := .p (.bool c.isNone)) (r0 := .p (.bool c.isNone)) (r1 := .p (.bool c.isNone)) (rv := .p (.bool c.isNone)) (B := fun _ => False) (u := .bool c.isNone) hm hL hfree rfl hup hag hs hfr
       (Jl9 _) (.keep _) rfl hout (fun _ _ _ _ _ h => h) hr4.sr (fun b hb => ((hb4 b hb).trans (hb3 b hb)).trans (hb1 b hb)) hstep (.p _ _ (.bool _))
     obtain ⟨φ5, p1, p2, p3, p4, p5⟩ := hpost
     -- the record is turned
     have hl4 : (w3.putObj i.l (.loop (Jb9 i tmps D none))).heap[i.l]? = some (.loop (Jb9 i tmps D none)) := World.putObj_heap_same hlt3
     have hφ5 := p1 _ _ hφ
     have hkeys : get ((up1 ++ free.map fun b => ((σ[b]?).getD 0, (none : Option ABlk))) ++ s1c) lam = some (.loop i tl none) := by
       rw [get_append, if_neg, hlam1]
       intro hm'
       simp only [keys, List.map_append, List.mem_append, List.map_map, List.mem_map, Function.comp] at hm'
       rcases hm' with ⟨q, hq, e⟩ | ⟨b, hb, e⟩
       . have := Jlo hup lam (List.mem_map.2 ⟨q, hq, e⟩)
         rcases Js6.1 this with h | h
         . exact hlσ h
         . omega
       . have hbm := hfree b hb
         have hσb : σ[b]? = some (σ[b]'(by omega)) := List.getElem?_eq_getElem (by omega)
         rw [hσb] at e
         exact hlσ (e ▸ List.mem_of_getElem? hσb)
     have hw : (w3.putObj i.l (.loop { { Jb9 i tmps D none with state := .busy } with state := if c.isNone then .ready else .done, pending := c })).heap = (w3.putObj i.l (.loop (Jb9 i tmps D none))).heap.setIfInBounds i.l (.loop (Jb9 i tmps D c)) := by
       apply Array.ext_getElem?
       intro k
       simp only [World.putObj, Array.getElem?_setIfInBounds]
       by_cases e : i.l = k
       . subst e; simp [hlt3, Jb9]
       . simp [e]
     obtain ⟨q1, q2⟩ := p3.turnO (x := .loop i tl c) hkeys hφ5 hl4 (fun _ _ h => by cases h) hw rfl rfl rfl fun st => by
       obtain ⟨tmps2, D2, e1, e2, e3, e4⟩ := p3.blk lam _ hkeys
       rw [hl4] at e2
       simp only [Option.some.injEq, Obj.loop.injEq, Jb9, Loop.mk.injEq, true_and] at e2
       obtain ⟨rfl, rfl⟩ : tmps = tmps2 /\ D = D2 := ⟨e2.1, e2.2⟩
       refine ⟨tmps, D, e1, by rw [hw]; simp [World.putObj, hlt3], e3, fun d => (e4 d).mono (fun _ _ h => h) st⟩
     exact ⟨φ5, p1, p2, q1, .p _ _ (.bool _), fun F' => (p5 F').trans (q2 F')⟩
   cases e with
   | normal =>
     have : j = none := by
       cases j with
       | none => rfl
       | some c => cases c <;> simp [Jb0] at hje
     obtain ⟨v, w', f1, f2⟩ := fin none this.symm
     exact ⟨v, w', f1, f2⟩
   | ret =>
     have : j = some .ret := by
       cases j with
       | none => simp [Jb0] at hje
       | some c => cases c <;> simp [Jb0] at hje; rfl
     obtain ⟨v, w', f1, f2⟩ := fin (some .ret) this.symm
     exact ⟨v, w', f1, f2⟩
   | exit id =>
     have : j = some (.exit id) := by
       cases j with
       | none => simp [Jb0] at hje
       | some c => cases c <;> simp [Jb0] at hje; rw [hje]
     obtain ⟨v, w', f1, f2⟩ := fin (some (.exit id)) this.symm
     exact ⟨v, w', f1, f2⟩
   | _ =>
     exfalso
     cases j with
     | none => simp [Jb0] at hje
     | some c => cases c <;> simp [Jb0] at hje
 | _ => exact hk1.elim
theorem J0n [B : Base] {own : Nat -> Prop} {a : Act} {w : World} (h : Side own a w) (fn : FuncId) (N : Nat) (ps : Array Tmp) (asg body : Code) :
   ∃ (l D : Nat) (mark : List Deferred) (w0 w1 : World), (Instr.enterLoop fn a.tmps ps asg body B.mode).run P w = .ok (l, mark) w1 /\ l = w0.heap.size /\ w1 = w0.alloc (.loop (Jb9 ⟨l, N, fn, ps, asg, body⟩ a.tmps D none)) /\
     ((mark = [] /\ w0 = w) \/ (mark = [Jhg w.heap.size] /\ w0 = w.alloc (.deferred (some [])))) := by
 cases hm : B.mode with
 | none => exact ⟨_, _, _, _, _, run_enterLoop_outer fn a.tmps ps asg body, by simp, rfl, .inr ⟨rfl, rfl⟩⟩
 | some l0 =>
   obtain ⟨r0, h1, _⟩ := h.round l0 hm
   exact ⟨_, _, _, _, _, run_enterLoop_inner h1 fn a.tmps ps asg body, rfl, rfl, .inl ⟨rfl, rfl⟩⟩
theorem J6n {own : Nat -> Prop} {w : World} (_hs : ∀ β, own β -> β < w.heap.size) (o : Obj) : Step own own w (w.alloc o) where
 keep := fun β hβ ho => ⟨Jex hβ, ho⟩
 size := by simp
 shape := fun β arr T h => ⟨arr, by rw [Jex (Array.getElem?_eq_some_iff.1 h).1]; exact h, rfl⟩
 os := rfl
 tape := rfl
 output := rfl
theorem SR.alloc0 {F : Nat -> Prop} {φ : Places} {s : Store} {w : World} (h : SR G F φ s w) (o : Obj) : SR G F φ s (w.alloc o) :=
 h.change (fun _ _ h => h) (J6n h.osize o) (fun b x hb => .inl ⟨hb, fun p hp => by
   obtain ⟨q, h1, h2⟩ := (h.blk b x hb).place
   rw [hp] at h1; cases h1
   exact Jex h2⟩) h.inj h.disj
def Jfo (Q : Exit -> St -> Prop) : Option Code -> St -> Prop
 | none, st => Q .normal st
 | some .ret, st => Q .ret st
 | some (.exit id), st => Q (.exit id) st
 | _, _ => False
theorem Jia.intro {g : Operand} {ps : Array Tmp} {asg body : Code} {st : St} {Q : Exit -> St -> Prop} {f : Nat} {fnn : Func} {cc : Code} {cap : List AV} (tl : Jaq) (hg : Jag G st.t g = .fn (.func f) cap)
   (hf : P.funcs[f]? = some fnn) (hname : (fnn.name == "runtime.NumGoroutine") = false) (hb : fnn.body = some cc) (htl : ∀ d, slot tl d = .any \/ slot tl d = slot st.t d)
   (h : ∀ (l : Nat) (fn : FuncId), ∃ v rd up nx' j, Gives P G f (.fn (.yield l) [] :: cap) ((st.nx, some (.loop ⟨l, N, fn, ps, asg, body⟩ tl none)) :: st.s) (st.nx + 1) v rd up nx' /\
     get (up ++ (st.nx, some (.loop ⟨l, N, fn, ps, asg, body⟩ tl none)) :: st.s) st.nx = some (.loop ⟨l, N, fn, ps, asg, body⟩ tl j) /\
     Jfo Q j ⟨st.t, (st.nx, none) :: (up ++ (st.nx, some (.loop ⟨l, N, fn, ps, asg, body⟩ tl none)) :: st.s), nx'⟩) : Jia P G N n0 g ps asg body st Q := by
 refine ⟨fun F φ a w hr => wpIn_rangeFunc fun fn _ => ?_⟩
 obtain ⟨l, D, mark, w0, w1, hent, hl, hw1, hmk⟩ := J0n (P := P) hr.side fn N ps asg body
 obtain ⟨v, rd, up, nx', j, hgv, hget, hQ⟩ := h l fn
 let i : LoopI := ⟨l, N, fn, ps, asg, body⟩
 let s1 : Store := (st.nx, some (.loop i tl none)) :: st.s
 have hev := Jim hr g
 rw [hg] at hev
 obtain ⟨vs, e1, e2, e3⟩ := hev.fn_inv
 have hfr : φ st.nx = none := hr.fresh st.nx (Nat.le_refl _)
 have hs0 : w.heap.size <= w0.heap.size /\ SR G F φ st.s w0 /\ (∀ F' : Nat -> Prop, Step (ownF F' φ st.s) (ownF F' φ st.s) w w0) /\ (∀ β, β < w.heap.size -> w0.heap[β]? = w.heap[β]?) := by
   rcases hmk with ⟨_, rfl⟩ | ⟨_, rfl⟩
   . exact ⟨Nat.le_refl _, hr.sr, fun _ => Step.refl _ _, fun _ _ => rfl⟩
   . refine ⟨by simp, hr.sr.alloc0 _, fun F' => ⟨fun β hβ ho => ⟨Jex hβ, ho⟩, by simp, fun β arr T h => ⟨arr, by rw [Jex (Array.getElem?_eq_some_iff.1 h).1]; exact h, rfl⟩, rfl, rfl, rfl⟩, fun β hβ => Jex hβ⟩
 obtain ⟨hs01, hs02, hs03, hs04⟩ := hs0
 let φ1 := putP φ st.nx (l, 0)
 have hst1 : ∀ F' : Nat -> Prop, Step (ownF F' φ st.s) (ownF F' φ1 s1) w w1 := fun F' => by
   have := (hs03 F').trans (Jgq (F := F') (φ := φ) (s := st.s) (w := w0) (b := st.nx) (.loop (Jb9 i a.tmps D none)) (.loop i tl none))
   rw [<- hl, <- hw1] at this
   exact this
 have hsr1 : SR G F φ1 s1 w1 := by
   have := hs02.alloc hfr (.loop (Jb9 i a.tmps D none)) (.loop i tl none) (by
     rw [<- hl, <- hw1]
     refine ⟨a.tmps, D, Ja3, by
       have := heap_alloc_new (w := w0) (o := .loop (Jb9 i a.tmps D none))
       rw [<- hl, <- hw1] at this
       exact this, hr.tr.size, fun d => ?_⟩
     rcases htl d with e | e
     . rw [e]; exact .any _
     . rw [e]; exact (hr.tr.slots d).mono (Jdk hfr) (hst1 F))
   rw [<- hl, <- hw1] at this
   exact this
 have hres : (resolve a.eval (rangeCall g l) 0).run P w1 = .ok { target := .fn (.func f) ⟨vs⟩, args := #[.func (.yield l) #[] #[]] } w1 := by
   simp only [resolve, rangeCall, e1]
   simp [Deferred.ofValue, Act.eval]
 have hinv : (invoke (.fn (.func f) ⟨vs⟩) #[.func (.yield l) #[] #[]]).run P w1 = .ok (.enter f ⟨.func (.yield l) #[] #[] :: vs⟩) w1 := by
   have := Go.Proofs.enters_of hf hname hb ⟨.func (.yield l) #[] #[] :: vs⟩ w1
   rw [<- this]
   simp [invoke]
 refine ⟨l, mark, w1, _, w1, f, _, w1, hent, hres, fun _ _ => trivial, hinv, fun h => (by cases h), Jm0 ?_⟩
 have hcall := hgv.calls F φ1 s1 w1 (.func (.yield l) #[] #[] :: vs) (fun _ _ => rfl) hsr1 (fun b h1 h2 => by rw [show φ1 b = _ from Ja5 (by omega)]; exact hr.fresh b (by omega)) (by simp [e2]) (fun k x u hx hu => by
   cases k with
   | zero => simp at hx hu; subst hx; subst hu; exact .fn _ [] [] rfl rfl (by simp)
   | succ k => exact (e3 k x u (by simpa using hx) (by simpa using hu)).mono (Jdk hfr) (hst1 F))
 rw [show (callFunc f ⟨.func (.yield l) #[] #[] :: vs⟩).run P w1 = _ from Go.Proofs.enters_of hf hname hb _ w1] at hcall
 refine Calls.mono hcall ?_
 rintro e w3 ⟨u, rfl, φ3, p1, p2, p3, p4, p5⟩
 obtain ⟨tmps, D3, q1, q2, _⟩ := p3.blk st.nx _ hget
 have hlt3 := (Array.getElem?_eq_some_iff.1 q2).1
 refine ⟨j, _, by
   have := run_endLoop (P := P) q2 (by unfold Jb9; cases j <;> simp)
   simpa [Jb9] using this, ?_⟩
 let w4 := w3.putObj l (.loop { Jb9 i tmps D3 j with state := .exhausted })
 let sF : Store := (st.nx, none) :: (up ++ s1)
 have hst4 : ∀ F' : Nat -> Prop, Step (ownF F' φ3 (up ++ s1)) (ownF F' φ3 sF) w3 w4 := fun F' => ⟨fun β hβ ho => by
     have hne : β ≠ l := fun e => ho (e ▸ .inr ⟨st.nx, _, _, hget, q1, rfl⟩)
     exact ⟨World.putObj_heap_other hne, fun h' => ho (Jlc h')⟩, by simp [w4, World.putObj], fun β arr T ha => by
     have hne : β ≠ l := by rintro rfl; rw [q2] at ha; cases ha
     exact ⟨arr, by rw [World.putObj_heap_other hne]; exact ha, rfl⟩, rfl, rfl, rfl⟩
 have hsr4 : SR G F φ3 sF w4 := (p3.drop st.nx).quiet (Jur q2) fun b i' t' j' hb' => World.putObj_heap_other fun e => by
   obtain ⟨hne, hb2⟩ := Jg9 hb'
   obtain ⟨_, _, k1, _⟩ := p3.blk b _ hb2
   exact hne (p3.inj b st.nx _ _ _ _ hb2 hget k1 q1 (by simpa using e))
 have hstep : ∀ F' : Nat -> Prop, Step (ownF F' φ st.s) (ownF F' φ3 sF) w w4 := fun F' => ((hst1 F').trans (p5 F')).trans (hst4 F')
 have hle : φ.le φ3 := fun b p hp => p1 b p (Jdk hfr b p hp)
 have hnx : st.nx + 1 <= nx' := hgv.le
 have hrel : Rel G N n0 F ⟨st.t, sF, nx'⟩ φ3 { a with defers := mark ++ a.defers } w4 := by
   refine ⟨hsr4, fun b hb => ?_, by have := hr.base; show n0 <= nx'; omega, ⟨hr.tr.size, fun d => (hr.tr.slots d).mono hle (hstep F)⟩, ?_⟩
   . have hb : nx' <= b := hb
     rw [p2 b (.inr hb), show φ1 b = _ from Ja5 (by omega)]
     exact hr.fresh b (by omega)
   . have hside := hr.side.mono (hstep (fun _ => False)) (a' := a) rfl
     refine ⟨hside.low, ?_, hside.round⟩
     obtain ⟨Ds, m1, m2, m3⟩ := hside.marks
     rcases hmk with ⟨rfl, _⟩ | ⟨rfl, hw0⟩
     . exact ⟨Ds, m1, m2, m3⟩
     . refine ⟨w.heap.size :: Ds, by simp [m1], ?_, fun E hE => ?_⟩
       . rw [List.nodup_cons]
         refine ⟨fun hm => ?_, m2⟩
         obtain ⟨Ds', n1, _, n3⟩ := hr.side.marks
         have : Ds' = Ds := by
           have h5 := n1.symm.trans m1
           have hinj : ∀ x y, Jhg x = Jhg y -> x = y := fun x y h => by simpa [Jhg] using h
           exact List.map_inj_right hinj |>.1 h5
         subst this
         have := (Array.getElem?_eq_some_iff.1 (n3 _ hm).2.1).1
         omega
       . rcases List.mem_cons.1 hE with rfl | hE
         . have hl' : l = w.heap.size + 1 := by rw [hl, hw0]; simp
           have h1 : w1.heap[w.heap.size]? = some (.deferred (some [])) := by
             rw [hw1, Jex (by rw [hw0]; simp), hw0]; exact heap_alloc_new
           have hno : ¬ ownF (fun _ => False) φ1 s1 w.heap.size := by
             rintro (hh | ⟨b, y, p, k1, k2, k3⟩)
             . exact hh
             . by_cases eb : b = st.nx
               . subst eb
                 rw [show φ1 st.nx = _ from Ja3] at k2; cases k2
                 omega
               . rw [show φ1 b = _ from Ja5 eb] at k2
                 have k1' : get st.s b = some y := by rwa [Ja1 (Ne.symm eb)] at k1
                 obtain ⟨q, n1, n2⟩ := (hr.sr.blk b y k1').place
                 rw [k2] at n1; cases n1
                 omega
           obtain ⟨n1, n2⟩ := ((p5 (fun _ => False)).trans (hst4 (fun _ => False))).keep w.heap.size (Array.getElem?_eq_some_iff.1 h1).1 hno
           exact ⟨hr.side.low, n1.trans h1, n2⟩
         . exact m3 E hE
 have haft : ∀ (R : St -> Prop), R ⟨st.t, sF, nx'⟩ -> After G N n0 F st φ w R { a with defers := mark ++ a.defers } w4 := fun R hR =>
   ⟨_, φ3, hR, hrel, fun b hb => by
     have hb2 : b < st.nx := Nat.lt_of_lt_of_le hb hr.base
     rw [p2 b (.inl (by omega)), show φ1 b = _ from Ja5 (by omega)], hstep⟩
 cases j with
 | none => exact haft _ hQ
 | some c =>
   cases c with
   | ret => exact wpIn_ret (haft _ hQ)
   | exit id => exact wpIn_exit (haft _ hQ)
   | _ => exact hQ.elim
end
end Go.Am
namespace Go.Am
open Go
section
variable {P : Program} {G : Jae} {N n0 : Nat}
def Jde (m x : Nat) (j : Option Code) (sF : Store) (names : St -> List Nat) (e : Exit) (st : St) : Prop :=
 Jb0 j e /\ Jhl (List.range m ++ names st) st.s [] sF /\ (List.range m ++ names st).Nodup /\ (List.range m ++ names st).length <= m + x
def Jcv (G : Jae) (N m x : Nat) (j : Option Code) (sF : Store) (names : St -> List Nat) (e : Exit) (st : St) : Prop :=
 Jb0 j e /\ ∃ st2, Leads G N m st st2 /\ Jhl (List.range m ++ names st) st2.s [] sF /\ (List.range m ++ names st).Nodup /\ (List.range m ++ names st).length <= m + x
theorem GivesY.of_walk {i : LoopI} {tl t0 : Jaq} {args args' : List AV} {σ free : List Nat} {s s0 s1 up1 : Store} {nx m x lam : Nat} {j : Option Code} (names : St -> List Nat)
   (hm : σ.length = m) (hL : Jfn σ nx s0 s args args') (hlam : get s lam = some (.loop i tl none)) (hlσ : lam ∉ σ) (hlnx : lam < nx) (ht : renT σ t0 = some tl) (hps : i.ps.size = args'.length) (hpN : ∀ d ∈ i.ps.toList, d < i.N)
   (hfree : ∀ b ∈ free, b < m) (hup : renS (Jbt σ nx x) s1 = some up1)
   (h : @xc P G i.N m ⟨i.asg⟩ (Ji6 i.ps args t0) s0 m ⟨fun e st => e = .normal /\ @xc P G i.N m ⟨i.body⟩ st.t st.s st.nx ⟨Jcv G i.N m x j (s1 ++ (free.map (·, none) ++ s0)) names⟩⟩) :
   GivesY P G i.l args' s nx (.p (.bool j.isNone)) (lam :: σ) ((lam, some (.loop i tl j)) :: (up1 ++ free.map fun b => ((σ[b]?).getD 0, none))) (nx + x) :=
 GivesY.of_round hm hL.lends hlam hlσ hlnx ht hps hpN hfree hup ((Jjr h).mono fun e st hst => by
   obtain ⟨rfl, hst⟩ := hst
   exact (Jjr hst).mono fun e st hst => by
     obtain ⟨h1, st2, h2, h3, h4, h5⟩ := hst
     exact ⟨h1, st2, _, h2, fun b y hg => Jn6 h3 b y (by simp) hg, h4, h5, by simp⟩)
theorem Leads.refl {m : Nat} (st : St) : Leads G N m st st := ⟨fun _ φ _ _ hr => ⟨φ, hr, fun _ _ => rfl, fun _ => Step.refl _ _⟩⟩
theorem Jcv.of {m x : Nat} {j : Option Code} {sF : Store} {names : St -> List Nat} {e : Exit} {st : St} (h : Jde m x j sF names e st) : Jcv G N m x j sF names e st :=
 ⟨h.1, st, Leads.refl st, h.2⟩
theorem Jt3 {t : Jaq} : ∀ {keep : List Nat} (d : Nat), slot (pick keep t) d = .any \/ slot (pick keep t) d = slot t d
 | [], d => .inl rfl
 | k :: keep, d => by
   simp only [pick, List.map_cons, slot]
   by_cases e : k = d
   . subst e; rw [if_pos rfl]; exact .inr rfl
   . rw [if_neg e]; exact Jt3 (keep := keep) d
theorem Jer.intro {g : Operand} {ps : Array Tmp} {asg c : Cont Code} {t : Jaq} {s : Store} {nx : Nat} {Q : Cont KQ} {f : Nat} {fnn : Func} {cc : Code} {cap : List AV} (keep : List Nat)
   (hf : P.funcs[f]? = some fnn) (hname : (fnn.name == "runtime.NumGoroutine") = false) (hb : fnn.body = some cc)
   (h : ∀ (l : Nat) (fn : FuncId), ∃ v rd up nx' j, Gives P G f (.fn (.yield l) [] :: cap) ((nx, some (.loop ⟨l, N, fn, ps, asg.k, c.k⟩ (pick keep t) none)) :: s) (nx + 1) v rd up nx' /\
     get (up ++ (nx, some (.loop ⟨l, N, fn, ps, asg.k, c.k⟩ (pick keep t) none)) :: s) nx = some (.loop ⟨l, N, fn, ps, asg.k, c.k⟩ (pick keep t) j) /\
     Jfo Q.k j ⟨t, (nx, none) :: (up ++ (nx, some (.loop ⟨l, N, fn, ps, asg.k, c.k⟩ (pick keep t) none)) :: s), nx'⟩) : @Jer P G N n0 (.fn (.func f) cap) ps asg c g ⟨t, s, nx⟩ Q :=
 fun hg => Jia.intro (st := ⟨t, s, nx⟩) (pick keep t) hg hf hname hb (fun d => Jt3 d) h
theorem Jer.leads {v : AV} {g : Operand} {ps : Array Tmp} {asg c : Cont Code} {st st2 : St} {Q : Cont KQ} (hs : Leads G N n0 st st2) (he : Jag G st2.t g = v) (h : @Jer P G N n0 v ps asg c g st2 Q) : @Jer P G N n0 v ps asg c g st Q :=
 fun _ => ⟨fun F φ a w hr => by
   obtain ⟨φ', h1, h2, h3⟩ := hs.run F φ a w hr
   exact wpIn_mono ((h he).run F φ' a w h1) fun e a' w' ha => After.trans h2 h3 ha⟩
end
end Go.Am
namespace Go.Am
open Go
section
variable {P : Program} {G : Jae} {N n0 : Nat}
@[simp] theorem Kam {K : St -> Prop} {Q : Exit -> St -> Prop} {st : St} : Je5 K Q .normal st = K st := rfl
@[simp] theorem Kao {K : St -> Prop} {Q : Exit -> St -> Prop} {st : St} : Je5 K Q .ret st = Q .ret st := rfl
@[simp] theorem Kal {K : St -> Prop} {Q : Exit -> St -> Prop} {st : St} {i : Nat} : Je5 K Q (.exit i) st = Q (.exit i) st := rfl
end
end Go.Am
namespace Go.Am
open Go
section
variable {P : Program}
end
end Go.Am
namespace Go.Am
open Go
section
variable {P : Program}
def IsS4 (x : AV) : Prop := ∃ a b c d : List UInt8, x = .agg [.p (.str a), .p (.str b), .p (.str c), .p (.str d)]
theorem IsS4.val {φ : Places} {own : Nat -> Prop} {w : World} {a b c d : List UInt8} {v : Value} (h : VR φ own w (.agg [.p (.str a), .p (.str b), .p (.str c), .p (.str d)]) v) : v = .agg ⟨[.string ⟨⟨a⟩⟩, .string ⟨⟨b⟩⟩, .string ⟨⟨c⟩⟩, .string ⟨⟨d⟩⟩]⟩ := by
 obtain ⟨us, rfl, h1, h2⟩ := h.agg_inv
 match us, h1 with
 | [x, y, z, u], _ =>
   have e1 := (h2 0 _ x rfl rfl).str_inv
   have e2 := (h2 1 _ y rfl rfl).str_inv
   have e3 := (h2 2 _ z rfl rfl).str_inv
   have e4 := (h2 3 _ u rfl rfl).str_inv
   rw [e1, e2, e3, e4]
theorem J2i {k : Nat} (hwide : (match P.underlying k with | some (.array _ _) | some (.struct _) => true | _ => false) = true)
   (hcheck : ∀ (w : World) (em : Bool) (a b c d : ByteArray), (Instr.checkKey em 10000 k (.agg ⟨[.string a, .string b, .string c, .string d]⟩)).run P w = .ok () w)
   (heq : ∀ (a b c d a' b' c' d' : List UInt8), eqA P 8 k (.agg [.p (.str a), .p (.str b), .p (.str c), .p (.str d)]) (.agg [.p (.str a'), .p (.str b'), .p (.str c'), .p (.str d')]) = some (decide ((a = a' /\ b = b') /\ (c = c' /\ d = d')))) : KeyOk P k IsS4 where
 check := fun φ own w em x v hx hv => by
   obtain ⟨a, b, c, d, rfl⟩ := hx
   rw [IsS4.val hv]
   exact hcheck w em _ _ _ _
 find := fun φ own w x v es ms hx hv hes h => by
   have e : (Instr.findKey k v ms).run P w = (Instr.findAsking k v ms).run P w := run_findKey_eq w hwide v ms
   rw [e]
   have := Jnf (P := P) (k := k) (Kp := IsS4) hx hv (fun x y hx hy => by
     obtain ⟨a, b, c, d, rfl⟩ := hx
     obtain ⟨a', b', c', d', rfl⟩ := hy
     exact ⟨_, heq a b c d a' b' c' d', by simp; grind⟩) es ms 0 hes h
   simpa using this
 stays := fun φ own w x v v' hx hv hv' => by
   obtain ⟨a, b, c, d, rfl⟩ := hx
   rw [IsS4.val hv, IsS4.val hv']
   have e : Instr.sameBits 10000 (.agg ⟨[.string ⟨⟨a⟩⟩, .string ⟨⟨b⟩⟩, .string ⟨⟨c⟩⟩, .string ⟨⟨d⟩⟩]⟩) (.agg ⟨[.string ⟨⟨a⟩⟩, .string ⟨⟨b⟩⟩, .string ⟨⟨c⟩⟩, .string ⟨⟨d⟩⟩]⟩) = true := by
     simp [Instr.sameBits, Go.MapKept.bytes_beq]
   rw [Instr.keyThatStays, if_pos e]
   rfl
end
end Go.Am
namespace Go.Am
open Go
section
variable {P : Program} {G : Jae} {N : Nat}
theorem Gives.of_walkFL {f : Nat} {fn : Func} {c : Code} {args args' : List AV} {σ : List Nat} {s s0 : Store} {nx m : Nat} {r : AV} (st2 : St) (hf : P.funcs[f]? = some fn) (hb : fn.body = some c) (hname : (fn.name == "runtime.NumGoroutine") = false)
   (hN : fn.ntmps = N) (hargs : args.length <= N) (hm : σ.length = m) (hL : Jfn σ nx s0 s args args') (hk : ∀ p ∈ s0, p.1 < m) (hp : Jan r = true)
   (h0 : Leads G N m ⟨Jc4 0 args, s0, m⟩ st2)
   (h : @xc P G N m ⟨c⟩ st2.t st2.s st2.nx ⟨Jaa P fn.results.toList r⟩) : Gives P G f args' s nx r σ (σ.map (·, none)) nx := by
 have h2 := Gives.of_body (σ := σ) (free := List.range m) (s0 := s0) (s1 := []) (up1 := []) (nx := nx) (x := 0) (r := r) (rc := r) hf hb hname hN hargs hm hL.lends (fun b hb => by simpa using hb) (Jf4.1 r hp) rfl
   (AEv.leads h0 ((Jjr h).mono fun e st hst => by
     obtain ⟨he, vs, h1, h2⟩ := hst
     refine ⟨he, vs, h1, List.range m, fun _ => True, _, r, Jl9 _, .frz _ _ (Jo6 h2), Jf4.1 r hp, ⟨?_, List.nodup_range, by simp, by simp⟩, ?_⟩
     . intro b y hg
       exfalso
       rw [List.nil_append, get_append] at hg
       split at hg
       . rw [Jkn] at hg; cases hg
       . rename_i hn
         have := get_mem hg
         exact hn (by simp [keys, List.map_map]; exact hk _ this)
     . intro b b' y _ hg
       exfalso
       rw [List.nil_append, get_append] at hg
       split at hg
       . rw [Jkn] at hg; cases hg
       . rename_i hn
         have := get_mem hg
         exact hn (by simp [keys, List.map_map]; exact hk _ this)))
 have e : ((List.range m).map fun b => ((σ[b]?).getD 0, (none : Option ABlk))) = σ.map (·, none) := by
   subst hm
   apply List.ext_getElem
   . simp
   . intro i h1 h2
     simp at h1
     simp [h1]
 rw [List.nil_append, e] at h2
 exact h2
theorem FrzB.two {s : Store} {B : List Nat} {k : Nat} {y x y' x' : AV} (h : FrzK s (· ∈ B) y x) (h' : FrzK s (· ∈ B) y' x') : FrzB s B (.cells k [[y, y']]) (.cells k [[x, x']]) := by
 refine .inr ⟨k, _, _, rfl, rfl, fun i j row' z h1 h2 => ?_⟩
 match i, j with
 | 0, 0 => simp at h1; subst h1; simp at h2; subst h2; exact ⟨_, _, rfl, rfl, h⟩
 | 0, 1 => simp at h1; subst h1; simp at h2; subst h2; exact ⟨_, _, rfl, rfl, h'⟩
 | 0, j + 2 => simp at h1; subst h1; simp at h2
 | i + 1, _ => simp at h1
end
end Go.Am
