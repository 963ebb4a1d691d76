/- Lemmas and contracts for the proof of a statement of this seat. -/
import Derived.Test.YthojegdboknbbaaGreatDoorZA4
import Derived.ProofKit
import Derived.LaidMore
import Derived.Carry
import Derived.OpenVars
import Derived.OpenShut
import Derived.Below
import Derived.Shelf.Abstract
import Derived.Laws.AppendOwn
import Derived.Test.YthojegdboknbbaaGreatDoorZA5
set_option linter.unusedVariables false
set_option linter.unusedSimpArgs false
namespace Go.Am
open Go Go.RowKit Go.WideElems Go.ChangeShapes Go.ChangeAt
theorem Pure.calls_of {P : Program} {G : Jac} {f : Nat} {fn : Func} {args : List AV} {r : AV} (h : Pure P G f args r) (hf : P.funcs[f]? = some fn) (hb : fn.body.isNone = false) (hn : (fn.name == "runtime.NumGoroutine") = false) {w : World} {vs : List Value}
   (hg : Jcu G (fun _ => False) w) (hl : vs.length = args.length) (hv : ∀ (i : Nat) x v, args[i]? = some x -> vs[i]? = some v -> VR (fun _ => none) (fun _ => False) w x v) :
   Calls P f ⟨vs⟩ w fun e w' => ∃ v, e = .returned v /\ VR (fun _ => none) (fun _ => False) w' r v /\ Below w.heap.size w w' := by
 have h1 := h.run (fun _ => False) w vs hg (fun β h => h.elim) hl hv
 have e : (callFunc f ⟨vs⟩).run P w = .ok (.enter f ⟨vs⟩) w := by
   simp only [callFunc, Sem.run_bind, run_program, Result.andThen_ok, hf, hn, hb, Bool.false_eq_true, if_false, Sem.run_pure]
 rw [e] at h1
 have h2 : Calls P f ⟨vs⟩ w fun e w' => ∃ v, e = .returned v /\ (VR (fun _ => none) (fun _ => False) w' r v /\ (∀ β, β < w.heap.size -> w'.heap[β]? = w.heap[β]?) /\ Step (fun _ => False) (fun _ => False) w w') := h1
 exact h2.mono fun e w' ⟨v, he, hr, hk, hs⟩ => ⟨v, he, hr, ⟨hs.os, hs.tape, hs.output, hs.size, hk⟩⟩
section
variable {H : Type} {enc : TypeId × Value -> H} {P : Program}
theorem Jsy (hl : laidOutB P = true) {W W' : World} (hb : Below W.heap.size W W') : ∀ {ts : List TypeId} {vs : List Value} {ds : List (DataW H)} {ps : List MemPlace},
   (∀ t ∈ ts, P.readableRec t = true /\ t < P.types.size) -> DataW.TrodAll enc P W 0 (fun _ => true) true ts vs ds ps -> (∀ x ∈ ps, x.block < W.heap.size) ->
   DataW.TrodAll enc P W' 0 (fun b => decide (b < W.heap.size)) true ts vs ds ps
 | [], [], [], _, _, h, _ => h
 | t :: ts, v :: vs, d :: ds, ps, ht, h, hlt => by
   obtain ⟨p, q, h1, h2, rfl⟩ := h
   exact ⟨p, q, Below.trod hl (ht t (by simp)).1 (ht t (by simp)).2 h1 hb (fun x hx => hlt x (by simp [hx])), Jsy hl hb (fun t h => ht t (by simp [h])) h2 (fun x hx => hlt x (by simp [hx])), rfl⟩
 | [], _ :: _, _, _, _, h, _ => h.elim
 | [], [], _ :: _, _, _, h, _ => h.elim
 | _ :: _, [], _, _, _, h, _ => h.elim
 | _ :: _, _ :: _, [], _, _, h, _ => h.elim
theorem Jyz {fn : Func} {s : ChangeSpec} {apart fresh handsOn : Bool} {W W' : World} {args : Array Value} {ds gs : List (DataW H)} {before : List MemPlace} {tb : TypeId}
   (hW : DataW.Whole enc P fn.params.toList s.vars apart W args.toList ds gs before) (hl : laidOutB P = true) (hvars : varsRowed P s.vars = true)
   (hpar : ∀ t ∈ fn.params.toList, P.readableRec t = true /\ t < P.types.size) (hres : fn.resultTypes = #[tb]) (htb : P.underlying tb = some .bool)
   (hsp : s.fn H (ds ++ gs) = { results := [.lit (.bool true)], args := ds, vars := gs }) (hb : Below W.heap.size W W') :
   s.post enc P fn apart fresh handsOn false W args (.bool true) W' := by
 have hW2 := hW
 obtain ⟨p, q, hA, hV, rfl, hz, hn⟩ := hW2
 have hlt : ∀ x ∈ p ++ q, x.block < W.heap.size := fun x hx => hW.lt x hx
 refine ⟨ds, gs, p ++ q, [], p, q, hW, ?_, ?_, ?_, hb.frame _, fun h => by cases h⟩
 . rw [hres, hsp]
   exact trodAll_mk1 (shut_bool htb _)
 . rw [hsp]
   exact Jsy hl hb hpar hA (fun x hx => hlt x (List.mem_append.2 (.inl hx)))
 . rw [hsp]
   exact Below.trodVars hl hb hvars hV
theorem J4j {G : Jac} {f : Nat} {fn : Func} {avs : List AV} {s : ChangeSpec} {apart fresh handsOn : Bool} {W : World} {args : Array Value} {ds gs : List (DataW H)} {before : List MemPlace} {tb : TypeId}
   (h : Pure P G f avs (.p (.bool true))) (hf : P.funcs[f]? = some fn) (hb : fn.body.isNone = false) (hn : (fn.name == "runtime.NumGoroutine") = false)
   (hg : Jcu G (fun _ => False) W) (hl : args.toList.length = avs.length) (hv : ∀ (i : Nat) x v, avs[i]? = some x -> args.toList[i]? = some v -> VR (fun _ => none) (fun _ => False) W x v)
   (hW : DataW.Whole enc P fn.params.toList s.vars apart W args.toList ds gs before) (hlaid : laidOutB P = true) (hvars : varsRowed P s.vars = true)
   (hpar : (fn.params.toList.all fun t => P.readableRec t && decide (t < P.types.size)) = true) (hres : fn.resultTypes = #[tb]) (htb : P.underlying tb = some .bool)
   (hsp : s.fn H (ds ++ gs) = { results := [.lit (.bool true)], args := ds, vars := gs }) :
   Calls P f args W fun e W' => ∃ v, e = .returned v /\ s.post enc P fn apart fresh handsOn false W args v W' := by
 have hc := h.calls_of hf hb hn (vs := args.toList) hg hl hv
 refine Calls.mono hc fun e W' ⟨v, he, hr, hbel⟩ => ⟨v, he, ?_⟩
 have hvt : v = .bool true := by
   cases hr with
   | p _ _ h => cases h; rfl
 subst hvt
 refine Jyz hW hlaid hvars (fun t ht => ?_) hres htb hsp hbel
 have := List.all_eq_true.1 hpar t ht
 simpa using this
end
end Go.Am
namespace Go.Am
open Go Go.Proofs Go.RowKit
theorem Jsk {own : Nat -> Prop} {w w' : World} (h : Below w.heap.size w w') : Step own own w w' where
 keep := fun β hβ ho => ⟨h.block β hβ, ho⟩
 size := h.size
 shape := fun β arr T ha => ⟨arr, by rw [h.block β (Array.getElem?_eq_some_iff.1 ha).1]; exact ha, rfl⟩
 os := h.os
 tape := h.tape
 output := h.output
theorem Pure.of_below {P : Program} {G : Jac} {f : Nat} {fn : Func} {c : Code} {args : List AV} {r : AV} (hf : P.funcs[f]? = some fn) (hname : (fn.name == "runtime.NumGoroutine") = false) (hb : fn.body = some c) (hp : Ja5 args = true)
   (h : ∀ (own : Nat -> Prop) (w : World) (vs : List Value), Jcu G own w -> (∀ β, own β -> β < w.heap.size) -> vs.length = args.length -> (∀ (i : Nat) x v, args[i]? = some x -> vs[i]? = some v -> VR (fun _ => none) own w x v) ->
     Calls P f ⟨vs⟩ w fun e w' => ∃ u, e = .returned u /\ VR (fun _ => none) own w' r u /\ Below w.heap.size w w') : Pure P G f args r := by
 refine ⟨hp, fun own w vs hg hs hl hv => ?_⟩
 have eC := enters_of hf hname hb ⟨vs⟩ w
 rw [eC]
 refine Calls.mono (h own w vs hg hs hl hv) ?_
 rintro e w' ⟨u, rfl, h1, h2⟩
 exact ⟨u, rfl, h1, h2.block, Jsk h2⟩
end Go.Am
namespace Go.Am
open Go
section
variable {P : Program} {G : Jac} {N n0 : Nat}
def Jda (ps : Array Tmp) (args : List AV) (t : Jap) : Jap := (ps.toList.zip args).reverse ++ t
theorem Jlc {φ : Places} {own : Nat -> Prop} {w : World} {N : Nat} : ∀ (ps : List Tmp) (vs : List Value) (xs : List AV) (tmps : Array Value) (t : Jap), vs.length = xs.length -> tmps.size = N -> (∀ d ∈ ps, d < N) ->
   (∀ d, VR φ own w (slot t d) (tmps.getD d undef)) -> (∀ (i : Nat) x v, xs[i]? = some x -> vs[i]? = some v -> VR φ own w x v) ->
   ((ps.zip vs).foldl (fun tmps (t, a) => tmps.setIfInBounds t a) tmps).size = N /\ ∀ d, VR φ own w (slot ((ps.zip xs).reverse ++ t) d) (((ps.zip vs).foldl (fun tmps (t, a) => tmps.setIfInBounds t a) tmps).getD d undef)
 | [], vs, xs, tmps, t, _, hN, _, ht, _ => by simpa [hN] using ht
 | p :: ps, [], [], tmps, t, _, hN, _, ht, _ => by simpa [hN] using ht
 | p :: ps, v :: vs, x :: xs, tmps, t, hl, hN, hp, ht, hx => by
   have ih := Jlc ps vs xs (tmps.setIfInBounds p v) ((p, x) :: t) (by simpa using hl) (by simpa using hN) (fun d hd => hp d (by simp [hd])) (fun d => by
     have hpN := hp p (by simp)
     simp only [slot]
     by_cases e : p = d
     . subst e
       rw [if_pos rfl]
       have : (tmps.setIfInBounds p v).getD p undef = v := by simp [hN, hpN]
       rw [this]; exact hx 0 x v rfl rfl
     . rw [if_neg e]
       have : (tmps.setIfInBounds p v).getD d undef = tmps.getD d undef := by simp [Array.getElem?_setIfInBounds_ne e]
       rw [this]; exact ht d) (fun i y u hy hu => hx (i + 1) y u (by simpa using hy) (by simpa using hu))
   refine ⟨by simpa using ih.1, fun d => ?_⟩
   have := ih.2 d
   simpa [List.zip_cons_cons, List.reverse_cons, List.append_assoc] using this
 | p :: ps, [], x :: xs, _, _, hl, _, _, _, _ => by simp at hl
 | p :: ps, v :: vs, [], _, _, hl, _, _, _, _ => by simp at hl
def Jb3 : Option Code -> Exit -> Prop
 | none, e => e = .normal
 | some .ret, e => e = .ret
 | some (.exit id), e => e = .exit id
 | _, _ => False
def Jnj (G : Jac) (N m x : Nat) (j : Option Code) (sF : Store) (e : Exit) (st : St) : Prop :=
 Jb3 j e /\ ∃ (st2 : St) (τ : List Nat), Leads G N m st st2 /\ Out τ m x st2 sF
theorem Jsj {o o1 o2 : Nat -> Prop} {w w1 w3 : World} {l : Nat} {b r : Loop} (h1 : Step o o1 w w1) (h2 : Step o1 o2 (w1.putObj l (.loop b)) w3) (h0 : w.heap[l]? = some (.loop r)) (hl1 : w1.heap[l]? = some (.loop r)) :
   Step o o2 w (w3.putObj l (.loop r)) := by
 have hlt := (Array.getElem?_eq_some_iff.1 h0).1
 have hlt1 := (Array.getElem?_eq_some_iff.1 hl1).1
 have hs1 : (w1.putObj l (.loop b)).heap.size = w1.heap.size := by simp [World.putObj]
 have hlt3 : l < w3.heap.size := by have := h2.size; have := h1.size; omega
 refine ⟨fun β hβ ho => ?_, ?_, fun β arr T ha => ?_, ?_, ?_, ?_⟩
 . obtain ⟨e1, e2⟩ := h1.keep β hβ ho
   obtain ⟨e3, e4⟩ := h2.keep β (by rw [hs1]; exact Nat.lt_of_lt_of_le hβ h1.size) e2
   refine ⟨?_, e4⟩
   by_cases e : β = l
   . subst e
     rw [World.putObj_heap_same hlt3, h0]
   . rw [World.putObj_heap_other e, e3, World.putObj_heap_other e, e1]
 . have := h2.size; have := h1.size; simp [World.putObj]; omega
 . have hne : β ≠ l := by rintro rfl; rw [h0] at ha; cases ha
   obtain ⟨a1, k1, k2⟩ := h1.shape β arr T ha
   obtain ⟨a3, k3, k4⟩ := h2.shape β a1 T (by rw [World.putObj_heap_other hne]; exact k1)
   exact ⟨a3, by rw [World.putObj_heap_other hne]; exact k3, by omega⟩
 . exact h2.os.trans h1.os
 . exact h2.tape.trans h1.tape
 . exact h2.output.trans h1.output
theorem Jrp {w : World} {l : Nat} {r r' : Loop} (h : w.heap[l]? = some (.loop r)) : Quiet w (w.putObj l (.loop r')) :=
 ⟨by simp [World.putObj], fun β o ho _ hr => by
   have : β ≠ l := by rintro rfl; rw [h] at ho; cases ho; exact hr _ rfl
   rw [World.putObj_heap_other this]; exact ho, rfl, rfl, rfl⟩
theorem Rel.busy [B : Base] {F : Nat -> Prop} {st : St} {φ : Places} {a : Act} {w : World} {l : Nat} {r r' : Loop} (h : Rel G N n0 F st φ a w) (hF : F l) (hl : w.heap[l]? = some (.loop r)) : Rel G N n0 F st φ a (w.putObj l (.loop r')) := by
 have q := Jrp (r' := r') hl
 have hlt := (Array.getElem?_eq_some_iff.1 hl).1
 refine ⟨h.sr.quiet q (fun b i t j hb => World.putObj_heap_other fun e => ?_), h.fresh, h.base, ⟨h.tr.size, fun d => (h.tr.slots d).quiet q⟩, by rw [q.size]; exact h.side.low, ?_, ?_⟩
 . obtain ⟨tmps, D, h1, _⟩ := h.sr.blk b _ hb
   exact h.sr.disj b _ _ hb h1 (by rw [e]; exact hF)
 . obtain ⟨Ds, h1, h2, h3⟩ := h.side.marks
   refine ⟨Ds, h1, h2, fun D hD => ?_⟩
   obtain ⟨k1, k2, k3⟩ := h3 D hD
   exact ⟨k1, by rw [World.putObj_heap_other (fun e => by rw [e, hl] at k2; cases k2)]; exact k2, k3⟩
 . intro l' hl'
   obtain ⟨r1, k1, k2⟩ := h.side.round l' hl'
   by_cases e : l' = l
   . subst e; exact ⟨r', World.putObj_heap_same hlt, k2⟩
   . exact ⟨r1, by rw [World.putObj_heap_other e]; exact k1, k2⟩
theorem GivesY.of_round {i : LoopI} {tl t0 : Jap} {args args' : List AV} {σ free : List Nat} {s s0 s1 up1 : Store} {nx m x lam : Nat} {j : Option Code}
   (hm : σ.length = m) (hL : Lends σ nx s0 s args args') (hlam : get s lam = some (.loop i tl none)) (hlσ : lam ∉ σ) (hlnx : lam < nx) (ht : renT σ t0 = some tl) (hps : i.ps.size = args'.length) (hpN : ∀ d ∈ i.ps.toList, d < i.N)
   (hfree : ∀ b ∈ free, b < m) (hup : renS (Jaq σ nx x) s1 = some up1)
   (h : AEv P G i.N m i.asg ⟨Jda i.ps args t0, s0, m⟩ (Jgj (fun st => AEv P G i.N m i.body st (Jnj G i.N m x j (s1 ++ (free.map (·, none) ++ s0)))) (fun _ _ => False))) :
   GivesY P G i.l args' s nx (.p (.bool j.isNone)) (lam :: σ) ((lam, some (.loop i tl j)) :: (up1 ++ free.map fun b => ((σ[b]?).getD 0, none))) (nx + x) := by
 refine ⟨Nat.le_add_right _ _, fun F φ s1c w vs hag0 hs hfr hlv hv => ?_⟩
 have hag : Jb1 s s1c σ := fun b hb => hag0 b (by simp [hb])
 have hlam1 : get s1c lam = some (.loop i tl none) := (hag0 lam (by simp)).trans hlam
 obtain ⟨tmps, D, hφ, hrec, hsz, hsl⟩ := hs.blk lam _ hlam1
 have hlen : args'.length = args.length := (Jbz hL.args).1
 have hloop : Ja3 i tmps D none = { state := .ready, pending := none, fn := i.fn, tmps := tmps, params := i.ps, assign := i.asg, body := i.body, defers := D } := rfl
 let φ0 := via φ σ
 let F2 := Jcd φ σ s1c F
 have hFl : F2 i.l := .inr ⟨lam, _, _, hlam1, hlσ, hφ, rfl⟩
 have hlt := (Array.getElem?_eq_some_iff.1 hrec).1
 have hnot : ∀ (φx : Places) (s' : Store) (w' : World), SR G F2 φx s' w' -> ¬ ownF (fun _ => False) φx s' i.l := by
   rintro φx s' w' hx (hh | ⟨b, y, p, h1, h2, h3⟩)
   . exact hh
   . exact hx.disj b y p h1 h2 (by rw [h3]; exact hFl)
 rw [run_yield hrec (by show vs.length = i.ps.size; omega)]
 let _B : Base := ⟨w.heap.size, some i.l⟩
 have hsr0 := Jqj hL hag hs
 have hrel : Rel G i.N m F2 ⟨Jda i.ps args t0, s0, m⟩ φ0 { tmps := (i.ps.zip ⟨vs⟩).foldl (fun tmps (t, a) => tmps.setIfInBounds t a) tmps, defers := [] } w := by
   have hslots := Jlc (φ := φ0) (own := ownF F2 φ0 s0) (w := w) (N := i.N) i.ps.toList vs args tmps t0 (by omega) hsz hpN (fun d => by
     rw [Jg4 hL hag F]
     rcases Jhb ht d with ⟨e1, _⟩ | e
     . rw [e1]; exact .any _
     . exact (hsl d).ren e) (fun k y v hy hv' => by
     rw [Jg4 hL hag F]
     obtain ⟨y', e1, e2⟩ := (Jbz hL.args).2 k y hy
     exact (hv k y' v e1 hv').ren e2)
   have hfold : (i.ps.zip ⟨vs⟩).foldl (fun tmps (t, a) => tmps.setIfInBounds t a) tmps = (i.ps.toList.zip vs).foldl (fun tmps (t, a) => tmps.setIfInBounds t a) tmps := by
     rw [<- Array.foldl_toList, Array.toList_zip]
   refine ⟨hsr0, fun b hb => ?_, Nat.le_refl _, ⟨by simp only [hfold]; exact hslots.1, fun d => by simp only [hfold]; exact hslots.2 d⟩, ⟨Nat.le_refl _, ⟨[], rfl, List.nodup_nil, by simp⟩, fun l hl => ?_⟩⟩
   . have hb : m <= b := hb
     have : σ[b]? = none := List.getElem?_eq_none (by omega)
     simp [φ0, via, this]
   . cases hl
     exact ⟨_, hrec, hnot _ _ _ hsr0⟩
 show RoundIn Fence.wide 0 P i.l i.fn _ i.asg i.body w _
 refine roundIn_of_wpIn trivial ?_
 refine wpIn_mono (h.run F2 φ0 _ w hrel) fun e a1 w1 ha => ?_
 obtain ⟨st1, φ1, hk1, hr1, hb1, hst1⟩ := ha
 cases e with
 | normal =>
   have hl1 : w1.heap[i.l]? = some (.loop (Ja3 i tmps D none)) := (((hst1 (fun _ => False)).keep i.l hlt (hnot _ _ _ hsr0)).1).trans hrec
   refine ⟨_, run_beginRound hl1 rfl, ?_⟩
   have hr2 := hr1.busy (r' := { Ja3 i tmps D none with state := .busy }) hFl hl1
   have hlt1 := (Array.getElem?_eq_some_iff.1 hl1).1
   refine wpIn_mono (hk1.run F2 φ1 a1 _ hr2) fun e a3 w3 ha => ?_
   obtain ⟨st3, φ3, ⟨hje, st4, τ, hlead, hout⟩, hr3, hb3, hst3⟩ := ha
   have hl3 : w3.heap[i.l]? = some (.loop { Ja3 i tmps D none with state := .busy }) :=
     (((hst3 (fun _ => False)).keep i.l (by simpa [World.putObj] using hlt1) (hnot _ _ _ hr1.sr)).1).trans (World.putObj_heap_same hlt1)
   have hlt3 := (Array.getElem?_eq_some_iff.1 hl3).1
   -- the end of the round
   have fin : ∀ (c : Option Code), c = j -> ∃ v w', (Instr.endRound i.l c).run P w3 = .ok v w' /\ ∃ v', Ending.returned v = .returned v' /\
       Post G F φ s1c w (.p (.bool j.isNone)) ((lam, some (.loop i tl j)) :: (up1 ++ free.map fun b => ((σ[b]?).getD 0, none))) nx (nx + x) v' w' := by
     rintro c rfl
     refine ⟨_, _, run_endRound c hl3, _, rfl, ?_⟩
     -- the world with the record as it was
     have hsr3 := (hr3.busy (r' := Ja3 i tmps D none) hFl hl3)
     obtain ⟨φ4, hr4, hb4, hst4⟩ := hlead.run F2 φ3 a3 _ hsr3
     have hstep : ∀ F' : Nat -> Prop, Step (ownF F' φ0 s0) (ownF F' φ4 st4.s) w (w3.putObj i.l (.loop (Ja3 i tmps D none))) := fun F' => (Jsj (hst1 F') (hst3 F') hrec hl1).trans (hst4 F')
     have hpost := Jqh (s1 := s1) (r := .p (.bool c.isNone)) (rc := .p (.bool c.isNone)) (r0 := .p (.bool c.isNone)) (r1 := .p (.bool c.isNone)) (rv := .p (.bool c.isNone)) (B := fun _ => False) (u := .bool c.isNone) hm hL hfree rfl hup hag hs hfr
       (Jho _) (.keep _) rfl hout (fun _ _ _ _ _ h => h) hr4.sr (fun b hb => ((hb4 b hb).trans (hb3 b hb)).trans (hb1 b hb)) hstep (.p _ _ (.bool _))
     obtain ⟨φ5, p1, p2, p3, p4, p5⟩ := hpost
     -- the record is turned
     have hl4 : (w3.putObj i.l (.loop (Ja3 i tmps D none))).heap[i.l]? = some (.loop (Ja3 i tmps D none)) := World.putObj_heap_same hlt3
     have hφ5 := p1 _ _ hφ
     have hkeys : get ((up1 ++ free.map fun b => ((σ[b]?).getD 0, (none : Option ABlk))) ++ s1c) lam = some (.loop i tl none) := by
       rw [get_append, if_neg, hlam1]
       intro hm'
       simp only [keys, List.map_append, List.mem_append, List.map_map, List.mem_map, Function.comp] at hm'
       rcases hm' with ⟨q, hq, e⟩ | ⟨b, hb, e⟩
       . have := Je1 hup lam (List.mem_map.2 ⟨q, hq, e⟩)
         rcases Jiy.1 this with h | h
         . exact hlσ h
         . omega
       . have hbm := hfree b hb
         have hσb : σ[b]? = some (σ[b]'(by omega)) := List.getElem?_eq_getElem (by omega)
         rw [hσb] at e
         exact hlσ (e ▸ List.mem_of_getElem? hσb)
     have hw : (w3.putObj i.l (.loop { { Ja3 i tmps D none with state := .busy } with state := if c.isNone then .ready else .done, pending := c })).heap = (w3.putObj i.l (.loop (Ja3 i tmps D none))).heap.setIfInBounds i.l (.loop (Ja3 i tmps D c)) := by
       apply Array.ext_getElem?
       intro k
       simp only [World.putObj, Array.getElem?_setIfInBounds]
       by_cases e : i.l = k
       . subst e; simp [hlt3, Ja3]
       . simp [e]
     obtain ⟨q1, q2⟩ := p3.turnO (x := .loop i tl c) hkeys hφ5 hl4 (fun _ _ h => by cases h) hw rfl rfl rfl fun st => by
       obtain ⟨tmps2, D2, e1, e2, e3, e4⟩ := p3.blk lam _ hkeys
       rw [hl4] at e2
       simp only [Option.some.injEq, Obj.loop.injEq, Ja3, Loop.mk.injEq, true_and] at e2
       obtain ⟨rfl, rfl⟩ : tmps = tmps2 /\ D = D2 := ⟨e2.1, e2.2⟩
       refine ⟨tmps, D, e1, by rw [hw]; simp [World.putObj, hlt3], e3, fun d => (e4 d).mono (fun _ _ h => h) st⟩
     exact ⟨φ5, p1, p2, q1, .p _ _ (.bool _), fun F' => (p5 F').trans (q2 F')⟩
   cases e with
   | normal =>
     have : j = none := by
       cases j with
       | none => rfl
       | some c => cases c <;> simp [Jb3] at hje
     obtain ⟨v, w', f1, f2⟩ := fin none this.symm
     exact ⟨v, w', f1, f2⟩
   | ret =>
     have : j = some .ret := by
       cases j with
       | none => simp [Jb3] at hje
       | some c => cases c <;> simp [Jb3] at hje; rfl
     obtain ⟨v, w', f1, f2⟩ := fin (some .ret) this.symm
     exact ⟨v, w', f1, f2⟩
   | exit id =>
     have : j = some (.exit id) := by
       cases j with
       | none => simp [Jb3] at hje
       | some c => cases c <;> simp [Jb3] at hje; rw [hje]
     obtain ⟨v, w', f1, f2⟩ := fin (some (.exit id)) this.symm
     exact ⟨v, w', f1, f2⟩
   | _ =>
     exfalso
     cases j with
     | none => simp [Jb3] at hje
     | some c => cases c <;> simp [Jb3] at hje
 | _ => exact hk1.elim
theorem Jwq [B : Base] {own : Nat -> Prop} {a : Act} {w : World} (h : Side own a w) (fn : FuncId) (N : Nat) (ps : Array Tmp) (asg body : Code) :
   ∃ (l D : Nat) (mark : List Deferred) (w0 w1 : World), (Instr.enterLoop fn a.tmps ps asg body B.mode).run P w = .ok (l, mark) w1 /\ l = w0.heap.size /\ w1 = w0.alloc (.loop (Ja3 ⟨l, N, fn, ps, asg, body⟩ a.tmps D none)) /\
     ((mark = [] /\ w0 = w) \/ (mark = [Jfy w.heap.size] /\ w0 = w.alloc (.deferred (some [])))) := by
 cases hm : B.mode with
 | none => exact ⟨_, _, _, _, _, run_enterLoop_outer fn a.tmps ps asg body, by simp, rfl, .inr ⟨rfl, rfl⟩⟩
 | some l0 =>
   obtain ⟨r0, h1, _⟩ := h.round l0 hm
   exact ⟨_, _, _, _, _, run_enterLoop_inner h1 fn a.tmps ps asg body, rfl, rfl, .inl ⟨rfl, rfl⟩⟩
theorem J2h {own : Nat -> Prop} {w : World} (_hs : ∀ β, own β -> β < w.heap.size) (o : Obj) : Step own own w (w.alloc o) where
 keep := fun β hβ ho => ⟨Jdh hβ, ho⟩
 size := by simp
 shape := fun β arr T h => ⟨arr, by rw [Jdh (Array.getElem?_eq_some_iff.1 h).1]; exact h, rfl⟩
 os := rfl
 tape := rfl
 output := rfl
theorem SR.alloc0 {F : Nat -> Prop} {φ : Places} {s : Store} {w : World} (h : SR G F φ s w) (o : Obj) : SR G F φ s (w.alloc o) :=
 h.change (fun _ _ h => h) (J2h h.osize o) (fun b x hb => .inl ⟨hb, fun p hp => by
   obtain ⟨q, h1, h2⟩ := (h.blk b x hb).place
   rw [hp] at h1; cases h1
   exact Jdh h2⟩) h.inj h.disj
def Jea (Q : Exit -> St -> Prop) : Option Code -> St -> Prop
 | none, st => Q .normal st
 | some .ret, st => Q .ret st
 | some (.exit id), st => Q (.exit id) st
 | _, _ => False
theorem Jgq.intro {g : Operand} {ps : Array Tmp} {asg body : Code} {st : St} {Q : Exit -> St -> Prop} {f : Nat} {fnn : Func} {cc : Code} {cap : List AV} (tl : Jap) (hg : Jah G st.t g = .fn (.func f) cap)
   (hf : P.funcs[f]? = some fnn) (hname : (fnn.name == "runtime.NumGoroutine") = false) (hb : fnn.body = some cc) (htl : ∀ d, slot tl d = .any \/ slot tl d = slot st.t d)
   (h : ∀ (l : Nat) (fn : FuncId), ∃ v rd up nx' j, Gives P G f (.fn (.yield l) [] :: cap) ((st.nx, some (.loop ⟨l, N, fn, ps, asg, body⟩ tl none)) :: st.s) (st.nx + 1) v rd up nx' /\
     get (up ++ (st.nx, some (.loop ⟨l, N, fn, ps, asg, body⟩ tl none)) :: st.s) st.nx = some (.loop ⟨l, N, fn, ps, asg, body⟩ tl j) /\
     Jea Q j ⟨st.t, (st.nx, none) :: (up ++ (st.nx, some (.loop ⟨l, N, fn, ps, asg, body⟩ tl none)) :: st.s), nx'⟩) : Jgq P G N n0 g ps asg body st Q := by
 refine ⟨fun F φ a w hr => wpIn_rangeFunc fun fn _ => ?_⟩
 obtain ⟨l, D, mark, w0, w1, hent, hl, hw1, hmk⟩ := Jwq (P := P) hr.side fn N ps asg body
 obtain ⟨v, rd, up, nx', j, hgv, hget, hQ⟩ := h l fn
 let i : LoopI := ⟨l, N, fn, ps, asg, body⟩
 let s1 : Store := (st.nx, some (.loop i tl none)) :: st.s
 have hev := Jg0 hr g
 rw [hg] at hev
 obtain ⟨vs, e1, e2, e3⟩ := hev.fn_inv
 have hfr : φ st.nx = none := hr.fresh st.nx (Nat.le_refl _)
 have hs0 : w.heap.size <= w0.heap.size /\ SR G F φ st.s w0 /\ (∀ F' : Nat -> Prop, Step (ownF F' φ st.s) (ownF F' φ st.s) w w0) /\ (∀ β, β < w.heap.size -> w0.heap[β]? = w.heap[β]?) := by
   rcases hmk with ⟨_, rfl⟩ | ⟨_, rfl⟩
   . exact ⟨Nat.le_refl _, hr.sr, fun _ => Step.refl _ _, fun _ _ => rfl⟩
   . refine ⟨by simp, hr.sr.alloc0 _, fun F' => ⟨fun β hβ ho => ⟨Jdh hβ, ho⟩, by simp, fun β arr T h => ⟨arr, by rw [Jdh (Array.getElem?_eq_some_iff.1 h).1]; exact h, rfl⟩, rfl, rfl, rfl⟩, fun β hβ => Jdh hβ⟩
 obtain ⟨hs01, hs02, hs03, hs04⟩ := hs0
 let φ1 := putP φ st.nx (l, 0)
 have hst1 : ∀ F' : Nat -> Prop, Step (ownF F' φ st.s) (ownF F' φ1 s1) w w1 := fun F' => by
   have := (hs03 F').trans (Je6 (F := F') (φ := φ) (s := st.s) (w := w0) (b := st.nx) (.loop (Ja3 i a.tmps D none)) (.loop i tl none))
   rw [<- hl, <- hw1] at this
   exact this
 have hsr1 : SR G F φ1 s1 w1 := by
   have := hs02.alloc hfr (.loop (Ja3 i a.tmps D none)) (.loop i tl none) (by
     rw [<- hl, <- hw1]
     refine ⟨a.tmps, D, Jbp, by
       have := heap_alloc_new (w := w0) (o := .loop (Ja3 i a.tmps D none))
       rw [<- hl, <- hw1] at this
       exact this, hr.tr.size, fun d => ?_⟩
     rcases htl d with e | e
     . rw [e]; exact .any _
     . rw [e]; exact (hr.tr.slots d).mono (Jc9 hfr) (hst1 F))
   rw [<- hl, <- hw1] at this
   exact this
 have hres : (resolve a.eval (rangeCall g l) 0).run P w1 = .ok { target := .fn (.func f) ⟨vs⟩, args := #[.func (.yield l) #[] #[]] } w1 := by
   simp only [resolve, rangeCall, e1]
   simp [Deferred.ofValue, Act.eval]
 have hinv : (invoke (.fn (.func f) ⟨vs⟩) #[.func (.yield l) #[] #[]]).run P w1 = .ok (.enter f ⟨.func (.yield l) #[] #[] :: vs⟩) w1 := by
   have := Go.Proofs.enters_of hf hname hb ⟨.func (.yield l) #[] #[] :: vs⟩ w1
   rw [<- this]
   simp [invoke]
 refine ⟨l, mark, w1, _, w1, f, _, w1, hent, hres, fun _ _ => trivial, hinv, fun h => (by cases h), Jkm ?_⟩
 have hcall := hgv.calls F φ1 s1 w1 (.func (.yield l) #[] #[] :: vs) (fun _ _ => rfl) hsr1 (fun b h1 h2 => by rw [show φ1 b = _ from Jb4 (by omega)]; exact hr.fresh b (by omega)) (by simp [e2]) (fun k x u hx hu => by
   cases k with
   | zero => simp at hx hu; subst hx; subst hu; exact .fn _ [] [] rfl rfl (by simp)
   | succ k => exact (e3 k x u (by simpa using hx) (by simpa using hu)).mono (Jc9 hfr) (hst1 F))
 rw [show (callFunc f ⟨.func (.yield l) #[] #[] :: vs⟩).run P w1 = _ from Go.Proofs.enters_of hf hname hb _ w1] at hcall
 refine Calls.mono hcall ?_
 rintro e w3 ⟨u, rfl, φ3, p1, p2, p3, p4, p5⟩
 obtain ⟨tmps, D3, q1, q2, _⟩ := p3.blk st.nx _ hget
 have hlt3 := (Array.getElem?_eq_some_iff.1 q2).1
 refine ⟨j, _, by
   have := run_endLoop (P := P) q2 (by unfold Ja3; cases j <;> simp)
   simpa [Ja3] using this, ?_⟩
 let w4 := w3.putObj l (.loop { Ja3 i tmps D3 j with state := .exhausted })
 let sF : Store := (st.nx, none) :: (up ++ s1)
 have hst4 : ∀ F' : Nat -> Prop, Step (ownF F' φ3 (up ++ s1)) (ownF F' φ3 sF) w3 w4 := fun F' => ⟨fun β hβ ho => by
     have hne : β ≠ l := fun e => ho (e ▸ .inr ⟨st.nx, _, _, hget, q1, rfl⟩)
     exact ⟨World.putObj_heap_other hne, fun h' => ho (Ji1 h')⟩, by simp [w4, World.putObj], fun β arr T ha => by
     have hne : β ≠ l := by rintro rfl; rw [q2] at ha; cases ha
     exact ⟨arr, by rw [World.putObj_heap_other hne]; exact ha, rfl⟩, rfl, rfl, rfl⟩
 have hsr4 : SR G F φ3 sF w4 := (p3.drop st.nx).quiet (Jrp q2) fun b i' t' j' hb' => World.putObj_heap_other fun e => by
   obtain ⟨hne, hb2⟩ := Jfo hb'
   obtain ⟨_, _, k1, _⟩ := p3.blk b _ hb2
   exact hne (p3.inj b st.nx _ _ _ _ hb2 hget k1 q1 (by simpa using e))
 have hstep : ∀ F' : Nat -> Prop, Step (ownF F' φ st.s) (ownF F' φ3 sF) w w4 := fun F' => ((hst1 F').trans (p5 F')).trans (hst4 F')
 have hle : φ.le φ3 := fun b p hp => p1 b p (Jc9 hfr b p hp)
 have hnx : st.nx + 1 <= nx' := hgv.le
 have hrel : Rel G N n0 F ⟨st.t, sF, nx'⟩ φ3 { a with defers := mark ++ a.defers } w4 := by
   refine ⟨hsr4, fun b hb => ?_, by have := hr.base; show n0 <= nx'; omega, ⟨hr.tr.size, fun d => (hr.tr.slots d).mono hle (hstep F)⟩, ?_⟩
   . have hb : nx' <= b := hb
     rw [p2 b (.inr hb), show φ1 b = _ from Jb4 (by omega)]
     exact hr.fresh b (by omega)
   . have hside := hr.side.mono (hstep (fun _ => False)) (a' := a) rfl
     refine ⟨hside.low, ?_, hside.round⟩
     obtain ⟨Ds, m1, m2, m3⟩ := hside.marks
     rcases hmk with ⟨rfl, _⟩ | ⟨rfl, hw0⟩
     . exact ⟨Ds, m1, m2, m3⟩
     . refine ⟨w.heap.size :: Ds, by simp [m1], ?_, fun E hE => ?_⟩
       . rw [List.nodup_cons]
         refine ⟨fun hm => ?_, m2⟩
         obtain ⟨Ds', n1, _, n3⟩ := hr.side.marks
         have : Ds' = Ds := by
           have h5 := n1.symm.trans m1
           have hinj : ∀ x y, Jfy x = Jfy y -> x = y := fun x y h => by simpa [Jfy] using h
           exact List.map_inj_right hinj |>.1 h5
         subst this
         have := (Array.getElem?_eq_some_iff.1 (n3 _ hm).2.1).1
         omega
       . rcases List.mem_cons.1 hE with rfl | hE
         . have hl' : l = w.heap.size + 1 := by rw [hl, hw0]; simp
           have h1 : w1.heap[w.heap.size]? = some (.deferred (some [])) := by
             rw [hw1, Jdh (by rw [hw0]; simp), hw0]; exact heap_alloc_new
           have hno : ¬ ownF (fun _ => False) φ1 s1 w.heap.size := by
             rintro (hh | ⟨b, y, p, k1, k2, k3⟩)
             . exact hh
             . by_cases eb : b = st.nx
               . subst eb
                 rw [show φ1 st.nx = _ from Jbp] at k2; cases k2
                 omega
               . rw [show φ1 b = _ from Jb4 eb] at k2
                 have k1' : get st.s b = some y := by rwa [Jbg (Ne.symm eb)] at k1
                 obtain ⟨q, n1, n2⟩ := (hr.sr.blk b y k1').place
                 rw [k2] at n1; cases n1
                 omega
           obtain ⟨n1, n2⟩ := ((p5 (fun _ => False)).trans (hst4 (fun _ => False))).keep w.heap.size (Array.getElem?_eq_some_iff.1 h1).1 hno
           exact ⟨hr.side.low, n1.trans h1, n2⟩
         . exact m3 E hE
 have haft : ∀ (R : St -> Prop), R ⟨st.t, sF, nx'⟩ -> After G N n0 F st φ w R { a with defers := mark ++ a.defers } w4 := fun R hR =>
   ⟨_, φ3, hR, hrel, fun b hb => by
     have hb2 : b < st.nx := Nat.lt_of_lt_of_le hb hr.base
     rw [p2 b (.inl (by omega)), show φ1 b = _ from Jb4 (by omega)], hstep⟩
 cases j with
 | none => exact haft _ hQ
 | some c =>
   cases c with
   | ret => exact wpIn_ret (haft _ hQ)
   | exit id => exact wpIn_exit (haft _ hQ)
   | _ => exact hQ.elim
end
end Go.Am
namespace Go.Am
open Go
section
variable {P : Program} {G : Jac} {N n0 : Nat}
def Jno (m x : Nat) (j : Option Code) (sF : Store) (names : St -> List Nat) (e : Exit) (st : St) : Prop :=
 Jb3 j e /\ Jdz (List.range m ++ names st) st.s [] sF /\ (List.range m ++ names st).Nodup /\ (List.range m ++ names st).length <= m + x
def Jdr (G : Jac) (N m x : Nat) (j : Option Code) (sF : Store) (names : St -> List Nat) (e : Exit) (st : St) : Prop :=
 Jb3 j e /\ ∃ st2, Leads G N m st st2 /\ Jdz (List.range m ++ names st) st2.s [] sF /\ (List.range m ++ names st).Nodup /\ (List.range m ++ names st).length <= m + x
theorem GivesY.of_walk {i : LoopI} {tl t0 : Jap} {args args' : List AV} {σ free : List Nat} {s s0 s1 up1 : Store} {nx m x lam : Nat} {j : Option Code} (names : St -> List Nat)
   (hm : σ.length = m) (hL : Jce σ nx s0 s args args') (hlam : get s lam = some (.loop i tl none)) (hlσ : lam ∉ σ) (hlnx : lam < nx) (ht : renT σ t0 = some tl) (hps : i.ps.size = args'.length) (hpN : ∀ d ∈ i.ps.toList, d < i.N)
   (hfree : ∀ b ∈ free, b < m) (hup : renS (Jaq σ nx x) s1 = some up1)
   (h : @xc P G i.N m ⟨i.asg⟩ (Jda i.ps args t0) s0 m ⟨fun e st => e = .normal /\ @xc P G i.N m ⟨i.body⟩ st.t st.s st.nx ⟨Jdr G i.N m x j (s1 ++ (free.map (·, none) ++ s0)) names⟩⟩) :
   GivesY P G i.l args' s nx (.p (.bool j.isNone)) (lam :: σ) ((lam, some (.loop i tl j)) :: (up1 ++ free.map fun b => ((σ[b]?).getD 0, none))) (nx + x) :=
 GivesY.of_round hm hL.lends hlam hlσ hlnx ht hps hpN hfree hup ((Jdm h).mono fun e st hst => by
   obtain ⟨rfl, hst⟩ := hst
   exact (Jdm hst).mono fun e st hst => by
     obtain ⟨h1, st2, h2, h3, h4, h5⟩ := hst
     exact ⟨h1, st2, _, h2, fun b y hg => Jez h3 b y (by simp) hg, h4, h5, by simp⟩)
theorem Leads.refl {m : Nat} (st : St) : Leads G N m st st := ⟨fun _ φ _ _ hr => ⟨φ, hr, fun _ _ => rfl, fun _ => Step.refl _ _⟩⟩
theorem Jdr.of {m x : Nat} {j : Option Code} {sF : Store} {names : St -> List Nat} {e : Exit} {st : St} (h : Jno m x j sF names e st) : Jdr G N m x j sF names e st :=
 ⟨h.1, st, Leads.refl st, h.2⟩
theorem Jrm {t : Jap} : ∀ {keep : List Nat} (d : Nat), slot (pick keep t) d = .any \/ slot (pick keep t) d = slot t d
 | [], d => .inl rfl
 | k :: keep, d => by
   simp only [pick, List.map_cons, slot]
   by_cases e : k = d
   . subst e; rw [if_pos rfl]; exact .inr rfl
   . rw [if_neg e]; exact Jrm (keep := keep) d
theorem Jcw.intro {g : Operand} {ps : Array Tmp} {asg c : Cont Code} {t : Jap} {s : Store} {nx : Nat} {Q : Cont KQ} {f : Nat} {fnn : Func} {cc : Code} {cap : List AV} (keep : List Nat)
   (hf : P.funcs[f]? = some fnn) (hname : (fnn.name == "runtime.NumGoroutine") = false) (hb : fnn.body = some cc)
   (h : ∀ (l : Nat) (fn : FuncId), ∃ v rd up nx' j, Gives P G f (.fn (.yield l) [] :: cap) ((nx, some (.loop ⟨l, N, fn, ps, asg.k, c.k⟩ (pick keep t) none)) :: s) (nx + 1) v rd up nx' /\
     get (up ++ (nx, some (.loop ⟨l, N, fn, ps, asg.k, c.k⟩ (pick keep t) none)) :: s) nx = some (.loop ⟨l, N, fn, ps, asg.k, c.k⟩ (pick keep t) j) /\
     Jea Q.k j ⟨t, (nx, none) :: (up ++ (nx, some (.loop ⟨l, N, fn, ps, asg.k, c.k⟩ (pick keep t) none)) :: s), nx'⟩) : @Jcw P G N n0 (.fn (.func f) cap) ps asg c g ⟨t, s, nx⟩ Q :=
 fun hg => Jgq.intro (st := ⟨t, s, nx⟩) (pick keep t) hg hf hname hb (fun d => Jrm d) h
theorem Jcw.leads {v : AV} {g : Operand} {ps : Array Tmp} {asg c : Cont Code} {st st2 : St} {Q : Cont KQ} (hs : Leads G N n0 st st2) (he : Jah G st2.t g = v) (h : @Jcw P G N n0 v ps asg c g st2 Q) : @Jcw P G N n0 v ps asg c g st Q :=
 fun _ => ⟨fun F φ a w hr => by
   obtain ⟨φ', h1, h2, h3⟩ := hs.run F φ a w hr
   exact wpIn_mono ((h he).run F φ' a w h1) fun e a' w' ha => After.trans h2 h3 ha⟩
end
end Go.Am
namespace Go.Am
open Go
section
variable {P : Program} {G : Jac} {N : Nat}
structure LendsA (σ : List Nat) (nx : Nat) (s0 s : Store) (args args' : List AV) : Prop where
 blocks : ∀ b y, get s0 b = some y -> ∃ b' y', σ[b]? = some b' /\ renB σ y = some y' /\ get s b' = some y'
 all : ∀ b b', σ[b]? = some b' -> get s b' ≠ none -> ∃ y, get s0 b = some y
 nodup : σ.Nodup
 low : ∀ b ∈ σ, b < nx
 args : renL σ args = some args'
theorem Jg5 {args args' : List AV} {σ : List Nat} {s s0 s1c : Store} {nx : Nat} {φ : Places} (hL : LendsA σ nx s0 s args args') (hag : Jb1 s s1c σ) (F : Nat -> Prop) : ownF (Jcd φ σ s1c F) (via φ σ) s0 = ownF F φ s1c := by
 let φ0 := via φ σ
 have h0 : ∀ b y, get s0 b = some y -> ∃ b' y', σ[b]? = some b' /\ renB σ y = some y' /\ get s1c b' = some y' := fun b y hb => by
   obtain ⟨b', y', e1, e2, e3⟩ := hL.blocks b y hb
   exact ⟨b', y', e1, e2, (hag b' (List.mem_of_getElem? e1)).trans e3⟩
 exact funext fun β => propext ⟨by
   rintro ((hF | ⟨b, x, p, k1, _, k2, k3⟩) | ⟨b, x, p, k1, k2, k3⟩)
   . exact .inl hF
   . exact .inr ⟨b, x, p, k1, k2, k3⟩
   . obtain ⟨b', y', e1, e2, e3⟩ := h0 b x k1
     exact .inr ⟨b', y', p, e3, by simpa [φ0, via, e1] using k2, k3⟩, by
   rintro (hF | ⟨b, x, p, k1, k2, k3⟩)
   . exact .inl (.inl hF)
   . by_cases hb : b ∈ σ
     . obtain ⟨i, hi, hib⟩ := List.getElem_of_mem hb
       have hσi : σ[i]? = some b := by rw [List.getElem?_eq_getElem hi, hib]
       obtain ⟨y, hy⟩ := hL.all i b hσi (by rw [<- hag b hb, k1]; simp)
       exact .inr ⟨i, y, p, hy, by simpa [φ0, via, hσi] using k2, k3⟩
     . exact .inl (.inr ⟨b, x, p, k1, hb, k2, k3⟩)⟩
theorem Jqk {args args' : List AV} {σ : List Nat} {s s0 s1c : Store} {nx : Nat} {φ : Places} {F : Nat -> Prop} {w : World} (hL : LendsA σ nx s0 s args args') (hag : Jb1 s s1c σ) (hs : SR G F φ s1c w) : SR G (Jcd φ σ s1c F) (via φ σ) s0 w := by
 let F2 (F : Nat -> Prop) : Nat -> Prop := Jcd φ σ s1c F
 let φ0 := via φ σ
 have h0 : ∀ b y, get s0 b = some y -> ∃ b' y', σ[b]? = some b' /\ renB σ y = some y' /\ get s1c b' = some y' := fun b y hb => by
   obtain ⟨b', y', e1, e2, e3⟩ := hL.blocks b y hb
   exact ⟨b', y', e1, e2, (hag b' (List.mem_of_getElem? e1)).trans e3⟩
 have hinjσ : ∀ b b2 b', σ[b]? = some b' -> σ[b2]? = some b' -> b = b2 := fun b b2 b' e1 e2 => by
   obtain ⟨h1, e1⟩ := gsI.1 e1
   obtain ⟨h2, e2⟩ := gsI.1 e2
   exact Jej hL.nodup h1 h2 (e1.trans e2.symm)
 have eq1 : ∀ F : Nat -> Prop, ownF (F2 F) φ0 s0 = ownF F φ s1c := fun F => Jg5 hL hag F
 refine ⟨?_, ?_, ?_, ?_, ?_⟩
 . intro b y hy
   obtain ⟨b', y', e1, e2, e3⟩ := h0 b y hy
   have := (hs.blk b' y' e3).ren e1 e2
   have e := eq1 F
   change (fun β => F2 F β \/ ownS φ0 s0 β) = (fun β => F β \/ ownS φ s1c β) at e
   rw [e]
   exact this
 . intro b b2 y y2 p p2 k1 k2 k3 k4 k5
   obtain ⟨b', y', e1, e2, e3⟩ := h0 b y k1
   obtain ⟨c', z', e1', e2', e3'⟩ := h0 b2 y2 k2
   have := hs.inj b' c' y' z' p p2 e3 e3' (by simpa [φ0, via, e1] using k3) (by simpa [φ0, via, e1'] using k4) k5
   subst this
   exact hinjσ _ _ _ e1 e1'
 . intro b y p k1 k2
   obtain ⟨b', y', e1, e2, e3⟩ := h0 b y k1
   have hφ : φ b' = some p := by simpa [φ0, via, e1] using k2
   rintro (hF | ⟨c, z, q, j1, j2, j3, j4⟩)
   . exact hs.disj b' y' p e3 hφ hF
   . have := hs.inj c b' z y' q p j1 e3 j3 hφ j4
     subst this; exact j2 (List.mem_of_getElem? e1)
 . intro β hβ
   exact hs.osize β ((eq1 F) ▸ (Or.inl hβ : ownF (F2 F) φ0 s0 β))
 . intro g k rows hg
   have e := eq1 F
   change (fun β => F2 F β \/ ownS φ0 s0 β) = (fun β => F β \/ ownS φ s1c β) at e
   rw [e]
   obtain ⟨j1, j2, j3⟩ := hs.glob g k rows hg
   exact ⟨j1, fun h' => j2 ((congrFun e g).mp h'), j3⟩
theorem Jqi {args args' : List AV} {σ free τ : List Nat} {s s0 s1 s1c up1 : Store} {nx m x : Nat} {r rc r0 r1 rv : AV} {φ φ1 : Places} {F : Nat -> Prop} {w w' : World} {B : Nat -> Prop} {st' : St} {u : Value}
   (hm : σ.length = m) (hL : LendsA σ nx s0 s args args') (hfree : ∀ b ∈ free, b < m) (hr : renA (Jaq σ nx x) r = some rc) (hup : renS (Jaq σ nx x) s1 = some up1) (hag : Jb1 s s1c σ) (hs : SR G F φ s1c w) (hfr : ∀ b, nx <= b -> b < nx + x -> φ b = none)
   (hwk : wkn rv r0) (hfrz : FrzK st'.s B r0 r1) (hren : renA τ r = some r1) (hout : Out τ m x st' (s1 ++ (free.map (·, none) ++ s0))) (hB : ∀ b b' y, τ[b]? = some b' -> get (s1 ++ (free.map (·, none) ++ s0)) b = some y -> ¬ B b')
   (hsr' : SR G (Jcd φ σ s1c F) φ1 st'.s w') (hbase : ∀ b, b < m -> φ1 b = via φ σ b) (hstep : ∀ F' : Nat -> Prop, Step (ownF F' (via φ σ) s0) (ownF F' φ1 st'.s) w w') (k2 : VR φ1 (ownF (Jcd φ σ s1c F) φ1 st'.s) w' rv u) :
   Post G F φ s1c w rc (up1 ++ free.map fun b => ((σ[b]?).getD 0, none)) nx (nx + x) u w' := by
 let F2 (F : Nat -> Prop) : Nat -> Prop := Jcd φ σ s1c F
 let φ0 := via φ σ
 have h0 : ∀ b y, get s0 b = some y -> ∃ b' y', σ[b]? = some b' /\ renB σ y = some y' /\ get s1c b' = some y' := fun b y hb => by
   obtain ⟨b', y', e1, e2, e3⟩ := hL.blocks b y hb
   exact ⟨b', y', e1, e2, (hag b' (List.mem_of_getElem? e1)).trans e3⟩
 have hinjσ : ∀ b b2 b', σ[b]? = some b' -> σ[b2]? = some b' -> b = b2 := fun b b2 b' e1 e2 => by
   obtain ⟨h1, e1⟩ := gsI.1 e1
   obtain ⟨h2, e2⟩ := gsI.1 e2
   exact Jej hL.nodup h1 h2 (e1.trans e2.symm)
 have eq1 : ∀ F : Nat -> Prop, ownF (F2 F) φ0 s0 = ownF F φ s1c := fun F => Jg5 hL hag F
 -- the names
 let σ' := Jaq σ nx x
 let sF : Store := s1 ++ (free.map (·, none) ++ s0)
 let φ2 : Places := via φ1 τ
 let φ' : Places := fun b => if nx <= b /\ b < nx + x then φ2 (m + (b - nx)) else φ b
 let s' : Store := (up1 ++ free.map fun b => ((σ[b]?).getD 0, none)) ++ s1c
 have hσn : σ'.Nodup := Jqt hL.nodup hL.low
 have hτ : ∀ b, b < m -> τ[b]? = some b := fun b hb => by
   have h2 : (τ.take m)[b]? = some b := by rw [hout.base]; simp [hb]
   rwa [List.getElem?_take_of_lt hb] at h2
 have hlt : ∀ b b', τ[b]? = some b' -> b < m + x := fun b b' h => Nat.lt_of_lt_of_le (gsI.1 h).1 hout.len
 have hname' : ∀ b, b < m + x -> ∃ cb, σ'[b]? = some cb /\ φ' cb = φ2 b := fun b hb => by
   by_cases hbm : b < m
   . have hσb : σ[b]? = some (σ[b]'(by omega)) := List.getElem?_eq_getElem (by omega)
     have hlow := hL.low _ (List.mem_of_getElem? hσb)
     refine ⟨_, (Jfz (by omega)).trans hσb, ?_⟩
     have e1 : φ' (σ[b]'(by omega)) = φ (σ[b]'(by omega)) := if_neg (by omega)
     have e2 : φ2 b = φ1 b := by simp [φ2, via, hτ b hbm]
     rw [e1, e2, hbase b hbm]
     simp [φ0, via, hσb]
   . refine ⟨nx + (b - m), by rw [<- hm]; exact Jqs (by omega) (by omega), ?_⟩
     have : φ' (nx + (b - m)) = φ2 (m + (nx + (b - m) - nx)) := if_pos (by omega)
     rw [this]; congr 1; omega
 have hφ' : ∀ b cb, σ'[b]? = some cb -> φ' cb = φ2 b := fun b cb h => by
   have hb : b < m + x := by have := (gsI.1 h).1; rw [Jix] at this; omega
   obtain ⟨cb', e1, e2⟩ := hname' b hb
   rw [h] at e1; cases e1; exact e2
 have hσlt : ∀ b cb, σ'[b]? = some cb -> b < m + x := fun b cb h => by
   have := (gsI.1 h).1; rw [Jix] at this; omega
 have hvia : φ2.le (via φ' σ') := fun b p h => by
   obtain ⟨b', e1, _⟩ := Je9 h
   obtain ⟨cb, e3, e4⟩ := hname' b (hlt b b' e1)
   simp [via, e3, e4, h]
 have hfreeσ : ∀ b, b ∈ free -> ∃ cb, σ[b]? = some cb /\ (σ[b]?).getD 0 = cb := fun b hb => by
   have hlt := hfree b hb
   have hσb : σ[b]? = some (σ[b]'(by omega)) := List.getElem?_eq_getElem (by omega)
   exact ⟨_, hσb, by rw [hσb]; rfl⟩
 have hkfree : ∀ cb, cb ∈ keys (free.map fun b => ((σ[b]?).getD 0, (none : Option ABlk))) ↔ ∃ b, b ∈ free /\ σ[b]? = some cb := fun cb => by
   simp only [keys, List.map_map, List.mem_map, Function.comp]
   constructor
   . rintro ⟨b, hb, rfl⟩
     obtain ⟨cb, e1, e2⟩ := hfreeσ b hb
     exact ⟨b, hb, by rw [e2]; exact e1⟩
   . rintro ⟨b, hb, e⟩
     exact ⟨b, hb, by rw [e]; rfl⟩
 have hkfree0 : ∀ b, b ∈ keys (free.map fun b => (b, (none : Option ABlk))) ↔ b ∈ free := fun b => by simp [keys]
 have hgetF : ∀ b y, get sF b = some y -> ∃ cb z, σ'[b]? = some cb /\ renB σ' y = some z /\ get s' cb = some z := fun b y hy => by
   obtain ⟨b1, y1, e1, _, _⟩ := hout.blocks b y hy
   obtain ⟨cb, hcb, _⟩ := hname' b (hlt b b1 e1)
   obtain ⟨j1, j2⟩ := Je0 hσn hup b cb hcb
   by_cases hk : b ∈ keys s1
   . have hy' : get s1 b = some y := by have := hy; simp only [sF] at this; rwa [get_append, if_pos hk] at this
     rcases j2 hk with ⟨h1, _⟩ | ⟨y2, z, h1, h2, h3⟩
     . rw [hy'] at h1; cases h1
     . rw [hy'] at h1; cases h1
       refine ⟨cb, z, hcb, h2, ?_⟩
       simp only [s', List.append_assoc]
       rw [get_append, if_pos (j1.2 hk)]
       exact h3
   . have hy' : get (free.map (·, none) ++ s0) b = some y := by have := hy; simp only [sF] at this; rwa [get_append, if_neg hk] at this
     rw [get_append] at hy'
     by_cases hfb : b ∈ free
     . rw [if_pos ((hkfree0 b).2 hfb), Jii] at hy'; cases hy'
     . rw [if_neg (fun h => hfb ((hkfree0 b).1 h))] at hy'
       obtain ⟨b', y', l1, l2, l3⟩ := h0 b y hy'
       have hbm : b < σ.length := (gsI.1 l1).1
       have hcb' : cb = b' := by
         rw [show σ'[b]? = σ[b]? from Jfz hbm, l1] at hcb
         exact (Option.some.inj hcb).symm
       subst hcb'
       refine ⟨cb, y', hcb, Jrr l2, ?_⟩
       simp only [s', List.append_assoc]
       rw [get_append, if_neg (fun h => hk (j1.1 h)), get_append, if_neg]
       . exact l3
       . intro h
         obtain ⟨b2, h1, h2⟩ := (hkfree cb).1 h
         exact hfb (hinjσ _ _ _ h2 l1 ▸ h1)
 have hplace : ∀ cb z, get s1c cb = some z -> φ' cb = φ cb /\ ¬ (nx <= cb /\ cb < nx + x) := fun cb z hz => by
   obtain ⟨p, hp, _⟩ := (hs.blk cb z hz).place
   have : ¬ (nx <= cb /\ cb < nx + x) := fun h => by rw [hfr cb h.1 h.2] at hp; cases hp
   exact ⟨if_neg this, this⟩
 have hgetR : ∀ cb z, get s' cb = some z -> (∃ b y, σ'[b]? = some cb /\ get sF b = some y /\ renB σ' y = some z) \/ (cb ∉ σ /\ get s1c cb = some z) := fun cb z hz => by
   have first : ∀ b y, σ'[b]? = some cb -> get sF b = some y -> ∃ b y, σ'[b]? = some cb /\ get sF b = some y /\ renB σ' y = some z := fun b y h1 h2 => by
     obtain ⟨cb', z', e1, e2, e3⟩ := hgetF b y h2
     rw [h1] at e1; cases e1
     rw [hz] at e3; cases e3
     exact ⟨b, y, h1, h2, e2⟩
   have hz0 := hz
   simp only [s', List.append_assoc] at hz
   rw [get_append] at hz
   by_cases hk : cb ∈ keys up1
   . rw [if_pos hk] at hz
     obtain ⟨b, hb, hcb⟩ := List.getElem_of_mem (Je1 hup cb hk)
     have hσb : σ'[b]? = some cb := by rw [List.getElem?_eq_getElem hb]; exact congrArg some hcb
     obtain ⟨j1, j2⟩ := Je0 hσn hup b cb hσb
     rcases j2 (j1.1 hk) with ⟨_, h1⟩ | ⟨y, z', h1, h2, h3⟩
     . rw [hz] at h1; cases h1
     . exact .inl (first b y hσb (by simp only [sF]; rw [get_append, if_pos (j1.1 hk)]; exact h1))
   . rw [if_neg hk, get_append] at hz
     by_cases hk2 : cb ∈ keys (free.map fun b => ((σ[b]?).getD 0, (none : Option ABlk)))
     . rw [if_pos hk2, Jii] at hz; cases hz
     . rw [if_neg hk2] at hz
       by_cases hcσ : cb ∈ σ
       . obtain ⟨b, hb, hcb⟩ := List.getElem_of_mem hcσ
         have hσb0 : σ[b]? = some cb := by rw [List.getElem?_eq_getElem hb, hcb]
         have hσb : σ'[b]? = some cb := (Jfz hb).trans hσb0
         obtain ⟨y0, hy0⟩ := hL.all b cb hσb0 (by rw [<- hag cb hcσ, hz]; simp)
         obtain ⟨j1, _⟩ := Je0 hσn hup b cb hσb
         refine .inl (first b y0 hσb ?_)
         simp only [sF]
         rw [get_append, if_neg (fun h => hk (j1.2 h)), get_append, if_neg]
         . exact hy0
         . intro h; exact hk2 ((hkfree cb).2 ⟨b, (hkfree0 b).1 h, hσb0⟩)
       . exact .inr ⟨hcσ, hz⟩
 have hkeepS : ∀ b z, get s1c b = some z -> b ∉ σ -> get s' b = some z := fun b z hz hb => by
   have hnot := (hplace b z hz).2
   simp only [s', List.append_assoc]
   rw [get_append, if_neg, get_append, if_neg]
   . exact hz
   . intro h
     obtain ⟨b2, _, h2⟩ := (hkfree b).1 h
     exact hb (List.mem_of_getElem? h2)
   . intro h
     rcases Jiy.1 (Je1 hup b h) with h | h
     . exact hb h
     . exact hnot h
 have eq2 : ∀ F : Nat -> Prop, ownF F φ' s' = ownF (F2 F) φ2 sF := fun F => funext fun β => propext ⟨by
   rintro (hF | ⟨cb, z, p, l1, l2, l3⟩)
   . exact .inl (.inl hF)
   . rcases hgetR cb z l1 with ⟨b, y, e1, e2, _⟩ | ⟨e1, e2⟩
     . exact .inr ⟨b, y, p, e2, (hφ' b cb e1).symm.trans l2, l3⟩
     . exact .inl (.inr ⟨cb, z, p, e2, e1, (hplace cb z e2).1.symm.trans l2, l3⟩), by
   rintro ((hF | ⟨b, z, p, l1, l2, l3, l4⟩) | ⟨b, y, p, l1, l2, l3⟩)
   . exact .inl hF
   . exact .inr ⟨b, z, p, hkeepS b z l1 l2, (hplace b z l1).1.trans l3, l4⟩
   . obtain ⟨cb, z, e1, _, e3⟩ := hgetF b y l1
     exact .inr ⟨cb, z, p, e3, (hφ' b cb e1).trans l2, l3⟩⟩
 have hsub : ∀ F : Nat -> Prop, ∀ β, ownF F φ2 sF β -> ownF F φ1 st'.s β := fun F β h => by
   rcases h with hF | ⟨b, y, p, l1, l2, l3⟩
   . exact .inl hF
   . obtain ⟨b1, y1, e1, _, e3⟩ := hout.blocks b y l1
     exact .inr ⟨b1, y1, p, e3, by simpa [φ2, via, e1] using l2, l3⟩
 have hshrink : ∀ F : Nat -> Prop, Step (ownF F φ1 st'.s) (ownF F φ2 sF) w' w' := fun F => ⟨fun β _ hn => ⟨rfl, fun h' => hn (hsub F β h')⟩, Nat.le_refl _, fun _ arr _ h => ⟨arr, h, rfl⟩, rfl, rfl, rfl⟩
 have hst : ∀ F : Nat -> Prop, Step (ownF F φ s1c) (ownF F φ' s') w w' := fun F => by
   rw [eq2, <- eq1]
   exact (hstep (F2 F)).trans (hshrink (F2 F))
 have hle : φ.le φ' := fun b p hp => by
   by_cases hb : nx <= b /\ b < nx + x
   . rw [hfr b hb.1 hb.2] at hp; cases hp
   . show (if _ then _ else _) = _
     rw [if_neg hb]; exact hp
 have hF2F : ∀ cb z p, get s1c cb = some z -> cb ∉ σ -> φ cb = some p -> F2 F p.1 := fun cb z p h1 h2 h3 => .inr ⟨cb, z, p, h1, h2, h3, rfl⟩
 have hτinj : ∀ b b2 b', τ[b]? = some b' -> τ[b2]? = some b' -> b = b2 := fun b b2 b' e1 e2 => by
   obtain ⟨h1, e1⟩ := gsI.1 e1
   obtain ⟨h2, e2⟩ := gsI.1 e2
   exact Jej hout.nodup h1 h2 (e1.trans e2.symm)
 have hhides : Hides (F2 F) φ1 st'.s B (ownF (F2 F) φ2 sF) := ⟨hsub _, fun b1 y1 p hB1 l1 l2 l3 => by
   rcases l3 with hF | ⟨b, y, q, k3, k4, k5⟩
   . exact hsr'.disj b1 y1 p l1 l2 hF
   . obtain ⟨b2, y2, e1, _, e3⟩ := hout.blocks b y k3
     have := hsr'.inj b2 b1 y2 y1 q p e3 l1 (by simpa [φ2, via, e1] using k4) l2 k5
     subst this
     exact hB b b2 y e1 k3 hB1⟩
 refine ⟨φ', hle, fun b hb => if_neg (by omega), ?_, ?_, hst⟩
 . have e2 := eq2 F
   change (fun β => F β \/ ownS φ' s' β) = (ownF (F2 F) φ2 sF) at e2
   refine ⟨?_, ?_, ?_, ?_, ?_⟩
   . intro cb z hz
     rcases hgetR cb z hz with ⟨b, y, l1, l2, l3⟩ | ⟨l1, l2⟩
     . obtain ⟨b1, y1, j1, j2, j3⟩ := hout.blocks b y l2
       have hbr := hsr'.blk b1 y1 j3
       have hbr2 : BR φ1 (ownF (F2 F) φ2 sF) w' b1 y1 := hbr.mono (fun _ _ h => h) (hshrink (F2 F)) (fun _ _ => rfl)
       have hbr3 : BR φ2 (ownF (F2 F) φ2 sF) w' b y := hbr2.ren j1 j2
       have hbr4 : BR (via φ' σ') (ownF (F2 F) φ2 sF) w' b y := hbr3.mono hvia (Step.refl _ _) (fun _ _ => rfl)
       change BR φ' (fun β => F β \/ ownS φ' s' β) w' cb z
       rw [e2]
       exact hbr4.fwd l1 l3
     . change BR φ' (fun β => F β \/ ownS φ' s' β) w' cb z
       refine (hs.blk cb z l2).mono hle (hst F) fun p hp => ?_
       refine ((hstep (fun _ => False)).keep p.1 ?_ ?_).1
       . obtain ⟨q, h1, h2⟩ := (hs.blk cb z l2).place
         rw [hp] at h1; cases h1; exact h2
       . rintro (h | ⟨b, y, q, h1, h2, h3⟩)
         . exact h
         . obtain ⟨b', y', i1, _, i3⟩ := h0 b y h1
           have := hs.inj b' cb y' z q p i3 l2 (by simpa [φ0, via, i1] using h2) hp h3
           subst this
           exact l1 (List.mem_of_getElem? i1)
   . intro cb cb2 z z2 p p2 l1 l2 l3 l4 l5
     have mixed : ∀ cb z p b y, get s1c cb = some z -> cb ∉ σ -> φ' cb = some p -> get sF b = some y -> ∀ q, φ2 b = some q -> q.1 = p.1 -> False := fun cb z p b y i1 i2 i3 i4 q i5 i6 => by
       obtain ⟨b1, y1, j1, _, j3⟩ := hout.blocks b y i4
       refine hsr'.disj b1 y1 q j3 (by simpa [φ2, via, j1] using i5) ?_
       rw [i6]
       exact hF2F cb z p i1 i2 ((hplace cb z i1).1.symm.trans i3)
     rcases hgetR cb z l1 with ⟨b, y, i1, i2, _⟩ | ⟨i1, i2⟩ <;> rcases hgetR cb2 z2 l2 with ⟨b2, y2, j1, j2, _⟩ | ⟨j1, j2⟩
     . obtain ⟨c1, y1, n1, _, n3⟩ := hout.blocks b y i2
       obtain ⟨c2, y3, o1, _, o3⟩ := hout.blocks b2 y2 j2
       have h1 : φ1 c1 = some p := by have := (hφ' b cb i1).symm.trans l3; simpa [φ2, via, n1] using this
       have h2 : φ1 c2 = some p2 := by have := (hφ' b2 cb2 j1).symm.trans l4; simpa [φ2, via, o1] using this
       have := hsr'.inj c1 c2 y1 y3 p p2 n3 o3 h1 h2 l5
       subst this
       have := hτinj _ _ _ n1 o1
       subst this
       rw [i1] at j1; exact Option.some.inj j1
     . exact (mixed cb2 z2 p2 b y j2 j1 l4 i2 p ((hφ' b cb i1).symm.trans l3) l5).elim
     . exact (mixed cb z p b2 y2 i2 i1 l3 j2 p2 ((hφ' b2 cb2 j1).symm.trans l4) l5.symm).elim
     . exact hs.inj cb cb2 z z2 p p2 i2 j2 ((hplace cb z i2).1.symm.trans l3) ((hplace cb2 z2 j2).1.symm.trans l4) l5
   . intro cb z p l1 l2 l3
     rcases hgetR cb z l1 with ⟨b, y, i1, i2, _⟩ | ⟨i1, i2⟩
     . obtain ⟨b1, y1, j1, _, j3⟩ := hout.blocks b y i2
       have h2 := (hφ' b cb i1).symm.trans l2
       exact hsr'.disj b1 y1 p j3 (by simpa [φ2, via, j1] using h2) (.inl l3)
     . exact hs.disj cb z p i2 ((hplace cb z i2).1.symm.trans l2) l3
   . intro β hβ
     exact Nat.lt_of_lt_of_le (hs.fsize β hβ) (hst F).size
   . intro g k rows hg
     obtain ⟨h1, h2, h3⟩ := hsr'.glob g k rows hg
     change g < w'.heap.size /\ ¬ (fun β => F β \/ ownS φ' s' β) g /\ GlobAt (fun β => F β \/ ownS φ' s' β) w' k rows g
     rw [e2]
     exact ⟨h1, fun h' => h2 (hsub _ g h'), h3.mono (hshrink (F2 F)) h1 h2⟩
 . rw [eq2]
   have v1 := VR.frzK hsr' hhides (k2.wkn hwk) hfrz
   have v2 : VR φ2 (ownF (F2 F) φ2 sF) w' r u := v1.ren hren
   exact (v2.mono hvia (Step.refl _ _)).fwd hr
theorem Gives.of_bodyA {f : Nat} {fn : Func} {c : Code} {args args' : List AV} {σ free : List Nat} {s s0 s1 up1 : Store} {nx m x : Nat} {r rc : AV} (hf : P.funcs[f]? = some fn) (hb : fn.body = some c) (hname : (fn.name == "runtime.NumGoroutine") = false)
   (hN : fn.ntmps = N) (hargs : args.length <= N) (hm : σ.length = m) (hL : LendsA σ nx s0 s args args') (hfree : ∀ b ∈ free, b < m) (hr : renA (Jaq σ nx x) r = some rc) (hup : renS (Jaq σ nx x) s1 = some up1)
   (h : AEv P G N m c ⟨Jbr 0 args, s0, m⟩ (Ends P fn.results.toList m x (s1 ++ (free.map (·, none) ++ s0)) r)) :
   Gives P G f args' s nx rc σ (up1 ++ free.map fun b => ((σ[b]?).getD 0, none)) (nx + x) := by
 refine ⟨Nat.le_add_right _ _, fun F φ s1c w vs hag hs hfr hlv hv => ?_⟩
 subst hN
 have hlen : args'.length = args.length := (Jbz hL.args).1
 let F2 (F : Nat -> Prop) : Nat -> Prop := Jcd φ σ s1c F
 let φ0 := via φ σ
 have eq1 : ∀ F : Nat -> Prop, ownF (F2 F) φ0 s0 = ownF F φ s1c := fun F => Jg5 hL hag F
 let _B : Base := ⟨w.heap.size, none⟩
 have hrel : Rel G fn.ntmps m (F2 F) ⟨Jbr 0 args, s0, m⟩ φ0 { tmps := ⟨vs⟩ ++ Array.replicate (fn.ntmps - (⟨vs⟩ : Array Value).size) undef, defers := [] } w := by
   refine ⟨Jqk hL hag hs, ?_, Nat.le_refl _, ⟨by simp; omega, fun d => ?_⟩, ⟨Nat.le_refl _, ⟨[], rfl, List.nodup_nil, by simp⟩, fun l hl => by cases hl⟩⟩
   . intro b hb
     have hb : m <= b := hb
     have : σ[b]? = none := List.getElem?_eq_none (by omega)
     simp [φ0, via, this]
   . show VR _ _ _ (slot (Jbr 0 args) d) _
     rw [Jjd, if_pos (Nat.zero_le _), Nat.sub_zero, eq1]
     cases hd : args[d]? with
     | none => exact .any _
     | some z =>
       obtain ⟨z', e1, e2⟩ := (Jbz hL.args).2 d z hd
       have hdl : d < vs.length := by rw [hlv, hlen]; exact (gsI.1 hd).1
       have hget : ((⟨vs⟩ : Array Value) ++ Array.replicate (fn.ntmps - (⟨vs⟩ : Array Value).size) undef).getD d undef = vs[d] := by
         rw [Array.getD_eq_getD_getElem?, Array.getElem?_append_left (by simpa using hdl)]
         simp [hdl]
       rw [hget]
       exact (hv d z' vs[d] e1 (List.getElem?_eq_getElem hdl)).ren e2
 refine enters hf hb hname ((callsIn_wide (n := 0)).1 (callsIn_of_wp_marks hf hb trivial (wpIn_mono (h.run (F2 F) _ _ w hrel) fun e a' w1 ha => ?_)))
 obtain ⟨st', φ1, ⟨he, us, hres, τ, B, r0, r1, hwk, hfrz, hren, hout, hB⟩, hr0, hbase, hstep1⟩ := ha
 have hgo : LeavesInM rF 0 P fn a'.tmps (fun e w' => ∃ u, e = .returned u /\ Post G F φ s1c w rc (up1 ++ free.map fun b => ((σ[b]?).getD 0, none)) nx (nx + x) u w') a'.defers .returning w1 := hr0.leave hres fun w' u q hlow hsr' k2 =>
   ⟨u, rfl, Jqi (s1 := s1) hm hL hfree hr hup hag hs hfr hwk hfrz hren hout hB hsr' hbase (fun F' => (hstep1 F').quiet q hlow) k2⟩
 rcases he with rfl | rfl
 . exact hgo
 . exact hgo
end
section
variable {P : Program} {G : Jac} {N : Nat}
def Jcq (σ : List Nat) (nx : Nat) (s0 s : Store) (args args' : List AV) : Prop :=
 Jc0 σ s s0 /\ (∀ b b', σ[b]? = some b' -> get s b' ≠ none -> ∃ y, get s0 b = some y) /\ σ.Nodup /\ (∀ b ∈ σ, b < nx) /\ renL σ args = some args'
theorem Jcq.lends {σ : List Nat} {nx : Nat} {s0 s : Store} {args args' : List AV} (h : Jcq σ nx s0 s args args') : LendsA σ nx s0 s args args' :=
 ⟨Jln h.1, h.2.1, h.2.2.1, h.2.2.2.1, h.2.2.2.2⟩
theorem Gives.mk_walkA {f : Nat} {fn : Func} {c : Code} {args args' : List AV} {s : Store} {nx : Nat} {rc : AV} {up : Store} {nx' : Nat} (σ free : List Nat) (s0 s1 : Store) (m x : Nat) (r : AV) (names : St -> List Nat) {up1 : Store}
   (hf : P.funcs[f]? = some fn) (hb : fn.body = some c) (hname : (fn.name == "runtime.NumGoroutine") = false)
   (hN : fn.ntmps = N) (hargs : args.length <= N) (hm : σ.length = m) (hL : Jcq σ nx s0 s args args') (hfree : ∀ b ∈ free, b < m) (hr : renA (Jaq σ nx x) r = some rc) (hup : renS (Jaq σ nx x) s1 = some up1)
   (e1 : (up1 ++ free.map fun b => ((σ[b]?).getD 0, (none : Option ABlk))) = up) (e2 : nx + x = nx')
   (h : @xc P G N m ⟨c⟩ (Jbr 0 args) s0 m ⟨Jff P fn.results.toList m x (s1 ++ (free.map (·, none) ++ s0)) r names⟩) :
   Gives P G f args' s nx rc σ up nx' := by
 subst e1; subst e2
 exact Gives.of_bodyA hf hb hname hN hargs hm hL.lends hfree hr hup ((Jdm h).mono fun e st hst => by
   obtain ⟨he, vs, h1, h2, h3, h4, h5⟩ := hst
   obtain ⟨r1, h6, h7⟩ := Jaz.1 h2
   refine ⟨he, vs, h1, _, fun _ => False, r1, r1, h7, .keep _, h6, ⟨fun b y hg => Jez h3 b y (by simp) hg, h4, h5, by simp⟩, fun _ _ _ _ _ h => h⟩)
end
end Go.Am
namespace Go.Am
open Go
section
variable {P : Program} {G : Jac} {N n0 : Nat}
theorem GivesY.of_roundA {i : LoopI} {tl t0 : Jap} {args args' : List AV} {σ free : List Nat} {s s0 s1 up1 : Store} {nx m x lam : Nat} {j : Option Code}
   (hm : σ.length = m) (hL : LendsA σ nx s0 s args args') (hlam : get s lam = some (.loop i tl none)) (hlσ : lam ∉ σ) (hlnx : lam < nx) (ht : renT σ t0 = some tl) (hps : i.ps.size = args'.length) (hpN : ∀ d ∈ i.ps.toList, d < i.N)
   (hfree : ∀ b ∈ free, b < m) (hup : renS (Jaq σ nx x) s1 = some up1)
   (h : AEv P G i.N m i.asg ⟨Jda i.ps args t0, s0, m⟩ (Jgj (fun st => AEv P G i.N m i.body st (Jnj G i.N m x j (s1 ++ (free.map (·, none) ++ s0)))) (fun _ _ => False))) :
   GivesY P G i.l args' s nx (.p (.bool j.isNone)) (lam :: σ) ((lam, some (.loop i tl j)) :: (up1 ++ free.map fun b => ((σ[b]?).getD 0, none))) (nx + x) := by
 refine ⟨Nat.le_add_right _ _, fun F φ s1c w vs hag0 hs hfr hlv hv => ?_⟩
 have hag : Jb1 s s1c σ := fun b hb => hag0 b (by simp [hb])
 have hlam1 : get s1c lam = some (.loop i tl none) := (hag0 lam (by simp)).trans hlam
 obtain ⟨tmps, D, hφ, hrec, hsz, hsl⟩ := hs.blk lam _ hlam1
 have hlen : args'.length = args.length := (Jbz hL.args).1
 have hloop : Ja3 i tmps D none = { state := .ready, pending := none, fn := i.fn, tmps := tmps, params := i.ps, assign := i.asg, body := i.body, defers := D } := rfl
 let φ0 := via φ σ
 let F2 := Jcd φ σ s1c F
 have hFl : F2 i.l := .inr ⟨lam, _, _, hlam1, hlσ, hφ, rfl⟩
 have hlt := (Array.getElem?_eq_some_iff.1 hrec).1
 have hnot : ∀ (φx : Places) (s' : Store) (w' : World), SR G F2 φx s' w' -> ¬ ownF (fun _ => False) φx s' i.l := by
   rintro φx s' w' hx (hh | ⟨b, y, p, h1, h2, h3⟩)
   . exact hh
   . exact hx.disj b y p h1 h2 (by rw [h3]; exact hFl)
 rw [run_yield hrec (by show vs.length = i.ps.size; omega)]
 let _B : Base := ⟨w.heap.size, some i.l⟩
 have hsr0 := Jqk hL hag hs
 have hrel : Rel G i.N m F2 ⟨Jda i.ps args t0, s0, m⟩ φ0 { tmps := (i.ps.zip ⟨vs⟩).foldl (fun tmps (t, a) => tmps.setIfInBounds t a) tmps, defers := [] } w := by
   have hslots := Jlc (φ := φ0) (own := ownF F2 φ0 s0) (w := w) (N := i.N) i.ps.toList vs args tmps t0 (by omega) hsz hpN (fun d => by
     rw [Jg5 hL hag F]
     rcases Jhb ht d with ⟨e1, _⟩ | e
     . rw [e1]; exact .any _
     . exact (hsl d).ren e) (fun k y v hy hv' => by
     rw [Jg5 hL hag F]
     obtain ⟨y', e1, e2⟩ := (Jbz hL.args).2 k y hy
     exact (hv k y' v e1 hv').ren e2)
   have hfold : (i.ps.zip ⟨vs⟩).foldl (fun tmps (t, a) => tmps.setIfInBounds t a) tmps = (i.ps.toList.zip vs).foldl (fun tmps (t, a) => tmps.setIfInBounds t a) tmps := by
     rw [<- Array.foldl_toList, Array.toList_zip]
   refine ⟨hsr0, fun b hb => ?_, Nat.le_refl _, ⟨by simp only [hfold]; exact hslots.1, fun d => by simp only [hfold]; exact hslots.2 d⟩, ⟨Nat.le_refl _, ⟨[], rfl, List.nodup_nil, by simp⟩, fun l hl => ?_⟩⟩
   . have hb : m <= b := hb
     have : σ[b]? = none := List.getElem?_eq_none (by omega)
     simp [φ0, via, this]
   . cases hl
     exact ⟨_, hrec, hnot _ _ _ hsr0⟩
 show RoundIn Fence.wide 0 P i.l i.fn _ i.asg i.body w _
 refine roundIn_of_wpIn trivial ?_
 refine wpIn_mono (h.run F2 φ0 _ w hrel) fun e a1 w1 ha => ?_
 obtain ⟨st1, φ1, hk1, hr1, hb1, hst1⟩ := ha
 cases e with
 | normal =>
   have hl1 : w1.heap[i.l]? = some (.loop (Ja3 i tmps D none)) := (((hst1 (fun _ => False)).keep i.l hlt (hnot _ _ _ hsr0)).1).trans hrec
   refine ⟨_, run_beginRound hl1 rfl, ?_⟩
   have hr2 := hr1.busy (r' := { Ja3 i tmps D none with state := .busy }) hFl hl1
   have hlt1 := (Array.getElem?_eq_some_iff.1 hl1).1
   refine wpIn_mono (hk1.run F2 φ1 a1 _ hr2) fun e a3 w3 ha => ?_
   obtain ⟨st3, φ3, ⟨hje, st4, τ, hlead, hout⟩, hr3, hb3, hst3⟩ := ha
   have hl3 : w3.heap[i.l]? = some (.loop { Ja3 i tmps D none with state := .busy }) :=
     (((hst3 (fun _ => False)).keep i.l (by simpa [World.putObj] using hlt1) (hnot _ _ _ hr1.sr)).1).trans (World.putObj_heap_same hlt1)
   have hlt3 := (Array.getElem?_eq_some_iff.1 hl3).1
   -- the end of the round
   have fin : ∀ (c : Option Code), c = j -> ∃ v w', (Instr.endRound i.l c).run P w3 = .ok v w' /\ ∃ v', Ending.returned v = .returned v' /\
       Post G F φ s1c w (.p (.bool j.isNone)) ((lam, some (.loop i tl j)) :: (up1 ++ free.map fun b => ((σ[b]?).getD 0, none))) nx (nx + x) v' w' := by
     rintro c rfl
     refine ⟨_, _, run_endRound c hl3, _, rfl, ?_⟩
     -- the world with the record as it was
     have hsr3 := (hr3.busy (r' := Ja3 i tmps D none) hFl hl3)
     obtain ⟨φ4, hr4, hb4, hst4⟩ := hlead.run F2 φ3 a3 _ hsr3
     have hstep : ∀ F' : Nat -> Prop, Step (ownF F' φ0 s0) (ownF F' φ4 st4.s) w (w3.putObj i.l (.loop (Ja3 i tmps D none))) := fun F' => (Jsj (hst1 F') (hst3 F') hrec hl1).trans (hst4 F')
     have hpost := Jqi (s1 := s1) (r := .p (.bool c.isNone)) (rc := .p (.bool c.isNone)) (r0 := .p (.bool c.isNone)) (r1 := .p (.bool c.isNone)) (rv := .p (.bool c.isNone)) (B := fun _ => False) (u := .bool c.isNone) hm hL hfree rfl hup hag hs hfr
       (Jho _) (.keep _) rfl hout (fun _ _ _ _ _ h => h) hr4.sr (fun b hb => ((hb4 b hb).trans (hb3 b hb)).trans (hb1 b hb)) hstep (.p _ _ (.bool _))
     obtain ⟨φ5, p1, p2, p3, p4, p5⟩ := hpost
     -- the record is turned
     have hl4 : (w3.putObj i.l (.loop (Ja3 i tmps D none))).heap[i.l]? = some (.loop (Ja3 i tmps D none)) := World.putObj_heap_same hlt3
     have hφ5 := p1 _ _ hφ
     have hkeys : get ((up1 ++ free.map fun b => ((σ[b]?).getD 0, (none : Option ABlk))) ++ s1c) lam = some (.loop i tl none) := by
       rw [get_append, if_neg, hlam1]
       intro hm'
       simp only [keys, List.map_append, List.mem_append, List.map_map, List.mem_map, Function.comp] at hm'
       rcases hm' with ⟨q, hq, e⟩ | ⟨b, hb, e⟩
       . have := Je1 hup lam (List.mem_map.2 ⟨q, hq, e⟩)
         rcases Jiy.1 this with h | h
         . exact hlσ h
         . omega
       . have hbm := hfree b hb
         have hσb : σ[b]? = some (σ[b]'(by omega)) := List.getElem?_eq_getElem (by omega)
         rw [hσb] at e
         exact hlσ (e ▸ List.mem_of_getElem? hσb)
     have hw : (w3.putObj i.l (.loop { { Ja3 i tmps D none with state := .busy } with state := if c.isNone then .ready else .done, pending := c })).heap = (w3.putObj i.l (.loop (Ja3 i tmps D none))).heap.setIfInBounds i.l (.loop (Ja3 i tmps D c)) := by
       apply Array.ext_getElem?
       intro k
       simp only [World.putObj, Array.getElem?_setIfInBounds]
       by_cases e : i.l = k
       . subst e; simp [hlt3, Ja3]
       . simp [e]
     obtain ⟨q1, q2⟩ := p3.turnO (x := .loop i tl c) hkeys hφ5 hl4 (fun _ _ h => by cases h) hw rfl rfl rfl fun st => by
       obtain ⟨tmps2, D2, e1, e2, e3, e4⟩ := p3.blk lam _ hkeys
       rw [hl4] at e2
       simp only [Option.some.injEq, Obj.loop.injEq, Ja3, Loop.mk.injEq, true_and] at e2
       obtain ⟨rfl, rfl⟩ : tmps = tmps2 /\ D = D2 := ⟨e2.1, e2.2⟩
       refine ⟨tmps, D, e1, by rw [hw]; simp [World.putObj, hlt3], e3, fun d => (e4 d).mono (fun _ _ h => h) st⟩
     exact ⟨φ5, p1, p2, q1, .p _ _ (.bool _), fun F' => (p5 F').trans (q2 F')⟩
   cases e with
   | normal =>
     have : j = none := by
       cases j with
       | none => rfl
       | some c => cases c <;> simp [Jb3] at hje
     obtain ⟨v, w', f1, f2⟩ := fin none this.symm
     exact ⟨v, w', f1, f2⟩
   | ret =>
     have : j = some .ret := by
       cases j with
       | none => simp [Jb3] at hje
       | some c => cases c <;> simp [Jb3] at hje; rfl
     obtain ⟨v, w', f1, f2⟩ := fin (some .ret) this.symm
     exact ⟨v, w', f1, f2⟩
   | exit id =>
     have : j = some (.exit id) := by
       cases j with
       | none => simp [Jb3] at hje
       | some c => cases c <;> simp [Jb3] at hje; rw [hje]
     obtain ⟨v, w', f1, f2⟩ := fin (some (.exit id)) this.symm
     exact ⟨v, w', f1, f2⟩
   | _ =>
     exfalso
     cases j with
     | none => simp [Jb3] at hje
     | some c => cases c <;> simp [Jb3] at hje
 | _ => exact hk1.elim
theorem GivesY.of_walkA {i : LoopI} {tl t0 : Jap} {args args' : List AV} {σ free : List Nat} {s s0 s1 up1 : Store} {nx m x lam : Nat} {j : Option Code} (names : St -> List Nat)
   (hm : σ.length = m) (hL : Jcq σ nx s0 s args args') (hlam : get s lam = some (.loop i tl none)) (hlσ : lam ∉ σ) (hlnx : lam < nx) (ht : renT σ t0 = some tl) (hps : i.ps.size = args'.length) (hpN : ∀ d ∈ i.ps.toList, d < i.N)
   (hfree : ∀ b ∈ free, b < m) (hup : renS (Jaq σ nx x) s1 = some up1)
   (h : @xc P G i.N m ⟨i.asg⟩ (Jda i.ps args t0) s0 m ⟨fun e st => e = .normal /\ @xc P G i.N m ⟨i.body⟩ st.t st.s st.nx ⟨Jdr G i.N m x j (s1 ++ (free.map (·, none) ++ s0)) names⟩⟩) :
   GivesY P G i.l args' s nx (.p (.bool j.isNone)) (lam :: σ) ((lam, some (.loop i tl j)) :: (up1 ++ free.map fun b => ((σ[b]?).getD 0, none))) (nx + x) :=
 GivesY.of_roundA hm hL.lends hlam hlσ hlnx ht hps hpN hfree hup ((Jdm h).mono fun e st hst => by
   obtain ⟨rfl, hst⟩ := hst
   exact (Jdm hst).mono fun e st hst => by
     obtain ⟨h1, st2, h2, h3, h4, h5⟩ := hst
     exact ⟨h1, st2, _, h2, fun b y hg => Jez h3 b y (by simp) hg, h4, h5, by simp⟩)
end
end Go.Am
namespace Go.Am
open Go
section
variable {P : Program} {G : Jac} {N n0 : Nat}
end
end Go.Am
