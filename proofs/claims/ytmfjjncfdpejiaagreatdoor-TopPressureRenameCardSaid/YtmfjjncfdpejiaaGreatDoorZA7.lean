/-
 From a contract to a row: what the call hands back, in a world below whose old blocks nothing has turned. Conditions: none.
-/
import Derived.Test.YtmfjjncfdpejiaaGreatDoorZA4
import Derived.ProofKit
import Derived.LaidMore
import Derived.Carry
import Derived.OpenVars
import Derived.OpenShut
set_option linter.unusedVariables false
set_option linter.unusedSimpArgs false
namespace Go.Am
open Go Go.RowKit Go.WideElems Go.ChangeShapes Go.ChangeAt
theorem Pure.calls_of {P : Program} {G : Jaf} {f : Nat} {fn : Func} {args : List AV} {r : AV} (h : Pure P G f args r) (hf : P.funcs[f]? = some fn) (hb : fn.body.isNone = false) (hn : (fn.name == "runtime.NumGoroutine") = false) {w : World} {vs : List Value}
   (hg : Ji1 G (fun _ => False) w) (hl : vs.length = args.length) (hv : ∀ (i : Nat) x v, args[i]? = some x -> vs[i]? = some v -> VR (fun _ => none) (fun _ => False) w x v) :
   Calls P f ⟨vs⟩ w fun e w' => ∃ v, e = .returned v /\ VR (fun _ => none) (fun _ => False) w' r v /\ Below w.heap.size w w' := by
 have h1 := h.run (fun _ => False) w vs hg (fun β h => h.elim) hl hv
 have e : (callFunc f ⟨vs⟩).run P w = .ok (.enter f ⟨vs⟩) w := by
   simp only [callFunc, Sem.run_bind, run_program, Result.andThen_ok, hf, hn, hb, Bool.false_eq_true, if_false, Sem.run_pure]
 rw [e] at h1
 have h2 : Calls P f ⟨vs⟩ w fun e w' => ∃ v, e = .returned v /\ (VR (fun _ => none) (fun _ => False) w' r v /\ (∀ β, β < w.heap.size -> w'.heap[β]? = w.heap[β]?) /\ Step (fun _ => False) (fun _ => False) w w') := h1
 exact h2.mono fun e w' ⟨v, he, hr, hk, hs⟩ => ⟨v, he, hr, ⟨hs.os, hs.tape, hs.output, hs.size, hk⟩⟩
section
variable {H : Type} {enc : TypeId × Value -> H} {P : Program}
theorem J19 (hl : laidOutB P = true) {W W' : World} (hb : Below W.heap.size W W') : ∀ {ts : List TypeId} {vs : List Value} {ds : List (DataW H)} {ps : List MemPlace},
   (∀ t ∈ ts, P.readableRec t = true /\ t < P.types.size) -> DataW.TrodAll enc P W 0 (fun _ => true) true ts vs ds ps -> (∀ x ∈ ps, x.block < W.heap.size) ->
   DataW.TrodAll enc P W' 0 (fun b => decide (b < W.heap.size)) true ts vs ds ps
 | [], [], [], _, _, h, _ => h
 | t :: ts, v :: vs, d :: ds, ps, ht, h, hlt => by
   obtain ⟨p, q, h1, h2, rfl⟩ := h
   exact ⟨p, q, Below.trod hl (ht t (by simp)).1 (ht t (by simp)).2 h1 hb (fun x hx => hlt x (by simp [hx])), J19 hl hb (fun t h => ht t (by simp [h])) h2 (fun x hx => hlt x (by simp [hx])), rfl⟩
 | [], _ :: _, _, _, _, h, _ => h.elim
 | [], [], _ :: _, _, _, h, _ => h.elim
 | _ :: _, [], _, _, _, h, _ => h.elim
 | _ :: _, _ :: _, [], _, _, h, _ => h.elim
theorem Kao {fn : Func} {s : ChangeSpec} {apart fresh handsOn : Bool} {W W' : World} {args : Array Value} {ds gs : List (DataW H)} {before : List MemPlace} {tb : TypeId}
   (hW : DataW.Whole enc P fn.params.toList s.vars apart W args.toList ds gs before) (hl : laidOutB P = true) (hvars : varsRowed P s.vars = true)
   (hpar : ∀ t ∈ fn.params.toList, P.readableRec t = true /\ t < P.types.size) (hres : fn.resultTypes = #[tb]) (htb : P.underlying tb = some .bool)
   (hsp : s.fn H (ds ++ gs) = { results := [.lit (.bool true)], args := ds, vars := gs }) (hb : Below W.heap.size W W') :
   s.post enc P fn apart fresh handsOn false W args (.bool true) W' := by
 have hW2 := hW
 obtain ⟨p, q, hA, hV, rfl, hz, hn⟩ := hW2
 have hlt : ∀ x ∈ p ++ q, x.block < W.heap.size := fun x hx => hW.lt x hx
 refine ⟨ds, gs, p ++ q, [], p, q, hW, ?_, ?_, ?_, hb.frame _, fun h => by cases h⟩
 . rw [hres, hsp]
   exact trodAll_mk1 (shut_bool htb _)
 . rw [hsp]
   exact J19 hl hb hpar hA (fun x hx => hlt x (List.mem_append.2 (.inl hx)))
 . rw [hsp]
   exact Below.trodVars hl hb hvars hV
theorem Kan {G : Jaf} {f : Nat} {fn : Func} {avs : List AV} {s : ChangeSpec} {apart fresh handsOn : Bool} {W : World} {args : Array Value} {ds gs : List (DataW H)} {before : List MemPlace} {tb : TypeId}
   (h : Pure P G f avs (.p (.bool true))) (hf : P.funcs[f]? = some fn) (hb : fn.body.isNone = false) (hn : (fn.name == "runtime.NumGoroutine") = false)
   (hg : Ji1 G (fun _ => False) W) (hl : args.toList.length = avs.length) (hv : ∀ (i : Nat) x v, avs[i]? = some x -> args.toList[i]? = some v -> VR (fun _ => none) (fun _ => False) W x v)
   (hW : DataW.Whole enc P fn.params.toList s.vars apart W args.toList ds gs before) (hlaid : laidOutB P = true) (hvars : varsRowed P s.vars = true)
   (hpar : (fn.params.toList.all fun t => P.readableRec t && decide (t < P.types.size)) = true) (hres : fn.resultTypes = #[tb]) (htb : P.underlying tb = some .bool)
   (hsp : s.fn H (ds ++ gs) = { results := [.lit (.bool true)], args := ds, vars := gs }) :
   Calls P f args W fun e W' => ∃ v, e = .returned v /\ s.post enc P fn apart fresh handsOn false W args v W' := by
 have hc := h.calls_of hf hb hn (vs := args.toList) hg hl hv
 refine Calls.mono hc fun e W' ⟨v, he, hr, hbel⟩ => ⟨v, he, ?_⟩
 have hvt : v = .bool true := by
   cases hr with
   | p _ _ h => cases h; rfl
 subst hvt
 refine Kao hW hlaid hvars (fun t ht => ?_) hres htb hsp hbel
 have := List.all_eq_true.1 hpar t ht
 simpa using this
end
end Go.Am
