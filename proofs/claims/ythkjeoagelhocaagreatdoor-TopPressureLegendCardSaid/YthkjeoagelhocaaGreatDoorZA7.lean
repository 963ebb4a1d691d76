/- Lemmas and contracts for the proof of a statement of this seat. -/
import Derived.Test.YthkjeoagelhocaaGreatDoorZA4
import Derived.ProofKit
import Derived.LaidMore
import Derived.Carry
import Derived.OpenVars
import Derived.OpenShut
import Derived.Below
import Derived.Shelf.Abstract
import Derived.Laws.AppendOwn
import Derived.Test.YthkjeoagelhocaaGreatDoorZA5
set_option linter.unusedVariables false
set_option linter.unusedSimpArgs false
namespace Go.Am
open Go Go.RowKit Go.WideElems Go.ChangeShapes Go.ChangeAt
theorem Pure.calls_of {P : Program} {G : Jaf} {f : Nat} {fn : Func} {args : List AV} {r : AV} (h : Pure P G f args r) (hf : P.funcs[f]? = some fn) (hb : fn.body.isNone = false) (hn : (fn.name == "runtime.NumGoroutine") = false) {w : World} {vs : List Value}
   (hg : Jka G (fun _ => False) w) (hl : vs.length = args.length) (hv : ∀ (i : Nat) x v, args[i]? = some x -> vs[i]? = some v -> VR (fun _ => none) (fun _ => False) w x v) :
   Calls P f ⟨vs⟩ w fun e w' => ∃ v, e = .returned v /\ VR (fun _ => none) (fun _ => False) w' r v /\ Below w.heap.size w w' := by
 have h1 := h.run (fun _ => False) w vs hg (fun β h => h.elim) hl hv
 have e : (callFunc f ⟨vs⟩).run P w = .ok (.enter f ⟨vs⟩) w := by
   simp only [callFunc, Sem.run_bind, run_program, Result.andThen_ok, hf, hn, hb, Bool.false_eq_true, if_false, Sem.run_pure]
 rw [e] at h1
 have h2 : Calls P f ⟨vs⟩ w fun e w' => ∃ v, e = .returned v /\ (VR (fun _ => none) (fun _ => False) w' r v /\ (∀ β, β < w.heap.size -> w'.heap[β]? = w.heap[β]?) /\ Step (fun _ => False) (fun _ => False) w w') := h1
 exact h2.mono fun e w' ⟨v, he, hr, hk, hs⟩ => ⟨v, he, hr, ⟨hs.os, hs.tape, hs.output, hs.size, hk⟩⟩
section
variable {H : Type} {enc : TypeId × Value -> H} {P : Program}
theorem J16 (hl : laidOutB P = true) {W W' : World} (hb : Below W.heap.size W W') : ∀ {ts : List TypeId} {vs : List Value} {ds : List (DataW H)} {ps : List MemPlace},
   (∀ t ∈ ts, P.readableRec t = true /\ t < P.types.size) -> DataW.TrodAll enc P W 0 (fun _ => true) true ts vs ds ps -> (∀ x ∈ ps, x.block < W.heap.size) ->
   DataW.TrodAll enc P W' 0 (fun b => decide (b < W.heap.size)) true ts vs ds ps
 | [], [], [], _, _, h, _ => h
 | t :: ts, v :: vs, d :: ds, ps, ht, h, hlt => by
   obtain ⟨p, q, h1, h2, rfl⟩ := h
   exact ⟨p, q, Below.trod hl (ht t (by simp)).1 (ht t (by simp)).2 h1 hb (fun x hx => hlt x (by simp [hx])), J16 hl hb (fun t h => ht t (by simp [h])) h2 (fun x hx => hlt x (by simp [hx])), rfl⟩
 | [], _ :: _, _, _, _, h, _ => h.elim
 | [], [], _ :: _, _, _, h, _ => h.elim
 | _ :: _, [], _, _, _, h, _ => h.elim
 | _ :: _, _ :: _, [], _, _, h, _ => h.elim
theorem Ka5 {fn : Func} {s : ChangeSpec} {apart fresh handsOn : Bool} {W W' : World} {args : Array Value} {ds gs : List (DataW H)} {before : List MemPlace} {tb : TypeId}
   (hW : DataW.Whole enc P fn.params.toList s.vars apart W args.toList ds gs before) (hl : laidOutB P = true) (hvars : varsRowed P s.vars = true)
   (hpar : ∀ t ∈ fn.params.toList, P.readableRec t = true /\ t < P.types.size) (hres : fn.resultTypes = #[tb]) (htb : P.underlying tb = some .bool)
   (hsp : s.fn H (ds ++ gs) = { results := [.lit (.bool true)], args := ds, vars := gs }) (hb : Below W.heap.size W W') :
   s.post enc P fn apart fresh handsOn false W args (.bool true) W' := by
 have hW2 := hW
 obtain ⟨p, q, hA, hV, rfl, hz, hn⟩ := hW2
 have hlt : ∀ x ∈ p ++ q, x.block < W.heap.size := fun x hx => hW.lt x hx
 refine ⟨ds, gs, p ++ q, [], p, q, hW, ?_, ?_, ?_, hb.frame _, fun h => by cases h⟩
 . rw [hres, hsp]
   exact trodAll_mk1 (shut_bool htb _)
 . rw [hsp]
   exact J16 hl hb hpar hA (fun x hx => hlt x (List.mem_append.2 (.inl hx)))
 . rw [hsp]
   exact Below.trodVars hl hb hvars hV
theorem Kjv {G : Jaf} {f : Nat} {fn : Func} {avs : List AV} {s : ChangeSpec} {apart fresh handsOn : Bool} {W : World} {args : Array Value} {ds gs : List (DataW H)} {before : List MemPlace} {tb : TypeId}
   (h : Pure P G f avs (.p (.bool true))) (hf : P.funcs[f]? = some fn) (hb : fn.body.isNone = false) (hn : (fn.name == "runtime.NumGoroutine") = false)
   (hg : Jka G (fun _ => False) W) (hl : args.toList.length = avs.length) (hv : ∀ (i : Nat) x v, avs[i]? = some x -> args.toList[i]? = some v -> VR (fun _ => none) (fun _ => False) W x v)
   (hW : DataW.Whole enc P fn.params.toList s.vars apart W args.toList ds gs before) (hlaid : laidOutB P = true) (hvars : varsRowed P s.vars = true)
   (hpar : (fn.params.toList.all fun t => P.readableRec t && decide (t < P.types.size)) = true) (hres : fn.resultTypes = #[tb]) (htb : P.underlying tb = some .bool)
   (hsp : s.fn H (ds ++ gs) = { results := [.lit (.bool true)], args := ds, vars := gs }) :
   Calls P f args W fun e W' => ∃ v, e = .returned v /\ s.post enc P fn apart fresh handsOn false W args v W' := by
 have hc := h.calls_of hf hb hn (vs := args.toList) hg hl hv
 refine Calls.mono hc fun e W' ⟨v, he, hr, hbel⟩ => ⟨v, he, ?_⟩
 have hvt : v = .bool true := by
   cases hr with
   | p _ _ h => cases h; rfl
 subst hvt
 refine Ka5 hW hlaid hvars (fun t ht => ?_) hres htb hsp hbel
 have := List.all_eq_true.1 hpar t ht
 simpa using this
end
end Go.Am
namespace Go.Am
open Go Go.Proofs Go.RowKit
theorem Kg2 {own : Nat -> Prop} {w w' : World} (h : Below w.heap.size w w') : Step own own w w' where
 keep := fun β hβ ho => ⟨h.block β hβ, ho⟩
 size := h.size
 shape := fun β arr T ha => ⟨arr, by rw [h.block β (Array.getElem?_eq_some_iff.1 ha).1]; exact ha, rfl⟩
 os := h.os
 tape := h.tape
 output := h.output
theorem Pure.of_below {P : Program} {G : Jaf} {f : Nat} {fn : Func} {c : Code} {args : List AV} {r : AV} (hf : P.funcs[f]? = some fn) (hname : (fn.name == "runtime.NumGoroutine") = false) (hb : fn.body = some c) (hp : Jay args = true)
   (h : ∀ (own : Nat -> Prop) (w : World) (vs : List Value), Jka G own w -> (∀ β, own β -> β < w.heap.size) -> vs.length = args.length -> (∀ (i : Nat) x v, args[i]? = some x -> vs[i]? = some v -> VR (fun _ => none) own w x v) ->
     Calls P f ⟨vs⟩ w fun e w' => ∃ u, e = .returned u /\ VR (fun _ => none) own w' r u /\ Below w.heap.size w w') : Pure P G f args r := by
 refine ⟨hp, fun own w vs hg hs hl hv => ?_⟩
 have eC := enters_of hf hname hb ⟨vs⟩ w
 rw [eC]
 refine Calls.mono (h own w vs hg hs hl hv) ?_
 rintro e w' ⟨u, rfl, h1, h2⟩
 exact ⟨u, rfl, h1, h2.block, Kg2 h2⟩
theorem Pure.wider {P : Program} {G G' : Jaf} {f : Nat} {args : List AV} {r : AV} (h : Pure P G f args r) (hG : ∀ x ∈ G, x ∈ G') : Pure P G' f args r :=
 ⟨h.pure, fun own w vs hg hs hl hv => h.run own w vs (fun g k rows hm => hg g k rows (hG _ hm)) hs hl hv⟩
theorem Kis {φ : Places} {own : Nat -> Prop} {w w' : World} {e : TypeId} {v : Value} {l : List (List UInt8)} (hs : ∀ β, own β -> β < w.heap.size) (h : w'.ownsRow w.heap.size e 1 v l.length (l.map fun x => Value.string ⟨x.toArray⟩)) :
   VR φ own w' (.p (.lst 1 (l.map fun s => [PV.str s]))) v := by
 obtain ⟨h1, h2 | ⟨g, cap, cur, rfl, h3, h4, h5, h6, h7, h8⟩⟩ := h
 . obtain ⟨rfl, h2⟩ := h2
   have : l = [] := List.eq_nil_of_length_eq_zero h2
   subst this
   exact .p _ _ (.lst0 _ _ _)
 . have hl : (l.map fun s => [PV.str s]).length = l.length := by simp
   rw [<- hl]
   refine .p _ _ (VRp.lst_of (by rw [hl]; exact h5) (Array.getElem?_eq_some_iff.1 h4).1 (fun ho => by have := hs g ho; omega) fun i j row x hr hx => ?_)
   rw [List.getElem?_map, Option.map_eq_some_iff] at hr
   obtain ⟨s, e1, rfl⟩ := hr
   match j with
   | 0 =>
     simp only [List.getElem?_cons_zero, Option.some.injEq] at hx
     subst hx
     refine ⟨.string ⟨⟨s⟩⟩, ?_, .str s⟩
     have e2 : (l.map fun x => Value.string ⟨x.toArray⟩)[i]? = some (.string ⟨⟨s⟩⟩) := by rw [List.getElem?_map, e1]; rfl
     rw [<- h8, List.getElem?_take] at e2
     split at e2
     . simp only [World.cell?, h4, Nat.mul_one, Nat.add_zero, Nat.zero_add]
       simpa using e2
     . cases e2
   | j + 1 => simp at hx
end Go.Am
namespace Go.Am
open Go
section
variable {P : Program} {G : Jaf} {N n0 : Nat}
end
end Go.Am
namespace Go.Am
open Go
section
variable {P : Program} {G : Jaf} {N n0 : Nat}
end
end Go.Am
namespace Go.Am
open Go
section
variable {P : Program} {G : Jaf} {N n0 : Nat}
@[simp] theorem Kkx {K : St -> Prop} {Q : Exit -> St -> Prop} {st : St} : Jf3 K Q .normal st = K st := rfl
@[simp] theorem Kkz {K : St -> Prop} {Q : Exit -> St -> Prop} {st : St} : Jf3 K Q .ret st = Q .ret st := rfl
@[simp] theorem Kkw {K : St -> Prop} {Q : Exit -> St -> Prop} {st : St} {i : Nat} : Jf3 K Q (.exit i) st = Q (.exit i) st := rfl
end
end Go.Am
namespace Go.Am
open Go
section
variable {P : Program}
def IsII (x : AV) : Prop := ∃ (n m : Int), x = .agg [.p (.int .i64 n), .p (.int .i64 m)]
theorem IsII.val {φ : Places} {own : Nat -> Prop} {w : World} {n m : Int} {v : Value} (h : VR φ own w (.agg [.p (.int .i64 n), .p (.int .i64 m)]) v) : v = .agg ⟨[.int .i64 n, .int .i64 m]⟩ := by
 obtain ⟨us, rfl, h1, h2⟩ := h.agg_inv
 match us, h1 with
 | [a, b], _ =>
   have e1 := (h2 0 _ a rfl rfl).int_inv
   have e2 := (h2 1 _ b rfl rfl).int_inv
   rw [e1, e2]
theorem Kan {k : Nat} (hwide : (match P.underlying k with | some (.array _ _) | some (.struct _) => true | _ => false) = true)
   (hcheck : ∀ (w : World) (em : Bool) (n m : Int), (Instr.checkKey em 10000 k (.agg ⟨[.int .i64 n, .int .i64 m]⟩)).run P w = .ok () w)
   (heq : ∀ (n m s t : Int), eqA P 8 k (.agg [.p (.int .i64 n), .p (.int .i64 s)]) (.agg [.p (.int .i64 m), .p (.int .i64 t)]) = some (decide (n = m /\ s = t))) : KeyOk P k IsII where
 check := fun φ own w em x v hx hv => by
   obtain ⟨n, s, rfl⟩ := hx
   rw [IsII.val hv]
   exact hcheck w em n _
 find := fun φ own w x v es ms hx hv hes h => by
   have e : (Instr.findKey k v ms).run P w = (Instr.findAsking k v ms).run P w := run_findKey_eq w hwide v ms
   rw [e]
   have := Jmw (P := P) (k := k) (Kp := IsII) hx hv (fun x y hx hy => by
     obtain ⟨n, s, rfl⟩ := hx
     obtain ⟨m, t, rfl⟩ := hy
     exact ⟨_, heq n m s t, by simp; grind⟩) es ms 0 hes h
   simpa using this
 stays := fun φ own w x v v' hx hv hv' => by
   obtain ⟨n, s, rfl⟩ := hx
   rw [IsII.val hv, IsII.val hv']
   have e : Instr.sameBits 10000 (.agg ⟨[.int .i64 n, .int .i64 s]⟩) (.agg ⟨[.int .i64 n, .int .i64 s]⟩) = true := by
     simp [Instr.sameBits]
   rw [Instr.keyThatStays, if_pos e]
   rfl
end
end Go.Am
namespace Go.Am
open Go
section
variable {P : Program}
def Jfn (x : AV) : Prop := ∃ (n : Int) (s : List UInt8) (m : Int), x = .agg [.p (.int .i64 n), .p (.str s), .p (.int .i64 m)]
theorem Jfn.val {φ : Places} {own : Nat -> Prop} {w : World} {n m : Int} {s : List UInt8} {v : Value} (h : VR φ own w (.agg [.p (.int .i64 n), .p (.str s), .p (.int .i64 m)]) v) : v = .agg ⟨[.int .i64 n, .string ⟨⟨s⟩⟩, .int .i64 m]⟩ := by
 obtain ⟨us, rfl, h1, h2⟩ := h.agg_inv
 match us, h1 with
 | [a, b, c], _ =>
   have e1 := (h2 0 _ a rfl rfl).int_inv
   have e2 := (h2 1 _ b rfl rfl).str_inv
   have e3 := (h2 2 _ c rfl rfl).int_inv
   rw [e1, e2, e3]
theorem Kap {k : Nat} (hwide : (match P.underlying k with | some (.array _ _) | some (.struct _) => true | _ => false) = true)
   (hcheck : ∀ (w : World) (em : Bool) (n : Int) (s : ByteArray) (m : Int), (Instr.checkKey em 10000 k (.agg ⟨[.int .i64 n, .string s, .int .i64 m]⟩)).run P w = .ok () w)
   (heq : ∀ (n m : Int) (s t : List UInt8) (a b : Int), eqA P 8 k (.agg [.p (.int .i64 n), .p (.str s), .p (.int .i64 a)]) (.agg [.p (.int .i64 m), .p (.str t), .p (.int .i64 b)]) = some (decide (n = m /\ s = t /\ a = b))) : KeyOk P k Jfn where
 check := fun φ own w em x v hx hv => by
   obtain ⟨n, s, m, rfl⟩ := hx
   rw [Jfn.val hv]
   exact hcheck w em n _ m
 find := fun φ own w x v es ms hx hv hes h => by
   have e : (Instr.findKey k v ms).run P w = (Instr.findAsking k v ms).run P w := run_findKey_eq w hwide v ms
   rw [e]
   have := Jmw (P := P) (k := k) (Kp := Jfn) hx hv (fun x y hx hy => by
     obtain ⟨n, s, a, rfl⟩ := hx
     obtain ⟨m, t, b, rfl⟩ := hy
     exact ⟨_, heq n m s t a b, by simp; grind⟩) es ms 0 hes h
   simpa using this
 stays := fun φ own w x v v' hx hv hv' => by
   obtain ⟨n, s, m, rfl⟩ := hx
   rw [Jfn.val hv, Jfn.val hv']
   have e : Instr.sameBits 10000 (.agg ⟨[.int .i64 n, .string ⟨⟨s⟩⟩, .int .i64 m]⟩) (.agg ⟨[.int .i64 n, .string ⟨⟨s⟩⟩, .int .i64 m]⟩) = true := by
     simp [Instr.sameBits, Go.MapKept.bytes_beq]
   rw [Instr.keyThatStays, if_pos e]
   rfl
end
end Go.Am
