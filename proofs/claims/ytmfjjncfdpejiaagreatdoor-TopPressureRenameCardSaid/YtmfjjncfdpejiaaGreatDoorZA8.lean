/- Lemmas and contracts for the proof of a statement of this seat. -/
import Derived.Test.YtmfjjncfdpejiaaGreatDoorZA7
import Derived.Below
import Derived.Shelf.Abstract
import Derived.Laws.AppendOwn
import Derived.Test.YtmfjjncfdpejiaaGreatDoorZA6
set_option linter.unusedVariables false
set_option linter.unusedSimpArgs false
namespace Go.Am
open Go Go.Proofs Go.RowKit
theorem Kgd {own : Nat -> Prop} {w w' : World} (h : Below w.heap.size w w') : Step own own w w' where
 keep := fun β hβ ho => ⟨h.block β hβ, ho⟩
 size := h.size
 shape := fun β arr T ha => ⟨arr, by rw [h.block β (Array.getElem?_eq_some_iff.1 ha).1]; exact ha, rfl⟩
 os := h.os
 tape := h.tape
 output := h.output
theorem Pure.of_below {P : Program} {G : Jaf} {f : Nat} {fn : Func} {c : Code} {args : List AV} {r : AV} (hf : P.funcs[f]? = some fn) (hname : (fn.name == "runtime.NumGoroutine") = false) (hb : fn.body = some c) (hp : Ja3 args = true)
   (h : ∀ (own : Nat -> Prop) (w : World) (vs : List Value), Ji1 G own w -> (∀ β, own β -> β < w.heap.size) -> vs.length = args.length -> (∀ (i : Nat) x v, args[i]? = some x -> vs[i]? = some v -> VR (fun _ => none) own w x v) ->
     Calls P f ⟨vs⟩ w fun e w' => ∃ u, e = .returned u /\ VR (fun _ => none) own w' r u /\ Below w.heap.size w w') : Pure P G f args r := by
 refine ⟨hp, fun own w vs hg hs hl hv => ?_⟩
 have eC := enters_of hf hname hb ⟨vs⟩ w
 rw [eC]
 refine Calls.mono (h own w vs hg hs hl hv) ?_
 rintro e w' ⟨u, rfl, h1, h2⟩
 exact ⟨u, rfl, h1, h2.block, Kgd h2⟩
end Go.Am
namespace Go.Am
open Go
section
variable {P : Program} {G : Jaf} {N n0 : Nat}
end
end Go.Am
namespace Go.Am
open Go
section
variable {P : Program} {G : Jaf} {N n0 : Nat}
end
end Go.Am
namespace Go.Am
open Go
section
variable {P : Program} {G : Jaf} {N n0 : Nat}
@[simp] theorem Kkf {K : St -> Prop} {Q : Exit -> St -> Prop} {st : St} : Jgb K Q .normal st = K st := rfl
@[simp] theorem Kkh {K : St -> Prop} {Q : Exit -> St -> Prop} {st : St} : Jgb K Q .ret st = Q .ret st := rfl
@[simp] theorem Kke {K : St -> Prop} {Q : Exit -> St -> Prop} {st : St} {i : Nat} : Jgb K Q (.exit i) st = Q (.exit i) st := rfl
end
end Go.Am
namespace Go.Am
open Go
section
variable {P : Program}
def Jfw (x : AV) : Prop := ∃ (n : Int) (s : List UInt8) (m : Int), x = .agg [.p (.int .i64 n), .p (.str s), .p (.int .i64 m)]
theorem Jfw.val {φ : Places} {own : Nat -> Prop} {w : World} {n m : Int} {s : List UInt8} {v : Value} (h : VR φ own w (.agg [.p (.int .i64 n), .p (.str s), .p (.int .i64 m)]) v) : v = .agg ⟨[.int .i64 n, .string ⟨⟨s⟩⟩, .int .i64 m]⟩ := by
 obtain ⟨us, rfl, h1, h2⟩ := h.agg_inv
 match us, h1 with
 | [a, b, c], _ =>
   have e1 := (h2 0 _ a rfl rfl).int_inv
   have e2 := (h2 1 _ b rfl rfl).str_inv
   have e3 := (h2 2 _ c rfl rfl).int_inv
   rw [e1, e2, e3]
theorem Kab {k : Nat} (hwide : (match P.underlying k with | some (.array _ _) | some (.struct _) => true | _ => false) = true)
   (hcheck : ∀ (w : World) (em : Bool) (n : Int) (s : ByteArray) (m : Int), (Instr.checkKey em 10000 k (.agg ⟨[.int .i64 n, .string s, .int .i64 m]⟩)).run P w = .ok () w)
   (heq : ∀ (n m : Int) (s t : List UInt8) (a b : Int), eqA P 8 k (.agg [.p (.int .i64 n), .p (.str s), .p (.int .i64 a)]) (.agg [.p (.int .i64 m), .p (.str t), .p (.int .i64 b)]) = some (decide (n = m /\ s = t /\ a = b))) : KeyOk P k Jfw where
 check := fun φ own w em x v hx hv => by
   obtain ⟨n, s, m, rfl⟩ := hx
   rw [Jfw.val hv]
   exact hcheck w em n _ m
 find := fun φ own w x v es ms hx hv hes h => by
   have e : (Instr.findKey k v ms).run P w = (Instr.findAsking k v ms).run P w := run_findKey_eq w hwide v ms
   rw [e]
   have := Jni (P := P) (k := k) (Kp := Jfw) hx hv (fun x y hx hy => by
     obtain ⟨n, s, a, rfl⟩ := hx
     obtain ⟨m, t, b, rfl⟩ := hy
     exact ⟨_, heq n m s t a b, by simp; grind⟩) es ms 0 hes h
   simpa using this
 stays := fun φ own w x v v' hx hv hv' => by
   obtain ⟨n, s, m, rfl⟩ := hx
   rw [Jfw.val hv, Jfw.val hv']
   have e : Instr.sameBits 10000 (.agg ⟨[.int .i64 n, .string ⟨⟨s⟩⟩, .int .i64 m]⟩) (.agg ⟨[.int .i64 n, .string ⟨⟨s⟩⟩, .int .i64 m]⟩) = true := by
     simp [Instr.sameBits, Go.MapKept.bytes_beq]
   rw [Instr.keyThatStays, if_pos e]
   rfl
end
end Go.Am
namespace Go.Am
open Go
section
variable {P : Program}
def IsS4 (x : AV) : Prop := ∃ a b c d : List UInt8, x = .agg [.p (.str a), .p (.str b), .p (.str c), .p (.str d)]
theorem IsS4.val {φ : Places} {own : Nat -> Prop} {w : World} {a b c d : List UInt8} {v : Value} (h : VR φ own w (.agg [.p (.str a), .p (.str b), .p (.str c), .p (.str d)]) v) : v = .agg ⟨[.string ⟨⟨a⟩⟩, .string ⟨⟨b⟩⟩, .string ⟨⟨c⟩⟩, .string ⟨⟨d⟩⟩]⟩ := by
 obtain ⟨us, rfl, h1, h2⟩ := h.agg_inv
 match us, h1 with
 | [x, y, z, u], _ =>
   have e1 := (h2 0 _ x rfl rfl).str_inv
   have e2 := (h2 1 _ y rfl rfl).str_inv
   have e3 := (h2 2 _ z rfl rfl).str_inv
   have e4 := (h2 3 _ u rfl rfl).str_inv
   rw [e1, e2, e3, e4]
theorem Kac {k : Nat} (hwide : (match P.underlying k with | some (.array _ _) | some (.struct _) => true | _ => false) = true)
   (hcheck : ∀ (w : World) (em : Bool) (a b c d : ByteArray), (Instr.checkKey em 10000 k (.agg ⟨[.string a, .string b, .string c, .string d]⟩)).run P w = .ok () w)
   (heq : ∀ (a b c d a' b' c' d' : List UInt8), eqA P 8 k (.agg [.p (.str a), .p (.str b), .p (.str c), .p (.str d)]) (.agg [.p (.str a'), .p (.str b'), .p (.str c'), .p (.str d')]) = some (decide ((a = a' /\ b = b') /\ (c = c' /\ d = d')))) : KeyOk P k IsS4 where
 check := fun φ own w em x v hx hv => by
   obtain ⟨a, b, c, d, rfl⟩ := hx
   rw [IsS4.val hv]
   exact hcheck w em _ _ _ _
 find := fun φ own w x v es ms hx hv hes h => by
   have e : (Instr.findKey k v ms).run P w = (Instr.findAsking k v ms).run P w := run_findKey_eq w hwide v ms
   rw [e]
   have := Jni (P := P) (k := k) (Kp := IsS4) hx hv (fun x y hx hy => by
     obtain ⟨a, b, c, d, rfl⟩ := hx
     obtain ⟨a', b', c', d', rfl⟩ := hy
     exact ⟨_, heq a b c d a' b' c' d', by simp; grind⟩) es ms 0 hes h
   simpa using this
 stays := fun φ own w x v v' hx hv hv' => by
   obtain ⟨a, b, c, d, rfl⟩ := hx
   rw [IsS4.val hv, IsS4.val hv']
   have e : Instr.sameBits 10000 (.agg ⟨[.string ⟨⟨a⟩⟩, .string ⟨⟨b⟩⟩, .string ⟨⟨c⟩⟩, .string ⟨⟨d⟩⟩]⟩) (.agg ⟨[.string ⟨⟨a⟩⟩, .string ⟨⟨b⟩⟩, .string ⟨⟨c⟩⟩, .string ⟨⟨d⟩⟩]⟩) = true := by
     simp [Instr.sameBits, Go.MapKept.bytes_beq]
   rw [Instr.keyThatStays, if_pos e]
   rfl
end
end Go.Am
namespace Go.Am
open Go
section
variable {P : Program} {G : Jaf} {N : Nat}
theorem Gives.of_walkFL {f : Nat} {fn : Func} {c : Code} {args args' : List AV} {σ : List Nat} {s s0 : Store} {nx m : Nat} {r : AV} (st2 : St) (hf : P.funcs[f]? = some fn) (hb : fn.body = some c) (hname : (fn.name == "runtime.NumGoroutine") = false)
   (hN : fn.ntmps = N) (hargs : args.length <= N) (hm : σ.length = m) (hL : Ji2 σ nx s0 s args args') (hk : ∀ p ∈ s0, p.1 < m) (hp : Jap r = true)
   (h0 : Leads G N m ⟨Jc4 0 args, s0, m⟩ st2)
   (h : @xc P G N m ⟨c⟩ st2.t st2.s st2.nx ⟨Jaa P fn.results.toList r⟩) : Gives P G f args' s nx r σ (σ.map (·, none)) nx := by
 have h2 := Gives.of_body (σ := σ) (free := List.range m) (s0 := s0) (s1 := []) (up1 := []) (nx := nx) (x := 0) (r := r) (rc := r) hf hb hname hN hargs hm hL.lends (fun b hb => by simpa using hb) (Jfp.1 r hp) rfl
   (AEv.leads h0 ((Jpw h).mono fun e st hst => by
     obtain ⟨he, vs, h1, h2⟩ := hst
     refine ⟨he, vs, h1, List.range m, fun _ => True, _, r, Jt2 _, .frz _ _ (Jtk h2), Jfp.1 r hp, ⟨?_, List.nodup_range, by simp, by simp⟩, ?_⟩
     . intro b y hg
       exfalso
       rw [List.nil_append, get_append] at hg
       split at hg
       . rw [Jnm] at hg; cases hg
       . rename_i hn
         have := get_mem hg
         exact hn (by simp [keys, List.map_map]; exact hk _ this)
     . intro b b' y _ hg
       exfalso
       rw [List.nil_append, get_append] at hg
       split at hg
       . rw [Jnm] at hg; cases hg
       . rename_i hn
         have := get_mem hg
         exact hn (by simp [keys, List.map_map]; exact hk _ this)))
 have e : ((List.range m).map fun b => ((σ[b]?).getD 0, (none : Option ABlk))) = σ.map (·, none) := by
   subst hm
   apply List.ext_getElem
   . simp
   . intro i h1 h2
     simp at h1
     simp [h1]
 rw [List.nil_append, e] at h2
 exact h2
theorem FrzB.two {s : Store} {B : List Nat} {k : Nat} {y x y' x' : AV} (h : FrzK s (· ∈ B) y x) (h' : FrzK s (· ∈ B) y' x') : FrzB s B (.cells k [[y, y']]) (.cells k [[x, x']]) := by
 refine .inr ⟨k, _, _, rfl, rfl, fun i j row' z h1 h2 => ?_⟩
 match i, j with
 | 0, 0 => simp at h1; subst h1; simp at h2; subst h2; exact ⟨_, _, rfl, rfl, h⟩
 | 0, 1 => simp at h1; subst h1; simp at h2; subst h2; exact ⟨_, _, rfl, rfl, h'⟩
 | 0, j + 2 => simp at h1; subst h1; simp at h2
 | i + 1, _ => simp at h1
end
end Go.Am
