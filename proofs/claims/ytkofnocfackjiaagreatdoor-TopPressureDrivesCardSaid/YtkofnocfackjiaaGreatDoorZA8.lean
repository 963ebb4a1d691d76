/- Lemmas and contracts for the proof of a statement of this seat. -/
import Derived.Test.YtkofnocfackjiaaGreatDoorZA7
import Derived.Below
import Derived.Shelf.Abstract
import Derived.Laws.AppendOwn
import Derived.Test.YtkofnocfackjiaaGreatDoorZA6
set_option linter.unusedVariables false
set_option linter.unusedSimpArgs false
/- Contracts of the library that tell of the world behind them, as contracts of this logic; wider lists of variables. -/
namespace Go.Am
open Go Go.Proofs Go.RowKit

theorem step_belowW {own : Nat → Prop} {w w' : World} (h : Below w.heap.size w w') : Step own own w w' where
  keep := fun β hβ ho => ⟨h.block β hβ, ho⟩
  size := h.size
  shape := fun β arr T ha => ⟨arr, by rw [h.block β (Array.getElem?_eq_some_iff.1 ha).1]; exact ha, rfl⟩
  os := h.os
  tape := h.tape
  output := h.output

theorem Pure.of_below {P : Program} {G : Globs} {f : Nat} {fn : Func} {c : Code} {args : List AV} {r : AV} (hf : P.funcs[f]? = some fn) (hname : (fn.name == "runtime.NumGoroutine") = false) (hb : fn.body = some c) (hp : pureL args = true)
    (h : ∀ (own : Nat → Prop) (w : World) (vs : List Value), GlobOk G own w → (∀ β, own β → β < w.heap.size) → vs.length = args.length → (∀ (i : Nat) x v, args[i]? = some x → vs[i]? = some v → VR (fun _ => none) own w x v) →
      Calls P f ⟨vs⟩ w fun e w' => ∃ u, e = .returned u ∧ VR (fun _ => none) own w' r u ∧ Below w.heap.size w w') : Pure P G f args r := by
  refine ⟨hp, fun own w vs hg hs hl hv => ?_⟩
  have eC := enters_of hf hname hb ⟨vs⟩ w
  rw [eC]
  refine Calls.mono (h own w vs hg hs hl hv) ?_
  rintro e w' ⟨u, rfl, h1, h2⟩
  exact ⟨u, rfl, h1, h2.block, step_belowW h2⟩

end Go.Am
/-
  Maps whose keys are structs of an int, a string and an int.
-/
namespace Go.Am
open Go

section
variable {P : Program}
def IsISI (x : AV) : Prop := ∃ (n : Int) (s : List UInt8) (m : Int), x = .agg [.p (.int .i64 n), .p (.str s), .p (.int .i64 m)]

theorem IsISI.val {φ : Places} {own : Nat → Prop} {w : World} {n m : Int} {s : List UInt8} {v : Value} (h : VR φ own w (.agg [.p (.int .i64 n), .p (.str s), .p (.int .i64 m)]) v) : v = .agg ⟨[.int .i64 n, .string ⟨⟨s⟩⟩, .int .i64 m]⟩ := by
  obtain ⟨us, rfl, h1, h2⟩ := h.agg_inv
  match us, h1 with
  | [a, b, c], _ =>
    have e1 := (h2 0 _ a rfl rfl).int_inv
    have e2 := (h2 1 _ b rfl rfl).str_inv
    have e3 := (h2 2 _ c rfl rfl).int_inv
    rw [e1, e2, e3]

theorem keyISI {k : Nat} (hwide : (match P.underlying k with | some (.array _ _) | some (.struct _) => true | _ => false) = true)
    (hcheck : ∀ (w : World) (em : Bool) (n : Int) (s : ByteArray) (m : Int), (Instr.checkKey em 10000 k (.agg ⟨[.int .i64 n, .string s, .int .i64 m]⟩)).run P w = .ok () w)
    (heq : ∀ (n m : Int) (s t : List UInt8) (a b : Int), eqA P 8 k (.agg [.p (.int .i64 n), .p (.str s), .p (.int .i64 a)]) (.agg [.p (.int .i64 m), .p (.str t), .p (.int .i64 b)]) = some (decide (n = m ∧ s = t ∧ a = b))) : KeyOk P k IsISI where
  check := fun φ own w em x v hx hv => by
    obtain ⟨n, s, m, rfl⟩ := hx
    rw [IsISI.val hv]
    exact hcheck w em n _ m
  find := fun φ own w x v es ms hx hv hes h => by
    have e : (Instr.findKey k v ms).run P w = (Instr.findAsking k v ms).run P w := run_findKey_eq w hwide v ms
    rw [e]
    have := findAsking_spec (P := P) (k := k) (Kp := IsISI) hx hv (fun x y hx hy => by
      obtain ⟨n, s, a, rfl⟩ := hx
      obtain ⟨m, t, b, rfl⟩ := hy
      exact ⟨_, heq n m s t a b, by simp; grind⟩) es ms 0 hes h
    simpa using this
  stays := fun φ own w x v v' hx hv hv' => by
    obtain ⟨n, s, m, rfl⟩ := hx
    rw [IsISI.val hv, IsISI.val hv']
    have e : Instr.sameBits 10000 (.agg ⟨[.int .i64 n, .string ⟨⟨s⟩⟩, .int .i64 m]⟩) (.agg ⟨[.int .i64 n, .string ⟨⟨s⟩⟩, .int .i64 m]⟩) = true := by
      simp [Instr.sameBits, Go.MapKept.bytes_beq]
    rw [Instr.keyThatStays, if_pos e]
    rfl
end
end Go.Am
