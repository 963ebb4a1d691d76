/- Lemmas and contracts for the proof of a statement of this seat. -/
import Derived.Orders
import Derived.OrdersIn
import Derived.TacticsIn
import Derived.RangeFuncLeaves
import Derived.RangeFuncNested
import Derived.Laws.World
import Derived.Tactics
import Derived.Laws.Sem
import Derived.Laws.Entries
import Derived.Laws.Cells
import Derived.Laws.CopyRow
import Derived.Laws.Strings
import Derived.Lib.Strings
set_option linter.unusedVariables false
set_option linter.unusedSimpArgs false
namespace Go.Am
open Go
theorem gsI {α : Type _} {l : List α} {i : Nat} {a : α} : l[i]? = some a ↔ ∃ h : i < l.length, l[i] = a := List.getElem?_eq_some_iff
inductive PV where
 | int (k : IntKind) (n : Int)
 | bool (b : Bool)
 | str (s : List UInt8)
 | lst (k : Nat) (rows : List (List PV))
 | nilf
 | nilsl
 | nilif
 | ifc
 | ptr (row : List PV)
 | full (k : Nat) (rows : List (List PV))
inductive AV where
 | p (x : PV)
 | agg (cs : List AV)
 | tup (vs : List AV)
 | nils
 | ref (b k i n : Nat) (c : Option Nat)
 | ptr (b k i j : Nat)
 | iptr (k : Nat) (rows : List (List PV)) (i j : Nat)
 | nilp
 | map (b : Nat)
 | pmap (ks vs : List AV)
 | nilm
 | fn (f : Fn) (cap : List AV)
 | acc (b k n : Nat)
 | ubool
 | any
instance : Inhabited AV := ⟨.any⟩
instance : Inhabited PV := ⟨.nilf⟩
structure LoopI where
 l : Nat
 N : Nat
 fn : FuncId
 ps : Array Tmp
 asg : Code
 body : Code
inductive ABlk where
 | cells (k : Nat) (rows : List (List AV))
 | map (es : List (AV × AV))
 | iter (ks vs : List AV) (seen : List Nat)
 | loop (i : LoopI) (t : List (Nat × AV)) (j : Option Code)
abbrev Place := Nat × Nat
abbrev Places := Nat -> Option Place
abbrev Store := List (Nat × Option ABlk)
abbrev Jap := List (Nat × AV)
def get : Store -> Nat -> Option ABlk
 | [], _ => none
 | (b, x) :: s, c => if b = c then x else get s c
def slot : Jap -> Nat -> AV
 | [], _ => .any
 | (d, x) :: t, e => if d = e then x else slot t e
def Jdd : Fn -> Bool
 | .via .. => false
 | _ => true
@[simp] theorem J31 {n : Nat} : Jdd (.func n) = true := rfl
@[simp] theorem J32 {n : Nat} : Jdd (.yield n) = true := rfl
inductive VRp (own : Nat -> Prop) (w : World) : PV -> Value -> Prop
 | int (k n) : VRp own w (.int k n) (.int k n)
 | bool (b) : VRp own w (.bool b) (.bool b)
 | str (s) : VRp own w (.str s) (.string ⟨⟨s⟩⟩)
 | nilf : VRp own w .nilf .nilFunc
 | nilsl : VRp own w .nilsl (.slice none 0 0)
 | nilif : VRp own w .nilif .nilIface
 | ifc (t x) : VRp own w .ifc (.iface t x)
 | lst0 (k a c) : VRp own w (.lst k []) (.slice a 0 c)
 | lst (k rows β o n c) (cell : Nat -> Nat -> Value) (hn : rows.length = n) (hcap : n <= c) (hβ : β < w.heap.size) (hown : ¬ own β)
     (hc : ∀ (i j : Nat) row x, rows[i]? = some row -> row[j]? = some x -> w.cell? ⟨β, o + i * k + j, none⟩ = some (cell i j))
     (hv : ∀ (i j : Nat) row x, rows[i]? = some row -> row[j]? = some x -> VRp own w x (cell i j)) :
     VRp own w (.lst k rows) (.slice (some ⟨β, o, none⟩) n c)
 | ptr (row β o) (cell : Nat -> Value) (hβ : β < w.heap.size) (hown : ¬ own β) (hc : ∀ (j : Nat) x, row[j]? = some x -> w.cell? ⟨β, o + j, none⟩ = some (cell j))
     (hv : ∀ (j : Nat) x, row[j]? = some x -> VRp own w x (cell j)) : VRp own w (.ptr row) (.pointer (some ⟨β, o, none⟩))
 | full (k rows β o n) (cell : Nat -> Nat -> Value) (hn : rows.length = n) (hβ : β < w.heap.size) (hown : ¬ own β)
     (hc : ∀ (i j : Nat) row x, rows[i]? = some row -> row[j]? = some x -> w.cell? ⟨β, o + i * k + j, none⟩ = some (cell i j))
     (hv : ∀ (i j : Nat) row x, rows[i]? = some row -> row[j]? = some x -> VRp own w x (cell i j)) :
     VRp own w (.full k rows) (.slice (some ⟨β, o, none⟩) n n)
def Jbq (own : Nat -> Prop) (w : World) (k : Nat) (rows : List (List PV)) (β o : Nat) : Prop :=
 ∀ (i j : Nat) row x, rows[i]? = some row -> row[j]? = some x -> ∃ v, w.cell? ⟨β, o + i * k + j, none⟩ = some v /\ VRp own w x v
theorem VRp.lst_of {own : Nat -> Prop} {w : World} {k rows β o c} (hcap : rows.length <= c) (hβ : β < w.heap.size) (hown : ¬ own β) (h : Jbq own w k rows β o) :
   VRp own w (.lst k rows) (.slice (some ⟨β, o, none⟩) rows.length c) := by
 refine .lst k rows β o _ c (fun i j => (w.cell? ⟨β, o + i * k + j, none⟩).getD (.tuple #[])) rfl hcap hβ hown ?_ ?_
 . intro i j row x hr hx
   obtain ⟨v, hv, _⟩ := h i j row x hr hx
   simp [hv]
 . intro i j row x hr hx
   obtain ⟨v, hv, hr⟩ := h i j row x hr hx
   simpa [hv] using hr
theorem VRp.lst_inv {own : Nat -> Prop} {w : World} {k rows v} (h : VRp own w (.lst k rows) v) :
   (rows = [] /\ ∃ a c, v = .slice a 0 c) \/
   ∃ β o c, v = .slice (some ⟨β, o, none⟩) rows.length c /\ rows.length <= c /\ β < w.heap.size /\ ¬ own β /\ Jbq own w k rows β o := by
 cases h with
 | lst0 k a c => exact .inl ⟨rfl, a, c, rfl⟩
 | lst k rows β o n c cell hn hcap hβ hown hc hv =>
   subst hn
   exact .inr ⟨β, o, c, rfl, hcap, hβ, hown, fun i j row x hr hx => ⟨_, hc i j row x hr hx, hv i j row x hr hx⟩⟩
structure Step (own own' : Nat -> Prop) (w w' : World) : Prop where
 keep : ∀ β, β < w.heap.size -> ¬ own β -> w'.heap[β]? = w.heap[β]? /\ ¬ own' β
 size : w.heap.size <= w'.heap.size
 shape : ∀ (β : Nat) arr T, w.heap[β]? = some (Obj.cells arr T (0, 0)) -> ∃ arr', w'.heap[β]? = some (Obj.cells arr' T (0, 0)) /\ arr'.size = arr.size
 os : w'.os = w.os
 tape : w'.tape = w.tape
 output : w'.output = w.output
theorem Step.refl (own : Nat -> Prop) (w : World) : Step own own w w :=
 ⟨fun _ _ h => ⟨rfl, h⟩, Nat.le_refl _, fun _ arr _ h => ⟨arr, h, rfl⟩, rfl, rfl, rfl⟩
theorem Step.trans {o1 o2 o3 : Nat -> Prop} {a b c : World} (h : Step o1 o2 a b) (k : Step o2 o3 b c) : Step o1 o3 a c where
 keep := fun β hβ ho => by
   obtain ⟨h1, h2⟩ := h.keep β hβ ho
   obtain ⟨k1, k2⟩ := k.keep β (Nat.lt_of_lt_of_le hβ h.size) h2
   exact ⟨k1.trans h1, k2⟩
 size := Nat.le_trans h.size k.size
 shape := fun β arr T ha => by
   obtain ⟨x, hx, hs⟩ := h.shape β arr T ha
   obtain ⟨y, hy, hs'⟩ := k.shape β x T hx
   exact ⟨y, hy, hs'.trans hs⟩
 os := k.os.trans h.os
 tape := k.tape.trans h.tape
 output := k.output.trans h.output
theorem cell_of_block {w w' : World} {a : Addr} (h : w'.heap[a.block]? = w.heap[a.block]?) : w'.cell? a = w.cell? a := by
 simp only [World.cell?, h]
theorem VRp.mono {own own' : Nat -> Prop} {w w' : World} (st : Step own own' w w') {x : PV} {v : Value} (h : VRp own w x v) : VRp own' w' x v := by
 induction h with
 | int => exact .int ..
 | bool => exact .bool ..
 | str => exact .str ..
 | nilf => exact .nilf
 | nilsl => exact .nilsl
 | nilif => exact .nilif
 | ifc => exact .ifc ..
 | lst0 => exact .lst0 ..
 | lst k rows β o n c cell hn hcap hβ hown hc hv ih =>
   refine .lst k rows β o n c cell hn hcap (Nat.lt_of_lt_of_le hβ st.size) (st.keep β hβ hown).2 (fun i j row x hr hx => ?_) ih
   rw [cell_of_block (w := w) (by exact (st.keep β hβ hown).1)]
   exact hc i j row x hr hx
 | ptr row β o cell hβ hown hc hv ih =>
   refine .ptr row β o cell (Nat.lt_of_lt_of_le hβ st.size) (st.keep β hβ hown).2 (fun j x hx => ?_) ih
   rw [cell_of_block (w := w) (by exact (st.keep β hβ hown).1)]
   exact hc j x hx
 | full k rows β o n cell hn hβ hown hc hv ih =>
   refine .full k rows β o n cell hn (Nat.lt_of_lt_of_le hβ st.size) (st.keep β hβ hown).2 (fun i j row x hr hx => ?_) ih
   rw [cell_of_block (w := w) (by exact (st.keep β hβ hown).1)]
   exact hc i j row x hr hx
theorem Jbq.mono {own own' : Nat -> Prop} {w w' : World} (st : Step own own' w w') {k rows β o} (hβ : β < w.heap.size) (hown : ¬ own β)
   (h : Jbq own w k rows β o) : Jbq own' w' k rows β o := fun i j row x hr hx => by
 obtain ⟨v, hv, hx⟩ := h i j row x hr hx
 exact ⟨v, (cell_of_block (by exact (st.keep β hβ hown).1)).trans hv, hx.mono st⟩
structure GlobAt (own : Nat -> Prop) (w : World) (k : Nat) (rows : List (List PV)) (g : Nat) : Prop where
 data : Jbq own w k rows g 0
 whole : ∃ arr T fz, w.heap[g]? = some (Obj.cells arr T fz) /\ arr.size = rows.length * k
theorem GlobAt.mono {own own' : Nat -> Prop} {w w' : World} (st : Step own own' w w') {k rows g} (hβ : g < w.heap.size) (hown : ¬ own g) (h : GlobAt own w k rows g) : GlobAt own' w' k rows g :=
 ⟨h.data.mono st hβ hown, let ⟨arr, T, fz, h1, h2⟩ := h.whole; ⟨arr, T, fz, (st.keep g hβ hown).1.trans h1, h2⟩⟩
inductive VQ (own : Nat -> Prop) (w : World) : AV -> Value -> Prop
 | p (x v) (h : VRp own w x v) : VQ own w (.p x) v
 | agg (cs : List AV) (vs : List Value) (hl : vs.length = cs.length) (h : ∀ (i : Nat) c v, cs[i]? = some c -> vs[i]? = some v -> VQ own w c v) : VQ own w (.agg cs) (.agg ⟨vs⟩)
theorem VQ.mono {own own' : Nat -> Prop} {w w' : World} (st : Step own own' w w') {x : AV} {v : Value} (h : VQ own w x v) : VQ own' w' x v := by
 induction h with
 | p x v h => exact .p x v (h.mono st)
 | agg cs vs hl h ih => exact .agg cs vs hl ih
def Jni (ms : List MapEntry) (clock : Nat) : Prop := (ms.map (·.born)).Nodup /\ ∀ m ∈ ms, m.born < clock
def Jcb (ms : List MapEntry) (clock : Nat) : Prop := ms.map (·.born) = List.range ms.length /\ clock = ms.length
theorem Jcb.ok {ms : List MapEntry} {clock : Nat} (h : Jcb ms clock) : Jni ms clock := by
 refine ⟨by rw [h.1]; exact List.nodup_range, fun m hm => ?_⟩
 have : m.born ∈ ms.map (·.born) := List.mem_map_of_mem hm
 rw [h.1, List.mem_range] at this
 rw [h.2]; exact this
structure PMapAt (own : Nat -> Prop) (w : World) (ks vs : List AV) (r : Nat) (mes : Array MapEntry) (clock : Nat) (ps : List MapEntry) : Prop where
 at_ : w.heap[r]? = some (Obj.map mes clock)
 free : ¬ own r
 born : Jni mes.toList clock
 perm : ps.Perm mes.toList
 nd : ks.Nodup
 kl : ks.length = ps.length
 vl : vs.length = ps.length
 key : ∀ (i : Nat) k m, ks[i]? = some k -> ps[i]? = some m -> VQ own w k m.key
 val : ∀ (i : Nat) v m, vs[i]? = some v -> ps[i]? = some m -> VQ own w v m.val
theorem PMapAt.mono {own own' : Nat -> Prop} {w w' : World} (st : Step own own' w w') {ks vs r mes clock ps} (h : PMapAt own w ks vs r mes clock ps) : PMapAt own' w' ks vs r mes clock ps := by
 have hr := (Array.getElem?_eq_some_iff.1 h.at_).1
 obtain ⟨h1, h2⟩ := st.keep r hr h.free
 exact ⟨h1.trans h.at_, h2, h.born, h.perm, h.nd, h.kl, h.vl, fun i k m hk hm => (h.key i k m hk hm).mono st, fun i k m hk hm => (h.val i k m hk hm).mono st⟩
inductive VR (φ : Places) (own : Nat -> Prop) (w : World) : AV -> Value -> Prop
 | any (v) : VR φ own w .any v
 | p (x v) (h : VRp own w x v) : VR φ own w (.p x) v
 | agg (cs : List AV) (vs : List Value) (hl : vs.length = cs.length) (h : ∀ (i : Nat) c v, cs[i]? = some c -> vs[i]? = some v -> VR φ own w c v) : VR φ own w (.agg cs) (.agg ⟨vs⟩)
 | tup (cs : List AV) (vs : List Value) (hl : vs.length = cs.length) (h : ∀ (i : Nat) c v, cs[i]? = some c -> vs[i]? = some v -> VR φ own w c v) : VR φ own w (.tup cs) (.tuple ⟨vs⟩)
 | nils (a) : VR φ own w .nils (.slice a 0 0)
 | ref (b k i n c β δ cap) (hφ : φ b = some (β, δ)) (hc : ∀ c', c = some c' -> cap = c') (hn : n <= cap)
     (room : ∃ arr T, w.heap[β]? = some (Obj.cells arr T (0, 0)) /\ δ + (i + cap) * k <= arr.size) :
     VR φ own w (.ref b k i n c) (.slice (some ⟨β, δ + i * k, none⟩) n cap)
 | ptr (b k i j β δ) (hφ : φ b = some (β, δ)) : VR φ own w (.ptr b k i j) (.pointer (some ⟨β, δ + i * k + j, none⟩))
 | ubool (b) : VR φ own w .ubool (.bool b)
 | acc0 (b k a) : VR φ own w (.acc b k 0) (.slice a 0 0)
 | acc (b k n β δ cap) (hφ : φ b = some (β, δ)) (h0 : 0 < n) (hn : n <= cap)
     (room : ∃ arr T, w.heap[β]? = some (Obj.cells arr T (0, 0)) /\ δ + cap * k <= arr.size) :
     VR φ own w (.acc b k n) (.slice (some ⟨β, δ, none⟩) n cap)
 | iptr (k rows i j β o) (hβ : β < w.heap.size) (hown : ¬ own β) (h : Jbq own w k rows β o) : VR φ own w (.iptr k rows i j) (.pointer (some ⟨β, o + i * k + j, none⟩))
 | nilp : VR φ own w .nilp (.pointer none)
 | map (b r δ) (hφ : φ b = some (r, δ)) : VR φ own w (.map b) (.map (some r))
 | pmap (ks vs r mes clock ps) (h : PMapAt own w ks vs r mes clock ps) : VR φ own w (.pmap ks vs) (.map (some r))
 | nilm : VR φ own w .nilm (.map none)
 | fn (f) (cs : List AV) (vs : List Value) (hf : Jdd f = true) (hl : vs.length = cs.length) (h : ∀ (i : Nat) c v, cs[i]? = some c -> vs[i]? = some v -> VR φ own w c v) : VR φ own w (.fn f cs) (.func f #[] ⟨vs⟩)
 | bfn (t p n b) (cs : List AV) (vs : List Value) (hl : vs.length = cs.length) (h : ∀ (i : Nat) c v, cs[i]? = some c -> vs[i]? = some v -> VR φ own w c v) : VR φ own w (.fn (.via t p n b) cs) (.func (.func n) ⟨vs⟩ #[])
def Places.le (φ φ' : Places) : Prop := ∀ b p, φ b = some p -> φ' b = some p
theorem VR.mono {φ φ' : Places} {own own' : Nat -> Prop} {w w' : World} (hφ : φ.le φ') (st : Step own own' w w') {x : AV} {v : Value}
   (h : VR φ own w x v) : VR φ' own' w' x v := by
 induction h with
 | any v => exact .any v
 | p x v h => exact .p x v (h.mono st)
 | agg cs vs hl h ih => exact .agg cs vs hl ih
 | tup cs vs hl h ih => exact .tup cs vs hl ih
 | nils a => exact .nils a
 | ref b k i n c β δ cap hb hc hn room =>
   obtain ⟨arr, T, h1, h2⟩ := room
   obtain ⟨arr', h1', hs⟩ := st.shape β arr T h1
   exact .ref b k i n c β δ cap (hφ _ _ hb) hc hn ⟨arr', T, h1', hs ▸ h2⟩
 | ptr b k i j β δ hb => exact .ptr b k i j β δ (hφ _ _ hb)
 | ubool b => exact .ubool b
 | acc0 b k a => exact .acc0 b k a
 | acc b k n β δ cap hb h0 hn room =>
   obtain ⟨arr, T, h1, h2⟩ := room
   obtain ⟨arr', h1', hs⟩ := st.shape β arr T h1
   exact .acc b k n β δ cap (hφ _ _ hb) h0 hn ⟨arr', T, h1', hs ▸ h2⟩
 | iptr k rows i j β o hβ hown h => exact .iptr k rows i j β o (Nat.lt_of_lt_of_le hβ st.size) (st.keep β hβ hown).2 (h.mono st hβ hown)
 | nilp => exact .nilp
 | map b r δ hb => exact .map b r δ (hφ _ _ hb)
 | pmap ks vs r mes clock ps h => exact .pmap ks vs r mes clock ps (h.mono st)
 | nilm => exact .nilm
 | fn f cs vs hf hl h ih => exact .fn f cs vs hf hl ih
 | bfn t p n b cs vs hl h ih => exact .bfn t p n b cs vs hl ih
def ownS (φ : Places) (s : Store) (β : Nat) : Prop := ∃ b x p, get s b = some x /\ φ b = some p /\ p.1 = β
def Jau (φ : Places) (own : Nat -> Prop) (w : World) (k : Nat) (rows : List (List AV)) (arr : Array Value) (δ : Nat) : Prop :=
 ∀ (i j : Nat) row x, rows[i]? = some row -> row[j]? = some x -> j < k /\ ∃ v, arr[δ + i * k + j]? = some v /\ VR φ own w x v
def Jcl (φ : Places) (own : Nat -> Prop) (w : World) (es : List (AV × AV)) (ms : List MapEntry) : Prop :=
 ms.length = es.length /\ ∀ (i : Nat) e m, es[i]? = some e -> ms[i]? = some m -> VR φ own w e.1 m.key /\ VR φ own w e.2 m.val
def Ja3 (i : LoopI) (tmps : Array Value) (D : Nat) (j : Option Code) : Loop :=
 { state := if j.isNone then .ready else .done, pending := j, fn := i.fn, tmps := tmps, params := i.ps, assign := i.asg, body := i.body, defers := D }
def BR (φ : Places) (own : Nat -> Prop) (w : World) (b : Nat) : ABlk -> Prop
 | .cells k rows => ∃ β δ arr T, φ b = some (β, δ) /\ w.heap[β]? = some (Obj.cells arr T (0, 0)) /\ Jau φ own w k rows arr δ
 | .map es => ∃ r mes clock, φ b = some (r, 0) /\ w.heap[r]? = some (Obj.map mes clock) /\ Jcl φ own w es mes.toList /\ Jcb mes.toList clock
 | .iter ks vs seen => ∃ r mi mes clock sn ps, φ b = some (r, 0) /\ w.heap[r]? = some (Obj.mapIter (some mi) clock sn clock) /\ PMapAt own w ks vs mi mes clock ps /\
     (∀ i ∈ seen, i < ps.length) /\ sn.toList = seen.map fun i => ((ps[i]?).map (·.born)).getD 0
 | .loop i t j => ∃ tmps D, φ b = some (i.l, 0) /\ w.heap[i.l]? = some (Obj.loop (Ja3 i tmps D j)) /\ tmps.size = i.N /\ ∀ d, VR φ own w (slot t d) (tmps.getD d undef)
theorem Jau.mono {φ φ' : Places} {own own' : Nat -> Prop} {w w' : World} (hφ : φ.le φ') (st : Step own own' w w') {k rows arr δ}
   (h : Jau φ own w k rows arr δ) : Jau φ' own' w' k rows arr δ := fun i j row x hr hx => by
 obtain ⟨hj, v, hv, hx⟩ := h i j row x hr hx
 exact ⟨hj, v, hv, hx.mono hφ st⟩
theorem Jcl.mono {φ φ' : Places} {own own' : Nat -> Prop} {w w' : World} (hφ : φ.le φ') (st : Step own own' w w') {es ms}
   (h : Jcl φ own w es ms) : Jcl φ' own' w' es ms :=
 ⟨h.1, fun i e m he hm => ⟨(h.2 i e m he hm).1.mono hφ st, (h.2 i e m he hm).2.mono hφ st⟩⟩
abbrev Jac := List (Nat × Nat × List (List PV))
structure SR (G : Jac) (F : Nat -> Prop) (φ : Places) (s : Store) (w : World) : Prop where
 blk : ∀ b x, get s b = some x -> BR φ (fun β => F β \/ ownS φ s β) w b x
 inj : ∀ b b' x x' p p', get s b = some x -> get s b' = some x' -> φ b = some p -> φ b' = some p' -> p.1 = p'.1 -> b = b'
 disj : ∀ b x p, get s b = some x -> φ b = some p -> ¬ F p.1
 fsize : ∀ β, F β -> β < w.heap.size
 glob : ∀ g k rows, (g, k, rows) ∈ G -> g < w.heap.size /\ ¬ (F g \/ ownS φ s g) /\ GlobAt (fun β => F β \/ ownS φ s β) w k rows g
abbrev ownF (F : Nat -> Prop) (φ : Places) (s : Store) : Nat -> Prop := fun β => F β \/ ownS φ s β
theorem BR.place {φ own w b x} (h : BR φ own w b x) : ∃ p, φ b = some p /\ p.1 < w.heap.size := by
 cases x with
 | cells k rows =>
   obtain ⟨β, δ, arr, T, h1, h2, _⟩ := h
   exact ⟨_, h1, (Array.getElem?_eq_some_iff.1 h2).1⟩
 | map es =>
   obtain ⟨r, mes, cl, h1, h2, _⟩ := h
   exact ⟨_, h1, (Array.getElem?_eq_some_iff.1 h2).1⟩
 | iter ks vs seen =>
   obtain ⟨r, mi, mes, cl, sn, ps, h1, h2, _⟩ := h
   exact ⟨_, h1, (Array.getElem?_eq_some_iff.1 h2).1⟩
 | loop i t j =>
   obtain ⟨tmps, D, h1, h2, _⟩ := h
   exact ⟨_, h1, (Array.getElem?_eq_some_iff.1 h2).1⟩
theorem SR.osize {G F φ s w} (h : SR G F φ s w) : ∀ β, ownF F φ s β -> β < w.heap.size := by
 rintro β (hF | ⟨b, x, p, h1, h2, rfl⟩)
 . exact h.fsize β hF
 . obtain ⟨p', h3, h4⟩ := (h.blk b x h1).place
   rw [h2] at h3; cases h3; exact h4
end Go.Am
namespace Go.Am
open Go
inductive TD where
 | int (k : IntKind)
 | bool
 | str
 | slice (e : Nat)
 | array (n e : Nat)
 | struct (fs : List (Nat × Nat × Bool))      -- offset, size, aggregate?
 | map (k e : Nat)
 | arrp (n e : Nat)
 | other
structure TyI where
 agg : Bool
 size : Nat
 bytes : Nat
 zero : List AV
 td : TD
def cvCell : Value -> AV
 | .int k n => .p (.int k n)
 | .bool b => .p (.bool b)
 | .string s => .p (.str s.data.toList)
 | .slice none n c => if n = 0 /\ c = 0 then .nils else .any
 | .pointer none => .nilp
 | .map none => .nilm
 | .nilFunc => .p .nilf
 | .nilIface => .p .nilif
 | .func f a b => if a.size = 0 /\ b.size = 0 /\ Jdd f = true then .fn f [] else .any
 | _ => .any
def cv : Value -> AV
 | .agg cs => .agg (cs.toList.map cvCell)
 | v => cvCell v
def Jfs : TypeDesc -> Bool
 | .struct _ | .array _ _ => true
 | _ => false
def Jhi : Option TypeDesc -> TD
 | some (.array n e) => .arrp n e
 | _ => .other
theorem Jss (o : Option TypeDesc) : (∃ n e, o = some (.array n e) /\ Jhi o = .arrp n e) \/ Jhi o = .other := by
 unfold Jhi
 split
 . exact .inl ⟨_, _, rfl, rfl⟩
 . exact .inr rfl
def tdOf (P : Program) : TypeDesc -> TD
 | .int k => .int k
 | .bool => .bool
 | .string => .str
 | .slice e => .slice e
 | .array n e => .array n e
 | .struct fs => .struct (fs.toList.map fun f => (f.offset, if (P.underlying f.type).isSome then P.cellsOf f.type else 0, ((P.underlying f.type).map Jfs).getD false))
 | .map k e => .map k e
 | .pointer a => Jhi (P.underlying a)
 | _ => .other
def tyOf (P : Program) (t : Nat) : Option TyI :=
 match P.info? t, P.underlying t with
 | some i, some d =>
   match i.zero with
   | some z => some { agg := Jfs d, size := i.size, bytes := i.bytes, zero := (z.cells.toList.map cvCell), td := tdOf P d }
   | none => none
 | _, _ => none
def AV.cells : AV -> List AV
 | .agg cs => cs
 | v => [v]
def AV.oneCell : AV -> Bool
 | .agg _ | .tup _ | .any => false
 | _ => true
def AV.cellsOk : AV -> Bool
 | .tup _ | .any => false
 | _ => true
abbrev KT := AV -> List Nat -> Store -> Nat -> Prop
def Jad (P : Program) (t : Nat) (f : TyI -> Prop) : Prop := match tyOf P t with | some y => f y | none => False
def Jaj {α : Type} (o : Option α) (f : α -> Prop) : Prop := match o with | some x => f x | none => False
def Jbx (o : Option ABlk) (k : Nat) (f : List (List AV) -> Prop) : Prop := match o with | some (.cells k' rows) => k' = k /\ f rows | _ => False
def Jdk (o : Option ABlk) (f : List (AV × AV) -> Prop) : Prop := match o with | some (.map es) => f es | _ => False
def vif (b : Bool) (A B : Prop) : Prop := (b = true -> A) /\ (b = false -> B)
def vdec (c : Prop) (A B : Prop) : Prop := (c -> A) /\ (¬ c -> B)
theorem Ja4 {P : Program} {t : Nat} {f : TyI -> Prop} : Jad P t f ↔ ∃ y, tyOf P t = some y /\ f y := by
 unfold Jad; cases tyOf P t <;> simp
theorem Jaz {α : Type} {o : Option α} {f : α -> Prop} : Jaj o f ↔ ∃ y, o = some y /\ f y := by
 unfold Jaj; cases o <;> simp
theorem Jcj {o : Option ABlk} {k : Nat} {f : List (List AV) -> Prop} : Jbx o k f ↔ ∃ rows, o = some (.cells k rows) /\ f rows := by
 unfold Jbx
 cases o with
 | none => simp
 | some b =>
   cases b with
   | cells k' rows =>
     constructor
     . rintro ⟨rfl, h⟩; exact ⟨rows, rfl, h⟩
     . rintro ⟨rows', h1, h2⟩; cases h1; exact ⟨rfl, h2⟩
   | map es => simp
   | iter ks vs seen => simp
   | loop i t j => simp
theorem Jfb {o : Option ABlk} {f : List (AV × AV) -> Prop} : Jdk o f ↔ ∃ es, o = some (.map es) /\ f es := by
 unfold Jdk
 cases o with
 | none => simp
 | some b => cases b <;> simp
def Jd6 (y : TyI) (x : AV) (s : Store) (nx : Nat) (K : KT) : Prop :=
 match x with
 | .ptr b k i j => Jbx (get s b) k fun rows => Jaj rows[i]? fun row =>
     (if y.agg then j + y.size <= row.length /\ K (.agg ((row.drop j).take y.size)) [b] [] nx else Jaj row[j]? fun x => K x [b] [] nx)
 | .iptr _ rows i j => Jaj rows[i]? fun row =>
     (if y.agg then j + y.size <= row.length /\ K (.agg (((row.drop j).take y.size).map AV.p)) [] [] nx else Jaj row[j]? fun x => K (.p x) [] [] nx)
 | _ => False
def lay {α : Type} : List α -> Nat -> List α -> List α
 | xs, _, [] => xs
 | xs, j, y :: ys => lay (xs.set j y) (j + 1) ys
def Jjq (y : TyI) (x v : AV) (s : Store) (nx : Nat) (K : KT) : Prop :=
 match x with
 | .ptr b k i j => Jbx (get s b) k fun rows => Jaj rows[i]? fun row =>
     v.cells.length = y.size /\ 0 < y.size /\ j + y.size <= row.length /\ v.cells.all AV.oneCell = true /\ K .any [b] [(b, some (.cells k (rows.set i (lay row j v.cells))))] nx
 | _ => False
def Jjm (td : TD) (x : AV) (f : Nat) (nx : Nat) (K : KT) : Prop :=
 match td with
 | .struct fs => Jaj fs[f]? fun p => p.2.1 ≠ 0 /\
   (match x with
   | .ptr b k i j => K (.ptr b k i (j + p.1)) [] [] nx
   | .iptr k rows i j => K (.iptr k rows i (j + p.1)) [] [] nx
   | _ => False)
 | _ => False
def Jbw (agg : Bool) (size : Nat) (cs : List AV) (off : Nat) (nx : Nat) (K : KT) : Prop :=
 if agg then off + size <= cs.length /\ K (.agg ((cs.drop off).take size)) [] [] nx else Jaj cs[off]? fun x => K x [] [] nx
def Jfa (td : TD) (esize : Nat) (x ix : AV) (nx : Nat) (K : KT) : Prop :=
 match td, ix, x with
 | .slice _, .p (.int _ n), .p (.lst k rows) => 0 <= n /\ n < rows.length /\ k = esize /\ K (.iptr k rows n.toNat 0) [] [] nx
 | .slice _, .p (.int _ n), .ref b k i m _ => 0 <= n /\ n < m /\ k = esize /\ K (.ptr b k (i + n.toNat) 0) [] [] nx
 | .slice _, .p (.int _ n), .acc b k m => 0 <= n /\ n < m /\ k = esize /\ K (.ptr b k n.toNat 0) [] [] nx
 | .array len _, .p (.int _ n), .ptr b k i j => 0 <= n /\ n < len /\ K (.ptr b k i (j + n.toNat * esize)) [] [] nx
 | .array len _, .p (.int _ n), .iptr k rows i j => 0 <= n /\ n < len /\ K (.iptr k rows i (j + n.toNat * esize)) [] [] nx
 | _, _, _ => False
def Jcg (place : Nat -> Option (Nat × Nat)) : List AV -> List (Nat × AV) -> Option (List AV)
 | cs, [] => some cs
 | cs, (i, v) :: rest =>
   match place i with
   | none => none
   | some (off, size) => if v.cells.length = size /\ v.cellsOk = true /\ off + size <= cs.length then Jcg place (lay cs off v.cells) rest else none
def Jeh (fs : List (Nat × Nat × Bool)) (i : Nat) : Option (Nat × Nat) := (fs[i]?).map fun p => (p.1, p.2.1)
def Jeb (size : Nat) (i : Nat) : Option (Nat × Nat) := some (i * size, size)
def Jdf (k : Nat) : List (List AV) -> List (Nat × AV) -> Option (List (List AV))
 | rows, [] => some rows
 | rows, (i, v) :: rest => if v.cells.length = k /\ v.cellsOk = true /\ i < rows.length then Jdf k (rows.set i v.cells) rest else none
def andN (a b : Nat) : Nat := a ^^^ (a &&& b)
def shlN (a b : Nat) : Nat := a * 2 ^ b
def bitR (k : IntKind) (a b : Int) : Prop := 0 <= a /\ 0 <= b /\ k.wrap a = a /\ k.wrap b = b
def Jcp (op : BinOp) (k : IntKind) (a b : Int) (nx : Nat) (K : KT) : Prop :=
 match op with
 | .add => k.wrap (a + b) = a + b /\ K (.p (.int k (a + b))) [] [] nx
 | .sub => k.wrap (a - b) = a - b /\ K (.p (.int k (a - b))) [] [] nx
 | .mul => k.wrap (a * b) = a * b /\ K (.p (.int k (a * b))) [] [] nx
 | .rem => b ≠ 0 /\ K (.p (.int k (a.tmod b))) [] [] nx
 | .quo => (b ≠ 0 /\ k.wrap (a.tdiv b) = a.tdiv b) /\ K (.p (.int k (a.tdiv b))) [] [] nx
 | .and => bitR k a b /\ K (.p (.int k (a.toNat &&& b.toNat : Nat))) [] [] nx
 | .or => bitR k a b /\ K (.p (.int k (a.toNat ||| b.toNat : Nat))) [] [] nx
 | .xor => bitR k a b /\ K (.p (.int k (a.toNat ^^^ b.toNat : Nat))) [] [] nx
 | .andNot => bitR k a b /\ K (.p (.int k (andN a.toNat b.toNat : Nat))) [] [] nx
 | .eql => K (.p (.bool (decide (a = b)))) [] [] nx
 | .neq => K (.p (.bool (!decide (a = b)))) [] [] nx
 | .lss => K (.p (.bool (decide (a < b)))) [] [] nx
 | .leq => K (.p (.bool (decide (a <= b)))) [] [] nx
 | .gtr => K (.p (.bool (decide (b < a)))) [] [] nx
 | .geq => K (.p (.bool (decide (b <= a)))) [] [] nx
 | _ => False
def Jm9 (op : BinOp) (a b : List UInt8) (nx : Nat) (K : KT) : Prop :=
 match op with
 | .add => ((a.length + b.length : Nat) : Int) <= 9223372036854775807 /\ K (.p (.str (a ++ b))) [] [] nx
 | .eql => K (.p (.bool (decide (a = b)))) [] [] nx
 | .neq => K (.p (.bool (!decide (a = b)))) [] [] nx
 | .lss => K (.p (.bool (Op.bytesLess a b))) [] [] nx
 | .leq => K (.p (.bool (Op.bytesLess a b || decide (a = b)))) [] [] nx
 | .gtr => K (.p (.bool (!(Op.bytesLess a b || decide (a = b))))) [] [] nx
 | .geq => K (.p (.bool (!Op.bytesLess a b))) [] [] nx
 | _ => False
def Jnk (P : Program) (t : Nat) (cs ds : List AV) (c : Bool) : Prop :=
 ∀ φ own w v v', VR φ own w (.agg cs) v -> VR φ own w (.agg ds) v' -> ∀ (x y : Operand) (op : BinOp), op = .eql \/ op = .neq ->
   (do eqGuard op t x y v v'; Op.equal t v v' : Sem Bool).run P w = .ok c w
def Jbu (op : BinOp) (c : Bool) (nx : Nat) (K : KT) : Prop :=
 match op with
 | .eql => K (.p (.bool c)) [] [] nx
 | .neq => K (.p (.bool (!c))) [] [] nx
 | _ => False
def Jf2 (agg : Bool) (size : Nat) (cs : List AV) (off : Nat) : Option AV := if agg = true then (if off + size <= cs.length then some (.agg ((cs.drop off).take size)) else none) else cs[off]?
def eqF (P : Program) (eq : Nat -> AV -> AV -> Option Bool) (xs ys : List AV) : List Field -> Option Bool
 | [] => some true
 | f :: fs => if f.name = "_" then eqF P eq xs ys fs else (tyOf P f.type).bind fun y => (Jf2 y.agg y.size xs f.offset).bind fun a => (Jf2 y.agg y.size ys f.offset).bind fun b =>
     (eq f.type a b).bind fun c => (eqF P eq xs ys fs).map (c && ·)
def eqI (eq : AV -> AV -> Option Bool) (y : TyI) (xs ys : List AV) : List Nat -> Option Bool
 | [] => some true
 | i :: is => (Jf2 y.agg y.size xs (i * y.size)).bind fun a => (Jf2 y.agg y.size ys (i * y.size)).bind fun b => (eq a b).bind fun c => (eqI eq y xs ys is).map (c && ·)
def eqA (P : Program) : Nat -> Nat -> AV -> AV -> Option Bool
 | 0, _, _, _ => none
 | d + 1, t, x, y => match P.underlying t, x, y with
   | some (.int _), .p (.int k a), .p (.int k' b) => if k = k' then some (decide (a = b)) else none
   | some .bool, .p (.bool a), .p (.bool b) => some (a == b)
   | some .string, .p (.str a), .p (.str b) => some (decide (a = b))
   | some (.struct fs), .agg xs, .agg ys => if P.stoodInHeld t = true then none else eqF P (eqA P d) xs ys fs.toList
   | some (.array n e), .agg xs, .agg ys => (tyOf P e).bind fun y => eqI (eqA P d e) y xs ys (List.range n)
   | _, _, _ => none
def VEq (P : Program) (t : Nat) (cs ds : List AV) (f : Bool -> Prop) : Prop := P.eqGuardType P.depth t = false /\ Jaj (eqA P 8 t (.agg cs) (.agg ds)) f
def unpC : AV -> Option PV
 | .p x => some x
 | _ => none
def unpL : List AV -> Option (List PV)
 | [] => some []
 | x :: xs => (unpC x).bind fun y => (unpL xs).map (y :: ·)
def unpR : List (List AV) -> Option (List (List PV))
 | [] => some []
 | r :: rs => (unpL r).bind fun y => (unpR rs).map (y :: ·)
def Jim : Operand -> Bool
 | .const (.slice none 0 0) => true
 | _ => false
def vunk (op : BinOp) (nx : Nat) (K : KT) : Prop := match op with | .eql | .neq => K .ubool [] [] nx | _ => False
def vnil (op : BinOp) (x : AV) (nx : Nat) (K : KT) : Prop :=
 match x with
 | .p (.lst _ rows) => vdec (rows = []) (vunk op nx K) (Jbu op false nx K)
 | .ref .. => Jbu op false nx K
 | .acc _ _ n => vdec (n = 0) (vunk op nx K) (Jbu op false nx K)
 | .nils => vunk op nx K
 | _ => False
def Jin : Operand -> Bool
 | .const .nilIface => true
 | _ => false
def Jio (op : BinOp) (y : Operand) : Bool := match op, y with
 | .shl, .const (.int _ 32) => true
 | _, _ => false
def m64 (a : Nat) : Nat := a % 18446744073709551616
def Jjp (x y : AV) (nx : Nat) (K : KT) : Prop := match x, y with
 | .p (.int .u64 a), .p (.int _ b) => (0 <= a /\ b = 32) /\ K (.p (.int .u64 (m64 (shlN a.toNat 32) : Nat))) [] [] nx
 | _, _ => False
def Jil (P : Program) (t : Nat) : Bool := match P.underlying t with | some (.interface ..) => true | _ => false
def Jjo (op : BinOp) (x : AV) (nx : Nat) (K : KT) : Prop :=
 match x with
 | .p .nilif => Jbu op true nx K
 | .p .ifc => Jbu op false nx K
 | _ => False
def Jik (P : Program) (t : Nat) : Bool := match P.underlying t with | some (.func ..) => true | _ => false
def vbin (P : Program) (op : BinOp) (t : Nat) (x y : AV) (nx : Nat) (K : KT) : Prop :=
 match x, y with
 | .p (.int k a), .p (.int k' b) => match op with
   | .shr => 0 <= b /\ b <= k.bits /\ K (.p (.int k (a.fdiv (2 ^ b.toNat)))) [] [] nx
   | .shl => (0 <= a /\ 0 <= b /\ b <= k.bits /\ k.wrap (shlN a.toNat b.toNat : Nat) = (shlN a.toNat b.toNat : Nat)) /\ K (.p (.int k (shlN a.toNat b.toNat : Nat))) [] [] nx
   | _ => k = k' /\ Jcp op k a b nx K
 | .p (.str a), .p (.str b) => Jm9 op a b nx K
 | .p (.bool a), .p (.bool b) => Jad P t fun y => (match y.td with | .bool => True | _ => False) /\ Jbu op (a == b) nx K
 | .agg cs, .agg ds => VEq P t cs ds fun c => Jbu op c nx K
 | .fn _ _, .p .nilf => Jik P t = true /\ Jbu op false nx K
 | .p .nilf, .p .nilf => Jik P t = true /\ Jbu op true nx K
 | _, _ => False
def Jba (m : Nat) : Option AV -> Nat -> Option Nat
 | none, d => some d
 | some (.p (.int _ n)), _ => if 0 <= n /\ n <= m then some n.toNat else none
 | some _, _ => none
def Jgl (td : TD) (x : AV) (lo hi mx : Option AV) (nx : Nat) (K : KT) : Prop :=
 match td, x with
 | .str, .p (.str s) => mx = none /\ Jaj (Jba s.length hi s.length) fun h => Jaj (Jba h lo 0) fun l => K (.p (.str ((s.drop l).take (h - l)))) [] [] nx
 | .slice _, .p (.lst k rows) => Jaj (Jba rows.length mx rows.length) fun m => Jaj (Jba m hi rows.length) fun h => Jaj (Jba h lo 0) fun l => (mx = none \/ hi ≠ none) /\
     h <= rows.length /\ vdec (mx ≠ none /\ m = l) (K .nils [] [] nx) (vdec (mx ≠ none /\ m = h) (K (.p (.full k ((rows.drop l).take (h - l)))) [] [] nx) (K (.p (.lst k ((rows.drop l).take (h - l)))) [] [] nx))
 | .slice _, .nils => Jaj (Jba 0 mx 0) fun m => Jaj (Jba m hi 0) fun h => Jaj (Jba h lo 0) fun _ => (mx = none \/ hi ≠ none) /\ K .nils [] [] nx
 | .slice _, .ref b k i n c => Jaj (Jba n mx n) fun m => Jaj (Jba m hi n) fun h => Jaj (Jba h lo 0) fun l => (mx = none \/ hi ≠ none) /\ h <= n /\ vdec (l ≠ 0 /\ l = h) (K (.p (.lst k [])) [] [] nx)
     (K (.ref b k (i + l) (h - l) (if mx = none then c.map (· - l) else some (m - l))) [] [] nx)
 | .slice _, .acc b k n => Jaj (Jba n mx n) fun m => Jaj (Jba m hi n) fun h => lo = none /\ mx ≠ none /\ hi ≠ none /\ m = n /\ h = n /\ vdec (n = 0) (K .nils [] [] nx) (K (.ref b k 0 n (some n)) [] [] nx)
 | _, _ => False
def Je5 (o : Option ABlk) (b k n : Nat) : Option (List (List AV) × List Nat) := match o with
 | some (.cells k2 rows) => if k2 = k /\ rows ≠ [] /\ rows.length = n /\ (rows.all fun r => r.all AV.oneCell) = true then some (rows, [b]) else none
 | none => if n = 0 then some ([], [b]) else none
 | _ => none
def Jca (s : Store) : AV -> Option (List (List AV) × List Nat)
 | .acc b k n => Je5 (get s b) b k n
 | .nils => some ([], [])
 | .p (.lst _ rows) => some (rows.map (·.map AV.p), [])
 | .p (.str t) => some (t.map (fun b => [.p (.int .u8 b.toNat)]), [])
 | .ref b k i n _ => match get s b with
   | some (.cells k2 rows) => if k2 = k /\ i + n <= rows.length /\ (((rows.drop i).take n).all fun r => r.all AV.oneCell) = true then some ((rows.drop i).take n, [b]) else none
   | _ => none
 | _ => none
def srcK : AV -> Nat -> Nat
 | .p (.lst k _), _ => k
 | .ref _ k _ _ _, _ => k
 | .acc _ k _, _ => k
 | _, d => d
def Jc7 {α : Type} (rows : List α) (i : Nat) (new : List α) : List α := rows.take i ++ (new ++ rows.drop (i + new.length))
def Jhk (y : TyI) (x z : AV) (s : Store) (nx : Nat) (K : KT) : Prop :=
 Jaj (Jca s z) fun src => srcK z y.size = y.size /\ (∀ r ∈ src.1, r.length = y.size) /\ 0 < y.size /\ 0 < y.bytes /\ y.zero.length = y.size /\
 match x with
 | .nils => src.1.length * y.bytes <= 35184372088832 /\ vdec (src.1 = []) (K .nils src.2 [] nx)
     (K (.ref nx y.size 0 src.1.length none) src.2 [(nx, some (.cells y.size src.1))] (nx + 1))
 | .ref b k i n none => k = y.size /\ b ∉ src.2 /\ (n + src.1.length) * y.bytes <= 35184372088832 /\ Jbx (get s b) k fun rows => i + n <= rows.length /\ (∀ r ∈ rows, r.length = k) /\
     K (.ref nx k 0 (n + src.1.length) none) (b :: src.2) [(nx, some (.cells k ((rows.drop i).take n ++ src.1))), (b, none)] (nx + 1)
 | .ref b k i n (some c) => k = y.size /\ (n + src.1.length) * y.bytes <= 35184372088832 /\ Jbx (get s b) k fun rows => i + n <= rows.length /\ (∀ r ∈ rows, r.length = k) /\
     vdec (c < n + src.1.length) (K (.ref nx k 0 (n + src.1.length) none) (b :: src.2) [(nx, some (.cells k ((rows.drop i).take n ++ src.1)))] (nx + 1))
     (vdec (src.1 = []) (K (.ref b k i n (some c)) (b :: src.2) [] nx)
       (i + n + src.1.length <= rows.length /\ K (.ref b k i (n + src.1.length) (some c)) (b :: src.2) [(b, some (.cells k (Jc7 rows (i + n) src.1)))] nx))
 | .p (.full k rows) => k = y.size /\ src.1 ≠ [] /\ (∀ r ∈ rows, r.length = k) /\ (rows.length + src.1.length) * y.bytes <= 35184372088832 /\
   K (.ref nx k 0 (rows.length + src.1.length) none) src.2 [(nx, some (.cells k (rows.map (·.map AV.p) ++ src.1)))] (nx + 1)
 | _ => False
def accB (k : Nat) (rows : List (List AV)) : Option ABlk := if rows = [] then none else some (.cells k rows)
def Jeo (o : Option ABlk) (k : Nat) (f : List (List AV) -> Prop) : Prop := match o with
 | some (.cells k' rows) => k' = k /\ rows ≠ [] /\ f rows
 | none => f []
 | _ => False
def Js1 (y : TyI) (b k n : Nat) (z : AV) (s : Store) (nx : Nat) (K : KT) : Prop :=
 Jaj (Jca s z) fun src => srcK z y.size = y.size /\ (∀ r ∈ src.1, r.length = y.size) /\ 0 < y.size /\ 0 < y.bytes /\ y.zero.length = y.size /\ k = y.size /\ b < nx /\ b ∉ src.2 /\
 (n + src.1.length) * y.bytes <= 35184372088832 /\ Jeo (get s b) k fun rows => rows.length = n /\ (∀ r ∈ rows, r.length = k) /\
     K (.acc nx k (n + src.1.length)) (b :: src.2) [(nx, accB k (rows ++ src.1)), (b, none)] (nx + 1)
def vapp (y : TyI) (x z : AV) (s : Store) (nx : Nat) (K : KT) : Prop :=
 match x with
 | .acc b k n => Js1 y b k n z s nx K
 | _ => Jhk y x z s nx K
def vlen (x : AV) (s : Store) (nx : Nat) (K : KT) : Prop :=
 match x with
 | .p (.lst _ rows) => K (.p (.int .i64 rows.length)) [] [] nx
 | .p (.str t) => K (.p (.int .i64 t.length)) [] [] nx
 | .ref _ _ _ n _ => K (.p (.int .i64 n)) [] [] nx
 | .acc _ _ n => K (.p (.int .i64 n)) [] [] nx
 | .nils => K (.p (.int .i64 0)) [] [] nx
 | .nilm => K (.p (.int .i64 0)) [] [] nx
 | .map b => Jdk (get s b) fun es => K (.p (.int .i64 es.length)) [b] [] nx
 | _ => False
noncomputable def Jbb (es : List (AV × AV)) (x : AV) : Option AV := open Classical in (es.find? fun e => decide (e.1 = x)).map (·.2)
noncomputable def setA : List (AV × AV) -> AV -> AV -> List (AV × AV)
 | [], x, v => [(x, v)]
 | (k, u) :: es, x, v => open Classical in if k = x then (x, v) :: es else (k, u) :: setA es x v
structure KeyOk (P : Program) (k : TypeId) (Kp : AV -> Prop) : Prop where
 check : ∀ (φ : Places) (own : Nat -> Prop) (w : World) (em : Bool) (x : AV) (v : Value), Kp x -> VR φ own w x v -> (Instr.checkKey em 10000 k v).run P w = .ok () w
 find : ∀ (φ : Places) (own : Nat -> Prop) (w : World) (x : AV) (v : Value) (es : List (AV × AV)) (ms : List MapEntry), Kp x -> VR φ own w x v -> (∀ e ∈ es, Kp e.1) -> Jcl φ own w es ms ->
   ((Instr.findKey k v ms).run P w = .ok none w /\ ∀ e ∈ es, e.1 ≠ x) \/
   ∃ j e m, (Instr.findKey k v ms).run P w = .ok (some (j, m.val)) w /\ es[j]? = some e /\ ms[j]? = some m /\ e.1 = x /\ ∀ (i : Nat) e', i < j -> es[i]? = some e' -> e'.1 ≠ x
 stays : ∀ (φ : Places) (own : Nat -> Prop) (w : World) (x : AV) (v v' : Value), Kp x -> VR φ own w x v -> VR φ own w x v' -> (Instr.keyThatStays v v').run P w = .ok v' w
def zeroV (y : TyI) : AV := if y.agg then .agg y.zero else y.zero.headD .any
def Jd9 (P : Program) (t : Nat) : Option Bool := ((P.info? t).bind (·.zero)).map fun z => match z with | .agg _ => true | _ => false
def hit (ok : Bool) (z : AV) (r : Option AV) : AV := if ok then .tup [r.getD z, .p (.bool r.isSome)] else r.getD z
def Jdo (P : Program) (k : TypeId) (es : List (AV × AV)) (x : AV) : Prop := ∃ Kp, KeyOk P k Kp /\ Kp x /\ ∀ e ∈ es, Kp e.1
def Jjn (P : Program) (td : TD) (m x : AV) (ok : Bool) (s : Store) (nx : Nat) (K : KT) : Prop :=
 match td, m with
 | .map k e, .map b => Jad P e fun ye => Jdk (get s b) fun es => Jdo P k es x /\ Jd9 P e = some ye.agg /\ K (hit ok (zeroV ye) (Jbb es x)) [b] [] nx
 | .map k e, .pmap ks vs => Jad P e fun ye => Jdo P k (ks.zip vs) x /\ Jd9 P e = some ye.agg /\ K (hit ok (zeroV ye) (Jbb (ks.zip vs) x)) [] [] nx
 | _, _ => False
def Jhm (P : Program) (td : TD) (m x v : AV) (s : Store) (nx : Nat) (K : KT) : Prop :=
 match td, m with
 | .map k _, .map b => Jdk (get s b) fun es => Jdo P k es x /\ K .any [b] [(b, some (.map (setA es x v)))] nx
 | _, _ => False
noncomputable def idxA : List (AV × AV) -> AV -> Nat
 | [], _ => 0
 | (k, _) :: es, x => open Classical in if k = x then 0 else idxA es x + 1
noncomputable def entA (es : List (AV × AV)) (x z : AV) : List (AV × AV) := match Jbb es x with
 | some _ => es
 | none => es ++ [(x, z)]
def putE (es : List (AV × AV)) (n : Nat) (v : AV) : List (AV × AV) := es.modify n fun e => (e.1, v)
def Jm6 (P : Program) (td : TD) (m x : AV) (s : Store) (nx : Nat) (K : KT) : Prop :=
 match td, m with
 | .map k e, .map b => Jad P e fun ye => Jdk (get s b) fun es => Jdo P k es x /\ Jd9 P e = some ye.agg /\
     K (.tup [(Jbb es x).getD (zeroV ye), .p (.int .i64 (idxA es x : Nat))]) [b] [(b, some (.map (entA es x (zeroV ye))))] nx
 | _, _ => False
def Jm4 (m st v : AV) (s : Store) (nx : Nat) (K : KT) : Prop :=
 match m, st with
 | .map b, .p (.int .i64 n) => Jdk (get s b) fun es => (0 <= n /\ n < es.length) /\ K .any [b] [(b, some (.map (putE es n.toNat v)))] nx
 | _, _ => False
def Jjr (o : Option ABlk) (f : List AV -> List AV -> List Nat -> Prop) : Prop := match o with | some (.iter ks vs seen) => f ks vs seen | _ => False
theorem Js3 {o : Option ABlk} {f : List AV -> List AV -> List Nat -> Prop} : Jjr o f ↔ ∃ ks vs seen, o = some (.iter ks vs seen) /\ f ks vs seen := by
 unfold Jjr
 cases o with
 | none => simp
 | some b =>
   cases b with
   | iter ks vs seen =>
     constructor
     . intro h; exact ⟨_, _, _, rfl, h⟩
     . rintro ⟨_, _, _, h1, h2⟩; cases h1; exact h2
   | _ => simp
def Jm8 (td : TD) (x : AV) (nx : Nat) (K : KT) : Prop :=
 match td, x with
 | .map _ _, .pmap ks vs => K (.ptr nx 0 0 0) [] [(nx, some (.iter ks vs []))] (nx + 1)
 | _, _ => False
def Jm3 (x : AV) (s : Store) (nx : Nat) (K : KT) : Prop :=
 match x with
 | .ptr b 0 0 0 => Jjr (get s b) fun ks vs seen => Jaj seen.getLast? fun i => Jaj ks[i]? fun k => Jaj vs[i]? fun v => K (.tup [k, v]) [b] [] nx
 | _ => False
def Jm7 (x : AV) (s : Store) (nx : Nat) (K : KT) : Prop :=
 match x with
 | .ptr b 0 0 0 => Jjr (get s b) fun ks vs seen => (∀ (i : Nat) k v, i ∉ seen -> ks[i]? = some k -> vs[i]? = some v -> K (.tup [.p (.bool true), k, v]) [b] [(b, some (.iter ks vs (seen ++ [i])))] nx) /\
     ((∀ i : Nat, i < ks.length -> i ∈ seen) -> K (.tup [.p (.bool false)]) [b] [] nx)
 | _ => False
def Post (G : Jac) (F : Nat -> Prop) (φ : Places) (s1 : Store) (w : World) (v : AV) (up : Store) (nx nx' : Nat) (v' : Value) (w' : World) : Prop :=
 ∃ φ' : Places, φ.le φ' /\ (∀ b, b < nx \/ nx' <= b -> φ' b = φ b) /\ SR G F φ' (up ++ s1) w' /\
   VR φ' (ownF F φ' (up ++ s1)) w' v v' /\ ∀ F' : Nat -> Prop, Step (ownF F' φ s1) (ownF F' φ' (up ++ s1)) w w'
def Jb1 (s s1 : Store) (rd : List Nat) : Prop := ∀ b, b ∈ rd -> get s1 b = get s b
def Jbe (P : Program) (R : Value -> World -> Prop) : Result Next -> Prop
 | .ok (.value v) w' => R v w'
 | .ok .skip w' => R undef w'
 | .ok (.enter f args) w' => Calls P f args w' fun e w'' => ∃ v, e = .returned v /\ R v w''
 | .ok (.round l f tmps asg body) w' => RoundIn Fence.wide 0 P l f tmps asg body w' fun e w'' => ∃ v, e = .returned v /\ R v w''
 | _ => False
structure Gives (P : Program) (G : Jac) (f : Nat) (args : List AV) (s : Store) (nx : Nat) (v : AV) (rd : List Nat) (up : Store) (nx' : Nat) : Prop where
 le : nx <= nx'
 calls : ∀ (F : Nat -> Prop) (φ : Places) (s1 : Store) (w : World) (vs : List Value), Jb1 s s1 rd ->
   SR G F φ s1 w -> (∀ b, nx <= b -> b < nx' -> φ b = none) -> vs.length = args.length ->
   (∀ (i : Nat) x v, args[i]? = some x -> vs[i]? = some v -> VR φ (ownF F φ s1) w x v) ->
   Jbe P (Post G F φ s1 w v up nx nx') ((callFunc f ⟨vs⟩).run P w)
structure GivesY (P : Program) (G : Jac) (l : Nat) (args : List AV) (s : Store) (nx : Nat) (v : AV) (rd : List Nat) (up : Store) (nx' : Nat) : Prop where
 le : nx <= nx'
 calls : ∀ (F : Nat -> Prop) (φ : Places) (s1 : Store) (w : World) (vs : List Value), Jb1 s s1 rd ->
   SR G F φ s1 w -> (∀ b, nx <= b -> b < nx' -> φ b = none) -> vs.length = args.length ->
   (∀ (i : Nat) x v, args[i]? = some x -> vs[i]? = some v -> VR φ (ownF F φ s1) w x v) ->
   Jbe P (Post G F φ s1 w v up nx nx') ((Instr.yield l ⟨vs⟩).run P w)
def Jjy (P : Program) (G : Jac) (l : Nat) (args : List AV) (s : Store) (nx : Nat) (K : KT) : Prop :=
 ∃ v rd up nx', GivesY P G l args s nx v rd up nx' /\ K v rd up nx'
def Jgs (P : Program) (G : Jac) (f : Nat) (args : List AV) (s : Store) (nx : Nat) (K : KT) : Prop :=
 ∃ v rd up nx', Gives P G f args s nx v rd up nx' /\ K v rd up nx'
def Jje (m : Nat) (s : Store) : AV -> Option (List (List AV) × List Nat)
 | .ref b k i n _ => match get s b with
   | some (.cells k2 rows) => if k2 = k /\ i + n <= rows.length /\ (((rows.drop i).take (min n m)).all fun r => r.all AV.oneCell) = true then some ((rows.drop i).take (min n m), [b]) else none
   | _ => none
 | .nils => some ([], [])
 | .p (.lst _ rows) => some (rows.map (·.map AV.p), [])
 | _ => none
def J1n : AV -> Nat
 | .ref _ _ _ n _ => n
 | _ => 0
def Jm2 (k0 : Nat) (x z : AV) (s : Store) (nx : Nat) (K : KT) : Prop :=
 Jaj (Jje (J1n x) s z) fun src => srcK z k0 = k0 /\ (∀ r ∈ src.1, r.length = k0) /\ 0 < k0 /\
 match x with
 | .ref b k i n _ => k = k0 /\ Jbx (get s b) k fun rows => i + n <= rows.length /\ (∀ r ∈ rows, r.length = k) /\
     K (.p (.int .i64 (Nat.min src.1.length n))) (b :: src.2) [(b, some (.cells k (Jc7 rows i (src.1.take n))))] nx
 | .nils => K (.p (.int .i64 0)) src.2 [] nx
 | _ => False
def Jhl (y : TyI) (x : AV) (s : Store) (nx : Nat) (K : KT) : Prop :=
 match x with
 | .ref b k i n _ => k = y.size /\ y.zero.length = y.size /\ y.zero.all AV.oneCell = true /\ 0 < n /\ Jbx (get s b) k fun rows => i + n <= rows.length /\ (∀ r ∈ rows, r.length = k) /\
     K .any [b] [(b, some (.cells k (Jc7 rows i (List.replicate n y.zero))))] nx
 | .nils => K .any [] [] nx
 | _ => False
def Jgk (y : TyI) (x z : AV) (s : Store) (nx : Nat) (K : KT) : Prop :=
 match z with
 | .p (.int .i64 m) => 0 <= m /\ 0 < y.size /\ 0 < y.bytes /\ y.zero.length = y.size /\
   match x with
   | .nils => 0 < m /\ m.toNat * y.bytes <= 35184372088832 /\ K (.ref nx y.size 0 m.toNat none) [] [(nx, some (.cells y.size (List.replicate m.toNat y.zero)))] (nx + 1)
   | .ref b k i n (some c) => k = y.size /\ c < n + m.toNat /\ (n + m.toNat) * y.bytes <= 35184372088832 /\ Jbx (get s b) k fun rows => i + n <= rows.length /\ (∀ r ∈ rows, r.length = k) /\
       K (.ref nx k 0 (n + m.toNat) none) [b] [(nx, some (.cells k ((rows.drop i).take n ++ List.replicate m.toNat y.zero)))] (nx + 1)
   | _ => False
 | _ => False
def vcap (x : AV) (nx : Nat) (K : KT) : Prop :=
 match x with
 | .ref _ _ _ _ (some c) => K (.p (.int .i64 c)) [] [] nx
 | .nils => K (.p (.int .i64 0)) [] [] nx
 | _ => False
def vmax (x z : AV) (nx : Nat) (K : KT) : Prop := match x, z with
 | .p (.int k a), .p (.int _ b) => K (.p (.int k (max a b))) [] [] nx
 | _, _ => False
def vmin (x z : AV) (nx : Nat) (K : KT) : Prop := match x, z with
 | .p (.int k a), .p (.int _ b) => K (.p (.int k (min a b))) [] [] nx
 | _, _ => False
def Jm1 (P : Program) (G : Jac) (c : Call) (ρ : Operand -> AV) (s : Store) (nx : Nat) (K : KT) : Prop :=
 match c.callee with
 | .value f => match ρ f with
   | .fn (.func n) cap => Jgs P G n (c.args.toList.map ρ ++ cap) s nx K
   | .fn (.via _ _ n _) fs => Jgs P G n (fs ++ c.args.toList.map ρ) s nx K
   | .fn (.yield l) [] => Jjy P G l (c.args.toList.map ρ) s nx K
   | _ => False
 | .builtin .len => match c.args.toList, c.argTypes.toList with
   | [x], [t] => Jad P t (fun y => match y.td, ρ x with
     | .array n _, _ => K (.p (.int .i64 n)) [] [] nx
     | .slice _, .p (.lst k rows) => vlen (.p (.lst k rows)) s nx K
     | .slice _, .ref b k i n c => vlen (.ref b k i n c) s nx K
     | .slice _, .nils => vlen .nils s nx K
     | .slice _, .acc b k n => vlen (.acc b k n) s nx K
     | .str, .p (.str t) => vlen (.p (.str t)) s nx K
     | .map _ _, .map b => vlen (.map b) s nx K
     | .map _ _, .nilm => vlen .nilm s nx K
     | _, _ => False)
   | _, _ => False
 | .builtin .cap => match c.args.toList, c.argTypes.toList with
   | [x], [t] => Jad P t (fun y => match y.td with
     | .slice _ => vcap (ρ x) nx K
     | _ => False)
   | _, _ => False
 | .builtin .copy => match c.args.toList, c.argTypes.toList with
   | [x, z], [t, _] => Jad P t (fun y => match y.td with
     | .slice e => Jad P e (fun ye => Jm2 ye.size (ρ x) (ρ z) s nx K)
     | _ => False)
   | _, _ => False
 | .builtin .clear => match c.args.toList, c.argTypes.toList with
   | [x], [t] => Jad P t (fun y => match y.td with
     | .slice e => Jad P e (fun ye => Jhl ye (ρ x) s nx K)
     | _ => False)
   | _, _ => False
 | .builtin .append => match c.args.toList, c.argTypes.toList with
   | [x, z], [t, u] => Jad P t (fun y => match y.td with
     | .slice e => Jad P e (fun ye => Jad P u (fun yu => match yu.td with | .slice _ => vapp ye (ρ x) (ρ z) s nx K | .str => vapp ye (ρ x) (ρ z) s nx K | .int _ => Jgk ye (ρ x) (ρ z) s nx K | _ => False))
     | _ => False)
   | _, _ => False
 | .builtin .max => match c.args.toList with
   | [x, z] => vmax (ρ x) (ρ z) nx K
   | _ => False
 | .builtin .min => match c.args.toList with
   | [x, z] => vmin (ρ x) (ρ z) nx K
   | _ => False
 | _ => False
def chunks (k n : Nat) (row : List PV) : List (List PV) := (List.range n).map fun m => (row.drop (m * k)).take k
def Jh7 (k n : Nat) (row : List AV) : List (List AV) := (List.range n).map fun m => (row.drop (m * k)).take k
def J1b {α : Type} (o : Option α) (f : α -> Prop) (g : Prop) : Prop := match o with | some x => f x | none => g
def varr (n k : Nat) (x : AV) (s : Store) (nx : Nat) (K : KT) : Prop :=
 match x with
 | .iptr _ rows i j => Jaj rows[i]? fun row => 0 < k /\ 0 < n /\ j + n * k <= row.length /\ K (.p (.lst k (chunks k n (row.drop j)))) [] [] nx
 | .ptr b kk i j => Jbx (get s b) kk fun rows => Jaj rows[i]? fun row => J1b (unpL ((row.drop j).take (n * k))) (fun pcs => 0 < k /\ 0 < n /\ j + n * k <= row.length /\ K (.p (.lst k (chunks k n pcs))) [b] [(b, none)] nx)
   (0 < k /\ 0 < n /\ i = 0 /\ j = 0 /\ rows.length = 1 /\ row.length = n * k /\ K (.ref b k 0 n (some n)) [b] [(b, some (.cells k (Jh7 k n row)))] nx)
 | _ => False
def Jfq (x : AV) (lo hi mx : Option AV) : Option (Nat × Nat × Nat × Nat × Nat × Int × Int) :=
 match x, lo, hi, mx with
 | .ref b k i n (some c), none, some (.p (.int _ h)), none => some (b, k, i, n, c, h, 0)
 | .ref b k i n (some c), some (.p (.int _ l)), some (.p (.int _ h)), none => some (b, k, i, n, c, h, l)
 | _, _, _, _ => none
def Jm5 (q : Nat × Nat × Nat × Nat × Nat × Int × Int) (s : Store) (nx : Nat) (K : KT) : Prop :=
 let (b, k, i, n, c, h, l) := q
 Jbx (get s b) k fun rows => h <= c /\ 0 < k /\ i + n <= rows.length /\ 0 <= l /\ (l = 0 \/ l < h) /\
   K (.ref b k (i + l.toNat) (h.toNat - l.toNat) (some (c - l.toNat))) [b] [(b, some (.cells k (rows ++ List.replicate (i + h.toNat - rows.length) (List.replicate k .any))))] nx
def vsl (P : Program) (td : TD) (x : AV) (lo hi mx : Option AV) (s : Store) (nx : Nat) (K : KT) : Prop :=
 match td with
 | .arrp n e => lo = none /\ hi = none /\ mx = none /\ Jad P e fun ye => varr n ye.size x s nx K
 | .array n e => lo = none /\ hi = none /\ mx = none /\ Jad P e fun ye => varr n ye.size x s nx K
 | _ => (match td with | .slice e => Jad P e fun ye => (match x with | .p (.lst k _) => k = ye.size | .ref _ k _ _ _ => k = ye.size | _ => True) | _ => True) /\
   match Jfq x lo hi mx with
   | some q => vdec ((q.2.2.2.1 : Int) < q.2.2.2.2.2.1) ((match td with | .slice _ => True | _ => False) /\ Jm5 q s nx K) (Jgl td x lo hi mx nx K)
   | none => Jgl td x lo hi mx nx K
def vmkF (f : Fn) (first cap : Array Operand) (ρ : Operand -> AV) (nx : Nat) (K : KT) : Prop :=
 match first, f with
 | ⟨[]⟩, f => Jdd f = true /\ K (.fn f (cap.toList.map ρ)) [] [] nx
 | ⟨x :: xs⟩, .func n => cap = #[] /\ K (.fn (.via 0 #[] n true) ((x :: xs).map ρ)) [] [] nx
 | _, _ => False
def vop (P : Program) (G : Jac) (op : Op) (ρ : Operand -> AV) (s : Store) (nx : Nat) (K : KT) : Prop :=
 match op with
 | .move x | .assign x => K (ρ x) [] [] nx
 | .pick c a b => match ρ c with
   | .p (.bool t) => vif t (K (ρ a) [] [] nx) (K (ρ b) [] [] nx)
   | _ => False
 | .alloc t => Jad P t fun y => y.zero.length = y.size /\ K (.ptr nx y.size 0 0) [] [(nx, some (.cells y.size [y.zero]))] (nx + 1)
 | .box t x => Jad P t fun y => (ρ x).cells.length = y.size /\ (ρ x).cellsOk = true /\ K (.ptr nx y.size 0 0) [] [(nx, some (.cells y.size [(ρ x).cells]))] (nx + 1)
 | .load t x => Jad P t fun y => Jd6 y (ρ x) s nx K
 | .store t x v => Jad P t fun y => Jjq y (ρ x) (ρ v) s nx K
 | .fieldAddr t x f => Jad P t fun y => Jjm y.td (ρ x) f nx K
 | .field t x f => Jad P t fun y => (match y.td, ρ x with
   | .struct fs, .agg cs => Jaj fs[f]? fun p => p.2.1 ≠ 0 /\ Jbw p.2.2 p.2.1 cs p.1 nx K
   | _, _ => False)
 | .indexAddr t x ix => Jad P t fun y => (match y.td with
   | .slice e => Jad P e fun ye => Jfa (.slice e) ye.size (ρ x) (ρ ix) nx K
   | .array n e => Jad P e fun ye => Jfa (.array n e) ye.size (ρ x) (ρ ix) nx K
   | _ => False)
 | .index t x ix => Jad P t fun y => (match y.td, ρ x, ρ ix with
   | .array n e, .agg cs, .p (.int _ i) => Jad P e fun ye => 0 <= i /\ i < n /\ Jbw ye.agg ye.size cs (i.toNat * ye.size) nx K
   | .str, .p (.str cs), .p (.int _ i) => 0 <= i /\ Jaj cs[i.toNat]? fun c => K (.p (.int .u8 c.toNat)) [] [] nx
   | _, _, _ => False)
 | .build t parts => Jad P t fun y => Jaj (match y.td with
   | .struct fs => if (fs.all fun p => p.2.1 != 0) = true then Jcg (Jeh fs) y.zero (parts.toList.map fun (i, x) => (i, ρ x)) else none
   | .array _ e => (tyOf P e).bind fun ye => Jcg (Jeb ye.size) y.zero (parts.toList.map fun (i, x) => (i, ρ x))
   | _ => none) fun cs => K (.agg cs) [] [] nx
 | .buildSlice t len parts => Jad P t fun y => (match y.td with
   | .slice e => Jad P e fun ye => ye.zero.length = ye.size /\ 0 < ye.size /\ len * ye.size <= 16777216 /\ Jaj (Jdf ye.size (List.replicate len ye.zero) (parts.toList.map fun (i, x) => (i, ρ x))) fun rows =>
     K (.ref nx ye.size 0 len (some len)) [] [(nx, some (.cells ye.size rows))] (nx + 1)
   | _ => False)
 | .makeSlice t x z => Jad P t fun y => (match y.td, ρ x, ρ z with
   | .slice e, .p (.int _ l), .p (.int _ c) => Jad P e fun ye => ye.zero.length = ye.size /\ 0 <= l /\ l <= c /\ (ye.bytes : Int) * c <= 281474976710656 /\ c <= 9223372036854775807 /\
     K (.ref nx ye.size 0 l.toNat (some c.toNat)) [] [(nx, some (.cells ye.size (List.replicate c.toNat ye.zero)))] (nx + 1)
   | _, _, _ => False)
 | .binOp op t x y _ => if Jim y = true then Jad P t fun ty => (match ty.td with | .slice _ => True | _ => False) /\ vnil op (ρ x) nx K else if Jin y = true then Jil P t = true /\ Jjo op (ρ x) nx K else if Jio op y = true then Jjp (ρ x) (ρ y) nx K else vbin P op t (ρ x) (ρ y) nx K
 | .unOp op _ x => match op, ρ x with
   | .not, .p (.bool b) => K (.p (.bool (!b))) [] [] nx
   | .neg, .p (.int k n) => k.wrap (0 - n) = -n /\ K (.p (.int k (-n))) [] [] nx
   | _, _ => False
 | .convert src dst x => Jad P src fun _ => Jad P dst fun z => (match z.td, ρ x with
   | .int k, .p (.int _ n) => k.wrap n = n /\ K (.p (.int k n)) [] [] nx
   | .str, .p (.int _ n) => 0 <= n /\ n < 128 /\ K (.p (.str [UInt8.ofNat n.toNat])) [] [] nx
   | _, _ => False)
 | .makeFunc f first cap => vmkF f first cap ρ nx K
 | .makeMap _ none => K (.map nx) [] [(nx, some (.map []))] (nx + 1)
 | .slice t x lo hi mx => Jad P t fun y => vsl P y.td (ρ x) (lo.map ρ) (hi.map ρ) (mx.map ρ) s nx K
 | .extract x i => match ρ x with
   | .tup vs => Jaj vs[i]? fun v => K v [] [] nx
   | _ => False
 | .nilCheck x => match ρ x with
   | .ptr b k i j => K (.ptr b k i j) [] [] nx
   | .iptr k rows i j => K (.iptr k rows i j) [] [] nx
   | _ => False
 | .lookup t m x ok => Jad P t fun y => Jjn P y.td (ρ m) (ρ x) ok s nx K
 | .mapUpdate t m x v => Jad P t fun y => Jhm P y.td (ρ m) (ρ x) (ρ v) s nx K
 | .insert t m x v => Jad P t fun y => Jhm P y.td (ρ m) (ρ x) (ρ v) s nx K
 | .range t x => Jad P t fun y => Jm8 y.td (ρ x) nx K
 | .entry x => Jm3 (ρ x) s nx K
 | .mapEntry t m x => Jad P t fun y => Jm6 P y.td (ρ m) (ρ x) s nx K
 | .entryStore _ m st v => Jm4 (ρ m) (ρ st) (ρ v) s nx K
 | .call c => Jm1 P G c ρ s nx K
 | _ => False
def Jc2 (P : Program) (G : Jac) (op : Op) (ρ : Operand -> AV) (s : Store) (nx : Nat) (K : KT) : Prop :=
 match op with
 | .next x false => Jm7 (ρ x) s nx K
 | _ => vop P G op ρ s nx K
@[simp] def Jf0 : Op -> Bool
 | .next _ _ => false
 | _ => true
theorem J3k {P : Program} {G : Jac} {op : Op} {ρ : Operand -> AV} {s : Store} {nx : Nat} {K : KT} (hn : Jf0 op = true) (h : Jc2 P G op ρ s nx K) : vop P G op ρ s nx K := by
 unfold Jc2 at h
 split at h
 . cases hn
 . exact h
end Go.Am
namespace Go.Am
open Go
theorem BR.mono {φ φ' : Places} {own own' : Nat -> Prop} {w w' : World} (hφ : φ.le φ') (st : Step own own' w w') {b : Nat} {x : ABlk}
   (h : BR φ own w b x) (same : ∀ p, φ b = some p -> w'.heap[p.1]? = w.heap[p.1]?) : BR φ' own' w' b x := by
 cases x with
 | cells k rows =>
   obtain ⟨β, δ, arr, T, h1, h2, h3⟩ := h
   exact ⟨β, δ, arr, T, hφ _ _ h1, (same _ h1).trans h2, h3.mono hφ st⟩
 | map es =>
   obtain ⟨r, mes, cl, h1, h2, h3, hB⟩ := h
   exact ⟨r, mes, cl, hφ _ _ h1, (same _ h1).trans h2, h3.mono hφ st, hB⟩
 | iter ks vs seen =>
   obtain ⟨r, mi, mes, cl, sn, ps, h1, h2, h3, hs⟩ := h
   exact ⟨r, mi, mes, cl, sn, ps, hφ _ _ h1, (same _ h1).trans h2, h3.mono st, hs⟩
 | loop i t j =>
   obtain ⟨tmps, D, h1, h2, h3, h4⟩ := h
   exact ⟨tmps, D, hφ _ _ h1, (same _ h1).trans h2, h3, fun d => (h4 d).mono hφ st⟩
theorem SR.change {G F} {φ φ' : Places} {s s' : Store} {w w' : World} (h : SR G F φ s w) (hle : φ.le φ')
   (st : Step (ownF F φ s) (ownF F φ' s') w w')
   (old : ∀ b x, get s' b = some x -> (get s b = some x /\ ∀ p, φ b = some p -> w'.heap[p.1]? = w.heap[p.1]?) \/ BR φ' (ownF F φ' s') w' b x)
   (inj : ∀ b b' x x' p p', get s' b = some x -> get s' b' = some x' -> φ' b = some p -> φ' b' = some p' -> p.1 = p'.1 -> b = b')
   (disj : ∀ b x p, get s' b = some x -> φ' b = some p -> ¬ F p.1) : SR G F φ' s' w' where
 blk := fun b x hb => by
   rcases old b x hb with ⟨h1, h2⟩ | h1
   . exact (h.blk b x h1).mono hle st h2
   . exact h1
 inj := inj
 disj := disj
 fsize := fun β hF => Nat.lt_of_lt_of_le (h.fsize β hF) st.size
 glob := fun g k rows hg => by
   obtain ⟨h1, h2, h3⟩ := h.glob g k rows hg
   exact ⟨Nat.lt_of_lt_of_le h1 st.size, (st.keep g h1 h2).2, h3.mono st h1 h2⟩
def putP (φ : Places) (b : Nat) (p : Place) : Places := fun c => if c = b then some p else φ c
theorem Jc9 {φ : Places} {b : Nat} {p : Place} (h : φ b = none) : φ.le (putP φ b p) := fun c q hc => by
 unfold putP
 by_cases e : c = b
 . subst e; rw [h] at hc; cases hc
 . rw [if_neg e]; exact hc
theorem Jbp {φ : Places} {b : Nat} {p : Place} : putP φ b p b = some p := by simp [putP]
theorem Jb4 {φ : Places} {b c : Nat} {p : Place} (h : c ≠ b) : putP φ b p c = φ c := by simp [putP, h]
theorem Jev {s : Store} {b : Nat} {x : Option ABlk} : get ((b, x) :: s) b = x := by simp [get]
theorem Jbg {s : Store} {b c : Nat} {x : Option ABlk} (h : b ≠ c) : get ((b, x) :: s) c = get s c := by simp [get, h]
theorem Jdh {w : World} {o : Obj} {β : Nat} (h : β < w.heap.size) : (w.alloc o).heap[β]? = w.heap[β]? := by
 simp only [World.alloc, Array.getElem?_push]
 rw [if_neg (by omega)]
theorem heap_alloc_new {w : World} {o : Obj} : (w.alloc o).heap[w.heap.size]? = some o := by
 show (w.heap.push o)[w.heap.size]? = some o
 simp
theorem Je6 {F : Nat -> Prop} {φ : Places} {s : Store} {w : World} {b : Nat} (o : Obj) (x : ABlk) :
   Step (ownF F φ s) (ownF F (putP φ b (w.heap.size, 0)) ((b, some x) :: s)) w (w.alloc o) where
 keep := fun β hβ ho => ⟨Jdh hβ, by
   rintro (hF | ⟨c, y, p, h1, h2, rfl⟩)
   . exact ho (.inl hF)
   . by_cases e : c = b
     . subst e
       rw [Jbp] at h2
       cases h2
       exact Nat.lt_irrefl _ hβ
     . rw [Jb4 e] at h2
       rw [Jbg (Ne.symm e)] at h1
       exact ho (.inr ⟨c, y, p, h1, h2, rfl⟩)⟩
 size := by simp
 shape := fun β arr T h => ⟨arr, by rw [Jdh (Array.getElem?_eq_some_iff.1 h).1]; exact h, rfl⟩
 os := rfl
 tape := rfl
 output := rfl
theorem SR.alloc {G F} {φ : Places} {s : Store} {w : World} (h : SR G F φ s w) {b : Nat} (hb : φ b = none) (o : Obj) (x : ABlk)
   (hx : BR (putP φ b (w.heap.size, 0)) (ownF F (putP φ b (w.heap.size, 0)) ((b, some x) :: s)) (w.alloc o) b x) :
   SR G F (putP φ b (w.heap.size, 0)) ((b, some x) :: s) (w.alloc o) := by
 refine h.change (Jc9 hb) (Je6 o x) ?_ ?_ ?_
 . intro c y hc
   by_cases e : c = b
   . subst e
     rw [Jev] at hc
     cases hc
     exact .inr hx
   . rw [Jbg (Ne.symm e)] at hc
     refine .inl ⟨hc, fun p hp => ?_⟩
     obtain ⟨q, h1, h2⟩ := (h.blk c y hc).place
     rw [hp] at h1; cases h1
     exact Jdh h2
 . intro c c' y y' p p' h1 h2 h3 h4 h5
   by_cases e : c = b
   . by_cases e' : c' = b
     . rw [e, e']
     . subst e
       rw [Jbp] at h3; cases h3
       rw [Jb4 e'] at h4
       rw [Jbg (Ne.symm e')] at h2
       obtain ⟨q, k1, k2⟩ := (h.blk c' y' h2).place
       rw [h4] at k1; cases k1
       simp only at h5
       omega
   . by_cases e' : c' = b
     . subst e'
       rw [Jbp] at h4; cases h4
       rw [Jb4 e] at h3
       rw [Jbg (Ne.symm e)] at h1
       obtain ⟨q, k1, k2⟩ := (h.blk c y h1).place
       rw [h3] at k1; cases k1
       simp only at h5
       omega
     . rw [Jb4 e] at h3
       rw [Jb4 e'] at h4
       rw [Jbg (Ne.symm e)] at h1
       rw [Jbg (Ne.symm e')] at h2
       exact h.inj c c' y y' p p' h1 h2 h3 h4 h5
 . intro c y p h1 h2 hF
   by_cases e : c = b
   . subst e
     rw [Jbp] at h2; cases h2
     exact Nat.lt_irrefl _ (h.fsize _ hF)
   . rw [Jb4 e] at h2
     rw [Jbg (Ne.symm e)] at h1
     exact h.disj c y p h1 h2 hF
theorem Jge {own : Nat -> Prop} {w : World} : Step own own w w.drew :=
 ⟨fun _ _ h => ⟨rfl, h⟩, Nat.le_refl _, fun _ arr _ h => ⟨arr, h, rfl⟩, rfl, rfl, rfl⟩
theorem SR.drew {G F φ s w} (h : SR G F φ s w) : SR G F φ s w.drew :=
 h.change (fun _ _ h => h) Jge (fun _ _ hx => .inl ⟨hx, fun _ _ => rfl⟩) h.inj h.disj
def Ja7 (w : World) (β : Nat) (arr : Array Value) (T : TypeId) : World := { w with heap := w.heap.setIfInBounds β (Obj.cells arr T (0, 0)) }
theorem Je8 {w : World} {β : Nat} {arr : Array Value} {T : TypeId} (h : β < w.heap.size) : (Ja7 w β arr T).heap[β]? = some (Obj.cells arr T (0, 0)) := by
 simp [Ja7, h]
theorem Jjk {w : World} {β c : Nat} {arr : Array Value} {T : TypeId} (h : c ≠ β) : (Ja7 w β arr T).heap[c]? = w.heap[c]? := by
 simp [Ja7, Ne.symm h]
@[simp] theorem J5s {w : World} {β : Nat} {arr : Array Value} {T : TypeId} : (Ja7 w β arr T).heap.size = w.heap.size := by simp [Ja7]
theorem Jsn {own own' : Nat -> Prop} {w : World} {β : Nat} {arr arr0 : Array Value} {T : TypeId} (ho : own β)
   (h0 : w.heap[β]? = some (Obj.cells arr0 T (0, 0))) (hs : arr.size = arr0.size) (hk : ∀ c, c < w.heap.size -> ¬ own c -> ¬ own' c) :
   Step own own' w (Ja7 w β arr T) where
 keep := fun c hc hn => ⟨Jjk (fun e => hn (e ▸ ho)), hk c hc hn⟩
 size := by simp
 shape := fun c a U h => by
   by_cases e : c = β
   . subst e
     rw [h0] at h
     cases h
     exact ⟨arr, Je8 (Array.getElem?_eq_some_iff.1 h0).1, hs⟩
   . exact ⟨a, by rw [Jjk e]; exact h, rfl⟩
 os := rfl
 tape := rfl
 output := rfl
theorem SR.turn {G F} {φ : Places} {s : Store} {w : World} (h : SR G F φ s w) {b : Nat} {x0 x : ABlk} {β δ : Nat} {arr arr0 : Array Value} {T : TypeId}
   (hg : get s b = some x0) (hφ : φ b = some (β, δ)) (h0 : w.heap[β]? = some (Obj.cells arr0 T (0, 0))) (hs : arr.size = arr0.size)
   (hx : Step (ownF F φ s) (ownF F φ ((b, some x) :: s)) w (Ja7 w β arr T) -> BR φ (ownF F φ ((b, some x) :: s)) (Ja7 w β arr T) b x) :
   SR G F φ ((b, some x) :: s) (Ja7 w β arr T) /\ ∀ F' : Nat -> Prop, Step (ownF F' φ s) (ownF F' φ ((b, some x) :: s)) w (Ja7 w β arr T) := by
 have ho : ∀ F' : Nat -> Prop, ownF F' φ s β := fun F' => .inr ⟨b, x0, _, hg, hφ, rfl⟩
 have stF : ∀ F' : Nat -> Prop, Step (ownF F' φ s) (ownF F' φ ((b, some x) :: s)) w (Ja7 w β arr T) := fun F' => Jsn (ho F') h0 hs (by
   rintro c hc hn (hF | ⟨d, y, p, h1, h2, rfl⟩)
   . exact hn (.inl hF)
   . by_cases e : d = b
     . subst e
       rw [hφ] at h2; cases h2
       exact hn (ho F')
     . rw [Jbg (Ne.symm e)] at h1
       exact hn (.inr ⟨d, y, p, h1, h2, rfl⟩))
 have st := stF F
 refine ⟨h.change (fun _ _ h => h) st ?_ ?_ ?_, stF⟩
 . intro c y hc
   by_cases e : c = b
   . subst e
     rw [Jev] at hc
     cases hc
     exact .inr (hx st)
   . rw [Jbg (Ne.symm e)] at hc
     refine .inl ⟨hc, fun p hp => Jjk fun hp1 => e ?_⟩
     exact h.inj c b y x0 p (β, δ) hc hg hp hφ hp1
 . intro c c' y y' p p' h1 h2 h3 h4 h5
   have k1 : ∃ z, get s c = some z := by
     by_cases e : c = b
     . exact ⟨x0, e ▸ hg⟩
     . exact ⟨y, by rw [Jbg (Ne.symm e)] at h1; exact h1⟩
   have k2 : ∃ z, get s c' = some z := by
     by_cases e : c' = b
     . exact ⟨x0, e ▸ hg⟩
     . exact ⟨y', by rw [Jbg (Ne.symm e)] at h2; exact h2⟩
   obtain ⟨z, k1⟩ := k1
   obtain ⟨z', k2⟩ := k2
   exact h.inj c c' z z' p p' k1 k2 h3 h4 h5
 . intro c y p h1 h2
   by_cases e : c = b
   . subst e
     exact h.disj c x0 p hg h2
   . rw [Jbg (Ne.symm e)] at h1
     exact h.disj c y p h1 h2
theorem Ji1 {F : Nat -> Prop} {φ : Places} {s : Store} {b β : Nat} (h : ownF F φ ((b, none) :: s) β) : ownF F φ s β := by
 rcases h with hF | ⟨c, y, p, h1, h2, rfl⟩
 . exact .inl hF
 . by_cases e : c = b
   . subst e; rw [Jev] at h1; cases h1
   . rw [Jbg (Ne.symm e)] at h1
     exact .inr ⟨c, y, p, h1, h2, rfl⟩
theorem Jsl {F : Nat -> Prop} {φ : Places} {s : Store} {w : World} {b : Nat} : Step (ownF F φ s) (ownF F φ ((b, none) :: s)) w w :=
 ⟨fun _ _ h => ⟨rfl, fun h' => h (Ji1 h')⟩, Nat.le_refl _, fun _ arr _ h => ⟨arr, h, rfl⟩, rfl, rfl, rfl⟩
theorem Jfo {s : Store} {b c : Nat} {x : ABlk} (h : get ((b, none) :: s) c = some x) : c ≠ b /\ get s c = some x := by
 by_cases e : c = b
 . subst e; rw [Jev] at h; cases h
 . exact ⟨e, by rw [Jbg (Ne.symm e)] at h; exact h⟩
theorem SR.drop {G F φ s w} (h : SR G F φ s w) (b : Nat) : SR G F φ ((b, none) :: s) w :=
 h.change (fun _ _ h => h) Jsl (fun _ _ hx => .inl ⟨(Jfo hx).2, fun _ _ => rfl⟩)
   (fun c c' y y' p p' h1 h2 => h.inj c c' y y' p p' (Jfo h1).2 (Jfo h2).2)
   (fun c y p h1 => h.disj c y p (Jfo h1).2)
end Go.Am
namespace Go.Am
open Go
structure EvalOk (φ : Places) (own : Nat -> Prop) (w : World) (ρ : Operand -> AV) (ρ' : Operand -> Value) (o : Oper) : Prop where
 vr : ∀ x ∈ o.op.operands.toList, VR φ own w (ρ x) (ρ' x)
 const : ∀ v, ρ' (.const v) = v
instance {φ : Places} {own : Nat -> Prop} {w : World} {ρ : Operand -> AV} {ρ' : Operand -> Value} {o : Oper} : CoeFun (EvalOk φ own w ρ ρ' o) (fun _ => ∀ x ∈ o.op.operands.toList, VR φ own w (ρ x) (ρ' x)) := ⟨EvalOk.vr⟩
structure OpOK (P : Program) (G : Jac) (o : Oper) (ρ : Operand -> AV) (s : Store) (nx : Nat) (v : AV) (rd : List Nat) (up : Store) (nx' : Nat) : Prop where
 le : nx <= nx'
 runs : ∀ (F : Nat -> Prop) (φ : Places) (s1 : Store) (w : World) (ρ' : Operand -> Value), Jb1 s s1 rd -> SR G F φ s1 w ->
   (∀ b, nx <= b -> b < nx' -> φ b = none) -> EvalOk φ (ownF F φ s1) w ρ ρ' o ->
   Jbe P (Post G F φ s1 w v up nx nx') ((execOp ρ' o).run P w)
theorem Jl2 {G F φ s1 w v nx v'} (hs : SR G F φ s1 w) (h : VR φ (ownF F φ s1) w v v') : Post G F φ s1 w v [] nx nx v' w :=
 ⟨φ, fun _ _ h => h, fun _ _ => rfl, hs, h, fun _ => Step.refl _ _⟩
theorem Jg8 {G F φ s1 w v nx v'} (hs : SR G F φ s1 w) (hf : φ nx = none) (o : Obj) (x : ABlk)
   (hx : BR (putP φ nx (w.heap.size, 0)) (ownF F (putP φ nx (w.heap.size, 0)) ((nx, some x) :: s1)) (w.alloc o) nx x)
   (h : VR (putP φ nx (w.heap.size, 0)) (ownF F (putP φ nx (w.heap.size, 0)) ((nx, some x) :: s1)) (w.alloc o) v v') :
   Post G F φ s1 w v [(nx, some x)] nx (nx + 1) v' (w.alloc o) :=
 ⟨putP φ nx (w.heap.size, 0), Jc9 hf, fun b hb => Jb4 (by omega), hs.alloc hf o x hx, h, fun _ => Je6 o x⟩
theorem OpOK.same {P G o ρ s nx v rd} (h : ∀ (F : Nat -> Prop) (φ : Places) (s1 : Store) (w : World) (ρ' : Operand -> Value), Jb1 s s1 rd -> SR G F φ s1 w ->
   EvalOk φ (ownF F φ s1) w ρ ρ' o -> ∃ v', (execOp ρ' o).run P w = .ok (.value v') w /\ VR φ (ownF F φ s1) w v v') :
   OpOK P G o ρ s nx v rd [] nx :=
 ⟨Nat.le_refl _, fun F φ s1 w ρ' ha hs _ hρ => by
   obtain ⟨v', h1, h2⟩ := h F φ s1 w ρ' ha hs hρ
   rw [h1]
   exact Jl2 hs h2⟩
section ty
variable {P : Program} {t : Nat} {y : TyI}
structure TySpec (P : Program) (t : Nat) (y : TyI) (i : TypeInfo) (d : TypeDesc) (z : Value) : Prop where
 info : P.info? t = some i
 under : P.underlying t = some d
 zero : i.zero = some z
 size : y.size = i.size
 bytes : y.bytes = i.bytes
 zeros : y.zero = z.cells.toList.map cvCell
 agg : y.agg = Jfs d
 td : y.td = tdOf P d
theorem Jav (h : tyOf P t = some y) : ∃ i d z, TySpec P t y i d z := by
 unfold tyOf at h
 split at h
 . rename_i i d hi hd
   split at h
   . rename_i z hz
     cases h
     exact ⟨i, d, z, hi, hd, hz, rfl, rfl, rfl, rfl, rfl⟩
   . cases h
 . cases h
theorem TySpec.sizeOf {i d z} (h : TySpec P t y i d z) (w : World) : (Go.sizeOf t).run P w = .ok y.size w := by
 simp [Go.sizeOf, typeInfo, h.info, h.size]
theorem TySpec.zeroValue {i d z} (h : TySpec P t y i d z) (w : World) : (Go.zeroValue t).run P w = .ok z w := by
 simp [Go.zeroValue, Go.typeInfo, h.info, h.zero]
theorem TySpec.underlying {i d z} (h : TySpec P t y i d z) (w : World) : (Go.underlying t).run P w = .ok d w := run_underlying h.under w
theorem TySpec.isAgg {i d z} (h : TySpec P t y i d z) (w : World) : (Go.isAgg t).run P w = .ok y.agg w := by
 rw [h.agg]
 unfold Go.isAgg
 simp only [Sem.run_bind, h.underlying w, Result.andThen_ok]
 cases d <;> rfl
end ty
theorem VR.cvCell {φ own w} (v : Value) : VR φ own w (cvCell v) v := by
 cases v with
 | int k n => exact .p _ _ (.int ..)
 | bool b => exact .p _ _ (.bool ..)
 | string s => exact .p _ _ (VRp.str s.data.toList)
 | slice a n c =>
   cases a with
   | some a => exact .any _
   | none =>
     by_cases h : n = 0 /\ c = 0
     . obtain ⟨rfl, rfl⟩ := h; exact .nils _
     . simp only [Am.cvCell, if_neg h]; exact .any _
 | pointer a => cases a with | none => exact .nilp | some a => exact .any _
 | map a => cases a with | none => exact .nilm | some a => exact .any _
 | nilFunc => exact .p _ _ .nilf
 | nilIface => exact .p _ _ .nilif
 | func f a b =>
   by_cases h : a.size = 0 /\ b.size = 0 /\ Jdd f = true
   . simp only [Am.cvCell, if_pos h]
     obtain ⟨h1, h2, h3⟩ := h
     obtain rfl := Array.eq_empty_of_size_eq_zero h1
     obtain rfl := Array.eq_empty_of_size_eq_zero h2
     exact .fn _ [] [] h3 rfl (by simp)
   . simp only [Am.cvCell, if_neg h]; exact .any _
 | _ => exact .any _
theorem VR.cv {φ own w} (v : Value) : VR φ own w (cv v) v := by
 cases v with
 | agg cs =>
   refine .agg _ cs.toList (by simp) fun i c v hc hv => ?_
   simp only [List.getElem?_map, Option.map_eq_some_iff] at hc
   obtain ⟨u, h1, rfl⟩ := hc
   rw [hv] at h1; cases h1
   exact VR.cvCell v
 | _ => (unfold Am.cv; exact VR.cvCell _)
theorem VR.p_inv {φ own w x v} (h : VR φ own w (.p x) v) : VRp own w x v := by cases h; assumption
def Jbd (φ : Places) (own : Nat -> Prop) (w : World) (cs : List AV) (vs : List Value) : Prop :=
 vs.length = cs.length /\ ∀ (i : Nat) c v, cs[i]? = some c -> vs[i]? = some v -> VR φ own w c v
theorem Jbd.at {φ own w cs vs} (h : Jbd φ own w cs vs) {i : Nat} {c : AV} (hc : cs[i]? = some c) : ∃ v, vs[i]? = some v /\ VR φ own w c v := by
 have hi : i < cs.length := (gsI.1 hc).1
 obtain ⟨v, hv⟩ : ∃ v, vs[i]? = some v := ⟨vs[i]'(h.1 ▸ hi), by rw [List.getElem?_eq_getElem]⟩
 exact ⟨v, hv, h.2 i c v hc hv⟩
theorem VR.agg_inv {φ own w cs v} (h : VR φ own w (.agg cs) v) : ∃ vs, v = .agg ⟨vs⟩ /\ Jbd φ own w cs vs := by
 cases h with
 | agg cs vs hl h => exact ⟨vs, rfl, hl, h⟩
theorem VR.tup_inv {φ own w cs v} (h : VR φ own w (.tup cs) v) : ∃ vs, v = .tuple ⟨vs⟩ /\ Jbd φ own w cs vs := by
 cases h with
 | tup cs vs hl h => exact ⟨vs, rfl, hl, h⟩
theorem VR.fn_inv {φ own w f cs v} (h : VR φ own w (.fn f cs) v) (hf : Jdd f = true := by rfl) : ∃ vs, v = .func f #[] ⟨vs⟩ /\ Jbd φ own w cs vs := by
 cases h with
 | fn f cs vs _ hl h => exact ⟨vs, rfl, hl, h⟩
 | bfn t p n b cs vs hl h => cases hf
theorem VR.bfn_inv {φ own w t p n b cs v} (h : VR φ own w (.fn (.via t p n b) cs) v) : ∃ vs, v = .func (.func n) ⟨vs⟩ #[] /\ Jbd φ own w cs vs := by
 cases h with
 | fn f cs vs hf hl h => cases hf
 | bfn t p n b cs vs hl h => exact ⟨vs, rfl, hl, h⟩
theorem VR.fn_any {φ own w f cs v} (h : VR φ own w (.fn f cs) v) : ∃ g a b, v = .func g a b := by
 cases h with
 | fn f cs vs hf hl h => exact ⟨_, _, _, rfl⟩
 | bfn t p n b cs vs hl h => exact ⟨_, _, _, rfl⟩
theorem VRp.one {own w x v} (h : VRp own w x v) : v.cells = #[v] /\ v.oneCell' = true := by
 cases h <;> exact ⟨rfl, rfl⟩
theorem VR.one {φ own w x v} (h : VR φ own w x v) (h1 : x.oneCell = true) : v.cells = #[v] /\ v.oneCell' = true := by
 cases h with
 | any => cases h1
 | agg => cases h1
 | tup => cases h1
 | p x v h => exact h.one
 | _ => exact ⟨rfl, rfl⟩
theorem VR.cells {φ own w x v} (h : VR φ own w x v) (h1 : x.cells.all AV.oneCell = true) : Jbd φ own w x.cells v.cells.toList /\ ∀ u ∈ v.cells.toList, u.oneCell' = true := by
 by_cases ha : ∃ cs, x = .agg cs
 . obtain ⟨cs, rfl⟩ := ha
   obtain ⟨vs, rfl, hc⟩ := h.agg_inv
   refine ⟨hc, fun u hu => ?_⟩
   have hu' : u ∈ vs := hu
   obtain ⟨i, hi, rfl⟩ := List.getElem_of_mem hu'
   have hi' : i < cs.length := hc.1 ▸ hi
   have h2 := hc.2 i cs[i] vs[i] (List.getElem?_eq_getElem hi') (List.getElem?_eq_getElem hi)
   have h3 : cs.all AV.oneCell = true := h1
   exact (h2.one (List.all_eq_true.1 h3 _ (List.getElem_mem hi'))).2
 . have hx : x.cells = [x] := by
     cases x <;> first | rfl | exact absurd ⟨_, rfl⟩ ha
   rw [hx] at h1 ⊢
   have h1' : x.oneCell = true := by simpa using h1
   obtain ⟨e1, e2⟩ := h.one h1'
   rw [e1]
   refine ⟨⟨rfl, fun i c v' hc hv => ?_⟩, fun u hu => ?_⟩
   . cases i with
     | zero => simp at hc hv; subst hc; subst hv; exact h
     | succ i => simp at hc
   . simp at hu; subst hu; exact e2
theorem VR.cells' {φ own w x v} (h : VR φ own w x v) (h1 : x.cellsOk = true) : Jbd φ own w x.cells v.cells.toList := by
 by_cases ha : ∃ cs, x = .agg cs
 . obtain ⟨cs, rfl⟩ := ha
   obtain ⟨vs, rfl, hc⟩ := h.agg_inv
   exact hc
 . have hx : x.cells = [x] /\ x.oneCell = true := by
     cases x <;> first | exact ⟨rfl, rfl⟩ | exact absurd ⟨_, rfl⟩ ha | cases h1
   refine (h.cells ?_).1
   rw [hx.1]
   simp [hx.2]
end Go.Am
namespace Go.Am
open Go
section
variable {P : Program} {G : Jac} {o : Oper} {ρ : Operand -> AV} {s : Store} {nx : Nat}
theorem J0w {x : Operand} (ho : o.op = .move x) : OpOK P G o ρ s nx (ρ x) [] [] nx :=
 OpOK.same fun F φ s1 w ρ' _ _ hρ => ⟨ρ' x, by simp [execOp, ho], hρ x (by simp [ho, Op.operands])⟩
theorem Jz2 {x : Operand} (ho : o.op = .assign x) : OpOK P G o ρ s nx (ρ x) [] [] nx :=
 OpOK.same fun F φ s1 w ρ' _ _ hρ => ⟨ρ' x, by simp [execOp, ho], hρ x (by simp [ho, Op.operands])⟩
theorem VR.bool_inv {φ own w b v} (h : VR φ own w (.p (.bool b)) v) : v = .bool b := by cases h.p_inv; rfl
theorem VR.int_inv {φ own w k n v} (h : VR φ own w (.p (.int k n)) v) : v = .int k n := by cases h.p_inv; rfl
theorem VR.str_inv {φ own w s v} (h : VR φ own w (.p (.str s)) v) : v = .string ⟨⟨s⟩⟩ := by cases h.p_inv; rfl
theorem J02 {c a b : Operand} {t : Bool} (ho : o.op = .pick c a b) (hc : ρ c = .p (.bool t)) : OpOK P G o ρ s nx (if t then ρ a else ρ b) [] [] nx :=
 OpOK.same fun F φ s1 w ρ' _ _ hρ => by
   have h1 := hρ c (by simp [ho, Op.operands])
   rw [hc] at h1
   refine ⟨if t then ρ' a else ρ' b, ?_, ?_⟩
   . simp only [execOp, ho, h1.bool_inv, asBool]
     cases t <;> simp
   . cases t
     . exact hρ b (by simp [ho, Op.operands])
     . exact hρ a (by simp [ho, Op.operands])
theorem Jv6 {φ : Places} {own : Nat -> Prop} {w : World} {k : Nat} {cs : List AV} {vs : List Value} (hk : cs.length <= k) (h : Jbd φ own w cs vs) : Jau φ own w k [cs] ⟨vs⟩ 0 := by
 intro i j row x hr hx
 cases i with
 | zero =>
   simp at hr; subst hr
   obtain ⟨v, h1, h2⟩ := h.at hx
   exact ⟨Nat.lt_of_lt_of_le (gsI.1 hx).1 hk, v, by simpa using h1, h2⟩
 | succ i => simp at hr
theorem Jrf {k : Nat} {cs : List AV} {T : TypeId} (hk : cs.length <= k)
   (h : ∀ (F : Nat -> Prop) (φ : Places) (s1 : Store) (w : World) (ρ' : Operand -> Value), SR G F φ s1 w ->
     (∀ x ∈ o.op.operands.toList, VR φ (ownF F φ s1) w (ρ x) (ρ' x)) -> ∃ v : Value, (execOp ρ' o).run P w = .ok (.value (.pointer (some ⟨w.heap.size, 0, none⟩))) (w.alloc (.cells v.cells T)) /\
       Jbd φ (ownF F φ s1) w cs v.cells.toList) :
   OpOK P G o ρ s nx (.ptr nx k 0 0) [] [(nx, some (.cells k [cs]))] (nx + 1) :=
 ⟨Nat.le_succ _, fun F φ s1 w ρ' _ hs hf hρ => by
   obtain ⟨v, h1, h2⟩ := h F φ s1 w ρ' hs hρ
   rw [h1]
   have hfx := hf nx (Nat.le_refl _) (Nat.lt_succ_self _)
   refine Jg8 hs hfx _ (.cells k [cs]) ?_ ?_
   . refine ⟨w.heap.size, 0, v.cells, T, Jbp, heap_alloc_new, ?_⟩
     have h3 : Jau φ (ownF F φ s1) w k [cs] v.cells 0 := Jv6 hk h2
     exact h3.mono (Jc9 hfx) (Je6 _ _)
   . have := VR.ptr (φ := putP φ nx (w.heap.size, 0)) (own := ownF F (putP φ nx (w.heap.size, 0)) ((nx, some (.cells k [cs])) :: s1)) (w := w.alloc (.cells v.cells T)) nx k 0 0 w.heap.size 0 Jbp
     simpa using this⟩
theorem Jzx {t : Nat} {y : TyI} (ho : o.op = .alloc t) (hy : tyOf P t = some y) (hl : y.zero.length = y.size) : OpOK P G o ρ s nx (.ptr nx y.size 0 0) [] [(nx, some (.cells y.size [y.zero]))] (nx + 1) :=
 Jrf (T := t) (Nat.le_of_eq hl) fun F φ s1 w ρ' _ hρ => by
   obtain ⟨i, d, z, hs⟩ := Jav hy
   refine ⟨z, ?_, ?_⟩
   . simp only [execOp, ho, Instr.alloc, Sem.run_bind, hs.zeroValue, Result.andThen_ok]
     simp [newVar, newRow]
   . rw [hs.zeros]
     refine ⟨by simp, fun i c v hc hv => ?_⟩
     simp only [List.getElem?_map, Option.map_eq_some_iff] at hc
     obtain ⟨u, h1, rfl⟩ := hc
     rw [hv] at h1; cases h1
     exact VR.cvCell v
theorem Jz8 {t k : Nat} {x : Operand} (ho : o.op = .box t x) (hl : (ρ x).cells.length = k) (h1 : (ρ x).cellsOk = true) : OpOK P G o ρ s nx (.ptr nx k 0 0) [] [(nx, some (.cells k [(ρ x).cells]))] (nx + 1) :=
 Jrf (T := t) (Nat.le_of_eq hl) fun F φ s1 w ρ' _ hρ => by
   refine ⟨ρ' x, ?_, ?_⟩
   . simp [execOp, ho, Instr.box, newVar, newRow]
   . exact (hρ x (by simp [ho, Op.operands])).cells' h1
theorem VR.ptr_inv {φ own w b k i j v} (h : VR φ own w (.ptr b k i j) v) : ∃ β δ, φ b = some (β, δ) /\ v = .pointer (some ⟨β, δ + i * k + j, none⟩) := by
 cases h with
 | ptr b k i j β δ hφ => exact ⟨β, δ, hφ, rfl⟩
theorem VR.iptr_inv {φ own w k rows i j v} (h : VR φ own w (.iptr k rows i j) v) : ∃ β o, β < w.heap.size /\ ¬ own β /\ Jbq own w k rows β o /\ v = .pointer (some ⟨β, o + i * k + j, none⟩) := by
 cases h with
 | iptr k rows i j β o hβ hown h => exact ⟨β, o, hβ, hown, h, rfl⟩
theorem Jmh {t : Nat} {y : TyI} (hy : tyOf P t = some y) (w : World) (a : Addr) (cs : List Value) (hl : cs.length = y.size)
   (h : ∀ (i : Nat) v, cs[i]? = some v -> w.cell? (a.add i) = some v) :
   (y.agg = true -> (loadVar t a).run P w = .ok (.agg ⟨cs⟩) w) /\ (∀ v, y.agg = false -> w.cell? a = some v -> (loadVar t a).run P w = .ok v w) := by
 obtain ⟨i, d, z, hs⟩ := Jav hy
 constructor
 . intro ha
   simp only [loadVar, Sem.run_bind, hs.isAgg, Result.andThen_ok, ha, if_true, hs.sizeOf]
   rw [<- hl, run_loadCells_list w a cs h]
   rfl
 . intro v ha hc
   simp only [loadVar, Sem.run_bind, hs.isAgg, Result.andThen_ok, ha, Bool.false_eq_true, if_false, run_load, hc]
end
end Go.Am
namespace Go.Am
open Go
section
variable {P : Program} {G : Jac} {o : Oper} {ρ : Operand -> AV} {s : Store} {nx : Nat}
theorem Jet {w : World} {β n : Nat} {arr : Array Value} {T : TypeId} {fz : Nat × Nat} (h : w.heap[β]? = some (Obj.cells arr T fz)) : w.cell? ⟨β, n, none⟩ = arr[n]? := by
 simp [World.cell?, h]
theorem addr_add (β o n : Nat) : (⟨β, o, none⟩ : Addr).add n = ⟨β, o + n, none⟩ := by
 unfold Addr.add; split <;> simp_all
theorem stretch {φ : Places} {own : Nat -> Prop} {w : World} {f : Nat -> Option Value} {row : List AV} {j n : Nat} (hn : j + n <= row.length)
   (h : ∀ m x, row[m]? = some x -> ∃ v, f m = some v /\ VR φ own w x v) :
   ∃ vs : List Value, vs.length = n /\ (∀ (i : Nat) v, vs[i]? = some v -> f (j + i) = some v) /\ Jbd φ own w ((row.drop j).take n) vs := by
 have key : ∀ i, i < n -> ∃ v, f (j + i) = some v /\ VR φ own w (row[j + i]?.getD .any) v := fun i hi => by
   have hlt : j + i < row.length := by omega
   obtain ⟨v, h1, h2⟩ := h (j + i) row[j + i] (List.getElem?_eq_getElem hlt)
   exact ⟨v, h1, by simpa [List.getElem?_eq_getElem hlt] using h2⟩
 refine ⟨(List.range n).map fun i => (f (j + i)).getD undef, by simp, ?_, by simp; omega, ?_⟩
 . intro i v hv
   simp only [List.getElem?_map, Option.map_eq_some_iff] at hv
   obtain ⟨m, hm, rfl⟩ := hv
   have hm' := gsI.1 hm
   obtain ⟨h1, h2⟩ := hm'
   simp at h1 h2
   subst h2
   obtain ⟨v, h3, _⟩ := key i h1
   simp [h3]
 . intro i c v hc hv
   simp only [List.getElem?_map, Option.map_eq_some_iff] at hv
   obtain ⟨m, hm, rfl⟩ := hv
   have hm' := gsI.1 hm
   obtain ⟨h1, h2⟩ := hm'
   simp at h1 h2
   subst h2
   obtain ⟨v, h3, h4⟩ := key i h1
   rw [h3]
   rw [List.getElem?_take_of_lt h1, List.getElem?_drop] at hc
   rw [hc] at h4
   exact h4
theorem J0p {t : Nat} {y : TyI} {x : Operand} {K : KT} (ho : o.op = .load t x) (hy : tyOf P t = some y) (h : Jd6 y (ρ x) s nx K) :
   ∃ v rd up nx', K v rd up nx' /\ OpOK P G o ρ s nx v rd up nx' := by
 unfold Jd6 at h
 simp only [Jcj, Jaz] at h
 split at h
 . rename_i b k i j hx
   obtain ⟨rows, hg, row, hr, h⟩ := h
   have base : ∀ (F : Nat -> Prop) (φ : Places) (s1 : Store) (w : World) (ρ' : Operand -> Value), Jb1 s s1 [b] -> SR G F φ s1 w ->
       (∀ x ∈ o.op.operands.toList, VR φ (ownF F φ s1) w (ρ x) (ρ' x)) -> ∃ β c, ρ' x = .pointer (some ⟨β, c + j, none⟩) /\ execOp ρ' o = (do pure (.value (<- Instr.loadAt t (ρ' x)))) /\
         ∀ m z, row[m]? = some z -> ∃ v, w.cell? ⟨β, c + m, none⟩ = some v /\ VR φ (ownF F φ s1) w z v := by
     intro F φ s1 w ρ' ha hs hρ
     have hv := hρ x (by simp [ho, Op.operands])
     rw [hx] at hv
     obtain ⟨β, δ, hφ, hv⟩ := hv.ptr_inv
     have hb := hs.blk b (.cells k rows) ((ha b (by simp)).trans hg)
     obtain ⟨β', δ', arr, T, h1, h2, h3⟩ := hb
     rw [hφ] at h1; cases h1
     refine ⟨β, δ + i * k, hv, by simp [execOp, ho], fun m z hm => ?_⟩
     obtain ⟨_, v, h4, h5⟩ := h3 i m row z hr hm
     exact ⟨v, by rw [Jet h2]; exact h4, h5⟩
   split at h
   . rename_i hagg
     obtain ⟨hlen, hK⟩ := h
     refine ⟨_, _, _, _, hK, OpOK.same fun F φ s1 w ρ' ha hs hρ => ?_⟩
     obtain ⟨β, c, hv, hexec, hcells⟩ := base F φ s1 w ρ' ha hs hρ
     obtain ⟨vs, hl, h1, h2⟩ := stretch (f := fun m => w.cell? ⟨β, c + m, none⟩) hlen hcells
     refine ⟨.agg ⟨vs⟩, ?_, .agg _ _ h2.1 h2.2⟩
     rw [hexec, hv]
     have hr := (Jmh hy w ⟨β, c + j, none⟩ vs hl (fun m v hm => by rw [addr_add, Nat.add_assoc]; exact h1 m v hm)).1 hagg
     simp [Instr.loadAt, Instr.sureAddr, hr]
   . rename_i hagg
     obtain ⟨z, hz, hK⟩ := h
     refine ⟨_, _, _, _, hK, OpOK.same fun F φ s1 w ρ' ha hs hρ => ?_⟩
     obtain ⟨β, c, hv, hexec, hcells⟩ := base F φ s1 w ρ' ha hs hρ
     obtain ⟨v, h1, h2⟩ := hcells j z hz
     refine ⟨v, ?_, h2⟩
     rw [hexec, hv]
     obtain ⟨i', d, zz, hsp⟩ := Jav hy
     have ha' : y.agg = false := by simpa using hagg
     simp [Instr.loadAt, Instr.sureAddr, loadVar, hsp.isAgg, ha', h1]
 . rename_i k rows i j hx
   obtain ⟨row, hr, h⟩ := h
   have base : ∀ (F : Nat -> Prop) (φ : Places) (s1 : Store) (w : World) (ρ' : Operand -> Value), SR G F φ s1 w ->
       (∀ x ∈ o.op.operands.toList, VR φ (ownF F φ s1) w (ρ x) (ρ' x)) -> ∃ β c, ρ' x = .pointer (some ⟨β, c + j, none⟩) /\ execOp ρ' o = (do pure (.value (<- Instr.loadAt t (ρ' x)))) /\
         ∀ m z, (row.map AV.p)[m]? = some z -> ∃ v, w.cell? ⟨β, c + m, none⟩ = some v /\ VR φ (ownF F φ s1) w z v := by
     intro F φ s1 w ρ' hs hρ
     have hv := hρ x (by simp [ho, Op.operands])
     rw [hx] at hv
     obtain ⟨β, c, hβ, hown, hrows, hv⟩ := hv.iptr_inv
     refine ⟨β, c + i * k, hv, by simp [execOp, ho], fun m z hm => ?_⟩
     simp only [List.getElem?_map, Option.map_eq_some_iff] at hm
     obtain ⟨u, hm, rfl⟩ := hm
     obtain ⟨v, h4, h5⟩ := hrows i m row u hr hm
     exact ⟨v, h4, .p _ _ h5⟩
   split at h
   . rename_i hagg
     obtain ⟨hlen, hK⟩ := h
     refine ⟨_, _, _, _, hK, OpOK.same fun F φ s1 w ρ' _ hs hρ => ?_⟩
     obtain ⟨β, c, hv, hexec, hcells⟩ := base F φ s1 w ρ' hs hρ
     obtain ⟨vs, hl, h1, h2⟩ := stretch (f := fun m => w.cell? ⟨β, c + m, none⟩) (row := row.map AV.p) (j := j) (n := y.size) (by simpa using hlen) hcells
     refine ⟨.agg ⟨vs⟩, ?_, .agg _ _ (by simpa [List.map_take, List.map_drop] using h2.1) (by simpa only [List.map_take, List.map_drop] using h2.2)⟩
     rw [hexec, hv]
     have hr := (Jmh hy w ⟨β, c + j, none⟩ vs hl (fun m v hm => by rw [addr_add, Nat.add_assoc]; exact h1 m v hm)).1 hagg
     simp [Instr.loadAt, Instr.sureAddr, hr]
   . rename_i hagg
     obtain ⟨z, hz, hK⟩ := h
     refine ⟨_, _, _, _, hK, OpOK.same fun F φ s1 w ρ' _ hs hρ => ?_⟩
     obtain ⟨β, c, hv, hexec, hcells⟩ := base F φ s1 w ρ' hs hρ
     obtain ⟨v, h1, h2⟩ := hcells j (.p z) (by simp [hz])
     refine ⟨v, ?_, h2⟩
     rw [hexec, hv]
     obtain ⟨i', d, zz, hsp⟩ := Jav hy
     have ha' : y.agg = false := by simpa using hagg
     simp [Instr.loadAt, Instr.sureAddr, loadVar, hsp.isAgg, ha', h1]
 . exact h.elim
theorem Jiq {α : Type} : ∀ (ys xs : List α) (j : Nat), (lay xs j ys).length = xs.length
 | [], _, _ => rfl
 | y :: ys, xs, j => by rw [lay, Jiq ys]; simp
theorem Jft {α : Type} : ∀ (ys xs : List α) (j m : Nat), j + ys.length <= xs.length ->
   (lay xs j ys)[m]? = if j <= m /\ m < j + ys.length then ys[m - j]? else xs[m]?
 | [], xs, j, m, _ => by
   have : ¬ (j <= m /\ m < j + ([] : List α).length) := by simp only [List.length_nil]; omega
   rw [if_neg this]
   rfl
 | y :: ys, xs, j, m, h => by
   rw [lay, Jft ys _ _ _ (by simp at h ⊢; omega)]
   simp at h ⊢
   by_cases h1 : j + 1 <= m /\ m < j + 1 + ys.length
   . rw [if_pos h1, if_pos (by omega)]
     rw [show m - j = (m - (j + 1)) + 1 from by omega]
     simp
   . rw [if_neg h1]
     by_cases h2 : m = j
     . subst h2
       rw [if_pos (by omega), List.getElem?_set_self (by omega)]
       simp
     . rw [if_neg (by omega), List.getElem?_set_ne (Ne.symm h2)]
end
end Go.Am
namespace Go.Am
open Go
section
variable {P : Program} {G : Jac} {o : Oper} {ρ : Operand -> AV} {s : Store} {nx : Nat}
theorem J15 {w : World} {g : Nat} {arr arr0 : Array Value} {T : TypeId} (h : w.heap[g]? = some (Obj.cells arr0 T (0, 0))) : w.setRow g arr = Ja7 w g arr T := by
 have hlt : g < w.heap.size := (Array.getElem?_eq_some_iff.1 h).1
 have hv : w.heap[g] = Obj.cells arr0 T (0, 0) := (Array.getElem?_eq_some_iff.1 h).2
 unfold World.setRow Ja7
 cases w with
 | mk heap tape drawn os output =>
   congr 1
   apply Array.ext
   . simp
   . intro k h1 h2
     by_cases hk : g = k
     . subst hk
       simp at hv
       simp [Array.getElem_modify, hv]
     . rw [Array.getElem_modify_of_ne hk, Array.getElem_setIfInBounds_ne _ hk]
def splice (arr : Array Value) (o : Nat) (vs : List Value) : Array Value := (arr.toList.take o ++ vs ++ arr.toList.drop (o + vs.length)).toArray
theorem Jgc {arr : Array Value} {o : Nat} {vs : List Value} (h : o + vs.length <= arr.size) : (splice arr o vs).size = arr.size := by
 simp [splice]; omega
theorem Jgb {arr : Array Value} {o : Nat} {vs : List Value} (h : o + vs.length <= arr.size) (m : Nat) :
   (splice arr o vs)[m]? = if o <= m /\ m < o + vs.length then vs[m - o]? else arr[m]? := by
 unfold splice
 rw [List.getElem?_toArray]
 have ho : (arr.toList.take o).length = o := by simp; omega
 by_cases h1 : m < o
 . rw [if_neg (by omega), List.append_assoc, List.getElem?_append_left (by rw [ho]; exact h1), List.getElem?_take_of_lt h1]
   simp
 . by_cases h2 : m < o + vs.length
   . rw [if_pos ⟨by omega, h2⟩, List.append_assoc, List.getElem?_append_right (by rw [ho]; omega), ho, List.getElem?_append_left (by omega)]
   . rw [if_neg (by omega), List.append_assoc, List.getElem?_append_right (by rw [ho]; omega), ho, List.getElem?_append_right (by omega), List.getElem?_drop]
     simp
     congr 1
     omega
theorem Jhe {w : World} {β off : Nat} {arr : Array Value} {T : TypeId} (h : w.heap[β]? = some (Obj.cells arr T (0, 0))) (vs : List Value) (hl : off + vs.length <= arr.size)
   (h1 : ∀ v ∈ vs, v.oneCell' = true) : (storeCells ⟨β, off, none⟩ vs).run P w = .ok () (Ja7 w β (splice arr off vs) T) := by
 have := run_storeCells_at P β off T vs 0 arr w h (by simpa using hl) h1
 rw [this, J15 h]
 simp [splice]
theorem Jau.set {φ φ' : Places} {own own' : Nat -> Prop} {w w' : World} (hφ : φ.le φ') (st : Step own own' w w') {k δ i j : Nat} {rows : List (List AV)} {row cs : List AV} {arr : Array Value} {vs : List Value}
   (h : Jau φ own w k rows arr δ) (hr : rows[i]? = some row) (hj : j + cs.length <= row.length) (hc : Jbd φ own w cs vs) (hs : δ + i * k + j + vs.length <= arr.size) :
   Jau φ' own' w' k (rows.set i (lay row j cs)) (splice arr (δ + i * k + j) vs) δ := by
 intro i' j' row' x hr' hx
 have hlen : vs.length = cs.length := hc.1
 have hkey : i' = i -> row' = lay row j cs := fun e => by
   subst e
   rw [List.getElem?_set_self (gsI.1 hr).1] at hr'
   exact (Option.some.inj hr').symm
 have hold : ∀ r z, rows[i']? = some r -> r[j']? = some z -> j' < k := fun r z h1 h2 => (h i' j' r z h1 h2).1
 have hjk : j' < k := by
   by_cases e : i' = i
   . have := hkey e
     subst this
     have hlt : j' < row.length := by
       have := (gsI.1 hx).1
       rwa [Jiq] at this
     exact hold row row[j'] (by rw [e]; exact hr) (List.getElem?_eq_getElem hlt)
   . rw [List.getElem?_set_ne (Ne.symm e)] at hr'
     exact hold row' x hr' hx
 refine ⟨hjk, ?_⟩
 have hrowk : row.length <= k := by
   rcases Nat.eq_zero_or_pos row.length with h0 | h0
   . omega
   . have := (h i (row.length - 1) row row[row.length - 1] hr (List.getElem?_eq_getElem (by omega))).1
     omega
 rw [Jgb hs]
 by_cases e : i' = i
 . have := hkey e
   subst this
   subst e
   rw [Jft _ _ _ _ hj] at hx
   by_cases hin : j <= j' /\ j' < j + cs.length
   . rw [if_pos hin] at hx
     rw [if_pos (by omega), show δ + i' * k + j' - (δ + i' * k + j) = j' - j from by omega]
     obtain ⟨v, h1, h2⟩ := hc.at hx
     exact ⟨v, h1, h2.mono hφ st⟩
   . rw [if_neg hin] at hx
     rw [if_neg (by omega)]
     obtain ⟨_, v, h1, h2⟩ := h i' j' row x hr hx
     exact ⟨v, h1, h2.mono hφ st⟩
 . rw [List.getElem?_set_ne (Ne.symm e)] at hr'
   obtain ⟨_, v, h1, h2⟩ := h i' j' row' x hr' hx
   have : ¬ (δ + i * k + j <= δ + i' * k + j' /\ δ + i' * k + j' < δ + i * k + j + vs.length) := by
     rintro ⟨h3, h4⟩
     rcases Nat.lt_or_gt_of_ne e with h5 | h5
     . have : (i' + 1) * k <= i * k := Nat.mul_le_mul_right k h5
       rw [Nat.add_mul, Nat.one_mul] at this
       omega
     . have : (i + 1) * k <= i' * k := Nat.mul_le_mul_right k h5
       rw [Nat.add_mul, Nat.one_mul] at this
       omega
   rw [if_neg this]
   exact ⟨v, h1, h2.mono hφ st⟩
theorem J07 {t : Nat} {y : TyI} {x z : Operand} {K : KT} (ho : o.op = .store t x z) (hy : tyOf P t = some y) (h : Jjq y (ρ x) (ρ z) s nx K) :
   ∃ v rd up nx', K v rd up nx' /\ OpOK P G o ρ s nx v rd up nx' := by
 unfold Jjq at h
 simp only [Jcj, Jaz] at h
 split at h
 . rename_i b k i j hx
   obtain ⟨rows, hg, row, hr, hl, h0, hj, h1, hK⟩ := h
   refine ⟨_, _, _, _, hK, Nat.le_refl _, fun F φ s1 w ρ' ha hs hf hρ => ?_⟩
   have hv := hρ x (by simp [ho, Op.operands])
   rw [hx] at hv
   obtain ⟨β, δ, hφ, hv⟩ := hv.ptr_inv
   have hg1 : get s1 b = some (.cells k rows) := (ha b (by simp)).trans hg
   obtain ⟨β', δ', arr, T, e1, e2, e3⟩ := hs.blk b (.cells k rows) hg1
   rw [hφ] at e1; cases e1
   obtain ⟨hc, hone⟩ := (hρ z (by simp [ho, Op.operands])).cells h1
   have hlen : (ρ' z).cells.toList.length = y.size := hc.1.trans hl
   have hsz : δ + i * k + j + (ρ' z).cells.toList.length <= arr.size := by
     obtain ⟨_, v, h4, _⟩ := e3 i (j + y.size - 1) row row[j + y.size - 1] hr (List.getElem?_eq_getElem (by omega))
     have := (Array.getElem?_eq_some_iff.1 h4).1
     rw [hlen]; omega
   obtain ⟨i', d, zz, hsp⟩ := Jav hy
   have hrun : (execOp ρ' o).run P w = .ok .skip (Ja7 w β (splice arr (δ + i * k + j) (ρ' z).cells.toList) T) := by
     have hne : ¬ ((ρ' z).cells.size ≠ y.size) := by simpa using hlen
     simp only [execOp, ho, Instr.storeAt, hv, Instr.sureAddr, storeVar, Sem.run_bind, Sem.run_pure, Result.andThen_ok, hsp.sizeOf, if_neg hne]
     rw [Jhe e2 _ hsz hone]
     rfl
   rw [hrun]
   have ht := hs.turn (x := .cells k (rows.set i (lay row j (ρ z).cells))) hg1 hφ e2 (Jgc hsz) (fun st =>
     ⟨β, δ, _, T, hφ, Je8 (Array.getElem?_eq_some_iff.1 e2).1, e3.set (fun _ _ h => h) st hr (hl ▸ hj) hc hsz⟩)
   exact ⟨φ, fun _ _ h => h, fun _ _ => rfl, ht.1, .any _, ht.2⟩
 . exact h.elim
end
end Go.Am
namespace Go.Am
open Go
section
variable {P : Program} {G : Jac} {o : Oper} {ρ : Operand -> AV} {s : Store} {nx : Nat}
theorem Je7 {o : Option TypeDesc} {d : TD} (h : Jhi o = d) (h1 : ∀ n e, d ≠ .arrp n e) (h2 : d ≠ .other) : False := by
 rcases Jss o with ⟨n, e, _, h3⟩ | h3
 . exact h1 n e (h.symm.trans h3)
 . exact h2 (h.symm.trans h3)
theorem Jmu {d : TypeDesc} {fs : List (Nat × Nat × Bool)} (h : tdOf P d = .struct fs) : ∃ fields, d = .struct fields /\
   fs = fields.toList.map fun f => (f.offset, if (P.underlying f.type).isSome then P.cellsOf f.type else 0, ((P.underlying f.type).map Jfs).getD false) := by
 cases d <;> simp [tdOf] at h ⊢
 case pointer => exact Je7 h (by simp) (by simp)
 exact h.symm
theorem Jbo {d : TypeDesc} {e : Nat} (h : tdOf P d = .slice e) : d = .slice e := by
 cases d <;> simp [tdOf] at h ⊢
 case pointer => exact Je7 h (by simp) (by simp)
 exact h
theorem Jgg {d : TypeDesc} {n e : Nat} (h : tdOf P d = .array n e) : d = .array n e := by
 cases d <;> simp [tdOf] at h ⊢
 case pointer => exact Je7 h (by simp) (by simp)
 exact h
theorem Jsu {d : TypeDesc} {k : IntKind} (h : tdOf P d = .int k) : d = .int k := by
 cases d <;> simp [tdOf] at h ⊢
 case pointer => exact Je7 h (by simp) (by simp)
 exact h
theorem Jgh {d : TypeDesc} {k e : Nat} (h : tdOf P d = .map k e) : d = .map k e := by
 cases d <;> simp [tdOf] at h ⊢
 case pointer => exact Je7 h (by simp) (by simp)
 exact h
theorem Jgi {d : TypeDesc} (h : tdOf P d = .str) : d = .string := by
 cases d <;> simp [tdOf] at h ⊢
 case pointer => exact Je7 h (by simp) (by simp)
theorem J2q {d : TypeDesc} (h : tdOf P d = .bool) : d = .bool := by
 cases d <;> simp [tdOf] at h ⊢
 case pointer => exact Je7 h (by simp) (by simp)
theorem J2p {d : TypeDesc} {n e : Nat} (h : tdOf P d = .arrp n e) : ∃ a, d = .pointer a /\ P.underlying a = some (.array n e) := by
 cases d <;> simp [tdOf] at h ⊢
 case pointer a =>
   rcases Jss (P.underlying a) with ⟨n', e', h1, h3⟩ | h3
   . rw [h3] at h; cases h; exact h1
   . rw [h3] at h; cases h
theorem Jk7 {fields : Array Field} {f : Nat} {p : Nat × Nat × Bool}
   (h : (fields.toList.map fun f => (f.offset, if (P.underlying f.type).isSome then P.cellsOf f.type else 0, ((P.underlying f.type).map Jfs).getD false))[f]? = some p) (h0 : p.2.1 ≠ 0) :
   ∃ fd, fields[f]? = some fd /\ p.1 = fd.offset /\ (∀ w, (sizeOf fd.type).run P w = .ok p.2.1 w) /\ (∀ w, (isAgg fd.type).run P w = .ok p.2.2 w) := by
 simp only [List.getElem?_map, Option.map_eq_some_iff] at h
 obtain ⟨fd, h1, rfl⟩ := h
 refine ⟨fd, by simpa using h1, rfl, ?_, ?_⟩
 . intro w
   by_cases hu : (P.underlying fd.type).isSome = true
   . simp only [hu, if_true] at h0 ⊢
     unfold Program.cellsOf at h0 ⊢
     cases hi : P.info? fd.type with
     | none => simp [hi] at h0
     | some i => simp [sizeOf, typeInfo, hi]
   . simp [hu] at h0
 . intro w
   by_cases hu : (P.underlying fd.type).isSome = true
   . obtain ⟨d, hd⟩ := Option.isSome_iff_exists.1 hu
     simp only [isAgg, Sem.run_bind, run_underlying hd, Result.andThen_ok, hd, Option.map_some, Option.getD_some]
     cases d <;> rfl
   . simp [hu] at h0
theorem J0m {t f : Nat} {y : TyI} {x : Operand} {K : KT} (ho : o.op = .fieldAddr t x f) (hy : tyOf P t = some y) (h : Jjm y.td (ρ x) f nx K) :
   ∃ v rd up nx', K v rd up nx' /\ OpOK P G o ρ s nx v rd up nx' := by
 unfold Jjm at h
 simp only [Jaz] at h
 obtain ⟨i, d, z, hs⟩ := Jav hy
 split at h
 . rename_i fs htd
   rw [hs.td] at htd
   obtain ⟨fields, rfl, rfl⟩ := Jmu htd
   obtain ⟨p, hp, h0, h⟩ := h
   obtain ⟨fd, h1, h2, h3, _⟩ := Jk7 hp h0
   have base : ∀ (ρ' : Operand -> Value) (w : World) (a : Addr), ρ' x = .pointer (some a) -> (execOp ρ' o).run P w = .ok (.value (.pointer (some (a.add p.1)))) w := by
     intro ρ' w a ha
     simp only [execOp, ho, Instr.fieldAt, Sem.run_bind, hs.underlying, Result.andThen_ok, h1, ha, Instr.sureAddr, Sem.run_pure, fieldPlace, h3, if_neg h0, h2]
   split at h
   . rename_i b k i j hx
     refine ⟨_, _, _, _, h, OpOK.same fun F φ s1 w ρ' _ _ hρ => ?_⟩
     have hv := hρ x (by simp [ho, Op.operands])
     rw [hx] at hv
     obtain ⟨β, δ, hφ, hv⟩ := hv.ptr_inv
     refine ⟨_, base ρ' w _ hv, ?_⟩
     rw [addr_add, Nat.add_assoc]
     exact .ptr b k i (j + p.1) β δ hφ
   . rename_i k rows i j hx
     refine ⟨_, _, _, _, h, OpOK.same fun F φ s1 w ρ' _ _ hρ => ?_⟩
     have hv := hρ x (by simp [ho, Op.operands])
     rw [hx] at hv
     obtain ⟨β, c, hβ, hown, hrows, hv⟩ := hv.iptr_inv
     refine ⟨_, base ρ' w _ hv, ?_⟩
     rw [addr_add, Nat.add_assoc]
     exact .iptr k rows i (j + p.1) β c hβ hown hrows
   . exact h.elim
 . exact h.elim
theorem Jf8 {t : Nat} {agg : Bool} {size : Nat} {φ own w cs} {vs : List Value} {off : Nat} {K : KT} (hA : ∀ w, (isAgg t).run P w = .ok agg w) (hS : ∀ w, (sizeOf t).run P w = .ok size w)
   (h : Jbw agg size cs off nx K) : ∃ v, K v [] [] nx /\ (Jbd φ own w cs vs -> ∃ v', (part t ⟨vs⟩ off).run P w = .ok v' w /\ VR φ own w v v') := by
 unfold Jbw at h
 simp only [Jaz] at h
 split at h
 . rename_i ha
   obtain ⟨hl, hK⟩ := h
   refine ⟨_, hK, fun hc => ⟨.agg ⟨(vs.drop off).take size⟩, ?_, ?_⟩⟩
   . subst ha
     simp only [part, Sem.run_bind, hA, Result.andThen_ok, if_true, hS, Sem.run_pure]
     congr 2
     apply Array.ext'
     simp
   . refine .agg _ _ (by simp [hc.1]) fun i c v h1 h2 => ?_
     have hi : i < size := by
       have := (gsI.1 h1).1
       simp at this; omega
     rw [List.getElem?_take_of_lt hi, List.getElem?_drop] at h1 h2
     exact hc.2 _ _ _ h1 h2
 . rename_i ha
   obtain ⟨x, hx, hK⟩ := h
   have ha' : agg = false := by simpa using ha
   subst ha'
   refine ⟨_, hK, fun hc => ?_⟩
   obtain ⟨v, h1, h2⟩ := hc.at hx
   refine ⟨v, ?_, h2⟩
   simp only [part, Sem.run_bind, hA, Result.andThen_ok, Bool.false_eq_true, if_false]
   have : (⟨vs⟩ : Array Value)[off]? = some v := by simpa using h1
   simp [this]
theorem J0l {t f : Nat} {y : TyI} {x : Operand} {K : KT} {fs : List (Nat × Nat × Bool)} {cs : List AV} {p : Nat × Nat × Bool} (ho : o.op = .field t x f) (hy : tyOf P t = some y)
   (htd : y.td = .struct fs) (hx : ρ x = .agg cs) (hp : fs[f]? = some p) (h0 : p.2.1 ≠ 0) (h : Jbw p.2.2 p.2.1 cs p.1 nx K) :
   ∃ v rd up nx', K v rd up nx' /\ OpOK P G o ρ s nx v rd up nx' := by
 obtain ⟨i, d, z, hs⟩ := Jav hy
 rw [hs.td] at htd
 obtain ⟨fields, rfl, rfl⟩ := Jmu htd
 obtain ⟨fd, h1, h2, h3, h4⟩ := Jk7 hp h0
 have key := fun (φ : Places) (own : Nat -> Prop) (w : World) (vs : List Value) => Jf8 (P := P) (φ := φ) (own := own) (w := w) (vs := vs) h4 h3 h
 obtain ⟨v, hK, _⟩ := key (fun _ => none) (fun _ => False) default []
 unfold Jbw at h
 simp only [Jaz] at h
 split at h
 . obtain ⟨hl, hK⟩ := h
   rename_i ha
   refine ⟨_, _, _, _, hK, OpOK.same fun F φ s1 w ρ' _ _ hρ => ?_⟩
   have hv := hρ x (by simp [ho, Op.operands])
   rw [hx] at hv
   obtain ⟨vs, hv, hc⟩ := hv.agg_inv
   obtain ⟨v0, e1, e2⟩ := Jf8 (P := P) (φ := φ) (own := ownF F φ s1) (w := w) (vs := vs) (K := fun v _ _ _ => v = .agg ((cs.drop p.1).take p.2.1)) (nx := nx) h4 h3 (by unfold Jbw; rw [if_pos ha]; exact ⟨hl, rfl⟩)
   obtain ⟨v', e3, e4⟩ := e2 hc
   subst e1
   refine ⟨v', ?_, e4⟩
   simp only [execOp, ho, Instr.field, Sem.run_bind, hs.underlying, Result.andThen_ok, h1, hv, asAgg, Sem.run_pure]
   rw [<- h2, e3]
   rfl
 . obtain ⟨u, hu, hK⟩ := h
   rename_i ha
   refine ⟨_, _, _, _, hK, OpOK.same fun F φ s1 w ρ' _ _ hρ => ?_⟩
   have hv := hρ x (by simp [ho, Op.operands])
   rw [hx] at hv
   obtain ⟨vs, hv, hc⟩ := hv.agg_inv
   obtain ⟨v0, e1, e2⟩ := Jf8 (P := P) (φ := φ) (own := ownF F φ s1) (w := w) (vs := vs) (K := fun v _ _ _ => v = u) (nx := nx) h4 h3 (by unfold Jbw; rw [if_neg ha]; exact Jaz.2 ⟨u, hu, rfl⟩)
   obtain ⟨v', e3, e4⟩ := e2 hc
   subst e1
   refine ⟨v', ?_, e4⟩
   simp only [execOp, ho, Instr.field, Sem.run_bind, hs.underlying, Result.andThen_ok, h1, hv, asAgg, Sem.run_pure]
   rw [<- h2, e3]
   rfl
theorem Jco {t : Nat} {y : TyI} (h : tyOf P t = some y) (w : World) : (sizeOf t).run P w = .ok y.size w := by
 obtain ⟨i, d, z, hs⟩ := Jav h
 exact hs.sizeOf w
theorem VR.lst_addr {φ own w k rows v} (h : VR φ own w (.p (.lst k rows)) v) (hne : rows ≠ []) : ∃ β c cap, v = .slice (some ⟨β, c, none⟩) rows.length cap /\ rows.length <= cap /\ β < w.heap.size /\ ¬ own β /\ Jbq own w k rows β c := by
 rcases h.p_inv.lst_inv with ⟨h1, _⟩ | h1
 . exact absurd h1 hne
 . obtain ⟨β, c, cap, h1, h2, h3, h4, h5⟩ := h1
   exact ⟨β, c, cap, h1, h2, h3, h4, h5⟩
theorem VR.ref_inv {φ own w b k i n c v} (h : VR φ own w (.ref b k i n c) v) : ∃ β δ cap, φ b = some (β, δ) /\ (∀ c', c = some c' -> cap = c') /\ n <= cap /\
   (∃ arr T, w.heap[β]? = some (Obj.cells arr T (0, 0)) /\ δ + (i + cap) * k <= arr.size) /\ v = .slice (some ⟨β, δ + i * k, none⟩) n cap := by
 cases h with
 | ref b k i n c β δ cap hφ hc hn room => exact ⟨β, δ, cap, hφ, hc, hn, room, rfl⟩
theorem VR.acc_inv {φ own w b k n v} (h : VR φ own w (.acc b k n) v) (h0 : 0 < n) : ∃ β δ cap, φ b = some (β, δ) /\ (n <= cap /\ ∃ arr T, w.heap[β]? = some (Obj.cells arr T (0, 0)) /\ δ + cap * k <= arr.size) /\ v = .slice (some ⟨β, δ, none⟩) n cap := by
 cases h with
 | acc0 => omega
 | acc b k n β δ cap hφ _ hn room => exact ⟨β, δ, cap, hφ, ⟨hn, room⟩, rfl⟩
theorem Jrb {t e : Nat} {y ye : TyI} {x ix : Operand} {td : TD} {K : KT} (ho : o.op = .indexAddr t x ix) (hy : tyOf P t = some y) (hye : tyOf P e = some ye)
   (htd : y.td = td) (hcase : td = .slice e \/ ∃ n, td = .array n e) (h : Jfa td ye.size (ρ x) (ρ ix) nx K) :
   ∃ v rd up nx', K v rd up nx' /\ OpOK P G o ρ s nx v rd up nx' := by
 obtain ⟨i, d, z, hs⟩ := Jav hy
 have hsz := fun w => Jco hye w
 rw [hs.td] at htd
 unfold Jfa at h
 split at h
 . rename_i a1 e1 k1 n k rows hix hx
   obtain rfl : e = e1 := by
     rcases hcase with h1 | ⟨n, h1⟩ <;> simp at h1
     exact h1.symm
   obtain rfl := Jbo htd
   obtain ⟨h1, h2, h3, hK⟩ := h
   refine ⟨_, _, _, _, hK, OpOK.same fun F φ s1 w ρ' _ _ hρ => ?_⟩
   have hv := hρ x (by simp [ho, Op.operands])
   have hv2 := hρ ix (by simp [ho, Op.operands])
   rw [hx] at hv
   rw [hix] at hv2
   have hne : rows ≠ [] := by rintro rfl; simp at h2; omega
   obtain ⟨β, c, cap, hv, _, hβ, hown, hrows⟩ := hv.lst_addr hne
   refine ⟨.pointer (some ⟨β, c + n.toNat * ye.size, none⟩), ?_, ?_⟩
   . simp only [execOp, ho, Instr.indexAt, hv2.int_inv, hv, asIntOf, Sem.run_bind, Sem.run_pure, Result.andThen_ok, hs.underlying]
     simp [h1, h2, hsz, addr_add]
   . subst h3
     have := VR.iptr (φ := φ) ye.size rows n.toNat 0 β c hβ hown hrows
     simpa using this
 . rename_i a1 e1 k1 n b k i' m c hix hx
   obtain rfl : e = e1 := by
     rcases hcase with h1 | ⟨n, h1⟩ <;> simp at h1
     exact h1.symm
   obtain rfl := Jbo htd
   obtain ⟨h1, h2, h3, hK⟩ := h
   refine ⟨_, _, _, _, hK, OpOK.same fun F φ s1 w ρ' _ _ hρ => ?_⟩
   have hv := hρ x (by simp [ho, Op.operands])
   have hv2 := hρ ix (by simp [ho, Op.operands])
   rw [hx] at hv
   rw [hix] at hv2
   obtain ⟨β, δ, cap, hφ, _, _, _, hv⟩ := hv.ref_inv
   refine ⟨.pointer (some ⟨β, δ + i' * k + n.toNat * ye.size, none⟩), ?_, ?_⟩
   . simp only [execOp, ho, Instr.indexAt, hv2.int_inv, hv, asIntOf, Sem.run_bind, Sem.run_pure, Result.andThen_ok, hs.underlying]
     simp [h1, h2, hsz, addr_add]
   . subst h3
     have := VR.ptr (own := ownF F φ s1) (w := w) b ye.size (i' + n.toNat) 0 β δ hφ
     rw [Nat.add_mul, <- Nat.add_assoc] at this
     simpa using this
 . rename_i a1 e1 k1 n b k m hix hx
   obtain rfl : e = e1 := by
     rcases hcase with h1 | ⟨n, h1⟩ <;> simp at h1
     exact h1.symm
   obtain rfl := Jbo htd
   obtain ⟨h1, h2, h3, hK⟩ := h
   refine ⟨_, _, _, _, hK, OpOK.same fun F φ s1 w ρ' _ _ hρ => ?_⟩
   have hv := hρ x (by simp [ho, Op.operands])
   have hv2 := hρ ix (by simp [ho, Op.operands])
   rw [hx] at hv
   rw [hix] at hv2
   obtain ⟨β, δ, cap, hφ, _, hv⟩ := hv.acc_inv (by omega)
   refine ⟨.pointer (some ⟨β, δ + n.toNat * ye.size, none⟩), ?_, ?_⟩
   . simp only [execOp, ho, Instr.indexAt, hv2.int_inv, hv, asIntOf, Sem.run_bind, Sem.run_pure, Result.andThen_ok, hs.underlying]
     simp [h1, h2, hsz, addr_add]
   . subst h3
     have := VR.ptr (own := ownF F φ s1) (w := w) b ye.size n.toNat 0 β δ hφ
     simpa using this
 . rename_i a1 len e1 k1 n b k i' j hix hx
   obtain rfl : e = e1 := by
     rcases hcase with h1 | ⟨n, h1⟩ <;> simp at h1
     exact h1.2.symm
   obtain rfl := Jgg htd
   obtain ⟨h1, h2, hK⟩ := h
   refine ⟨_, _, _, _, hK, OpOK.same fun F φ s1 w ρ' _ _ hρ => ?_⟩
   have hv := hρ x (by simp [ho, Op.operands])
   have hv2 := hρ ix (by simp [ho, Op.operands])
   rw [hx] at hv
   rw [hix] at hv2
   obtain ⟨β, δ, hφ, hv⟩ := hv.ptr_inv
   refine ⟨.pointer (some ⟨β, δ + i' * k + j + n.toNat * ye.size, none⟩), ?_, ?_⟩
   . simp only [execOp, ho, Instr.indexAt, hv2.int_inv, hv, asIntOf, Sem.run_bind, Sem.run_pure, Result.andThen_ok, hs.underlying, Instr.sureAddr]
     simp [h1, h2, hsz, addr_add]
   . rw [Nat.add_assoc]
     exact .ptr b k i' _ β δ hφ
 . rename_i a1 len e1 k1 n k rows i' j hix hx
   obtain rfl : e = e1 := by
     rcases hcase with h1 | ⟨n, h1⟩ <;> simp at h1
     exact h1.2.symm
   obtain rfl := Jgg htd
   obtain ⟨h1, h2, hK⟩ := h
   refine ⟨_, _, _, _, hK, OpOK.same fun F φ s1 w ρ' _ _ hρ => ?_⟩
   have hv := hρ x (by simp [ho, Op.operands])
   have hv2 := hρ ix (by simp [ho, Op.operands])
   rw [hx] at hv
   rw [hix] at hv2
   obtain ⟨β, c, hβ, hown, hrows, hv⟩ := hv.iptr_inv
   refine ⟨.pointer (some ⟨β, c + i' * k + j + n.toNat * ye.size, none⟩), ?_, ?_⟩
   . simp only [execOp, ho, Instr.indexAt, hv2.int_inv, hv, asIntOf, Sem.run_bind, Sem.run_pure, Result.andThen_ok, hs.underlying, Instr.sureAddr]
     simp [h1, h2, hsz, addr_add]
   . rw [Nat.add_assoc]
     exact .iptr k rows i' _ β c hβ hown hrows
 . exact h.elim
end
end Go.Am
namespace Go.Am
open Go
section
variable {P : Program} {G : Jac} {o : Oper} {ρ : Operand -> AV} {s : Store} {nx : Nat}
theorem Jld (off : Nat) : ∀ (vs : List Value) (cells : Array Value) (n : Nat),
   ((vs.zipIdx n).foldl (fun cs (p : Value × Nat) => cs.setIfInBounds (off + p.2) p.1) cells).toList = lay cells.toList (off + n) vs
 | [], _, _ => rfl
 | v :: vs, cells, n => by
   simp only [List.zipIdx_cons, List.foldl_cons, lay]
   rw [Jld off vs _ (n + 1)]
   simp [Nat.add_assoc]
theorem Jbd.lay {φ own w} {cs ds : List AV} {vs us : List Value} (h : Jbd φ own w cs vs) (k : Jbd φ own w ds us) {off : Nat} (hl : off + ds.length <= cs.length) :
   Jbd φ own w (lay cs off ds) (Am.lay vs off us) := by
 refine ⟨by rw [Jiq, Jiq]; exact h.1, fun i c v h1 h2 => ?_⟩
 rw [Jft _ _ _ _ hl] at h1
 rw [Jft _ _ _ _ (by rw [k.1, h.1]; exact hl), k.1] at h2
 by_cases hin : off <= i /\ i < off + ds.length
 . rw [if_pos hin] at h1 h2
   exact k.2 _ _ _ h1 h2
 . rw [if_neg hin] at h1 h2
   exact h.2 _ _ _ h1 h2
theorem Jk8 {φ own w} (place : Nat -> Option (Nat × Nat)) : ∀ (parts : List (Nat × AV)) (vparts : List (Nat × Value)) (cs cs' : List AV) (cells : Array Value),
   Jcg place cs parts = some cs' -> Jbd φ own w cs cells.toList -> vparts.length = parts.length ->
   (∀ (i : Nat) p q, parts[i]? = some p -> vparts[i]? = some q -> p.1 = q.1 /\ VR φ own w p.2 q.2) ->
   ∃ cells', Instr.fill place cells vparts = some cells' /\ Jbd φ own w cs' cells'.toList
 | [], vparts, cs, cs', cells, h, hc, hl, _ => by
   have : vparts = [] := List.length_eq_zero_iff.1 (by simpa using hl)
   subst this
   simp [Jcg] at h
   subst h
   exact ⟨cells, rfl, hc⟩
 | (i, x) :: parts, vparts, cs, cs', cells, h, hc, hl, hp => by
   match vparts, hl with
   | (i', v) :: vparts, hl =>
   have h0 := hp 0 (i, x) (i', v) rfl rfl
   obtain ⟨e, hv⟩ := h0
   simp only at e hv
   subst e
   simp only [Jcg] at h
   cases hpl : place i with
   | none => simp [hpl] at h
   | some os =>
     obtain ⟨off, size⟩ := os
     simp only [hpl] at h
     by_cases hif : x.cells.length = size /\ x.cellsOk = true /\ off + size <= cs.length
     . rw [if_pos hif] at h
       obtain ⟨h1, h2, h3⟩ := hif
       have hcv := hv.cells' h2
       have hsize : v.cells.size = size := by rw [<- Array.length_toList, hcv.1, h1]
       have hcl : cs.length = cells.size := by rw [<- hc.1]; simp
       have hlay := hc.lay hcv (off := off) (by rw [h1]; exact h3)
       have ih := Jk8 place parts vparts (Am.lay cs off x.cells) cs' ⟨Am.lay cells.toList off v.cells.toList⟩ h hlay (by simpa using hl)
         (fun j p q hj hq => hp (j + 1) p q (by simpa using hj) (by simpa using hq))
       obtain ⟨cells', e1, e2⟩ := ih
       refine ⟨cells', ?_, e2⟩
       simp only [Instr.fill, hpl]
       rw [if_neg (by simp [hsize]; omega)]
       have : (v.cells.zipIdx.foldl (fun (cs : Array Value) (p : Value × Nat) => cs.setIfInBounds (off + p.2) p.1) cells) = ⟨Am.lay cells.toList off v.cells.toList⟩ := by
         apply Array.ext'
         rw [<- Array.foldl_toList]
         have := Jld off v.cells.toList cells 0
         simpa using this
       rw [<- e1, <- this]
     . rw [if_neg hif] at h
       cases h
theorem Jeq {φ own w t y} (hy : tyOf P t = some y) : ∃ i d z, TySpec P t y i d z /\ Jbd φ own w y.zero z.cells.toList := by
 obtain ⟨i, d, z, hs⟩ := Jav hy
 refine ⟨i, d, z, hs, ?_⟩
 rw [hs.zeros]
 refine ⟨by simp, fun i c v hc hv => ?_⟩
 simp only [List.getElem?_map, Option.map_eq_some_iff] at hc
 obtain ⟨u, h1, rfl⟩ := hc
 rw [hv] at h1; cases h1
 exact VR.cvCell v
theorem Jl1 {φ own w} {ρ' : Operand -> Value} (parts : Array (Nat × Operand)) (h : ∀ x ∈ parts.toList.map (·.2), VR φ own w (ρ x) (ρ' x)) :
   ∀ (i : Nat) p q, (parts.toList.map fun (i, x) => (i, ρ x))[i]? = some p -> ((parts.map fun (i, x) => (i, ρ' x)).toList)[i]? = some q -> p.1 = q.1 /\ VR φ own w p.2 q.2 := by
 intro i p q hp hq
 simp only [Array.toList_map, List.getElem?_map, Option.map_eq_some_iff] at hp hq
 obtain ⟨a, ha, rfl⟩ := hp
 obtain ⟨b, hb, rfl⟩ := hq
 rw [ha] at hb
 obtain rfl := Option.some.inj hb
 exact ⟨rfl, h _ (List.mem_map.2 ⟨a, List.mem_of_getElem? ha, rfl⟩)⟩
theorem J0b {t : Nat} {y : TyI} {parts : Array (Nat × Operand)} {fs : List (Nat × Nat × Bool)} {cs : List AV} (ho : o.op = .build t parts) (hy : tyOf P t = some y) (htd : y.td = .struct fs)
   (hall : fs.all (fun p => p.2.1 != 0) = true)
   (h : Jcg (Jeh fs) y.zero (parts.toList.map fun (i, x) => (i, ρ x)) = some cs) : OpOK P G o ρ s nx (.agg cs) [] [] nx :=
 OpOK.same fun F φ s1 w ρ' _ _ hρ => by
   obtain ⟨i, d, z, hs, hz⟩ := Jeq (P := P) (φ := φ) (own := ownF F φ s1) (w := w) hy
   rw [hs.td] at htd
   obtain ⟨fields, rfl, rfl⟩ := Jmu htd
   have hfield : ∀ f ∈ fields.toList, (sizeOf f.type).run P w = .ok ((if (P.underlying f.type).isSome then P.cellsOf f.type else 0)) w := by
     intro f hf
     have := List.all_eq_true.1 hall _ (List.mem_map.2 ⟨f, hf, rfl⟩)
     obtain ⟨n, hn, rfl⟩ := List.getElem_of_mem hf
     obtain ⟨fd, e1, _, e3, _⟩ := Jk7 (P := P) (fields := fields) (f := n) (by rw [List.getElem?_map, List.getElem?_eq_getElem hn]; rfl) (by simpa using this)
     have : fd = fields.toList[n] := by
       have : fields.toList[n]? = some fd := by simpa using e1
       rw [List.getElem?_eq_getElem hn] at this
       exact (Option.some.inj this).symm
     subst this
     exact e3 w
   have hplaces : (fields.mapM fun f => (do pure (f.offset, <- sizeOf f.type) : Sem (Nat × Nat))).run P w =
       .ok (fields.map fun f => (f.offset, if (P.underlying f.type).isSome then P.cellsOf f.type else 0)) w := by
     obtain ⟨l⟩ := fields
     rw [Array.mapM_eq_mapM_toList]
     have : ∀ l : List Field, (∀ f ∈ l, (sizeOf f.type).run P w = .ok ((if (P.underlying f.type).isSome then P.cellsOf f.type else 0)) w) ->
         (l.mapM fun f => (do pure (f.offset, <- sizeOf f.type) : Sem (Nat × Nat))).run P w = .ok (l.map fun f => (f.offset, if (P.underlying f.type).isSome then P.cellsOf f.type else 0)) w := by
       intro l
       induction l with
       | nil => intro _; rfl
       | cons f l ih =>
         intro hl
         simp only [List.mapM_cons, Sem.run_bind, hl f (by simp), Result.andThen_ok, Sem.run_pure, ih fun g hg => hl g (by simp [hg]), List.map_cons]
     simp only [Sem.run_map, this l hfield, Result.andThen_ok]
     simp
   obtain ⟨cells', e1, e2⟩ := Jk8 (φ := φ) (own := ownF F φ s1) (w := w) _
     _ ((parts.map fun (i, x) => (i, ρ' x)).toList) _ _ z.cells h hz (by simp)
     (Jl1 parts (fun x hx => hρ x (by simpa [ho, Op.operands] using hx)))
   refine ⟨.agg cells', ?_, ?_⟩
   . have e3 : (fun (i : Nat) => (fields.map fun f => (f.offset, if (P.underlying f.type).isSome then P.cellsOf f.type else 0))[i]?) =
         Jeh (fields.toList.map fun f => (f.offset, if (P.underlying f.type).isSome then P.cellsOf f.type else 0, ((P.underlying f.type).map Jfs).getD false)) := by
       funext i
       simp only [Jeh, Array.getElem?_map, List.getElem?_map, Option.map_map, Array.getElem?_toList]
       rfl
     simp only [execOp, ho, Instr.build, Sem.run_bind, hs.zeroValue, Result.andThen_ok, hs.underlying, hplaces]
     rw [e3, e1]
     rfl
   . exact .agg cs cells'.toList e2.1 e2.2
end
end Go.Am
namespace Go.Am
open Go
section
variable {P : Program} {G : Jac} {o : Oper} {ρ : Operand -> AV} {s : Store} {nx : Nat}
theorem Jy1 {α : Type} (xs ys : List α) (h : ys.length = xs.length) : lay xs 0 ys = ys := by
 apply List.ext_getElem?
 intro m
 rw [Jft ys xs 0 m (by omega)]
 by_cases hm : m < ys.length
 . rw [if_pos (by omega)]; simp
 . rw [if_neg (by omega), List.getElem?_eq_none (by omega), List.getElem?_eq_none (by omega)]
theorem Jy0 {arr : Array Value} {off : Nat} {vs : List Value} (h : off + vs.length <= arr.size) : (⟨lay arr.toList off vs⟩ : Array Value) = splice arr off vs := by
 apply Array.ext_getElem?
 intro m
 rw [Jgb h]
 have := Jft vs arr.toList off m (by simpa using h)
 simpa using this
theorem Jpg {φ own w} {k : Nat} (hk : 0 < k) : ∀ (parts : List (Nat × AV)) (vparts : List (Nat × Value)) (rows rows' : List (List AV)) (cells : Array Value),
   Jdf k rows parts = some rows' -> (∀ r ∈ rows, r.length = k) -> Jau φ own w k rows cells 0 -> cells.size = rows.length * k -> vparts.length = parts.length ->
   (∀ (i : Nat) p q, parts[i]? = some p -> vparts[i]? = some q -> p.1 = q.1 /\ VR φ own w p.2 q.2) ->
   ∃ cells', Instr.fill (Jeb k) cells vparts = some cells' /\ Jau φ own w k rows' cells' 0 /\ cells'.size = rows'.length * k /\ rows'.length = rows.length
 | [], vparts, rows, rows', cells, h, _, hc, hsz, hl, _ => by
   have : vparts = [] := List.length_eq_zero_iff.1 (by simpa using hl)
   subst this
   simp [Jdf] at h
   subst h
   exact ⟨cells, rfl, hc, hsz, rfl⟩
 | (i, x) :: parts, vparts, rows, rows', cells, h, hr, hc, hsz, hl, hp => by
   match vparts, hl with
   | (i', v) :: vparts, hl =>
   have h0 := hp 0 (i, x) (i', v) rfl rfl
   obtain ⟨e, hv⟩ := h0
   simp only at e hv
   subst e
   simp only [Jdf] at h
   by_cases hif : x.cells.length = k /\ x.cellsOk = true /\ i < rows.length
   . rw [if_pos hif] at h
     obtain ⟨h1, h2, h3⟩ := hif
     have hcv := hv.cells' h2
     have hsize : v.cells.size = k := by rw [<- Array.length_toList, hcv.1, h1]
     have hri : rows[i]? = some rows[i] := List.getElem?_eq_getElem h3
     have hrl : rows[i].length = k := hr _ (List.getElem_mem h3)
     have hroom : i * k + k <= cells.size := by
       rw [hsz, <- Nat.succ_mul]
       exact Nat.mul_le_mul_right k h3
     have hset := hc.set (φ' := φ) (own' := own) (w' := w) (fun _ _ h => h) (Step.refl own w) (i := i) (j := 0) hri (by omega) hcv (by simp [hsize]; omega)
     rw [Jy1 _ _ (by omega)] at hset
     simp only [Nat.zero_add, Nat.add_zero] at hset
     have hlen2 : i * k + v.cells.toList.length <= cells.size := by simp [hsize]; omega
     have ih := Jpg hk parts vparts (rows.set i x.cells) rows' (splice cells (i * k) v.cells.toList) h (by
         intro r hr'
         rcases List.mem_or_eq_of_mem_set hr' with h4 | h4
         . exact hr r h4
         . subst h4; exact h1) hset (by rw [Jgc hlen2, List.length_set]; exact hsz) (by simpa using hl)
       (fun j p q hj hq => hp (j + 1) p q (by simpa using hj) (by simpa using hq))
     obtain ⟨cells', e1, e2, e3, e4⟩ := ih
     refine ⟨cells', ?_, e2, e3, by rw [e4, List.length_set]⟩
     simp only [Instr.fill, Jeb]
     rw [if_neg (by simp [hsize]; omega)]
     have : (v.cells.zipIdx.foldl (fun (cs : Array Value) (p : Value × Nat) => cs.setIfInBounds (i * k + p.2) p.1) cells) = splice cells (i * k) v.cells.toList := by
       rw [<- Jy0 hlen2]
       apply Array.ext'
       rw [<- Array.foldl_toList]
       have := Jld (i * k) v.cells.toList cells 0
       simpa using this
     rw [<- e1, <- this]
   . rw [if_neg hif] at h
     cases h
theorem Jzd {i j k : Nat} (h : j < k) : (i * k + j) % k = j := by
 rw [Nat.mul_comm, Nat.mul_add_mod, Nat.mod_eq_of_lt h]
theorem Jtn {φ own w} {z : List AV} {vs : Array Value} {k n : Nat} (hc : Jbd φ own w z vs.toList) (hk : z.length = k) :
   Jau φ own w k (List.replicate n z) ((Array.range (n * k)).map fun i => vs[i % vs.size]!) 0 := by
 intro i j row x hr hx
 obtain ⟨hi, rfl⟩ : i < n /\ z = row := by
   rw [List.getElem?_replicate] at hr
   split at hr
   . exact ⟨by assumption, Option.some.inj hr⟩
   . cases hr
 have hj : j < k := hk ▸ (gsI.1 hx).1
 refine ⟨hj, ?_⟩
 obtain ⟨v, h1, h2⟩ := hc.at hx
 refine ⟨v, ?_, h2⟩
 have hvs : vs.size = k := by rw [<- Array.length_toList, hc.1, hk]
 have hlt : i * k + j < n * k := by
   have : (i + 1) * k <= n * k := Nat.mul_le_mul_right k hi
   rw [Nat.succ_mul] at this; omega
 have hv : vs[j]? = some v := by simpa using h1
 rw [Nat.zero_add, Array.getElem?_map, Array.getElem?_range, if_pos hlt]
 simp only [Option.map_some, hvs, Jzd hj]
 rw [getElem!_def, hv]
theorem Jre {k n : Nat} {rows : List (List AV)} {c : Option Nat} {T : TypeId}
   (h : ∀ (F : Nat -> Prop) (φ : Places) (s1 : Store) (w : World) (ρ' : Operand -> Value), SR G F φ s1 w ->
     (∀ x ∈ o.op.operands.toList, VR φ (ownF F φ s1) w (ρ x) (ρ' x)) -> ∃ (cells : Array Value) (cap : Nat), (execOp ρ' o).run P w = .ok (.value (.slice (some ⟨w.heap.size, 0, none⟩) n cap)) (w.alloc (.cells cells T)) /\
       Jau φ (ownF F φ s1) w k rows cells 0 /\ n <= cap /\ cap * k <= cells.size /\ ∀ c', c = some c' -> cap = c') :
   OpOK P G o ρ s nx (.ref nx k 0 n c) [] [(nx, some (.cells k rows))] (nx + 1) :=
 ⟨Nat.le_succ _, fun F φ s1 w ρ' _ hs hf hρ => by
   obtain ⟨cells, cap, h1, h2, h3, h4, h5⟩ := h F φ s1 w ρ' hs hρ
   rw [h1]
   have hfx := hf nx (Nat.le_refl _) (Nat.lt_succ_self _)
   refine Jg8 hs hfx _ (.cells k rows) ?_ ?_
   . exact ⟨w.heap.size, 0, cells, T, Jbp, heap_alloc_new, h2.mono (Jc9 hfx) (Je6 _ _)⟩
   . have := VR.ref (φ := putP φ nx (w.heap.size, 0)) (own := ownF F (putP φ nx (w.heap.size, 0)) ((nx, some (.cells k rows)) :: s1)) (w := w.alloc (.cells cells T)) nx k 0 n c w.heap.size 0 cap Jbp h5 h3
       ⟨cells, T, heap_alloc_new, by simpa using h4⟩
     simpa using this⟩
theorem Jz9 {t len e : Nat} {y ye : TyI} {parts : Array (Nat × Operand)} {rows : List (List AV)} (ho : o.op = .buildSlice t len parts) (hy : tyOf P t = some y) (htd : y.td = .slice e)
   (hye : tyOf P e = some ye) (hz : ye.zero.length = ye.size) (h0 : 0 < ye.size) (hmax : len * ye.size <= 16777216)
   (h : Jdf ye.size (List.replicate len ye.zero) (parts.toList.map fun (i, x) => (i, ρ x)) = some rows) :
   OpOK P G o ρ s nx (.ref nx ye.size 0 len (some len)) [] [(nx, some (.cells ye.size rows))] (nx + 1) :=
 Jre (T := e) fun F φ s1 w ρ' hs hρ => by
   obtain ⟨i, d, z, hsp⟩ := Jav hy
   rw [hsp.td] at htd
   obtain rfl := Jbo htd
   obtain ⟨ie, de, ze, hse, hzc⟩ := Jeq (P := P) (φ := φ) (own := ownF F φ s1) (w := w) hye
   have hparts := Jl1 (φ := φ) (own := ownF F φ s1) (w := w) (ρ' := ρ') parts (fun x hx => hρ x (by simpa [ho, Op.operands] using hx))
   have hzs : ze.cells.size = ye.size := by rw [<- Array.length_toList, hzc.1, hz]
   have hzat := Jtn (n := len) hzc hz
   have hne : ¬ (len * ye.size > 2 ^ 24) := by omega
   obtain ⟨cells', e1, e2, e3, e4⟩ := Jpg h0 _ ((parts.map fun (i, x) => (i, ρ' x)).toList) _ _ _ h (by
       intro r hr; rw [List.eq_of_mem_replicate hr]; exact hz) hzat (by simp) (by simp) hparts
   refine ⟨cells', len, ?_, e2, Nat.le_refl _, by rw [e3, e4, List.length_replicate]; exact Nat.le_refl _, fun c' hc' => Option.some.inj hc'⟩
   simp only [execOp, ho, Instr.buildSlice, Sem.run_bind, hsp.underlying, Result.andThen_ok, hse.sizeOf, if_neg hne]
   have hfill : Instr.fill (fun i => some (i * ye.size, ye.size)) ((Array.range (len * ye.size)).map fun x => ze.cells[x % ze.cells.size]!) (parts.map fun x => (x.1, ρ' x.2)).toList = some cells' := e1
   by_cases hl0 : len * ye.size = 0
   . have hE : ∀ f : Nat -> Value, (Array.range (len * ye.size)).map f = #[] := fun f => by
       rw [hl0]
       simp
     rw [hE] at hfill
     simp only [if_pos hl0, Sem.run_bind, Sem.run_pure, Result.andThen_ok, hE, hfill]
     simp [newRow]
   . simp only [if_neg hl0, Sem.run_bind, hse.zeroValue, Sem.run_pure, Result.andThen_ok, hfill]
     simp [newRow]
end
end Go.Am
namespace Go.Am
open Go
section
variable {P : Program} {G : Jac} {o : Oper} {ρ : Operand -> AV} {s : Store} {nx : Nat}
theorem Jj5 (l : List UInt8) : (⟨⟨l⟩⟩ : ByteArray).size = l.length := rfl
theorem Jt6 (a b : List UInt8) : (⟨⟨a⟩⟩ : ByteArray) ++ ⟨⟨b⟩⟩ = ⟨⟨a ++ b⟩⟩ := by
 apply ByteArray.ext
 simp
theorem Jt7 (l : List UInt8) (a b : Nat) : (⟨⟨l⟩⟩ : ByteArray).extract a b = ⟨⟨(l.drop a).take (b - a)⟩⟩ := by
 apply ByteArray.ext
 apply Array.ext'
 exact Lib.extract_data _ _ _
theorem Jyl (a b : Int) : (a == b) = decide (a = b) := by by_cases h : a = b <;> simp [h]
theorem Jym (a b : Int) : (a != b) = !decide (a = b) := by by_cases h : a = b <;> simp [h]
theorem Jek {op : BinOp} {t u : Nat} {x y : Operand} {v : AV} (ho : o.op = .binOp op t x y u)
   (h : ∀ (φ : Places) (own : Nat -> Prop) (w : World) (a b : Value), VR φ own w (ρ x) a -> VR φ own w (ρ y) b ->
     ∃ v', (do eqGuard op t x y a b; binOp op t a b : Sem Value).run P w = .ok v' w /\ VR φ own w v v') : OpOK P G o ρ s nx v [] [] nx :=
 OpOK.same fun F φ s1 w ρ' _ _ hρ => by
   obtain ⟨v', h1, h2⟩ := h φ _ w _ _ (hρ x (by simp [ho, Op.operands])) (hρ y (by simp [ho, Op.operands]))
   refine ⟨v', ?_, h2⟩
   simp only [execOp, ho, Sem.run_bind, Sem.run_pure] at h1 ⊢
   rw [h1]
   rfl
theorem Jn5 {k : IntKind} {a : Int} (h0 : 0 <= a) (h : k.wrap a = a) : a < 2 ^ (k.bits - if k.signed then 1 else 0) := by
 cases k <;> simp [IntKind.wrap, IntKind.bits, IntKind.signed] at h ⊢ <;> (try split at h) <;> omega
theorem J2w {k : IntKind} {a : Int} (h0 : 0 <= a) (h : a < 2 ^ (k.bits - if k.signed then 1 else 0)) : k.wrap a = a := by
 cases k <;> simp [IntKind.wrap, IntKind.bits, IntKind.signed] at h ⊢ <;> (try split) <;> omega
theorem Jud {op : BinOp} {k : IntKind} {a b : Int} {P : Program} (hr : bitR k a b) (w : World) :
   (op = .and -> (Op.intBits op k a b).run P w = .ok (.int k (a.toNat &&& b.toNat : Nat)) w) /\ (op = .or -> (Op.intBits op k a b).run P w = .ok (.int k (a.toNat ||| b.toNat : Nat)) w) /\
   (op = .xor -> (Op.intBits op k a b).run P w = .ok (.int k (a.toNat ^^^ b.toNat : Nat)) w) /\ (op = .andNot -> (Op.intBits op k a b).run P w = .ok (.int k (andN a.toNat b.toNat : Nat)) w) := by
 obtain ⟨ha0, hb0, ha1, hb1⟩ := hr
 have ta := Jn5 ha0 ha1
 have tb := Jn5 hb0 hb1
 obtain ⟨m, rfl⟩ := Int.eq_ofNat_of_zero_le ha0
 obtain ⟨n, rfl⟩ := Int.eq_ofNat_of_zero_le hb0
 generalize hj : (k.bits - if k.signed then 1 else 0) = j at *
 have hm : m < 2 ^ j := by exact_mod_cast ta
 have hn : n < 2 ^ j := by exact_mod_cast tb
 have hle : j <= k.bits := by omega
 have hp : 2 ^ j <= 2 ^ k.bits := Nat.pow_le_pow_right (by decide) hle
 have em : m % 2 ^ k.bits = m := Nat.mod_eq_of_lt (Nat.lt_of_lt_of_le hm hp)
 have en : n % 2 ^ k.bits = n := Nat.mod_eq_of_lt (Nat.lt_of_lt_of_le hn hp)
 have back : ∀ r : Nat, r < 2 ^ j -> k.wrap (r : Int) = r := fun r h => J2w (by omega) (by rw [hj]; exact_mod_cast h)
 have hx : ∀ (x y : BitVec k.bits), x &&& ~~~y = x ^^^ (x &&& y) := fun x y => by
   apply BitVec.eq_of_getLsbD_eq
   intro i hi
   simp only [BitVec.getLsbD_and, BitVec.getLsbD_not, BitVec.getLsbD_xor, hi, decide_true, Bool.true_and]
   cases x.getLsbD i <;> cases y.getLsbD i <;> rfl
 refine ⟨fun h => ?_, fun h => ?_, fun h => ?_, fun h => ?_⟩ <;> subst h <;> unfold Op.intBits <;> simp only [hx, BitVec.ofInt_natCast, BitVec.toNat_and, BitVec.toNat_or, BitVec.toNat_xor, BitVec.toNat_ofNat, em, en, Int.toNat_natCast, Sem.run_pure]
 . rw [back _ (Nat.and_lt_two_pow _ hn)]
 . rw [back _ (Nat.or_lt_two_pow hm hn)]
 . rw [back _ (Nat.xor_lt_two_pow hm hn)]
 . unfold andN
   rw [back _ (Nat.xor_lt_two_pow hm (Nat.and_lt_two_pow _ hn))]
theorem Jz6 {op : BinOp} {t u : Nat} {x y : Operand} {k : IntKind} {a b : Int} {K : KT} (ho : o.op = .binOp op t x y u) (hx : ρ x = .p (.int k a)) (hy : ρ y = .p (.int k b))
   (h : Jcp op k a b nx K) : ∃ v rd up nx', K v rd up nx' /\ OpOK P G o ρ s nx v rd up nx' := by
 have one : ∀ v : PV, (∀ w : World, ∃ v', (do eqGuard op t x y (.int k a) (.int k b); binOp op t (.int k a) (.int k b) : Sem Value).run P w = .ok v' w /\ VRp (fun _ => False) w v v' /\ ∀ own, VRp own w v v') -> OpOK P G o ρ s nx (.p v) [] [] nx := by
   intro v hv
   refine Jek ho fun φ own w a' b' ha hb => ?_
   rw [hx] at ha
   rw [hy] at hb
   rw [ha.int_inv, hb.int_inv]
   obtain ⟨v', h1, _, h3⟩ := hv w
   exact ⟨v', h1, .p _ _ (h3 own)⟩
 unfold Jcp at h
 cases op <;> simp only at h <;> first
   | exact h.elim
   | (obtain ⟨hw, hK⟩ := h
      refine ⟨_, _, _, _, hK, one _ fun w => ⟨_, ?_, .int .., fun _ => .int ..⟩⟩
      have hb := fun op => Jud (op := op) (P := P) hw w
      simp [binOp, eqGuard, hb])
   | (obtain ⟨hw, hK⟩ := h
      refine ⟨_, _, _, _, hK, one _ fun w => ⟨_, ?_, .int .., fun _ => .int ..⟩⟩
      simp [binOp, Op.intArith, Op.intDiv, eqGuard, hw])
   | (refine ⟨_, _, _, _, h, one _ fun w => ⟨_, ?_, .bool .., fun _ => .bool ..⟩⟩
      simp [binOp, Op.intCmp, eqGuard, Jyl, Jym])
theorem Jz7 {op : BinOp} {t u : Nat} {x y : Operand} {a b : List UInt8} {K : KT} (ho : o.op = .binOp op t x y u) (hx : ρ x = .p (.str a)) (hy : ρ y = .p (.str b))
   (h : Jm9 op a b nx K) : ∃ v rd up nx', K v rd up nx' /\ OpOK P G o ρ s nx v rd up nx' := by
 have one : ∀ v : PV, (∀ w : World, ∃ v', (do eqGuard op t x y (.string ⟨⟨a⟩⟩) (.string ⟨⟨b⟩⟩); binOp op t (.string ⟨⟨a⟩⟩) (.string ⟨⟨b⟩⟩) : Sem Value).run P w = .ok v' w /\ ∀ own, VRp own w v v') -> OpOK P G o ρ s nx (.p v) [] [] nx := by
   intro v hv
   refine Jek ho fun φ own w a' b' ha hb => ?_
   rw [hx] at ha
   rw [hy] at hb
   rw [ha.str_inv, hb.str_inv]
   obtain ⟨v', h1, h3⟩ := hv w
   exact ⟨v', h1, .p _ _ (h3 own)⟩
 unfold Jm9 at h
 cases op <;> simp only at h <;> first
   | exact h.elim
   | (obtain ⟨hw, hK⟩ := h
      refine ⟨_, _, _, _, hK, one _ fun w => ⟨_, ?_, fun _ => .str ..⟩⟩
      have hn : ¬ (((a.length + b.length : Nat) : Int) > IntKind.i64.max) := by rw [IntKind.max_i64]; omega
      simp only [binOp, Op.stringOp, eqGuard, Jj5, if_neg hn, Jt6]
      simp)
   | (refine ⟨_, _, _, _, h, one _ fun w => ⟨_, ?_, fun _ => .bool ..⟩⟩
      simp [binOp, Op.stringOp, eqGuard, Bool.beq_eq_decide_eq])
theorem Jz5 {op : BinOp} {t u : Nat} {x y : Operand} {a b : Bool} {yt : TyI} {K : KT} (ho : o.op = .binOp op t x y u) (hx : ρ x = .p (.bool a)) (hy : ρ y = .p (.bool b))
   (ht : tyOf P t = some yt) (htd : yt.td = .bool) (h : Jbu op (a == b) nx K) :
   ∃ v rd up nx', K v rd up nx' /\ OpOK P G o ρ s nx v rd up nx' := by
 obtain ⟨i, d, z, hs⟩ := Jav ht
 rw [hs.td] at htd
 obtain rfl := J2q htd
 have heq : ∀ w, (Op.equal t (.bool a) (.bool b)).run P w = .ok (a == b) w := fun w => by
   unfold Op.equal Op.maxDepth
   rw [show (10000 : Nat) = 9999 + 1 from rfl, Op.equalIn]
   simp only [Sem.run_bind, hs.underlying, Result.andThen_ok, Sem.run_pure]
 have one : ∀ v : Bool, (∀ w : World, (do eqGuard op t x y (.bool a) (.bool b); binOp op t (.bool a) (.bool b) : Sem Value).run P w = .ok (.bool v) w) -> OpOK P G o ρ s nx (.p (.bool v)) [] [] nx := by
   intro v hv
   refine Jek ho fun φ own w a' b' ha hb => ?_
   rw [hx] at ha
   rw [hy] at hb
   rw [ha.bool_inv, hb.bool_inv]
   exact ⟨_, hv w, .p _ _ (.bool ..)⟩
 unfold Jbu at h
 cases op <;> simp only at h <;> first
   | exact h.elim
   | (refine ⟨_, _, _, _, h, one _ fun w => ?_⟩
      simp [binOp, eqGuard, heq])
theorem Jq9 {op : BinOp} {t u : Nat} {x y : Operand} {c : Bool} {K : KT} (ho : o.op = .binOp op t x y u) (hx : (c = false /\ ∃ f cap, ρ x = .fn f cap) \/ (c = true /\ ρ x = .p .nilf)) (hy : ρ y = .p .nilf)
   (ht : Jik P t = true) (h : Jbu op c nx K) :
   ∃ v rd up nx', K v rd up nx' /\ OpOK P G o ρ s nx v rd up nx' := by
 unfold Jik at ht
 split at ht
 . rename_i hu
   have heq : ∀ (v : Value) (w : World), ((c = false /\ ∃ f a b, v = .func f a b) \/ (c = true /\ v = .nilFunc)) -> (Op.equal t v .nilFunc).run P w = .ok c w := fun v w hv => by
     unfold Op.equal Op.maxDepth
     rw [show (10000 : Nat) = 9999 + 1 from rfl, Op.equalIn]
     rcases hv with ⟨rfl, f, a, b, rfl⟩ | ⟨rfl, rfl⟩ <;> simp [Sem.run_bind, run_underlying hu]
   have one : ∀ v : Bool, (∀ (a : Value) (w : World), ((c = false /\ ∃ f p q, a = .func f p q) \/ (c = true /\ a = .nilFunc)) -> (do eqGuard op t x y a .nilFunc; binOp op t a .nilFunc : Sem Value).run P w = .ok (.bool v) w) -> OpOK P G o ρ s nx (.p (.bool v)) [] [] nx := by
     intro v hv
     refine Jek ho fun φ own w a' b' ha hb => ?_
     rw [hy] at hb
     have hb' : b' = .nilFunc := by cases hb.p_inv; rfl
     subst hb'
     refine ⟨_, hv a' w ?_, .p _ _ (.bool ..)⟩
     rcases hx with ⟨h1, f, cap, h2⟩ | ⟨h1, h2⟩
     . rw [h2] at ha
       obtain ⟨g, p, q, e⟩ := ha.fn_any
       exact .inl ⟨h1, _, _, _, e⟩
     . rw [h2] at ha
       exact .inr ⟨h1, by cases ha.p_inv; rfl⟩
   unfold Jbu at h
   cases op <;> simp only at h <;> first
     | exact h.elim
     | (refine ⟨_, _, _, _, h, one _ fun a w ha => ?_⟩
        have h1 := heq a w ha
        rcases ha with ⟨rfl, f, p, q, rfl⟩ | ⟨rfl, rfl⟩ <;> simp [binOp, eqGuard, h1])
 . cases ht
theorem J0z {op : BinOp} {t u : Nat} {x y : Operand} {K : KT} (ho : o.op = .binOp op t x y u) (hy : Jin y = true) (ht : Jil P t = true) (h : Jjo op (ρ x) nx K) :
   ∃ v rd up nx', K v rd up nx' /\ OpOK P G o ρ s nx v rd up nx' := by
 have hyc : y = .const .nilIface := by
   unfold Jin at hy
   split at hy
   . rfl
   . cases hy
 subst hyc
 unfold Jil at ht
 split at ht
 . rename_i hu
   obtain ⟨c, hx, h⟩ : ∃ c : Bool, ((c = false /\ ρ x = .p .ifc) \/ (c = true /\ ρ x = .p .nilif)) /\ Jbu op c nx K := by
     unfold Jjo at h
     split at h
     . rename_i e; exact ⟨true, .inr ⟨rfl, e⟩, h⟩
     . rename_i e; exact ⟨false, .inl ⟨rfl, e⟩, h⟩
     . exact h.elim
   have heq : ∀ (v : Value) (w : World), ((c = false /\ ∃ a b, v = .iface a b) \/ (c = true /\ v = .nilIface)) -> (Op.equal t v .nilIface).run P w = .ok c w := fun v w hv => by
     unfold Op.equal Op.maxDepth
     rw [show (10000 : Nat) = 9999 + 1 from rfl, Op.equalIn]
     rcases hv with ⟨rfl, a, b, rfl⟩ | ⟨rfl, rfl⟩ <;> simp [Sem.run_bind, run_underlying hu]
   have one : ∀ v : Bool, (∀ (a : Value) (w : World), ((c = false /\ ∃ p q, a = .iface p q) \/ (c = true /\ a = .nilIface)) -> (do eqGuard op t x (.const .nilIface) a .nilIface; binOp op t a .nilIface : Sem Value).run P w = .ok (.bool v) w) -> OpOK P G o ρ s nx (.p (.bool v)) [] [] nx := by
     intro v hv
     have exec : ∀ (ρ' : Operand -> Value), execOp ρ' o = (do eqGuard op t x (.const .nilIface) (ρ' x) (ρ' (.const .nilIface)); pure (.value (<- binOp op t (ρ' x) (ρ' (.const .nilIface)))) : Sem Next) := by
       intro ρ'
       simp [execOp, ho]
     refine OpOK.same fun F φ s1 w ρ' _ _ hρ => ⟨.bool v, ?_, .p _ _ (.bool ..)⟩
     have ha := hρ x (by simp [ho, Op.operands])
     rw [exec, hρ.const]
     generalize ρ' x = a at ha
     have h0 := hv a w (by
       rcases hx with ⟨h1, h2⟩ | ⟨h1, h2⟩
       . rw [h2] at ha
         exact .inl ⟨h1, by cases ha.p_inv; exact ⟨_, _, rfl⟩⟩
       . rw [h2] at ha
         exact .inr ⟨h1, by cases ha.p_inv; rfl⟩)
     simp only [Sem.run_bind] at h0 ⊢
     revert h0
     cases (eqGuard op t x (Operand.const Value.nilIface) a Value.nilIface).run P w with
     | ok u w1 =>
       simp only [Result.andThen_ok]
       intro h0
       rw [h0]
       rfl
     | halt e w1 => intro h0; cases h0
   unfold Jbu at h
   cases op <;> simp only at h <;> first
     | exact h.elim
     | (refine ⟨_, _, _, _, h, one _ fun a w ha => ?_⟩
        have h1 := heq a w ha
        rcases ha with ⟨rfl, p, q, rfl⟩ | ⟨rfl, rfl⟩ <;> simp [binOp, eqGuard, h1])
 . cases ht
theorem Jz4 {op : BinOp} {t u : Nat} {x y : Operand} {cs ds : List AV} {c : Bool} {K : KT} (ho : o.op = .binOp op t x y u) (hx : ρ x = .agg cs) (hy : ρ y = .agg ds)
   (he : Jnk P t cs ds c) (h : Jbu op c nx K) :
   ∃ v rd up nx', K v rd up nx' /\ OpOK P G o ρ s nx v rd up nx' := by
 have hop : op = .eql \/ op = .neq := by unfold Jbu at h; cases op <;> simp at h ⊢
 have one : ∀ v : Bool, (∀ (w : World) (a b : Value), (∃ va, a = .agg va) -> (∃ vb, b = .agg vb) -> (do eqGuard op t x y a b; Op.equal t a b : Sem Bool).run P w = .ok c w -> (do eqGuard op t x y a b; binOp op t a b : Sem Value).run P w = .ok (.bool v) w) -> OpOK P G o ρ s nx (.p (.bool v)) [] [] nx := by
   intro v hv
   refine Jek ho fun φ own w a' b' ha hb => ?_
   rw [hx] at ha
   rw [hy] at hb
   have := he φ own w a' b' ha hb x y op hop
   obtain ⟨va, rfl, _⟩ := ha.agg_inv
   obtain ⟨vb, rfl, _⟩ := hb.agg_inv
   exact ⟨_, hv w _ _ ⟨_, rfl⟩ ⟨_, rfl⟩ this, .p _ _ (.bool ..)⟩
 rcases hop with rfl | rfl
 . refine ⟨_, _, _, _, h, one _ ?_⟩
   rintro w a b ⟨va, rfl⟩ ⟨vb, rfl⟩ hr
   simp only [Sem.run_bind, binOp] at hr ⊢
   cases hg : (eqGuard .eql t x y (.agg va) (.agg vb)).run P w with
   | ok u w' => rw [hg] at hr; simp only [Result.andThen_ok] at hr ⊢; rw [hr]; rfl
   | halt e w' => rw [hg] at hr; cases hr
 . refine ⟨_, _, _, _, h, one _ ?_⟩
   rintro w a b ⟨va, rfl⟩ ⟨vb, rfl⟩ hr
   simp only [Sem.run_bind, binOp] at hr ⊢
   cases hg : (eqGuard .neq t x y (.agg va) (.agg vb)).run P w with
   | ok u w' => rw [hg] at hr; simp only [Result.andThen_ok] at hr ⊢; rw [hr]; rfl
   | halt e w' => rw [hg] at hr; cases hr
theorem J01 {t : Nat} {x : Operand} {b : Bool} (ho : o.op = .unOp .not t x) (hx : ρ x = .p (.bool b)) : OpOK P G o ρ s nx (.p (.bool (!b))) [] [] nx :=
 OpOK.same fun F φ s1 w ρ' _ _ hρ => by
   have hv := hρ x (by simp [ho, Op.operands])
   rw [hx] at hv
   exact ⟨.bool (!b), by simp [execOp, ho, hv.bool_inv, Op.unary], .p _ _ (.bool ..)⟩
theorem J0x {t : Nat} {x : Operand} {k : IntKind} {n : Int} (ho : o.op = .unOp .neg t x) (hx : ρ x = .p (.int k n)) (hw : k.wrap (0 - n) = -n) : OpOK P G o ρ s nx (.p (.int k (-n))) [] [] nx :=
 OpOK.same fun F φ s1 w ρ' _ _ hρ => by
   have hv := hρ x (by simp [ho, Op.operands])
   rw [hx] at hv
   refine ⟨.int k (-n), ?_, .p _ _ (.int ..)⟩
   simp only [execOp, ho, hv.int_inv, Op.unary, Op.intArith, hw, Sem.run_bind, Sem.run_pure, Result.andThen_ok]
theorem J0f {src dst : Nat} {x : Operand} {y z : TyI} {k k' : IntKind} {n : Int} (ho : o.op = .convert src dst x) (hy : tyOf P src = some y) (hz : tyOf P dst = some z) (htd : z.td = .int k)
   (hx : ρ x = .p (.int k' n)) (hw : k.wrap n = n) : OpOK P G o ρ s nx (.p (.int k n)) [] [] nx :=
 OpOK.same fun F φ s1 w ρ' _ _ hρ => by
   have hv := hρ x (by simp [ho, Op.operands])
   rw [hx] at hv
   obtain ⟨_, d, _, hs⟩ := Jav hy
   obtain ⟨_, d', _, hs'⟩ := Jav hz
   rw [hs'.td] at htd
   obtain rfl := Jsu htd
   refine ⟨.int k n, ?_, .p _ _ (.int ..)⟩
   simp [execOp, ho, hv.int_inv, convert, hs.underlying, hs'.underlying, Conv.intToInt, hw]
theorem J0g {src dst : Nat} {x : Operand} {y z : TyI} {k' : IntKind} {n : Int} (ho : o.op = .convert src dst x) (hy : tyOf P src = some y) (hz : tyOf P dst = some z) (htd : z.td = .str)
   (hx : ρ x = .p (.int k' n)) (h0 : 0 <= n) (h1 : n < 128) : OpOK P G o ρ s nx (.p (.str [UInt8.ofNat n.toNat])) [] [] nx :=
 OpOK.same fun F φ s1 w ρ' _ _ hρ => by
   have hv := hρ x (by simp [ho, Op.operands])
   rw [hx] at hv
   obtain ⟨_, d, _, hs⟩ := Jav hy
   obtain ⟨_, d', _, hs'⟩ := Jav hz
   rw [hs'.td] at htd
   obtain rfl := Jgi htd
   refine ⟨.string ⟨⟨[UInt8.ofNat n.toNat]⟩⟩, ?_, .p _ _ (.str ..)⟩
   have he : Utf8.encode n = ⟨⟨[UInt8.ofNat n.toNat]⟩⟩ := by
     have h2 : n.toNat < 128 := by omega
     have hval : Utf8.valid n = true := by unfold Utf8.valid; simp; omega
     unfold Utf8.encode
     simp [hval, h2]
   simp [execOp, ho, hv.int_inv, convert, hs.underlying, hs'.underlying, Conv.intToString, he]
theorem J0r {f : Fn} {cap : Array Operand} (hf : Jdd f = true) (ho : o.op = .makeFunc f #[] cap) : OpOK P G o ρ s nx (.fn f (cap.toList.map ρ)) [] [] nx :=
 OpOK.same fun F φ s1 w ρ' _ _ hρ => by
   refine ⟨.func f #[] (cap.map ρ'), by simp [execOp, ho, Instr.makeFunc], ?_⟩
   have : (cap.map ρ') = ⟨cap.toList.map ρ'⟩ := by apply Array.ext'; simp
   rw [this]
   refine .fn f _ _ hf (by simp) fun i c v hc hv => ?_
   simp only [List.getElem?_map, Option.map_eq_some_iff] at hc hv
   obtain ⟨a, h1, rfl⟩ := hc
   obtain ⟨b, h2, rfl⟩ := hv
   rw [h1] at h2
   obtain rfl := Option.some.inj h2
   exact hρ a (by simpa [ho, Op.operands] using List.mem_of_getElem? h1)
theorem J0s {n : Nat} {cap : Array Operand} (ho : o.op = .makeFunc (.func n) cap #[]) : OpOK P G o ρ s nx (.fn (.via 0 #[] n true) (cap.toList.map ρ)) [] [] nx :=
 OpOK.same fun F φ s1 w ρ' _ _ hρ => by
   refine ⟨.func (.func n) (cap.map ρ') #[], by simp [execOp, ho, Instr.makeFunc], ?_⟩
   have : (cap.map ρ') = ⟨cap.toList.map ρ'⟩ := by apply Array.ext'; simp
   rw [this]
   refine .bfn _ _ _ _ _ _ (by simp) fun i c v hc hv => ?_
   simp only [List.getElem?_map, Option.map_eq_some_iff] at hc hv
   obtain ⟨a, h1, rfl⟩ := hc
   obtain ⟨b, h2, rfl⟩ := hv
   rw [h1] at h2
   obtain rfl := Option.some.inj h2
   exact hρ a (by simpa [ho, Op.operands] using List.mem_of_getElem? h1)
theorem J0t {t : Nat} (ho : o.op = .makeMap t none) : OpOK P G o ρ s nx (.map nx) [] [(nx, some (.map []))] (nx + 1) :=
 ⟨Nat.le_succ _, fun F φ s1 w ρ' _ hs hf _ => by
   have hrun : (execOp ρ' o).run P w = .ok (.value (.map (some w.heap.size))) (w.alloc (.map #[] 0)) := by
     simp [execOp, ho, Instr.makeMap]
   rw [hrun]
   have hfx := hf nx (Nat.le_refl _) (Nat.lt_succ_self _)
   refine Jg8 hs hfx _ (.map []) ?_ (.map nx w.heap.size 0 Jbp)
   exact ⟨w.heap.size, #[], 0, Jbp, heap_alloc_new, ⟨rfl, by simp⟩, by simp [Jcb]⟩⟩
theorem J0k {x : Operand} {i : Nat} {vs : List AV} {v : AV} (ho : o.op = .extract x i) (hx : ρ x = .tup vs) (hv : vs[i]? = some v) : OpOK P G o ρ s nx v [] [] nx :=
 OpOK.same fun F φ s1 w ρ' _ _ hρ => by
   have h := hρ x (by simp [ho, Op.operands])
   rw [hx] at h
   obtain ⟨us, h1, h2⟩ := h.tup_inv
   obtain ⟨u, h3, h4⟩ := h2.at hv
   refine ⟨u, ?_, h4⟩
   have : (⟨us⟩ : Array Value)[i]? = some u := by simpa using h3
   simp [execOp, ho, h1, Instr.extract, this]
theorem Jrg {x : Operand} (ho : o.op = .nilCheck x) (hx : (∃ b k i j, ρ x = .ptr b k i j) \/ ∃ k rows i j, ρ x = .iptr k rows i j) : OpOK P G o ρ s nx (ρ x) [] [] nx :=
 OpOK.same fun F φ s1 w ρ' _ _ hρ => by
   have h := hρ x (by simp [ho, Op.operands])
   refine ⟨ρ' x, ?_, h⟩
   rcases hx with ⟨b, k, i, j, e⟩ | ⟨k, rows, i, j, e⟩
   . rw [e] at h
     obtain ⟨β, δ, _, hv⟩ := h.ptr_inv
     simp [execOp, ho, hv]
   . rw [e] at h
     obtain ⟨β, c, _, _, _, hv⟩ := h.iptr_inv
     simp [execOp, ho, hv]
end
end Go.Am
namespace Go.Am
open Go
section
variable {P : Program} {G : Jac} {o : Oper} {ρ : Operand -> AV} {s : Store} {nx : Nat}
theorem Jj9 {φ own w} {m d : Nat} {x : Option Operand} {ρ' : Operand -> Value} {r : Nat} (h : Jba m (x.map ρ) d = some r)
   (hv : ∀ y, x = some y -> VR φ own w (ρ y) (ρ' y)) :
   (x = none /\ r = d) \/ ∃ y k n, x = some y /\ ρ' y = .int k n /\ 0 <= n /\ n <= m /\ n.toNat = r := by
 cases x with
 | none =>
   simp [Jba] at h
   exact .inl ⟨rfl, h.symm⟩
 | some y =>
   refine .inr ?_
   simp only [Option.map_some] at h
   have hy := hv y rfl
   cases hρ : ρ y with
   | p z =>
     rw [hρ] at h hy
     cases z with
     | int k n =>
       simp only [Jba] at h
       by_cases hc : 0 <= n /\ n <= m
       . rw [if_pos hc] at h
         exact ⟨y, k, n, rfl, hy.int_inv, hc.1, hc.2, Option.some.inj h⟩
       . rw [if_neg hc] at h; cases h
     | _ => simp [Jba] at h
   | _ => rw [hρ] at h; simp [Jba] at h
theorem run_sliceBound {w : World} {k : IntKind} {n : Int} {m : Nat} {c : BoundsCode} (h1 : 0 <= n) (h2 : n <= m) : (Instr.sliceBound (.int k n) m c).run P w = .ok n.toNat w := by
 simp [Instr.sliceBound, asIntOf, h1, h2]
theorem Jd1 {φ own w} {isSlice : Bool} {len cap m0 : Nat} {lo hi mx : Option Operand} {ρ' : Operand -> Value} {m h l : Nat}
   (hm : Jba m0 (mx.map ρ) len = some m) (hh : Jba m (hi.map ρ) len = some h) (hl : Jba h (lo.map ρ) 0 = some l) (hx : mx.map ρ = none \/ hi.map ρ ≠ none) (hcap : m0 <= cap) (hlen : len <= m0)
   (hv : ∀ y, (lo = some y \/ hi = some y \/ mx = some y) -> VR φ own w (ρ y) (ρ' y)) :
   (Instr.sliceBounds isSlice len cap (lo.map ρ') (hi.map ρ') (mx.map ρ')).run P w = .ok (l, h, if mx = none then cap else m) w /\ l <= h /\ h <= m /\ m <= m0 := by
 have bm := Jj9 hm (fun y e => hv y (.inr (.inr e)))
 have bh := Jj9 hh (fun y e => hv y (.inr (.inl e)))
 have bl := Jj9 hl (fun y e => hv y (.inl e))
 rcases bm with ⟨rfl, rfl⟩ | ⟨ym, km, nm, rfl, em, m1, m2, m3⟩
 . rcases bh with ⟨rfl, rfl⟩ | ⟨yh, kh, nh, rfl, eh, h1, h2, h3⟩
   . rcases bl with ⟨rfl, rfl⟩ | ⟨yl, kl, nl, rfl, el, l1, l2, l3⟩
     . refine ⟨?_, by omega, by omega, by omega⟩
       simp [Instr.sliceBounds]
     . refine ⟨?_, by omega, by omega, by omega⟩
       simp [Instr.sliceBounds, el, run_sliceBound l1 l2, l3]
   . have h4 : nh <= cap := by omega
     rcases bl with ⟨rfl, rfl⟩ | ⟨yl, kl, nl, rfl, el, l1, l2, l3⟩
     . refine ⟨?_, by omega, by omega, by omega⟩
       simp [Instr.sliceBounds, eh, run_sliceBound h1 h4, h3]
     . refine ⟨?_, by omega, by omega, by omega⟩
       simp [Instr.sliceBounds, eh, el, run_sliceBound h1 h4, h3, run_sliceBound l1 l2, l3]
 . have m4 : nm <= cap := by omega
   rcases bh with ⟨rfl, rfl⟩ | ⟨yh, kh, nh, rfl, eh, h1, h2, h3⟩
   . simp at hx
   . rcases bl with ⟨rfl, rfl⟩ | ⟨yl, kl, nl, rfl, el, l1, l2, l3⟩
     . refine ⟨?_, by omega, by omega, by omega⟩
       simp [Instr.sliceBounds, em, eh, run_sliceBound m1 m4, m3, run_sliceBound h1 h2, h3]
     . refine ⟨?_, by omega, by omega, by omega⟩
       simp [Instr.sliceBounds, em, eh, el, run_sliceBound m1 m4, m3, run_sliceBound h1 h2, h3, run_sliceBound l1 l2, l3]
theorem Jbq.sub {own w k rows β c} (h : Jbq own w k rows β c) (l n : Nat) : Jbq own w k ((rows.drop l).take n) β (c + l * k) := by
 intro i j row x hr hx
 have hi : i < n := by
   have := (gsI.1 hr).1
   simp at this; omega
 rw [List.getElem?_take_of_lt hi, List.getElem?_drop] at hr
 obtain ⟨v, h1, h2⟩ := h (l + i) j row x hr hx
 refine ⟨v, ?_, h2⟩
 rw [<- h1, Nat.add_mul]
 congr 2
 omega
theorem VRp.full_of {own : Nat -> Prop} {w : World} {k rows β o} (hβ : β < w.heap.size) (hown : ¬ own β) (h : Jbq own w k rows β o) : VRp own w (.full k rows) (.slice (some ⟨β, o, none⟩) rows.length rows.length) := by
 refine .full k rows β o rows.length (fun i j => (w.cell? ⟨β, o + i * k + j, none⟩).getD .nilFunc) rfl hβ hown (fun i j row x hr hx => ?_) (fun i j row x hr hx => ?_)
 . obtain ⟨v, hv, _⟩ := h i j row x hr hx
   simp [hv]
 . obtain ⟨v, hv, hr⟩ := h i j row x hr hx
   simpa [hv] using hr
theorem ok_slice {t : Nat} {x : Operand} {lo hi mx : Option Operand} {y : TyI} {K : KT} (ho : o.op = .slice t x lo hi mx) (hy : tyOf P t = some y)
   (hsz : ∀ e, y.td = .slice e -> ∃ ye, tyOf P e = some ye /\ match ρ x with | .p (.lst k _) => k = ye.size | .ref _ k _ _ _ => k = ye.size | _ => True)
   (h : Jgl y.td (ρ x) (lo.map ρ) (hi.map ρ) (mx.map ρ) nx K) : ∃ v rd up nx', K v rd up nx' /\ OpOK P G o ρ s nx v rd up nx' := by
 obtain ⟨i, d, z, hs⟩ := Jav hy
 have htd := hs.td
 unfold Jgl at h
 simp only [Jaz] at h
 split at h
 . rename_i str htd' hx
   rw [htd] at htd'
   obtain rfl := Jgi htd'
   obtain ⟨hmx, hh, e1, l, e2, hK⟩ := h
   refine ⟨_, _, _, _, hK, OpOK.same fun F φ s1 w ρ' _ _ hρ => ?_⟩
   have hv := hρ x (by simp [ho, Op.operands])
   rw [hx] at hv
   have hmx' : mx = none := by cases mx <;> simp at hmx ⊢
   subst hmx'
   have hb := Jd1 (P := P) (φ := φ) (own := ownF F φ s1) (w := w) (isSlice := false) (cap := str.length) (mx := none) (ρ' := ρ') rfl e1 e2 (.inl rfl) (Nat.le_refl _) (Nat.le_refl _)
     (fun y e => hρ y (by rcases e with e | e | e <;> simp [ho, Op.operands, e]))
   refine ⟨.string ⟨⟨(str.drop l).take (hh - l)⟩⟩, ?_, .p _ _ (.str ..)⟩
   have hb1 := hb.1
   simp only [Option.map_none] at hb1
   simp [execOp, ho, Instr.sliceAt, hs.underlying, Instr.slice, hv.str_inv, Jj5, hb1, Jt7]
 . rename_i e k rows htd' hx
   obtain ⟨ye, hye, hk⟩ := hsz e htd'
   simp only [hx] at hk
   subst hk
   have hse := fun w => Jco hye w
   rw [htd] at htd'
   obtain rfl := Jbo htd'
   obtain ⟨m, e0, hh, e1, l, e2, hx2, hle, hK⟩ := h
   by_cases hz : Option.map ρ mx ≠ none /\ m = l
   . refine ⟨_, _, _, _, hK.1 hz, OpOK.same fun F φ s1 w ρ' _ _ hρ => ?_⟩
     have hv := hρ x (by simp [ho, Op.operands])
     rw [hx] at hv
     have run := fun (a : Option Addr) (cap : Nat) (hcap : rows.length <= cap) (hv : ρ' x = .slice a rows.length cap) => by
       have hb := Jd1 (P := P) (φ := φ) (own := ownF F φ s1) (w := w) (isSlice := true) (cap := cap) (ρ' := ρ') e0 e1 e2 hx2 hcap (Nat.le_refl _)
         (fun y e => hρ y (by rcases e with e | e | e <;> simp [ho, Op.operands, e]))
       have : (execOp ρ' o).run P w = .ok (.value (.slice (if (if mx = none then cap else m) = l then a else a.map (·.add (l * ye.size))) (hh - l) ((if mx = none then cap else m) - l))) w := by
         simp [execOp, ho, Instr.sliceAt, hs.underlying, Instr.slice, hv, hse, hb.1]
       exact (⟨this, hb.2⟩ : _ /\ _)
     have fin : ∀ (a : Option Addr) (c : Nat), rows.length <= c -> ρ' x = .slice a rows.length c -> ∃ v', (execOp ρ' o).run P w = .ok (.value v') w /\ VR φ (ownF F φ s1) w .nils v' := fun a c hc hv => by
       obtain ⟨h1, h2, h3, h4⟩ := run a c hc hv
       refine ⟨_, h1, ?_⟩
       have hm : mx ≠ none := fun h => hz.1 (by rw [h]; rfl)
       rw [if_neg hm, hz.2, show hh - l = 0 by omega, Nat.sub_self]
       exact .nils _
     rcases hv.p_inv.lst_inv with ⟨hnil, a, c, hv⟩ | ⟨β, c, cap, hv, hcap, hβ, hown, hrows⟩
     . exact fin a c (by rw [hnil]; exact Nat.zero_le _) (by rw [hnil]; exact hv)
     . exact fin _ cap hcap hv
   by_cases hq : Option.map ρ mx ≠ none /\ m = hh
   . refine ⟨_, _, _, _, (hK.2 hz).1 hq, OpOK.same fun F φ s1 w ρ' _ _ hρ => ?_⟩
     have hv := hρ x (by simp [ho, Op.operands])
     rw [hx] at hv
     have run := fun (a : Option Addr) (cap : Nat) (hcap : rows.length <= cap) (hv : ρ' x = .slice a rows.length cap) => by
       have hb := Jd1 (P := P) (φ := φ) (own := ownF F φ s1) (w := w) (isSlice := true) (cap := cap) (ρ' := ρ') e0 e1 e2 hx2 hcap (Nat.le_refl _)
         (fun y e => hρ y (by rcases e with e | e | e <;> simp [ho, Op.operands, e]))
       have : (execOp ρ' o).run P w = .ok (.value (.slice (if (if mx = none then cap else m) = l then a else a.map (·.add (l * ye.size))) (hh - l) ((if mx = none then cap else m) - l))) w := by
         simp [execOp, ho, Instr.sliceAt, hs.underlying, Instr.slice, hv, hse, hb.1]
       exact (⟨this, hb.2⟩ : _ /\ _)
     rcases hv.p_inv.lst_inv with ⟨hnil, a, c, hv⟩ | ⟨β, c, cap, hv, hcap, hβ, hown, hrows⟩
     . exfalso
       have : rows.length = 0 := by rw [hnil]; rfl
       obtain ⟨_, _, h3, _⟩ := run a c (by rw [hnil]; exact Nat.zero_le _) (by rw [hnil]; exact hv)
       exact hz ⟨hq.1, by have := hq.2; omega⟩
     . obtain ⟨h1, h2, h3, h4⟩ := run _ cap hcap hv
       refine ⟨_, h1, ?_⟩
       have hm : mx ≠ none := fun h => hq.1 (by rw [h]; rfl)
       have hlh : l < hh := by
         rcases Nat.lt_or_ge l hh with h | h
         . exact h
         . exact (hz ⟨hq.1, by have := hq.2; omega⟩).elim
       rw [if_neg (show ¬ (if mx = none then cap else m) = l by rw [if_neg hm, hq.2]; omega), if_neg hm, hq.2]
       have hlen : ((rows.drop l).take (hh - l)).length = hh - l := by simp; omega
       have := VRp.full_of (own := ownF F φ s1) (w := w) (k := ye.size) (rows := (rows.drop l).take (hh - l)) (β := β) (o := c + l * ye.size) hβ hown (hrows.sub l (hh - l))
       rw [hlen] at this
       simpa [addr_add] using VR.p (φ := φ) _ _ this
   . refine ⟨_, _, _, _, (hK.2 hz).2 hq, OpOK.same fun F φ s1 w ρ' _ _ hρ => ?_⟩
     have hv := hρ x (by simp [ho, Op.operands])
     rw [hx] at hv
     have run := fun (a : Option Addr) (cap : Nat) (hcap : rows.length <= cap) (hv : ρ' x = .slice a rows.length cap) => by
       have hb := Jd1 (P := P) (φ := φ) (own := ownF F φ s1) (w := w) (isSlice := true) (cap := cap) (ρ' := ρ') e0 e1 e2 hx2 hcap (Nat.le_refl _)
         (fun y e => hρ y (by rcases e with e | e | e <;> simp [ho, Op.operands, e]))
       have : (execOp ρ' o).run P w = .ok (.value (.slice (if (if mx = none then cap else m) = l then a else a.map (·.add (l * ye.size))) (hh - l) ((if mx = none then cap else m) - l))) w := by
         simp [execOp, ho, Instr.sliceAt, hs.underlying, Instr.slice, hv, hse, hb.1]
       exact (⟨this, hb.2⟩ : _ /\ _)
     rcases hv.p_inv.lst_inv with ⟨hnil, a, c, hv⟩ | ⟨β, c, cap, hv, hcap, hβ, hown, hrows⟩
     . obtain ⟨h1, h2, h3, h4⟩ := run a c (by rw [hnil]; exact Nat.zero_le _) (by rw [hnil]; exact hv)
       refine ⟨_, h1, ?_⟩
       have : hh - l = 0 := by
         have : rows.length = 0 := by rw [hnil]; rfl
         omega
       rw [this]
       exact .p _ _ (.lst0 ..)
     . obtain ⟨h1, h2, h3, h4⟩ := run _ cap hcap hv
       refine ⟨_, h1, ?_⟩
       rcases Nat.eq_zero_or_pos (hh - l) with h0 | h0
       . rw [h0]
         exact .p _ _ (.lst0 ..)
       . have hM : hh <= (if mx = none then cap else m) := by split <;> omega
         rw [if_neg (by omega)]
         have hlen : ((rows.drop l).take (hh - l)).length = hh - l := by simp; omega
         have := VRp.lst_of (own := ownF F φ s1) (w := w) (k := ye.size) (rows := (rows.drop l).take (hh - l)) (β := β) (o := c + l * ye.size) (c := (if mx = none then cap else m) - l) (by omega) hβ hown (hrows.sub l (hh - l))
         rw [hlen] at this
         simpa [addr_add] using VR.p (φ := φ) _ _ this
 . rename_i e htd' hx
   obtain ⟨ye, hye, _⟩ := hsz e htd'
   have hse := fun w => Jco hye w
   rw [htd] at htd'
   obtain rfl := Jbo htd'
   obtain ⟨m, e0, hh, e1, l, e2, hx2, hK⟩ := h
   refine ⟨_, _, _, _, hK, OpOK.same fun F φ s1 w ρ' _ _ hρ => ?_⟩
   have hv := hρ x (by simp [ho, Op.operands])
   rw [hx] at hv
   obtain ⟨a, hv⟩ : ∃ a, ρ' x = .slice a 0 0 := by
     generalize ρ' x = v at hv
     cases hv; exact ⟨_, rfl⟩
   have hb := Jd1 (P := P) (φ := φ) (own := ownF F φ s1) (w := w) (isSlice := true) (cap := 0) (ρ' := ρ') e0 e1 e2 hx2 (Nat.le_refl _) (Nat.le_refl _)
     (fun y e => hρ y (by rcases e with e | e | e <;> simp [ho, Op.operands, e]))
   obtain ⟨h1, h2, h3, h4⟩ := hb
   refine ⟨.slice (if (if mx = none then 0 else m) = l then a else a.map (·.add (l * ye.size))) (hh - l) ((if mx = none then 0 else m) - l), ?_, ?_⟩
   . simp [execOp, ho, Instr.sliceAt, hs.underlying, Instr.slice, hv, hse, h1]
   . have e3 : hh - l = 0 := by omega
     have e4 : (if mx = none then 0 else m) - l = 0 := by split <;> omega
     rw [e3, e4]
     exact .nils _
 . rename_i e b k i' n c htd' hx
   obtain ⟨ye, hye, hk⟩ := hsz e htd'
   simp only [hx] at hk
   subst hk
   have hse := fun w => Jco hye w
   rw [htd] at htd'
   obtain rfl := Jbo htd'
   obtain ⟨m, e0, hh, e1, l, e2, hx2, hle, hK⟩ := h
   by_cases hz : l ≠ 0 /\ l = hh
   . refine ⟨_, _, _, _, hK.1 hz, OpOK.same fun F φ s1 w ρ' _ _ hρ => ?_⟩
     have hv := hρ x (by simp [ho, Op.operands])
     rw [hx] at hv
     obtain ⟨β, δ, cap, hφ, hc, hn, room, hv⟩ := hv.ref_inv
     have hb := Jd1 (P := P) (φ := φ) (own := ownF F φ s1) (w := w) (isSlice := true) (cap := cap) (ρ' := ρ') e0 e1 e2 hx2 hn (Nat.le_refl _)
       (fun y e => hρ y (by rcases e with e | e | e <;> simp [ho, Op.operands, e]))
     obtain ⟨h1, h2, h3, h4⟩ := hb
     refine ⟨.slice (if (if mx = none then cap else m) = l then some ⟨β, δ + i' * ye.size, none⟩ else (some ⟨β, δ + i' * ye.size, none⟩ : Option Addr).map (·.add (l * ye.size))) (hh - l) ((if mx = none then cap else m) - l), ?_, ?_⟩
     . simp [execOp, ho, Instr.sliceAt, hs.underlying, Instr.slice, hv, hse, h1]
     . rw [hz.2, Nat.sub_self]
       exact .p _ _ (.lst0 ..)
   have hK := hK.2 hz
   refine ⟨_, _, _, _, hK, OpOK.same fun F φ s1 w ρ' _ _ hρ => ?_⟩
   have hv := hρ x (by simp [ho, Op.operands])
   rw [hx] at hv
   obtain ⟨β, δ, cap, hφ, hc, hn, room, hv⟩ := hv.ref_inv
   have hb := Jd1 (P := P) (φ := φ) (own := ownF F φ s1) (w := w) (isSlice := true) (cap := cap) (ρ' := ρ') e0 e1 e2 hx2 hn (Nat.le_refl _)
     (fun y e => hρ y (by rcases e with e | e | e <;> simp [ho, Op.operands, e]))
   obtain ⟨h1, h2, h3, h4⟩ := hb
   have hl0 : l = 0 \/ l < hh := by omega
   have hM : hh <= (if mx = none then cap else m) := by split <;> omega
   have hMc : (if mx = none then cap else m) <= cap := by split <;> omega
   have hcapM : ∀ c', (if mx.map ρ = none then c.map (· - l) else some (m - l)) = some c' -> (if mx = none then cap else m) - l = c' := by
     intro c' hc'
     by_cases hmx : mx = none
     . subst hmx
       simp only [Option.map_none, if_true] at hc' ⊢
       cases c with
       | none => cases hc'
       | some c0 =>
         have := hc c0 rfl
         simp at hc'; omega
     . have hmx' : mx.map ρ ≠ none := by cases mx <;> simp at hmx ⊢
       rw [if_neg hmx'] at hc'
       rw [if_neg hmx]
       exact Option.some.inj hc'
   refine ⟨.slice (some ⟨β, δ + (i' + l) * ye.size, none⟩) (hh - l) ((if mx = none then cap else m) - l), ?_, ?_⟩
   . simp only [execOp, ho, Instr.sliceAt, Sem.run_bind, hs.underlying, Result.andThen_ok, Instr.slice, hv, hse, h1, Sem.run_pure]
     congr 2
     by_cases hEq : (if mx = none then cap else m) = l
     . rw [if_pos hEq]
       have : l = 0 := by omega
       subst this
       simp
     . rw [if_neg hEq]
       simp [addr_add, Nat.add_mul, Nat.add_assoc]
   . refine .ref b _ (i' + l) (hh - l) _ β δ _ hφ hcapM (by omega) ?_
     obtain ⟨arr, T, r1, r2⟩ := room
     refine ⟨arr, T, r1, Nat.le_trans ?_ r2⟩
     have : (i' + l + ((if mx = none then cap else m) - l)) * ye.size <= (i' + cap) * ye.size := Nat.mul_le_mul_right _ (by omega)
     omega
 . rename_i e b k n htd' hx
   rw [htd] at htd'
   obtain rfl := Jbo htd'
   obtain ⟨ye, hye, _⟩ := hsz e htd
   have hse := fun w => Jco hye w
   obtain ⟨m, e0, hh, e1, hlo, hmx, hhi, rfl, rfl, hK⟩ := h
   have hlo' : lo = none := by cases lo <;> simp at hlo ⊢
   subst hlo'
   have hmx' : mx ≠ none := fun h => hmx (by rw [h]; rfl)
   by_cases hz : hh = 0
   . subst hz
     refine ⟨_, _, _, _, hK.1 rfl, OpOK.same fun F φ s1 w ρ' _ _ hρ => ?_⟩
     have hv := hρ x (by simp [ho, Op.operands])
     rw [hx] at hv
     obtain ⟨a, hv⟩ : ∃ a, ρ' x = .slice a 0 0 := by
       generalize ρ' x = v at hv
       cases hv with
       | acc0 => exact ⟨_, rfl⟩
       | acc _ _ _ _ _ _ _ h0 => exact absurd h0 (Nat.lt_irrefl 0)
     have hb := Jd1 (P := P) (φ := φ) (own := ownF F φ s1) (w := w) (isSlice := true) (cap := 0) (lo := none) (ρ' := ρ') e0 e1 rfl (.inr hhi) (Nat.le_refl _) (Nat.le_refl _)
       (fun y e => hρ y (by rcases e with e | e | e <;> simp [ho, Op.operands, e]))
     obtain ⟨h1, h2, h3, h4⟩ := hb
     rw [if_neg hmx'] at h1
     refine ⟨.slice a 0 0, ?_, .nils _⟩
     simp [execOp, ho, Instr.sliceAt, hs.underlying, Instr.slice, hv, hse]
     simp at h1
     simp [h1]
   . refine ⟨_, _, _, _, hK.2 hz, OpOK.same fun F φ s1 w ρ' _ _ hρ => ?_⟩
     have hv := hρ x (by simp [ho, Op.operands])
     rw [hx] at hv
     obtain ⟨β, δ, cap, hφ, hn, room, hv⟩ : ∃ β δ cap, φ b = some (β, δ) /\ hh <= cap /\ (∃ arr T, w.heap[β]? = some (Obj.cells arr T (0, 0)) /\ δ + cap * k <= arr.size) /\ ρ' x = .slice (some ⟨β, δ, none⟩) hh cap := by
       generalize ρ' x = v at hv
       cases hv with
       | acc0 => exact absurd rfl hz
       | acc _ _ _ β δ cap hφ h0 hn room => exact ⟨β, δ, cap, hφ, hn, room, rfl⟩
     have hb := Jd1 (P := P) (φ := φ) (own := ownF F φ s1) (w := w) (isSlice := true) (cap := cap) (lo := none) (ρ' := ρ') e0 e1 rfl (.inr hhi) hn (Nat.le_refl _)
       (fun y e => hρ y (by rcases e with e | e | e <;> simp [ho, Op.operands, e]))
     obtain ⟨h1, h2, h3, h4⟩ := hb
     rw [if_neg hmx'] at h1
     refine ⟨.slice (some ⟨β, δ + 0 * k, none⟩) hh hh, ?_, ?_⟩
     . simp at h1
       simp [execOp, ho, Instr.sliceAt, hs.underlying, Instr.slice, hv, hse, h1, hz, Addr.add]
     . obtain ⟨arr, T, r1, r2⟩ := room
       refine .ref b k 0 hh (some hh) β δ hh hφ (fun c' h => Option.some.inj h) (Nat.le_refl _) ⟨arr, T, r1, ?_⟩
       have : (0 + hh) * k <= cap * k := Nat.mul_le_mul_right _ (by omega)
       omega
 . exact h.elim
end
end Go.Am
