/- Lemmas and contracts for the proof of a statement of this seat. -/
import Derived.Test.YthojegdboknbbaaGreatDoorZA2
import Derived.Scope
import Derived.KernelRfl
set_option linter.unusedVariables false
set_option linter.unusedSimpArgs false
namespace Go.Am
open Go
class Base where
 n : Nat
 mode : Option Nat
def rF [B : Base] : Fence := { Fence.wide with round := B.mode }
theorem Jkm [Base] {n : Nat} {P : Program} {f : FuncId} {args : Array Value} {w : World} {R : Ending -> World -> Prop} (h : Calls P f args w R) : CallsIn rF n P f args w R :=
 (callsIn_wide (n := n)).2 h
theorem Jr1 [Base] {n : Nat} {P : Program} {l : Nat} {f : FuncId} {tmps : Array Value} {asg body : Code} {w : World} {R : Ending -> World -> Prop} (h : RoundIn Fence.wide 0 P l f tmps asg body w R) : RoundIn rF n P l f tmps asg body w R :=
 ⟨trivial, fun c cs _ => h.2 c cs (room_wide _)⟩
def Jfy (D : Nat) : Deferred := { target := .collected D, args := #[] }
structure Side [B : Base] (own : Nat -> Prop) (a : Act) (w : World) : Prop where
 low : B.n <= w.heap.size
 marks : ∃ Ds : List Nat, a.defers = Ds.map Jfy /\ Ds.Nodup /\ ∀ D ∈ Ds, B.n <= D /\ w.heap[D]? = some (.deferred (some [])) /\ ¬ own D
 round : ∀ l, B.mode = some l -> ∃ r, w.heap[l]? = some (.loop r) /\ ¬ own l
theorem Side.mono [Base] {own own' : Nat -> Prop} {w w' : World} {a a' : Act} (h : Side own a w) (st : Step own own' w w') (e : a'.defers = a.defers) : Side own' a' w' := by
 refine ⟨Nat.le_trans h.low st.size, ?_, fun l hl => ?_⟩
 . obtain ⟨Ds, h1, h2, h3⟩ := h.marks
   refine ⟨Ds, by rw [e, h1], h2, fun D hD => ?_⟩
   obtain ⟨k1, k2, k3⟩ := h3 D hD
   obtain ⟨e1, e2⟩ := st.keep D (Array.getElem?_eq_some_iff.1 k2).1 k3
   exact ⟨k1, e1.trans k2, e2⟩
 . obtain ⟨r, k2, k3⟩ := h.round l hl
   obtain ⟨e1, e2⟩ := st.keep l (Array.getElem?_eq_some_iff.1 k2).1 k3
   exact ⟨r, e1.trans k2, e2⟩
theorem Jr7 [Base] {P : Program} {o : Oper} {ev : Operand -> Value} {w : World} {R : Value -> World -> Prop} (h : Jbe P R ((execOp ev o).run P w)) (m : Option Nat) : o.semAt m ev = execOp ev o := by
 refine Oper.semAt_eq m ev o fun c hc => ?_
 unfold execOp at h
 rw [hc] at h
 simp only [Sem.run_bind] at h
 generalize (resolve ev c o.type).run P w = r at h
 cases r with
 | ok d w' => simp [Result.andThen, Jbe] at h
 | halt e w' => simp [Result.andThen, Jbe] at h
section
variable {P : Program} {F : Fence} {n : Nat} {b : Frame} {a : Act} {k : List Item} {cs : List Frame} {w : World} {Q : Exit -> Act -> World -> Prop}
theorem Jgd {c : Code} : step P (lone (b.atR a (.code (.scope c) :: k)) cs w) = .next (lone (b.atR a (.code c :: .inScope c :: k)) cs w) :=
 step_lone_go (by simp [stepG, stepG.exec, Frame.atR])
theorem J2g {c : Code} : step P (lone (b.atR a (.inScope c :: k)) cs w) = .next (lone (b.atR a k) cs w) :=
 step_lone_go (by simp [stepG, stepG.exec, Frame.atR])
theorem J3o {c : Code} (h : c.wpIn F n P (Exit.noGoto Q) a w) : (Code.scope c).wpIn F n P Q a w := by
 intro b k cs hro hb hr
 have h0 : (lone (b.atR a (.code (.scope c) :: k)) cs w).fenced P F := fenced_calm hb hr rfl
 obtain ⟨e, a₁, w₁, hq, harr⟩ := h b (.inScope c :: k) cs hro hb hr
 cases e with
 | normal => exact ⟨.normal, a₁, w₁, hq, .head h0 Jgd (StepsIn.trans harr (.one (fenced_calm hb hr rfl) J2g))⟩
 | exit id =>
   have hx : exitTo id (.inScope c :: k) = exitTo id k := by simp [exitTo]
   exact ⟨_, a₁, w₁, hq, fun k' hk => .head h0 Jgd (harr.1 k' (by rw [hx]; exact hk)),
     fun hr' hk => let ⟨k₁, h1, h2⟩ := harr.2 hr' (by rw [hx]; exact hk); ⟨k₁, h1, .head h0 Jgd h2⟩⟩
 | goto l => exact hq.elim
 | ret => exact ⟨_, a₁, w₁, hq, .of_steps (.one h0 Jgd) harr⟩
 | panic ch => exact ⟨_, a₁, w₁, hq, .of_steps (.one h0 Jgd) harr⟩
 | outgrown => exact ⟨_, a₁, w₁, hq, .of_steps (.one h0 Jgd) harr⟩
end
structure Quiet (w w' : World) : Prop where
 size : w'.heap.size = w.heap.size
 keep : ∀ (β : Nat) (o : Obj), w.heap[β]? = some o -> (∀ d, o ≠ Obj.deferred d) -> (∀ r, o ≠ Obj.loop r) -> w'.heap[β]? = some o
 os : w'.os = w.os
 tape : w'.tape = w.tape
 output : w'.output = w.output
theorem Quiet.refl (w : World) : Quiet w w := ⟨rfl, fun _ _ h _ _ => h, rfl, rfl, rfl⟩
theorem Quiet.trans {a b c : World} (h : Quiet a b) (k : Quiet b c) : Quiet a c :=
 ⟨k.size.trans h.size, fun β o ho hd hr => k.keep β o (h.keep β o ho hd hr) hd hr, k.os.trans h.os, k.tape.trans h.tape, k.output.trans h.output⟩
theorem Quiet.cell {w w' : World} (h : Quiet w w') {a : Addr} {v : Value} (hc : w.cell? a = some v) : w'.cell? a = some v := by
 unfold World.cell? at hc ⊢
 cases ho : w.heap[a.block]? with
 | none => rw [ho] at hc; simp at hc
 | some o =>
   rw [h.keep _ o ho (fun d e => by rw [ho, e] at hc; simp at hc) (fun d e => by rw [ho, e] at hc; simp at hc)]
   rw [ho] at hc; exact hc
theorem VRp.quiet {own : Nat -> Prop} {w w' : World} (q : Quiet w w') {x : PV} {v : Value} (h : VRp own w x v) : VRp own w' x v := by
 induction h with
 | int => exact .int ..
 | bool => exact .bool ..
 | str => exact .str ..
 | nilf => exact .nilf
 | nilsl => exact .nilsl
 | nilif => exact .nilif
 | ifc => exact .ifc ..
 | lst0 => exact .lst0 ..
 | lst k rows β o n c cell hn hcap hβ hown hc hv ih => exact .lst k rows β o n c cell hn hcap (by rw [q.size]; exact hβ) hown (fun i j row x hr hx => q.cell (hc i j row x hr hx)) ih
 | ptr row β o cell hβ hown hc hv ih => exact .ptr row β o cell (by rw [q.size]; exact hβ) hown (fun j x hx => q.cell (hc j x hx)) ih
 | full k rows β o n cell hn hβ hown hc hv ih => exact .full k rows β o n cell hn (by rw [q.size]; exact hβ) hown (fun i j row x hr hx => q.cell (hc i j row x hr hx)) ih
theorem Jbq.quiet {own : Nat -> Prop} {w w' : World} (q : Quiet w w') {k rows β o} (h : Jbq own w k rows β o) : Jbq own w' k rows β o := fun i j row x hr hx => by
 obtain ⟨v, hv, hx⟩ := h i j row x hr hx
 exact ⟨v, q.cell hv, hx.quiet q⟩
theorem GlobAt.quiet {own : Nat -> Prop} {w w' : World} (q : Quiet w w') {k rows g} (h : GlobAt own w k rows g) : GlobAt own w' k rows g :=
 ⟨h.data.quiet q, let ⟨arr, T, fz, h1, h2⟩ := h.whole; ⟨arr, T, fz, q.keep _ _ h1 (fun _ e => by cases e) (fun _ e => by cases e), h2⟩⟩
theorem VQ.quiet {own : Nat -> Prop} {w w' : World} (q : Quiet w w') {x : AV} {v : Value} (h : VQ own w x v) : VQ own w' x v := by
 induction h with
 | p x v h => exact .p x v (h.quiet q)
 | agg cs vs hl h ih => exact .agg cs vs hl ih
theorem PMapAt.quiet {own : Nat -> Prop} {w w' : World} (q : Quiet w w') {ks vs r mes clock ps} (h : PMapAt own w ks vs r mes clock ps) : PMapAt own w' ks vs r mes clock ps :=
 ⟨q.keep _ _ h.at_ (fun _ e => by cases e) (fun _ e => by cases e), h.free, h.born, h.perm, h.nd, h.kl, h.vl, fun i k m hk hm => (h.key i k m hk hm).quiet q, fun i k m hk hm => (h.val i k m hk hm).quiet q⟩
theorem VR.quiet {φ : Places} {own : Nat -> Prop} {w w' : World} (q : Quiet w w') {x : AV} {v : Value} (h : VR φ own w x v) : VR φ own w' x v := by
 induction h with
 | any v => exact .any v
 | p x v h => exact .p x v (h.quiet q)
 | agg cs vs hl h ih => exact .agg cs vs hl ih
 | tup cs vs hl h ih => exact .tup cs vs hl ih
 | nils a => exact .nils a
 | ref b k i n c β δ cap hb hc hn room =>
   obtain ⟨arr, T, h1, h2⟩ := room
   exact .ref b k i n c β δ cap hb hc hn ⟨arr, T, q.keep _ _ h1 (fun _ e => by cases e) (fun _ e => by cases e), h2⟩
 | ptr b k i j β δ hb => exact .ptr b k i j β δ hb
 | ubool b => exact .ubool b
 | acc0 b k a => exact .acc0 b k a
 | acc b k n β δ cap hb h0 hn room =>
   obtain ⟨arr, T, h1, h2⟩ := room
   exact .acc b k n β δ cap hb h0 hn ⟨arr, T, q.keep _ _ h1 (fun _ e => by cases e) (fun _ e => by cases e), h2⟩
 | iptr k rows i j β o hβ hown h => exact .iptr k rows i j β o (by rw [q.size]; exact hβ) hown (h.quiet q)
 | nilp => exact .nilp
 | map b r δ hb => exact .map b r δ hb
 | pmap ks vs r mes clock ps h => exact .pmap ks vs r mes clock ps (h.quiet q)
 | nilm => exact .nilm
 | fn f cs vs hf hl h ih => exact .fn f cs vs hf hl ih
 | bfn t p n b cs vs hl h ih => exact .bfn t p n b cs vs hl ih
theorem BR.quiet {φ : Places} {own : Nat -> Prop} {w w' : World} (q : Quiet w w') {b : Nat} {x : ABlk} (hx : ∀ i t j, x = .loop i t j -> w'.heap[i.l]? = w.heap[i.l]?) (h : BR φ own w b x) : BR φ own w' b x := by
 cases x with
 | cells k rows =>
   obtain ⟨β, δ, arr, T, h1, h2, h3⟩ := h
   exact ⟨β, δ, arr, T, h1, q.keep _ _ h2 (fun _ e => by cases e) (fun _ e => by cases e), fun i j row x hr hx => by
     obtain ⟨hj, v, hv, hx⟩ := h3 i j row x hr hx
     exact ⟨hj, v, hv, hx.quiet q⟩⟩
 | map es =>
   obtain ⟨r, mes, cl, h1, h2, h3, hB⟩ := h
   exact ⟨r, mes, cl, h1, q.keep _ _ h2 (fun _ e => by cases e) (fun _ e => by cases e), ⟨h3.1, fun i e m he hm => ⟨(h3.2 i e m he hm).1.quiet q, (h3.2 i e m he hm).2.quiet q⟩⟩, hB⟩
 | iter ks vs seen =>
   obtain ⟨r, mi, mes, cl, sn, ps, h1, h2, h3, hs⟩ := h
   exact ⟨r, mi, mes, cl, sn, ps, h1, q.keep _ _ h2 (fun _ e => by cases e) (fun _ e => by cases e), h3.quiet q, hs⟩
 | loop i t j =>
   obtain ⟨tmps, D, h1, h2, h3, h4⟩ := h
   exact ⟨tmps, D, h1, (hx i t j rfl).trans h2, h3, fun d => (h4 d).quiet q⟩
theorem SR.quiet {G : Jac} {F : Nat -> Prop} {φ : Places} {s : Store} {w w' : World} (q : Quiet w w') (hx : ∀ b i t j, get s b = some (.loop i t j) -> w'.heap[i.l]? = w.heap[i.l]?) (h : SR G F φ s w) : SR G F φ s w' :=
 ⟨fun b x hb => (h.blk b x hb).quiet q (fun i t j e => hx b i t j (by rw [hb, e])), h.inj, h.disj, fun β hβ => by rw [q.size]; exact h.fsize β hβ, fun g k rows hg => by
   obtain ⟨h1, h2, h3⟩ := h.glob g k rows hg
   exact ⟨by rw [q.size]; exact h1, h2, h3.quiet q⟩⟩
theorem Jqg {F : Fence} {n : Nat} {P : Program} {fn : Func} {tmps : Array Value} {own : Nat -> Prop} : ∀ (Ds : List Nat) (w : World), Ds.Nodup -> (∀ D ∈ Ds, w.heap[D]? = some (.deferred (some [])) /\ ¬ own D) ->
   ∃ w', Quiet w w' /\ (∀ β, β ∉ Ds -> w'.heap[β]? = w.heap[β]?) /\ ∀ R : Ending -> World -> Prop, (∃ v, (results fn tmps).run P w' = .ok v w' /\ R (.returned v) w') -> LeavesInM F n P fn tmps R (Ds.map Jfy) .returning w
 | [], w, _, _ => ⟨w, .refl w, fun _ _ => rfl, fun R h => h⟩
 | D :: Ds, w, hn, h => by
   obtain ⟨h1, _⟩ := h D (by simp)
   have hlt := (Array.getElem?_eq_some_iff.1 h1).1
   rw [List.nodup_cons] at hn
   have hput : ∀ β, β ≠ D -> (w.putObj D (.deferred none)).heap[β]? = w.heap[β]? := fun β hb => by simp [World.putObj, Ne.symm hb]
   obtain ⟨w', q, k1, k2⟩ := Jqg (F := F) (n := n) (P := P) (fn := fn) (tmps := tmps) (own := own) Ds (w.putObj D (.deferred none)) hn.2 (fun E hE => by
     rw [hput E (fun e => hn.1 (e ▸ hE))]; exact h E (by simp [hE]))
   refine ⟨w', Quiet.trans (b := w.putObj D (Obj.deferred none)) ⟨by simp [World.putObj], fun β o ho hd _ => ?_, rfl, rfl, rfl⟩ q, fun β hb => ?_, fun R hR => ?_⟩
   . by_cases e : β = D
     . subst e; rw [h1] at ho; cases ho; exact absurd rfl (hd _)
     . rw [hput β e]; exact ho
   . simp only [List.mem_cons, not_or] at hb
     rw [k1 β hb.2, hput β hb.1]
   . exact ⟨by simp, .inl ⟨D, _, rfl, run_takeDeferred h1, k2 R hR⟩⟩
end Go.Am
namespace Go.Am
open Go
structure St where
 t : Jap
 s : Store
 nx : Nat
def Jg2 (G : Jac) (g : Nat) : AV :=
 match G with
 | [] => .any
 | (h, k, rows) :: r => if h = g then .iptr k rows 0 0 else Jg2 r g
def Jah (G : Jac) (t : Jap) : Operand -> AV
 | .tmp d => slot t d
 | .const v => cv v
 | .global g => Jg2 G g
 | .func f => .fn (.func f) []
def putA (t : Jap) : Option Tmp -> AV -> Jap
 | some d, v => (d, v) :: t
 | none, _ => t
def Jc6 (N : Nat) : Option Tmp -> Bool
 | some d => decide (d < N)
 | none => true
def Jd4 (P : Program) (G : Jac) (N : Nat) (ops : Array Oper) : List Oper -> St -> (St -> Prop) -> Prop
 | [], st, K => K st
 | o :: rest, st, K => Jc6 N o.dst = true /\
   match o.guard with
   | none => Jc2 P G o.op (Jah G st.t) st.s st.nx fun v _ up nx' => Jd4 P G N ops rest ⟨putA st.t o.dst v, up ++ st.s, nx'⟩ K
   | some (j, want) => match (ops[j]?).bind (·.dst) with
     | some d => match slot st.t d with
       | .p (.bool b) => vif (b == want) (Jc2 P G o.op (Jah G st.t) st.s st.nx fun v _ up nx' => Jd4 P G N ops rest ⟨putA st.t o.dst v, up ++ st.s, nx'⟩ K)
           (Jd4 P G N ops rest ⟨putA st.t o.dst (.tup []), st.s, st.nx⟩ K)
       | .tup [] => Jd4 P G N ops rest ⟨putA st.t o.dst (.tup []), st.s, st.nx⟩ K
       | _ => False
     | none => False
structure TR (φ : Places) (own : Nat -> Prop) (w : World) (N : Nat) (t : Jap) (a : Act) : Prop where
 size : a.tmps.size = N
 slots : ∀ d, VR φ own w (slot t d) (a.tmps.getD d undef)
structure Rel [Base] (G : Jac) (N n0 : Nat) (F : Nat -> Prop) (st : St) (φ : Places) (a : Act) (w : World) : Prop where
 sr : SR G F φ st.s w
 fresh : ∀ b, st.nx <= b -> φ b = none
 base : n0 <= st.nx
 tr : TR φ (ownF F φ st.s) w N st.t a
 side : Side (ownF (fun _ => False) φ st.s) a w
def After [Base] (G : Jac) (N n0 : Nat) (F : Nat -> Prop) (st : St) (φ : Places) (w : World) (K : St -> Prop) (a' : Act) (w' : World) : Prop :=
 ∃ st' φ', K st' /\ Rel G N n0 F st' φ' a' w' /\ (∀ b, b < n0 -> φ' b = φ b) /\ ∀ F' : Nat -> Prop, Step (ownF F' φ st.s) (ownF F' φ' st'.s) w w'
theorem After.refl [Base] {G N n0 F st φ a w K} (hK : K st) (h : Rel G N n0 F st φ a w) : After G N n0 F st φ w K a w :=
 ⟨st, φ, hK, h, fun _ _ => rfl, fun _ => Step.refl _ _⟩
theorem After.trans [Base] {G N n0 F} {st st1 : St} {φ φ1 : Places} {w w1 w2 : World} {K : St -> Prop} {a2 : Act} (hb : ∀ b, b < n0 -> φ1 b = φ b) (hs : ∀ F' : Nat -> Prop, Step (ownF F' φ st.s) (ownF F' φ1 st1.s) w w1)
   (h : After G N n0 F st1 φ1 w1 K a2 w2) : After G N n0 F st φ w K a2 w2 := by
 obtain ⟨st', φ', h1, h2, h3, h4⟩ := h
 exact ⟨st', φ', h1, h2, fun b h => (h3 b h).trans (hb b h), fun F' => (hs F').trans (h4 F')⟩
theorem After.mono [Base] {G N n0 F st φ w K K' a' w'} (hk : ∀ st, K st -> K' st) (h : After G N n0 F st φ w K a' w') : After G N n0 F st φ w K' a' w' := by
 obtain ⟨st', φ', h1, h2⟩ := h
 exact ⟨st', φ', hk _ h1, h2⟩
section
variable {P : Program} {G : Jac} {N n0 : Nat}
theorem Jg0 [Base] {F : Nat -> Prop} {φ : Places} {st : St} {a : Act} {w : World} (h : Rel G N n0 F st φ a w) (x : Operand) : VR φ (ownF F φ st.s) w (Jah G st.t x) (a.eval x) := by
 cases x with
 | tmp d => exact h.tr.slots d
 | const v => exact VR.cv v
 | global g =>
   have : ∀ G' : Jac, (∀ q ∈ G', q ∈ G) -> VR φ (ownF F φ st.s) w (Jg2 G' g) (.pointer (some ⟨g, 0, none⟩)) := by
     intro G'
     induction G' with
     | nil => intro _; exact .any _
     | cons q r ih =>
       intro hsub
       obtain ⟨hh, k, rows⟩ := q
       simp only [Jg2]
       by_cases e : hh = g
       . subst e
         rw [if_pos rfl]
         obtain ⟨h1, h2, h3⟩ := h.sr.glob hh k rows (hsub _ (by simp))
         have := VR.iptr (φ := φ) k rows 0 0 hh 0 h1 h2 h3.data
         simpa using this
       . rw [if_neg e]
         exact ih fun q hq => hsub q (by simp [hq])
   exact this G fun _ h => h
 | func f => exact .fn _ [] [] rfl rfl (by simp)
theorem TR.put {φ own w t a} (h : TR φ own w N t a) {dst : Option Tmp} {v : AV} {v' : Value} (hd : Jc6 N dst = true) (hv : VR φ own w v v') : TR φ own w N (putA t dst v) (a.put dst v') := by
 cases dst with
 | none => exact h
 | some d =>
   have hdN : d < N := by simpa [Jc6] using hd
   refine ⟨by simp [Act.put, h.size], fun e => ?_⟩
   by_cases he : d = e
   . subst he
     have : (a.put (some d) v').tmps.getD d undef = v' := by simp [Act.put, h.size, hdN]
     rw [this]
     simpa [putA, slot] using hv
   . have : (a.put (some d) v').tmps.getD e undef = a.tmps.getD e undef := by simp [Act.put, Array.getElem?_setIfInBounds_ne he]
     rw [this]
     simpa [putA, slot, he] using h.slots e
theorem TR.mono {φ φ' own own' w w' t a} (hφ : Places.le φ φ') (st : Step own own' w w') (h : TR φ own w N t a) : TR φ' own' w' N t a :=
 ⟨h.size, fun d => (h.slots d).mono hφ st⟩
theorem Act.put_defers (a : Act) (dst : Option Tmp) (v : Value) : (a.put dst v).defers = a.defers := by cases dst <;> rfl
theorem J1a [Base] {F : Nat -> Prop} {φ : Places} {st : St} {a : Act} {w : World} {o : Oper} {Q : Exit -> Act -> World -> Prop} {K : AV -> List Nat -> Store -> Nat -> Prop} {K' : Act -> World -> Prop}
   (h : Jc2 P G o.op (Jah G st.t) st.s st.nx K) (hr : Rel G N n0 F st φ a w) (hd : Jc6 N o.dst = true)
   (hK : ∀ v rd up nx' φ' a' w', K v rd up nx' -> Rel G N n0 F ⟨putA st.t o.dst v, up ++ st.s, nx'⟩ φ' a' w' -> (∀ b, b < n0 -> φ' b = φ b) -> (∀ F' : Nat -> Prop, Step (ownF F' φ st.s) (ownF F' φ' (up ++ st.s)) w w') -> K' a' w') :
   o.wpIn rF 0 P a w K' Q := by
 have hrun := J3j h F φ st.s w a.eval (fun _ => rfl) hr.sr (fun b hb => hr.fresh b hb) ⟨fun x _ => Jg0 hr x, fun _ => rfl⟩
 have fin : ∀ v' w', (∃ v rd up nx', K v rd up nx' /\ st.nx <= nx' /\ Post G F φ st.s w v up st.nx nx' v' w') -> K' (a.put o.dst v') w' := by
   rintro v' w' ⟨v, rd, up, nx', hk, hle, φ', h1, h2, h3, h4, h5⟩
   refine hK v rd up nx' φ' (a.put o.dst v') w' hk ⟨h3, fun b hb => ?_, Nat.le_trans hr.base hle, (hr.tr.mono h1 (h5 F)).put hd h4, hr.side.mono (h5 _) (Act.put_defers _ _ _)⟩ (fun b hb => h2 b (.inl (Nat.lt_of_lt_of_le hb hr.base))) h5
   have hb' : nx' <= b := hb
   rw [h2 b (.inr hb')]
   exact hr.fresh b (Nat.le_trans hle hb')
 refine ⟨fun _ _ => trivial, ?_⟩
 rw [Jr7 hrun]
 generalize (execOp a.eval o).run P w = r at hrun
 cases r with
 | ok n w' =>
   cases n <;> simp only [Jbe] at hrun <;> simp only [Oper.uponIn]
   case value u => exact fin u w' hrun
   case skip => exact fin undef w' hrun
   case enter f args =>
     refine ⟨fun h => (by cases h), Jkm (hrun.mono fun e w'' he => ?_)⟩
     obtain ⟨u, rfl, hp⟩ := he
     exact fin u w'' hp
   case round l f tmps asg body =>
     refine ⟨fun h => (by cases h), Jr1 (hrun.mono fun e w'' he => ?_)⟩
     obtain ⟨u, rfl, hp⟩ := he
     exact fin u w'' hp
 | halt e w' => simp only [Jbe] at hrun
theorem Jsc {φ own w v} (h : VR φ own w (.tup []) v) : v = .tuple #[] := by
 obtain ⟨vs, rfl, h1, _⟩ := h.tup_inv
 have : vs = [] := List.length_eq_zero_iff.1 (by simpa using h1)
 subst this
 rfl
theorem Jnh {ops : Array Oper} {a : Act} {j d : Nat} (hd : (ops[j]?).bind (·.dst) = some d) : yielded ops a.tmps j = match a.tmps.getD d undef with | .bool b => some b | _ => none := by
 unfold yielded
 rw [hd]
 simp only [Option.bind_some]
 rw [Array.getD_eq_getD_getElem?]
 cases a.tmps[d]? with
 | none => rfl
 | some v => cases v <;> rfl
theorem Jm0 [Base] {ops : Array Oper} {Q : Exit -> Act -> World -> Prop} : ∀ (l : List Oper) (st : St) (K : St -> Prop), Jd4 P G N ops l st K -> ∀ (F : Nat -> Prop) (φ : Places) (a : Act) (w : World), Rel G N n0 F st φ a w ->
   (∀ a' w', After G N n0 F st φ w K a' w' -> Q .normal a' w') -> wpListIn rF 0 P ops Q l a w
 | [], st, K, h, F, φ, a, w, hr, hQ => hQ a w (After.refl h hr)
 | o :: rest, st, K, h, F, φ, a, w, hr, hQ => by
   obtain ⟨hd, h⟩ := h
   have go : Jc2 P G o.op (Jah G st.t) st.s st.nx (fun v _ up nx' => Jd4 P G N ops rest ⟨putA st.t o.dst v, up ++ st.s, nx'⟩ K) -> o.wpIn rF 0 P a w (wpListIn rF 0 P ops Q rest) Q := fun hv =>
     J1a hv hr hd fun v rd up nx' φ' a' w' hk hr' hb hs => Jm0 rest _ K hk F φ' a' w' hr' fun a2 w2 h2 => hQ a2 w2 (After.trans hb hs h2)
   have skip : Jd4 P G N ops rest ⟨putA st.t o.dst (.tup []), st.s, st.nx⟩ K -> wpListIn rF 0 P ops Q rest (a.put o.dst undef) w := fun hk =>
     Jm0 rest _ K hk F φ (a.put o.dst undef) w ⟨hr.sr, hr.fresh, hr.base, hr.tr.put hd (.tup [] [] rfl (by simp)), hr.side.mono (Step.refl _ _) (Act.put_defers _ _ _)⟩ hQ
   unfold wpListIn
   cases hg : o.guard with
   | none =>
     rw [hg] at h
     rw [if_pos (by simp [Region.wanted, hg])]
     exact go h
   | some jw =>
     obtain ⟨j, want⟩ := jw
     rw [hg] at h
     simp only at h
     split at h
     . rename_i d hdst
       have hy := Jnh (a := a) hdst
       have hs := hr.tr.slots d
       split at h
       . rename_i b hb
         rw [hb] at hs
         rw [hs.bool_inv] at hy
         by_cases hbw : b = want
         . rw [if_pos (by simp [Region.wanted, hg, hy, hbw])]
           exact go (h.1 (by simpa using hbw))
         . rw [if_neg (by simp [Region.wanted, hg, hy, hbw])]
           exact ⟨fun _ _ => trivial, skip (h.2 (by simpa using hbw))⟩
       . rename_i hb
         rw [hb] at hs
         rw [Jsc hs] at hy
         rw [if_neg (by simp [Region.wanted, hg, hy])]
         exact ⟨fun _ _ => trivial, skip h⟩
       . exact h.elim
     . exact h.elim
structure AEv (P : Program) (G : Jac) (N n0 : Nat) (c : Code) (st : St) (Q : Exit -> St -> Prop) : Prop where
 run : ∀ [Base] (F : Nat -> Prop) (φ : Places) (a : Act) (w : World), Rel G N n0 F st φ a w -> c.wpIn rF 0 P (fun e a' w' => After G N n0 F st φ w (Q e) a' w') a w
theorem AEv.mono {c : Code} {st : St} {Q Q' : Exit -> St -> Prop} (h : AEv P G N n0 c st Q) (hq : ∀ e st, Q e st -> Q' e st) : AEv P G N n0 c st Q' :=
 ⟨fun F φ a w hr => wpIn_mono (h.run F φ a w hr) fun e _ _ => After.mono (hq e)⟩
def Jgj (K : St -> Prop) (Q : Exit -> St -> Prop) : Exit -> St -> Prop
 | .normal, st => K st
 | e, st => Q e st
def Jhy (id : Nat) (Q : Exit -> St -> Prop) : Exit -> St -> Prop
 | .exit i, st => if i = id then Q .normal st else Q (.exit i) st
 | e, st => Q e st
def Jzq (Q : Exit -> St -> Prop) : Exit -> St -> Prop
 | .goto _, _ => False
 | e, st => Q e st
def Jdc (P : Program) (G : Jac) (N n0 : Nat) (c : Code) (st : St) (Q : Exit -> St -> Prop) : Prop := AEv P G N n0 (.loop c) st Q
def Jgq (P : Program) (G : Jac) (N n0 : Nat) (g : Operand) (ps : Array Tmp) (asg body : Code) (st : St) (Q : Exit -> St -> Prop) : Prop := AEv P G N n0 (.rangeFunc g ps asg body) st Q
def Jju (P : Program) (G : Jac) (N n0 : Nat) (id : Nat) (ops : Array Oper) (st : St) (Q : Exit -> St -> Prop) : Prop := AEv P G N n0 (.region id ops true) st Q
def vc (P : Program) (G : Jac) (N n0 : Nat) : Code -> St -> (Exit -> St -> Prop) -> Prop
 | .skip, st, Q => Q .normal st
 | .region id ops draw, st, Q => if draw then Jju P G N n0 id ops st Q else Jd4 P G N ops ops.toList st (Q .normal)
 | .seq a b, st, Q => vc P G N n0 a st (Jgj (fun st => vc P G N n0 b st Q) Q)
 | .cond c a b, st, Q => match Jah G st.t c with
   | .p (.bool t) => vif t (vc P G N n0 a st Q) (vc P G N n0 b st Q)
   | .ubool => vc P G N n0 a st Q /\ vc P G N n0 b st Q
   | _ => False
 | .block id b, st, Q => vc P G N n0 b st (Jhy id Q)
 | .loop b, st, Q => Jdc P G N n0 b st Q
 | .exit id, st, Q => Q (.exit id) st
 | .scope b, st, Q => vc P G N n0 b st (Jzq Q)
 | .label _, st, Q => Q .normal st
 | .ret, st, Q => Q .ret st
 | .rangeFunc g ps asg body, st, Q => Jgq P G N n0 g ps asg body st Q
 | _, _, _ => False
theorem Jct : ∀ (c : Code) (st : St) (Q : Exit -> St -> Prop), vc P G N n0 c st Q -> AEv P G N n0 c st Q
 | .skip, st, Q, h => ⟨fun F φ a w hr => wpIn_skip (After.refl h hr)⟩
 | .region id ops draw, st, Q, h => by
   simp only [vc] at h
   cases draw with
   | true => exact h
   | false =>
     refine ⟨fun F φ a w hr => ?_⟩
     exact wpIn_region_list (Jm0 _ st _ h F φ a w hr fun a' w' ha => ha)
 | .seq x y, st, Q, h => .mk fun F φ a w hr => by
   refine wpIn_seq (wpIn_mono ((Jct x st _ h).run F φ a w hr) fun e a' w' ha => ?_)
   cases e with
   | normal =>
     obtain ⟨st', φ', h1, h2, h3, h4⟩ := ha
     exact wpIn_mono ((Jct y st' Q h1).run F φ' a' w' h2) fun e a2 w2 h5 => After.trans h3 h4 h5
   | _ => exact ha
 | .cond c x y, st, Q, h => .mk fun F φ a w hr => by
   simp only [vc] at h
   split at h
   . rename_i t hc
     have hv := Jg0 hr c
     rw [hc] at hv
     exact wpIn_cond_split hv.bool_inv (fun ht => (Jct x st Q (h.1 ht)).run F φ a w hr) (fun ht => (Jct y st Q (h.2 ht)).run F φ a w hr)
   . rename_i hc
     have hv := Jg0 hr c
     rw [hc] at hv
     obtain ⟨b, hb⟩ : ∃ b, a.eval c = .bool b := by
       generalize a.eval c = v at hv
       cases hv; exact ⟨_, rfl⟩
     exact wpIn_cond_split hb (fun _ => (Jct x st Q h.1).run F φ a w hr) (fun _ => (Jct y st Q h.2).run F φ a w hr)
   . exact h.elim
 | .block id b, st, Q, h => .mk fun F φ a w hr => by
   refine wpIn_block (wpIn_mono ((Jct b st _ h).run F φ a w hr) fun e a' w' ha => ?_)
   cases e with
   | exit i =>
     simp only [Exit.inBlock]
     by_cases e : i = id
     . rw [if_pos e]
       exact After.mono (fun st hs => by simpa [Jhy, e] using hs) ha
     . rw [if_neg e]
       exact After.mono (fun st hs => by simpa [Jhy, e] using hs) ha
   | _ => exact ha
 | .loop b, st, Q, h => h
 | .exit id, st, Q, h => ⟨fun F φ a w hr => wpIn_exit (After.refl h hr)⟩
 | .scope b, st, Q, h => .mk fun F φ a w hr => by
   refine J3o (wpIn_mono ((Jct b st _ h).run F φ a w hr) fun e a' w' ha => ?_)
   cases e with
   | goto l => obtain ⟨_, _, h1, _⟩ := ha; exact h1.elim
   | _ => exact ha
 | .label _, st, Q, h => ⟨fun F φ a w hr => wpIn_label (After.refl h hr)⟩
 | .ret, st, Q, h => ⟨fun F φ a w hr => wpIn_ret (After.refl h hr)⟩
 | .goto _, _, _, h => h.elim
 | .refuse _, _, _, h => h.elim
 | .rangeFunc .., _, _, h => h
end
end Go.Am
namespace Go.Am
open Go
mutual
def renA (ρ : List Nat) : AV -> Option AV
 | .p x => some (.p x)
 | .agg cs => (renL ρ cs).map .agg
 | .tup cs => (renL ρ cs).map .tup
 | .nils => some .nils
 | .ref b k i n c => (ρ[b]?).map fun b' => .ref b' k i n c
 | .ptr b k i j => (ρ[b]?).map fun b' => .ptr b' k i j
 | .iptr k rows i j => some (.iptr k rows i j)
 | .nilp => some .nilp
 | .map b => (ρ[b]?).map .map
 | .pmap ks vs => some (.pmap ks vs)
 | .nilm => some .nilm
 | .fn f cs => (renL ρ cs).map (.fn f)
 | .acc b k n => (ρ[b]?).map fun b' => .acc b' k n
 | .ubool => some .ubool
 | .any => none
def renL (ρ : List Nat) : List AV -> Option (List AV)
 | [] => some []
 | x :: xs => (renA ρ x).bind fun y => (renL ρ xs).map (y :: ·)
end
def renR (ρ : List Nat) : List (List AV) -> Option (List (List AV))
 | [] => some []
 | x :: xs => (renL ρ x).bind fun y => (renR ρ xs).map (y :: ·)
def renE (ρ : List Nat) : List (AV × AV) -> Option (List (AV × AV))
 | [] => some []
 | x :: xs => (renA ρ x.1).bind fun y => (renA ρ x.2).bind fun z => (renE ρ xs).map ((y, z) :: ·)
def renT (ρ : List Nat) : List (Nat × AV) -> Option (List (Nat × AV))
 | [] => some []
 | x :: xs => (renA ρ x.2).bind fun y => (renT ρ xs).map ((x.1, y) :: ·)
theorem Jhb {ρ : List Nat} : ∀ {t t' : List (Nat × AV)}, renT ρ t = some t' -> ∀ d, (slot t d = .any /\ slot t' d = .any) \/ renA ρ (slot t d) = some (slot t' d)
 | [], t', h, d => by
   simp [renT] at h; subst h; exact .inl ⟨rfl, rfl⟩
 | x :: xs, t', h, d => by
   simp only [renT, Option.bind_eq_some_iff, Option.map_eq_some_iff] at h
   obtain ⟨y, h1, ys, h2, rfl⟩ := h
   simp only [slot]
   by_cases e : x.1 = d
   . rw [if_pos e, if_pos e]; exact .inr h1
   . rw [if_neg e, if_neg e]; exact Jhb h2 d
def renB (ρ : List Nat) : ABlk -> Option ABlk
 | .cells k rows => (renR ρ rows).map (.cells k)
 | .map es => (renE ρ es).map .map
 | .iter ks vs seen => some (.iter ks vs seen)
 | .loop i t j => (renT ρ t).map (.loop i · j)
def via (φ : Places) (ρ : List Nat) : Places := fun b => (ρ[b]?).bind φ
theorem Jbz {ρ : List Nat} : ∀ {xs ys : List AV}, renL ρ xs = some ys -> ys.length = xs.length /\ ∀ (i : Nat) x, xs[i]? = some x -> ∃ y, ys[i]? = some y /\ renA ρ x = some y
 | [], ys, h => by
   simp [renL] at h; subst h
   exact ⟨rfl, fun i x h => by simp at h⟩
 | x :: xs, ys, h => by
   simp only [renL] at h
   cases hx : renA ρ x with
   | none => rw [hx] at h; cases h
   | some y =>
     rw [hx] at h
     simp only [Option.bind_some, Option.map_eq_some_iff] at h
     obtain ⟨zs, hz, rfl⟩ := h
     obtain ⟨h1, h2⟩ := Jbz hz
     refine ⟨by simp [h1], fun i u hu => ?_⟩
     cases i with
     | zero => simp at hu; subst hu; exact ⟨y, rfl, hx⟩
     | succ i => simp at hu ⊢; exact h2 i u hu
theorem Jma {ρ : List Nat} : ∀ {xs ys : List (List AV)}, renR ρ xs = some ys -> ys.length = xs.length /\ ∀ (i : Nat) x, xs[i]? = some x -> ∃ y, ys[i]? = some y /\ renL ρ x = some y
 | [], ys, h => by
   simp [renR] at h; subst h
   exact ⟨rfl, fun i x h => by simp at h⟩
 | x :: xs, ys, h => by
   simp only [renR] at h
   cases hx : renL ρ x with
   | none => rw [hx] at h; cases h
   | some y =>
     rw [hx] at h
     simp only [Option.bind_some, Option.map_eq_some_iff] at h
     obtain ⟨zs, hz, rfl⟩ := h
     obtain ⟨h1, h2⟩ := Jma hz
     refine ⟨by simp [h1], fun i u hu => ?_⟩
     cases i with
     | zero => simp at hu; subst hu; exact ⟨y, rfl, hx⟩
     | succ i => simp at hu ⊢; exact h2 i u hu
theorem Jl8 {ρ : List Nat} : ∀ {xs ys : List (AV × AV)}, renE ρ xs = some ys -> ys.length = xs.length /\ ∀ (i : Nat) x, xs[i]? = some x -> ∃ y, ys[i]? = some y /\ renA ρ x.1 = some y.1 /\ renA ρ x.2 = some y.2
 | [], ys, h => by
   simp [renE] at h; subst h
   exact ⟨rfl, fun i x h => by simp at h⟩
 | x :: xs, ys, h => by
   simp only [renE] at h
   cases hx : renA ρ x.1 with
   | none => rw [hx] at h; cases h
   | some y =>
     cases hx2 : renA ρ x.2 with
     | none => rw [hx, hx2] at h; cases h
     | some y2 =>
       rw [hx, hx2] at h
       simp only [Option.bind_some, Option.map_eq_some_iff] at h
       obtain ⟨zs, hz, rfl⟩ := h
       obtain ⟨h1, h2⟩ := Jl8 hz
       refine ⟨by simp [h1], fun i u hu => ?_⟩
       cases i with
       | zero => simp at hu; subst hu; exact ⟨(y, y2), rfl, hx, hx2⟩
       | succ i =>
       obtain ⟨q, e1, e2⟩ := h2 i u (by simpa using hu)
       exact ⟨q, by simpa using e1, e2⟩
theorem VR.ren {φ : Places} {own : Nat -> Prop} {w : World} {ρ : List Nat} {x y : AV} {v : Value} (h : VR φ own w y v) (hr : renA ρ x = some y) : VR (via φ ρ) own w x v := by
 have place : ∀ {b b' : Nat} {p : Place}, ρ[b]? = some b' -> φ b' = some p -> via φ ρ b = some p := fun h1 h2 => by simp [via, h1, h2]
 induction h generalizing x with
 | any v =>
   cases x <;> simp [renA, Option.map_eq_some_iff] at hr
 | p z v h =>
   cases x <;> simp [renA, Option.map_eq_some_iff] at hr
   subst hr; exact .p _ _ h
 | agg cs vs hl h ih =>
   cases x <;> simp [renA, Option.map_eq_some_iff] at hr
   rename_i ds
   obtain ⟨h1, h2⟩ := Jbz hr
   refine .agg ds vs (by omega) fun i c v hc hv => ?_
   obtain ⟨y, e1, e2⟩ := h2 i c hc
   exact ih i y v e1 hv e2
 | tup cs vs hl h ih =>
   cases x <;> simp [renA, Option.map_eq_some_iff] at hr
   rename_i ds
   obtain ⟨h1, h2⟩ := Jbz hr
   refine .tup ds vs (by omega) fun i c v hc hv => ?_
   obtain ⟨y, e1, e2⟩ := h2 i c hc
   exact ih i y v e1 hv e2
 | nils a =>
   cases x <;> simp [renA, Option.map_eq_some_iff] at hr
   exact .nils a
 | ref b k i n c β δ cap hφ hc hn room =>
   cases x <;> simp [renA, Option.map_eq_some_iff] at hr
   obtain ⟨b0, h1, rfl, rfl, rfl, rfl, rfl⟩ := hr
   exact .ref _ _ _ _ _ β δ cap (place h1 hφ) hc hn room
 | ptr b k i j β δ hφ =>
   cases x <;> simp [renA, Option.map_eq_some_iff] at hr
   obtain ⟨b0, h1, rfl, rfl, rfl, rfl⟩ := hr
   exact .ptr _ _ _ _ β δ (place h1 hφ)
 | ubool b =>
   cases x <;> simp [renA, Option.map_eq_some_iff] at hr
   exact .ubool b
 | acc0 b k a =>
   cases x <;> simp [renA, Option.map_eq_some_iff] at hr
   obtain ⟨b0, h1, rfl, rfl, rfl⟩ := hr
   exact .acc0 ..
 | acc b k n β δ cap hφ h0 hn room =>
   cases x <;> simp [renA, Option.map_eq_some_iff] at hr
   obtain ⟨b0, h1, rfl, rfl, rfl⟩ := hr
   exact .acc _ _ _ β δ cap (place h1 hφ) h0 hn room
 | iptr k rows i j β o hβ hown h =>
   cases x <;> simp [renA, Option.map_eq_some_iff] at hr
   obtain ⟨rfl, rfl, rfl, rfl⟩ := hr
   exact .iptr _ _ _ _ β o hβ hown h
 | nilp =>
   cases x <;> simp [renA, Option.map_eq_some_iff] at hr
   exact .nilp
 | map b r δ hφ =>
   cases x <;> simp [renA, Option.map_eq_some_iff] at hr
   exact .map _ r δ (place hr hφ)
 | pmap ks vs r mes clock ps h =>
   cases x <;> simp [renA, Option.map_eq_some_iff] at hr
   obtain ⟨rfl, rfl⟩ := hr
   exact .pmap _ _ r mes clock ps h
 | nilm =>
   cases x <;> simp [renA, Option.map_eq_some_iff] at hr
   exact .nilm
 | fn f cs vs hf hl h ih =>
   cases x <;> simp [renA, Option.map_eq_some_iff] at hr
   rename_i g ds
   obtain ⟨hr, rfl⟩ := hr
   obtain ⟨h1, h2⟩ := Jbz hr
   refine .fn _ ds vs hf (by omega) fun i c v hc hv => ?_
   obtain ⟨y, e1, e2⟩ := h2 i c hc
   exact ih i y v e1 hv e2
 | bfn t p n b cs vs hl h ih =>
   cases x <;> simp [renA, Option.map_eq_some_iff] at hr
   rename_i g ds
   obtain ⟨hr, rfl⟩ := hr
   obtain ⟨h1, h2⟩ := Jbz hr
   refine .bfn _ _ _ _ ds vs (by omega) fun i c v hc hv => ?_
   obtain ⟨y, e1, e2⟩ := h2 i c hc
   exact ih i y v e1 hv e2
theorem BR.ren {φ : Places} {own : Nat -> Prop} {w : World} {ρ : List Nat} {b b' : Nat} {x y : ABlk} (hb : ρ[b]? = some b') (h : BR φ own w b' y) (hr : renB ρ x = some y) : BR (via φ ρ) own w b x := by
 have place : ∀ {p : Place}, φ b' = some p -> via φ ρ b = some p := fun h2 => by simp [via, hb, h2]
 cases x with
 | cells k rows =>
   simp only [renB, Option.map_eq_some_iff] at hr
   obtain ⟨rows', hr, rfl⟩ := hr
   obtain ⟨β, δ, arr, T, h1, h2, h3⟩ := h
   refine ⟨β, δ, arr, T, place h1, h2, fun i j row z hrow hz => ?_⟩
   obtain ⟨row', e1, e2⟩ := (Jma hr).2 i row hrow
   obtain ⟨z', e3, e4⟩ := (Jbz e2).2 j z hz
   obtain ⟨hj, v, e5, e6⟩ := h3 i j row' z' e1 e3
   exact ⟨hj, v, e5, e6.ren e4⟩
 | map es =>
   simp only [renB, Option.map_eq_some_iff] at hr
   obtain ⟨es', hr, rfl⟩ := hr
   obtain ⟨r, mes, cl, h1, h2, h3, hB⟩ := h
   obtain ⟨hl, hg⟩ := Jl8 hr
   refine ⟨r, mes, cl, place h1, h2, ⟨by rw [h3.1, hl], fun i e m he hm => ?_⟩, hB⟩
   obtain ⟨e', e1, e2, e3⟩ := hg i e he
   obtain ⟨k1, k2⟩ := h3.2 i e' m e1 hm
   exact ⟨k1.ren e2, k2.ren e3⟩
 | iter ks vs seen =>
   simp only [renB, Option.some.injEq] at hr
   subst hr
   obtain ⟨r, mi, mes, cl, sn, ps, h1, h2, h3, hs⟩ := h
   exact ⟨r, mi, mes, cl, sn, ps, place h1, h2, h3, hs⟩
 | loop i t j =>
   simp only [renB, Option.map_eq_some_iff] at hr
   obtain ⟨t', hr, rfl⟩ := hr
   obtain ⟨tmps, D, h1, h2, h3, h4⟩ := h
   refine ⟨tmps, D, place h1, h2, h3, fun d => ?_⟩
   rcases Jhb hr d with ⟨e1, e2⟩ | e
   . rw [e1]; exact .any _
   . exact (h4 d).ren e
mutual
def wkn : AV -> AV -> Prop
 | .nils, .acc _ _ n => n = 0
 | .nils, .p (.lst _ rows) => rows = []
 | .ref b k i n _, .ref b' k' i' n' none => b = b' /\ k = k' /\ i = i' /\ n = n'
 | .ref b k i n c, .acc b' k' n' => (b = b' /\ k = k' /\ i = 0 /\ n = n' /\ 0 < n) \/ (n' = 0 /\ n = 0 /\ c = some 0)
 | .agg cs, .agg ds => wknL cs ds
 | .tup cs, .tup ds => wknL cs ds
 | .fn f cs, .fn g ds => f = g /\ wknL cs ds
 | y, z => y = z
def wknL : List AV -> List AV -> Prop
 | [], [] => True
 | y :: ys, z :: zs => wkn y z /\ wknL ys zs
 | _, _ => False
end
theorem Jgm : ∀ {ys zs : List AV}, wknL ys zs -> zs.length = ys.length /\ ∀ (i : Nat) z, zs[i]? = some z -> ∃ y, ys[i]? = some y /\ wkn y z
 | [], [], _ => ⟨rfl, fun i z h => by simp at h⟩
 | y :: ys, z :: zs, h => by
   simp only [wknL] at h
   obtain ⟨h1, h2⟩ := Jgm h.2
   refine ⟨by simp [h1], fun i u hu => ?_⟩
   cases i with
   | zero => simp at hu; subst hu; exact ⟨y, rfl, h.1⟩
   | succ i => exact h2 i u (by simpa using hu)
 | [], _ :: _, h => by simp [wknL] at h
 | _ :: _, [], h => by simp [wknL] at h
theorem VR.wkn {φ : Places} {own : Nat -> Prop} {w : World} {y z : AV} {v : Value} (h : VR φ own w y v) (hw : wkn y z) : VR φ own w z v := by
 induction h generalizing z with
 | nils a =>
   unfold Am.wkn at hw
   split at hw
   . subst hw; exact .acc0 ..
   . subst hw; exact .p _ _ (.lst0 ..)
   all_goals (first | contradiction | (subst hw; exact .nils a))
 | agg cs vs hl h ih =>
   unfold Am.wkn at hw
   split at hw
   . first | contradiction | (rename_i e; cases e)
   . first | contradiction | (rename_i e; cases e)
   . first | contradiction | (rename_i e; cases e)
   . first | contradiction | (rename_i e; cases e)
   . first | contradiction | (rename_i e; cases e)
     obtain ⟨h1, h2⟩ := Jgm hw
     refine .agg _ vs (by omega) fun i c v hc hv => ?_
     obtain ⟨y, e1, e2⟩ := h2 i c hc
     exact ih i y v e1 hv e2
   . first | contradiction | (rename_i e; cases e)
   . first | contradiction | (rename_i e; cases e)
   . subst hw; exact .agg cs vs hl h
 | tup cs vs hl h ih =>
   unfold Am.wkn at hw
   split at hw
   . first | contradiction | (rename_i e; cases e)
   . first | contradiction | (rename_i e; cases e)
   . first | contradiction | (rename_i e; cases e)
   . first | contradiction | (rename_i e; cases e)
   . first | contradiction | (rename_i e; cases e)
   . first | contradiction | (rename_i e; cases e)
     obtain ⟨h1, h2⟩ := Jgm hw
     refine .tup _ vs (by omega) fun i c v hc hv => ?_
     obtain ⟨y, e1, e2⟩ := h2 i c hc
     exact ih i y v e1 hv e2
   . first | contradiction | (rename_i e; cases e)
   . subst hw; exact .tup cs vs hl h
 | fn f cs vs hf hl h ih =>
   unfold Am.wkn at hw
   split at hw
   . first | contradiction | (rename_i e; cases e)
   . first | contradiction | (rename_i e; cases e)
   . first | contradiction | (rename_i e; cases e)
   . first | contradiction | (rename_i e; cases e)
   . first | contradiction | (rename_i e; cases e)
   . first | contradiction | (rename_i e; cases e)
   . first | contradiction | (rename_i e; cases e)
     obtain ⟨rfl, hw⟩ := hw
     obtain ⟨h1, h2⟩ := Jgm hw
     refine .fn _ _ vs hf (by omega) fun i c v hc hv => ?_
     obtain ⟨y, e1, e2⟩ := h2 i c hc
     exact ih i y v e1 hv e2
   . subst hw; exact .fn f cs vs hf hl h
 | bfn t p n b cs vs hl h ih =>
   unfold Am.wkn at hw
   split at hw
   . first | contradiction | (rename_i e; cases e)
   . first | contradiction | (rename_i e; cases e)
   . first | contradiction | (rename_i e; cases e)
   . first | contradiction | (rename_i e; cases e)
   . first | contradiction | (rename_i e; cases e)
   . first | contradiction | (rename_i e; cases e)
   . first | contradiction | (rename_i e; cases e)
     obtain ⟨rfl, hw⟩ := hw
     obtain ⟨h1, h2⟩ := Jgm hw
     refine .bfn _ _ _ _ _ vs (by omega) fun i c v hc hv => ?_
     obtain ⟨y, e1, e2⟩ := h2 i c hc
     exact ih i y v e1 hv e2
   . subst hw; exact .bfn t p n b cs vs hl h
 | any v => unfold Am.wkn at hw; subst hw; exact .any v
 | p x v h => unfold Am.wkn at hw; subst hw; exact .p x v h
 | ref b k i n c β δ cap hφ hc hn room =>
   unfold Am.wkn at hw
   split at hw
   all_goals (first | contradiction | skip)
   . rename_i e; cases e
     obtain ⟨rfl, rfl, rfl, rfl⟩ := hw
     exact .ref b k i n none β δ cap hφ (fun _ h => by cases h) hn room
   . rename_i e; cases e
     rcases hw with ⟨rfl, rfl, rfl, rfl, h0⟩ | ⟨rfl, rfl, rfl⟩
     . rw [Nat.zero_mul, Nat.add_zero]
       exact .acc b k n β δ cap hφ h0 hn (by simpa using room)
     . obtain rfl := hc 0 rfl
       exact .acc0 ..
   . subst hw; exact .ref b k i n c β δ cap hφ hc hn room
 | ptr b k i j β δ hφ => unfold Am.wkn at hw; subst hw; exact .ptr b k i j β δ hφ
 | ubool b => unfold Am.wkn at hw; subst hw; exact .ubool b
 | acc0 b k a => unfold Am.wkn at hw; subst hw; exact .acc0 b k a
 | acc b k n β δ cap hφ h0 hn room => unfold Am.wkn at hw; subst hw; exact .acc b k n β δ cap hφ h0 hn room
 | iptr k rows i j β o hβ hown h => unfold Am.wkn at hw; subst hw; exact .iptr k rows i j β o hβ hown h
 | nilp => unfold Am.wkn at hw; subst hw; exact .nilp
 | map b r δ hφ => unfold Am.wkn at hw; subst hw; exact .map b r δ hφ
 | pmap ks vs r mes clock ps h => unfold Am.wkn at hw; subst hw; exact .pmap ks vs r mes clock ps h
 | nilm => unfold Am.wkn at hw; subst hw; exact .nilm
def wknR : List (List AV) -> List (List AV) -> Prop
 | [], [] => True
 | y :: ys, z :: zs => wknL y z /\ wknR ys zs
 | _, _ => False
def wknB (y z : ABlk) : Prop := y = z \/ ∃ k rows rows', y = .cells k rows /\ z = .cells k rows' /\ wknR rows rows'
theorem Js4 : ∀ {ys zs : List (List AV)}, wknR ys zs -> ∀ (i : Nat) z, zs[i]? = some z -> ∃ y, ys[i]? = some y /\ wknL y z
 | [], [], _, i, z, h => by simp at h
 | y :: ys, z :: zs, h, i, u, hu => by
   simp only [wknR] at h
   cases i with
   | zero => simp at hu; subst hu; exact ⟨y, rfl, h.1⟩
   | succ i => exact Js4 h.2 i u (by simpa using hu)
 | [], _ :: _, h, _, _, _ => by simp [wknR] at h
 | _ :: _, [], h, _, _, _ => by simp [wknR] at h
theorem BR.wkn {φ : Places} {own : Nat -> Prop} {w : World} {b : Nat} {y z : ABlk} (h : BR φ own w b y) (hw : wknB y z) : BR φ own w b z := by
 rcases hw with rfl | ⟨k, rows, rows', rfl, rfl, hw⟩
 . exact h
 . obtain ⟨β, δ, arr, T, h1, h2, h3⟩ := h
   refine ⟨β, δ, arr, T, h1, h2, fun i j row x hr hx => ?_⟩
   obtain ⟨row', e1, e2⟩ := Js4 hw i row hr
   obtain ⟨x', e3, e4⟩ := (Jgm e2).2 j x hx
   obtain ⟨hj, v, e5, e6⟩ := h3 i j row' x' e1 e3
   exact ⟨hj, v, e5, e6.wkn e4⟩
structure Sub (ρ : List Nat) (n0 : Nat) (st' st : St) : Prop where
 slots : ∀ p ∈ st.t, ∃ z, renA ρ p.2 = some z /\ wkn (slot st'.t p.1) z
 blocks : ∀ p ∈ st.s, ∀ x, p.2 = some x -> ∃ b' z y, ρ[p.1]? = some b' /\ renB ρ x = some z /\ get st'.s b' = some y /\ wknB y z
 nodup : ρ.Nodup
 len : ρ.length <= st.nx
 base : ρ.take n0 = List.range n0
theorem get_mem : ∀ {s : Store} {b : Nat} {x : ABlk}, get s b = some x -> (b, some x) ∈ s
 | [], _, _, h => by cases h
 | (c, y) :: s, b, x, h => by
   simp only [get] at h
   by_cases e : c = b
   . subst e; rw [if_pos rfl] at h; subst h; simp
   . rw [if_neg e] at h
     exact List.mem_cons_of_mem _ (get_mem h)
theorem Jmn : ∀ {t : Jap} {d : Nat}, slot t d = .any \/ (d, slot t d) ∈ t
 | [], _ => .inl rfl
 | (e, x) :: t, d => by
   simp only [slot]
   by_cases h : e = d
   . subst h; rw [if_pos rfl]; exact .inr (by simp)
   . rw [if_neg h]
     rcases Jmn (t := t) (d := d) with h1 | h1
     . exact .inl h1
     . exact .inr (List.mem_cons_of_mem _ h1)
theorem Jej {l : List Nat} (h : l.Nodup) {i j : Nat} (hi : i < l.length) (hj : j < l.length) (e : l[i] = l[j]) : i = j := by
 have hp := List.pairwise_iff_getElem.1 h
 rcases Nat.lt_trichotomy i j with h1 | h1 | h1
 . exact absurd e (hp i j hi hj h1)
 . exact h1
 . exact absurd e.symm (hp j i hj hi h1)
theorem exists_least (M : Nat -> Prop) (h : ∃ n, M n) : ∃ n, M n /\ ∀ k, M k -> n <= k := by
 obtain ⟨n, hn⟩ := h
 induction n using Nat.strongRecOn with
 | _ n ih =>
   by_cases hlt : ∃ k, k < n /\ M k
   . obtain ⟨k, hk, hm⟩ := hlt
     exact ih k hk hm
   . exact ⟨n, hn, fun k hk => Nat.le_of_not_lt fun h => hlt ⟨k, h, hk⟩⟩
theorem Rel.sub [Base] {G N n0 F st' st φ a w} {ρ : List Nat} (h : Rel G N n0 F st' φ a w) (hs : Sub ρ n0 st' st) : Rel G N n0 F st (via φ ρ) a w /\ (∀ b, b < n0 -> via φ ρ b = φ b) /\
   ∀ F' : Nat -> Prop, Step (ownF F' φ st'.s) (ownF F' (via φ ρ) st.s) w w := by
 have hlen : n0 <= ρ.length := by
   have := congrArg List.length hs.base
   simp at this; omega
 have hblk : ∀ b x, get st.s b = some x -> ∃ b' z y, ρ[b]? = some b' /\ renB ρ x = some z /\ get st'.s b' = some y /\ wknB y z := fun b x hx => hs.blocks (b, some x) (get_mem hx) x rfl
 have hown : ∀ (F' : Nat -> Prop) β, ownF F' (via φ ρ) st.s β -> ownF F' φ st'.s β := by
   rintro F' β (hF | ⟨b, x, p, h1, h2, rfl⟩)
   . exact .inl hF
   . obtain ⟨b', _, y, e1, _, e3, _⟩ := hblk b x h1
     exact .inr ⟨b', y, p, e3, by simpa [via, e1] using h2, rfl⟩
 have hstF : ∀ F' : Nat -> Prop, Step (ownF F' φ st'.s) (ownF F' (via φ ρ) st.s) w w := fun F' => ⟨fun β _ hn => ⟨rfl, fun h' => hn (hown F' β h')⟩, Nat.le_refl _, fun _ arr _ h => ⟨arr, h, rfl⟩, rfl, rfl, rfl⟩
 have hst := hstF F
 refine ⟨⟨⟨?_, ?_, ?_, h.sr.fsize, ?_⟩, ?_, ?_, ⟨h.tr.size, ?_⟩, h.side.mono (hstF _) rfl⟩, ?_, hstF⟩
 . intro b x hx
   obtain ⟨b', z, y, e1, e2, e3, e4⟩ := hblk b x hx
   have := ((h.sr.blk b' y e3).mono (fun _ _ h => h) hst (fun _ _ => rfl)).wkn e4
   exact this.ren e1 e2
 . intro b c x z p p' h1 h2 h3 h4 h5
   obtain ⟨b', _, y, e1, e2, e3, _⟩ := hblk b x h1
   obtain ⟨c', _, y', e1', e2', e3', _⟩ := hblk c z h2
   have := h.sr.inj b' c' y y' p p' e3 e3' (by simpa [via, e1] using h3) (by simpa [via, e1'] using h4) h5
   subst this
   have hb := (gsI.1 e1)
   have hc := (gsI.1 e1')
   obtain ⟨hb1, hb2⟩ := hb
   obtain ⟨hc1, hc2⟩ := hc
   exact Jej hs.nodup hb1 hc1 (hb2.trans hc2.symm)
 . intro b x p h1 h2
   obtain ⟨b', _, y, e1, e2, e3, _⟩ := hblk b x h1
   exact h.sr.disj b' y p e3 (by simpa [via, e1] using h2)
 . intro g k rows hg
   obtain ⟨h1, h2, h3⟩ := h.sr.glob g k rows hg
   exact ⟨h1, fun h' => h2 (hown F g h'), h3.mono hst h1 h2⟩
 . intro b hb
   have : ρ[b]? = none := List.getElem?_eq_none (Nat.le_trans hs.len hb)
   simp [via, this]
 . exact Nat.le_trans hlen hs.len
 . intro d
   rcases Jmn (t := st.t) (d := d) with h1 | h1
   . rw [h1]; exact .any _
   . obtain ⟨z, h2, h3⟩ := hs.slots _ h1
     exact (((h.tr.slots d).mono (fun _ _ h => h) hst).wkn h3).ren h2
 . intro b hb
   have h1 : ρ[b]? = some b := by
     have h2 : (ρ.take n0)[b]? = some b := by rw [hs.base]; simp [hb]
     rwa [List.getElem?_take_of_lt hb] at h2
   simp [via, h1]
section
variable {P : Program} {G : Jac} {N n0 : Nat}
theorem Jdc.intro {γ : Type} {c : Code} {st : St} {Q : Exit -> St -> Prop} (S : γ -> St) (I : γ -> Prop) (μ : γ -> Nat) (g0 : γ) (ρ0 : List Nat) (hi : I g0) (h0 : Sub ρ0 n0 st (S g0))
   (round : ∀ g, I g -> AEv P G N n0 c (S g) (Jgj (fun st' => ∃ g' ρ, I g' /\ μ g' < μ g /\ Sub ρ n0 st' (S g')) Q)) : Jdc P G N n0 c st Q := by
 refine ⟨fun F φ a w hr => ?_⟩
 let J (g : γ) (a' : Act) (w' : World) : Prop := I g /\ ∃ φ', Rel G N n0 F (S g) φ' a' w' /\ (∀ b, b < n0 -> φ' b = φ b) /\ ∀ F' : Nat -> Prop, Step (ownF F' φ st.s) (ownF F' φ' (S g).s) w w'
 let M (a' : Act) (w' : World) (n : Nat) : Prop := ∃ g, μ g = n /\ J g a' w'
 let m (a' : Act) (w' : World) : Nat := open Classical in if h : ∃ n, M a' w' n then Classical.choose (exists_least _ h) else 0
 have hm : ∀ a' w' g, J g a' w' -> m a' w' <= μ g := fun a' w' g hg => by
   have hex : ∃ n, M a' w' n := ⟨_, g, rfl, hg⟩
   simp only [m, dif_pos hex]
   exact (Classical.choose_spec (exists_least _ hex)).2 _ ⟨g, rfl, hg⟩
 refine wpIn_loop (fun a' w' => ∃ g, J g a' w') m ?_ ?_
 . obtain ⟨h1, h2, h3⟩ := hr.sub h0
   exact ⟨g0, hi, _, h1, h2, h3⟩
 . intro a1 w1 hex
   have hexn : ∃ n, M a1 w1 n := let ⟨g, hg⟩ := hex; ⟨_, g, rfl, hg⟩
   have hmin : m a1 w1 = Classical.choose (exists_least _ hexn) := by simp only [m, dif_pos hexn]
   obtain ⟨g, hgm, hJ⟩ := (Classical.choose_spec (exists_least _ hexn)).1
   obtain ⟨hI, φ1, hr1, hb1, hs1⟩ := id hJ
   refine wpIn_mono ((round g hI).run F φ1 a1 w1 hr1) fun e a2 w2 ha => ?_
   have ha := After.trans (st := st) hb1 hs1 ha
   cases e with
   | normal =>
     obtain ⟨st', φ', ⟨g', ρ, hI', hlt, hsub⟩, hr', hb', hs'⟩ := ha
     obtain ⟨k1, k2, k3⟩ := hr'.sub hsub
     have hJ' : J g' a2 w2 := ⟨hI', _, k1, fun b hb => (k2 b hb).trans (hb' b hb), fun F' => (hs' F').trans (k3 F')⟩
     refine ⟨⟨g', hJ'⟩, ?_⟩
     rw [hmin, <- hgm]
     exact Nat.lt_of_le_of_lt (hm a2 w2 g' hJ') hlt
   | _ => exact ha
end
end Go.Am
namespace Go.Am
open Go
mutual
def Jas : AV -> Bool
 | .p _ | .nils | .nilp | .nilm | .iptr .. | .pmap .. => true
 | .agg cs | .tup cs | .fn _ cs => Ja5 cs
 | _ => false
def Ja5 : List AV -> Bool
 | [] => true
 | x :: xs => Jas x && Ja5 xs
end
theorem Jf5 : ∀ {xs : List AV} {i : Nat} {x : AV}, Ja5 xs = true -> xs[i]? = some x -> Jas x = true
 | [], _, _, _, h => by simp at h
 | y :: ys, 0, x, hp, h => by
   simp only [Ja5, Bool.and_eq_true] at hp
   simp at h; subst h; exact hp.1
 | y :: ys, i + 1, x, hp, h => by
   simp only [Ja5, Bool.and_eq_true] at hp
   exact Jf5 hp.2 (by simpa using h)
theorem VR.pure {φ φ' : Places} {own : Nat -> Prop} {w : World} {x : AV} {v : Value} (h : VR φ own w x v) (hp : Jas x = true) : VR φ' own w x v := by
 induction h with
 | any v => cases hp
 | p x v h => exact .p _ _ h
 | agg cs vs hl h ih => exact .agg cs vs hl fun i c v hc hv => ih i c v hc hv (Jf5 (by simpa [Jas] using hp) hc)
 | tup cs vs hl h ih => exact .tup cs vs hl fun i c v hc hv => ih i c v hc hv (Jf5 (by simpa [Jas] using hp) hc)
 | nils a => exact .nils a
 | ref => cases hp
 | ptr => cases hp
 | acc0 => cases hp
 | ubool => cases hp
 | acc => cases hp
 | iptr k rows i j β o hβ hown h => exact .iptr k rows i j β o hβ hown h
 | nilp => exact .nilp
 | map => cases hp
 | pmap ks vs r mes clock ps h => exact .pmap ks vs r mes clock ps h
 | nilm => exact .nilm
 | fn f cs vs hf hl h ih => exact .fn f cs vs hf hl fun i c v hc hv => ih i c v hc hv (Jf5 (by simpa [Jas] using hp) hc)
 | bfn t p n b cs vs hl h ih => exact .bfn t p n b cs vs hl fun i c v hc hv => ih i c v hc hv (Jf5 (by simpa [Jas] using hp) hc)
inductive Frz (s : Store) (B : Nat -> Prop) : AV -> PV -> Prop
 | p (x) : Frz s B (.p x) x
 | nils (k) : Frz s B .nils (.lst k [])
 | ref (b k i n c) (arows : List (List AV)) (rows : List (List PV)) (f : Nat -> Nat -> AV) (hB : B b) (hg : get s b = some (.cells k arows)) (hn : rows.length = n)
     (h : ∀ (p j : Nat) row x, rows[p]? = some row -> row[j]? = some x -> ∃ arow, arows[i + p]? = some arow /\ arow[j]? = some (f p j))
     (hf : ∀ (p j : Nat) row x, rows[p]? = some row -> row[j]? = some x -> Frz s B (f p j) x) : Frz s B (.ref b k i n c) (.lst k rows)
 | acc (b k n) (arows : List (List AV)) (rows : List (List PV)) (f : Nat -> Nat -> AV) (hB : B b) (hg : get s b = accB k arows) (hl : arows.length = n) (hn : rows.length = n)
     (h : ∀ (p j : Nat) row x, rows[p]? = some row -> row[j]? = some x -> ∃ arow, arows[p]? = some arow /\ arow[j]? = some (f p j))
     (hf : ∀ (p j : Nat) row x, rows[p]? = some row -> row[j]? = some x -> Frz s B (f p j) x) : Frz s B (.acc b k n) (.lst k rows)
theorem Jf6 {arows : List (List AV)} {rows : List (List PV)} (hr : arows = rows.map (·.map AV.p)) (p j : Nat) (row : List PV) (x : PV) (h1 : rows[p]? = some row) (h2 : row[j]? = some x) :
   (∃ arow, arows[p]? = some arow /\ arow[j]? = some (AV.p (((rows[p]?.getD [])[j]?).getD .nilf))) /\ (((rows[p]?.getD [])[j]?).getD PV.nilf) = x := by
 refine ⟨⟨row.map AV.p, by simp [hr, h1], by simp [h1, h2]⟩, by simp [h1, h2]⟩
theorem Frz.rows {s : Store} {B : Nat -> Prop} {b k i n : Nat} {c : Option Nat} {arows : List (List AV)} {rows : List (List PV)} (hB : B b) (hg : get s b = some (.cells k arows)) (hr : (arows.drop i).take n = rows.map (·.map AV.p)) (hn : rows.length = n) :
   Frz s B (.ref b k i n c) (.lst k rows) := by
 refine .ref b k i n c arows rows (fun p j => .p (((rows[p]?.getD [])[j]?).getD .nilf)) hB hg hn ?_ ?_
 . intro p j row x h1 h2
   have hp : p < n := hn ▸ (gsI.1 h1).1
   obtain ⟨⟨arow, k1, k2⟩, _⟩ := Jf6 hr p j row x h1 h2
   exact ⟨arow, by rwa [List.getElem?_take_of_lt hp, List.getElem?_drop] at k1, k2⟩
 . intro p j row x h1 h2
   have := (Jf6 hr p j row x h1 h2).2
   simp only [this]
   exact .p x
theorem Frz.accRows {s : Store} {B : Nat -> Prop} {b k n : Nat} {arows : List (List AV)} {rows : List (List PV)} (hB : B b) (hg : get s b = accB k arows) (hr : arows = rows.map (·.map AV.p)) (hn : rows.length = n) :
   Frz s B (.acc b k n) (.lst k rows) := by
 refine .acc b k n arows rows (fun p j => .p (((rows[p]?.getD [])[j]?).getD .nilf)) hB hg (by rw [hr, List.length_map, hn]) hn (fun p j row x h1 h2 => (Jf6 hr p j row x h1 h2).1) fun p j row x h1 h2 => ?_
 have := (Jf6 hr p j row x h1 h2).2
 simp only [this]
 exact .p x
def isQ1 : AV -> Bool
 | .p _ => true
 | _ => false
def isQ : AV -> Bool
 | .p _ => true
 | .agg cs => cs.all isQ1
 | _ => false
theorem VR.vq {φ own w x v} (h : VR φ own w x v) (hq : isQ x = true) : VQ own w x v := by
 unfold isQ at hq
 split at hq
 . exact .p _ _ h.p_inv
 . rename_i cs
   obtain ⟨vs, rfl, k1, k2⟩ := h.agg_inv
   refine .agg cs vs k1 fun i c u hc hu => ?_
   have := List.all_eq_true.1 hq c (List.mem_of_getElem? hc)
   unfold isQ1 at this
   split at this
   . exact .p _ _ (k2 i _ u hc hu).p_inv
   . cases this
 . cases hq
inductive FrzA (s : Store) (B : Nat -> Prop) : AV -> AV -> Prop
 | same (a) (h : Jas a = true) : FrzA s B a a
 | one (a x) (h : Frz s B a x) : FrzA s B a (.p x)
 | agg (cs ds : List AV) (hl : ds.length = cs.length) (h : ∀ (i : Nat) c d, cs[i]? = some c -> ds[i]? = some d -> FrzA s B c d) : FrzA s B (.agg cs) (.agg ds)
 | tup (cs ds : List AV) (hl : ds.length = cs.length) (h : ∀ (i : Nat) c d, cs[i]? = some c -> ds[i]? = some d -> FrzA s B c d) : FrzA s B (.tup cs) (.tup ds)
 | fn (f) (cs ds : List AV) (hl : ds.length = cs.length) (h : ∀ (i : Nat) c d, cs[i]? = some c -> ds[i]? = some d -> FrzA s B c d) : FrzA s B (.fn f cs) (.fn f ds)
 | ptr (b k i j) (arows : List (List AV)) (rows : List (List PV)) (f : Nat -> Nat -> AV) (hB : B b) (hg : get s b = some (.cells k arows))
     (h : ∀ (p j : Nat) row x, rows[p]? = some row -> row[j]? = some x -> ∃ arow, arows[p]? = some arow /\ arow[j]? = some (f p j))
     (hf : ∀ (p j : Nat) row x, rows[p]? = some row -> row[j]? = some x -> Frz s B (f p j) x) : FrzA s B (.ptr b k i j) (.iptr k rows i j)
 | map (b) (es : List (AV × AV)) (ks vs : List AV) (hB : B b) (hg : get s b = some (.map es)) (hq : ∀ e ∈ es, isQ e.1 = true /\ isQ e.2 = true) (hl : ks.length = vs.length) (hn : ks.Nodup) (hp : (ks.zip vs).Perm es) : FrzA s B (.map b) (.pmap ks vs)
theorem FrzA.cell {s : Store} {B : Nat -> Prop} {b k i j : Nat} {arows : List (List AV)} {rows : List (List PV)} (hB : B b) (hg : get s b = some (.cells k arows)) (hr : arows = rows.map (·.map AV.p)) :
   FrzA s B (.ptr b k i j) (.iptr k rows i j) := by
 refine .ptr b k i j arows rows (fun p j => .p (((rows[p]?.getD [])[j]?).getD .nilf)) hB hg (fun p j row x h1 h2 => (Jf6 hr p j row x h1 h2).1) fun p j row x h1 h2 => ?_
 have := (Jf6 hr p j row x h1 h2).2
 simp only [this]
 exact .p x
theorem Frz.agrees {s s' : Store} {B : Nat -> Prop} (h : ∀ b, B b -> get s' b = get s b) {a : AV} {x : PV} (hf : Frz s B a x) : Frz s' B a x := by
 induction hf with
 | p x => exact .p x
 | nils k => exact .nils k
 | ref b k i n c arows rows f hB hg hn hc hf ih => exact .ref b k i n c arows rows f hB ((h b hB).trans hg) hn hc ih
 | acc b k n arows rows f hB hg hl hn hc hf ih => exact .acc b k n arows rows f hB ((h b hB).trans hg) hl hn hc ih
theorem FrzA.agrees {s s' : Store} {B : Nat -> Prop} (h : ∀ b, B b -> get s' b = get s b) {a x : AV} (hf : FrzA s B a x) : FrzA s' B a x := by
 induction hf with
 | same a h => exact .same a h
 | one a x hx => exact .one a x (hx.agrees h)
 | agg cs ds hl _ ih => exact .agg cs ds hl ih
 | tup cs ds hl _ ih => exact .tup cs ds hl ih
 | fn f cs ds hl _ ih => exact .fn f cs ds hl ih
 | ptr b k i j arows rows f hB hg hc hf => exact .ptr b k i j arows rows f hB ((h b hB).trans hg) hc fun p j row x h1 h2 => (hf p j row x h1 h2).agrees h
 | map b es ks vs hB hg hq hl hn hp => exact .map b es ks vs hB ((h b hB).trans hg) hq hl hn hp
structure Hides (F : Nat -> Prop) (φ : Places) (s : Store) (B : Nat -> Prop) (own : Nat -> Prop) : Prop where
 sub : ∀ β, own β -> ownF F φ s β
 gone : ∀ b x p, B b -> get s b = some x -> φ b = some p -> ¬ own p.1
theorem Hides.step {F φ s B own} {w : World} (h : Hides F φ s B own) : Step (ownF F φ s) own w w :=
 ⟨fun _ _ hn => ⟨rfl, fun h' => hn (h.sub _ h')⟩, Nat.le_refl _, fun _ arr _ h => ⟨arr, h, rfl⟩, rfl, rfl, rfl⟩
theorem Ji2 {F : Nat -> Prop} {φ : Places} {β : Nat} (h : ownF F φ [] β) : F β := by
 rcases h with hF | ⟨b, x, p, h1, _⟩
 . exact hF
 . cases h1
theorem Jyc {G F φ s w} (hs : SR G F φ s w) (φ' : Places) : Hides F φ s (fun _ => True) (ownF F φ' []) :=
 ⟨fun _ h => .inl (Ji2 h), fun b x p _ h1 h2 h3 => hs.disj b x p h1 h2 (Ji2 h3)⟩
theorem Jlf {G F φ s w B own} {b k : Nat} {arows : List (List AV)} {rows : List (List PV)} {β δ i : Nat} {f : Nat -> Nat -> AV} (hs : SR G F φ s w) (hg : get s b = some (.cells k arows)) (hφ : φ b = some (β, δ))
   (h : ∀ (p j : Nat) row x, rows[p]? = some row -> row[j]? = some x -> ∃ arow, arows[i + p]? = some arow /\ arow[j]? = some (f p j))
   (hf : ∀ (p j : Nat) row x, rows[p]? = some row -> row[j]? = some x -> ∀ v, VR φ (ownF F φ s) w (f p j) v -> VRp own w x v) (_ : Hides F φ s B own) : β < w.heap.size /\ Jbq own w k rows β (δ + i * k) := by
 obtain ⟨β', δ', arr, T, e1, e2, e3⟩ := hs.blk b _ hg
 rw [hφ] at e1; cases e1
 refine ⟨(Array.getElem?_eq_some_iff.1 e2).1, ?_⟩
 intro p j row x h1 h2
 obtain ⟨arow, k1, k2⟩ := h p j row x h1 h2
 obtain ⟨_, v, k3, k4⟩ := e3 (i + p) j arow _ k1 k2
 refine ⟨v, ?_, hf p j row x h1 h2 v k4⟩
 rw [Jet e2, <- k3, Nat.add_mul]
 congr 1
 omega
theorem VR.frz {G F φ s w a x v B own} (hs : SR G F φ s w) (hh : Hides F φ s B own) (h : VR φ (ownF F φ s) w a v) (hf : Frz s B a x) : VRp own w x v := by
 induction hf generalizing v with
 | p x => exact h.p_inv.mono hh.step
 | nils k => obtain ⟨a, rfl⟩ := h.nils_inv; exact .lst0 ..
 | ref b k i n c arows rows f hB hg hn hc hf ih =>
   subst hn
   obtain ⟨β, δ, cap, hφ, _, hcap, _, rfl⟩ := h.ref_inv
   obtain ⟨h1, h2⟩ := Jlf hs hg hφ hc (fun p j row x h1 h2 v hv => ih p j row x h1 h2 hv) hh
   exact VRp.lst_of hcap h1 (hh.gone b _ _ hB hg hφ) h2
 | acc b k n arows rows f hB hg hl hn hc hf ih =>
   by_cases h0 : n = 0
   . subst h0
     obtain rfl := List.length_eq_zero_iff.1 hn
     obtain ⟨a, rfl⟩ := h.acc_nil.nils_inv
     exact .lst0 ..
   . subst hn
     have hne : arows ≠ [] := by rintro rfl; exact h0 (by rw [<- hl]; rfl)
     have hg' : get s b = some (.cells k arows) := by rw [hg, accB, if_neg hne]
     obtain ⟨β, δ, cap, hφ, ⟨hcap, _⟩, rfl⟩ := h.acc_inv (by omega)
     obtain ⟨h1, h2⟩ := Jlf (i := 0) hs hg' hφ (by simpa using hc) (fun p j row x h1 h2 v hv => ih p j row x h1 h2 hv) hh
     rw [Nat.zero_mul, Nat.add_zero] at h2
     exact VRp.lst_of hcap h1 (hh.gone b _ _ hB hg' hφ) h2
theorem VR.frzA {G F φ φ' s w a r v B own} (hs : SR G F φ s w) (hh : Hides F φ s B own) (h : VR φ (ownF F φ s) w a v) (hf : FrzA s B a r) : VR φ' own w r v := by
 induction hf generalizing v with
 | same a hp => exact (h.mono (fun _ _ h => h) hh.step).pure hp
 | one a x hx => exact .p _ _ (h.frz hs hh hx)
 | agg cs ds hl hc ih =>
   obtain ⟨vs, rfl, k1, k2⟩ := h.agg_inv
   refine .agg ds vs (by omega) fun i d v hd hv => ?_
   have hi : i < cs.length := hl ▸ (gsI.1 hd).1
   exact ih i _ d (List.getElem?_eq_getElem hi) hd (k2 i _ v (List.getElem?_eq_getElem hi) hv)
 | tup cs ds hl hc ih =>
   obtain ⟨vs, rfl, k1, k2⟩ := h.tup_inv
   refine .tup ds vs (by omega) fun i d v hd hv => ?_
   have hi : i < cs.length := hl ▸ (gsI.1 hd).1
   exact ih i _ d (List.getElem?_eq_getElem hi) hd (k2 i _ v (List.getElem?_eq_getElem hi) hv)
 | fn f cs ds hl hc ih =>
   cases h with
   | fn _ _ vs k0 k1 k2 =>
     refine .fn f ds vs k0 (by omega) fun i d v hd hv => ?_
     have hi : i < cs.length := hl ▸ (gsI.1 hd).1
     exact ih i _ d (List.getElem?_eq_getElem hi) hd (k2 i _ v (List.getElem?_eq_getElem hi) hv)
   | bfn t p n b _ vs k1 k2 =>
     refine .bfn t p n b ds vs (by omega) fun i d v hd hv => ?_
     have hi : i < cs.length := hl ▸ (gsI.1 hd).1
     exact ih i _ d (List.getElem?_eq_getElem hi) hd (k2 i _ v (List.getElem?_eq_getElem hi) hv)
 | ptr b k i j arows rows f hB hg hc hf =>
   obtain ⟨β, δ, hφ, rfl⟩ := h.ptr_inv
   obtain ⟨h1, h2⟩ := Jlf (i := 0) hs hg hφ (by simpa using hc) (fun p j row x h1 h2 v hv => hv.frz hs hh (hf p j row x h1 h2)) hh
   rw [Nat.zero_mul, Nat.add_zero] at h2
   exact .iptr k rows i j β δ h1 (hh.gone b _ _ hB hg hφ) h2
 | map b es ks vs hB hg hq hl hn hp =>
   obtain ⟨r, δ, hφ, rfl⟩ := h.map_inv
   obtain ⟨r', mes, cl, e1, e2, e3, eB⟩ := hs.blk b _ hg
   rw [hφ] at e1; cases e1
   obtain ⟨z, hz1, hz2⟩ := Jrl (f := Prod.fst) (z := es.zip mes.toList) (l := ks.zip vs) (by rw [List.map_fst_zip (by rw [e3.1]; exact Nat.le_refl _)]; exact hp.symm)
   have hz3 : ∀ p ∈ z, VQ own w p.1.1 p.2.key /\ VQ own w p.1.2 p.2.val := fun p hpz => by
     obtain ⟨i, hi⟩ := List.mem_iff_getElem?.1 (hz1.mem_iff.1 hpz)
     obtain ⟨k1, k2⟩ := List.getElem?_zip_eq_some.1 hi
     have hq' := hq p.1 (List.mem_of_getElem? k1)
     obtain ⟨k3, k4⟩ := e3.2 i p.1 p.2 k1 k2
     exact ⟨(k3.vq hq'.1).mono hh.step, (k4.vq hq'.2).mono hh.step⟩
   have hlz : z.length = ks.length := by have := congrArg List.length hz2; simpa [hl] using this
   have hget : ∀ (i : Nat) m, (z.map (·.2))[i]? = some m -> ∃ p ∈ z, p.2 = m /\ (ks.zip vs)[i]? = some p.1 := fun i m hm => by
     rw [List.getElem?_map, Option.map_eq_some_iff] at hm
     obtain ⟨p, hp1, rfl⟩ := hm
     exact ⟨p, List.mem_of_getElem? hp1, rfl, by rw [<- hz2, List.getElem?_map, hp1]; rfl⟩
   refine .pmap _ _ r mes cl (z.map (·.2)) ⟨e2, hh.gone b _ _ hB hg hφ, eB.ok, ?_, hn, by simp [hlz], by simp [hlz, hl], fun i k m hk hm => ?_, fun i v m hv hm => ?_⟩
   . have := hz1.map (fun p : (AV × AV) × MapEntry => p.2)
     have e : (es.zip mes.toList).map (fun p : (AV × AV) × MapEntry => p.2) = mes.toList := List.map_snd_zip (by rw [e3.1]; omega)
     rw [e] at this
     exact this
   . obtain ⟨p, h1, rfl, h2⟩ := hget i m hm
     have h3 := (List.getElem?_zip_eq_some.1 h2).1
     rw [hk] at h3; cases h3
     exact (hz3 p h1).1
   . obtain ⟨p, h1, rfl, h2⟩ := hget i m hm
     have h3 := (List.getElem?_zip_eq_some.1 h2).2
     rw [hv] at h3; cases h3
     exact (hz3 p h1).2
def Jbr : Nat -> List AV -> Jap
 | _, [] => []
 | i, x :: xs => (i, x) :: Jbr (i + 1) xs
theorem Jjd : ∀ (xs : List AV) (i d : Nat), slot (Jbr i xs) d = if i <= d then (xs[d - i]?).getD .any else .any
 | [], i, d => by simp [Jbr, slot]
 | x :: xs, i, d => by
   simp only [Jbr, slot]
   by_cases e : i = d
   . subst e; simp
   . rw [if_neg e, Jjd xs (i + 1) d]
     by_cases h : i + 1 <= d
     . rw [if_pos h, if_pos (by omega), show d - i = (d - (i + 1)) + 1 from by omega]
       simp
     . rw [if_neg h, if_neg (by omega)]
def resA (P : Program) (st : St) : List ResultVar -> List AV -> Prop
 | [], vs => vs = []
 | .tmp d :: rs, vs => ∃ us, vs = slot st.t d :: us /\ resA P st rs us
 | .cell d T :: rs, vs => ∃ v us, vs = v :: us /\ (∃ y, tyOf P T = some y /\ Jd6 y (slot st.t d) st.s st.nx fun v' _ _ _ => v = v') /\ resA P st rs us
def resV : List AV -> AV
 | [v] => v
 | vs => .tup vs
section
variable {P : Program} {G : Jac} {N n0 : Nat}
theorem Jzb {F φ s w} {T : Nat} {y : TyI} {x v : AV} {u : Value} {nx : Nat} (hs : SR G F φ s w) (hy : tyOf P T = some y) (h : Jd6 y x s nx fun v' _ _ _ => v = v') (hu : VR φ (ownF F φ s) w x u) :
   ∃ a v', u = .pointer (some a) /\ (loadVar T a).run P w = .ok v' w /\ VR φ (ownF F φ s) w v v' := by
 have fin : ∀ (β c j : Nat) (row : List AV), u = .pointer (some ⟨β, c + j, none⟩) -> (∀ m z, row[m]? = some z -> ∃ v, w.cell? ⟨β, c + m, none⟩ = some v /\ VR φ (ownF F φ s) w z v) ->
     (y.agg = true -> j + y.size <= row.length /\ v = .agg ((row.drop j).take y.size)) -> (y.agg = false -> row[j]? = some v) ->
     ∃ a v', u = .pointer (some a) /\ (loadVar T a).run P w = .ok v' w /\ VR φ (ownF F φ s) w v v' := by
   intro β c j row hu hcells h1 h2
   cases hagg : y.agg with
   | true =>
     obtain ⟨hlen, rfl⟩ := h1 hagg
     obtain ⟨vs, hl, k1, k2⟩ := stretch (f := fun m => w.cell? ⟨β, c + m, none⟩) hlen hcells
     exact ⟨_, .agg ⟨vs⟩, hu, (Jmh hy w ⟨β, c + j, none⟩ vs hl (fun m v hm => by rw [addr_add, Nat.add_assoc]; exact k1 m v hm)).1 hagg, .agg _ _ k2.1 k2.2⟩
   | false =>
     obtain ⟨v', k1, k2⟩ := hcells j v (h2 hagg)
     obtain ⟨i', d, zz, hsp⟩ := Jav hy
     exact ⟨_, v', hu, by simp [loadVar, hsp.isAgg, hagg, k1], k2⟩
 unfold Jd6 at h
 simp only [Jcj, Jaz] at h
 split at h
 . rename_i b k i j
   obtain ⟨rows, hg, row, hr, h⟩ := h
   obtain ⟨β, δ, hφ, hv⟩ := hu.ptr_inv
   obtain ⟨β', δ', arr, T', e1, e2, e3⟩ := hs.blk b (.cells k rows) hg
   rw [hφ] at e1; cases e1
   refine fin β (δ + i * k) j row hv (fun m z hm => ?_) (fun ha => ?_) (fun ha => ?_)
   . obtain ⟨_, v, h4, h5⟩ := e3 i m row z hr hm
     exact ⟨v, by rw [Jet e2]; exact h4, h5⟩
   . rw [if_pos ha] at h; exact ⟨h.1, h.2⟩
   . rw [ha] at h
     simp only [Bool.false_eq_true, if_false] at h
     obtain ⟨z, hz, rfl⟩ := h
     exact hz
 . rename_i k rows i j
   obtain ⟨row, hr, h⟩ := h
   obtain ⟨β, c, hβ, hown, hrows, hv⟩ := hu.iptr_inv
   refine fin β (c + i * k) j (row.map AV.p) hv (fun m z hm => ?_) (fun ha => ?_) (fun ha => ?_)
   . simp only [List.getElem?_map, Option.map_eq_some_iff] at hm
     obtain ⟨q, hm, rfl⟩ := hm
     obtain ⟨v, h4, h5⟩ := hrows i m row q hr hm
     exact ⟨v, h4, .p _ _ h5⟩
   . rw [if_pos ha] at h
     exact ⟨by simpa using h.1, by rw [<- List.map_drop, <- List.map_take]; exact h.2⟩
   . rw [ha] at h
     simp only [Bool.false_eq_true, if_false] at h
     obtain ⟨z, hz, rfl⟩ := h
     simp [hz]
 . exact h.elim
def resF (tmps : Array Value) (r : ResultVar) : Sem Value :=
 match r with
 | .tmp t => pure (tmps.getD t undef)
 | .cell d t => do loadVar t (<- asAddr (tmps.getD d undef))
theorem Jmb {F φ st a w} (hs : SR G F φ st.s w) (ht : TR φ (ownF F φ st.s) w N st.t a) : ∀ (rs : List ResultVar) (vs : List AV), resA P st rs vs ->
   ∃ us, (rs.mapM (resF a.tmps)).run P w = .ok us w /\ Jbd φ (ownF F φ st.s) w vs us
 | [], vs, h => by
   simp only [resA] at h; subst h
   exact ⟨[], rfl, rfl, fun i c v h => by simp at h⟩
 | .tmp d :: rs, vs, h => by
   obtain ⟨us, rfl, h⟩ := h
   obtain ⟨ws, h1, h2⟩ := Jmb hs ht rs us h
   refine ⟨a.tmps.getD d undef :: ws, ?_, by simp [h2.1], fun i c v hc hv => ?_⟩
   . have e0 : (resF a.tmps (.tmp d)).run P w = .ok (a.tmps.getD d undef) w := rfl
     simp only [List.mapM_cons, Sem.run_bind, e0, Sem.run_pure, Result.andThen_ok, h1]
   . cases i with
     | zero =>
       have e1 : slot st.t d = c := by simpa using hc
       have e2 : a.tmps.getD d undef = v := Option.some.inj hv
       subst e1; subst e2; exact ht.slots d
     | succ i => exact h2.2 i c v (by simpa using hc) (by simpa using hv)
 | .cell d T :: rs, vs, h => by
   obtain ⟨x, us, rfl, ⟨y, hy, hl⟩, h⟩ := h
   obtain ⟨ws, h1, h2⟩ := Jmb hs ht rs us h
   obtain ⟨ad, v', e1, e2, e3⟩ := Jzb (P := P) hs hy hl (ht.slots d)
   refine ⟨v' :: ws, ?_, by simp [h2.1], fun i c v hc hv => ?_⟩
   . have e0 : (resF a.tmps (.cell d T)).run P w = .ok v' w := by
       show (asAddr (a.tmps.getD d undef) >>= fun x => loadVar T x).run P w = _
       rw [e1]
       exact e2
     simp only [List.mapM_cons, Sem.run_bind, e0, Sem.run_pure, Result.andThen_ok, h1]
   . cases i with
     | zero => simp at hc hv; subst hc; subst hv; exact e3
     | succ i => exact h2.2 i c v (by simpa using hc) (by simpa using hv)
theorem J1s {F φ st a w} {fn : Func} (hs : SR G F φ st.s w) (ht : TR φ (ownF F φ st.s) w N st.t a) {vs : List AV} (h : resA P st fn.results.toList vs) :
   ∃ u, (results fn a.tmps).run P w = .ok u w /\ VR φ (ownF F φ st.s) w (resV vs) u := by
 obtain ⟨us, h1, h2⟩ := Jmb hs ht _ _ h
 have hres : (results fn a.tmps) = (do
     let vs <- fn.results.mapM (resF a.tmps)
     pure (if h : vs.size = 1 then vs[0] else .tuple vs)) := rfl
 rw [hres, Array.mapM_eq_mapM_toList]
 simp only [Sem.run_bind, Sem.run_map, h1, Result.andThen_ok, Sem.run_pure]
 refine ⟨_, rfl, ?_⟩
 . match vs, us, h2 with
   | [], [], h2 => exact .tup [] [] rfl (fun i c v h => by simp at h)
   | [v], [u], h2 => exact h2.2 0 v u rfl rfl
   | v1 :: v2 :: vs, u1 :: u2 :: us, h2 =>
     have : ¬ ((u1 :: u2 :: us).toArray.size = 1) := by simp
     rw [dif_neg this]
     exact .tup _ (u1 :: u2 :: us) h2.1 h2.2
   | [], _ :: _, h2 => exact absurd h2.1 (by simp)
   | [_], [], h2 => exact absurd h2.1 (by simp)
   | [_], _ :: _ :: _, h2 => exact absurd h2.1 (by simp)
   | _ :: _ :: _, [], h2 => exact absurd h2.1 (by simp)
   | _ :: _ :: _, [_], h2 => exact absurd h2.1 (by simp)
theorem Step.quiet {own own' : Nat -> Prop} {w w' w'' : World} (h : Step own own' w w') (q : Quiet w' w'') (hk : ∀ β, β < w.heap.size -> w''.heap[β]? = w'.heap[β]?) : Step own own' w w'' where
 keep := fun β hβ ho => ⟨(hk β hβ).trans (h.keep β hβ ho).1, (h.keep β hβ ho).2⟩
 size := by rw [q.size]; exact h.size
 shape := fun β arr T ha => by
   obtain ⟨arr', h1, h2⟩ := h.shape β arr T ha
   exact ⟨arr', q.keep _ _ h1 (fun _ e => by cases e) (fun _ e => by cases e), h2⟩
 os := q.os.trans h.os
 tape := q.tape.trans h.tape
 output := q.output.trans h.output
theorem Rel.leave [B : Base] {F : Nat -> Prop} {st : St} {φ : Places} {a : Act} {w : World} {fn : Func} (hr : Rel G N n0 F st φ a w) {vs : List AV} (h : resA P st fn.results.toList vs) {R : Ending -> World -> Prop}
   (hR : ∀ (w' : World) (u : Value), Quiet w w' -> (∀ β, β < B.n -> w'.heap[β]? = w.heap[β]?) -> SR G F φ st.s w' -> VR φ (ownF F φ st.s) w' (resV vs) u -> R (.returned u) w') : LeavesInM rF 0 P fn a.tmps R a.defers .returning w := by
 obtain ⟨Ds, e, hn, hD⟩ := hr.side.marks
 obtain ⟨w', q, k1, k2⟩ := Jqg (F := rF) (n := 0) (P := P) (fn := fn) (tmps := a.tmps) (own := ownF (fun _ => False) φ st.s) Ds w hn (fun D h => (hD D h).2)
 rw [e]
 have hs' := hr.sr.quiet q (fun b i t j hb => k1 _ fun hm => by
   obtain ⟨tmps, D, _, h2, _⟩ := hr.sr.blk b _ hb
   have h3 := (hD _ hm).2.1
   rw [h2] at h3; cases h3)
 have ht' : TR φ (ownF F φ st.s) w' N st.t a := ⟨hr.tr.size, fun d => (hr.tr.slots d).quiet q⟩
 obtain ⟨u, h1, h2⟩ := J1s (P := P) hs' ht' h
 exact k2 R ⟨u, h1, hR w' u q (fun β hβ => k1 β fun hm => by have := (hD β hm).1; omega) hs' h2⟩
def Jcu (G : Jac) (own : Nat -> Prop) (w : World) : Prop := ∀ g k rows, (g, k, rows) ∈ G -> g < w.heap.size /\ ¬ own g /\ GlobAt own w k rows g
structure Pure (P : Program) (G : Jac) (f : Nat) (args : List AV) (r : AV) : Prop where
 pure : Ja5 args = true
 run : ∀ (own : Nat -> Prop) (w : World) (vs : List Value), Jcu G own w -> (∀ β, own β -> β < w.heap.size) -> vs.length = args.length ->
   (∀ (i : Nat) x v, args[i]? = some x -> vs[i]? = some v -> VR (fun _ => none) own w x v) ->
   Jbe P (fun u w' => VR (fun _ => none) own w' r u /\ (∀ β, β < w.heap.size -> w'.heap[β]? = w.heap[β]?) /\ Step own own w w') ((callFunc f ⟨vs⟩).run P w)
theorem Pure.of_body {f : Nat} {fn : Func} {c : Code} {args : List AV} {r : AV} (hf : P.funcs[f]? = some fn) (hb : fn.body = some c) (hname : (fn.name == "runtime.NumGoroutine") = false) (hN : fn.ntmps = N) (hargs : args.length <= N) (hp : Ja5 args = true)
   (h : AEv P G N 0 c ⟨Jbr 0 args, [], 0⟩ fun e st => (e = .ret \/ e = .normal) /\ ∃ vs, resA P st fn.results.toList vs /\ FrzA st.s (fun _ => True) (resV vs) r) : Pure P G f args r := by
 refine ⟨hp, fun own w vs hglob hsize hl hv => ?_⟩
 subst hN
 have e0 : ∀ φ : Places, ownF own φ [] = own := fun φ => funext fun β => propext ⟨Ji2, .inl⟩
 let _B : Base := ⟨w.heap.size, none⟩
 have hrel : Rel G fn.ntmps 0 own ⟨Jbr 0 args, [], 0⟩ (fun _ => none) { tmps := ⟨vs⟩ ++ Array.replicate (fn.ntmps - (⟨vs⟩ : Array Value).size) undef, defers := [] } w := by
   refine ⟨⟨fun b x h => (by cases h), fun b b' x x' p p' h => (by cases h), fun b x p h => (by cases h), hsize, fun g k rows hg => ?_⟩, fun _ _ => rfl, Nat.le_refl _, ⟨?_, fun d => ?_⟩, ⟨Nat.le_refl _, ⟨[], rfl, List.nodup_nil, by simp⟩, fun l hl => by cases hl⟩⟩
   . obtain ⟨h1, h2, h3⟩ := hglob g k rows hg
     have e1 : (fun β => own β \/ ownS (fun _ => none) [] β) = own := e0 (fun _ => none)
     rw [e1]
     exact ⟨h1, fun h' => h2 ((congrFun e1 g).mp h'), h3⟩
   . simp; omega
   . show VR _ _ _ (slot (Jbr 0 args) d) _
     rw [Jjd, if_pos (Nat.zero_le _), Nat.sub_zero, e0]
     cases hd : args[d]? with
     | none => exact .any _
     | some x =>
       have hdl : d < vs.length := hl ▸ (gsI.1 hd).1
       have hget : ((⟨vs⟩ : Array Value) ++ Array.replicate (fn.ntmps - (⟨vs⟩ : Array Value).size) undef).getD d undef = vs[d] := by
         rw [Array.getD_eq_getD_getElem?, Array.getElem?_append_left (by simpa using hdl)]
         simp [hdl]
       rw [hget]
       exact hv d x vs[d] hd (List.getElem?_eq_getElem hdl)
 refine enters hf hb hname ((callsIn_wide (n := 0)).1 (callsIn_of_wp_marks hf hb trivial (wpIn_mono (h.run own _ _ w hrel) fun e a' w1 ha => ?_)))
 obtain ⟨st', φ', ⟨he, us, hres, hfr⟩, hr', _, hstep1⟩ := ha
 have hgo : LeavesInM rF 0 P fn a'.tmps (fun e w'' => ∃ v, e = .returned v /\ VR (fun _ => none) own w'' r v /\ (∀ β, β < w.heap.size -> w''.heap[β]? = w.heap[β]?) /\ Step own own w w'') a'.defers .returning w1 := hr'.leave hres fun w' u q hlow hsr' k2 => by
   have hstep : ∀ F' : Nat -> Prop, Step (ownF F' (fun _ => none) []) (ownF F' φ' st'.s) w w' := fun F' => (hstep1 F').quiet q hlow
   have hkeep : ∀ β, β < w.heap.size -> w'.heap[β]? = w.heap[β]? := fun β hβ => ((hstep (fun _ => False)).keep β hβ (by
     rintro (h | ⟨b, x, p, h1, _⟩)
     . exact h
     . cases h1)).1
   have hst : Step own own w w' := ⟨fun β hβ hn => ⟨hkeep β hβ, hn⟩, (hstep own).size, fun β arr T h => ⟨arr, by rw [hkeep β (Array.getElem?_eq_some_iff.1 h).1]; exact h, rfl⟩, (hstep own).os, (hstep own).tape, (hstep own).output⟩
   have hval : VR (fun _ => none) own w' r u := by
     have := VR.frzA (φ' := fun _ => none) hsr' (Jyc hsr' φ') k2 hfr
     rwa [e0] at this
   exact ⟨u, rfl, hval, hkeep, hst⟩
 rcases he with rfl | rfl
 . exact hgo
 . exact hgo
def Jr6 : PV -> Bool
 | .lst .. => false
 | .ptr .. => false
 | .full .. => false
 | _ => true
mutual
def Je3 : AV -> Bool
 | .p x => Jr6 x
 | .nils | .nilp | .nilm => true
 | .agg cs | .tup cs => Jhf cs
 | _ => false
def Jhf : List AV -> Bool
 | [] => true
 | x :: xs => Je3 x && Jhf xs
end
theorem Jmi : ∀ {xs : List AV} {i : Nat} {x : AV}, Jhf xs = true -> xs[i]? = some x -> Je3 x = true
 | [], _, _, _, h => by simp at h
 | y :: ys, 0, x, hp, h => by
   simp only [Jhf, Bool.and_eq_true] at hp
   simp at h; subst h; exact hp.1
 | y :: ys, i + 1, x, hp, h => by
   simp only [Jhf, Bool.and_eq_true] at hp
   exact Jmi hp.2 (by simpa using h)
theorem VR.scal {φ φ' : Places} {own own' : Nat -> Prop} {w w' : World} {x : AV} {v : Value} (h : VR φ own w x v) (hp : Je3 x = true) : VR φ' own' w' x v := by
 induction h with
 | any v => cases hp
 | p x v h =>
   refine .p _ _ ?_
   cases h with
   | int => exact .int ..
   | bool => exact .bool ..
   | str => exact .str ..
   | nilf => exact .nilf
   | nilsl => exact .nilsl
   | nilif => exact .nilif
   | ifc => exact .ifc ..
   | lst0 => cases hp
   | lst => cases hp
   | ptr => cases hp
   | full => cases hp
 | agg cs vs hl h ih => exact .agg cs vs hl fun i c v hc hv => ih i c v hc hv (Jmi (by simpa [Je3] using hp) hc)
 | tup cs vs hl h ih => exact .tup cs vs hl fun i c v hc hv => ih i c v hc hv (Jmi (by simpa [Je3] using hp) hc)
 | nils a => exact .nils a
 | ref => cases hp
 | ptr => cases hp
 | acc0 => cases hp
 | ubool => cases hp
 | acc => cases hp
 | iptr => cases hp
 | nilp => exact .nilp
 | map => cases hp
 | pmap => cases hp
 | nilm => exact .nilm
 | fn => cases hp
 | bfn => cases hp
def hid (B : List Nat) (s : Store) : Store := B.map (·, none) ++ s
theorem Jih {B : List Nat} {s : Store} {b : Nat} : get (hid B s) b = if b ∈ B then none else get s b := by
 unfold hid
 induction B with
 | nil => simp
 | cons c B ih =>
   simp only [List.map_cons, List.cons_append, get]
   by_cases e : c = b
   . subst e; simp
   . rw [if_neg e, ih]; simp [Ne.symm e]
theorem Jpx {G F φ s w} {B : List Nat} (hs : SR G F φ s w) : Hides F φ s (· ∈ B) (ownF F φ (hid B s)) := by
 refine ⟨fun β h => ?_, fun b x p hB h1 h2 h3 => ?_⟩
 . rcases h with h | ⟨b, x, p, h1, h2, h3⟩
   . exact .inl h
   . rw [Jih] at h1
     by_cases hb : b ∈ B
     . rw [if_pos hb] at h1; cases h1
     . rw [if_neg hb] at h1; exact .inr ⟨b, x, p, h1, h2, h3⟩
 . rcases h3 with h3 | ⟨c, y, q, k1, k2, k3⟩
   . exact hs.disj b x p h1 h2 h3
   . rw [Jih] at k1
     by_cases hc : c ∈ B
     . rw [if_pos hc] at k1; cases k1
     . rw [if_neg hc] at k1
       have := hs.inj c b y x q p k1 h1 k2 h2 k3
       subst this; exact hc hB
section
variable {f : Nat} {args args' : List AV} {r : AV} {s : Store} {nx : Nat} {B : List Nat}
theorem Pure.calls {F φ s1 w} {vs : List Value} (h : Pure P G f args r) (hl : args'.length = args.length) (hz : ∀ (i : Nat) a x, args'[i]? = some a -> args[i]? = some x -> FrzA s (· ∈ B) a x) (hag : Jb1 s s1 B) (hs : SR G F φ s1 w)
   (hlv : vs.length = args'.length) (hv : ∀ (i : Nat) x v, args'[i]? = some x -> vs[i]? = some v -> VR φ (ownF F φ s1) w x v) :
   Jbe P (fun u w' => VR (fun _ => none) (ownF F φ (hid B s1)) w' r u /\ (∀ β, β < w.heap.size -> w'.heap[β]? = w.heap[β]?) /\ Step (ownF F φ (hid B s1)) (ownF F φ (hid B s1)) w w') ((callFunc f ⟨vs⟩).run P w) := by
 have hh := Jpx (B := B) hs
 refine h.run (ownF F φ (hid B s1)) w vs (fun g k rows hg => ?_) (fun β hβ => hs.osize β (hh.sub β hβ)) (by omega) fun i x v hx hv' => ?_
 . obtain ⟨h1, h2, h3⟩ := hs.glob g k rows hg
   exact ⟨h1, fun h' => h2 (hh.sub g h'), h3.mono hh.step h1 h2⟩
 . have hi : i < args'.length := hl ▸ (gsI.1 hx).1
   have ha := List.getElem?_eq_getElem hi
   exact VR.frzA hs hh (hv i _ v ha hv') ((hz i _ x ha hx).agrees hag)
theorem Pure.lend (h : Pure P G f args r) (hl : args'.length = args.length) (hz : ∀ (i : Nat) a x, args'[i]? = some a -> args[i]? = some x -> FrzA s (· ∈ B) a x) (hr : Je3 r = true) : Gives P G f args' s nx r B [] nx := by
 refine ⟨Nat.le_refl _, fun F φ s1 w vs hag hs _ hlv hv => (h.calls hl hz hag hs hlv hv).mono fun u w' he => ?_⟩
 obtain ⟨h1, hkeep, hst0⟩ := he
 have hst : ∀ F' : Nat -> Prop, Step (ownF F' φ s1) (ownF F' φ s1) w w' := fun F' => ⟨fun β hβ hn => ⟨hkeep β hβ, hn⟩, hst0.size, fun β arr T h => ⟨arr, by rw [hkeep β (Array.getElem?_eq_some_iff.1 h).1]; exact h, rfl⟩, hst0.os, hst0.tape, hst0.output⟩
 refine ⟨φ, fun _ _ h => h, fun _ _ => rfl, ?_, h1.scal hr, hst⟩
 exact hs.change (fun _ _ h => h) (hst F) (fun b x hb => .inl ⟨hb, fun p hp => by
   obtain ⟨q, e1, e2⟩ := (hs.blk b x hb).place
   rw [hp] at e1; cases e1
   exact hkeep _ e2⟩) hs.inj hs.disj
theorem Pure.give (h : Pure P G f args r) (hl : args'.length = args.length) (hz : ∀ (i : Nat) a x, args'[i]? = some a -> args[i]? = some x -> FrzA s (· ∈ B) a x) : Gives P G f args' s nx r B (B.map (·, none)) nx := by
 refine ⟨Nat.le_refl _, fun F φ s1 w vs hag hs _ hlv hv => (h.calls hl hz hag hs hlv hv).mono fun u w' he => ?_⟩
 obtain ⟨h1, hkeep, hst0⟩ := he
 have hsub : ∀ F' : Nat -> Prop, ∀ β, ownF F' φ (hid B s1) β -> ownF F' φ s1 β := fun F' β h => by
   rcases h with h | ⟨b, x, p, h1, h2, h3⟩
   . exact .inl h
   . rw [Jih] at h1
     by_cases hb : b ∈ B
     . rw [if_pos hb] at h1; cases h1
     . rw [if_neg hb] at h1; exact .inr ⟨b, x, p, h1, h2, h3⟩
 have hst : ∀ F' : Nat -> Prop, Step (ownF F' φ s1) (ownF F' φ (hid B s1)) w w' := fun F' => ⟨fun β hβ hn => ⟨hkeep β hβ, fun h' => hn (hsub F' β h')⟩, hst0.size, fun β arr T h => ⟨arr, by rw [hkeep β (Array.getElem?_eq_some_iff.1 h).1]; exact h, rfl⟩, hst0.os, hst0.tape, hst0.output⟩
 have hget : ∀ b x, get (hid B s1) b = some x -> get s1 b = some x := fun b x hb => by
   rw [Jih] at hb
   by_cases hB : b ∈ B
   . rw [if_pos hB] at hb; cases hb
   . rwa [if_neg hB] at hb
 refine ⟨φ, fun _ _ h => h, fun _ _ => rfl, ?_, h1.mono (fun _ _ h => by cases h) (Step.refl _ _), hst⟩
 exact hs.change (fun _ _ h => h) (hst F) (fun b x hb => .inl ⟨hget b x hb, fun p hp => by
   obtain ⟨q, e1, e2⟩ := (hs.blk b x (hget b x hb)).place
   rw [hp] at e1; cases e1
   exact hkeep _ e2⟩) (fun b b' x x' p p' h1 h2 => hs.inj b b' x x' p p' (hget b x h1) (hget b' x' h2)) (fun b x p h1 => hs.disj b x p (hget b x h1))
theorem J1j {xs : List AV} (h : Ja5 xs = true) (i : Nat) (a x : AV) (h1 : xs[i]? = some a) (h2 : xs[i]? = some x) : FrzA s (· ∈ B) a x := by
 rw [h1] at h2; cases h2
 exact .same _ (Jf5 h h1)
theorem Pure.gives (h : Pure P G f args r) : Gives P G f args s nx r [] [] nx := h.give (B := []) rfl (J1j h.pure)
end
end
end Go.Am
namespace Go.Am
open Go
class Cont (α : Type) where
 k : α
def Ja1 {α : Type} (o : Option α) [f : Cont (α -> Prop)] : Prop := Jaj o f.k
def xTy (P : Program) (t : Nat) [f : Cont (TyI -> Prop)] : Prop := Jad P t f.k
def Jdl (o : Option ABlk) (k : Nat) [f : Cont (List (List AV) -> Prop)] : Prop := Jbx o k f.k
def xMap (o : Option ABlk) [f : Cont (List (AV × AV) -> Prop)] : Prop := Jdk o f.k
def xif (b : Bool) [A : Cont Prop] [B : Cont Prop] : Prop := vif b A.k B.k
def xdec (c : Prop) [A : Cont Prop] [B : Cont Prop] : Prop := vdec c A.k B.k
def xEq (P : Program) (t : Nat) (cs ds : List AV) [f : Cont (Bool -> Prop)] : Prop := VEq P t cs ds f.k
section
variable {α : Type} {P : Program} {G : Jac} {N n0 : Nat}
@[simp] theorem J6n {x : α} {f : Cont (α -> Prop)} : @Ja1 α (some x) f = f.k x := (rfl)
@[simp] theorem J6f {k : Nat} {rows : List (List AV)} {f : Cont (List (List AV) -> Prop)} : @Jdl (some (.cells k rows)) k f = f.k rows := by simp [Jdl, Jbx]
@[simp] theorem J6g {es : List (AV × AV)} {f : Cont (List (AV × AV) -> Prop)} : @xMap (some (.map es)) f = f.k es := (rfl)
@[simp] theorem J8l {A B : Cont Prop} : @xif true A B = A.k := by simp [xif, vif]
@[simp] theorem J8k {A B : Cont Prop} : @xif false A B = B.k := by simp [xif, vif]
@[simp] theorem J78 {A B : Cont Prop} : @xdec True A B = A.k := by simp [xdec, vdec]
@[simp] theorem J77 {A B : Cont Prop} : @xdec False A B = B.k := by simp [xdec, vdec]
theorem Jan {b : Bool} {A B : Cont Prop} (h1 : b = true -> A.k) (h2 : b = false -> B.k) : @xif b A B := ⟨h1, h2⟩
theorem Jtd {c : Prop} {A B : Cont Prop} (h1 : c -> A.k) (h2 : ¬ c -> B.k) : @xdec c A B := ⟨h1, h2⟩
def Jfd (y : TyI) (x : AV) (s : Store) (nx : Nat) [K : Cont KT] : Prop := Jd6 y x s nx K.k
@[simp] theorem J82 {a : Bool} {n m : Nat} {z : List AV} {td : TD} {b k i j nx : Nat} {s : Store} {K : Cont KT} : @Jfd ⟨a, n, m, z, td⟩ (.ptr b k i j) s nx K =
   @Jdl (get s b) k ⟨fun rows => @Ja1 _ rows[i]? ⟨fun row => @xif a ⟨j + n <= row.length /\ K.k (.agg ((row.drop j).take n)) [b] [] nx⟩ ⟨@Ja1 _ row[j]? ⟨fun x => K.k x [b] [] nx⟩⟩⟩⟩ := by
 cases a <;> simp only [Jfd, Jd6, Jdl, Ja1, xif, vif] <;> simp
@[simp] theorem J81 {a : Bool} {n m : Nat} {z : List AV} {td : TD} {k i j nx : Nat} {rows : List (List PV)} {s : Store} {K : Cont KT} : @Jfd ⟨a, n, m, z, td⟩ (.iptr k rows i j) s nx K =
   @Ja1 _ rows[i]? ⟨fun row => @xif a ⟨j + n <= row.length /\ K.k (.agg (((row.drop j).take n).map AV.p)) [] [] nx⟩ ⟨@Ja1 _ row[j]? ⟨fun x => K.k (.p x) [] [] nx⟩⟩⟩ := by
 cases a <;> simp only [Jfd, Jd6, Ja1, xif, vif] <;> simp
def Jtk (n : Nat) (x v : AV) (s : Store) (nx : Nat) [K : Cont KT] : Prop := Jjq ⟨false, n, 0, [], .other⟩ x v s nx K.k
@[simp] theorem Kad {n b k i j nx : Nat} {v : AV} {s : Store} {K : Cont KT} : @Jtk n (.ptr b k i j) v s nx K =
   @Jdl (get s b) k ⟨fun rows => @Ja1 _ rows[i]? ⟨fun row => v.cells.length = n /\ 0 < n /\ j + n <= row.length /\ v.cells.all AV.oneCell = true /\ K.k .any [b] [(b, some (.cells k (rows.set i (lay row j v.cells))))] nx⟩⟩ := (rfl)
def Jnf (td : TD) (x : AV) (f nx : Nat) [K : Cont KT] : Prop := Jjm td x f nx K.k
@[simp] theorem J8d {fs : List (Nat × Nat × Bool)} {b k i j f nx : Nat} {K : Cont KT} : @Jnf (.struct fs) (.ptr b k i j) f nx K = @Ja1 _ fs[f]? ⟨fun p => p.2.1 ≠ 0 /\ K.k (.ptr b k i (j + p.1)) [] [] nx⟩ := (rfl)
@[simp] theorem J8c {fs : List (Nat × Nat × Bool)} {k i j f nx : Nat} {rows : List (List PV)} {K : Cont KT} : @Jnf (.struct fs) (.iptr k rows i j) f nx K = @Ja1 _ fs[f]? ⟨fun p => p.2.1 ≠ 0 /\ K.k (.iptr k rows i (j + p.1)) [] [] nx⟩ := (rfl)
def Jgp (a : Bool) (n : Nat) (cs : List AV) (off nx : Nat) [K : Cont KT] : Prop := Jbw a n cs off nx K.k
@[simp] theorem J96 {n off nx : Nat} {cs : List AV} {K : Cont KT} : @Jgp true n cs off nx K = (off + n <= cs.length /\ K.k (.agg ((cs.drop off).take n)) [] [] nx) := by simp [Jgp, Jbw]
@[simp] theorem J95 {n off nx : Nat} {cs : List AV} {K : Cont KT} : @Jgp false n cs off nx K = @Ja1 _ cs[off]? ⟨fun x => K.k x [] [] nx⟩ := by simp [Jgp, Jbw, Ja1]
def Jgo (td : TD) (es : Nat) (x ix : AV) (nx : Nat) [K : Cont KT] : Prop := Jfa td es x ix nx K.k
@[simp] theorem J8o {e es k nx : Nat} {ik : IntKind} {n : Int} {rows : List (List PV)} {K : Cont KT} : @Jgo (.slice e) es (.p (.lst k rows)) (.p (.int ik n)) nx K = (0 <= n /\ n < rows.length /\ k = es /\ K.k (.iptr k rows n.toNat 0) [] [] nx) := (rfl)
@[simp] theorem J8p {e es b k i m nx : Nat} {c : Option Nat} {ik : IntKind} {n : Int} {K : Cont KT} : @Jgo (.slice e) es (.ref b k i m c) (.p (.int ik n)) nx K = (0 <= n /\ n < m /\ k = es /\ K.k (.ptr b k (i + n.toNat) 0) [] [] nx) := (rfl)
@[simp] theorem J8m {e es b k m nx : Nat} {ik : IntKind} {n : Int} {K : Cont KT} : @Jgo (.slice e) es (.acc b k m) (.p (.int ik n)) nx K = (0 <= n /\ n < m /\ k = es /\ K.k (.ptr b k n.toNat 0) [] [] nx) := (rfl)
@[simp] theorem J8n {len e es b k i j nx : Nat} {ik : IntKind} {n : Int} {K : Cont KT} : @Jgo (.array len e) es (.ptr b k i j) (.p (.int ik n)) nx K = (0 <= n /\ n < len /\ K.k (.ptr b k i (j + n.toNat * es)) [] [] nx) := (rfl)
def xbin (P : Program) (op : BinOp) (t : Nat) (x y : AV) (nx : Nat) [K : Cont KT] : Prop := vbin P op t x y nx K.k
section
variable {t nx : Nat} {k : IntKind} {a b : Int} {K : Cont KT} {c d : List UInt8} {p q : Bool} {cs ds : List AV}
@[simp] theorem J61 : @xbin P .add t (.p (.int k a)) (.p (.int k b)) nx K = (k.wrap (a + b) = a + b /\ K.k (.p (.int k (a + b))) [] [] nx) := by simp [xbin, vbin, Jcp]
@[simp] theorem J7h : @xbin P .sub t (.p (.int k a)) (.p (.int k b)) nx K = (k.wrap (a - b) = a - b /\ K.k (.p (.int k (a - b))) [] [] nx) := by simp [xbin, vbin, Jcp]
@[simp] theorem J7a : @xbin P .mul t (.p (.int k a)) (.p (.int k b)) nx K = (k.wrap (a * b) = a * b /\ K.k (.p (.int k (a * b))) [] [] nx) := by simp [xbin, vbin, Jcp]
@[simp] theorem J7d : @xbin P .rem t (.p (.int k a)) (.p (.int k b)) nx K = (b ≠ 0 /\ K.k (.p (.int k (a.tmod b))) [] [] nx) := by simp [xbin, vbin, Jcp]
@[simp] theorem J7c : @xbin P .quo t (.p (.int k a)) (.p (.int k b)) nx K = ((b ≠ 0 /\ k.wrap (a.tdiv b) = a.tdiv b) /\ K.k (.p (.int k (a.tdiv b))) [] [] nx) := by simp [xbin, vbin, Jcp]
@[simp] theorem J65 : @xbin P .eql t (.p (.int k a)) (.p (.int k b)) nx K = K.k (.p (.bool (decide (a = b)))) [] [] nx := by simp [xbin, vbin, Jcp]
@[simp] theorem J7b : @xbin P .neq t (.p (.int k a)) (.p (.int k b)) nx K = K.k (.p (.bool (!decide (a = b)))) [] [] nx := by simp [xbin, vbin, Jcp]
@[simp] theorem J69 : @xbin P .lss t (.p (.int k a)) (.p (.int k b)) nx K = K.k (.p (.bool (decide (a < b)))) [] [] nx := by simp [xbin, vbin, Jcp]
@[simp] theorem J68 : @xbin P .leq t (.p (.int k a)) (.p (.int k b)) nx K = K.k (.p (.bool (decide (a <= b)))) [] [] nx := by simp [xbin, vbin, Jcp]
@[simp] theorem J67 : @xbin P .gtr t (.p (.int k a)) (.p (.int k b)) nx K = K.k (.p (.bool (decide (b < a)))) [] [] nx := by simp [xbin, vbin, Jcp]
@[simp] theorem J66 : @xbin P .geq t (.p (.int k a)) (.p (.int k b)) nx K = K.k (.p (.bool (decide (b <= a)))) [] [] nx := by simp [xbin, vbin, Jcp]
@[simp] theorem J7e : @xbin P .add t (.p (.str c)) (.p (.str d)) nx K = (((c.length + d.length : Nat) : Int) <= 9223372036854775807 /\ K.k (.p (.str (c ++ d))) [] [] nx) := (rfl)
@[simp] theorem J7f : @xbin P .eql t (.p (.str c)) (.p (.str d)) nx K = K.k (.p (.bool (decide (c = d)))) [] [] nx := (rfl)
@[simp] theorem J7g : @xbin P .neq t (.p (.str c)) (.p (.str d)) nx K = K.k (.p (.bool (!decide (c = d)))) [] [] nx := (rfl)
def Jmt (td : TD) : Prop := match td with | .bool => True | _ => False
@[simp] theorem J5e : Jmt .bool = True := (rfl)
@[simp] theorem J63 : @xbin P .eql t (.p (.bool p)) (.p (.bool q)) nx K = @xTy P t ⟨fun y => Jmt y.td /\ K.k (.p (.bool (p == q))) [] [] nx⟩ := (rfl)
@[simp] theorem J64 : @xbin P .neq t (.p (.bool p)) (.p (.bool q)) nx K = @xTy P t ⟨fun y => Jmt y.td /\ K.k (.p (.bool (!(p == q)))) [] [] nx⟩ := (rfl)
@[simp] theorem J62 : @xbin P .eql t (.agg cs) (.agg ds) nx K = @xEq P t cs ds ⟨fun c => K.k (.p (.bool c)) [] [] nx⟩ := (rfl)
end
def Jep (td : TD) (x : AV) (l h m : Option AV) (nx : Nat) [K : Cont KT] : Prop := Jgl td x l h m nx K.k
@[simp] theorem Kac {c : List UInt8} {l h : Option AV} {nx : Nat} {K : Cont KT} : @Jep .str (.p (.str c)) l h none nx K =
   @Ja1 _ (Jba c.length h c.length) ⟨fun h => @Ja1 _ (Jba h l 0) ⟨fun l => K.k (.p (.str ((c.drop l).take (h - l)))) [] [] nx⟩⟩ := by simp [Jep, Jgl, Ja1]
@[simp] theorem Kaa {e : Nat} {l h m : Option AV} {nx : Nat} {K : Cont KT} : @Jep (.slice e) .nils l h m nx K = @Ja1 _ (Jba 0 m 0) ⟨fun m' => @Ja1 _ (Jba m' h 0) ⟨fun h' => @Ja1 _ (Jba h' l 0) ⟨fun _ => (m = none \/ h ≠ none) /\ K.k .nils [] [] nx⟩⟩⟩ := (rfl)
@[simp] theorem Kab {e b k i n : Nat} {c : Option Nat} {l h m : Option AV} {nx : Nat} {K : Cont KT} : @Jep (.slice e) (.ref b k i n c) l h m nx K =
   @Ja1 _ (Jba n m n) ⟨fun m' => @Ja1 _ (Jba m' h n) ⟨fun h' => @Ja1 _ (Jba h' l 0) ⟨fun l' => (m = none \/ h ≠ none) /\ h' <= n /\ @xdec (l' ≠ 0 /\ l' = h') ⟨K.k (.p (.lst k [])) [] [] nx⟩ ⟨K.k (.ref b k (i + l') (h' - l') (if m = none then c.map (· - l') else some (m' - l'))) [] [] nx⟩⟩⟩⟩ := (rfl)
def xAcc (o : Option ABlk) (k : Nat) [f : Cont (List (List AV) -> Prop)] : Prop := Jeo o k f.k
@[simp] theorem J3t {k : Nat} {rows : List (List AV)} {f : Cont (List (List AV) -> Prop)} : @xAcc (accB k rows) k f = f.k rows := by
 unfold xAcc accB Jeo
 by_cases e : rows = []
 . subst e; simp
 . simp [e]
@[simp] theorem J6e {k : Nat} {rows : List (List AV)} {f : Cont (List (List AV) -> Prop)} : @Jdl (accB k rows) k f = (rows ≠ [] /\ f.k rows) := by
 unfold Jdl accB Jbx
 by_cases e : rows = []
 . subst e; simp
 . simp [e]
@[simp] theorem J5b {b k n : Nat} {rows : List (List AV)} : Je5 (accB k rows) b k n = if rows.length = n /\ (rows.all fun r => r.all AV.oneCell) = true then some (rows, [b]) else none := by
 unfold Je5 accB
 by_cases e : rows = []
 . subst e
   by_cases h : n = 0
   . subst h; simp
   . simp [h, Ne.symm h]
 . simp [e]
def Jhp (y : TyI) (x z : AV) (s : Store) (nx : Nat) [K : Cont KT] : Prop := vapp y x z s nx K.k
section
variable {a : Bool} {n m : Nat} {ze : List AV} {td : TD} {z : AV} {s : Store} {nx : Nat} {K : Cont KT}
@[simp] theorem J6s : @Jhp ⟨a, n, m, ze, td⟩ .nils z s nx K = @Ja1 _ (Jca s z) ⟨fun src => srcK z n = n /\ (∀ r ∈ src.1, r.length = n) /\ 0 < n /\ 0 < m /\ ze.length = n /\
   src.1.length * m <= 35184372088832 /\ @xdec (src.1 = []) ⟨K.k .nils src.2 [] nx⟩ ⟨K.k (.ref nx n 0 src.1.length none) src.2 [(nx, some (.cells n src.1))] (nx + 1)⟩⟩ := (rfl)
@[simp] theorem J6t {b k i l : Nat} : @Jhp ⟨a, n, m, ze, td⟩ (.ref b k i l none) z s nx K = @Ja1 _ (Jca s z) ⟨fun src => srcK z n = n /\ (∀ r ∈ src.1, r.length = n) /\ 0 < n /\ 0 < m /\ ze.length = n /\
   k = n /\ b ∉ src.2 /\ (l + src.1.length) * m <= 35184372088832 /\ @Jdl (get s b) k ⟨fun rows => i + l <= rows.length /\ (∀ r ∈ rows, r.length = k) /\
     K.k (.ref nx k 0 (l + src.1.length) none) (b :: src.2) [(nx, some (.cells k ((rows.drop i).take l ++ src.1))), (b, none)] (nx + 1)⟩⟩ := (rfl)
@[simp] theorem J6r {b k l : Nat} : @Jhp ⟨a, n, m, ze, td⟩ (.acc b k l) z s nx K = @Ja1 _ (Jca s z) ⟨fun src => srcK z n = n /\ (∀ r ∈ src.1, r.length = n) /\ 0 < n /\ 0 < m /\ ze.length = n /\
   k = n /\ b < nx /\ b ∉ src.2 /\ (l + src.1.length) * m <= 35184372088832 /\ @xAcc (get s b) k ⟨fun rows => rows.length = l /\ (∀ r ∈ rows, r.length = k) /\
     K.k (.acc nx k (l + src.1.length)) (b :: src.2) [(nx, accB k (rows ++ src.1)), (b, none)] (nx + 1)⟩⟩ := (rfl)
@[simp] theorem J6u {b k i l c : Nat} : @Jhp ⟨a, n, m, ze, td⟩ (.ref b k i l (some c)) z s nx K = @Ja1 _ (Jca s z) ⟨fun src => srcK z n = n /\ (∀ r ∈ src.1, r.length = n) /\ 0 < n /\ 0 < m /\ ze.length = n /\
   k = n /\ (l + src.1.length) * m <= 35184372088832 /\ @Jdl (get s b) k ⟨fun rows => i + l <= rows.length /\ (∀ r ∈ rows, r.length = k) /\
     @xdec (c < l + src.1.length) ⟨K.k (.ref nx k 0 (l + src.1.length) none) (b :: src.2) [(nx, some (.cells k ((rows.drop i).take l ++ src.1)))] (nx + 1)⟩ ⟨@xdec (src.1 = []) ⟨K.k (.ref b k i l (some c)) (b :: src.2) [] nx⟩ ⟨i + l + src.1.length <= rows.length /\ K.k (.ref b k i (l + src.1.length) (some c)) (b :: src.2) [(b, some (.cells k (Jc7 rows (i + l) src.1)))] nx⟩⟩⟩⟩ := (rfl)
end
def Jer (P : Program) (G : Jac) (f : Nat) (args : List AV) (s : Store) (nx : Nat) [K : Cont KT] : Prop := Jgs P G f args s nx K.k
theorem Jab {f : Nat} {args : List AV} {s : Store} {nx : Nat} {K : Cont KT} {r : AV} (h : Pure P G f args r) (hK : K.k r [] [] nx) : @Jer P G f args s nx K := ⟨r, [], [], nx, h.gives, hK⟩
def xfn (P : Program) (G : Jac) (f : AV) (args : List AV) (s : Store) (nx : Nat) [K : Cont KT] : Prop := match f with
 | .fn (.func n) cap => Jgs P G n (args ++ cap) s nx K.k
 | .fn (.via _ _ n _) fs => Jgs P G n (fs ++ args) s nx K.k
 | .fn (.yield l) [] => Jjy P G l args s nx K.k
 | _ => False
def Jnq (P : Program) (G : Jac) (l : Nat) (args : List AV) (s : Store) (nx : Nat) [K : Cont KT] : Prop := Jjy P G l args s nx K.k
theorem Jfe {l : Nat} {args : List AV} {s : Store} {nx : Nat} {K : Cont KT} {v : AV} {rd : List Nat} {up : Store} {nx' : Nat} (h : GivesY P G l args s nx v rd up nx') (hK : K.k v rd up nx') : @Jnq P G l args s nx K := ⟨v, rd, up, nx', h, hK⟩
@[simp] theorem J8g {l : Nat} {args : List AV} {s : Store} {nx : Nat} {K : Cont KT} : @xfn P G (.fn (.yield l) []) args s nx K = @Jnq P G l args s nx K := (rfl)
@[simp] theorem J8e {n : Nat} {cap args : List AV} {s : Store} {nx : Nat} {K : Cont KT} : @xfn P G (.fn (.func n) cap) args s nx K = @Jer P G n (args ++ cap) s nx K := (rfl)
@[simp] theorem J8f {n t : Nat} {p : Array FieldStep} {b : Bool} {fs args : List AV} {s : Store} {nx : Nat} {K : Cont KT} : @xfn P G (.fn (.via t p n b) fs) args s nx K = @Jer P G n (fs ++ args) s nx K := (rfl)
def xlen (td : TD) (x : AV) (s : Store) (nx : Nat) [K : Cont KT] : Prop := match td, x with
 | .array n _, _ => K.k (.p (.int .i64 n)) [] [] nx
 | .slice _, .p (.lst k rows) => vlen (.p (.lst k rows)) s nx K.k
 | .slice _, .ref b k i n c => vlen (.ref b k i n c) s nx K.k
 | .slice _, .nils => vlen .nils s nx K.k
 | .slice _, .acc b k n => vlen (.acc b k n) s nx K.k
 | .str, .p (.str t) => vlen (.p (.str t)) s nx K.k
 | .map _ _, .map b => vlen (.map b) s nx K.k
 | .map _ _, .nilm => vlen .nilm s nx K.k
 | _, _ => False
section
variable {e k n i b : Nat} {rows : List (List PV)} {c : Option Nat} {st : List UInt8} {x : AV} {s : Store} {nx : Nat} {K : Cont KT}
@[simp] theorem J8v : @xlen (.slice e) (.p (.lst k rows)) s nx K = K.k (.p (.int .i64 rows.length)) [] [] nx := (rfl)
@[simp] theorem J8y : @xlen (.slice e) (.ref b k i n c) s nx K = K.k (.p (.int .i64 n)) [] [] nx := (rfl)
@[simp] theorem J8u : @xlen (.slice e) (.acc b k n) s nx K = K.k (.p (.int .i64 n)) [] [] nx := (rfl)
@[simp] theorem J8x : @xlen (.slice e) .nils s nx K = K.k (.p (.int .i64 0)) [] [] nx := (rfl)
@[simp] theorem J8z : @xlen .str (.p (.str st)) s nx K = K.k (.p (.int .i64 st.length)) [] [] nx := (rfl)
@[simp] theorem J8w : @xlen (.map k e) (.map b) s nx K = @xMap (get s b) ⟨fun es => K.k (.p (.int .i64 es.length)) [b] [] nx⟩ := (rfl)
end
end
end Go.Am
namespace Go.Am
open Go
section
variable {P : Program} {G : Jac} {N n0 : Nat} {t : Jap} {s : Store} {nx : Nat}
def Jtf (td : TD) (x : AV) (f nx : Nat) [K : Cont KT] : Prop := match td, x with
 | .struct fs, .agg cs => Jaj fs[f]? fun p => p.2.1 ≠ 0 /\ Jbw p.2.2 p.2.1 cs p.1 nx K.k
 | _, _ => False
@[simp] theorem J8b {fs : List (Nat × Nat × Bool)} {cs : List AV} {f : Nat} {K : Cont KT} : @Jtf (.struct fs) (.agg cs) f nx K = @Ja1 _ fs[f]? ⟨fun p => p.2.1 ≠ 0 /\ @Jgp p.2.2 p.2.1 cs p.1 nx K⟩ := (rfl)
def xixA (P : Program) (td : TD) (x ix : AV) (nx : Nat) [K : Cont KT] : Prop := match td with
 | .slice e => Jad P e fun ye => Jfa (.slice e) ye.size x ix nx K.k
 | .array n e => Jad P e fun ye => Jfa (.array n e) ye.size x ix nx K.k
 | _ => False
@[simp] theorem J8r {e : Nat} {x ix : AV} {K : Cont KT} : @xixA P (.slice e) x ix nx K = @xTy P e ⟨fun ye => @Jgo (.slice e) ye.size x ix nx K⟩ := (rfl)
@[simp] theorem J8q {n e : Nat} {x ix : AV} {K : Cont KT} : @xixA P (.array n e) x ix nx K = @xTy P e ⟨fun ye => @Jgo (.array n e) ye.size x ix nx K⟩ := (rfl)
def xixV (P : Program) (td : TD) (x ix : AV) (nx : Nat) [K : Cont KT] : Prop := match td, x, ix with
 | .array n e, .agg cs, .p (.int _ i) => Jad P e fun ye => 0 <= i /\ i < n /\ Jbw ye.agg ye.size cs (i.toNat * ye.size) nx K.k
 | .str, .p (.str cs), .p (.int _ i) => 0 <= i /\ Jaj cs[i.toNat]? fun c => K.k (.p (.int .u8 c.toNat)) [] [] nx
 | _, _, _ => False
@[simp] theorem J8s {n e : Nat} {cs : List AV} {k : IntKind} {i : Int} {K : Cont KT} : @xixV P (.array n e) (.agg cs) (.p (.int k i)) nx K = @xTy P e ⟨fun ye => 0 <= i /\ i < n /\ @Jgp ye.agg ye.size cs (i.toNat * ye.size) nx K⟩ := (rfl)
@[simp] theorem J8t {cs : List UInt8} {k : IntKind} {i : Int} {K : Cont KT} : @xixV P .str (.p (.str cs)) (.p (.int k i)) nx K = (0 <= i /\ @Ja1 _ cs[i.toNat]? ⟨fun c => K.k (.p (.int .u8 c.toNat)) [] [] nx⟩) := (rfl)
def Jjt (P : Program) (y : TyI) (parts : List (Nat × AV)) (nx : Nat) [K : Cont KT] : Prop := Jaj (match y.td with
   | .struct fs => if (fs.all fun p => p.2.1 != 0) = true then Jcg (Jeh fs) y.zero parts else none
   | .array _ e => (tyOf P e).bind fun ye => Jcg (Jeb ye.size) y.zero parts
   | _ => none) fun cs => K.k (.agg cs) [] [] nx
@[simp] theorem J7o {a : Bool} {n m : Nat} {z : List AV} {fs : List (Nat × Nat × Bool)} {parts : List (Nat × AV)} {K : Cont KT} : @Jjt P ⟨a, n, m, z, .struct fs⟩ parts nx K =
   @Ja1 _ (if (fs.all fun p => p.2.1 != 0) = true then Jcg (Jeh fs) z parts else none) ⟨fun cs => K.k (.agg cs) [] [] nx⟩ := (rfl)
@[simp] theorem J7n {a : Bool} {n m l e : Nat} {z : List AV} {parts : List (Nat × AV)} {K : Cont KT} : @Jjt P ⟨a, n, m, z, .array l e⟩ parts nx K =
   @xTy P e ⟨fun ye => @Ja1 _ (Jcg (Jeb ye.size) z parts) ⟨fun cs => K.k (.agg cs) [] [] nx⟩⟩ := by
 simp only [Jjt, xTy, Jad, Ja1]
 cases tyOf P e <;> rfl
def Js9 (P : Program) (td : TD) (len : Nat) (parts : List (Nat × AV)) (nx : Nat) [K : Cont KT] : Prop := match td with
 | .slice e => Jad P e fun ye => ye.zero.length = ye.size /\ 0 < ye.size /\ len * ye.size <= 16777216 /\ Jaj (Jdf ye.size (List.replicate len ye.zero) parts) fun rows =>
     K.k (.ref nx ye.size 0 len (some len)) [] [(nx, some (.cells ye.size rows))] (nx + 1)
 | _ => False
@[simp] theorem J7m {e len : Nat} {parts : List (Nat × AV)} {K : Cont KT} : @Js9 P (.slice e) len parts nx K =
   @xTy P e ⟨fun ye => ye.zero.length = ye.size /\ 0 < ye.size /\ len * ye.size <= 16777216 /\ @Ja1 _ (Jdf ye.size (List.replicate len ye.zero) parts) ⟨fun rows =>
     K.k (.ref nx ye.size 0 len (some len)) [] [(nx, some (.cells ye.size rows))] (nx + 1)⟩⟩ := (rfl)
def Jth (P : Program) (td : TD) (x z : AV) (nx : Nat) [K : Cont KT] : Prop := match td, x, z with
 | .slice e, .p (.int _ l), .p (.int _ c) => Jad P e fun ye => ye.zero.length = ye.size /\ 0 <= l /\ l <= c /\ (ye.bytes : Int) * c <= 281474976710656 /\ c <= 9223372036854775807 /\
     K.k (.ref nx ye.size 0 l.toNat (some c.toNat)) [] [(nx, some (.cells ye.size (List.replicate c.toNat ye.zero)))] (nx + 1)
 | _, _, _ => False
@[simp] theorem J84 {e : Nat} {k1 k2 : IntKind} {l c : Int} {K : Cont KT} : @Jth P (.slice e) (.p (.int k1 l)) (.p (.int k2 c)) nx K =
   @xTy P e ⟨fun ye => ye.zero.length = ye.size /\ 0 <= l /\ l <= c /\ (ye.bytes : Int) * c <= 281474976710656 /\ c <= 9223372036854775807 /\
     K.k (.ref nx ye.size 0 l.toNat (some c.toNat)) [] [(nx, some (.cells ye.size (List.replicate c.toNat ye.zero)))] (nx + 1)⟩ := (rfl)
def xun (op : UnOp) (x : AV) (nx : Nat) [K : Cont KT] : Prop := match op, x with
 | .not, .p (.bool b) => K.k (.p (.bool (!b))) [] [] nx
 | .neg, .p (.int k n) => k.wrap (0 - n) = -n /\ K.k (.p (.int k (-n))) [] [] nx
 | _, _ => False
@[simp] theorem Kay {b : Bool} {K : Cont KT} : @xun .not (.p (.bool b)) nx K = K.k (.p (.bool (!b))) [] [] nx := (rfl)
def Jne (td : TD) (x : AV) (nx : Nat) [K : Cont KT] : Prop := match td, x with
 | .int k, .p (.int _ n) => k.wrap n = n /\ K.k (.p (.int k n)) [] [] nx
 | .str, .p (.int _ n) => 0 <= n /\ n < 128 /\ K.k (.p (.str [UInt8.ofNat n.toNat])) [] [] nx
 | _, _ => False
@[simp] theorem J76 {k' : IntKind} {n : Int} {K : Cont KT} : @Jne .str (.p (.int k' n)) nx K = (0 <= n /\ n < 128 /\ K.k (.p (.str [UInt8.ofNat n.toNat])) [] [] nx) := (rfl)
@[simp] theorem J75 {k k' : IntKind} {n : Int} {K : Cont KT} : @Jne (.int k) (.p (.int k' n)) nx K = (k.wrap n = n /\ K.k (.p (.int k n)) [] [] nx) := (rfl)
def Jtj (c x y : AV) (nx : Nat) [K : Cont KT] : Prop := match c with
 | .p (.bool t) => vif t (K.k x [] [] nx) (K.k y [] [] nx)
 | _ => False
@[simp] theorem J97 {b : Bool} {x y : AV} {K : Cont KT} : @Jtj (.p (.bool b)) x y nx K = @xif b ⟨K.k x [] [] nx⟩ ⟨K.k y [] [] nx⟩ := (rfl)
def Jte (x : AV) (i nx : Nat) [K : Cont KT] : Prop := match x with
 | .tup vs => Jaj vs[i]? fun v => K.k v [] [] nx
 | _ => False
@[simp] theorem J8a {vs : List AV} {i : Nat} {K : Cont KT} : @Jte (.tup vs) i nx K = @Ja1 _ vs[i]? ⟨fun v => K.k v [] [] nx⟩ := (rfl)
def xnil (x : AV) (nx : Nat) [K : Cont KT] : Prop := match x with
 | .ptr b k i j => K.k (.ptr b k i j) [] [] nx
 | .iptr k rows i j => K.k (.iptr k rows i j) [] [] nx
 | _ => False
@[simp] theorem J87 {b k i j : Nat} {K : Cont KT} : @xnil (.ptr b k i j) nx K = K.k (.ptr b k i j) [] [] nx := (rfl)
def Jhs (q : Option (Nat × Nat × Nat × Nat × Nat × Int × Int)) (s : Store) (nx : Nat) [A : Cont Prop] [K : Cont KT] : Prop := match q with
 | some q => vdec ((q.2.2.2.1 : Int) < q.2.2.2.2.2.1) (Jm5 q s nx K.k) A.k
 | none => A.k
@[simp] theorem J8h {A : Cont Prop} {K : Cont KT} : @Jhs none s nx A K = A.k := (rfl)
def Jjc (P : Program) (td : TD) (x : AV) [K : Cont Prop] : Prop := (match td with | .slice e => Jad P e fun ye => (match x with | .p (.lst k _) => k = ye.size | .ref _ k _ _ _ => k = ye.size | _ => True) | _ => True) /\ K.k
@[simp] theorem J49 {e : Nat} {K : Cont Prop} : @Jjc P (.slice e) .nils K = (@xTy P e ⟨fun _ => True⟩ /\ K.k) := (rfl)
@[simp] theorem J5a {e b k i n : Nat} {c : Option Nat} {K : Cont Prop} : @Jjc P (.slice e) (.ref b k i n c) K = (@xTy P e ⟨fun ye => k = ye.size⟩ /\ K.k) := (rfl)
def Js7 (y : TyI) (x z : AV) (s : Store) (nx : Nat) [K : Cont KT] : Prop := Jgk y x z s nx K.k
section
variable {a : Bool} {n m : Nat} {ze : List AV} {td : TD} {z : Int} {K : Cont KT}
@[simp] theorem J6v : @Js7 ⟨a, n, m, ze, td⟩ .nils (.p (.int .i64 z)) s nx K = (0 <= z /\ 0 < n /\ 0 < m /\ ze.length = n /\ 0 < z /\ z.toNat * m <= 35184372088832 /\
   K.k (.ref nx n 0 z.toNat none) [] [(nx, some (.cells n (List.replicate z.toNat ze)))] (nx + 1)) := (rfl)
end
def Jnc (ye : TyI) (u : TD) (x z : AV) (s : Store) (nx : Nat) [K : Cont KT] : Prop := match u with
 | .slice _ => vapp ye x z s nx K.k
 | .str => vapp ye x z s nx K.k
 | .int _ => Jgk ye x z s nx K.k
 | _ => False
@[simp] theorem J6p {ye : TyI} {e : Nat} {x z : AV} {K : Cont KT} : @Jnc ye (.slice e) x z s nx K = @Jhp ye x z s nx K := (rfl)
@[simp] theorem J6o {ye : TyI} {q : IntKind} {x z : AV} {K : Cont KT} : @Jnc ye (.int q) x z s nx K = @Js7 ye x z s nx K := (rfl)
def xapp (P : Program) (td : TD) (u : Nat) (x z : AV) (s : Store) (nx : Nat) [K : Cont KT] : Prop := match td with
 | .slice e => Jad P e (fun ye => Jad P u (fun yu => match yu.td with | .slice _ => vapp ye x z s nx K.k | .str => vapp ye x z s nx K.k | .int _ => Jgk ye x z s nx K.k | _ => False))
 | _ => False
@[simp] theorem J6q {e u : Nat} {x z : AV} {K : Cont KT} : @xapp P (.slice e) u x z s nx K = @xTy P e ⟨fun ye => @xTy P u ⟨fun yu => @Jnc ye yu.td x z s nx K⟩⟩ := (rfl)
def Jtg (P : Program) (td : TD) (m x : AV) (ok : Bool) (s : Store) (nx : Nat) [K : Cont KT] : Prop := Jjn P td m x ok s nx K.k
@[simp] theorem J83 {k e b : Nat} {x : AV} {ok : Bool} {K : Cont KT} : @Jtg P (.map k e) (.map b) x ok s nx K = @xTy P e ⟨fun ye => @xMap (get s b) ⟨fun es => Jdo P k es x /\ Jd9 P e = some ye.agg /\ K.k (hit ok (zeroV ye) (Jbb es x)) [b] [] nx⟩⟩ := (rfl)
def Jng (P : Program) (td : TD) (m x v : AV) (s : Store) (nx : Nat) [K : Cont KT] : Prop := Jhm P td m x v s nx K.k
@[simp] theorem J85 {k e b : Nat} {x v : AV} {K : Cont KT} : @Jng P (.map k e) (.map b) x v s nx K = @xMap (get s b) ⟨fun es => Jdo P k es x /\ K.k .any [b] [(b, some (.map (setA es x v)))] nx⟩ := (rfl)
def xcap (x : AV) (nx : Nat) [K : Cont KT] : Prop := vcap x nx K.k
@[simp] theorem J70 {K : Cont KT} : @xcap .nils nx K = K.k (.p (.int .i64 0)) [] [] nx := (rfl)
def Jta (td : TD) (x : AV) (nx : Nat) [K : Cont KT] : Prop := match td with | .slice _ => vcap x nx K.k | _ => False
@[simp] theorem J7z {e : Nat} {x : AV} {K : Cont KT} : @Jta (.slice e) x nx K = @xcap x nx K := (rfl)
def Jtb (P : Program) (td : TD) (x : AV) (s : Store) (nx : Nat) [K : Cont KT] : Prop := match td with | .slice e => Jad P e (fun ye => Jhl ye x s nx K.k) | _ => False
def Jtc (y : TyI) (x : AV) (s : Store) (nx : Nat) [K : Cont KT] : Prop := Jhl y x s nx K.k
@[simp] theorem J72 {e : Nat} {x : AV} {K : Cont KT} : @Jtb P (.slice e) x s nx K = @xTy P e ⟨fun ye => @Jtc ye x s nx K⟩ := (rfl)
@[simp] theorem J71 {y : TyI} {b k i n : Nat} {c : Option Nat} {K : Cont KT} : @Jtc y (.ref b k i n c) s nx K = (k = y.size /\ y.zero.length = y.size /\ y.zero.all AV.oneCell = true /\ 0 < n /\ @Jdl (get s b) k ⟨fun rows => i + n <= rows.length /\ (∀ r ∈ rows, r.length = k) /\
      K.k .any [b] [(b, some (.cells k (Jc7 rows i (List.replicate n y.zero))))] nx⟩) := (rfl)
def xsl (P : Program) (td : TD) (x : AV) (lo hi mx : Option AV) (s : Store) (nx : Nat) [K : Cont KT] : Prop := vsl P td x lo hi mx s nx K.k
@[simp] theorem J99 {x : AV} {lo hi mx : Option AV} {K : Cont KT} : @xsl P .str x lo hi mx s nx K = @Jhs (Jfq x lo hi mx) s nx ⟨@Jep .str x lo hi mx nx K⟩ ⟨fun _ _ _ _ => False⟩ := by
 unfold xsl vsl Jhs Jep
 cases Jfq x lo hi mx with
 | none => simp
 | some q =>
   simp only [true_and, false_and]
   apply propext
   constructor
   . rintro ⟨h1, h2⟩; exact ⟨fun h => (h1 h).elim, h2⟩
   . rintro ⟨h1, h2⟩
     refine ⟨fun h => ?_, h2⟩
     have := h1 h
     obtain ⟨rows, _, _, _, _, _, _, hK⟩ := Jcj.1 this
     exact hK
@[simp] theorem J98 {e : Nat} {x : AV} {lo hi mx : Option AV} {K : Cont KT} : @xsl P (.slice e) x lo hi mx s nx K = @Jjc P (.slice e) x ⟨@Jhs (Jfq x lo hi mx) s nx ⟨@Jep (.slice e) x lo hi mx nx K⟩ K⟩ := by
 unfold xsl vsl Jhs Jep Jjc
 simp only [true_and]
 rfl
def J3v (x y : AV) (nx : Nat) [K : Cont KT] : Prop := Jjp x y nx K.k
def Js8 (op : BinOp) (y : Operand) [D : Cont Prop] [B : Cont Prop] : Prop := if Jio op y = true then D.k else B.k
@[simp] theorem J6w {op : BinOp} {y : Operand} {D B : Cont Prop} (h : op ≠ .shl) : @Js8 op y D B = B.k := by cases op <;> first | rfl | exact (h rfl).elim
def Jhq (y : Operand) [A : Cont Prop] [C : Cont Prop] [B : Cont Prop] : Prop := if Jim y = true then A.k else if Jin y = true then C.k else B.k
@[simp] theorem J60 {d : Nat} {A C B : Cont Prop} : @Jhq (.tmp d) A C B = B.k := (rfl)
@[simp] theorem J6y {A C B : Cont Prop} : @Jhq (.const (.slice none 0 0)) A C B = A.k := (rfl)
@[simp] theorem J6x {k : IntKind} {n : Int} {A C B : Cont Prop} : @Jhq (.const (.int k n)) A C B = B.k := (rfl)
@[simp] theorem J6z {x : ByteArray} {A C B : Cont Prop} : @Jhq (.const (.string x)) A C B = B.k := (rfl)
def Jst (td : TD) : Prop := match td with | .slice _ => True | _ => False
@[simp] theorem J5f {e : Nat} : Jst (.slice e) = True := (rfl)
def Jti (op : BinOp) (x : AV) (nx : Nat) [K : Cont KT] : Prop := vnil op x nx K.k
def J3u (op : BinOp) (x : AV) (nx : Nat) [K : Cont KT] : Prop := Jjo op x nx K.k
def xbop (op : BinOp) (c : Bool) (nx : Nat) [K : Cont KT] : Prop := Jbu op c nx K.k
def xunk (op : BinOp) (nx : Nat) [K : Cont KT] : Prop := vunk op nx K.k
@[simp] theorem J7l {c : Bool} {K : Cont KT} : @xbop .eql c nx K = K.k (.p (.bool c)) [] [] nx := (rfl)
@[simp] theorem Kaz {K : Cont KT} : @xunk .eql nx K = K.k .ubool [] [] nx := (rfl)
@[simp] theorem J88 {op : BinOp} {k : Nat} {rows : List (List PV)} {K : Cont KT} : @Jti op (.p (.lst k rows)) nx K = @xdec (rows = []) ⟨@xunk op nx K⟩ ⟨@xbop op false nx K⟩ := (rfl)
def xop (P : Program) (G : Jac) (op : Op) (t : Jap) (s : Store) (nx : Nat) [K : Cont KT] : Prop := Jc2 P G op (Jah G t) s nx K.k
section
variable {K : Cont KT} {x y z : Operand} {T f i : Nat}
@[simp] theorem J9z : @xop P G (.move x) t s nx K = K.k (Jah G t x) [] [] nx := (rfl)
@[simp] theorem J9b : @xop P G (.assign x) t s nx K = K.k (Jah G t x) [] [] nx := (rfl)
@[simp] theorem J91 : @xop P G (.pick x y z) t s nx K = @Jtj (Jah G t x) (Jah G t y) (Jah G t z) nx K := (rfl)
@[simp] theorem J89 : @xop P G (.alloc T) t s nx K = @xTy P T ⟨fun y => y.zero.length = y.size /\ K.k (.ptr nx y.size 0 0) [] [(nx, some (.cells y.size [y.zero]))] (nx + 1)⟩ := (rfl)
@[simp] theorem J9d : @xop P G (.box T x) t s nx K = @xTy P T ⟨fun y => (Jah G t x).cells.length = y.size /\ (Jah G t x).cellsOk = true /\ K.k (.ptr nx y.size 0 0) [] [(nx, some (.cells y.size [(Jah G t x).cells]))] (nx + 1)⟩ := (rfl)
@[simp] theorem J9r : @xop P G (.load T x) t s nx K = @xTy P T ⟨fun y => @Jfd y (Jah G t x) s nx K⟩ := (rfl)
@[simp] theorem J93 : @xop P G (.store T x y) t s nx K = @xTy P T ⟨fun ty => @Jtk ty.size (Jah G t x) (Jah G t y) s nx K⟩ := (rfl)
@[simp] theorem J9m : @xop P G (.fieldAddr T x f) t s nx K = @xTy P T ⟨fun y => @Jnf y.td (Jah G t x) f nx K⟩ := (rfl)
@[simp] theorem J9l : @xop P G (.field T x f) t s nx K = @xTy P T ⟨fun y => @Jtf y.td (Jah G t x) f nx K⟩ := (rfl)
@[simp] theorem J9o : @xop P G (.indexAddr T x y) t s nx K = @xTy P T ⟨fun ty => @xixA P ty.td (Jah G t x) (Jah G t y) nx K⟩ := (rfl)
@[simp] theorem J9n : @xop P G (.index T x y) t s nx K = @xTy P T ⟨fun ty => @xixV P ty.td (Jah G t x) (Jah G t y) nx K⟩ := (rfl)
@[simp] theorem J9e {parts : Array (Nat × Operand)} : @xop P G (.build T parts) t s nx K = @xTy P T ⟨fun y => @Jjt P y (parts.toList.map fun (i, x) => (i, Jah G t x)) nx K⟩ := (rfl)
@[simp] theorem J9f {len : Nat} {parts : Array (Nat × Operand)} : @xop P G (.buildSlice T len parts) t s nx K = @xTy P T ⟨fun y => @Js9 P y.td len (parts.toList.map fun (i, x) => (i, Jah G t x)) nx K⟩ := (rfl)
@[simp] theorem J9w : @xop P G (.makeSlice T x z) t s nx K = @xTy P T ⟨fun y => @Jth P y.td (Jah G t x) (Jah G t z) nx K⟩ := (rfl)
@[simp] theorem J9c {op : BinOp} {u : Nat} : @xop P G (.binOp op T x y u) t s nx K = @Jhq y ⟨@xTy P T ⟨fun ty => Jst ty.td /\ @Jti op (Jah G t x) nx K⟩⟩ ⟨Jil P T = true /\ @J3u op (Jah G t x) nx K⟩ ⟨@Js8 op y ⟨@J3v (Jah G t x) (Jah G t y) nx K⟩ ⟨@xbin P op T (Jah G t x) (Jah G t y) nx K⟩⟩ := by
 rfl
@[simp] theorem J94 {op : UnOp} : @xop P G (.unOp op T x) t s nx K = @xun op (Jah G t x) nx K := (rfl)
@[simp] theorem J9j {src dst : Nat} : @xop P G (.convert src dst x) t s nx K = @xTy P src ⟨fun _ => @xTy P dst ⟨fun z => @Jne z.td (Jah G t x) nx K⟩⟩ := (rfl)
@[simp] theorem J9t {n : Nat} {cap : Array Operand} : @xop P G (.makeFunc (.func n) #[] cap) t s nx K = K.k (.fn (.func n) (cap.toList.map (Jah G t))) [] [] nx := by
 have h : @xop P G (.makeFunc (.func n) #[] cap) t s nx K = (Jdd (.func n) = true /\ K.k (.fn (.func n) (cap.toList.map (Jah G t))) [] [] nx) := (rfl)
 rw [h]; simp
@[simp] theorem J9u {n : Nat} {x : Operand} : @xop P G (.makeFunc (.func n) #[x] #[]) t s nx K = K.k (.fn (.via 0 #[] n true) [Jah G t x]) [] [] nx := by
 have h : @xop P G (.makeFunc (.func n) #[x] #[]) t s nx K = ((#[] : Array Operand) = #[] /\ K.k (.fn (.via 0 #[] n true) [Jah G t x]) [] [] nx) := (rfl)
 rw [h]; simp
@[simp] theorem J9v : @xop P G (.makeMap T none) t s nx K = K.k (.map nx) [] [(nx, some (.map []))] (nx + 1) := (rfl)
@[simp] theorem J92 {lo hi mx : Option Operand} : @xop P G (.slice T x lo hi mx) t s nx K = @xTy P T ⟨fun y => @xsl P y.td (Jah G t x) (lo.map (Jah G t)) (hi.map (Jah G t)) (mx.map (Jah G t)) s nx K⟩ := (rfl)
@[simp] theorem J9k : @xop P G (.extract x i) t s nx K = @Jte (Jah G t x) i nx K := (rfl)
@[simp] theorem J9s {ok : Bool} : @xop P G (.lookup T x y ok) t s nx K = @xTy P T ⟨fun ty => @Jtg P ty.td (Jah G t x) (Jah G t y) ok s nx K⟩ := (rfl)
@[simp] theorem J9x : @xop P G (.mapUpdate T x y z) t s nx K = @xTy P T ⟨fun ty => @Jng P ty.td (Jah G t x) (Jah G t y) (Jah G t z) s nx K⟩ := (rfl)
@[simp] theorem J9p {m x v : Operand} : @xop P G (.insert T m x v) t s nx K = @xTy P T ⟨fun y => @Jng P y.td (Jah G t m) (Jah G t x) (Jah G t v) s nx K⟩ := (rfl)
@[simp] theorem J90 : @xop P G (.nilCheck x) t s nx K = @xnil (Jah G t x) nx K := (rfl)
@[simp] theorem J9g {args : Array Operand} {types : Array Nat} : @xop P G (.call ⟨.value x, args, types⟩) t s nx K = @xfn P G (Jah G t x) (args.toList.map (Jah G t)) s nx K := by
 rfl
@[simp] theorem J9q : @xop P G (.call ⟨.builtin .len, #[x], #[T]⟩) t s nx K = @xTy P T ⟨fun y => @xlen y.td (Jah G t x) s nx K⟩ := (rfl)
@[simp] theorem J9h : @xop P G (.call ⟨.builtin .cap, #[x], #[T]⟩) t s nx K = @xTy P T ⟨fun y => @Jta y.td (Jah G t x) nx K⟩ := (rfl)
def xmax (x z : AV) (nx : Nat) [K : Cont KT] : Prop := vmax x z nx K.k
@[simp] theorem J86 {k k' : IntKind} {a b : Int} {nx : Nat} {K : Cont KT} : @xmax (.p (.int k a)) (.p (.int k' b)) nx K = K.k (.p (.int k (max a b))) [] [] nx := (rfl)
@[simp] theorem J9y {ts : Array Nat} : @xop P G (.call ⟨.builtin .max, #[x, z], ts⟩) t s nx K = @xmax (Jah G t x) (Jah G t z) nx K := (rfl)
@[simp] theorem J9i : @xop P G (.call ⟨.builtin .clear, #[x], #[T]⟩) t s nx K = @xTy P T ⟨fun y => @Jtb P y.td (Jah G t x) s nx K⟩ := (rfl)
@[simp] theorem J9a {U : Nat} : @xop P G (.call ⟨.builtin .append, #[x, z], #[T, U]⟩) t s nx K = @xTy P T ⟨fun y => @xapp P y.td U (Jah G t x) (Jah G t z) s nx K⟩ := (rfl)
end
abbrev KS := St -> Prop
def xOps (P : Program) (G : Jac) (N : Nat) [ops : Cont (Array Oper)] [l : Cont (List Oper)] (t : Jap) (s : Store) (nx : Nat) [K : Cont KS] : Prop := Jd4 P G N ops.k l.k ⟨t, s, nx⟩ K.k
def Jgn (v : AV) (want : Bool) [A : Cont Prop] [B : Cont Prop] : Prop := match v with
 | .p (.bool b) => vif (b == want) A.k B.k
 | .tup [] => B.k
 | _ => False
@[simp] theorem J8i {b want : Bool} {A B : Cont Prop} : @Jgn (.p (.bool b)) want A B = @xif (b == want) A B := (rfl)
@[simp] theorem J8j {want : Bool} {A B : Cont Prop} : @Jgn (.tup []) want A B = B.k := (rfl)
def Jdi (ops : Array Oper) (j : Nat) : Option Nat := (ops[j]?).bind (·.dst)
section
variable {ops : Cont (Array Oper)} {K : Cont KS} {d : Option Nat} {op : Op} {ty : Nat} {pos : String} {after : Array Edge} {rest : List Oper}
@[simp] theorem J6m : @xOps P G N ops ⟨[]⟩ t s nx K = K.k ⟨t, s, nx⟩ := (rfl)
@[simp] theorem J6k : @xOps P G N ops ⟨⟨d, op, ty, pos, after, none⟩ :: rest⟩ t s nx K =
   (Jc6 N d = true /\ @xop P G op t s nx ⟨fun v _ up nx' => @xOps P G N ops ⟨rest⟩ (putA t d v) (up ++ s) nx' K⟩) := (rfl)
@[simp] theorem J6l {j : Nat} {want : Bool} : @xOps P G N ops ⟨⟨d, op, ty, pos, after, some (j, want)⟩ :: rest⟩ t s nx K =
   (Jc6 N d = true /\ @Ja1 _ (Jdi ops.k j) ⟨fun e => @Jgn (slot t e) want ⟨@xop P G op t s nx ⟨fun v _ up nx' => @xOps P G N ops ⟨rest⟩ (putA t d v) (up ++ s) nx' K⟩⟩ ⟨@xOps P G N ops ⟨rest⟩ (putA t d (.tup [])) s nx K⟩⟩) := by
 show (_ /\ _) = _
 congr 1
 show (match Jdi ops.k j with | some d => _ | none => _) = _
 cases h : Jdi ops.k j with
 | none => rfl
 | some e =>
   simp only [Ja1, Jaj, Jgn]
   generalize slot t e = u
   match u with
   | .p (.bool b) => rfl
   | .tup [] => rfl
   | .tup (_ :: _) | .p (.int ..) | .p (.str _) | .p (.lst ..) | .p .nilf | .p .nilsl | .p .nilif | .p .ifc | .p (.ptr _) | .p (.full ..) | .agg _ | .nils | .ref .. | .ptr .. | .iptr .. | .nilp | .map _ | .pmap .. | .nilm | .fn .. | .acc .. | .ubool | .any => rfl
end
abbrev KQ := Exit -> St -> Prop
def xc (P : Program) (G : Jac) (N n0 : Nat) [c : Cont Code] (t : Jap) (s : Store) (nx : Nat) [Q : Cont KQ] : Prop := vc P G N n0 c.k ⟨t, s, nx⟩ Q.k
def Jd8 (e : Exit) (st : St) [K : Cont KS] [Q : Cont KQ] : Prop := Jgj K.k Q.k e st
def Jjs (id : Nat) (e : Exit) (st : St) [Q : Cont KQ] : Prop := Jhy id Q.k e st
@[simp] theorem Kaw {st : St} {K : Cont KS} {Q : Cont KQ} : @Jd8 .normal st K Q = K.k st := (rfl)
@[simp] theorem Kav {st : St} {i : Nat} {K : Cont KS} {Q : Cont KQ} : @Jd8 (.exit i) st K Q = Q.k (.exit i) st := (rfl)
@[simp] theorem Kax {st : St} {K : Cont KS} {Q : Cont KQ} : @Jd8 .ret st K Q = Q.k .ret st := (rfl)
@[simp] theorem J7j {st : St} {i : Nat} {Q : Cont KQ} : @Jjs i .normal st Q = Q.k .normal st := (rfl)
@[simp] theorem J7k {st : St} {i : Nat} {Q : Cont KQ} : @Jjs i .ret st Q = Q.k .ret st := (rfl)
@[simp] theorem J7i {st : St} {i j : Nat} {Q : Cont KQ} : @Jjs i (.exit j) st Q = if j = i then Q.k .normal st else Q.k (.exit j) st := (rfl)
def Jai (P : Program) (G : Jac) (N n0 : Nat) [c : Cont Code] (st : St) [Q : Cont KQ] : Prop := Jdc P G N n0 c.k st Q.k
def Jcw (P : Program) (G : Jac) (N n0 : Nat) (v : AV) (ps : Array Tmp) [asg : Cont Code] [c : Cont Code] (g : Operand) (st : St) [Q : Cont KQ] : Prop := Jah G st.t g = v -> Jgq P G N n0 g ps asg.k c.k st Q.k
def Jaf (P : Program) (G : Jac) (N n0 : Nat) (id : Nat) [ops : Cont (Array Oper)] (st : St) [Q : Cont KQ] : Prop := Jju P G N n0 id ops.k st Q.k
def Jnd (v : AV) [A : Cont Prop] [B : Cont Prop] : Prop := match v with
 | .p (.bool b) => vif b A.k B.k
 | .ubool => A.k /\ B.k
 | _ => False
@[simp] theorem J74 {A B : Cont Prop} : @Jnd .ubool A B = (A.k /\ B.k) := (rfl)
@[simp] theorem J73 {b : Bool} {A B : Cont Prop} : @Jnd (.p (.bool b)) A B = @xif b A B := (rfl)
section
variable {Q : Cont KQ} {a b : Code} {x : Operand} {id : Nat} {ops : List Oper}
@[simp] theorem J7y : @xc P G N n0 ⟨.skip⟩ t s nx Q = Q.k .normal ⟨t, s, nx⟩ := (rfl)
@[simp] theorem J7v : @xc P G N n0 ⟨.region id (List.toArray ops) false⟩ t s nx Q = @xOps P G N ⟨List.toArray ops⟩ ⟨ops⟩ t s nx ⟨fun st => Q.k .normal st⟩ := (rfl)
@[simp] theorem J7r : @xc P G N n0 ⟨.region id (List.toArray ops) true⟩ t s nx Q = @Jaf P G N n0 id ⟨List.toArray ops⟩ ⟨t, s, nx⟩ Q := (rfl)
@[simp] theorem J7x : @xc P G N n0 ⟨.seq a b⟩ t s nx Q = @xc P G N n0 ⟨a⟩ t s nx ⟨fun e st => @Jd8 e st ⟨fun st => @xc P G N n0 ⟨b⟩ st.t st.s st.nx Q⟩ Q⟩ := (rfl)
@[simp] theorem J7q : @xc P G N n0 ⟨.cond x a b⟩ t s nx Q = @Jnd (Jah G t x) ⟨@xc P G N n0 ⟨a⟩ t s nx Q⟩ ⟨@xc P G N n0 ⟨b⟩ t s nx Q⟩ := (rfl)
@[simp] theorem J7p : @xc P G N n0 ⟨.block id b⟩ t s nx Q = @xc P G N n0 ⟨b⟩ t s nx ⟨fun e st => @Jjs id e st Q⟩ := (rfl)
@[simp] theorem J7t : @xc P G N n0 ⟨.loop b⟩ t s nx Q = @Jai P G N n0 ⟨b⟩ ⟨t, s, nx⟩ Q := (rfl)
@[simp] theorem J7u {g : Operand} {ps : Array Tmp} : @xc P G N n0 ⟨.rangeFunc g ps a b⟩ t s nx Q = @Jcw P G N n0 (Jah G t g) ps ⟨a⟩ ⟨b⟩ g ⟨t, s, nx⟩ Q := propext ⟨fun h _ => h, fun h => h rfl⟩
@[simp] theorem J7s : @xc P G N n0 ⟨.exit id⟩ t s nx Q = Q.k (.exit id) ⟨t, s, nx⟩ := (rfl)
@[simp] theorem J7w : @xc P G N n0 ⟨.ret⟩ t s nx Q = Q.k .ret ⟨t, s, nx⟩ := (rfl)
end
theorem Jdm {c : Code} {Q : KQ} (h : @xc P G N n0 ⟨c⟩ t s nx ⟨Q⟩) : AEv P G N n0 c ⟨t, s, nx⟩ Q := Jct c _ Q h
mutual
theorem Jho : ∀ (y : AV), wkn y y
 | .agg cs => by simpa [wkn] using Jhn cs
 | .tup cs => by simpa [wkn] using Jhn cs
 | .fn f cs => by simpa [wkn] using Jhn cs
 | .ref b k i n c => by cases c <;> simp [wkn]
 | .p _ | .nils | .ptr .. | .iptr .. | .nilp | .map _ | .pmap .. | .nilm | .acc .. | .ubool | .any => by simp [wkn]
theorem Jhn : ∀ (ys : List AV), wknL ys ys
 | [] => by simp [wknL]
 | y :: ys => by simp only [wknL]; exact ⟨Jho y, Jhn ys⟩
end
theorem Jc3 : ∀ (ys : List (List AV)), wknR ys ys
 | [] => by simp [wknR]
 | y :: ys => by simp only [wknR]; exact ⟨Jhn y, Jc3 ys⟩
@[simp] theorem J6c {y : AV} : wkn y y = True := eq_true (Jho y)
@[simp] theorem J56 {b k n : Nat} : wkn .nils (.acc b k n) = (n = 0) := by simp [wkn]
@[simp] theorem J57 {k : Nat} {rows : List (List PV)} : wkn .nils (.p (.lst k rows)) = (rows = []) := by simp [wkn]
@[simp] theorem J58 {x y : PV} : wkn (.p x) (.p y) = (x = y) := by simp [wkn]
@[simp] theorem J59 {b k i n b' k' i' n' : Nat} {c : Option Nat} : wkn (.ref b k i n c) (.ref b' k' i' n' none) = (b = b' /\ k = k' /\ i = i' /\ n = n') := by simp [wkn]
@[simp high] theorem J6a {b k i n b' k' n' : Nat} : wkn (.ref b k i n none) (.acc b' k' n') = (b = b' /\ k = k' /\ i = 0 /\ n = n' /\ 0 < n) := by simp [wkn]
@[simp] theorem J6b {b k i n b' k' n' : Nat} {c : Option Nat} : wkn (.ref b k i n c) (.acc b' k' n') = ((b = b' /\ k = k' /\ i = 0 /\ n = n' /\ 0 < n) \/ (n' = 0 /\ n = 0 /\ c = some 0)) := by simp [wkn]
@[simp] theorem J55 {b k n b' k' n' : Nat} : wkn (.acc b k n) (.acc b' k' n') = (b = b' /\ k = k' /\ n = n') := by simp [wkn]
attribute [simp] wknL
@[simp] theorem J52 {y : ABlk} : wknB y y = True := eq_true (.inl rfl)
@[simp] theorem J54 {y : List (List AV)} : wknR y y = True := eq_true (Jc3 y)
@[simp] theorem J53 {y z : List AV} {ys zs : List (List AV)} : wknR (y :: ys) (z :: zs) = (wknL y z /\ wknR ys zs) := by simp [wknR]
@[simp] theorem J50 {k k' : Nat} {r r' : List (List AV)} : wknB (.cells k r) (.cells k' r') = (k = k' /\ wknR r r') := by
 apply propext
 constructor
 . rintro (h | ⟨k0, r0, r1, h1, h2, h3⟩)
   . cases h; exact ⟨rfl, Jc3 _⟩
   . cases h1; cases h2; exact ⟨rfl, h3⟩
 . rintro ⟨rfl, h⟩; exact .inr ⟨_, _, _, rfl, rfl, h⟩
@[simp] theorem J51 {es es' : List (AV × AV)} : wknB (.map es) (.map es') = (es = es') := by
 apply propext
 constructor
 . rintro (h | ⟨k0, r0, r1, h1, h2, h3⟩)
   . cases h; rfl
   . cases h1
 . rintro rfl; exact .inl rfl
@[simp] theorem J3l {α : Type} {x : α} {f : α -> Prop} : Jaj (some x) f = f x := (rfl)
def Jhg (ρ : List Nat) (t' : Jap) : Jap -> Prop
 | [] => True
 | (d, x) :: r => Jaj (renA ρ x) (wkn (slot t' d)) /\ Jhg ρ t' r
def Jcr (ρ : List Nat) (s' : Store) (b : Nat) : Option ABlk -> Prop
 | none => True
 | some x => Jaj ρ[b]? fun b' => Jaj (renB ρ x) fun z => Jaj (get s' b') fun y => wknB y z
def Jgx (ρ : List Nat) (s' : Store) : Store -> Prop
 | [] => True
 | (b, o) :: r => Jcr ρ s' b o /\ Jgx ρ s' r
@[simp] theorem J36 {ρ : List Nat} {s' : Store} {b : Nat} : Jcr ρ s' b none = True := (rfl)
@[simp] theorem J37 {ρ : List Nat} {s' : Store} {b : Nat} {x : ABlk} : Jcr ρ s' b (some x) = Jaj ρ[b]? fun b' => Jaj (renB ρ x) fun z => Jaj (get s' b') fun y => wknB y z := (rfl)
theorem Jds {ρ : List Nat} {s' : Store} {b k : Nat} {rows : List (List AV)} (h1 : (ρ[b]?).bind (get s') = accB k rows) (h2 : renR ρ rows = some rows) : Jcr ρ s' b (accB k rows) = True := by
 apply eq_true
 unfold accB at h1 ⊢
 by_cases e : rows = []
 . rw [if_pos e]; trivial
 . rw [if_neg e] at h1 ⊢
   cases hb : ρ[b]? with
   | none => rw [hb] at h1; cases h1
   | some b' =>
     rw [hb] at h1
     simp only [Option.bind_some] at h1
     simp [Jcr, hb, h1, renB, h2]
@[simp] theorem J3y {k : Nat} : accB k [] = none := by simp [accB]
def SubX (ρ : List Nat) (n0 : Nat) (st' st : St) : Prop := Jhg ρ st'.t st.t /\ Jgx ρ st'.s st.s /\ ρ.Nodup /\ ρ.length <= st.nx /\ ρ.take n0 = List.range n0
theorem Jmo {ρ : List Nat} {t' : Jap} : ∀ {t : Jap}, Jhg ρ t' t -> ∀ p ∈ t, ∃ z, renA ρ p.2 = some z /\ wkn (slot t' p.1) z
 | [], _, p, h => by cases h
 | (d, x) :: r, h, p, hp => by
   rcases List.mem_cons.1 hp with rfl | hp
   . exact Jaz.1 h.1
   . exact Jmo h.2 p hp
theorem Jj8 {ρ : List Nat} {s' : Store} : ∀ {s : Store}, Jgx ρ s' s -> ∀ p ∈ s, ∀ x, p.2 = some x -> ∃ b' z y, ρ[p.1]? = some b' /\ renB ρ x = some z /\ get s' b' = some y /\ wknB y z
 | [], _, p, h => by cases h
 | (d, o) :: r, h, p, hp => by
   rcases List.mem_cons.1 hp with rfl | hp
   . intro x hx
     have h1 := h.1
     simp only at hx
     subst hx
     obtain ⟨b', h2, h3⟩ := Jaz.1 h1
     obtain ⟨z, h4, h5⟩ := Jaz.1 h3
     obtain ⟨y, h6, h7⟩ := Jaz.1 h5
     exact ⟨b', z, y, h2, h4, h6, h7⟩
   . exact Jj8 h.2 p hp
theorem SubX.sub {ρ : List Nat} {n0 : Nat} {st' st : St} (h : SubX ρ n0 st' st) : Sub ρ n0 st' st :=
 ⟨Jmo h.1, Jj8 h.2.1, h.2.2.1, h.2.2.2.1, h.2.2.2.2⟩
def pick (keep : List Nat) (t : Jap) : Jap := keep.map fun d => (d, slot t d)
def Jb7 (keep : List Nat) (s : Store) : Store := keep.map fun b => (b, get s b)
def nameOf : AV -> Nat
 | .acc b _ _ | .ref b .. | .ptr b .. | .map b => b
 | _ => 0
def nms (ds : List Nat) (st : St) : List Nat := ds.map fun d => nameOf (slot st.t d)
theorem Jai.go {γ : Type} {c : Cont Code} {t : Jap} {s : Store} {nx : Nat} {Q : Cont KQ} (keep keepB : List Nat) (e : Nat) (l0 : List Nat) (names : St -> List Nat) (M : Nat -> γ -> Jap) (B : Nat -> γ -> Store) (I : γ -> Prop) (μ : γ -> Nat) (g0 : γ) (hi : I g0)
   (h0 : SubX (List.range nx ++ l0) n0 ⟨t, s, nx⟩ ⟨M nx g0 ++ pick keep t, B nx g0 ++ Jb7 keepB s, nx + e⟩)
   (round : ∀ g, I g -> @xc P G N n0 c (M nx g ++ pick keep t) (B nx g ++ Jb7 keepB s) (nx + e) ⟨fun x st' => @Jd8 x st' ⟨fun st' => ∃ g', I g' /\ μ g' < μ g /\
     SubX (List.range nx ++ names st') n0 st' ⟨M nx g' ++ pick keep t, B nx g' ++ Jb7 keepB s, nx + e⟩⟩ Q⟩) : @Jai P G N n0 c ⟨t, s, nx⟩ Q :=
 Jdc.intro (fun g => ⟨M nx g ++ pick keep t, B nx g ++ Jb7 keepB s, nx + e⟩) I μ g0 _ hi h0.sub fun g hg => (Jct _ _ _ (round g hg)).mono fun x st' h => by
   cases x with
   | normal =>
     obtain ⟨g', h1, h2, h3⟩ := h
     exact ⟨g', _, h1, h2, h3.sub⟩
   | _ => exact h
end
theorem J3p (n : Int) : IntKind.i64.wrap n = if n % 18446744073709551616 ≥ 9223372036854775808 then n % 18446744073709551616 - 18446744073709551616 else n % 18446744073709551616 := by
 simp [IntKind.wrap, IntKind.bits, IntKind.signed]
theorem J3q {n : Int} : IntKind.i64.wrap n = n ↔ -9223372036854775808 <= n /\ n <= 9223372036854775807 := by
 rw [J3p]
 split <;> omega
theorem wrap_i64 {n : Int} (h1 : -9223372036854775808 <= n) (h2 : n <= 9223372036854775807) : IntKind.i64.wrap n = n := J3q.2 ⟨h1, h2⟩
attribute [simp] renT Jje unpC unpL Jfq Jhg Jgx Jds SubX pick Jb7 nms nameOf Jah putA Jc6 slot Jbr cv cvCell Am.get AV.cells AV.cellsOk AV.oneCell lay Jcg Jeh Jeb Jdf Jba Jca srcK resV Jg2 Jas Ja5 renA renL renR renE renB Jdi
end Go.Am
