/- Lemmas and contracts for the proof of a statement of this seat. -/
import Derived.Test.YtmfjjncfdpejiaaGreatDoorZA4
import Derived.Lib.Overlaps
import Derived.Below
import Derived.Test.YtmfjjncfdpejiaaGreatDoorZA2
import Derived.WideKeyRuns
set_option linter.unusedVariables false
set_option linter.unusedSimpArgs false
namespace Go.Am
open Go
abbrev EvR := AV × List Nat × Store × Nat
def Je2 {α : Type} (b : Bool) (x : Option α) : Option α := if b = true then x else none
def Jz0 (P : Program) (y : TyI) (parts : List (Nat × AV)) : Option (List AV) := match y.td with
   | .struct fs => if (fs.all fun p => p.2.1 != 0) = true then Jc9 (Jfr fs) y.zero parts else none
   | .array _ e => (tyOf P e).bind fun ye => Jc9 (Jfk ye.size) y.zero parts
   | _ => none
def evop (P : Program) (calls : Nat -> List AV -> Option AV) (op : Op) (ρ : Operand -> AV) (s : Store) (nx : Nat) : Option EvR :=
 match op with
 | .move x | .assign x => some (ρ x, [], [], nx)
 | .alloc t => (tyOf P t).bind fun y => Je2 (decide (y.zero.length = y.size)) (some (.ptr nx y.size 0 0, [], [(nx, some (.cells y.size [y.zero]))], nx + 1))
 | .store t x v => (tyOf P t).bind fun y => match ρ x with
   | .ptr b k i j => match get s b with
     | some (.cells k' rows) => match rows[i]? with
       | some row => Je2 (decide (k' = k /\ (ρ v).cells.length = y.size /\ 0 < y.size /\ j + y.size <= row.length) && (ρ v).cells.all AV.oneCell) (some (.any, [b], [(b, some (.cells k (rows.set i (lay row j (ρ v).cells))))], nx))
       | none => none
     | _ => none
   | _ => none
 | .build t parts => (tyOf P t).bind fun y => (Jz0 P y (parts.toList.map fun (i, x) => (i, ρ x))).map fun cs => (.agg cs, [], [], nx)
 | .buildSlice t len parts => (tyOf P t).bind fun y => match y.td with
   | .slice e => (tyOf P e).bind fun ye => Je2 (decide (ye.zero.length = ye.size /\ 0 < ye.size /\ len * ye.size <= 16777216))
       ((Jej ye.size (List.replicate len ye.zero) (parts.toList.map fun (i, x) => (i, ρ x))).map fun rows => (.ref nx ye.size 0 len (some len), [], [(nx, some (.cells ye.size rows))], nx + 1))
   | _ => none
 | .makeFunc f first cap => Je2 (first.isEmpty && Jef f) (some (.fn f (cap.toList.map ρ), [], [], nx))
 | .call c => match c.callee with
   | .value f => match ρ f with
     | .fn (.func n) cap => (calls n (c.args.toList.map ρ ++ cap)).map fun r => (r, [], [], nx)
     | _ => none
   | _ => none
 | _ => none
section
variable {P : Program} {G : Jad} {calls : Nat -> List AV -> Option AV}
theorem Jgb {α : Type} {b : Bool} {x : Option α} {y : α} (h : Je2 b x = some y) : b = true /\ x = some y := by
 unfold Je2 at h
 split at h
 . exact ⟨by assumption, h⟩
 . cases h
theorem Jz2 (hc : ∀ f args r, calls f args = some r -> Pure P G f args r) {op : Op} {ρ : Operand -> AV} {s : Store} {nx : Nat} {q : EvR} {K : KT} (h : evop P calls op ρ s nx = some q) (hK : K q.1 q.2.1 q.2.2.1 q.2.2.2) :
   vop P G op ρ s nx K := by
 unfold evop at h
 split at h
 . cases h; exact hK
 . cases h; exact hK
 . rename_i t
   obtain ⟨y, hy, h⟩ := Option.bind_eq_some_iff.1 h
   obtain ⟨h1, h2⟩ := Jgb h
   cases h2
   exact Jbd.2 ⟨y, hy, by simpa using h1, hK⟩
 . rename_i t x v
   obtain ⟨y, hy, h⟩ := Option.bind_eq_some_iff.1 h
   refine Jbd.2 ⟨y, hy, ?_⟩
   split at h
   . rename_i b k i j hx
     rw [hx]
     split at h
     . rename_i k' rows hg
       split at h
       . rename_i row hr
         obtain ⟨h1, h2⟩ := Jgb h
         cases h2
         simp only [Bool.and_eq_true, decide_eq_true_eq] at h1
         obtain ⟨⟨rfl, e1, e2, e3⟩, e4⟩ := h1
         exact Jdf.2 ⟨rows, hg, Jba.2 ⟨row, hr, e1, e2, e3, e4, hK⟩⟩
       . cases h
     . cases h
   . cases h
 . rename_i t parts
   obtain ⟨y, hy, h⟩ := Option.bind_eq_some_iff.1 h
   obtain ⟨cs, h1, rfl⟩ := Option.map_eq_some_iff.1 h
   exact Jbd.2 ⟨y, hy, Jba.2 ⟨cs, h1, hK⟩⟩
 . rename_i t len parts
   obtain ⟨y, hy, h⟩ := Option.bind_eq_some_iff.1 h
   refine Jbd.2 ⟨y, hy, ?_⟩
   split at h
   . rename_i e htd
     obtain ⟨ye, hye, h⟩ := Option.bind_eq_some_iff.1 h
     obtain ⟨h1, h2⟩ := Jgb h
     obtain ⟨rows, h3, rfl⟩ := Option.map_eq_some_iff.1 h2
     simp only [decide_eq_true_eq] at h1
     rw [htd]
     exact Jbd.2 ⟨ye, hye, h1.1, h1.2.1, h1.2.2, Jba.2 ⟨rows, h3, hK⟩⟩
   . cases h
 . rename_i f first cap
   obtain ⟨h1, h2⟩ := Jgb h
   cases h2
   simp only [Bool.and_eq_true, List.isEmpty_iff, Array.isEmpty_iff] at h1
   obtain ⟨hf, h1⟩ := h1
   subst hf
   exact ⟨h1, hK⟩
 . rename_i c
   split at h
   . rename_i f hcal
     split at h
     . rename_i n cap hf
       obtain ⟨r, h1, rfl⟩ := Option.map_eq_some_iff.1 h
       show Jjh P G c ρ s nx K
       unfold Jjh
       rw [hcal]
       simp only [hf]
       exact ⟨r, [], [], nx, (hc n _ r h1).gives, hK⟩
     . cases h
   . cases h
 . cases h
def Jkf (P : Program) (G : Jad) (calls : Nat -> List AV -> Option AV) (N : Nat) : List Oper -> St -> Option St
 | [], st => some st
 | o :: rest, st => match o.guard with
   | none => Je2 (Jdx N o.dst) ((evop P calls o.op (Jai G st.t) st.s st.nx).bind fun q => Jkf P G calls N rest ⟨putA st.t o.dst q.1, q.2.2.1 ++ st.s, q.2.2.2⟩)
   | some _ => none
theorem Jq6 (hc : ∀ f args r, calls f args = some r -> Pure P G f args r) {N : Nat} {ops : Array Oper} : ∀ {l : List Oper} {st st' : St} {K : St -> Prop}, Jkf P G calls N l st = some st' -> K st' -> Jet P G N ops l st K
 | [], st, st', K, h, hK => by cases h; exact hK
 | o :: rest, st, st', K, h, hK => by
   simp only [Jkf] at h
   split at h
   . rename_i hg
     obtain ⟨h1, h2⟩ := Jgb h
     obtain ⟨q, h3, h4⟩ := Option.bind_eq_some_iff.1 h2
     refine ⟨h1, ?_⟩
     rw [hg]
     exact J65 (Jz2 hc h3 (Jq6 hc h4 hK))
   . cases h
def Jg4 (P : Program) (G : Jad) (calls : Nat -> List AV -> Option AV) (N : Nat) : Code -> St -> Option (Exit × St)
 | .skip, st => some (.normal, st)
 | .region _ ops draw, st => Je2 (!draw) ((Jkf P G calls N ops.toList st).map fun st => (.normal, st))
 | .seq a b, st => match Jg4 P G calls N a st with
   | some (.normal, st) => Jg4 P G calls N b st
   | r => r
 | .ret, st => some (.ret, st)
 | _, _ => none
theorem Jkd (hc : ∀ f args r, calls f args = some r -> Pure P G f args r) {N n0 : Nat} : ∀ {c : Code} {st : St} {q : Exit × St} {Q : Exit -> St -> Prop}, Jg4 P G calls N c st = some q -> Q q.1 q.2 -> vc P G N n0 c st Q
 | .skip, st, q, Q, h, hQ => by cases h; exact hQ
 | .region _ ops draw, st, q, Q, h, hQ => by
   simp only [Jg4] at h
   obtain ⟨h1, h2⟩ := Jgb h
   obtain ⟨st', h3, rfl⟩ := Option.map_eq_some_iff.1 h2
   have hd : draw = false := by simpa using h1
   subst hd
   exact Jq6 (K := Q .normal) hc h3 hQ
 | .seq a b, st, q, Q, h, hQ => by
   simp only [Jg4] at h
   split at h
   . rename_i st1 h1
     exact Jkd hc (c := a) (Q := Jed (fun st => vc P G N n0 b st Q) Q) h1 (Jkd hc (c := b) h hQ)
   . rename_i hne
     refine Jkd hc (c := a) (Q := Jed (fun st => vc P G N n0 b st Q) Q) h ?_
     obtain ⟨e, st'⟩ := q
     cases e with
     | normal => exact absurd h (by intro h'; exact hne st' h')
     | _ => exact hQ
 | .ret, st, q, Q, h, hQ => by cases h; exact hQ
def Jkg (P : Program) (st : St) : List ResultVar -> Option (List AV)
 | [] => some []
 | .tmp d :: rs => (Jkg P st rs).map (slot st.t d :: ·)
 | .cell d T :: rs => (Jkg P st rs).bind fun us => (tyOf P T).bind fun y => match slot st.t d with
   | .ptr b k i j => match get st.s b with
     | some (.cells k' rows) => match rows[i]? with
       | some row => Je2 (decide (k' = k /\ y.agg = true /\ j + y.size <= row.length)) (some (.agg ((row.drop j).take y.size) :: us))
       | none => none
     | _ => none
   | _ => none
theorem Jng {st : St} : ∀ {rs : List ResultVar} {vs : List AV}, Jkg P st rs = some vs -> resA P st rs vs
 | [], vs, h => by cases h; rfl
 | .tmp d :: rs, vs, h => by
   obtain ⟨us, h1, rfl⟩ := Option.map_eq_some_iff.1 h
   exact ⟨us, rfl, Jng h1⟩
 | .cell d T :: rs, vs, h => by
   obtain ⟨us, h1, h⟩ := Option.bind_eq_some_iff.1 h
   obtain ⟨y, hy, h⟩ := Option.bind_eq_some_iff.1 h
   split at h
   . rename_i b k i j hx
     split at h
     . rename_i k' rows hg
       split at h
       . rename_i row hr
         obtain ⟨h2, h3⟩ := Jgb h
         cases h3
         simp only [decide_eq_true_eq] at h2
         obtain ⟨rfl, ha, hl⟩ := h2
         refine ⟨_, us, rfl, ⟨y, hy, ?_⟩, Jng h1⟩
         rw [hx]
         refine Jdf.2 ⟨rows, hg, Jba.2 ⟨row, hr, ?_⟩⟩
         rw [if_pos ha]
         exact ⟨hl, rfl⟩
       . cases h
     . cases h
   . cases h
mutual
def evV (nk : Nat) (s : Store) : AV -> Option AV
 | .p x => some (.p x)
 | .nils => some (.p (.lst nk []))
 | .ref b k i n _ => match get s b with
   | some (.cells k' rows) => if k' = k /\ i + n <= rows.length then (unpR ((rows.drop i).take n)).map fun r => .p (.lst k r) else none
   | _ => none
 | .agg cs => (evL nk s cs).map .agg
 | .tup cs => (evL nk s cs).map .tup
 | .fn f cs => (evL nk s cs).map (.fn f)
 | .iptr k rows i j => some (.iptr k rows i j)
 | _ => none
def evL (nk : Nat) (s : Store) : List AV -> Option (List AV)
 | [] => some []
 | x :: xs => (evV nk s x).bind fun y => (evL nk s xs).map (y :: ·)
end
mutual
theorem Jq7 {nk : Nat} {s : Store} : ∀ {a x : AV}, evV nk s a = some x -> FrzA s (fun _ => True) a x
 | .p _, x, h => by simp [evV] at h; subst h; exact .same _ rfl
 | .nils, x, h => by simp [evV] at h; subst h; exact .one _ _ (.nils nk)
 | .iptr .., x, h => by simp [evV] at h; subst h; exact .same _ rfl
 | .ref b k i n c, x, h => by
   simp only [evV] at h
   split at h
   . rename_i k' rows hg
     split at h
     . rename_i hk
       obtain ⟨rfl, hlen⟩ := hk
       obtain ⟨r, hr, rfl⟩ := Option.map_eq_some_iff.1 h
       have e := Jjf hr
       have hl : r.length = n := by
         have := congrArg List.length e
         simp at this; omega
       exact .one _ _ (.rows trivial hg e hl)
     . cases h
   . cases h
 | .agg cs, x, h => by
   obtain ⟨q, hq, rfl⟩ := Option.map_eq_some_iff.1 (by simpa [evV] using h)
   have := Jke hq
   exact .agg _ _ this.1 this.2
 | .tup cs, x, h => by
   obtain ⟨q, hq, rfl⟩ := Option.map_eq_some_iff.1 (by simpa [evV] using h)
   have := Jke hq
   exact .tup _ _ this.1 this.2
 | .fn f cs, x, h => by
   obtain ⟨q, hq, rfl⟩ := Option.map_eq_some_iff.1 (by simpa [evV] using h)
   have := Jke hq
   exact .fn f _ _ this.1 this.2
 | .nilp, x, h => by simp [evV] at h
 | .ptr .., x, h => by simp [evV] at h
 | .map _, x, h => by simp [evV] at h
 | .nilm, x, h => by simp [evV] at h
 | .pmap .., x, h => by simp [evV] at h
 | .acc .., x, h => by simp [evV] at h
 | .ubool, x, h => by simp [evV] at h
 | .any, x, h => by simp [evV] at h
theorem Jke {nk : Nat} {s : Store} : ∀ {a x : List AV}, evL nk s a = some x -> x.length = a.length /\ ∀ (i : Nat) c d, a[i]? = some c -> x[i]? = some d -> FrzA s (fun _ => True) c d
 | [], x, h => by simp [evL] at h; subst h; exact ⟨rfl, fun i c d h => by simp at h⟩
 | a :: as, x, h => by
   simp only [evL, Option.bind_eq_some_iff, Option.map_eq_some_iff] at h
   obtain ⟨y, hy, ys, hys, rfl⟩ := h
   obtain ⟨h1, h2⟩ := Jke hys
   refine ⟨by simp [h1], fun i c d hc hd => ?_⟩
   cases i with
   | zero => simp at hc hd; subst hc; subst hd; exact Jq7 hy
   | succ i => exact h2 i c d (by simpa using hc) (by simpa using hd)
end
def Jz1 (nk : Nat) (P : Program) (G : Jad) (calls : Nat -> List AV -> Option AV) (fn : Func) (c : Code) (args : List AV) : Option AV :=
 (Jg4 P G calls fn.ntmps c ⟨Jcc 0 args, [], 0⟩).bind fun q => (Jkg P q.2 fn.results.toList).bind fun vs => (evV nk q.2.s (resV vs)).bind fun r => match q.1 with
   | .ret | .normal => some r
   | _ => none
theorem Pure.of_ev (nk : Nat) (hc : ∀ f args r, calls f args = some r -> Pure P G f args r) {f : Nat} {fn : Func} {c : Code} {args : List AV} {r : AV} (hf : P.funcs[f]? = some fn) (hb : fn.body = some c) (hname : (fn.name == "runtime.NumGoroutine") = false)
   (hargs : args.length <= fn.ntmps) (hp : Jbl args = true) (h : Jz1 nk P G calls fn c args = some r) : Pure P G f args r := by
 obtain ⟨q, h1, h⟩ := Option.bind_eq_some_iff.1 h
 obtain ⟨vs, h2, h⟩ := Option.bind_eq_some_iff.1 h
 obtain ⟨r', h3, h⟩ := Option.bind_eq_some_iff.1 h
 have he : (q.1 = .ret \/ q.1 = .normal) /\ r' = r := by
   obtain ⟨e, st⟩ := q
   cases e <;> simp at h ⊢ <;> exact h
 obtain ⟨he, rfl⟩ := he
 exact Pure.of_body hf hb hname rfl hargs hp (Jdt c _ _ (Jkd hc h1 ⟨he, vs, Jng h2, Jq7 h3⟩))
end
end Go.Am
namespace Go.Am
open Go
section
variable {P : Program} {G : Jad}
end
end Go.Am
namespace Go.Am
open Go
end Go.Am
namespace Go.Am
open Go Go.RowKit
theorem Jvf {F : Nat -> Prop} {φ : Places} {s : Store} {w w' : World} {b g : Nat} {x : ABlk} (hb : Below w.heap.size w w') (hg : w.heap.size <= g) :
   Step (ownF F φ s) (ownF F (putP φ b (g, 0)) ((b, some x) :: s)) w w' where
 keep := fun β hβ ho => ⟨hb.block β hβ, by
   rintro (hF | ⟨c, y, p, h1, h2, rfl⟩)
   . exact ho (.inl hF)
   . by_cases e : c = b
     . subst e
       rw [Jbu] at h2
       cases h2
       simp only at hβ
       omega
     . rw [Jb0 e] at h2
       rw [Jbf (Ne.symm e)] at h1
       exact ho (.inr ⟨c, y, p, h1, h2, rfl⟩)⟩
 size := hb.size
 shape := fun β arr T h => ⟨arr, by rw [hb.block β (Array.getElem?_eq_some_iff.1 h).1]; exact h, rfl⟩
 os := hb.os
 tape := hb.tape
 output := hb.output
theorem SR.fresh {G F} {φ : Places} {s : Store} {w w' : World} (h : SR G F φ s w) {b g : Nat} (hb : φ b = none) (hbl : Below w.heap.size w w') (hg : w.heap.size <= g) (x : ABlk)
   (hx : BR (putP φ b (g, 0)) (ownF F (putP φ b (g, 0)) ((b, some x) :: s)) w' b x) :
   SR G F (putP φ b (g, 0)) ((b, some x) :: s) w' := by
 refine h.change (Jds hb) (Jvf hbl hg) ?_ ?_ ?_
 . intro c y hc
   by_cases e : c = b
   . subst e
     rw [Jfs] at hc
     cases hc
     exact .inr hx
   . rw [Jbf (Ne.symm e)] at hc
     refine .inl ⟨hc, fun p hp => ?_⟩
     obtain ⟨q, h1, h2⟩ := (h.blk c y hc).place
     rw [hp] at h1; cases h1
     exact hbl.block _ h2
 . intro c c' y y' p p' h1 h2 h3 h4 h5
   by_cases e : c = b
   . by_cases e' : c' = b
     . rw [e, e']
     . subst e
       rw [Jbu] at h3; cases h3
       rw [Jb0 e'] at h4
       rw [Jbf (Ne.symm e')] at h2
       obtain ⟨q, k1, k2⟩ := (h.blk c' y' h2).place
       rw [h4] at k1; cases k1
       simp only at h5
       omega
   . by_cases e' : c' = b
     . subst e'
       rw [Jbu] at h4; cases h4
       rw [Jb0 e] at h3
       rw [Jbf (Ne.symm e)] at h1
       obtain ⟨q, k1, k2⟩ := (h.blk c y h1).place
       rw [h3] at k1; cases k1
       simp only at h5
       omega
     . rw [Jb0 e] at h3
       rw [Jb0 e'] at h4
       rw [Jbf (Ne.symm e)] at h1
       rw [Jbf (Ne.symm e')] at h2
       exact h.inj c c' y y' p p' h1 h2 h3 h4 h5
 . intro c y p h1 h2 hF
   by_cases e : c = b
   . subst e
     rw [Jbu] at h2; cases h2
     have := h.fsize _ hF
     simp only at this
     omega
   . rw [Jb0 e] at h2
     rw [Jbf (Ne.symm e)] at h1
     exact h.disj c y p h1 h2 hF
theorem J4q {G : Jad} {F : Nat -> Prop} {φ : Places} {s : Store} {w w' : World} {nx k n g cap : Nat} {rows : List (List AV)} {arr : Array Value} {T : TypeId} (h : SR G F φ s w) (hb : φ nx = none) (hbl : Below w.heap.size w w') (hg : w.heap.size <= g)
   (hh : w'.heap[g]? = some (.cells arr T (0, 0))) (hc : ∀ φ' own', Jax φ' own' w' k rows arr 0) (hn : n <= cap) (hsz : cap * k <= arr.size) :
   Post G F φ s w (.ref nx k 0 n none) [(nx, some (.cells k rows))] nx (nx + 1) (.slice (some ⟨g, 0, none⟩) n cap) w' := by
 refine ⟨putP φ nx (g, 0), Jds hb, fun b hb' => Jb0 (by omega), ?_, ?_, fun F' => Jvf hbl hg⟩
 . exact h.fresh hb hbl hg _ ⟨g, 0, arr, T, Jbu, hh, hc _ _⟩
 . have := VR.ref (φ := putP φ nx (g, 0)) (own := ownF F (putP φ nx (g, 0)) ([(nx, some (.cells k rows))] ++ s)) (w := w') nx k 0 n none g 0 cap Jbu (fun c' e => by cases e) hn ⟨arr, T, hh, by simpa using hsz⟩
   simpa using this
end Go.Am
namespace Go.Am
open Go
section
variable {P : Program}
theorem Jnj {k : Nat} {φ : Places} {own : Nat -> Prop} {w : World} {x : AV} {v : Value} {Kp : AV -> Prop} (hx : Kp x) (hv : VR φ own w x v)
   (heq : ∀ x y, Kp x -> Kp y -> ∃ c, eqA P 8 k x y = some c /\ (c = true ↔ y = x)) : ∀ (es : List (AV × AV)) (ms : List MapEntry) (i : Nat), (∀ e ∈ es, Kp e.1) -> Jdg φ own w es ms ->
   ((Instr.findAsking k v ms i).run P w = .ok none w /\ ∀ e ∈ es, e.1 ≠ x) \/
   ∃ j e m, (Instr.findAsking k v ms i).run P w = .ok (some (i + j, m.val)) w /\ es[j]? = some e /\ ms[j]? = some m /\ e.1 = x /\ ∀ (i' : Nat) e', i' < j -> es[i']? = some e' -> e'.1 ≠ x
 | [], [], i, _, _ => .inl ⟨rfl, by simp⟩
 | [], m :: ms, i, _, h => by have := h.1; simp at this
 | e :: es, [], i, _, h => by have := h.1; simp at this
 | e :: es, m :: ms, i, hk, h => by
   obtain ⟨c, h1, h2⟩ := heq x e.1 hx (hk e (by simp))
   have h3 := (h.2 0 e m rfl rfl).1
   have h4 := Jkc 8 10000 k x e.1 c v m.key h1 (by omega) hv h3
   have h5 : (Op.equal k v m.key).run P w = .ok c w := h4
   cases c with
   | true =>
     refine .inr ⟨0, e, m, ?_, rfl, rfl, h2.1 rfl, fun i' e' hi => by omega⟩
     simp [Instr.findAsking, h5]
   | false =>
     have hne : e.1 ≠ x := fun q => by have := h2.2 q; cases this
     have hes : Jdg φ own w es ms := ⟨by have := h.1; simpa using this, fun j e' m' he hm => h.2 (j + 1) e' m' (by simpa using he) (by simpa using hm)⟩
     rcases Jnj hx hv heq es ms (i + 1) (fun y hy => hk y (by simp [hy])) hes with ⟨k1, k2⟩ | ⟨j, e', m', k1, k2, k3, k4, k5⟩
     . refine .inl ⟨by simp [Instr.findAsking, h5, k1], fun y hy => ?_⟩
       rcases List.mem_cons.1 hy with rfl | hy
       . exact hne
       . exact k2 y hy
     . refine .inr ⟨j + 1, e', m', by simp [Instr.findAsking, h5, k1]; omega, by simpa using k2, by simpa using k3, k4, fun i' e2 hi he2 => ?_⟩
       cases i' with
       | zero => simp at he2; subst he2; exact hne
       | succ i' => exact k5 i' e2 (by omega) (by simpa using he2)
def IsIS (x : AV) : Prop := ∃ (n : Int) (s : List UInt8), x = .agg [.p (.int .i64 n), .p (.str s)]
theorem IsIS.val {φ : Places} {own : Nat -> Prop} {w : World} {n : Int} {s : List UInt8} {v : Value} (h : VR φ own w (.agg [.p (.int .i64 n), .p (.str s)]) v) : v = .agg ⟨[.int .i64 n, .string ⟨⟨s⟩⟩]⟩ := by
 obtain ⟨us, rfl, h1, h2⟩ := h.agg_inv
 match us, h1 with
 | [a, b], _ =>
   have e1 := (h2 0 _ a rfl rfl).int_inv
   have e2 := (h2 1 _ b rfl rfl).str_inv
   rw [e1, e2]
theorem J72 {k : Nat} (hwide : (match P.underlying k with | some (.array _ _) | some (.struct _) => true | _ => false) = true)
   (hcheck : ∀ (w : World) (em : Bool) (n : Int) (s : ByteArray), (Instr.checkKey em 10000 k (.agg ⟨[.int .i64 n, .string s]⟩)).run P w = .ok () w)
   (heq : ∀ (n m : Int) (s t : List UInt8), eqA P 8 k (.agg [.p (.int .i64 n), .p (.str s)]) (.agg [.p (.int .i64 m), .p (.str t)]) = some (decide (n = m /\ s = t))) : KeyOk P k IsIS where
 check := fun φ own w em x v hx hv => by
   obtain ⟨n, s, rfl⟩ := hx
   rw [IsIS.val hv]
   exact hcheck w em n _
 find := fun φ own w x v es ms hx hv hes h => by
   have e : (Instr.findKey k v ms).run P w = (Instr.findAsking k v ms).run P w := run_findKey_eq w hwide v ms
   rw [e]
   have := Jnj (P := P) (k := k) (Kp := IsIS) hx hv (fun x y hx hy => by
     obtain ⟨n, s, rfl⟩ := hx
     obtain ⟨m, t, rfl⟩ := hy
     exact ⟨_, heq n m s t, by simp; grind⟩) es ms 0 hes h
   simpa using this
 stays := fun φ own w x v v' hx hv hv' => by
   obtain ⟨n, s, rfl⟩ := hx
   rw [IsIS.val hv, IsIS.val hv']
   have e : Instr.sameBits 10000 (.agg ⟨[.int .i64 n, .string ⟨⟨s⟩⟩]⟩) (.agg ⟨[.int .i64 n, .string ⟨⟨s⟩⟩]⟩) = true := by
     simp [Instr.sameBits, Go.MapKept.bytes_beq]
   rw [Instr.keyThatStays, if_pos e]
   rfl
def IsS (x : AV) : Prop := ∃ t : List UInt8, x = .p (.str t)
theorem Jrb {d : TypeDesc} {φ : Places} {own : Nat -> Prop} {w : World} {x : AV} {v : Value} {Kp : AV -> Prop} (hx : Kp x) (hv : VR φ own w x v)
   (heq : ∀ (x y : AV) (v u : Value), Kp x -> Kp y -> VR φ own w x v -> VR φ own w y u -> ∃ c, Instr.sameNow d v u = some c /\ (c = true ↔ y = x)) : ∀ (es : List (AV × AV)) (ms : List MapEntry) (i : Nat), (∀ e ∈ es, Kp e.1) -> Jdg φ own w es ms ->
   (Instr.findNow d v ms i = some none /\ ∀ e ∈ es, e.1 ≠ x) \/
   ∃ j e m, Instr.findNow d v ms i = some (some (i + j, m.val)) /\ es[j]? = some e /\ ms[j]? = some m /\ e.1 = x /\ ∀ (i' : Nat) e', i' < j -> es[i']? = some e' -> e'.1 ≠ x
 | [], [], i, _, _ => .inl ⟨rfl, by simp⟩
 | [], m :: ms, i, _, h => by have := h.1; simp at this
 | e :: es, [], i, _, h => by have := h.1; simp at this
 | e :: es, m :: ms, i, hk, h => by
   have h3 := (h.2 0 e m rfl rfl).1
   obtain ⟨c, h1, h2⟩ := heq x e.1 v m.key hx (hk e (by simp)) hv h3
   cases c with
   | true =>
     refine .inr ⟨0, e, m, by simp [Instr.findNow, h1], rfl, rfl, h2.1 rfl, fun i' e' hi => by omega⟩
   | false =>
     have hne : e.1 ≠ x := fun q => by have := h2.2 q; cases this
     have hes : Jdg φ own w es ms := ⟨by have := h.1; simpa using this, fun j e' m' he hm => h.2 (j + 1) e' m' (by simpa using he) (by simpa using hm)⟩
     rcases Jrb hx hv heq es ms (i + 1) (fun y hy => hk y (by simp [hy])) hes with ⟨k1, k2⟩ | ⟨j, e', m', k1, k2, k3, k4, k5⟩
     . refine .inl ⟨by simp [Instr.findNow, h1, k1], fun y hy => ?_⟩
       rcases List.mem_cons.1 hy with rfl | hy
       . exact hne
       . exact k2 y hy
     . refine .inr ⟨j + 1, e', m', by simp [Instr.findNow, h1, k1]; omega, by simpa using k2, by simpa using k3, k4, fun i' e2 hi he2 => ?_⟩
       cases i' with
       | zero => simp at he2; subst he2; exact hne
       | succ i' => exact k5 i' e2 (by omega) (by simpa using he2)
theorem keyS {k : Nat} (hu : P.underlying k = some .string) (hcheck : ∀ (w : World) (em : Bool) (n : ByteArray), (Instr.checkKey em 10000 k (.string n)).run P w = .ok () w) : KeyOk P k IsS where
 check := fun φ own w em x v hx hv => by
   obtain ⟨n, rfl⟩ := hx
   rw [hv.str_inv]
   exact hcheck w em _
 find := fun φ own w x v es ms hx hv hes h => by
   rcases Jrb (d := .string) hx hv (fun x y v u hx hy hv hu => by
     obtain ⟨n, rfl⟩ := hx
     obtain ⟨m, rfl⟩ := hy
     rw [hv.str_inv, hu.str_inv]
     refine ⟨((⟨⟨n⟩⟩ : ByteArray) == ⟨⟨m⟩⟩), rfl, ?_⟩
     rw [Go.MapKept.bytes_beq]
     simp only [ByteArray.mk.injEq, Array.mk.injEq, AV.p.injEq, PV.str.injEq]
     exact eq_comm) es ms 0 hes h with ⟨h1, h2⟩ | ⟨j, e, m, h1, h2⟩
   . exact .inl ⟨by simp [Instr.findKey, run_underlying hu, h1], h2⟩
   . exact .inr ⟨j, e, m, by simp [Instr.findKey, run_underlying hu, h1], h2⟩
 stays := fun φ own w x v v' hx hv hv' => by
   obtain ⟨n, rfl⟩ := hx
   rw [hv.str_inv, hv'.str_inv]
   have e : Instr.sameBits 10000 (.string ⟨⟨n⟩⟩) (.string ⟨⟨n⟩⟩) = true := by simp [Instr.sameBits, Go.MapKept.bytes_beq]
   rw [Instr.keyThatStays, if_pos e]
   rfl
end
end Go.Am
namespace Go.Am
open Go
section
variable {P : Program} {G : Jad} {f : Nat} {args : List AV}
end
end Go.Am
namespace Go.Am
open Go
end Go.Am
namespace Go.Am
open Go
section
variable {P : Program} {G : Jad} {N n0 : Nat} {ops : Array Oper} {st0 st1 : St} {recs : List Rec} {i0 j0 : Nat}
structure Snap where
 t : Jap
 s : Store
 nx : Nat
 v : AV
 rd : List Nat
 up : Store
 hi : Nat
@[simp] def Snap.fp (z : Snap) : List Nat × List Nat := (z.rd, keys z.up)
section
variable {K : Cont (St -> List Snap -> Prop)} {d : Option Nat} {op : Op} {ty : Nat} {pos : String} {after : Array Edge} {rest : List Oper} {t : Jap} {s : Store} {nx : Nat} {acc : List Snap}
end
end
end Go.Am
namespace Go.Am
open Go
structure Leads (G : Jad) (N n0 : Nat) (st' st : St) : Prop where
 run : ∀ [Base] (F : Nat -> Prop) (φ : Places) (a : Act) (w : World), Rel G N n0 F st' φ a w ->
 ∃ φ', Rel G N n0 F st φ' a w /\ (∀ b, b < n0 -> φ' b = φ b) /\ ∀ F' : Nat -> Prop, Step (ownF F' φ st'.s) (ownF F' φ' st.s) w w
theorem Leads.of_sub {G N n0} {st' st : St} {ρ : List Nat} (h : Sub ρ n0 st' st) : Leads G N n0 st' st := ⟨fun _ _ _ _ hr => ⟨_, hr.sub h⟩⟩
def FrzB (s : Store) (B : List Nat) (y x : ABlk) : Prop := y = x \/ ∃ k rows rows', y = .cells k rows /\ x = .cells k rows' /\
 ∀ (i j : Nat) row' x', rows'[i]? = some row' -> row'[j]? = some x' -> ∃ row z, rows[i]? = some row /\ row[j]? = some z /\ FrzK s (· ∈ B) z x'
structure Freeze (B : List Nat) (st' st : St) : Prop where
 nx : st.nx = st'.nx
 slots : ∀ d, FrzK st'.s (· ∈ B) (slot st'.t d) (slot st.t d)
 blocks : ∀ b x, get st.s b = some x -> b ∉ B /\ ∃ y, get st'.s b = some y /\ FrzB st'.s B y x
theorem Freeze.leads {G N n0} {B : List Nat} {st' st : St} (h : Freeze B st' st) : Leads G N n0 st' st := .mk fun F φ a w hr => by
 have hsub : ∀ (F' : Nat -> Prop) β, ownF F' φ st.s β -> ownF F' φ st'.s β := by
   rintro F' β (hF | ⟨b, x, p, h1, h2, rfl⟩)
   . exact .inl hF
   . obtain ⟨_, y, e, _⟩ := h.blocks b x h1
     exact .inr ⟨b, y, p, e, h2, rfl⟩
 have hstF : ∀ F' : Nat -> Prop, Step (ownF F' φ st'.s) (ownF F' φ st.s) w w := fun F' => ⟨fun β _ hn => ⟨rfl, fun h' => hn (hsub F' β h')⟩, Nat.le_refl _, fun _ arr _ h => ⟨arr, h, rfl⟩, rfl, rfl, rfl⟩
 have hh : Hides F φ st'.s (· ∈ B) (ownF F φ st.s) := by
   refine ⟨hsub F, fun b x p hB h1 h2 h3 => ?_⟩
   rcases h3 with h3 | ⟨c, y, q, k1, k2, k3⟩
   . exact hr.sr.disj b x p h1 h2 h3
   . obtain ⟨hc, z, k4, _⟩ := h.blocks c y k1
     have := hr.sr.inj c b z x q p k4 h1 k2 h2 k3
     subst this
     exact hc hB
 refine ⟨φ, ⟨⟨?_, ?_, ?_, hr.sr.fsize, ?_⟩, ?_, ?_, ⟨hr.tr.size, ?_⟩, hr.side.mono (hstF _) rfl⟩, fun _ _ => rfl, hstF⟩
 . intro b x hx
   obtain ⟨_, y, e, hf⟩ := h.blocks b x hx
   have hb := hr.sr.blk b y e
   rcases hf with rfl | ⟨k, rows, rows', rfl, rfl, hc⟩
   . exact hb.mono (fun _ _ h => h) (hstF F) (fun _ _ => rfl)
   . obtain ⟨β, δ, arr, T, e1, e2, e3⟩ := hb
     refine ⟨β, δ, arr, T, e1, e2, fun i j row x hrow hx => ?_⟩
     obtain ⟨row0, z, g1, g2, g3⟩ := hc i j row x hrow hx
     obtain ⟨hj, v, hv, hz⟩ := e3 i j row0 z g1 g2
     exact ⟨hj, v, hv, VR.frzK hr.sr hh hz g3⟩
 . intro b c x z p p' h1 h2 h3 h4 h5
   obtain ⟨_, y, e, _⟩ := h.blocks b x h1
   obtain ⟨_, y', e', _⟩ := h.blocks c z h2
   exact hr.sr.inj b c y y' p p' e e' h3 h4 h5
 . intro b x p h1 h2
   obtain ⟨_, y, e, _⟩ := h.blocks b x h1
   exact hr.sr.disj b y p e h2
 . intro g k rows hg
   obtain ⟨h1, h2, h3⟩ := hr.sr.glob g k rows hg
   exact ⟨h1, fun h' => h2 (hsub F g h'), h3.mono (hstF F) h1 h2⟩
 . intro b hb
   exact hr.fresh b (by rw [<- h.nx]; exact hb)
 . rw [h.nx]; exact hr.base
 . intro d
   exact VR.frzK hr.sr hh (hr.tr.slots d) (h.slots d)
section
variable {P : Program} {G : Jad} {N n0 : Nat}
theorem AEv.leads {c : Code} {st st' : St} {Q : Exit -> St -> Prop} (hs : Leads G N n0 st' st) (h : AEv P G N n0 c st Q) : AEv P G N n0 c st' Q :=
 .mk fun F φ a w hr => by
   obtain ⟨φ', h1, h2, h3⟩ := hs.run F φ a w hr
   exact wpIn_mono (h.run F φ' a w h1) fun e a' w' ha => After.trans h2 h3 ha
theorem Jex.introL {γ : Type} {c : Code} {st : St} {Q : Exit -> St -> Prop} (S : γ -> St) (I : γ -> Prop) (μ : γ -> Nat) (g0 : γ) (hi : I g0) (h0 : Leads G N n0 st (S g0))
   (round : ∀ g, I g -> AEv P G N n0 c (S g) (Jed (fun st' => ∃ g', I g' /\ μ g' < μ g /\ Leads G N n0 st' (S g')) Q)) : Jex P G N n0 c st Q := by
 refine ⟨fun F φ a w hr => ?_⟩
 let J (g : γ) (a' : Act) (w' : World) : Prop := I g /\ ∃ φ', Rel G N n0 F (S g) φ' a' w' /\ (∀ b, b < n0 -> φ' b = φ b) /\ ∀ F' : Nat -> Prop, Step (ownF F' φ st.s) (ownF F' φ' (S g).s) w w'
 let M (a' : Act) (w' : World) (n : Nat) : Prop := ∃ g, μ g = n /\ J g a' w'
 let m (a' : Act) (w' : World) : Nat := open Classical in if h : ∃ n, M a' w' n then Classical.choose (exists_least _ h) else 0
 have hm : ∀ a' w' g, J g a' w' -> m a' w' <= μ g := fun a' w' g hg => by
   have hex : ∃ n, M a' w' n := ⟨_, g, rfl, hg⟩
   simp only [m, dif_pos hex]
   exact (Classical.choose_spec (exists_least _ hex)).2 _ ⟨g, rfl, hg⟩
 refine wpIn_loop (fun a' w' => ∃ g, J g a' w') m ?_ ?_
 . obtain ⟨φ0, h1, h2, h3⟩ := h0.run F φ a w hr
   exact ⟨g0, hi, _, h1, h2, h3⟩
 . intro a1 w1 hex
   have hexn : ∃ n, M a1 w1 n := let ⟨g, hg⟩ := hex; ⟨_, g, rfl, hg⟩
   have hmin : m a1 w1 = Classical.choose (exists_least _ hexn) := by simp only [m, dif_pos hexn]
   obtain ⟨g, hgm, hJ⟩ := (Classical.choose_spec (exists_least _ hexn)).1
   obtain ⟨hI, φ1, hr1, hb1, hs1⟩ := id hJ
   refine wpIn_mono ((round g hI).run F φ1 a1 w1 hr1) fun e a2 w2 ha => ?_
   have ha := After.trans (st := st) hb1 hs1 ha
   cases e with
   | normal =>
     obtain ⟨st', φ', ⟨g', hI', hlt, hsub⟩, hr', hb', hs'⟩ := ha
     obtain ⟨φ'', k1, k2, k3⟩ := hsub.run F φ' a2 w2 hr'
     have hJ' : J g' a2 w2 := ⟨hI', _, k1, fun b hb => (k2 b hb).trans (hb' b hb), fun F' => (hs' F').trans (k3 F')⟩
     refine ⟨⟨g', hJ'⟩, ?_⟩
     rw [hmin, <- hgm]
     exact Nat.lt_of_le_of_lt (hm a2 w2 g' hJ') hlt
   | _ => exact ha
theorem Jah.goL {γ : Type} {c : Cont Code} {st : St} {Q : Cont KQ} (S : γ -> St) (I : γ -> Prop) (μ : γ -> Nat) (g0 : γ) (hi : I g0) (h0 : Leads G N n0 st (S g0))
   (round : ∀ g, I g -> @xc P G N n0 c (S g).t (S g).s (S g).nx ⟨fun x st' => @Jf3 x st' ⟨fun st' => ∃ g', I g' /\ μ g' < μ g /\ Leads G N n0 st' (S g')⟩ Q⟩) : @Jah P G N n0 c st Q :=
 Jex.introL S I μ g0 hi h0 fun g hg => (Jdt _ _ _ (round g hg)).mono fun x st' h => by
   cases x with
   | normal => exact h
   | _ => exact h
theorem J5n (us t : Jap) (d : Nat) : (∃ p ∈ us, p.1 = d /\ slot (us ++ t) d = p.2) \/ ((∀ p ∈ us, p.1 ≠ d) /\ slot (us ++ t) d = slot t d) := by
 induction us with
 | nil => exact .inr ⟨by simp, rfl⟩
 | cons p us ih =>
   obtain ⟨e, x⟩ := p
   by_cases h : e = d
   . exact .inl ⟨(e, x), by simp, h, by simp [slot, h]⟩
   . rcases ih with ⟨p, hp, h1, h2⟩ | ⟨h1, h2⟩
     . exact .inl ⟨p, by simp [hp], h1, by simp [slot, h, h2]⟩
     . refine .inr ⟨fun p hp => ?_, by simp [slot, h, h2]⟩
       rcases List.mem_cons.1 hp with rfl | hp
       . exact h
       . exact h1 p hp
theorem Freeze.of {B : List Nat} {st' : St} (us : Jap) (ups : Store) (hu : ∀ p ∈ us, FrzK st'.s (· ∈ B) (slot st'.t p.1) p.2)
   (hb : ∀ p ∈ ups, ∀ x, p.2 = some x -> p.1 ∉ B /\ ∃ y, get st'.s p.1 = some y /\ FrzB st'.s B y x) (hB : ∀ b ∈ B, b ∈ keys ups) : Freeze B st' ⟨us ++ st'.t, ups ++ st'.s, st'.nx⟩ where
 nx := rfl
 slots d := by
   show FrzK _ _ _ (slot (us ++ st'.t) d)
   rcases J5n us st'.t d with ⟨p, hp, rfl, h2⟩ | ⟨_, h2⟩
   . rw [h2]; exact hu p hp
   . rw [h2]; exact .keep _
 blocks b x hx := by
   have hx2 : get (ups ++ st'.s) b = some x := hx
   rw [get_append] at hx2
   split at hx2
   . have := get_mem hx2
     exact hb (b, some x) this x rfl
   . rename_i hk
     exact ⟨fun h => hk (hB b h), x, hx2, .inl rfl⟩
theorem Leads.subx {st' st : St} {ρ : List Nat} (hs : SubX ρ n0 st' st) : Leads G N n0 st' st := .of_sub hs.sub
end
end Go.Am
namespace Go.Am
open Go
def KidA (ok : Nat -> Prop) (y x : AV) : Prop := wkn y x /\ match x with
 | .ptr b _ _ _ => ok b
 | .ref b _ _ _ _ => ok b
 | .acc b _ _ => ok b
 | x => Jao x = true
def KidT (ok : Nat -> Prop) (t' : Jap) : Jap -> Prop
 | [] => True
 | p :: t => KidA ok (slot t' p.1) p.2 /\ KidT ok t' t
def KidB (ok : Nat -> Prop) (s' : Store) (b : Nat) : Option ABlk -> Prop
 | none => True
 | some (.cells k rows) => ok b /\ get s' b = some (.cells k rows) /\ rows.all Jbl = true
 | some _ => False
def KidS (ok : Nat -> Prop) (s' : Store) : Store -> Prop
 | [] => True
 | p :: K => KidB ok s' p.1 p.2 /\ KidS ok s' K
attribute [simp] KidA KidT KidB KidS
end Go.Am
