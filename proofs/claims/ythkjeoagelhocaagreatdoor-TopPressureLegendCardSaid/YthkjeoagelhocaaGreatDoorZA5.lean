/- Lemmas and contracts for the proof of a statement of this seat. -/
import Derived.Test.YthkjeoagelhocaaGreatDoorZA4
import Derived.Lib.Overlaps
import Derived.Below
import Derived.Test.YthkjeoagelhocaaGreatDoorZA2
import Derived.WideKeyRuns
set_option linter.unusedVariables false
set_option linter.unusedSimpArgs false
namespace Go.Am
open Go
abbrev EvR := AV × List Nat × Store × Nat
def Jgg {α : Type} (b : Bool) (x : Option α) : Option α := if b = true then x else none
def J71 (P : Program) (y : TyI) (parts : List (Nat × AV)) : Option (List AV) := match y.td with
   | .struct fs => if (fs.all fun p => p.2.1 != 0) = true then Jdx (Jgv fs) y.zero parts else none
   | .array _ e => (tyOf P e).bind fun ye => Jdx (Jhi ye.size) y.zero parts
   | _ => none
def evop (P : Program) (calls : Nat -> List AV -> Option AV) (op : Op) (ρ : Operand -> AV) (s : Store) (nx : Nat) : Option EvR :=
 match op with
 | .move x | .assign x => some (ρ x, [], [], nx)
 | .alloc t => (tyOf P t).bind fun y => Jgg (decide (y.zero.length = y.size)) (some (.ptr nx y.size 0 0, [], [(nx, some (.cells y.size [y.zero]))], nx + 1))
 | .store t x v => (tyOf P t).bind fun y => match ρ x with
   | .ptr b k i j => match get s b with
     | some (.cells k' rows) => match rows[i]? with
       | some row => Jgg (decide (k' = k /\ (ρ v).cells.length = y.size /\ 0 < y.size /\ j + y.size <= row.length) && (ρ v).cells.all AV.oneCell) (some (.any, [b], [(b, some (.cells k (rows.set i (lay row j (ρ v).cells))))], nx))
       | none => none
     | _ => none
   | _ => none
 | .build t parts => (tyOf P t).bind fun y => (J71 P y (parts.toList.map fun (i, x) => (i, ρ x))).map fun cs => (.agg cs, [], [], nx)
 | .buildSlice t len parts => (tyOf P t).bind fun y => match y.td with
   | .slice e => (tyOf P e).bind fun ye => Jgg (decide (ye.zero.length = ye.size /\ 0 < ye.size /\ len * ye.size <= 16777216))
       ((Jft ye.size (List.replicate len ye.zero) (parts.toList.map fun (i, x) => (i, ρ x))).map fun rows => (.ref nx ye.size 0 len (some len), [], [(nx, some (.cells ye.size rows))], nx + 1))
   | _ => none
 | .makeFunc f first cap => Jgg (first.isEmpty && Jfp f) (some (.fn f (cap.toList.map ρ), [], [], nx))
 | .call c => match c.callee with
   | .value f => match ρ f with
     | .fn (.func n) cap => (calls n (c.args.toList.map ρ ++ cap)).map fun r => (r, [], [], nx)
     | _ => none
   | _ => none
 | _ => none
section
variable {P : Program} {G : Jaf} {calls : Nat -> List AV -> Option AV}
theorem Jhq {α : Type} {b : Bool} {x : Option α} {y : α} (h : Jgg b x = some y) : b = true /\ x = some y := by
 unfold Jgg at h
 split at h
 . exact ⟨by assumption, h⟩
 . cases h
theorem J73 (hc : ∀ f args r, calls f args = some r -> Pure P G f args r) {op : Op} {ρ : Operand -> AV} {s : Store} {nx : Nat} {q : EvR} {K : KT} (h : evop P calls op ρ s nx = some q) (hK : K q.1 q.2.1 q.2.2.1 q.2.2.2) :
   vop P G op ρ s nx K := by
 unfold evop at h
 split at h
 . cases h; exact hK
 . cases h; exact hK
 . rename_i t
   obtain ⟨y, hy, h⟩ := Option.bind_eq_some_iff.1 h
   obtain ⟨h1, h2⟩ := Jhq h
   cases h2
   exact Jaz.2 ⟨y, hy, by simpa using h1, hK⟩
 . rename_i t x v
   obtain ⟨y, hy, h⟩ := Option.bind_eq_some_iff.1 h
   refine Jaz.2 ⟨y, hy, ?_⟩
   split at h
   . rename_i b k i j hx
     rw [hx]
     split at h
     . rename_i k' rows hg
       split at h
       . rename_i row hr
         obtain ⟨h1, h2⟩ := Jhq h
         cases h2
         simp only [Bool.and_eq_true, decide_eq_true_eq] at h1
         obtain ⟨⟨rfl, e1, e2, e3⟩, e4⟩ := h1
         exact Jds.2 ⟨rows, hg, Jav.2 ⟨row, hr, e1, e2, e3, e4, hK⟩⟩
       . cases h
     . cases h
   . cases h
 . rename_i t parts
   obtain ⟨y, hy, h⟩ := Option.bind_eq_some_iff.1 h
   obtain ⟨cs, h1, rfl⟩ := Option.map_eq_some_iff.1 h
   exact Jaz.2 ⟨y, hy, Jav.2 ⟨cs, h1, hK⟩⟩
 . rename_i t len parts
   obtain ⟨y, hy, h⟩ := Option.bind_eq_some_iff.1 h
   refine Jaz.2 ⟨y, hy, ?_⟩
   split at h
   . rename_i e htd
     obtain ⟨ye, hye, h⟩ := Option.bind_eq_some_iff.1 h
     obtain ⟨h1, h2⟩ := Jhq h
     obtain ⟨rows, h3, rfl⟩ := Option.map_eq_some_iff.1 h2
     simp only [decide_eq_true_eq] at h1
     rw [htd]
     exact Jaz.2 ⟨ye, hye, h1.1, h1.2.1, h1.2.2, Jav.2 ⟨rows, h3, hK⟩⟩
   . cases h
 . rename_i f first cap
   obtain ⟨h1, h2⟩ := Jhq h
   cases h2
   simp only [Bool.and_eq_true, List.isEmpty_iff, Array.isEmpty_iff] at h1
   obtain ⟨hf, h1⟩ := h1
   subst hf
   exact ⟨h1, hK⟩
 . rename_i c
   split at h
   . rename_i f hcal
     split at h
     . rename_i n cap hf
       obtain ⟨r, h1, rfl⟩ := Option.map_eq_some_iff.1 h
       show Jlr P G c ρ s nx K
       unfold Jlr
       rw [hcal]
       simp only [hf]
       exact ⟨r, [], [], nx, (hc n _ r h1).gives, hK⟩
     . cases h
   . cases h
 . cases h
def Jmu (P : Program) (G : Jaf) (calls : Nat -> List AV -> Option AV) (N : Nat) : List Oper -> St -> Option St
 | [], st => some st
 | o :: rest, st => match o.guard with
   | none => Jgg (Jdw N o.dst) ((evop P calls o.op (Jai G st.t) st.s st.nx).bind fun q => Jmu P G calls N rest ⟨putA st.t o.dst q.1, q.2.2.1 ++ st.s, q.2.2.2⟩)
   | some _ => none
theorem Jwh (hc : ∀ f args r, calls f args = some r -> Pure P G f args r) {N : Nat} {ops : Array Oper} : ∀ {l : List Oper} {st st' : St} {K : St -> Prop}, Jmu P G calls N l st = some st' -> K st' -> Jf6 P G N ops l st K
 | [], st, st', K, h, hK => by cases h; exact hK
 | o :: rest, st, st', K, h, hK => by
   simp only [Jmu] at h
   split at h
   . rename_i hg
     obtain ⟨h1, h2⟩ := Jhq h
     obtain ⟨q, h3, h4⟩ := Option.bind_eq_some_iff.1 h2
     refine ⟨h1, ?_⟩
     rw [hg]
     exact Kip (J73 hc h3 (Jwh hc h4 hK))
   . cases h
def Jiv (P : Program) (G : Jaf) (calls : Nat -> List AV -> Option AV) (N : Nat) : Code -> St -> Option (Exit × St)
 | .skip, st => some (.normal, st)
 | .region _ ops draw, st => Jgg (!draw) ((Jmu P G calls N ops.toList st).map fun st => (.normal, st))
 | .seq a b, st => match Jiv P G calls N a st with
   | some (.normal, st) => Jiv P G calls N b st
   | r => r
 | .ret, st => some (.ret, st)
 | _, _ => none
theorem Jms (hc : ∀ f args r, calls f args = some r -> Pure P G f args r) {N n0 : Nat} : ∀ {c : Code} {st : St} {q : Exit × St} {Q : Exit -> St -> Prop}, Jiv P G calls N c st = some q -> Q q.1 q.2 -> vc P G N n0 c st Q
 | .skip, st, q, Q, h, hQ => by cases h; exact hQ
 | .region _ ops draw, st, q, Q, h, hQ => by
   simp only [Jiv] at h
   obtain ⟨h1, h2⟩ := Jhq h
   obtain ⟨st', h3, rfl⟩ := Option.map_eq_some_iff.1 h2
   have hd : draw = false := by simpa using h1
   subst hd
   exact Jwh (K := Q .normal) hc h3 hQ
 | .seq a b, st, q, Q, h, hQ => by
   simp only [Jiv] at h
   split at h
   . rename_i st1 h1
     exact Jms hc (c := a) (Q := Jf3 (fun st => vc P G N n0 b st Q) Q) h1 (Jms hc (c := b) h hQ)
   . rename_i hne
     refine Jms hc (c := a) (Q := Jf3 (fun st => vc P G N n0 b st Q) Q) h ?_
     obtain ⟨e, st'⟩ := q
     cases e with
     | normal => exact absurd h (by intro h'; exact hne st' h')
     | _ => exact hQ
 | .ret, st, q, Q, h, hQ => by cases h; exact hQ
def Jmv (P : Program) (st : St) : List ResultVar -> Option (List AV)
 | [] => some []
 | .tmp d :: rs => (Jmv P st rs).map (slot st.t d :: ·)
 | .cell d T :: rs => (Jmv P st rs).bind fun us => (tyOf P T).bind fun y => match slot st.t d with
   | .ptr b k i j => match get st.s b with
     | some (.cells k' rows) => match rows[i]? with
       | some row => Jgg (decide (k' = k /\ y.agg = true /\ j + y.size <= row.length)) (some (.agg ((row.drop j).take y.size) :: us))
       | none => none
     | _ => none
   | _ => none
theorem Jqi {st : St} : ∀ {rs : List ResultVar} {vs : List AV}, Jmv P st rs = some vs -> resA P st rs vs
 | [], vs, h => by cases h; rfl
 | .tmp d :: rs, vs, h => by
   obtain ⟨us, h1, rfl⟩ := Option.map_eq_some_iff.1 h
   exact ⟨us, rfl, Jqi h1⟩
 | .cell d T :: rs, vs, h => by
   obtain ⟨us, h1, h⟩ := Option.bind_eq_some_iff.1 h
   obtain ⟨y, hy, h⟩ := Option.bind_eq_some_iff.1 h
   split at h
   . rename_i b k i j hx
     split at h
     . rename_i k' rows hg
       split at h
       . rename_i row hr
         obtain ⟨h2, h3⟩ := Jhq h
         cases h3
         simp only [decide_eq_true_eq] at h2
         obtain ⟨rfl, ha, hl⟩ := h2
         refine ⟨_, us, rfl, ⟨y, hy, ?_⟩, Jqi h1⟩
         rw [hx]
         refine Jds.2 ⟨rows, hg, Jav.2 ⟨row, hr, ?_⟩⟩
         rw [if_pos ha]
         exact ⟨hl, rfl⟩
       . cases h
     . cases h
   . cases h
mutual
def evV (nk : Nat) (s : Store) : AV -> Option AV
 | .p x => some (.p x)
 | .nils => some (.p (.lst nk []))
 | .ref b k i n _ => match get s b with
   | some (.cells k' rows) => if k' = k /\ i + n <= rows.length then (unpR ((rows.drop i).take n)).map fun r => .p (.lst k r) else none
   | _ => none
 | .agg cs => (evL nk s cs).map .agg
 | .tup cs => (evL nk s cs).map .tup
 | .fn f cs => (evL nk s cs).map (.fn f)
 | .iptr k rows i j => some (.iptr k rows i j)
 | _ => none
def evL (nk : Nat) (s : Store) : List AV -> Option (List AV)
 | [] => some []
 | x :: xs => (evV nk s x).bind fun y => (evL nk s xs).map (y :: ·)
end
mutual
theorem Jwi {nk : Nat} {s : Store} : ∀ {a x : AV}, evV nk s a = some x -> FrzA s (fun _ => True) a x
 | .p _, x, h => by simp [evV] at h; subst h; exact .same _ rfl
 | .nils, x, h => by simp [evV] at h; subst h; exact .one _ _ (.nils nk)
 | .iptr .., x, h => by simp [evV] at h; subst h; exact .same _ rfl
 | .ref b k i n c, x, h => by
   simp only [evV] at h
   split at h
   . rename_i k' rows hg
     split at h
     . rename_i hk
       obtain ⟨rfl, hlen⟩ := hk
       obtain ⟨r, hr, rfl⟩ := Option.map_eq_some_iff.1 h
       have e := Jj0 hr
       have hl : r.length = n := by
         have := congrArg List.length e
         simp at this; omega
       exact .one _ _ (.rows trivial hg e hl)
     . cases h
   . cases h
 | .agg cs, x, h => by
   obtain ⟨q, hq, rfl⟩ := Option.map_eq_some_iff.1 (by simpa [evV] using h)
   have := Jmt hq
   exact .agg _ _ this.1 this.2
 | .tup cs, x, h => by
   obtain ⟨q, hq, rfl⟩ := Option.map_eq_some_iff.1 (by simpa [evV] using h)
   have := Jmt hq
   exact .tup _ _ this.1 this.2
 | .fn f cs, x, h => by
   obtain ⟨q, hq, rfl⟩ := Option.map_eq_some_iff.1 (by simpa [evV] using h)
   have := Jmt hq
   exact .fn f _ _ this.1 this.2
 | .nilp, x, h => by simp [evV] at h
 | .ptr .., x, h => by simp [evV] at h
 | .map _, x, h => by simp [evV] at h
 | .nilm, x, h => by simp [evV] at h
 | .pmap .., x, h => by simp [evV] at h
 | .acc .., x, h => by simp [evV] at h
 | .ubool, x, h => by simp [evV] at h
 | .any, x, h => by simp [evV] at h
theorem Jmt {nk : Nat} {s : Store} : ∀ {a x : List AV}, evL nk s a = some x -> x.length = a.length /\ ∀ (i : Nat) c d, a[i]? = some c -> x[i]? = some d -> FrzA s (fun _ => True) c d
 | [], x, h => by simp [evL] at h; subst h; exact ⟨rfl, fun i c d h => by simp at h⟩
 | a :: as, x, h => by
   simp only [evL, Option.bind_eq_some_iff, Option.map_eq_some_iff] at h
   obtain ⟨y, hy, ys, hys, rfl⟩ := h
   obtain ⟨h1, h2⟩ := Jmt hys
   refine ⟨by simp [h1], fun i c d hc hd => ?_⟩
   cases i with
   | zero => simp at hc hd; subst hc; subst hd; exact Jwi hy
   | succ i => exact h2 i c d (by simpa using hc) (by simpa using hd)
end
def J72 (nk : Nat) (P : Program) (G : Jaf) (calls : Nat -> List AV -> Option AV) (fn : Func) (c : Code) (args : List AV) : Option AV :=
 (Jiv P G calls fn.ntmps c ⟨Jc9 0 args, [], 0⟩).bind fun q => (Jmv P q.2 fn.results.toList).bind fun vs => (evV nk q.2.s (resV vs)).bind fun r => match q.1 with
   | .ret | .normal => some r
   | _ => none
theorem Pure.of_ev (nk : Nat) (hc : ∀ f args r, calls f args = some r -> Pure P G f args r) {f : Nat} {fn : Func} {c : Code} {args : List AV} {r : AV} (hf : P.funcs[f]? = some fn) (hb : fn.body = some c) (hname : (fn.name == "runtime.NumGoroutine") = false)
   (hargs : args.length <= fn.ntmps) (hp : Jay args = true) (h : J72 nk P G calls fn c args = some r) : Pure P G f args r := by
 obtain ⟨q, h1, h⟩ := Option.bind_eq_some_iff.1 h
 obtain ⟨vs, h2, h⟩ := Option.bind_eq_some_iff.1 h
 obtain ⟨r', h3, h⟩ := Option.bind_eq_some_iff.1 h
 have he : (q.1 = .ret \/ q.1 = .normal) /\ r' = r := by
   obtain ⟨e, st⟩ := q
   cases e <;> simp at h ⊢ <;> exact h
 obtain ⟨he, rfl⟩ := he
 exact Pure.of_body hf hb hname rfl hargs hp (Jd9 c _ _ (Jms hc h1 ⟨he, vs, Jqi h2, Jwi h3⟩))
end
end Go.Am
namespace Go.Am
open Go
section
variable {P : Program} {G : Jaf}
end
end Go.Am
namespace Go.Am
open Go
theorem Jag.goe {P : Program} {G : Jaf} {N n0 : Nat} {γ : Type} {c : Cont Code} {t : Jam} {s : Store} {nx : Nat} {Q : Cont KQ} (keep keepB : List Nat) (e : Nat) (M : Nat -> γ -> Jam) (B : Nat -> γ -> Store) (I : γ -> Prop) (μ : γ -> Nat) (g0 : γ) (hi : I g0)
   (h0 : ∃ ρ, SubX ρ n0 ⟨t, s, nx⟩ ⟨M nx g0 ++ pick keep t, B nx g0 ++ Jb6 keepB s, nx + e⟩)
   (round : ∀ g, I g -> @xc P G N n0 c (M nx g ++ pick keep t) (B nx g ++ Jb6 keepB s) (nx + e) ⟨fun x st' => @Jf9 x st' ⟨fun st' => ∃ g', I g' /\ μ g' < μ g /\ ∃ ρ,
     SubX ρ n0 st' ⟨M nx g' ++ pick keep t, B nx g' ++ Jb6 keepB s, nx + e⟩⟩ Q⟩) : @Jag P G N n0 c ⟨t, s, nx⟩ Q := by
 obtain ⟨ρ0, h0⟩ := h0
 exact Jfm.intro (fun g => ⟨M nx g ++ pick keep t, B nx g ++ Jb6 keepB s, nx + e⟩) I μ g0 _ hi h0.sub fun g hg => (Jd9 _ _ _ (round g hg)).mono fun x st' h => by
   cases x with
   | normal =>
     obtain ⟨g', h1, h2, ρ, h3⟩ := h
     exact ⟨g', _, h1, h2, h3.sub⟩
   | _ => exact h
end Go.Am
namespace Go.Am
open Go Go.RowKit
theorem J1p {F : Nat -> Prop} {φ : Places} {s : Store} {w w' : World} {b g : Nat} {x : ABlk} (hb : Below w.heap.size w w') (hg : w.heap.size <= g) :
   Step (ownF F φ s) (ownF F (putP φ b (g, 0)) ((b, some x) :: s)) w w' where
 keep := fun β hβ ho => ⟨hb.block β hβ, by
   rintro (hF | ⟨c, y, p, h1, h2, rfl⟩)
   . exact ho (.inl hF)
   . by_cases e : c = b
     . subst e
       rw [Jbr] at h2
       cases h2
       simp only at hβ
       omega
     . rw [Jb8 e] at h2
       rw [Ja9 (Ne.symm e)] at h1
       exact ho (.inr ⟨c, y, p, h1, h2, rfl⟩)⟩
 size := hb.size
 shape := fun β arr T h => ⟨arr, by rw [hb.block β (Array.getElem?_eq_some_iff.1 h).1]; exact h, rfl⟩
 os := hb.os
 tape := hb.tape
 output := hb.output
theorem SR.fresh {G F} {φ : Places} {s : Store} {w w' : World} (h : SR G F φ s w) {b g : Nat} (hb : φ b = none) (hbl : Below w.heap.size w w') (hg : w.heap.size <= g) (x : ABlk)
   (hx : BR (putP φ b (g, 0)) (ownF F (putP φ b (g, 0)) ((b, some x) :: s)) w' b x) :
   SR G F (putP φ b (g, 0)) ((b, some x) :: s) w' := by
 refine h.change (Jf1 hb) (J1p hbl hg) ?_ ?_ ?_
 . intro c y hc
   by_cases e : c = b
   . subst e
     rw [Jgw] at hc
     cases hc
     exact .inr hx
   . rw [Ja9 (Ne.symm e)] at hc
     refine .inl ⟨hc, fun p hp => ?_⟩
     obtain ⟨q, h1, h2⟩ := (h.blk c y hc).place
     rw [hp] at h1; cases h1
     exact hbl.block _ h2
 . intro c c' y y' p p' h1 h2 h3 h4 h5
   by_cases e : c = b
   . by_cases e' : c' = b
     . rw [e, e']
     . subst e
       rw [Jbr] at h3; cases h3
       rw [Jb8 e'] at h4
       rw [Ja9 (Ne.symm e')] at h2
       obtain ⟨q, k1, k2⟩ := (h.blk c' y' h2).place
       rw [h4] at k1; cases k1
       simp only at h5
       omega
   . by_cases e' : c' = b
     . subst e'
       rw [Jbr] at h4; cases h4
       rw [Jb8 e] at h3
       rw [Ja9 (Ne.symm e)] at h1
       obtain ⟨q, k1, k2⟩ := (h.blk c y h1).place
       rw [h3] at k1; cases k1
       simp only at h5
       omega
     . rw [Jb8 e] at h3
       rw [Jb8 e'] at h4
       rw [Ja9 (Ne.symm e)] at h1
       rw [Ja9 (Ne.symm e')] at h2
       exact h.inj c c' y y' p p' h1 h2 h3 h4 h5
 . intro c y p h1 h2 hF
   by_cases e : c = b
   . subst e
     rw [Jbr] at h2; cases h2
     have := h.fsize _ hF
     simp only at this
     omega
   . rw [Jb8 e] at h2
     rw [Ja9 (Ne.symm e)] at h1
     exact h.disj c y p h1 h2 hF
theorem Kfi {G : Jaf} {F : Nat -> Prop} {φ : Places} {s : Store} {w w' : World} {nx k n g cap : Nat} {rows : List (List AV)} {arr : Array Value} {T : TypeId} (h : SR G F φ s w) (hb : φ nx = none) (hbl : Below w.heap.size w w') (hg : w.heap.size <= g)
   (hh : w'.heap[g]? = some (.cells arr T (0, 0))) (hc : ∀ φ' own', Jat φ' own' w' k rows arr 0) (hn : n <= cap) (hsz : cap * k <= arr.size) :
   Post G F φ s w (.ref nx k 0 n none) [(nx, some (.cells k rows))] nx (nx + 1) (.slice (some ⟨g, 0, none⟩) n cap) w' := by
 refine ⟨putP φ nx (g, 0), Jf1 hb, fun b hb' => Jb8 (by omega), ?_, ?_, fun F' => J1p hbl hg⟩
 . exact h.fresh hb hbl hg _ ⟨g, 0, arr, T, Jbr, hh, hc _ _⟩
 . have := VR.ref (φ := putP φ nx (g, 0)) (own := ownF F (putP φ nx (g, 0)) ([(nx, some (.cells k rows))] ++ s)) (w := w') nx k 0 n none g 0 cap Jbr (fun c' e => by cases e) hn ⟨arr, T, hh, by simpa using hsz⟩
   simpa using this
end Go.Am
namespace Go.Am
open Go
section
variable {P : Program}
theorem Jmw {k : Nat} {φ : Places} {own : Nat -> Prop} {w : World} {x : AV} {v : Value} {Kp : AV -> Prop} (hx : Kp x) (hv : VR φ own w x v)
   (heq : ∀ x y, Kp x -> Kp y -> ∃ c, eqA P 8 k x y = some c /\ (c = true ↔ y = x)) : ∀ (es : List (AV × AV)) (ms : List MapEntry) (i : Nat), (∀ e ∈ es, Kp e.1) -> Jez φ own w es ms ->
   ((Instr.findAsking k v ms i).run P w = .ok none w /\ ∀ e ∈ es, e.1 ≠ x) \/
   ∃ j e m, (Instr.findAsking k v ms i).run P w = .ok (some (i + j, m.val)) w /\ es[j]? = some e /\ ms[j]? = some m /\ e.1 = x /\ ∀ (i' : Nat) e', i' < j -> es[i']? = some e' -> e'.1 ≠ x
 | [], [], i, _, _ => .inl ⟨rfl, by simp⟩
 | [], m :: ms, i, _, h => by have := h.1; simp at this
 | e :: es, [], i, _, h => by have := h.1; simp at this
 | e :: es, m :: ms, i, hk, h => by
   obtain ⟨c, h1, h2⟩ := heq x e.1 hx (hk e (by simp))
   have h3 := (h.2 0 e m rfl rfl).1
   have h4 := Jmr 8 10000 k x e.1 c v m.key h1 (by omega) hv h3
   have h5 : (Op.equal k v m.key).run P w = .ok c w := h4
   cases c with
   | true =>
     refine .inr ⟨0, e, m, ?_, rfl, rfl, h2.1 rfl, fun i' e' hi => by omega⟩
     simp [Instr.findAsking, h5]
   | false =>
     have hne : e.1 ≠ x := fun q => by have := h2.2 q; cases this
     have hes : Jez φ own w es ms := ⟨by have := h.1; simpa using this, fun j e' m' he hm => h.2 (j + 1) e' m' (by simpa using he) (by simpa using hm)⟩
     rcases Jmw hx hv heq es ms (i + 1) (fun y hy => hk y (by simp [hy])) hes with ⟨k1, k2⟩ | ⟨j, e', m', k1, k2, k3, k4, k5⟩
     . refine .inl ⟨by simp [Instr.findAsking, h5, k1], fun y hy => ?_⟩
       rcases List.mem_cons.1 hy with rfl | hy
       . exact hne
       . exact k2 y hy
     . refine .inr ⟨j + 1, e', m', by simp [Instr.findAsking, h5, k1]; omega, by simpa using k2, by simpa using k3, k4, fun i' e2 hi he2 => ?_⟩
       cases i' with
       | zero => simp at he2; subst he2; exact hne
       | succ i' => exact k5 i' e2 (by omega) (by simpa using he2)
def IsIS (x : AV) : Prop := ∃ (n : Int) (s : List UInt8), x = .agg [.p (.int .i64 n), .p (.str s)]
theorem IsIS.val {φ : Places} {own : Nat -> Prop} {w : World} {n : Int} {s : List UInt8} {v : Value} (h : VR φ own w (.agg [.p (.int .i64 n), .p (.str s)]) v) : v = .agg ⟨[.int .i64 n, .string ⟨⟨s⟩⟩]⟩ := by
 obtain ⟨us, rfl, h1, h2⟩ := h.agg_inv
 match us, h1 with
 | [a, b], _ =>
   have e1 := (h2 0 _ a rfl rfl).int_inv
   have e2 := (h2 1 _ b rfl rfl).str_inv
   rw [e1, e2]
theorem Kao {k : Nat} (hwide : (match P.underlying k with | some (.array _ _) | some (.struct _) => true | _ => false) = true)
   (hcheck : ∀ (w : World) (em : Bool) (n : Int) (s : ByteArray), (Instr.checkKey em 10000 k (.agg ⟨[.int .i64 n, .string s]⟩)).run P w = .ok () w)
   (heq : ∀ (n m : Int) (s t : List UInt8), eqA P 8 k (.agg [.p (.int .i64 n), .p (.str s)]) (.agg [.p (.int .i64 m), .p (.str t)]) = some (decide (n = m /\ s = t))) : KeyOk P k IsIS where
 check := fun φ own w em x v hx hv => by
   obtain ⟨n, s, rfl⟩ := hx
   rw [IsIS.val hv]
   exact hcheck w em n _
 find := fun φ own w x v es ms hx hv hes h => by
   have e : (Instr.findKey k v ms).run P w = (Instr.findAsking k v ms).run P w := run_findKey_eq w hwide v ms
   rw [e]
   have := Jmw (P := P) (k := k) (Kp := IsIS) hx hv (fun x y hx hy => by
     obtain ⟨n, s, rfl⟩ := hx
     obtain ⟨m, t, rfl⟩ := hy
     exact ⟨_, heq n m s t, by simp; grind⟩) es ms 0 hes h
   simpa using this
 stays := fun φ own w x v v' hx hv hv' => by
   obtain ⟨n, s, rfl⟩ := hx
   rw [IsIS.val hv, IsIS.val hv']
   have e : Instr.sameBits 10000 (.agg ⟨[.int .i64 n, .string ⟨⟨s⟩⟩]⟩) (.agg ⟨[.int .i64 n, .string ⟨⟨s⟩⟩]⟩) = true := by
     simp [Instr.sameBits, Go.MapKept.bytes_beq]
   rw [Instr.keyThatStays, if_pos e]
   rfl
end
end Go.Am
namespace Go.Am
open Go
section
variable {P : Program} {G : Jaf} {f : Nat} {args : List AV}
end
end Go.Am
namespace Go.Am
open Go
def swp (a b n : Nat) : Nat := if n = a then b else if n = b then a else n
theorem Kg5 {a b x y : Nat} (h : swp a b x = swp a b y) : x = y := by
 unfold swp at h
 grind
def renF (r : Nat -> Nat) (f : List Nat × List Nat) : List Nat × List Nat := (f.1.map r, f.2.map r)
theorem Jv7 {r : Nat -> Nat} (hr : ∀ x y, r x = r y -> x = y) {l : List Nat} {b : Nat} : (l.map r).contains (r b) = l.contains b := by
 rw [Bool.eq_iff_iff]
 simp only [List.contains_iff_mem, List.mem_map]
 constructor
 . rintro ⟨x, hx, e⟩; rw [<- hr _ _ e]; exact hx
 . intro h; exact ⟨b, h, rfl⟩
theorem J8l {r : Nat -> Nat} (hr : ∀ x y, r x = r y -> x = y) {f g : List Nat × List Nat} : Jhp (renF r f) (renF r g) = Jhp f g := by
 simp only [Jhp, renF, List.all_map]
 congr 1
 . congr 1
   funext b
   simp only [Function.comp_apply, Jv7 hr]
 . congr 1
   funext b
   simp only [Function.comp_apply, Jv7 hr]
theorem J66 {r : Nat -> Nat} (hr : ∀ x y, r x = r y -> x = y) {ops : Array Oper} {cl : List (List Nat)} {fps : List (List Nat × List Nat)} : Jit ops cl (fps.map (renF r)) = Jit ops cl fps := by
 have e : ∀ i : Nat, (((fps.map (renF r))[i]?).getD ([], [])) = renF r ((fps[i]?).getD ([], [])) := by
   intro i
   rw [List.getElem?_map]
   cases fps[i]? <;> rfl
 simp only [Jit, e, J8l hr]
theorem Bears.swap {fps fps' : Fps} {ops : Cont (Array Oper)} (a b : Nat) (e : fps = fps'.map (renF (swp a b))) (h : Jkl ops.k fps' = true) : @Bears fps ops := by
 subst e
 unfold Bears
 simp only [Jkl, Bool.and_eq_true] at h ⊢
 exact ⟨h.1, by rw [J66 (fun x y => Kg5)]; exact h.2⟩
theorem Jt8 {ρ : List Nat} {s' : Store} : ∀ {a b : Store}, Jgd ρ s' a -> Jgd ρ s' b -> Jgd ρ s' (a ++ b)
 | [], _, _, h => h
 | (_, _) :: _, _, h, k => ⟨h.1, Jt8 h.2 k⟩
theorem Jr5 {ρ : List Nat} : ∀ {rows rows' : List (List AV)}, rows'.length = rows.length -> (∀ (i : Nat) row, rows[i]? = some row -> ∃ row', rows'[i]? = some row' /\ renL ρ row = some row') -> renR ρ rows = some rows'
 | [], [], _, _ => rfl
 | [], _ :: _, h, _ => by simp at h
 | _ :: _, [], h, _ => by simp at h
 | r :: rows, r' :: rows', hl, h => by
   obtain ⟨q, e1, e2⟩ := h 0 r rfl
   simp at e1; subst e1
   have := Jr5 (rows := rows) (rows' := rows') (by simpa using hl) fun i row hr => h (i + 1) row (by simpa using hr)
   simp [renR, e2, this]
theorem J2l : ∀ {rows rows' : List (List AV)}, rows'.length = rows.length -> (∀ (i : Nat) row, rows[i]? = some row -> ∃ row', rows'[i]? = some row' /\ wknL row row') -> wknR rows rows'
 | [], [], _, _ => by simp [wknR]
 | [], _ :: _, h, _ => by simp at h
 | _ :: _, [], h, _ => by simp at h
 | r :: rows, r' :: rows', hl, h => by
   obtain ⟨q, e1, e2⟩ := h 0 r rfl
   simp at e1; subst e1
   have := J2l (rows := rows) (rows' := rows') (by simpa using hl) fun i row hr => h (i + 1) row (by simpa using hr)
   simp only [wknR]
   exact ⟨e2, this⟩
def Jdn (O N k m : Nat) : List Nat := [0, 1, 2, 3, O] ++ (List.range m).map fun j => if j = k then N else 5 + j
theorem Jkz {O N k m b : Nat} (h : b < 4) : (Jdn O N k m)[b]? = some b := by
 match b, h with
 | 0, _ => rfl
 | 1, _ => rfl
 | 2, _ => rfl
 | 3, _ => rfl
theorem Jnv {O N k m : Nat} : (Jdn O N k m)[4]? = some O := rfl
theorem Ji7 {O N k m j : Nat} (h : j < m) : (Jdn O N k m)[5 + j]? = some (if j = k then N else 5 + j) := by
 unfold Jdn
 rw [List.getElem?_append_right (by simp)]
 simp [h]
theorem Kco {O N k m : Nat} : (Jdn O N k m).length = 5 + m := by simp [Jdn]; omega
theorem Kcp {O N k m : Nat} (hO : O = 4 \/ 1000 < O) (hN : 1000 < N) (hON : O ≠ N) (hm : m <= 900) : (Jdn O N k m).Nodup := by
 unfold Jdn
 rw [List.nodup_append]
 refine ⟨?_, ?_, ?_⟩
 . simp
   omega
 . rw [List.nodup_iff_pairwise_ne, List.pairwise_map]
   refine List.Pairwise.imp_of_mem (fun {a b} ha hb hab => ?_) (List.nodup_iff_pairwise_ne.1 List.nodup_range)
   simp at ha hb
   split <;> split <;> omega
 . intro a ha b hb
   simp at ha hb
   obtain ⟨j, hj, rfl⟩ := hb
   split <;> omega
def J29 (P : Program) (rs : List ResultVar) (r : AV) (e : Exit) (st : St) : Prop := (e = .ret \/ e = .normal) /\ ∃ vs, resA P st rs vs /\ FrzA st.s (fun _ => True) (resV vs) r
theorem Pure.of_walkZ {P : Program} {G : Jaf} {N f : Nat} {fn : Func} {c : Code} {args : List AV} {r : AV} (hf : P.funcs[f]? = some fn) (hb : fn.body = some c) (hname : (fn.name == "runtime.NumGoroutine") = false) (hN : fn.ntmps = N) (hargs : args.length <= N) (hp : Jay args = true)
   (h : @xc P G N 0 ⟨c⟩ (Jc9 0 args) [] 0 ⟨J29 P fn.results.toList r⟩) : Pure P G f args r :=
 Pure.of_body hf hb hname hN hargs hp ((Jte h).mono fun _ _ h => h)
end Go.Am
namespace Go.Am
open Go
theorem Jl8 {ops : Array Oper} {x y : Oper} (h : x.apart ops y = true) : y.apart ops x = true := by
 obtain ⟨h1, h2, h3⟩ := Oper.apart_spec h
 unfold Oper.apart
 cases hx : x.dst <;> cases hy : y.dst <;> simp [hx, hy] at h1 h2 h3 ⊢
 . exact h3
 . exact h1
 . exact ⟨⟨h3, fun h => h2 h.symm⟩, h1⟩
def Jl3 (ops : Array Oper) (cl : List (List Nat)) (fps : List (List Nat × List Nat)) (i0 j0 : Nat) : Prop :=
 ∀ (i j : Nat) a b, i < j -> ops[i]? = some a -> ops[j]? = some b -> i ∈ clAt cl j \/ (a.apart ops b = true /\ (Foot ((fps[i]?).getD ([], [])) ((fps[j]?).getD ([], [])) \/ (i = i0 /\ j = j0 /\ ((fps[i]?).getD ([], [])).2 = [])))
def Jp9 (ops : Array Oper) (cl : List (List Nat)) (fps : List (List Nat × List Nat)) (i0 j0 : Nat) : Bool :=
 (List.range ops.size).all fun j => (List.range j).all fun i => (clAt cl j).contains i || match ops[i]?, ops[j]? with
   | some a, some b => a.apart ops b && (Jhp ((fps[i]?).getD ([], [])) ((fps[j]?).getD ([], [])) || (i == i0 && j == j0 && (((fps[i]?).getD ([], [])).2).isEmpty))
   | _, _ => true
def Jqb (ops : Array Oper) (fps : List (List Nat × List Nat)) (i0 j0 : Nat) : Bool := clOk ops (clos ops.toList) && Jp9 ops (clos ops.toList) fps i0 j0
theorem J68 {ops : Array Oper} {cl : List (List Nat)} {fps : List (List Nat × List Nat)} {i0 j0 : Nat} (h : Jp9 ops cl fps i0 j0 = true) : Jl3 ops cl fps i0 j0 := by
 intro i j a b hij ha hb
 simp only [Jp9, List.all_eq_true, List.mem_range] at h
 have hj : j < ops.size := (Array.getElem?_eq_some_iff.1 hb).1
 have := h j hj i hij
 simp only [ha, hb, Bool.or_eq_true, Bool.and_eq_true, beq_iff_eq, List.isEmpty_iff] at this
 rcases this with h1 | ⟨h1, h2 | ⟨⟨h2, h3⟩, h4⟩⟩
 . exact .inl (by simpa using h1)
 . exact .inr ⟨h1, .inl (Jwx h2)⟩
 . exact .inr ⟨h1, .inr ⟨h2, h3, h4⟩⟩
section
variable {P : Program} {G : Jaf} {N n0 : Nat} {ops : Array Oper} {st0 st1 : St} {recs : List Rec} {i0 j0 : Nat}
def Jpe (P : Program) (G : Jaf) (ops : Array Oper) (st0 : St) (recs : List Rec) (i0 j0 : Nat) : Prop :=
 ¬ i0 < j0 \/ ∃ rI rJ, recs[i0]? = some rI /\ recs[j0]? = some rJ /\ ∀ (o : Oper) (stt : St) (v : AV), ops[i0]? = some o -> stt.s = accD (upto i0) 0 (ups recs) st0.s -> stt.t = accD (upto i0) 0 (puts recs) st0.t ->
   OpOK P G o (Jai G stt.t) stt.s rI.lo v rI.rd rI.up rI.hi -> rI.put = putA [] o.dst v -> OpOK P G o (Jai G stt.t) (rJ.up ++ stt.s) rI.lo v rI.rd rI.up rI.hi
theorem J3n [Base] {F : Nat -> Prop} {φ0 φ : Places} {w0 w : World} {a : Act} {Q : Exit -> Act -> World -> Prop} {K : Act -> World -> Prop} {D : Nat -> Bool} {cl : List (List Nat)}
   (ht : Tr P G N ops ops.toList st0 recs st1) (hn0 : n0 <= st0.nx) (hcl : clOk ops cl = true) (hp : Jl3 ops cl (recs.map Rec.fp) i0 j0) (hsoft : Jpe P G ops st0 recs i0 j0) (hI : InvD G N n0 F φ0 w0 st0 st1 recs D φ a w) (hD : Jj9 ops D)
   {i : Nat} {o : Oper} (ho : ops[i]? = some o) (hi : D i = false) (hr : ∀ e ∈ o.after, Region.binds .any e = true -> D e.on = true)
   (hK : ∀ φ' a' w', InvD G N n0 F φ0 w0 st0 st1 recs (also D i) φ' a' w' -> K a' w') : wpOpIn rF 0 P ops Q i K a w := by
 have hol : ops.toList[i]? = some o := by simpa using ho
 obtain ⟨r, stt, hri, hst, hs, htt⟩ := ht.at.2 0 i o hol
 rw [Nat.zero_add] at hs htt
 obtain ⟨hnx, hrange, hdisj, _⟩ := ht.fin
 have hlo := hst.lo
 have cases2 : ∀ k ok rk, k ≠ i -> ops[k]? = some ok -> recs[k]? = some rk -> D k = upto i k \/ (ok.apart ops o = true /\ o.apart ops ok = true /\ ((Foot rk.fp r.fp /\ Foot r.fp rk.fp) \/ (k = j0 /\ i = i0 /\ i0 < j0 /\ r.fp.2 = []) \/ (k = i0 /\ i = j0 /\ rk.fp.2 = []))) := by
   intro k ok rk hne hok hrk
   have fk : ((recs.map Rec.fp)[k]?).getD ([], []) = rk.fp := by simp [hrk]
   have fi : ((recs.map Rec.fp)[i]?).getD ([], []) = r.fp := by simp [hri]
   have fsym : ∀ {f g : List Nat × List Nat}, Foot f g -> Foot g f := fun {f g} h => ⟨fun b hb => ⟨h.2 b hb, fun h' => (h.1 b h').2 hb⟩, fun b hb => (h.1 b hb).1⟩
   rcases Nat.lt_or_gt_of_ne hne with hlt | hgt
   . rcases hp k i ok o hlt hok ho with h1 | ⟨h1, h2 | ⟨h2, h3, h4⟩⟩
     . have := Jmi hcl hD i o ho hr k h1
       rw [this]; left; simp [upto, hlt]
     . rw [fk, fi] at h2
       exact .inr ⟨h1, Jl8 h1, .inl ⟨h2, fsym h2⟩⟩
     . rw [fk] at h4
       exact .inr ⟨h1, Jl8 h1, .inr (.inr ⟨h2, h3, h4⟩)⟩
   . rcases hp i k o ok hgt ho hok with h1 | ⟨h1, h2 | ⟨h2, h3, h4⟩⟩
     . have : D k = false := by
         cases hk : D k with
         | false => rfl
         | true =>
           have := Jmi hcl hD k ok hok (fun e he hb => hD k ok hok hk e he hb) i h1
           rw [hi] at this; cases this
       rw [this]; left; simp [upto]; omega
     . rw [fk, fi] at h2
       exact .inr ⟨Jl8 h1, h1, .inl ⟨fsym h2, h2⟩⟩
     . rw [fi] at h4
       exact .inr ⟨Jl8 h1, h1, .inr (.inl ⟨h3, h2, by omega, h4⟩)⟩
 have confT : ∀ k ok rk, k ≠ i -> ops[k]? = some ok -> recs[k]? = some rk -> ¬ (ok.apart ops o = true /\ o.apart ops ok = true) -> D k = upto i k := fun k ok rk hne hok hrk hc => by
   rcases cases2 k ok rk hne hok hrk with h | ⟨h1, h2, _⟩
   . exact h
   . exact absurd ⟨h1, h2⟩ hc
 have confW : ∀ k ok rk b, k ≠ i -> ops[k]? = some ok -> recs[k]? = some rk -> b ∈ keys rk.up -> b ∈ keys r.up -> D k = upto i k := fun k ok rk b hne hok hrk hb hb' => by
   rcases cases2 k ok rk hne hok hrk with h | ⟨_, _, ⟨h1, _⟩ | ⟨_, _, _, h1⟩ | ⟨_, _, h1⟩⟩
   . exact h
   . exact absurd hb' (h1.1 b hb).2
   . have h1 : keys r.up = [] := h1
     rw [h1] at hb'; cases hb'
   . have h1 : keys rk.up = [] := h1
     rw [h1] at hb; cases hb
 have confR : ∀ k ok rk b, k ≠ i -> ¬ (k = j0 /\ i = i0 /\ i0 < j0) -> ops[k]? = some ok -> recs[k]? = some rk -> b ∈ keys rk.up -> b ∈ r.rd -> D k = upto i k := fun k ok rk b hne hs hok hrk hb hb' => by
   rcases cases2 k ok rk hne hok hrk with h | ⟨_, _, ⟨h1, _⟩ | ⟨h1, h2, h3, _⟩ | ⟨_, _, h1⟩⟩
   . exact h
   . exact absurd hb' (h1.1 b hb).1
   . exact absurd ⟨h1, h2, h3⟩ hs
   . have h1 : keys rk.up = [] := h1
     rw [h1] at hb; cases hb
 have getop : ∀ k rk, recs[k]? = some rk -> ∃ ok sk, ops[k]? = some ok /\ StepOk P G N ops ok sk rk := fun k rk hrk => by
   have hlen := ht.at.1
   have hk : k < ops.toList.length := hlen ▸ (gsI.1 hrk).1
   obtain ⟨rk', sk, e1, e2, _⟩ := ht.at.2 0 k _ (List.getElem?_eq_getElem hk)
   rw [hrk] at e1; cases e1
   exact ⟨_, sk, Array.getElem?_eq_getElem (by simpa using hk), e2⟩
 -- the slots that it looks at
 have hslot : ∀ d, d ∈ o.looksAt ops -> slot (stD st0 st1 recs D).t d = slot stt.t d := fun d hd => by
   rw [<- Jgz, <- Jgz, htt]
   refine Jga (fun j u hu hb => ?_) rfl
   rw [Nat.zero_add]
   obtain ⟨rj, hrj, rfl⟩ := Jjl.1 hu
   obtain ⟨oj, sj, hoj, hsj⟩ := getop j rj hrj
   by_cases hji : j = i
   . subst hji; rw [hi]; simp [upto]
   . refine confT j oj rj hji hoj hrj fun hc => ?_
     exact (Oper.apart_spec hc.1).1 d (hsj.put_keys.1 hb) hd
 have heval : ∀ x ∈ o.op.operands.toList, Jai G (stD st0 st1 recs D).t x = Jai G stt.t x := fun x hx => by
   cases x with
   | tmp d => exact hslot d (List.mem_append_left _ (List.mem_filterMap.2 ⟨.tmp d, hx, rfl⟩))
   | _ => rfl
 -- what follows, from one write more
 have fin : ∀ (φ' : Places) (v : AV) (v' : Value) (w' : World), r.put = putA [] o.dst v -> φ.le φ' -> (∀ b, b < r.lo \/ r.hi <= b -> φ' b = φ b) -> SR G F φ' (r.up ++ (stD st0 st1 recs D).s) w' ->
     VR φ' (ownF F φ' (r.up ++ (stD st0 st1 recs D).s)) w' v v' -> (∀ F' : Nat -> Prop, Step (ownF F' φ (stD st0 st1 recs D).s) (ownF F' φ' (r.up ++ (stD st0 st1 recs D).s)) w w') -> K (a.put o.dst v') w' := by
   intro φ' v v' w' hput hle hout hsr hv hstep
   have hstore : ∀ b, get (r.up ++ (stD st0 st1 recs D).s) b = get (stD st0 st1 recs (also D i)).s b := fun b => by
     rw [<- Jem, <- Jem]
     have := Jij (d := none) (D := D) (us := ups recs) (k := 0) (i := i) (s := st0.s) (u := r.up) b (Jg8.2 ⟨r, hri, rfl⟩) (by rwa [Nat.zero_add])
       (fun j u' hu hij hb hb' => by
         rw [Nat.zero_add]
         obtain ⟨rj, hrj, rfl⟩ := Jg8.1 hu
         obtain ⟨oj, sj, hoj, hsj⟩ := getop j rj hrj
         have e := confW j oj rj b (by omega) hoj hrj hb' hb
         rw [e]; exact decide_eq_false (by omega))
     rw [Nat.zero_add] at this
     exact this.symm
   have hslots : ∀ d, slot (r.put ++ (stD st0 st1 recs D).t) d = slot (stD st0 st1 recs (also D i)).t d := fun d => by
     rw [<- Jgz, <- Jgz]
     have := Jij (d := AV.any) (D := D) (us := puts recs) (k := 0) (i := i) (s := st0.t) (u := r.put) d (Jjl.2 ⟨r, hri, rfl⟩) (by rwa [Nat.zero_add])
       (fun j u' hu hij hb hb' => by
         rw [Nat.zero_add]
         obtain ⟨rj, hrj, rfl⟩ := Jjl.1 hu
         obtain ⟨oj, sj, hoj, hsj⟩ := getop j rj hrj
         have e := confT j oj rj (by omega) hoj hrj fun hc => (Oper.apart_spec hc.1).2.1 d (hsj.put_keys.1 hb') (hst.put_keys.1 hb)
         rw [e]; exact decide_eq_false (by omega))
     rw [Nat.zero_add] at this
     exact this.symm
   have hown : ∀ F' : Nat -> Prop, ownF F' φ' (r.up ++ (stD st0 st1 recs D).s) = ownF F' φ' (stD st0 st1 recs (also D i)).s := fun F' => Jn1 hstore
   have htr := (hI.rel.tr.mono hle (hstep F)).put (dst := o.dst) hst.dst hv
   rw [<- Jjk, <- hput] at htr
   refine hK φ' _ w' ⟨⟨hsr.congr hstore, ?_, hI.rel.base, ⟨htr.size, fun d => ?_⟩, ?_⟩, ?_, ?_, fun F' => ?_⟩
   . intro b hb
     have h1 := hrange i r hri
     have hb' : st1.nx <= b := hb
     rw [hout b (.inr (by omega))]
     exact hI.rel.fresh b hb
   . rw [<- hslots, <- hown]; exact htr.slots d
   . rw [<- hown]; exact hI.rel.side.mono (hstep _) (Act.put_defers _ _ _)
   . intro j rj hrj hj b h1 h2
     simp only [also, Bool.or_eq_false_iff, beq_eq_false_iff_ne] at hj
     have hne : b < r.lo \/ r.hi <= b := by
       rcases Nat.lt_or_gt_of_ne hj.2 with hlt | hgt
       . have := hdisj j i rj r hlt hrj hri; omega
       . have := hdisj i j r rj hgt hri hrj; omega
     rw [hout b hne]
     exact hI.fresh j rj hrj hj.1 b h1 h2
   . intro b hb
     have := (hrange i r hri).1
     rw [hout b (.inl (by omega))]
     exact hI.base b hb
   . rw [<- hown]; exact (hI.step F').trans (hstep F')
 have hsame : ∀ F' : Nat -> Prop, Step (ownF F' φ (stD st0 st1 recs D).s) (ownF F' φ (stD st0 st1 recs D).s) w w := fun _ => Step.refl _ _
 have hwant : Jl5 ops stt.t o -> Region.wanted o (yielded ops a.tmps) = true := by
   rintro (h | ⟨j, want, d, hg, hdst, hsl⟩)
   . simp [Region.wanted, h]
   . have hy := Jl0 (a := a) (ops := ops) (j := j) (d := d) hdst
     have hv := hI.rel.tr.slots d
     rw [hslot d (List.mem_append_right _ (by rw [hg]; simp only []; rw [show (ops[j]?).bind (·.dst) = some d from hdst]; simp)), hsl] at hv
     rw [hv.bool_inv] at hy
     simp [Region.wanted, hg, hy]
 have hskip : Jl4 ops stt.t o -> Region.wanted o (yielded ops a.tmps) = false := by
   rintro ⟨j, want, d, hg, hdst, hsl⟩
   have hy := Jl0 (a := a) (ops := ops) (j := j) (d := d) hdst
   have hv := hI.rel.tr.slots d
   rw [hslot d (List.mem_append_right _ (by rw [hg]; simp only []; rw [show (ops[j]?).bind (·.dst) = some d from hdst]; simp))] at hv
   rcases hsl with hsl | ⟨b, hsl, hne⟩
   . rw [hsl] at hv
     rw [Jsm hv] at hy
     simp [Region.wanted, hg, hy]
   . rw [hsl] at hv
     rw [hv.bool_inv] at hy
     simp [Region.wanted, hg, hy, hne]
 unfold wpOpIn
 rw [ho]
 simp only
 rcases hst.does with ⟨hw, v, hok, hput⟩ | ⟨hw, hup, hput⟩
 . rw [if_pos (hwant hw)]
   have hrun : Jbf P (Post G F φ (stD st0 st1 recs D).s w v r.up r.lo r.hi) ((execOp a.eval o).run P w) := by
     have hev : EvalOk φ (ownF F φ (stD st0 st1 recs D).s) w (Jai G stt.t) a.eval o := ⟨fun x hx => by
       have := Jko hI.rel x
       rwa [heval x hx] at this, fun _ => rfl⟩
     by_cases hsp : i = i0 /\ i0 < j0 /\ D j0 = true
     . obtain ⟨rfl, hij, hDj⟩ := hsp
       have hjr : ∃ rJ, recs[j0]? = some rJ := by
         rcases hsoft with h | h
         . exact absurd hij h
         . obtain ⟨rI, rJ, _, e2, _⟩ := h
           exact ⟨rJ, e2⟩
       obtain ⟨rJ, hrJ⟩ := hjr
       have hok2 : OpOK P G o (Jai G stt.t) (rJ.up ++ stt.s) r.lo v r.rd r.up r.hi := by
         rcases hsoft with h | ⟨rI, rJ', e1, e2, hall⟩
         . exact absurd hij h
         . rw [hri] at e1; cases e1
           rw [hrJ] at e2; cases e2
           exact hall o stt v ho hs htt hok hput
       have hag : Jc7 (rJ.up ++ stt.s) (stD st0 st1 recs D).s r.rd := fun b hb => by
         rw [<- Jem, <- Jem, hs]
         have h1 := Jij (d := none) (D := upto i) (us := ups recs) (k := 0) (i := j0) (s := st0.s) (u := rJ.up) b (Jg8.2 ⟨rJ, hrJ, rfl⟩) (by rw [Nat.zero_add]; exact decide_eq_false (by omega))
           (fun j u' hu hij' _ _ => by rw [Nat.zero_add]; exact decide_eq_false (by omega))
         rw [Nat.zero_add] at h1
         rw [<- h1]
         refine Jga (fun j u hu hb' => ?_) rfl
         rw [Nat.zero_add]
         obtain ⟨rj, hrj, rfl⟩ := Jg8.1 hu
         obtain ⟨oj, sj, hoj, hsj⟩ := getop j rj hrj
         by_cases hji : j = i
         . subst hji
           have : (j == j0) = false := by simp; omega
           rw [hi]; simp [also, upto, this]
         . by_cases hjj : j = j0
           . subst hjj; rw [hDj]; simp [also]
           . have : (j == j0) = false := by simp; exact hjj
             rw [confR j oj rj b hji (fun h => hjj h.1) hoj hrj hb' hb]; simp [also, this]
       exact hok2.runs F φ (stD st0 st1 recs D).s w a.eval hag hI.rel.sr (fun b h1 h2 => hI.fresh i r hri hi b h1 h2) hev
     . have hag : Jc7 stt.s (stD st0 st1 recs D).s r.rd := fun b hb => by
         rw [<- Jem, <- Jem, hs]
         refine Jga (fun j u hu hb' => ?_) rfl
         rw [Nat.zero_add]
         obtain ⟨rj, hrj, rfl⟩ := Jg8.1 hu
         obtain ⟨oj, sj, hoj, hsj⟩ := getop j rj hrj
         by_cases hji : j = i
         . subst hji; rw [hi]; simp [upto]
         . by_cases hjj : j = j0 /\ i = i0 /\ i0 < j0
           . obtain ⟨rfl, rfl, h3⟩ := hjj
             have : D j = false := by
               cases hh : D j with
               | false => rfl
               | true => exact absurd ⟨rfl, h3, hh⟩ hsp
             rw [this]; simp [upto]; omega
           . exact confR j oj rj b hji hjj hoj hrj hb' hb
       exact hok.runs F φ (stD st0 st1 recs D).s w a.eval hag hI.rel.sr (fun b h1 h2 => hI.fresh i r hri hi b h1 h2) hev
   refine ⟨fun _ _ => trivial, ?_⟩
   rw [Jsh hrun]
   generalize (execOp a.eval o).run P w = res at hrun
   cases res with
   | ok n w' =>
     cases n <;> simp only [Jbf] at hrun <;> simp only [Oper.uponIn]
     case value u => obtain ⟨φ', h1, h2, h3, h4, h5⟩ := hrun; exact fin φ' v u w' hput h1 h2 h3 h4 h5
     case skip => obtain ⟨φ', h1, h2, h3, h4, h5⟩ := hrun; exact fin φ' v undef w' hput h1 h2 h3 h4 h5
     case enter f args =>
       refine ⟨fun h => (by cases h), Jpy (hrun.mono fun e w'' he => ?_)⟩
       obtain ⟨u, rfl, φ', h1, h2, h3, h4, h5⟩ := he
       exact fin φ' v u w'' hput h1 h2 h3 h4 h5
     case round l f tmps asg body =>
       refine ⟨fun h => (by cases h), Jsc (hrun.mono fun e w'' he => ?_)⟩
       obtain ⟨u, rfl, φ', h1, h2, h3, h4, h5⟩ := he
       exact fin φ' v u w'' hput h1 h2 h3 h4 h5
   | halt e w' => simp only [Jbf] at hrun
 . rw [if_neg (by rw [hskip hw]; simp)]
   have e : r.up ++ (stD st0 st1 recs D).s = (stD st0 st1 recs D).s := by rw [hup]; rfl
   exact ⟨fun _ _ => trivial, fin φ (.tup []) undef w hput (fun _ _ h => h) (fun _ _ => rfl) (by rw [e]; exact hI.rel.sr) (.tup [] [] rfl (by simp)) (by rw [e]; exact hsame)⟩
theorem J3l [Base] {F : Nat -> Prop} {φ0 : Places} {w0 : World} {Q : Exit -> Act -> World -> Prop} {cl : List (List Nat)}
   (ht : Tr P G N ops ops.toList st0 recs st1) (hn0 : n0 <= st0.nx) (hcl : clOk ops cl = true) (hp : Jl3 ops cl (recs.map Rec.fp) i0 j0) (hsoft : Jpe P G ops st0 recs i0 j0)
   (hQ : ∀ D φ a w, (∀ j, j < ops.size -> D j = true) -> InvD G N n0 F φ0 w0 st0 st1 recs D φ a w -> Q .normal a w) :
   ∀ (fuel : Nat) (listed : Array Bool) (φ : Places) (a : Act) (w : World), listed.size = ops.size -> InvD G N n0 F φ0 w0 st0 st1 recs (fun j => listed.getD j false) φ a w ->
     Jj9 ops (fun j => listed.getD j false) -> (List.range ops.size).countP (fun j => !listed.getD j false) <= fuel -> wpAnyIn rF 0 P .any ops Q fuel listed a w := by
 have done : ∀ (listed : Array Bool), listed.size = ops.size -> Region.ready .any ops listed = [] -> ∀ j, j < ops.size -> listed.getD j false = true := by
   intro listed hsz hnil j
   induction j using Nat.strongRecOn with
   | _ j ih =>
     intro hj
     cases hl : listed.getD j false with
     | true => rfl
     | false =>
       have hjl : j < listed.size := by omega
       have : j ∈ Region.ready .any ops listed := by
         rw [mem_ready]
         refine ⟨?_, ops[j], Array.getElem?_eq_getElem hj, fun e he hb => ?_⟩
         . simp [hjl] at hl ⊢; exact hl
         . have := Jp2 hcl (Array.getElem?_eq_getElem hj) he hb
           exact ih e.on this (by omega)
       rw [hnil] at this; cases this
 intro fuel
 induction fuel with
 | zero =>
   intro listed φ a w hsz hI hD hc
   have hall : ∀ j, j < ops.size -> listed.getD j false = true := fun j hj => by
     have := List.countP_eq_zero.1 (Nat.le_zero.1 hc) j (by simpa using hj)
     simpa using this
   refine ⟨?_, hQ _ φ a w hall hI⟩
   rw [List.eq_nil_iff_forall_not_mem]
   intro j hj
   obtain ⟨h0, o, ho, _⟩ := mem_ready.1 hj
   have hj' : j < ops.size := (Array.getElem?_eq_some_iff.1 ho).1
   have := hall j hj'
   have hjl : j < listed.size := by omega
   simp [hjl] at h0 this
   rw [h0] at this; cases this
 | succ fuel ih =>
   intro listed φ a w hsz hI hD hc
   refine ⟨fun hnil => hQ _ φ a w (done listed hsz hnil) hI, fun i hi => ?_⟩
   obtain ⟨h0, o, ho, hr⟩ := mem_ready.1 hi
   have hi' : i < ops.size := (Array.getElem?_eq_some_iff.1 ho).1
   have hil : i < listed.size := by omega
   have hD0 : listed.getD i false = false := by simp [hil] at h0 ⊢; exact h0
   have hfun : (fun j => (listed.setIfInBounds i true).getD j false) = also (fun j => listed.getD j false) i := by
     funext j
     by_cases hij : i = j
     . subst hij; simp [also, hil]
     . have : (j == i) = false := by simp; omega
       rw [getD_set_ne false hij]; simp [also, this]
   refine J3n ht hn0 hcl hp hsoft hI hD ho hD0 hr fun φ' a' w' hI' => ?_
   refine ih (listed.setIfInBounds i true) φ' a' w' (by simpa using hsz) (by rw [hfun]; exact hI') ?_ ?_
   . rw [hfun]
     intro j oj hoj hj e he hb
     simp only [also, Bool.or_eq_true, beq_iff_eq] at hj ⊢
     rcases hj with hj | rfl
     . exact .inl (hD j oj hoj hj e he hb)
     . rw [ho] at hoj; cases hoj
       exact .inl (hr e he hb)
   . have := Jp7 (l := List.range ops.size) (p := fun j => !listed.getD j false) (q := fun j => !(listed.setIfInBounds i true).getD j false)
       (fun j hj => by
         have e := congrFun hfun j
         change (!(listed.setIfInBounds i true).getD j false) = true at hj
         change (listed.setIfInBounds i true).getD j false = also (fun j => listed.getD j false) i j at e
         rw [e] at hj
         simp only [also, Bool.not_eq_true', Bool.or_eq_false_iff] at hj ⊢
         exact hj.1)
       ⟨i, by simpa using hi', by simp [hD0], by simp [hil]⟩
     omega
theorem J7e {id : Nat} {Q : Exit -> St -> Prop} {cl : List (List Nat)} (hm : P.follows .mixedOrders = true) (ht : Tr P G N ops ops.toList st0 recs st1) (hcl : clOk ops cl = true) (hp : Jl3 ops cl (recs.map Rec.fp) i0 j0) (hsoft : Jpe P G ops st0 recs i0 j0)
   (hQ : Q .normal st1) : Jl1 P G N n0 id ops st0 Q := by
 refine ⟨fun F φ a w hr => ?_⟩
 refine wpIn_region_any hm ?_
 have stw : ∀ F' : Nat -> Prop, Step (ownF F' φ st0.s) (ownF F' φ st0.s) w { w with drawn := w.drawn + 1 } := fun F' => ⟨fun _ _ h => ⟨rfl, h⟩, Nat.le_refl _, fun _ arr _ h => ⟨arr, h, rfl⟩, rfl, rfl, rfl⟩
 obtain ⟨hnx, hrange, hdisj, hend⟩ := ht.fin
 have hfalse : (fun j => (Array.replicate ops.size false).getD j false) = fun _ => false := by
   funext j
   by_cases h : j < ops.size <;> simp [h]
 refine J3l (F := F) (φ0 := φ) (w0 := w) ht hr.base hcl hp hsoft ?_ ops.size _ φ a _ (by simp) ?_ ?_ ?_
 . intro D φ' a' w' hall hI
   obtain ⟨e1, e2⟩ := hend 0 D fun j _ hj => hall j (by rw [ht.at.1] at hj; simpa using hj)
   have e : stD st0 st1 recs D = st1 := by unfold stD; rw [e1, e2]
   have hrel := hI.rel
   have hst := hI.step
   rw [e] at hrel hst
   exact ⟨st1, φ', hQ, hrel, hI.base, hst⟩
 . rw [hfalse]
   have e : stD st0 st1 recs (fun _ => false) = ⟨st0.t, st0.s, st1.nx⟩ := by unfold stD; rw [Jgq fun _ _ => rfl, Jgq fun _ _ => rfl]
   refine ⟨?_, ?_, fun _ _ => rfl, ?_⟩
   . rw [e]
     refine ⟨?_, fun b hb => hr.fresh b (Nat.le_trans hnx hb), Nat.le_trans hr.base hnx, hr.tr.mono (fun _ _ h => h) (stw F), hr.side.mono (stw _) rfl⟩
     exact hr.sr.change (fun _ _ h => h) (stw F) (fun b x hb => .inl ⟨hb, fun p hp => rfl⟩) hr.sr.inj hr.sr.disj
   . intro i r hri _ b h1 h2
     exact hr.fresh b (Nat.le_trans (hrange i r hri).1 h1)
   . rw [e]; exact stw
 . rw [hfalse]; intro j o _ hj; cases hj
 . exact Nat.le_trans List.countP_le_length (by simp)
structure Snap where
 t : Jam
 s : Store
 nx : Nat
 v : AV
 rd : List Nat
 up : Store
 hi : Nat
@[simp] def Snap.fp (z : Snap) : List Nat × List Nat := (z.rd, keys z.up)
def Jox (P : Program) (G : Jaf) (N : Nat) : List Oper -> St -> List Snap -> (St -> List Snap -> Prop) -> Prop
 | [], st, acc, K => K st acc
 | o :: rest, st, acc, K => Jdw N o.dst = true /\ o.guard = none /\ Jfz o.op = true /\ Jdr P G o.op (Jai G st.t) st.s st.nx fun v rd up nx' => Jox P G N rest ⟨putA st.t o.dst v, up ++ st.s, nx'⟩ (acc ++ [⟨st.t, st.s, st.nx, v, rd, up, nx'⟩]) K
def J28 (l : List Oper) (st : St) (recs : List Rec) (zs : List Snap) : Prop := zs.length = recs.length /\ ∀ (k i : Nat) z o, zs[i]? = some z -> l[i]? = some o -> recs[i]? = some ⟨z.rd, z.up, putA [] o.dst z.v, z.nx, z.hi⟩ /\ z.s = accD (upto (k + i)) k (ups recs) st.s /\ z.t = accD (upto (k + i)) k (puts recs) st.t
theorem J2c {ops : Array Oper} : ∀ {l : List Oper} {st : St} {acc : List Snap} {K : St -> List Snap -> Prop}, Jox P G N l st acc K ->
   ∃ recs st' zs, Tr P G N ops l st recs st' /\ J28 l st recs zs /\ K st' (acc ++ zs)
 | [], st, acc, K, h => ⟨[], st, [], .nil _, ⟨rfl, fun k i z o h => by simp at h⟩, by simpa [Jox] using h⟩
 | o :: rest, st, acc, K, h => by
   obtain ⟨hd, hg, hn, h⟩ := h
   obtain ⟨v, rd, up, nx', hk, hok⟩ := Jo4 (Jtb hn h)
   obtain ⟨recs, st', zs, h1, h2, h3⟩ := J2c (ops := ops) hk
   refine ⟨⟨rd, up, putA [] o.dst v, st.nx, nx'⟩ :: recs, st', ⟨st.t, st.s, st.nx, v, rd, up, nx'⟩ :: zs, .cons _ _ _ _ _ _ ⟨hd, rfl, hok.le, .inl ⟨.inl hg, v, hok, rfl⟩⟩ ?_, ⟨by simp [h2.1], fun k i z o' hz ho => ?_⟩, by simpa using h3⟩
   . simpa only [Jjk] using h1
   . cases i with
     | zero =>
       simp at hz ho; subst hz; subst ho
       refine ⟨rfl, ?_, ?_⟩ <;> rw [Jgq] <;> intro j hj <;> simp [upto] <;> omega
     | succ i =>
       obtain ⟨e1, e2, e3⟩ := h2.2 (k + 1) i z o' (by simpa using hz) (by simpa using ho)
       have e : upto (k + (i + 1)) k = true := by simp [upto]
       refine ⟨by simpa using e1, ?_, ?_⟩
       . rw [e2]; simp only [ups, List.map_cons, accD, e, if_true]; rw [show k + 1 + i = k + (i + 1) from by omega]
       . rw [e3, <- Jjk]; simp only [puts, List.map_cons, accD, e, if_true]; rw [show k + 1 + i = k + (i + 1) from by omega]
def Jpa (P : Program) (G : Jaf) (N : Nat) [l : Cont (List Oper)] (t : Jam) (s : Store) (nx : Nat) (acc : List Snap) [K : Cont (St -> List Snap -> Prop)] : Prop := Jox P G N l.k ⟨t, s, nx⟩ acc K.k
section
variable {K : Cont (St -> List Snap -> Prop)} {d : Option Nat} {op : Op} {ty : Nat} {pos : String} {after : Array Edge} {rest : List Oper} {t : Jam} {s : Store} {nx : Nat} {acc : List Snap}
@[simp] theorem Kl6 : @Jpa P G N ⟨[]⟩ t s nx acc K = K.k ⟨t, s, nx⟩ acc := (rfl)
@[simp] theorem Kl5 : @Jpa P G N ⟨⟨d, op, ty, pos, after, none⟩ :: rest⟩ t s nx acc K =
   (Jdw N d = true /\ (none : Option (Nat × Bool)) = none /\ Jfz op = true /\ @xop P G op t s nx ⟨fun v rd up nx' => @Jpa P G N ⟨rest⟩ (putA t d v) (up ++ s) nx' (acc ++ [⟨t, s, nx, v, rd, up, nx'⟩]) K⟩) := (rfl)
end
def Jl2 (fps : Fps) (i0 j0 : Nat) [ops : Cont (Array Oper)] : Prop := Jqb ops.k fps i0 j0 = true
theorem Jl2.of {fps : Fps} {ops : Cont (Array Oper)} (h : Jqb ops.k fps i0 j0 = true) : @Jl2 fps i0 j0 ops := h
def J2q (P : Program) (G : Jaf) (zi zj : Snap) (op : Op) : Prop := Jfz op = true /\ @xop P G op zi.t (zj.up ++ zi.s) zi.nx ⟨fun v rd up nx' => v = zi.v /\ rd = zi.rd /\ up = zi.up /\ nx' = zi.hi⟩
@[simp] theorem Kmc {ti tj : Jam} {si sj : Store} {ni nj hi hj : Nat} {vi vj : AV} {ri rj : List Nat} {ui uj : Store} {op : Op} : J2q P G ⟨ti, si, ni, vi, ri, ui, hi⟩ ⟨tj, sj, nj, vj, rj, uj, hj⟩ op = (Jfz op = true /\ @xop P G op ti (uj ++ si) ni ⟨fun v rd up nx' => v = vi /\ rd = ri /\ up = ui /\ nx' = hi⟩) := (rfl)
theorem Jak.late {id : Nat} {l : List Oper} {t : Jam} {s : Store} {nx : Nat} {Q : Cont KQ} (i0 j0 : Nat) (o : Oper) (hm : P.follows .mixedOrders = true) (ho : l[i0]? = some o) (hdst : o.dst.isSome = true)
   (h : @Jpa P G N ⟨l⟩ t s nx [] ⟨fun st zs => @Jl2 (zs.map Snap.fp) i0 j0 ⟨List.toArray l⟩ /\ (@Jaw _ zs[i0]? ⟨fun zi => @Jaw _ zs[j0]? ⟨fun zj => J2q P G zi zj o.op⟩⟩) /\ Q.k .normal st⟩) : @Jak P G N n0 id ⟨List.toArray l⟩ ⟨t, s, nx⟩ Q := by
 obtain ⟨recs, st', zs, h1, h2, h3, h4, h5⟩ := J2c (ops := List.toArray l) h
 simp only [List.nil_append] at h3 h4
 simp only [Jl2, Jqb, Bool.and_eq_true] at h3
 have hfp : zs.map Snap.fp = recs.map Rec.fp := by
   have hl : recs.length = l.length := h1.at.1
   apply List.ext_getElem?
   intro i
   by_cases hi : i < zs.length
   . obtain ⟨z, hz⟩ : ∃ z, zs[i]? = some z := ⟨_, List.getElem?_eq_getElem hi⟩
     obtain ⟨o', ho'⟩ : ∃ o', l[i]? = some o' := ⟨_, List.getElem?_eq_getElem (by rw [<- hl, <- h2.1]; exact hi)⟩
     have := (h2.2 0 i z o' hz ho').1
     rw [List.getElem?_map, List.getElem?_map, hz, this]; rfl
   . rw [List.getElem?_eq_none (by simpa using hi), List.getElem?_eq_none (by rw [List.length_map, <- h2.1]; omega)]
 rw [hfp] at h3
 refine J7e hm (by simpa using h1) h3.1 (J68 h3.2) ?_ h5
 right
 obtain ⟨zi, hzi, h6⟩ := Jav.1 h4
 obtain ⟨zj, hzj, hn, h7⟩ := Jav.1 h6
 have hl : recs.length = l.length := h1.at.1
 have hjl : j0 < l.length := by rw [<- hl, <- h2.1]; exact (gsI.1 hzj).1
 obtain ⟨e1, e2, e3⟩ := h2.2 0 i0 zi o hzi ho
 obtain ⟨f1, _, _⟩ := h2.2 0 j0 zj _ hzj (List.getElem?_eq_getElem hjl)
 refine ⟨_, _, e1, f1, fun o' stt v ho' hs ht hok hput => ?_⟩
 have : o' = o := by
   have : l[i0]? = some o' := by simpa using ho'
   rw [ho] at this; cases this; rfl
 subst this
 rw [Nat.zero_add] at e2 e3
 rw [<- e2] at hs
 rw [<- e3] at ht
 rw [hs, ht]
 obtain ⟨v', rd, up, nx', ⟨k1, k2, k3, k4⟩, hok'⟩ := Jo4 (Jtb hn h7)
 subst k1; subst k2; subst k3; subst k4
 have hv : zi.v = v := by
   cases hd : o'.dst with
   | none => rw [hd] at hdst; cases hdst
   | some d =>
     simp only [hd, putA, List.cons.injEq, Prod.mk.injEq, true_and, and_true] at hput
     exact hput
 rw [<- hv]; exact hok'
end
end Go.Am
namespace Go.Am
open Go
structure Leads (G : Jaf) (N n0 : Nat) (st' st : St) : Prop where
 run : ∀ [Base] (F : Nat -> Prop) (φ : Places) (a : Act) (w : World), Rel G N n0 F st' φ a w ->
 ∃ φ', Rel G N n0 F st φ' a w /\ (∀ b, b < n0 -> φ' b = φ b) /\ ∀ F' : Nat -> Prop, Step (ownF F' φ st'.s) (ownF F' φ' st.s) w w
theorem Leads.of_sub {G N n0} {st' st : St} {ρ : List Nat} (h : Sub ρ n0 st' st) : Leads G N n0 st' st := ⟨fun _ _ _ _ hr => ⟨_, hr.sub h⟩⟩
theorem Leads.trans {G N n0} {a b c : St} (h : Leads G N n0 a b) (k : Leads G N n0 b c) : Leads G N n0 a c := .mk fun F φ x w hr => by
 obtain ⟨φ1, h1, h2, h3⟩ := h.run F φ x w hr
 obtain ⟨φ2, k1, k2, k3⟩ := k.run F φ1 x w h1
 exact ⟨φ2, k1, fun b hb => (k2 b hb).trans (h2 b hb), fun F' => (h3 F').trans (k3 F')⟩
def FrzB (s : Store) (B : List Nat) (y x : ABlk) : Prop := y = x \/ ∃ k rows rows', y = .cells k rows /\ x = .cells k rows' /\
 ∀ (i j : Nat) row' x', rows'[i]? = some row' -> row'[j]? = some x' -> ∃ row z, rows[i]? = some row /\ row[j]? = some z /\ FrzK s (· ∈ B) z x'
structure Freeze (B : List Nat) (st' st : St) : Prop where
 nx : st.nx = st'.nx
 slots : ∀ d, FrzK st'.s (· ∈ B) (slot st'.t d) (slot st.t d)
 blocks : ∀ b x, get st.s b = some x -> b ∉ B /\ ∃ y, get st'.s b = some y /\ FrzB st'.s B y x
theorem Freeze.leads {G N n0} {B : List Nat} {st' st : St} (h : Freeze B st' st) : Leads G N n0 st' st := .mk fun F φ a w hr => by
 have hsub : ∀ (F' : Nat -> Prop) β, ownF F' φ st.s β -> ownF F' φ st'.s β := by
   rintro F' β (hF | ⟨b, x, p, h1, h2, rfl⟩)
   . exact .inl hF
   . obtain ⟨_, y, e, _⟩ := h.blocks b x h1
     exact .inr ⟨b, y, p, e, h2, rfl⟩
 have hstF : ∀ F' : Nat -> Prop, Step (ownF F' φ st'.s) (ownF F' φ st.s) w w := fun F' => ⟨fun β _ hn => ⟨rfl, fun h' => hn (hsub F' β h')⟩, Nat.le_refl _, fun _ arr _ h => ⟨arr, h, rfl⟩, rfl, rfl, rfl⟩
 have hh : Hides F φ st'.s (· ∈ B) (ownF F φ st.s) := by
   refine ⟨hsub F, fun b x p hB h1 h2 h3 => ?_⟩
   rcases h3 with h3 | ⟨c, y, q, k1, k2, k3⟩
   . exact hr.sr.disj b x p h1 h2 h3
   . obtain ⟨hc, z, k4, _⟩ := h.blocks c y k1
     have := hr.sr.inj c b z x q p k4 h1 k2 h2 k3
     subst this
     exact hc hB
 refine ⟨φ, ⟨⟨?_, ?_, ?_, hr.sr.fsize, ?_⟩, ?_, ?_, ⟨hr.tr.size, ?_⟩, hr.side.mono (hstF _) rfl⟩, fun _ _ => rfl, hstF⟩
 . intro b x hx
   obtain ⟨_, y, e, hf⟩ := h.blocks b x hx
   have hb := hr.sr.blk b y e
   rcases hf with rfl | ⟨k, rows, rows', rfl, rfl, hc⟩
   . exact hb.mono (fun _ _ h => h) (hstF F) (fun _ _ => rfl)
   . obtain ⟨β, δ, arr, T, e1, e2, e3⟩ := hb
     refine ⟨β, δ, arr, T, e1, e2, fun i j row x hrow hx => ?_⟩
     obtain ⟨row0, z, g1, g2, g3⟩ := hc i j row x hrow hx
     obtain ⟨hj, v, hv, hz⟩ := e3 i j row0 z g1 g2
     exact ⟨hj, v, hv, VR.frzK hr.sr hh hz g3⟩
 . intro b c x z p p' h1 h2 h3 h4 h5
   obtain ⟨_, y, e, _⟩ := h.blocks b x h1
   obtain ⟨_, y', e', _⟩ := h.blocks c z h2
   exact hr.sr.inj b c y y' p p' e e' h3 h4 h5
 . intro b x p h1 h2
   obtain ⟨_, y, e, _⟩ := h.blocks b x h1
   exact hr.sr.disj b y p e h2
 . intro g k rows hg
   obtain ⟨h1, h2, h3⟩ := hr.sr.glob g k rows hg
   exact ⟨h1, fun h' => h2 (hsub F g h'), h3.mono (hstF F) h1 h2⟩
 . intro b hb
   exact hr.fresh b (by rw [<- h.nx]; exact hb)
 . rw [h.nx]; exact hr.base
 . intro d
   exact VR.frzK hr.sr hh (hr.tr.slots d) (h.slots d)
section
variable {P : Program} {G : Jaf} {N n0 : Nat}
theorem Jfm.introL {γ : Type} {c : Code} {st : St} {Q : Exit -> St -> Prop} (S : γ -> St) (I : γ -> Prop) (μ : γ -> Nat) (g0 : γ) (hi : I g0) (h0 : Leads G N n0 st (S g0))
   (round : ∀ g, I g -> AEv P G N n0 c (S g) (Jf3 (fun st' => ∃ g', I g' /\ μ g' < μ g /\ Leads G N n0 st' (S g')) Q)) : Jfm P G N n0 c st Q := by
 refine ⟨fun F φ a w hr => ?_⟩
 let J (g : γ) (a' : Act) (w' : World) : Prop := I g /\ ∃ φ', Rel G N n0 F (S g) φ' a' w' /\ (∀ b, b < n0 -> φ' b = φ b) /\ ∀ F' : Nat -> Prop, Step (ownF F' φ st.s) (ownF F' φ' (S g).s) w w'
 let M (a' : Act) (w' : World) (n : Nat) : Prop := ∃ g, μ g = n /\ J g a' w'
 let m (a' : Act) (w' : World) : Nat := open Classical in if h : ∃ n, M a' w' n then Classical.choose (exists_least _ h) else 0
 have hm : ∀ a' w' g, J g a' w' -> m a' w' <= μ g := fun a' w' g hg => by
   have hex : ∃ n, M a' w' n := ⟨_, g, rfl, hg⟩
   simp only [m, dif_pos hex]
   exact (Classical.choose_spec (exists_least _ hex)).2 _ ⟨g, rfl, hg⟩
 refine wpIn_loop (fun a' w' => ∃ g, J g a' w') m ?_ ?_
 . obtain ⟨φ0, h1, h2, h3⟩ := h0.run F φ a w hr
   exact ⟨g0, hi, _, h1, h2, h3⟩
 . intro a1 w1 hex
   have hexn : ∃ n, M a1 w1 n := let ⟨g, hg⟩ := hex; ⟨_, g, rfl, hg⟩
   have hmin : m a1 w1 = Classical.choose (exists_least _ hexn) := by simp only [m, dif_pos hexn]
   obtain ⟨g, hgm, hJ⟩ := (Classical.choose_spec (exists_least _ hexn)).1
   obtain ⟨hI, φ1, hr1, hb1, hs1⟩ := id hJ
   refine wpIn_mono ((round g hI).run F φ1 a1 w1 hr1) fun e a2 w2 ha => ?_
   have ha := After.trans (st := st) hb1 hs1 ha
   cases e with
   | normal =>
     obtain ⟨st', φ', ⟨g', hI', hlt, hsub⟩, hr', hb', hs'⟩ := ha
     obtain ⟨φ'', k1, k2, k3⟩ := hsub.run F φ' a2 w2 hr'
     have hJ' : J g' a2 w2 := ⟨hI', _, k1, fun b hb => (k2 b hb).trans (hb' b hb), fun F' => (hs' F').trans (k3 F')⟩
     refine ⟨⟨g', hJ'⟩, ?_⟩
     rw [hmin, <- hgm]
     exact Nat.lt_of_le_of_lt (hm a2 w2 g' hJ') hlt
   | _ => exact ha
theorem Jag.goL {γ : Type} {c : Cont Code} {st : St} {Q : Cont KQ} (S : γ -> St) (I : γ -> Prop) (μ : γ -> Nat) (g0 : γ) (hi : I g0) (h0 : Leads G N n0 st (S g0))
   (round : ∀ g, I g -> @xc P G N n0 c (S g).t (S g).s (S g).nx ⟨fun x st' => @Jf9 x st' ⟨fun st' => ∃ g', I g' /\ μ g' < μ g /\ Leads G N n0 st' (S g')⟩ Q⟩) : @Jag P G N n0 c st Q :=
 Jfm.introL S I μ g0 hi h0 fun g hg => (Jd9 _ _ _ (round g hg)).mono fun x st' h => by
   cases x with
   | normal => exact h
   | _ => exact h
theorem Kgw (us t : Jam) (d : Nat) : (∃ p ∈ us, p.1 = d /\ slot (us ++ t) d = p.2) \/ ((∀ p ∈ us, p.1 ≠ d) /\ slot (us ++ t) d = slot t d) := by
 induction us with
 | nil => exact .inr ⟨by simp, rfl⟩
 | cons p us ih =>
   obtain ⟨e, x⟩ := p
   by_cases h : e = d
   . exact .inl ⟨(e, x), by simp, h, by simp [slot, h]⟩
   . rcases ih with ⟨p, hp, h1, h2⟩ | ⟨h1, h2⟩
     . exact .inl ⟨p, by simp [hp], h1, by simp [slot, h, h2]⟩
     . refine .inr ⟨fun p hp => ?_, by simp [slot, h, h2]⟩
       rcases List.mem_cons.1 hp with rfl | hp
       . exact h
       . exact h1 p hp
theorem Freeze.of {B : List Nat} {st' : St} (us : Jam) (ups : Store) (hu : ∀ p ∈ us, FrzK st'.s (· ∈ B) (slot st'.t p.1) p.2)
   (hb : ∀ p ∈ ups, ∀ x, p.2 = some x -> p.1 ∉ B /\ ∃ y, get st'.s p.1 = some y /\ FrzB st'.s B y x) (hB : ∀ b ∈ B, b ∈ keys ups) : Freeze B st' ⟨us ++ st'.t, ups ++ st'.s, st'.nx⟩ where
 nx := rfl
 slots d := by
   show FrzK _ _ _ (slot (us ++ st'.t) d)
   rcases Kgw us st'.t d with ⟨p, hp, rfl, h2⟩ | ⟨_, h2⟩
   . rw [h2]; exact hu p hp
   . rw [h2]; exact .keep _
 blocks b x hx := by
   have hx2 : get (ups ++ st'.s) b = some x := hx
   rw [get_append] at hx2
   split at hx2
   . have := get_mem hx2
     exact hb (b, some x) this x rfl
   . rename_i hk
     exact ⟨fun h => hk (hB b h), x, hx2, .inl rfl⟩
theorem Leads.frz_sub {B : List Nat} {st' st : St} {ρ : List Nat} (us : Jam) (ups : Store) (hf : Freeze B st' ⟨us ++ st'.t, ups ++ st'.s, st'.nx⟩) (hs : SubX ρ n0 ⟨us ++ st'.t, ups ++ st'.s, st'.nx⟩ st) : Leads G N n0 st' st :=
 hf.leads.trans (.of_sub hs.sub)
theorem Leads.subx {st' st : St} {ρ : List Nat} (hs : SubX ρ n0 st' st) : Leads G N n0 st' st := .of_sub hs.sub
theorem Jag.goK {γ : Type} {c : Cont Code} {t : Jam} {s : Store} {nx : Nat} {Q : Cont KQ} (keep keepB : List Nat) (e : Nat) (M : Nat -> γ -> Jam) (B : Nat -> γ -> Store) (I : γ -> Prop) (μ : γ -> Nat) (g0 : γ) (hi : I g0)
   (h0 : Leads G N n0 ⟨t, s, nx⟩ ⟨M nx g0 ++ pick keep t, B nx g0 ++ Jb6 keepB s, nx + e⟩)
   (round : ∀ g, I g -> @xc P G N n0 c (M nx g ++ pick keep t) (B nx g ++ Jb6 keepB s) (nx + e) ⟨fun x st' => @Jf9 x st' ⟨fun st' => ∃ g', I g' /\ μ g' < μ g /\
     Leads G N n0 st' ⟨M nx g' ++ pick keep t, B nx g' ++ Jb6 keepB s, nx + e⟩⟩ Q⟩) : @Jag P G N n0 c ⟨t, s, nx⟩ Q :=
 Jag.goL (fun g => ⟨M nx g ++ pick keep t, B nx g ++ Jb6 keepB s, nx + e⟩) I μ g0 hi h0 round
end
end Go.Am
namespace Go.Am
open Go
def Jkv (n : Nat) (L : List (List (List AV))) : Store := (List.range L.length).map fun i => (n + i, accB 1 (L.getD i []))
def Jfv (n : Nat) (L : List (List (List AV))) : List AV := (List.range L.length).map fun i => .acc (n + i) 1 (L.getD i []).length
theorem Kay {n : Nat} {L : List (List (List AV))} : (Jfv n L).length = L.length := by simp [Jfv]
theorem Kax {n : Nat} {L : List (List (List AV))} {j : Nat} (h : j < L.length) : (Jfv n L)[j]? = some (.acc (n + j) 1 (L.getD j []).length) := by simp [Jfv, h]
theorem J9g {s : Store} {n : Nat} {f : Nat -> Option ABlk} {b : Nat} : ∀ {m : Nat}, get (((List.range m).map fun i => (n + i, f i)) ++ s) b = if n <= b /\ b < n + m then f (b - n) else get s b := by
 have key : ∀ (l : List Nat), l.Nodup -> get ((l.map fun i => (n + i, f i)) ++ s) b = if n <= b /\ (b - n) ∈ l then f (b - n) else get s b := by
   intro l
   induction l with
   | nil => intro _; simp
   | cons i l ih =>
     intro hn
     rw [List.map_cons, List.cons_append]
     simp only [get]
     by_cases e : n + i = b
     . rw [if_pos e, if_pos ⟨by omega, by rw [<- e]; simp⟩, <- e]
       congr 1; omega
     . rw [if_neg e, ih (List.nodup_cons.1 hn).2]
       by_cases h : n <= b /\ (b - n) ∈ l
       . rw [if_pos h, if_pos ⟨h.1, List.mem_cons_of_mem _ h.2⟩]
       . rw [if_neg h, if_neg]
         rintro ⟨h1, h2⟩
         rcases List.mem_cons.1 h2 with h2 | h2
         . omega
         . exact h ⟨h1, h2⟩
 intro m
 rw [key (List.range m) List.nodup_range]
 by_cases h : n <= b /\ b < n + m
 . rw [if_pos h, if_pos ⟨h.1, by rw [List.mem_range]; omega⟩]
 . rw [if_neg h, if_neg]
   rintro ⟨h1, h2⟩
   rw [List.mem_range] at h2
   omega
theorem Jxa {s : Store} {n : Nat} {L : List (List (List AV))} {b : Nat} : get (Jkv n L ++ s) b = if n <= b /\ b < n + L.length then accB 1 (L.getD (b - n) []) else get s b := J9g (f := fun i => accB 1 (L.getD i []))
theorem J9f {s : Store} {n : Nat} {L : List (List (List AV))} {j : Nat} (h : j < L.length) : get (Jkv n L ++ s) (n + j) = accB 1 (L.getD j []) := by
 rw [Jxa, if_pos ⟨by omega, by omega⟩]; congr 2; omega
theorem J02 {ρ : List Nat} {b : Nat -> Nat} {f : Nat -> Nat} : ∀ {l : List Nat}, (∀ i ∈ l, ρ[f i]? = some (b i)) -> ∀ (k : Nat -> Nat), renL ρ (l.map fun i => .acc (f i) 1 (k i)) = some (l.map fun i => .acc (b i) 1 (k i))
 | [], _, _ => rfl
 | i :: l, h, k => by
   rw [List.map_cons, renL, renA, h i (by simp)]
   simp only [Option.map_some, Option.bind_some]
   rw [J02 (fun j hj => h j (by simp [hj])) k]
   rfl
theorem J2j : ∀ {ys zs : List AV}, ys.length = zs.length -> (∀ (i : Nat) y z, ys[i]? = some y -> zs[i]? = some z -> wkn y z) -> wknL ys zs
 | [], [], _, _ => by simp [wknL]
 | [], _ :: _, h, _ => by simp at h
 | _ :: _, [], h, _ => by simp at h
 | y :: ys, z :: zs, h, k => by
   simp only [wknL]
   exact ⟨k 0 y z rfl rfl, J2j (by simpa using h) fun i u v hu hv => k (i + 1) u v (by simpa using hu) (by simpa using hv)⟩
theorem Leads.kids {G : Jaf} {N n0 : Nat} {t' t : Jam} {s' K : Store} {nx' a n nx : Nat} {L : List (List (List AV))} {R : List AV} (m : Nat) (b : Nat -> Nat) (h0 : n0 <= n) (han : a < n) (hnx : n + L.length + m <= nx)
   (hK : ∀ p ∈ K, ∀ x, p.2 = some x -> (p.1 < n \/ (n + L.length <= p.1 /\ p.1 < n + L.length + m)) /\ get s' p.1 = some x /\ ∀ ρ : List Nat, (∀ i, (i < n \/ (n + L.length <= i /\ i < n + L.length + m)) -> ρ[i]? = some i) -> renB ρ x = some x)
   (ht : ∀ p ∈ t, ∀ ρ : List Nat, (∀ i, (i < n \/ (n + L.length <= i /\ i < n + L.length + m)) -> ρ[i]? = some i) -> ∃ z, renA ρ p.2 = some z /\ wkn (slot t' p.1) z)
   (ha : get s' a = some (.cells L.length [R])) (hRl : R.length = L.length) (hR : ∀ i, i < L.length -> ∃ y, R[i]? = some y /\ wkn y (.acc (b i) 1 (L.getD i []).length))
   (hb : ∀ i, i < L.length -> ∀ x, accB 1 (L.getD i []) = some x -> get s' (b i) = some x) (hbn : ∀ i, i < L.length -> n <= b i /\ (b i < n + L.length \/ n + L.length + m <= b i)) (hbi : ∀ i j, i < L.length -> j < L.length -> b i = b j -> i = j)
   (hren : ∀ l ∈ L, ∀ ρ, renR ρ l = some l) : Leads G N n0 ⟨t', s', nx'⟩ ⟨t, (a, some (.cells L.length [Jfv n L])) :: (Jkv n L ++ K), nx⟩ := by
 have hρ : ∀ i, (i < n \/ (n + L.length <= i /\ i < n + L.length + m)) -> (List.range n ++ ((List.range L.length).map b ++ List.range' (n + L.length) m))[i]? = some i := fun i hi => by
   rcases hi with hi | hi
   . rw [List.getElem?_append_left (by simpa using hi)]
     simp [hi]
   . rw [List.getElem?_append_right (by simp; omega), List.getElem?_append_right (by simp; omega), List.getElem?_range' (by simp; omega)]
     simp only [List.length_range, List.length_map, Option.some.injEq]
     omega
 have hρb : ∀ i, i < L.length -> (List.range n ++ ((List.range L.length).map b ++ List.range' (n + L.length) m))[n + i]? = some (b i) := fun i hi => by
   rw [List.getElem?_append_right (by simp), List.getElem?_append_left (by simp; omega)]
   simp [hi]
 refine .of_sub (ρ := List.range n ++ ((List.range L.length).map b ++ List.range' (n + L.length) m)) ⟨fun p hp => ht p hp _ hρ, ?_, ?_, ?_, ?_⟩
 . intro p hp x hx
   rcases List.mem_cons.1 hp with rfl | hp
   . simp only [Option.some.injEq] at hx
     subst hx
     refine ⟨a, .cells L.length [(List.range L.length).map fun i => .acc (b i) 1 (L.getD i []).length], _, hρ a (.inl han), ?_, ha, .inr ⟨_, _, _, rfl, rfl, ?_⟩⟩
     . simp only [renB, renR, Jfv]
       rw [J02 (fun i hi => hρb i (by simpa using hi)) (fun i => (L.getD i []).length)]
       rfl
     . simp only [wknR, and_true]
       refine J2j (by simp [hRl]) fun i y z hy hz => ?_
       have hi : i < L.length := by rw [<- hRl]; exact (gsI.1 hy).1
       obtain ⟨y', h1, h2⟩ := hR i hi
       rw [hy] at h1; cases h1
       rw [List.getElem?_map, List.getElem?_range hi] at hz
       simp only [Option.map_some, Option.some.injEq] at hz
       subst hz
       exact h2
   . rcases List.mem_append.1 hp with hp | hp
     . obtain ⟨i, hi, rfl⟩ := List.mem_map.1 hp
       rw [List.mem_range] at hi
       have hl : L.getD i [] ∈ L := by rw [List.getD_eq_getElem?_getD, List.getElem?_eq_getElem hi]; exact List.getElem_mem hi
       refine ⟨b i, x, x, hρb i hi, ?_, hb i hi x hx, .inl rfl⟩
       simp only [accB] at hx
       split at hx
       . cases hx
       . cases hx
         simp only [renB, hren _ hl, Option.map_some]
     . obtain ⟨h1, h2, h3⟩ := hK p hp x hx
       exact ⟨p.1, x, x, hρ _ h1, h3 _ hρ, h2, .inl rfl⟩
 . rw [List.nodup_append]
   refine ⟨List.nodup_range, ?_, ?_⟩
   . rw [List.nodup_append]
     refine ⟨?_, List.nodup_range' .., ?_⟩
     . rw [List.nodup_iff_pairwise_ne, List.pairwise_map]
       have := @List.nodup_range L.length
       rw [List.nodup_iff_pairwise_ne] at this
       refine this.imp_of_mem fun {i j} hi hj hij e => ?_
       rw [List.mem_range] at hi hj
       exact hij (hbi i j hi hj e)
     . intro i hi j hj e
       obtain ⟨k, hk, rfl⟩ := List.mem_map.1 hi
       rw [List.mem_range] at hk
       rw [List.mem_range'_1] at hj
       have := hbn k hk
       omega
   . intro i hi j hj e
     rw [List.mem_range] at hi
     rcases List.mem_append.1 hj with hj | hj
     . obtain ⟨k, hk, rfl⟩ := List.mem_map.1 hj
       rw [List.mem_range] at hk
       have := hbn k hk
       omega
     . rw [List.mem_range'_1] at hj
       omega
 . simp; omega
 . rw [List.take_append_of_le_length (by simpa using h0), List.take_range, Nat.min_eq_left h0]
def Stay (n l m i : Nat) : Prop := i < n \/ (n + l <= i /\ i < n + l + m)
def KidA (ok : Nat -> Prop) (y x : AV) : Prop := wkn y x /\ match x with
 | .ptr b _ _ _ => ok b
 | .ref b _ _ _ _ => ok b
 | .acc b _ _ => ok b
 | x => Jap x = true
def KidT (ok : Nat -> Prop) (t' : Jam) : Jam -> Prop
 | [] => True
 | p :: t => KidA ok (slot t' p.1) p.2 /\ KidT ok t' t
def KidB (ok : Nat -> Prop) (s' : Store) (b : Nat) : Option ABlk -> Prop
 | none => True
 | some (.cells k rows) => ok b /\ get s' b = some (.cells k rows) /\ rows.all Jay = true
 | some _ => False
def KidS (ok : Nat -> Prop) (s' : Store) : Store -> Prop
 | [] => True
 | p :: K => KidB ok s' p.1 p.2 /\ KidS ok s' K
theorem KidA.run {ok : Nat -> Prop} {y x : AV} (h : KidA ok y x) {ρ : List Nat} (hρ : ∀ i, ok i -> ρ[i]? = some i) : ∃ z, renA ρ x = some z /\ wkn y z := by
 obtain ⟨h1, h2⟩ := h
 cases x with
 | ptr b k i j => simp only at h2; exact ⟨_, by rw [renA, hρ b h2]; rfl, h1⟩
 | ref b k i n c => simp only at h2; exact ⟨_, by rw [renA, hρ b h2]; rfl, h1⟩
 | acc b k n => simp only at h2; exact ⟨_, by rw [renA, hρ b h2]; rfl, h1⟩
 | _ => exact ⟨_, Jg9.1 _ h2, h1⟩
theorem KidT.all {ok : Nat -> Prop} {t' : Jam} : ∀ {t : Jam}, KidT ok t' t -> ∀ p ∈ t, KidA ok (slot t' p.1) p.2
 | [], _, p, hp => by cases hp
 | q :: t, h, p, hp => by
   rcases List.mem_cons.1 hp with rfl | hp
   . exact h.1
   . exact KidT.all h.2 p hp
theorem KidS.all {ok : Nat -> Prop} {s' : Store} : ∀ {K : Store}, KidS ok s' K -> ∀ p ∈ K, KidB ok s' p.1 p.2
 | [], _, p, hp => by cases hp
 | q :: t, h, p, hp => by
   rcases List.mem_cons.1 hp with rfl | hp
   . exact h.1
   . exact KidS.all h.2 p hp
theorem Jr6 {ρ : List Nat} : ∀ {rows : List (List AV)}, rows.all Jay = true -> renR ρ rows = some rows
 | [], _ => rfl
 | r :: rs, h => by
   simp only [List.all_cons, Bool.and_eq_true] at h
   rw [renR, Jjn h.1, Jr6 h.2]; rfl
attribute [simp] KidA KidT KidB KidS
theorem Leads.kid {G : Jaf} {N n0 : Nat} {t' t : Jam} {s' K : Store} {nx' a n nx : Nat} {L : List (List (List AV))} {R : List AV} (m : Nat) (b : Nat -> Nat) (h0 : n0 <= n) (han : a < n) (hnx : n + L.length + m <= nx)
   (hK : KidS (Stay n L.length m) s' K) (ht : KidT (Stay n L.length m) t' t)
   (ha : get s' a = some (.cells L.length [R])) (hRl : R.length = L.length) (hR : ∀ i, i < L.length -> ∃ y, R[i]? = some y /\ wkn y (.acc (b i) 1 (L.getD i []).length))
   (hb : ∀ i, i < L.length -> ∀ x, accB 1 (L.getD i []) = some x -> get s' (b i) = some x) (hbn : ∀ i, i < L.length -> n <= b i /\ (b i < n + L.length \/ n + L.length + m <= b i)) (hbi : ∀ i j, i < L.length -> j < L.length -> b i = b j -> i = j)
   (hren : ∀ l ∈ L, l.all Jay = true) : Leads G N n0 ⟨t', s', nx'⟩ ⟨t, (a, some (.cells L.length [Jfv n L])) :: (Jkv n L ++ K), nx⟩ := by
 refine .kids m b h0 han hnx (fun p hp x hx => ?_) (fun p hp ρ hρ => (ht.all p hp).run hρ) ha hRl hR hb hbn hbi fun l hl ρ => Jr6 (hren l hl)
 have h := hK.all p hp
 rw [hx] at h
 cases x with
 | cells k rows =>
   obtain ⟨h1, h2, h3⟩ := h
   exact ⟨h1, h2, fun ρ _ => by rw [renB, Jr6 h3]; rfl⟩
 | _ => exact h.elim
end Go.Am
