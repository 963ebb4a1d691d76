/- Lemmas and contracts for the proof of a statement of this seat. -/
import Derived.Test.YtmfjjncfdpejiaaGreatDoorZA4
import Derived.Lib.Overlaps
import Derived.Below
import Derived.Test.YtmfjjncfdpejiaaGreatDoorZA2
import Derived.WideKeyRuns
set_option linter.unusedVariables false
set_option linter.unusedSimpArgs false
namespace Go.Am
open Go
abbrev EvR := AV × List Nat × Store × Nat
def Jfb {α : Type} (b : Bool) (x : Option α) : Option α := if b = true then x else none
def J0r (P : Program) (y : TyI) (parts : List (Nat × AV)) : Option (List AV) := match y.td with
   | .struct fs => if (fs.all fun p => p.2.1 != 0) = true then Jdg (Jfy fs) y.zero parts else none
   | .array _ e => (tyOf P e).bind fun ye => Jdg (Jfp ye.size) y.zero parts
   | _ => none
def evop (P : Program) (calls : Nat -> List AV -> Option AV) (op : Op) (ρ : Operand -> AV) (s : Store) (nx : Nat) : Option EvR :=
 match op with
 | .move x | .assign x => some (ρ x, [], [], nx)
 | .alloc t => (tyOf P t).bind fun y => Jfb (decide (y.zero.length = y.size)) (some (.ptr nx y.size 0 0, [], [(nx, some (.cells y.size [y.zero]))], nx + 1))
 | .store t x v => (tyOf P t).bind fun y => match ρ x with
   | .ptr b k i j => match get s b with
     | some (.cells k' rows) => match rows[i]? with
       | some row => Jfb (decide (k' = k /\ (ρ v).cells.length = y.size /\ 0 < y.size /\ j + y.size <= row.length) && (ρ v).cells.all AV.oneCell) (some (.any, [b], [(b, some (.cells k (rows.set i (lay row j (ρ v).cells))))], nx))
       | none => none
     | _ => none
   | _ => none
 | .build t parts => (tyOf P t).bind fun y => (J0r P y (parts.toList.map fun (i, x) => (i, ρ x))).map fun cs => (.agg cs, [], [], nx)
 | .buildSlice t len parts => (tyOf P t).bind fun y => match y.td with
   | .slice e => (tyOf P e).bind fun ye => Jfb (decide (ye.zero.length = ye.size /\ 0 < ye.size /\ len * ye.size <= 16777216))
       ((Jew ye.size (List.replicate len ye.zero) (parts.toList.map fun (i, x) => (i, ρ x))).map fun rows => (.ref nx ye.size 0 len (some len), [], [(nx, some (.cells ye.size rows))], nx + 1))
   | _ => none
 | .makeFunc f first cap => Jfb (first.isEmpty && Jes f) (some (.fn f (cap.toList.map ρ), [], [], nx))
 | .call c => match c.callee with
   | .value f => match ρ f with
     | .fn (.func n) cap => (calls n (c.args.toList.map ρ ++ cap)).map fun r => (r, [], [], nx)
     | _ => none
   | _ => none
 | _ => none
section
variable {P : Program} {G : Jae} {calls : Nat -> List AV -> Option AV}
theorem Jgj {α : Type} {b : Bool} {x : Option α} {y : α} (h : Jfb b x = some y) : b = true /\ x = some y := by
 unfold Jfb at h
 split at h
 . exact ⟨by assumption, h⟩
 . cases h
theorem J0t (hc : ∀ f args r, calls f args = some r -> Pure P G f args r) {op : Op} {ρ : Operand -> AV} {s : Store} {nx : Nat} {q : EvR} {K : KT} (h : evop P calls op ρ s nx = some q) (hK : K q.1 q.2.1 q.2.2.1 q.2.2.2) :
   vop P G op ρ s nx K := by
 unfold evop at h
 split at h
 . cases h; exact hK
 . cases h; exact hK
 . rename_i t
   obtain ⟨y, hy, h⟩ := Option.bind_eq_some_iff.1 h
   obtain ⟨h1, h2⟩ := Jgj h
   cases h2
   exact Ja4.2 ⟨y, hy, by simpa using h1, hK⟩
 . rename_i t x v
   obtain ⟨y, hy, h⟩ := Option.bind_eq_some_iff.1 h
   refine Ja4.2 ⟨y, hy, ?_⟩
   split at h
   . rename_i b k i j hx
     rw [hx]
     split at h
     . rename_i k' rows hg
       split at h
       . rename_i row hr
         obtain ⟨h1, h2⟩ := Jgj h
         cases h2
         simp only [Bool.and_eq_true, decide_eq_true_eq] at h1
         obtain ⟨⟨rfl, e1, e2, e3⟩, e4⟩ := h1
         exact Jdn.2 ⟨rows, hg, Ja2.2 ⟨row, hr, e1, e2, e3, e4, hK⟩⟩
       . cases h
     . cases h
   . cases h
 . rename_i t parts
   obtain ⟨y, hy, h⟩ := Option.bind_eq_some_iff.1 h
   obtain ⟨cs, h1, rfl⟩ := Option.map_eq_some_iff.1 h
   exact Ja4.2 ⟨y, hy, Ja2.2 ⟨cs, h1, hK⟩⟩
 . rename_i t len parts
   obtain ⟨y, hy, h⟩ := Option.bind_eq_some_iff.1 h
   refine Ja4.2 ⟨y, hy, ?_⟩
   split at h
   . rename_i e htd
     obtain ⟨ye, hye, h⟩ := Option.bind_eq_some_iff.1 h
     obtain ⟨h1, h2⟩ := Jgj h
     obtain ⟨rows, h3, rfl⟩ := Option.map_eq_some_iff.1 h2
     simp only [decide_eq_true_eq] at h1
     rw [htd]
     exact Ja4.2 ⟨ye, hye, h1.1, h1.2.1, h1.2.2, Ja2.2 ⟨rows, h3, hK⟩⟩
   . cases h
 . rename_i f first cap
   obtain ⟨h1, h2⟩ := Jgj h
   cases h2
   simp only [Bool.and_eq_true, List.isEmpty_iff, Array.isEmpty_iff] at h1
   obtain ⟨hf, h1⟩ := h1
   subst hf
   exact ⟨h1, hK⟩
 . rename_i c
   split at h
   . rename_i f hcal
     split at h
     . rename_i n cap hf
       obtain ⟨r, h1, rfl⟩ := Option.map_eq_some_iff.1 h
       show Jjk P G c ρ s nx K
       unfold Jjk
       rw [hcal]
       simp only [hf]
       exact ⟨r, [], [], nx, (hc n _ r h1).gives, hK⟩
     . cases h
   . cases h
 . cases h
def Jkf (P : Program) (G : Jae) (calls : Nat -> List AV -> Option AV) (N : Nat) : List Oper -> St -> Option St
 | [], st => some st
 | o :: rest, st => match o.guard with
   | none => Jfb (Jd6 N o.dst) ((evop P calls o.op (Jag G st.t) st.s st.nx).bind fun q => Jkf P G calls N rest ⟨putA st.t o.dst q.1, q.2.2.1 ++ st.s, q.2.2.2⟩)
   | some _ => none
theorem Jra (hc : ∀ f args r, calls f args = some r -> Pure P G f args r) {N : Nat} {ops : Array Oper} : ∀ {l : List Oper} {st st' : St} {K : St -> Prop}, Jkf P G calls N l st = some st' -> K st' -> Je7 P G N ops l st K
 | [], st, st', K, h, hK => by cases h; exact hK
 | o :: rest, st, st', K, h, hK => by
   simp only [Jkf] at h
   split at h
   . rename_i hg
     obtain ⟨h1, h2⟩ := Jgj h
     obtain ⟨q, h3, h4⟩ := Option.bind_eq_some_iff.1 h2
     refine ⟨h1, ?_⟩
     rw [hg]
     exact J7u (J0t hc h3 (Jra hc h4 hK))
   . cases h
def Jg5 (P : Program) (G : Jae) (calls : Nat -> List AV -> Option AV) (N : Nat) : Code -> St -> Option (Exit × St)
 | .skip, st => some (.normal, st)
 | .region _ ops draw, st => Jfb (!draw) ((Jkf P G calls N ops.toList st).map fun st => (.normal, st))
 | .seq a b, st => match Jg5 P G calls N a st with
   | some (.normal, st) => Jg5 P G calls N b st
   | r => r
 | .ret, st => some (.ret, st)
 | _, _ => none
theorem Jkd (hc : ∀ f args r, calls f args = some r -> Pure P G f args r) {N n0 : Nat} : ∀ {c : Code} {st : St} {q : Exit × St} {Q : Exit -> St -> Prop}, Jg5 P G calls N c st = some q -> Q q.1 q.2 -> vc P G N n0 c st Q
 | .skip, st, q, Q, h, hQ => by cases h; exact hQ
 | .region _ ops draw, st, q, Q, h, hQ => by
   simp only [Jg5] at h
   obtain ⟨h1, h2⟩ := Jgj h
   obtain ⟨st', h3, rfl⟩ := Option.map_eq_some_iff.1 h2
   have hd : draw = false := by simpa using h1
   subst hd
   exact Jra (K := Q .normal) hc h3 hQ
 | .seq a b, st, q, Q, h, hQ => by
   simp only [Jg5] at h
   split at h
   . rename_i st1 h1
     exact Jkd hc (c := a) (Q := Je5 (fun st => vc P G N n0 b st Q) Q) h1 (Jkd hc (c := b) h hQ)
   . rename_i hne
     refine Jkd hc (c := a) (Q := Je5 (fun st => vc P G N n0 b st Q) Q) h ?_
     obtain ⟨e, st'⟩ := q
     cases e with
     | normal => exact absurd h (by intro h'; exact hne st' h')
     | _ => exact hQ
 | .ret, st, q, Q, h, hQ => by cases h; exact hQ
def Jkg (P : Program) (st : St) : List ResultVar -> Option (List AV)
 | [] => some []
 | .tmp d :: rs => (Jkg P st rs).map (slot st.t d :: ·)
 | .cell d T :: rs => (Jkg P st rs).bind fun us => (tyOf P T).bind fun y => match slot st.t d with
   | .ptr b k i j => match get st.s b with
     | some (.cells k' rows) => match rows[i]? with
       | some row => Jfb (decide (k' = k /\ y.agg = true /\ j + y.size <= row.length)) (some (.agg ((row.drop j).take y.size) :: us))
       | none => none
     | _ => none
   | _ => none
theorem Jna {st : St} : ∀ {rs : List ResultVar} {vs : List AV}, Jkg P st rs = some vs -> resA P st rs vs
 | [], vs, h => by cases h; rfl
 | .tmp d :: rs, vs, h => by
   obtain ⟨us, h1, rfl⟩ := Option.map_eq_some_iff.1 h
   exact ⟨us, rfl, Jna h1⟩
 | .cell d T :: rs, vs, h => by
   obtain ⟨us, h1, h⟩ := Option.bind_eq_some_iff.1 h
   obtain ⟨y, hy, h⟩ := Option.bind_eq_some_iff.1 h
   split at h
   . rename_i b k i j hx
     split at h
     . rename_i k' rows hg
       split at h
       . rename_i row hr
         obtain ⟨h2, h3⟩ := Jgj h
         cases h3
         simp only [decide_eq_true_eq] at h2
         obtain ⟨rfl, ha, hl⟩ := h2
         refine ⟨_, us, rfl, ⟨y, hy, ?_⟩, Jna h1⟩
         rw [hx]
         refine Jdn.2 ⟨rows, hg, Ja2.2 ⟨row, hr, ?_⟩⟩
         rw [if_pos ha]
         exact ⟨hl, rfl⟩
       . cases h
     . cases h
   . cases h
mutual
def evV (nk : Nat) (s : Store) : AV -> Option AV
 | .p x => some (.p x)
 | .nils => some (.p (.lst nk []))
 | .ref b k i n _ => match get s b with
   | some (.cells k' rows) => if k' = k /\ i + n <= rows.length then (unpR ((rows.drop i).take n)).map fun r => .p (.lst k r) else none
   | _ => none
 | .agg cs => (evL nk s cs).map .agg
 | .tup cs => (evL nk s cs).map .tup
 | .fn f cs => (evL nk s cs).map (.fn f)
 | .iptr k rows i j => some (.iptr k rows i j)
 | _ => none
def evL (nk : Nat) (s : Store) : List AV -> Option (List AV)
 | [] => some []
 | x :: xs => (evV nk s x).bind fun y => (evL nk s xs).map (y :: ·)
end
mutual
theorem Jrb {nk : Nat} {s : Store} : ∀ {a x : AV}, evV nk s a = some x -> FrzA s (fun _ => True) a x
 | .p _, x, h => by simp [evV] at h; subst h; exact .same _ rfl
 | .nils, x, h => by simp [evV] at h; subst h; exact .one _ _ (.nils nk)
 | .iptr .., x, h => by simp [evV] at h; subst h; exact .same _ rfl
 | .ref b k i n c, x, h => by
   simp only [evV] at h
   split at h
   . rename_i k' rows hg
     split at h
     . rename_i hk
       obtain ⟨rfl, hlen⟩ := hk
       obtain ⟨r, hr, rfl⟩ := Option.map_eq_some_iff.1 h
       have e := Jji hr
       have hl : r.length = n := by
         have := congrArg List.length e
         simp at this; omega
       exact .one _ _ (.rows trivial hg e hl)
     . cases h
   . cases h
 | .agg cs, x, h => by
   obtain ⟨q, hq, rfl⟩ := Option.map_eq_some_iff.1 (by simpa [evV] using h)
   have := Jke hq
   exact .agg _ _ this.1 this.2
 | .tup cs, x, h => by
   obtain ⟨q, hq, rfl⟩ := Option.map_eq_some_iff.1 (by simpa [evV] using h)
   have := Jke hq
   exact .tup _ _ this.1 this.2
 | .fn f cs, x, h => by
   obtain ⟨q, hq, rfl⟩ := Option.map_eq_some_iff.1 (by simpa [evV] using h)
   have := Jke hq
   exact .fn f _ _ this.1 this.2
 | .nilp, x, h => by simp [evV] at h
 | .ptr .., x, h => by simp [evV] at h
 | .map _, x, h => by simp [evV] at h
 | .nilm, x, h => by simp [evV] at h
 | .pmap .., x, h => by simp [evV] at h
 | .acc .., x, h => by simp [evV] at h
 | .ubool, x, h => by simp [evV] at h
 | .any, x, h => by simp [evV] at h
theorem Jke {nk : Nat} {s : Store} : ∀ {a x : List AV}, evL nk s a = some x -> x.length = a.length /\ ∀ (i : Nat) c d, a[i]? = some c -> x[i]? = some d -> FrzA s (fun _ => True) c d
 | [], x, h => by simp [evL] at h; subst h; exact ⟨rfl, fun i c d h => by simp at h⟩
 | a :: as, x, h => by
   simp only [evL, Option.bind_eq_some_iff, Option.map_eq_some_iff] at h
   obtain ⟨y, hy, ys, hys, rfl⟩ := h
   obtain ⟨h1, h2⟩ := Jke hys
   refine ⟨by simp [h1], fun i c d hc hd => ?_⟩
   cases i with
   | zero => simp at hc hd; subst hc; subst hd; exact Jrb hy
   | succ i => exact h2 i c d (by simpa using hc) (by simpa using hd)
end
def J0s (nk : Nat) (P : Program) (G : Jae) (calls : Nat -> List AV -> Option AV) (fn : Func) (c : Code) (args : List AV) : Option AV :=
 (Jg5 P G calls fn.ntmps c ⟨Jc4 0 args, [], 0⟩).bind fun q => (Jkg P q.2 fn.results.toList).bind fun vs => (evV nk q.2.s (resV vs)).bind fun r => match q.1 with
   | .ret | .normal => some r
   | _ => none
theorem Pure.of_ev (nk : Nat) (hc : ∀ f args r, calls f args = some r -> Pure P G f args r) {f : Nat} {fn : Func} {c : Code} {args : List AV} {r : AV} (hf : P.funcs[f]? = some fn) (hb : fn.body = some c) (hname : (fn.name == "runtime.NumGoroutine") = false)
   (hargs : args.length <= fn.ntmps) (hp : Ja9 args = true) (h : J0s nk P G calls fn c args = some r) : Pure P G f args r := by
 obtain ⟨q, h1, h⟩ := Option.bind_eq_some_iff.1 h
 obtain ⟨vs, h2, h⟩ := Option.bind_eq_some_iff.1 h
 obtain ⟨r', h3, h⟩ := Option.bind_eq_some_iff.1 h
 have he : (q.1 = .ret \/ q.1 = .normal) /\ r' = r := by
   obtain ⟨e, st⟩ := q
   cases e <;> simp at h ⊢ <;> exact h
 obtain ⟨he, rfl⟩ := he
 exact Pure.of_body hf hb hname rfl hargs hp (Jed c _ _ (Jkd hc h1 ⟨he, vs, Jna h2, Jrb h3⟩))
end
end Go.Am
namespace Go.Am
open Go
section
variable {P : Program} {G : Jae}
theorem Juu {φ own w b k i n c v} (h : VR φ own w (.ref b k i n c) v) : ∃ β δ cap arr T, φ b = some (β, δ) /\ n <= cap /\ v = .slice (some ⟨β, δ + i * k, none⟩) n cap /\ w.heap[β]? = some (Obj.cells arr T (0, 0)) /\ δ + (i + cap) * k <= arr.size := by
 cases h with
 | ref b k i n c β δ cap hφ hc hn room =>
   obtain ⟨arr, T, h1, h2⟩ := room
   exact ⟨β, δ, cap, arr, T, hφ, hn, rfl, h1, h2⟩
theorem J0y {f : Nat} {fn : Func} {tS tR e size : Nat} (hf : P.funcs[f]? = some fn) (hname : (fn.name == "runtime.NumGoroutine") = false) (hb : fn.body.isNone = true) (hn : Extern.findNext fn = none)
   (he : Extern.find fn = some (Extern.SlicesOverlaps.overlaps #[tS, tS] #[tR])) (ht : P.underlying tS = some (.slice e)) (hz : ∀ w, (Go.sizeOf e).run P w = .ok size w)
   {a b k k' i i' n n' : Nat} {c c' : Option Nat} {x y : ABlk} {s : Store} {nx : Nat} (ha : get s a = some x) (hb2 : get s b = some y) (hne : a ≠ b) (hk : 0 < k') (hn' : 0 < n') :
   Gives P G f [.ref a k i n c, .ref b k' i' n' c'] s nx (.p (.bool false)) [a, b] [] nx := by
 refine ⟨Nat.le_refl _, fun F φ s1 w vs hag hs _ hl hv => ?_⟩
 match vs, hl with
 | [u, v], _ =>
   obtain ⟨β, δ, cap, arr, T, h1, h2, rfl, h4, h5⟩ := Juu (hv 0 _ u rfl rfl)
   obtain ⟨β', δ', cap', arr', T', k1, k2, rfl, k4, k5⟩ := Juu (hv 1 _ v rfl rfl)
   have hbb : β ≠ β' := fun q => hne (hs.inj a b x y _ _ ((hag a (by simp)).trans ha) ((hag b (by simp)).trans hb2) h1 k1 q)
   have hsz : arr'.size ≠ 0 := by
     have : 0 < (i' + cap') * k' := Nat.mul_pos (by omega) hk
     omega
   have run := Lib.run_overlaps_apart (P := P) w tS tR e ht size hz ⟨β, δ + i * k, none⟩ ⟨β', δ' + i' * k', none⟩ n cap n' cap' hbb T T' arr.size arr'.size (by simp [World.shape?, h4]) (by simp [World.shape?, k4]) hsz
     (by simp [World.frozen?, h4]) (by simp [World.frozen?, h4])
   rw [run_callFunc_extern hf hname hb hn he]
   rw [run]
   exact ⟨φ, fun _ _ h => h, fun _ _ => rfl, hs, .p _ _ (.bool _), fun F' => Step.refl _ _⟩
end
end Go.Am
namespace Go.Am
open Go
end Go.Am
namespace Go.Am
open Go Go.RowKit
theorem Jvq {F : Nat -> Prop} {φ : Places} {s : Store} {w w' : World} {b g : Nat} {x : ABlk} (hb : Below w.heap.size w w') (hg : w.heap.size <= g) :
   Step (ownF F φ s) (ownF F (putP φ b (g, 0)) ((b, some x) :: s)) w w' where
 keep := fun β hβ ho => ⟨hb.block β hβ, by
   rintro (hF | ⟨c, y, p, h1, h2, rfl⟩)
   . exact ho (.inl hF)
   . by_cases e : c = b
     . subst e
       rw [Ja3] at h2
       cases h2
       simp only at hβ
       omega
     . rw [Ja5 e] at h2
       rw [Ja1 (Ne.symm e)] at h1
       exact ho (.inr ⟨c, y, p, h1, h2, rfl⟩)⟩
 size := hb.size
 shape := fun β arr T h => ⟨arr, by rw [hb.block β (Array.getElem?_eq_some_iff.1 h).1]; exact h, rfl⟩
 os := hb.os
 tape := hb.tape
 output := hb.output
theorem SR.fresh {G F} {φ : Places} {s : Store} {w w' : World} (h : SR G F φ s w) {b g : Nat} (hb : φ b = none) (hbl : Below w.heap.size w w') (hg : w.heap.size <= g) (x : ABlk)
   (hx : BR (putP φ b (g, 0)) (ownF F (putP φ b (g, 0)) ((b, some x) :: s)) w' b x) :
   SR G F (putP φ b (g, 0)) ((b, some x) :: s) w' := by
 refine h.change (Jdk hb) (Jvq hbl hg) ?_ ?_ ?_
 . intro c y hc
   by_cases e : c = b
   . subst e
     rw [Jek] at hc
     cases hc
     exact .inr hx
   . rw [Ja1 (Ne.symm e)] at hc
     refine .inl ⟨hc, fun p hp => ?_⟩
     obtain ⟨q, h1, h2⟩ := (h.blk c y hc).place
     rw [hp] at h1; cases h1
     exact hbl.block _ h2
 . intro c c' y y' p p' h1 h2 h3 h4 h5
   by_cases e : c = b
   . by_cases e' : c' = b
     . rw [e, e']
     . subst e
       rw [Ja3] at h3; cases h3
       rw [Ja5 e'] at h4
       rw [Ja1 (Ne.symm e')] at h2
       obtain ⟨q, k1, k2⟩ := (h.blk c' y' h2).place
       rw [h4] at k1; cases k1
       simp only at h5
       omega
   . by_cases e' : c' = b
     . subst e'
       rw [Ja3] at h4; cases h4
       rw [Ja5 e] at h3
       rw [Ja1 (Ne.symm e)] at h1
       obtain ⟨q, k1, k2⟩ := (h.blk c y h1).place
       rw [h3] at k1; cases k1
       simp only at h5
       omega
     . rw [Ja5 e] at h3
       rw [Ja5 e'] at h4
       rw [Ja1 (Ne.symm e)] at h1
       rw [Ja1 (Ne.symm e')] at h2
       exact h.inj c c' y y' p p' h1 h2 h3 h4 h5
 . intro c y p h1 h2 hF
   by_cases e : c = b
   . subst e
     rw [Ja3] at h2; cases h2
     have := h.fsize _ hF
     simp only at this
     omega
   . rw [Ja5 e] at h2
     rw [Ja1 (Ne.symm e)] at h1
     exact h.disj c y p h1 h2 hF
theorem J5j {G : Jae} {F : Nat -> Prop} {φ : Places} {s : Store} {w w' : World} {nx k n g cap : Nat} {rows : List (List AV)} {arr : Array Value} {T : TypeId} (h : SR G F φ s w) (hb : φ nx = none) (hbl : Below w.heap.size w w') (hg : w.heap.size <= g)
   (hh : w'.heap[g]? = some (.cells arr T (0, 0))) (hc : ∀ φ' own', Jax φ' own' w' k rows arr 0) (hn : n <= cap) (hsz : cap * k <= arr.size) :
   Post G F φ s w (.ref nx k 0 n none) [(nx, some (.cells k rows))] nx (nx + 1) (.slice (some ⟨g, 0, none⟩) n cap) w' := by
 refine ⟨putP φ nx (g, 0), Jdk hb, fun b hb' => Ja5 (by omega), ?_, ?_, fun F' => Jvq hbl hg⟩
 . exact h.fresh hb hbl hg _ ⟨g, 0, arr, T, Ja3, hh, hc _ _⟩
 . have := VR.ref (φ := putP φ nx (g, 0)) (own := ownF F (putP φ nx (g, 0)) ([(nx, some (.cells k rows))] ++ s)) (w := w') nx k 0 n none g 0 cap Ja3 (fun c' e => by cases e) hn ⟨arr, T, hh, by simpa using hsz⟩
   simpa using this
end Go.Am
namespace Go.Am
open Go
section
variable {P : Program}
theorem Jnf {k : Nat} {φ : Places} {own : Nat -> Prop} {w : World} {x : AV} {v : Value} {Kp : AV -> Prop} (hx : Kp x) (hv : VR φ own w x v)
   (heq : ∀ x y, Kp x -> Kp y -> ∃ c, eqA P 8 k x y = some c /\ (c = true ↔ y = x)) : ∀ (es : List (AV × AV)) (ms : List MapEntry) (i : Nat), (∀ e ∈ es, Kp e.1) -> Jdo φ own w es ms ->
   ((Instr.findAsking k v ms i).run P w = .ok none w /\ ∀ e ∈ es, e.1 ≠ x) \/
   ∃ j e m, (Instr.findAsking k v ms i).run P w = .ok (some (i + j, m.val)) w /\ es[j]? = some e /\ ms[j]? = some m /\ e.1 = x /\ ∀ (i' : Nat) e', i' < j -> es[i']? = some e' -> e'.1 ≠ x
 | [], [], i, _, _ => .inl ⟨rfl, by simp⟩
 | [], m :: ms, i, _, h => by have := h.1; simp at this
 | e :: es, [], i, _, h => by have := h.1; simp at this
 | e :: es, m :: ms, i, hk, h => by
   obtain ⟨c, h1, h2⟩ := heq x e.1 hx (hk e (by simp))
   have h3 := (h.2 0 e m rfl rfl).1
   have h4 := Jkc 8 10000 k x e.1 c v m.key h1 (by omega) hv h3
   have h5 : (Op.equal k v m.key).run P w = .ok c w := h4
   cases c with
   | true =>
     refine .inr ⟨0, e, m, ?_, rfl, rfl, h2.1 rfl, fun i' e' hi => by omega⟩
     simp [Instr.findAsking, h5]
   | false =>
     have hne : e.1 ≠ x := fun q => by have := h2.2 q; cases this
     have hes : Jdo φ own w es ms := ⟨by have := h.1; simpa using this, fun j e' m' he hm => h.2 (j + 1) e' m' (by simpa using he) (by simpa using hm)⟩
     rcases Jnf hx hv heq es ms (i + 1) (fun y hy => hk y (by simp [hy])) hes with ⟨k1, k2⟩ | ⟨j, e', m', k1, k2, k3, k4, k5⟩
     . refine .inl ⟨by simp [Instr.findAsking, h5, k1], fun y hy => ?_⟩
       rcases List.mem_cons.1 hy with rfl | hy
       . exact hne
       . exact k2 y hy
     . refine .inr ⟨j + 1, e', m', by simp [Instr.findAsking, h5, k1]; omega, by simpa using k2, by simpa using k3, k4, fun i' e2 hi he2 => ?_⟩
       cases i' with
       | zero => simp at he2; subst he2; exact hne
       | succ i' => exact k5 i' e2 (by omega) (by simpa using he2)
def IsIS (x : AV) : Prop := ∃ (n : Int) (s : List UInt8), x = .agg [.p (.int .i64 n), .p (.str s)]
theorem IsIS.val {φ : Places} {own : Nat -> Prop} {w : World} {n : Int} {s : List UInt8} {v : Value} (h : VR φ own w (.agg [.p (.int .i64 n), .p (.str s)]) v) : v = .agg ⟨[.int .i64 n, .string ⟨⟨s⟩⟩]⟩ := by
 obtain ⟨us, rfl, h1, h2⟩ := h.agg_inv
 match us, h1 with
 | [a, b], _ =>
   have e1 := (h2 0 _ a rfl rfl).int_inv
   have e2 := (h2 1 _ b rfl rfl).str_inv
   rw [e1, e2]
theorem J85 {k : Nat} (hwide : (match P.underlying k with | some (.array _ _) | some (.struct _) => true | _ => false) = true)
   (hcheck : ∀ (w : World) (em : Bool) (n : Int) (s : ByteArray), (Instr.checkKey em 10000 k (.agg ⟨[.int .i64 n, .string s]⟩)).run P w = .ok () w)
   (heq : ∀ (n m : Int) (s t : List UInt8), eqA P 8 k (.agg [.p (.int .i64 n), .p (.str s)]) (.agg [.p (.int .i64 m), .p (.str t)]) = some (decide (n = m /\ s = t))) : KeyOk P k IsIS where
 check := fun φ own w em x v hx hv => by
   obtain ⟨n, s, rfl⟩ := hx
   rw [IsIS.val hv]
   exact hcheck w em n _
 find := fun φ own w x v es ms hx hv hes h => by
   have e : (Instr.findKey k v ms).run P w = (Instr.findAsking k v ms).run P w := run_findKey_eq w hwide v ms
   rw [e]
   have := Jnf (P := P) (k := k) (Kp := IsIS) hx hv (fun x y hx hy => by
     obtain ⟨n, s, rfl⟩ := hx
     obtain ⟨m, t, rfl⟩ := hy
     exact ⟨_, heq n m s t, by simp; grind⟩) es ms 0 hes h
   simpa using this
 stays := fun φ own w x v v' hx hv hv' => by
   obtain ⟨n, s, rfl⟩ := hx
   rw [IsIS.val hv, IsIS.val hv']
   have e : Instr.sameBits 10000 (.agg ⟨[.int .i64 n, .string ⟨⟨s⟩⟩]⟩) (.agg ⟨[.int .i64 n, .string ⟨⟨s⟩⟩]⟩) = true := by
     simp [Instr.sameBits, Go.MapKept.bytes_beq]
   rw [Instr.keyThatStays, if_pos e]
   rfl
def IsS (x : AV) : Prop := ∃ t : List UInt8, x = .p (.str t)
theorem Jrg {d : TypeDesc} {φ : Places} {own : Nat -> Prop} {w : World} {x : AV} {v : Value} {Kp : AV -> Prop} (hx : Kp x) (hv : VR φ own w x v)
   (heq : ∀ (x y : AV) (v u : Value), Kp x -> Kp y -> VR φ own w x v -> VR φ own w y u -> ∃ c, Instr.sameNow d v u = some c /\ (c = true ↔ y = x)) : ∀ (es : List (AV × AV)) (ms : List MapEntry) (i : Nat), (∀ e ∈ es, Kp e.1) -> Jdo φ own w es ms ->
   (Instr.findNow d v ms i = some none /\ ∀ e ∈ es, e.1 ≠ x) \/
   ∃ j e m, Instr.findNow d v ms i = some (some (i + j, m.val)) /\ es[j]? = some e /\ ms[j]? = some m /\ e.1 = x /\ ∀ (i' : Nat) e', i' < j -> es[i']? = some e' -> e'.1 ≠ x
 | [], [], i, _, _ => .inl ⟨rfl, by simp⟩
 | [], m :: ms, i, _, h => by have := h.1; simp at this
 | e :: es, [], i, _, h => by have := h.1; simp at this
 | e :: es, m :: ms, i, hk, h => by
   have h3 := (h.2 0 e m rfl rfl).1
   obtain ⟨c, h1, h2⟩ := heq x e.1 v m.key hx (hk e (by simp)) hv h3
   cases c with
   | true =>
     refine .inr ⟨0, e, m, by simp [Instr.findNow, h1], rfl, rfl, h2.1 rfl, fun i' e' hi => by omega⟩
   | false =>
     have hne : e.1 ≠ x := fun q => by have := h2.2 q; cases this
     have hes : Jdo φ own w es ms := ⟨by have := h.1; simpa using this, fun j e' m' he hm => h.2 (j + 1) e' m' (by simpa using he) (by simpa using hm)⟩
     rcases Jrg hx hv heq es ms (i + 1) (fun y hy => hk y (by simp [hy])) hes with ⟨k1, k2⟩ | ⟨j, e', m', k1, k2, k3, k4, k5⟩
     . refine .inl ⟨by simp [Instr.findNow, h1, k1], fun y hy => ?_⟩
       rcases List.mem_cons.1 hy with rfl | hy
       . exact hne
       . exact k2 y hy
     . refine .inr ⟨j + 1, e', m', by simp [Instr.findNow, h1, k1]; omega, by simpa using k2, by simpa using k3, k4, fun i' e2 hi he2 => ?_⟩
       cases i' with
       | zero => simp at he2; subst he2; exact hne
       | succ i' => exact k5 i' e2 (by omega) (by simpa using he2)
theorem keyS {k : Nat} (hu : P.underlying k = some .string) (hcheck : ∀ (w : World) (em : Bool) (n : ByteArray), (Instr.checkKey em 10000 k (.string n)).run P w = .ok () w) : KeyOk P k IsS where
 check := fun φ own w em x v hx hv => by
   obtain ⟨n, rfl⟩ := hx
   rw [hv.str_inv]
   exact hcheck w em _
 find := fun φ own w x v es ms hx hv hes h => by
   rcases Jrg (d := .string) hx hv (fun x y v u hx hy hv hu => by
     obtain ⟨n, rfl⟩ := hx
     obtain ⟨m, rfl⟩ := hy
     rw [hv.str_inv, hu.str_inv]
     refine ⟨((⟨⟨n⟩⟩ : ByteArray) == ⟨⟨m⟩⟩), rfl, ?_⟩
     rw [Go.MapKept.bytes_beq]
     simp only [ByteArray.mk.injEq, Array.mk.injEq, AV.p.injEq, PV.str.injEq]
     exact eq_comm) es ms 0 hes h with ⟨h1, h2⟩ | ⟨j, e, m, h1, h2⟩
   . exact .inl ⟨by simp [Instr.findKey, run_underlying hu, h1], h2⟩
   . exact .inr ⟨j, e, m, by simp [Instr.findKey, run_underlying hu, h1], h2⟩
 stays := fun φ own w x v v' hx hv hv' => by
   obtain ⟨n, rfl⟩ := hx
   rw [hv.str_inv, hv'.str_inv]
   have e : Instr.sameBits 10000 (.string ⟨⟨n⟩⟩) (.string ⟨⟨n⟩⟩) = true := by simp [Instr.sameBits, Go.MapKept.bytes_beq]
   rw [Instr.keyThatStays, if_pos e]
   rfl
end
end Go.Am
namespace Go.Am
open Go
section
variable {P : Program} {G : Jae} {f : Nat} {args : List AV}
theorem Jiq {s : Store} {b nx c : Nat} {x : ABlk} : get ((nx, some x) :: (b, none) :: s) c = if nx = c then some x else if b = c then none else get s c := by
 simp [get]
theorem Jto {F : Nat -> Prop} {φ : Places} {s : Store} {b nx : Nat} {x : ABlk} {p : Place} (hp : φ b = some p) (hn : get s nx = none) (β : Nat) :
   ownF F (putP φ nx p) ((nx, some x) :: (b, none) :: s) β ↔ ownF F φ ((b, some x) :: s) β := by
 constructor
 . rintro (h | ⟨c, y, q, h1, h2, rfl⟩)
   . exact .inl h
   . rw [Jiq] at h1
     by_cases e : nx = c
     . subst e
       rw [if_pos rfl] at h1
       cases h1
       rw [Ja3] at h2; cases h2
       exact .inr ⟨b, x, p, by simp [get], hp, rfl⟩
     . rw [if_neg e] at h1
       by_cases e2 : b = c
       . rw [if_pos e2] at h1; cases h1
       . rw [if_neg e2] at h1
         rw [Ja5 (Ne.symm e)] at h2
         exact .inr ⟨c, y, q, by rw [Ja1 e2]; exact h1, h2, rfl⟩
 . rintro (h | ⟨c, y, q, h1, h2, rfl⟩)
   . exact .inl h
   . by_cases e2 : b = c
     . subst e2
       rw [Jek] at h1; cases h1
       rw [hp] at h2; cases h2
       exact .inr ⟨nx, x, p, by rw [Jiq, if_pos rfl], Ja3, rfl⟩
     . rw [Ja1 e2] at h1
       have e : nx ≠ c := by rintro rfl; rw [hn] at h1; cases h1
       exact .inr ⟨c, y, q, by rw [Jiq, if_neg e, if_neg e2]; exact h1, by rw [Ja5 (Ne.symm e)]; exact h2, rfl⟩
theorem SR.moved {F φ} {s : Store} {w : World} {b nx : Nat} {x : ABlk} {p : Place} (h : SR G F φ ((b, some x) :: s) w) (hp : φ b = some p) (hφ : φ nx = none) (hn : get s nx = none) (hne : b ≠ nx) :
   SR G F (putP φ nx p) ((nx, some x) :: (b, none) :: s) w := by
 have ho : ownF F (putP φ nx p) ((nx, some x) :: (b, none) :: s) = ownF F φ ((b, some x) :: s) := funext fun β => propext (Jto hp hn β)
 have hst : Step (ownF F φ ((b, some x) :: s)) (ownF F (putP φ nx p) ((nx, some x) :: (b, none) :: s)) w w := by rw [ho]; exact Step.refl _ _
 have hle := Jdk (p := p) hφ
 have hold : ∀ c y, get ((nx, some x) :: (b, none) :: s) c = some y -> nx ≠ c -> get ((b, some x) :: s) c = some y /\ b ≠ c := by
   intro c y hc e
   rw [Jiq, if_neg e] at hc
   by_cases e2 : b = c
   . rw [if_pos e2] at hc; cases hc
   . rw [if_neg e2] at hc; exact ⟨by rw [Ja1 e2]; exact hc, e2⟩
 have hb : get ((b, some x) :: s) b = some x := Jek
 refine ⟨fun c y hc => ?_, fun c c' y y' q q' h1 h2 h3 h4 h5 => ?_, fun c y q h1 h2 => ?_, h.fsize, fun g k rows hg => ?_⟩
 . by_cases e : nx = c
   . subst e
     rw [Jiq, if_pos rfl] at hc; cases hc
     have := (h.blk b x hb).mono hle hst (fun _ _ => rfl)
     cases x with
     | cells k rows =>
       obtain ⟨β, δ, arr, T, k1, k2, k3⟩ := this
       rw [Ja5 hne, hp] at k1; cases k1
       exact ⟨β, δ, arr, T, Ja3, k2, k3⟩
     | map es =>
       obtain ⟨r, mes, cl, k1, k2, k3⟩ := this
       rw [Ja5 hne, hp] at k1; cases k1
       exact ⟨r, mes, cl, Ja3, k2, k3⟩
     | iter ks vs seen =>
       obtain ⟨r, mi, mes, cl, sn, ps, k1, k2, k3⟩ := this
       rw [Ja5 hne, hp] at k1; cases k1
       exact ⟨r, mi, mes, cl, sn, ps, Ja3, k2, k3⟩
     | loop i t j =>
       obtain ⟨tmps, D, k1, k2, k3⟩ := this
       rw [Ja5 hne, hp] at k1; cases k1
       exact ⟨tmps, D, Ja3, k2, k3⟩
   . exact (h.blk c y (hold c y hc e).1).mono hle hst (fun _ _ => rfl)
 . by_cases e : nx = c
   . subst e
     rw [Ja3] at h3; cases h3
     by_cases e' : nx = c'
     . exact e'
     . rw [Ja5 (Ne.symm e')] at h4
       obtain ⟨k1, k2⟩ := hold c' y' h2 e'
       exact (k2 (h.inj b c' x y' p q' hb k1 hp h4 h5)).elim
   . by_cases e' : nx = c'
     . subst e'
       rw [Ja3] at h4; cases h4
       rw [Ja5 (Ne.symm e)] at h3
       obtain ⟨k1, k2⟩ := hold c y h1 e
       exact (k2 (h.inj c b y x q p k1 hb h3 hp h5).symm).elim
     . rw [Ja5 (Ne.symm e)] at h3
       rw [Ja5 (Ne.symm e')] at h4
       exact h.inj c c' y y' q q' (hold c y h1 e).1 (hold c' y' h2 e').1 h3 h4 h5
 . by_cases e : nx = c
   . subst e
     rw [Ja3] at h2; cases h2
     exact h.disj b x p hb hp
   . rw [Ja5 (Ne.symm e)] at h2
     exact h.disj c y q (hold c y h1 e).1 h2
 . obtain ⟨k1, k2, k3⟩ := h.glob g k rows hg
   exact ⟨k1, fun q => k2 (Eq.mp (congrFun ho g) q), k3.mono hst k1 k2⟩
theorem Gives.moved {s : Store} {nx : Nat} {b k i n : Nat} {c : Option Nat} {x : ABlk} {rd : List Nat} {up : Store} (h : Gives P G f args s nx (.ref b k i n c) rd ((b, some x) :: up) nx) (hne : b < nx) :
   Gives P G f args s nx (.ref nx k i n c) rd ((nx, some x) :: (b, none) :: up) (nx + 1) := by
 refine ⟨Nat.le_succ _, fun F φ s1 w vs hag hs hfr hl hv => ?_⟩
 refine (h.calls F φ s1 w vs hag hs (fun c h1 h2 => by omega) hl hv).mono ?_
 rintro v' w' ⟨φ', h1, h2, h3, h4, h5⟩
 have hφ : φ' nx = none := by rw [h2 nx (.inr (Nat.le_refl _))]; exact hfr nx (Nat.le_refl _) (Nat.lt_succ_self _)
 have hnone : get (up ++ s1) nx = none := by
   have := h3.get_none hφ
   rw [List.cons_append, Ja1 (by omega)] at this
   exact this
 obtain ⟨p, hp, _⟩ := (h3.blk b x Jek).place
 have ho : ∀ F : Nat -> Prop, ownF F (putP φ' nx p) ((nx, some x) :: (b, none) :: (up ++ s1)) = ownF F φ' ((b, some x) :: (up ++ s1)) := fun F => funext fun β => propext (Jto hp hnone β)
 refine ⟨putP φ' nx p, fun c q hc => Jdk hφ c q (h1 c q hc), fun c hc => ?_, h3.moved hp hφ hnone (by omega), ?_, fun F' => ?_⟩
 . have e : c ≠ nx := by omega
   rw [Ja5 e]
   exact h2 c (by omega)
 . cases h4 with
   | ref b k i n c β δ cap hφb hc hn room =>
     rw [hp] at hφb; cases hφb
     exact .ref nx k i n c β δ cap Ja3 hc hn room
 . have := h5 F'
   simp only [List.cons_append] at this ⊢
   rw [ho F']
   exact this
end
end Go.Am
namespace Go.Am
open Go
end Go.Am
namespace Go.Am
open Go
section
variable {P : Program} {G : Jae} {N n0 : Nat} {ops : Array Oper} {st0 st1 : St} {recs : List Rec} {i0 j0 : Nat}
structure Snap where
 t : Jaq
 s : Store
 nx : Nat
 v : AV
 rd : List Nat
 up : Store
 hi : Nat
@[simp] def Snap.fp (z : Snap) : List Nat × List Nat := (z.rd, keys z.up)
section
variable {K : Cont (St -> List Snap -> Prop)} {d : Option Nat} {op : Op} {ty : Nat} {pos : String} {after : Array Edge} {rest : List Oper} {t : Jaq} {s : Store} {nx : Nat} {acc : List Snap}
end
end
end Go.Am
namespace Go.Am
open Go
structure Leads (G : Jae) (N n0 : Nat) (st' st : St) : Prop where
 run : ∀ [Base] (F : Nat -> Prop) (φ : Places) (a : Act) (w : World), Rel G N n0 F st' φ a w ->
 ∃ φ', Rel G N n0 F st φ' a w /\ (∀ b, b < n0 -> φ' b = φ b) /\ ∀ F' : Nat -> Prop, Step (ownF F' φ st'.s) (ownF F' φ' st.s) w w
theorem Leads.of_sub {G N n0} {st' st : St} {ρ : List Nat} (h : Sub ρ n0 st' st) : Leads G N n0 st' st := ⟨fun _ _ _ _ hr => ⟨_, hr.sub h⟩⟩
def FrzB (s : Store) (B : List Nat) (y x : ABlk) : Prop := y = x \/ ∃ k rows rows', y = .cells k rows /\ x = .cells k rows' /\
 ∀ (i j : Nat) row' x', rows'[i]? = some row' -> row'[j]? = some x' -> ∃ row z, rows[i]? = some row /\ row[j]? = some z /\ FrzK s (· ∈ B) z x'
structure Freeze (B : List Nat) (st' st : St) : Prop where
 nx : st.nx = st'.nx
 slots : ∀ d, FrzK st'.s (· ∈ B) (slot st'.t d) (slot st.t d)
 blocks : ∀ b x, get st.s b = some x -> b ∉ B /\ ∃ y, get st'.s b = some y /\ FrzB st'.s B y x
theorem Freeze.leads {G N n0} {B : List Nat} {st' st : St} (h : Freeze B st' st) : Leads G N n0 st' st := .mk fun F φ a w hr => by
 have hsub : ∀ (F' : Nat -> Prop) β, ownF F' φ st.s β -> ownF F' φ st'.s β := by
   rintro F' β (hF | ⟨b, x, p, h1, h2, rfl⟩)
   . exact .inl hF
   . obtain ⟨_, y, e, _⟩ := h.blocks b x h1
     exact .inr ⟨b, y, p, e, h2, rfl⟩
 have hstF : ∀ F' : Nat -> Prop, Step (ownF F' φ st'.s) (ownF F' φ st.s) w w := fun F' => ⟨fun β _ hn => ⟨rfl, fun h' => hn (hsub F' β h')⟩, Nat.le_refl _, fun _ arr _ h => ⟨arr, h, rfl⟩, rfl, rfl, rfl⟩
 have hh : Hides F φ st'.s (· ∈ B) (ownF F φ st.s) := by
   refine ⟨hsub F, fun b x p hB h1 h2 h3 => ?_⟩
   rcases h3 with h3 | ⟨c, y, q, k1, k2, k3⟩
   . exact hr.sr.disj b x p h1 h2 h3
   . obtain ⟨hc, z, k4, _⟩ := h.blocks c y k1
     have := hr.sr.inj c b z x q p k4 h1 k2 h2 k3
     subst this
     exact hc hB
 refine ⟨φ, ⟨⟨?_, ?_, ?_, hr.sr.fsize, ?_⟩, ?_, ?_, ⟨hr.tr.size, ?_⟩, hr.side.mono (hstF _) rfl⟩, fun _ _ => rfl, hstF⟩
 . intro b x hx
   obtain ⟨_, y, e, hf⟩ := h.blocks b x hx
   have hb := hr.sr.blk b y e
   rcases hf with rfl | ⟨k, rows, rows', rfl, rfl, hc⟩
   . exact hb.mono (fun _ _ h => h) (hstF F) (fun _ _ => rfl)
   . obtain ⟨β, δ, arr, T, e1, e2, e3⟩ := hb
     refine ⟨β, δ, arr, T, e1, e2, fun i j row x hrow hx => ?_⟩
     obtain ⟨row0, z, g1, g2, g3⟩ := hc i j row x hrow hx
     obtain ⟨hj, v, hv, hz⟩ := e3 i j row0 z g1 g2
     exact ⟨hj, v, hv, VR.frzK hr.sr hh hz g3⟩
 . intro b c x z p p' h1 h2 h3 h4 h5
   obtain ⟨_, y, e, _⟩ := h.blocks b x h1
   obtain ⟨_, y', e', _⟩ := h.blocks c z h2
   exact hr.sr.inj b c y y' p p' e e' h3 h4 h5
 . intro b x p h1 h2
   obtain ⟨_, y, e, _⟩ := h.blocks b x h1
   exact hr.sr.disj b y p e h2
 . intro g k rows hg
   obtain ⟨h1, h2, h3⟩ := hr.sr.glob g k rows hg
   exact ⟨h1, fun h' => h2 (hsub F g h'), h3.mono (hstF F) h1 h2⟩
 . intro b hb
   exact hr.fresh b (by rw [<- h.nx]; exact hb)
 . rw [h.nx]; exact hr.base
 . intro d
   exact VR.frzK hr.sr hh (hr.tr.slots d) (h.slots d)
section
variable {P : Program} {G : Jae} {N n0 : Nat}
theorem AEv.leads {c : Code} {st st' : St} {Q : Exit -> St -> Prop} (hs : Leads G N n0 st' st) (h : AEv P G N n0 c st Q) : AEv P G N n0 c st' Q :=
 .mk fun F φ a w hr => by
   obtain ⟨φ', h1, h2, h3⟩ := hs.run F φ a w hr
   exact wpIn_mono (h.run F φ' a w h1) fun e a' w' ha => After.trans h2 h3 ha
theorem J6d (us t : Jaq) (d : Nat) : (∃ p ∈ us, p.1 = d /\ slot (us ++ t) d = p.2) \/ ((∀ p ∈ us, p.1 ≠ d) /\ slot (us ++ t) d = slot t d) := by
 induction us with
 | nil => exact .inr ⟨by simp, rfl⟩
 | cons p us ih =>
   obtain ⟨e, x⟩ := p
   by_cases h : e = d
   . exact .inl ⟨(e, x), by simp, h, by simp [slot, h]⟩
   . rcases ih with ⟨p, hp, h1, h2⟩ | ⟨h1, h2⟩
     . exact .inl ⟨p, by simp [hp], h1, by simp [slot, h, h2]⟩
     . refine .inr ⟨fun p hp => ?_, by simp [slot, h, h2]⟩
       rcases List.mem_cons.1 hp with rfl | hp
       . exact h
       . exact h1 p hp
theorem Freeze.of {B : List Nat} {st' : St} (us : Jaq) (ups : Store) (hu : ∀ p ∈ us, FrzK st'.s (· ∈ B) (slot st'.t p.1) p.2)
   (hb : ∀ p ∈ ups, ∀ x, p.2 = some x -> p.1 ∉ B /\ ∃ y, get st'.s p.1 = some y /\ FrzB st'.s B y x) (hB : ∀ b ∈ B, b ∈ keys ups) : Freeze B st' ⟨us ++ st'.t, ups ++ st'.s, st'.nx⟩ where
 nx := rfl
 slots d := by
   show FrzK _ _ _ (slot (us ++ st'.t) d)
   rcases J6d us st'.t d with ⟨p, hp, rfl, h2⟩ | ⟨_, h2⟩
   . rw [h2]; exact hu p hp
   . rw [h2]; exact .keep _
 blocks b x hx := by
   have hx2 : get (ups ++ st'.s) b = some x := hx
   rw [get_append] at hx2
   split at hx2
   . have := get_mem hx2
     exact hb (b, some x) this x rfl
   . rename_i hk
     exact ⟨fun h => hk (hB b h), x, hx2, .inl rfl⟩
theorem Leads.subx {st' st : St} {ρ : List Nat} (hs : SubX ρ n0 st' st) : Leads G N n0 st' st := .of_sub hs.sub
end
end Go.Am
namespace Go.Am
open Go
def KidA (ok : Nat -> Prop) (y x : AV) : Prop := wkn y x /\ match x with
 | .ptr b _ _ _ => ok b
 | .ref b _ _ _ _ => ok b
 | .acc b _ _ => ok b
 | x => Jan x = true
def KidT (ok : Nat -> Prop) (t' : Jaq) : Jaq -> Prop
 | [] => True
 | p :: t => KidA ok (slot t' p.1) p.2 /\ KidT ok t' t
def KidB (ok : Nat -> Prop) (s' : Store) (b : Nat) : Option ABlk -> Prop
 | none => True
 | some (.cells k rows) => ok b /\ get s' b = some (.cells k rows) /\ rows.all Ja9 = true
 | some _ => False
def KidS (ok : Nat -> Prop) (s' : Store) : Store -> Prop
 | [] => True
 | p :: K => KidB ok s' p.1 p.2 /\ KidS ok s' K
attribute [simp] KidA KidT KidB KidS
end Go.Am
