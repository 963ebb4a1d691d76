/-
 Closed functions: what is computed of them by the kernel.
-/
import Derived.Test.YtmfjjncfdpejiaaGreatDoorZA4
set_option linter.unusedVariables false
set_option linter.unusedSimpArgs false
namespace Go.Am
open Go
abbrev EvR := AV × List Nat × Store × Nat
def Jgo {α : Type} (b : Bool) (x : Option α) : Option α := if b = true then x else none
def J7o (P : Program) (y : TyI) (parts : List (Nat × AV)) : Option (List AV) := match y.td with
   | .struct fs => if (fs.all fun p => p.2.1 != 0) = true then Jdn (Jhd fs) y.zero parts else none
   | .array _ e => (tyOf P e).bind fun ye => Jdn (Jg8 ye.size) y.zero parts
   | _ => none
def evop (P : Program) (calls : Nat -> List AV -> Option AV) (op : Op) (ρ : Operand -> AV) (s : Store) (nx : Nat) : Option EvR :=
 match op with
 | .move x | .assign x => some (ρ x, [], [], nx)
 | .alloc t => (tyOf P t).bind fun y => Jgo (decide (y.zero.length = y.size)) (some (.ptr nx y.size 0 0, [], [(nx, some (.cells y.size [y.zero]))], nx + 1))
 | .store t x v => (tyOf P t).bind fun y => match ρ x with
   | .ptr b k i j => match get s b with
     | some (.cells k' rows) => match rows[i]? with
       | some row => Jgo (decide (k' = k /\ (ρ v).cells.length = y.size /\ 0 < y.size /\ j + y.size <= row.length) && (ρ v).cells.all AV.oneCell) (some (.any, [b], [(b, some (.cells k (rows.set i (lay row j (ρ v).cells))))], nx))
       | none => none
     | _ => none
   | _ => none
 | .build t parts => (tyOf P t).bind fun y => (J7o P y (parts.toList.map fun (i, x) => (i, ρ x))).map fun cs => (.agg cs, [], [], nx)
 | .buildSlice t len parts => (tyOf P t).bind fun y => match y.td with
   | .slice e => (tyOf P e).bind fun ye => Jgo (decide (ye.zero.length = ye.size /\ 0 < ye.size /\ len * ye.size <= 16777216))
       ((Jf2 ye.size (List.replicate len ye.zero) (parts.toList.map fun (i, x) => (i, ρ x))).map fun rows => (.ref nx ye.size 0 len (some len), [], [(nx, some (.cells ye.size rows))], nx + 1))
   | _ => none
 | .makeFunc f first cap => Jgo (first.isEmpty && Jfy f) (some (.fn f (cap.toList.map ρ), [], [], nx))
 | .call c => match c.callee with
   | .value f => match ρ f with
     | .fn (.func n) cap => (calls n (c.args.toList.map ρ ++ cap)).map fun r => (r, [], [], nx)
     | _ => none
   | _ => none
 | _ => none
section
variable {P : Program} {G : Jaf} {calls : Nat -> List AV -> Option AV}
theorem Jh8 {α : Type} {b : Bool} {x : Option α} {y : α} (h : Jgo b x = some y) : b = true /\ x = some y := by
 unfold Jgo at h
 split at h
 . exact ⟨by assumption, h⟩
 . cases h
theorem J7q (hc : ∀ f args r, calls f args = some r -> Pure P G f args r) {op : Op} {ρ : Operand -> AV} {s : Store} {nx : Nat} {q : EvR} {K : KT} (h : evop P calls op ρ s nx = some q) (hK : K q.1 q.2.1 q.2.2.1 q.2.2.2) :
   vop P G op ρ s nx K := by
 unfold evop at h
 split at h
 . cases h; exact hK
 . cases h; exact hK
 . rename_i t
   obtain ⟨y, hy, h⟩ := Option.bind_eq_some_iff.1 h
   obtain ⟨h1, h2⟩ := Jh8 h
   cases h2
   exact Ja5.2 ⟨y, hy, by simpa using h1, hK⟩
 . rename_i t x v
   obtain ⟨y, hy, h⟩ := Option.bind_eq_some_iff.1 h
   refine Ja5.2 ⟨y, hy, ?_⟩
   split at h
   . rename_i b k i j hx
     rw [hx]
     split at h
     . rename_i k' rows hg
       split at h
       . rename_i row hr
         obtain ⟨h1, h2⟩ := Jh8 h
         cases h2
         simp only [Bool.and_eq_true, decide_eq_true_eq] at h1
         obtain ⟨⟨rfl, e1, e2, e3⟩, e4⟩ := h1
         exact Jdx.2 ⟨rows, hg, Ja2.2 ⟨row, hr, e1, e2, e3, e4, hK⟩⟩
       . cases h
     . cases h
   . cases h
 . rename_i t parts
   obtain ⟨y, hy, h⟩ := Option.bind_eq_some_iff.1 h
   obtain ⟨cs, h1, rfl⟩ := Option.map_eq_some_iff.1 h
   exact Ja5.2 ⟨y, hy, Ja2.2 ⟨cs, h1, hK⟩⟩
 . rename_i t len parts
   obtain ⟨y, hy, h⟩ := Option.bind_eq_some_iff.1 h
   refine Ja5.2 ⟨y, hy, ?_⟩
   split at h
   . rename_i e htd
     obtain ⟨ye, hye, h⟩ := Option.bind_eq_some_iff.1 h
     obtain ⟨h1, h2⟩ := Jh8 h
     obtain ⟨rows, h3, rfl⟩ := Option.map_eq_some_iff.1 h2
     simp only [decide_eq_true_eq] at h1
     rw [htd]
     exact Ja5.2 ⟨ye, hye, h1.1, h1.2.1, h1.2.2, Ja2.2 ⟨rows, h3, hK⟩⟩
   . cases h
 . rename_i f first cap
   obtain ⟨h1, h2⟩ := Jh8 h
   cases h2
   simp only [Bool.and_eq_true, List.isEmpty_iff, Array.isEmpty_iff] at h1
   obtain ⟨hf, h1⟩ := h1
   subst hf
   exact ⟨h1, hK⟩
 . rename_i c
   split at h
   . rename_i f hcal
     split at h
     . rename_i n cap hf
       obtain ⟨r, h1, rfl⟩ := Option.map_eq_some_iff.1 h
       show Jl7 P G c ρ s nx K
       unfold Jl7
       rw [hcal]
       simp only [hf]
       exact ⟨r, [], [], nx, (hc n _ r h1).gives, hK⟩
     . cases h
   . cases h
 . cases h
def Jng (P : Program) (G : Jaf) (calls : Nat -> List AV -> Option AV) (N : Nat) : List Oper -> St -> Option St
 | [], st => some st
 | o :: rest, st => match o.guard with
   | none => Jgo (Jd2 N o.dst) ((evop P calls o.op (Jai G st.t) st.s st.nx).bind fun q => Jng P G calls N rest ⟨putA st.t o.dst q.1, q.2.2.1 ++ st.s, q.2.2.2⟩)
   | some _ => none
theorem Jwt (hc : ∀ f args r, calls f args = some r -> Pure P G f args r) {N : Nat} {ops : Array Oper} : ∀ {l : List Oper} {st st' : St} {K : St -> Prop}, Jng P G calls N l st = some st' -> K st' -> Jge P G N ops l st K
 | [], st, st', K, h, hK => by cases h; exact hK
 | o :: rest, st, st', K, h, hK => by
   simp only [Jng] at h
   split at h
   . rename_i hg
     obtain ⟨h1, h2⟩ := Jh8 h
     obtain ⟨q, h3, h4⟩ := Option.bind_eq_some_iff.1 h2
     refine ⟨h1, ?_⟩
     rw [hg]
     exact Kh5 (J7q hc h3 (Jwt hc h4 hK))
   . cases h
def Jjb (P : Program) (G : Jaf) (calls : Nat -> List AV -> Option AV) (N : Nat) : Code -> St -> Option (Exit × St)
 | .skip, st => some (.normal, st)
 | .region _ ops draw, st => Jgo (!draw) ((Jng P G calls N ops.toList st).map fun st => (.normal, st))
 | .seq a b, st => match Jjb P G calls N a st with
   | some (.normal, st) => Jjb P G calls N b st
   | r => r
 | .ret, st => some (.ret, st)
 | _, _ => none
theorem Jne (hc : ∀ f args r, calls f args = some r -> Pure P G f args r) {N n0 : Nat} : ∀ {c : Code} {st : St} {q : Exit × St} {Q : Exit -> St -> Prop}, Jjb P G calls N c st = some q -> Q q.1 q.2 -> vc P G N n0 c st Q
 | .skip, st, q, Q, h, hQ => by cases h; exact hQ
 | .region _ ops draw, st, q, Q, h, hQ => by
   simp only [Jjb] at h
   obtain ⟨h1, h2⟩ := Jh8 h
   obtain ⟨st', h3, rfl⟩ := Option.map_eq_some_iff.1 h2
   have hd : draw = false := by simpa using h1
   subst hd
   exact Jwt (K := Q .normal) hc h3 hQ
 | .seq a b, st, q, Q, h, hQ => by
   simp only [Jjb] at h
   split at h
   . rename_i st1 h1
     exact Jne hc (c := a) (Q := Jgb (fun st => vc P G N n0 b st Q) Q) h1 (Jne hc (c := b) h hQ)
   . rename_i hne
     refine Jne hc (c := a) (Q := Jgb (fun st => vc P G N n0 b st Q) Q) h ?_
     obtain ⟨e, st'⟩ := q
     cases e with
     | normal => exact absurd h (by intro h'; exact hne st' h')
     | _ => exact hQ
 | .ret, st, q, Q, h, hQ => by cases h; exact hQ
def Jnh (P : Program) (st : St) : List ResultVar -> Option (List AV)
 | [] => some []
 | .tmp d :: rs => (Jnh P st rs).map (slot st.t d :: ·)
 | .cell d T :: rs => (Jnh P st rs).bind fun us => (tyOf P T).bind fun y => match slot st.t d with
   | .ptr b k i j => match get st.s b with
     | some (.cells k' rows) => match rows[i]? with
       | some row => Jgo (decide (k' = k /\ y.agg = true /\ j + y.size <= row.length)) (some (.agg ((row.drop j).take y.size) :: us))
       | none => none
     | _ => none
   | _ => none
theorem Jqz {st : St} : ∀ {rs : List ResultVar} {vs : List AV}, Jnh P st rs = some vs -> resA P st rs vs
 | [], vs, h => by cases h; rfl
 | .tmp d :: rs, vs, h => by
   obtain ⟨us, h1, rfl⟩ := Option.map_eq_some_iff.1 h
   exact ⟨us, rfl, Jqz h1⟩
 | .cell d T :: rs, vs, h => by
   obtain ⟨us, h1, h⟩ := Option.bind_eq_some_iff.1 h
   obtain ⟨y, hy, h⟩ := Option.bind_eq_some_iff.1 h
   split at h
   . rename_i b k i j hx
     split at h
     . rename_i k' rows hg
       split at h
       . rename_i row hr
         obtain ⟨h2, h3⟩ := Jh8 h
         cases h3
         simp only [decide_eq_true_eq] at h2
         obtain ⟨rfl, ha, hl⟩ := h2
         refine ⟨_, us, rfl, ⟨y, hy, ?_⟩, Jqz h1⟩
         rw [hx]
         refine Jdx.2 ⟨rows, hg, Ja2.2 ⟨row, hr, ?_⟩⟩
         rw [if_pos ha]
         exact ⟨hl, rfl⟩
       . cases h
     . cases h
   . cases h
mutual
def evV (nk : Nat) (s : Store) : AV -> Option AV
 | .p x => some (.p x)
 | .nils => some (.p (.lst nk []))
 | .ref b k i n _ => match get s b with
   | some (.cells k' rows) => if k' = k /\ i + n <= rows.length then (unpR ((rows.drop i).take n)).map fun r => .p (.lst k r) else none
   | _ => none
 | .agg cs => (evL nk s cs).map .agg
 | .tup cs => (evL nk s cs).map .tup
 | .fn f cs => (evL nk s cs).map (.fn f)
 | .iptr k rows i j => some (.iptr k rows i j)
 | _ => none
def evL (nk : Nat) (s : Store) : List AV -> Option (List AV)
 | [] => some []
 | x :: xs => (evV nk s x).bind fun y => (evL nk s xs).map (y :: ·)
end
mutual
theorem Jwu {nk : Nat} {s : Store} : ∀ {a x : AV}, evV nk s a = some x -> FrzA s (fun _ => True) a x
 | .p _, x, h => by simp [evV] at h; subst h; exact .same _ rfl
 | .nils, x, h => by simp [evV] at h; subst h; exact .one _ _ (.nils nk)
 | .iptr .., x, h => by simp [evV] at h; subst h; exact .same _ rfl
 | .ref b k i n c, x, h => by
   simp only [evV] at h
   split at h
   . rename_i k' rows hg
     split at h
     . rename_i hk
       obtain ⟨rfl, hlen⟩ := hk
       obtain ⟨r, hr, rfl⟩ := Option.map_eq_some_iff.1 h
       have e := Jkm hr
       have hl : r.length = n := by
         have := congrArg List.length e
         simp at this; omega
       exact .one _ _ (.rows trivial hg e hl)
     . cases h
   . cases h
 | .agg cs, x, h => by
   obtain ⟨q, hq, rfl⟩ := Option.map_eq_some_iff.1 (by simpa [evV] using h)
   have := Jnf hq
   exact .agg _ _ this.1 this.2
 | .tup cs, x, h => by
   obtain ⟨q, hq, rfl⟩ := Option.map_eq_some_iff.1 (by simpa [evV] using h)
   have := Jnf hq
   exact .tup _ _ this.1 this.2
 | .fn f cs, x, h => by
   obtain ⟨q, hq, rfl⟩ := Option.map_eq_some_iff.1 (by simpa [evV] using h)
   have := Jnf hq
   exact .fn f _ _ this.1 this.2
 | .nilp, x, h => by simp [evV] at h
 | .ptr .., x, h => by simp [evV] at h
 | .map _, x, h => by simp [evV] at h
 | .nilm, x, h => by simp [evV] at h
 | .pmap .., x, h => by simp [evV] at h
 | .acc .., x, h => by simp [evV] at h
 | .ubool, x, h => by simp [evV] at h
 | .any, x, h => by simp [evV] at h
theorem Jnf {nk : Nat} {s : Store} : ∀ {a x : List AV}, evL nk s a = some x -> x.length = a.length /\ ∀ (i : Nat) c d, a[i]? = some c -> x[i]? = some d -> FrzA s (fun _ => True) c d
 | [], x, h => by simp [evL] at h; subst h; exact ⟨rfl, fun i c d h => by simp at h⟩
 | a :: as, x, h => by
   simp only [evL, Option.bind_eq_some_iff, Option.map_eq_some_iff] at h
   obtain ⟨y, hy, ys, hys, rfl⟩ := h
   obtain ⟨h1, h2⟩ := Jnf hys
   refine ⟨by simp [h1], fun i c d hc hd => ?_⟩
   cases i with
   | zero => simp at hc hd; subst hc; subst hd; exact Jwu hy
   | succ i => exact h2 i c d (by simpa using hc) (by simpa using hd)
end
def J7p (nk : Nat) (P : Program) (G : Jaf) (calls : Nat -> List AV -> Option AV) (fn : Func) (c : Code) (args : List AV) : Option AV :=
 (Jjb P G calls fn.ntmps c ⟨Jc4 0 args, [], 0⟩).bind fun q => (Jnh P q.2 fn.results.toList).bind fun vs => (evV nk q.2.s (resV vs)).bind fun r => match q.1 with
   | .ret | .normal => some r
   | _ => none
theorem Pure.of_ev (nk : Nat) (hc : ∀ f args r, calls f args = some r -> Pure P G f args r) {f : Nat} {fn : Func} {c : Code} {args : List AV} {r : AV} (hf : P.funcs[f]? = some fn) (hb : fn.body = some c) (hname : (fn.name == "runtime.NumGoroutine") = false)
   (hargs : args.length <= fn.ntmps) (hp : Ja3 args = true) (h : J7p nk P G calls fn c args = some r) : Pure P G f args r := by
 obtain ⟨q, h1, h⟩ := Option.bind_eq_some_iff.1 h
 obtain ⟨vs, h2, h⟩ := Option.bind_eq_some_iff.1 h
 obtain ⟨r', h3, h⟩ := Option.bind_eq_some_iff.1 h
 have he : (q.1 = .ret \/ q.1 = .normal) /\ r' = r := by
   obtain ⟨e, st⟩ := q
   cases e <;> simp at h ⊢ <;> exact h
 obtain ⟨he, rfl⟩ := he
 exact Pure.of_body hf hb hname rfl hargs hp (Jee c _ _ (Jne hc h1 ⟨he, vs, Jqz h2, Jwu h3⟩))
end
end Go.Am
