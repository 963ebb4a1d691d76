/- Lemmas and contracts for the proof of a statement of this seat. -/
import Derived.Test.YthojegdboknbbaaGreatDoorZA4
import Derived.Lib.Overlaps
import Derived.Below
import Derived.Test.YthojegdboknbbaaGreatDoorZA2
import Derived.WideKeyRuns
set_option linter.unusedVariables false
set_option linter.unusedSimpArgs false
namespace Go.Am
open Go
abbrev EvR := AV × List Nat × Store × Nat
def Jij {α : Type} (b : Bool) (x : Option α) : Option α := if b = true then x else none
def Jws (P : Program) (y : TyI) (parts : List (Nat × AV)) : Option (List AV) := match y.td with
   | .struct fs => if (fs.all fun p => p.2.1 != 0) = true then Jcg (Jeh fs) y.zero parts else none
   | .array _ e => (tyOf P e).bind fun ye => Jcg (Jeb ye.size) y.zero parts
   | _ => none
def evop (P : Program) (calls : Nat -> List AV -> Option AV) (op : Op) (ρ : Operand -> AV) (s : Store) (nx : Nat) : Option EvR :=
 match op with
 | .move x | .assign x => some (ρ x, [], [], nx)
 | .alloc t => (tyOf P t).bind fun y => Jij (decide (y.zero.length = y.size)) (some (.ptr nx y.size 0 0, [], [(nx, some (.cells y.size [y.zero]))], nx + 1))
 | .store t x v => (tyOf P t).bind fun y => match ρ x with
   | .ptr b k i j => match get s b with
     | some (.cells k' rows) => match rows[i]? with
       | some row => Jij (decide (k' = k /\ (ρ v).cells.length = y.size /\ 0 < y.size /\ j + y.size <= row.length) && (ρ v).cells.all AV.oneCell) (some (.any, [b], [(b, some (.cells k (rows.set i (lay row j (ρ v).cells))))], nx))
       | none => none
     | _ => none
   | _ => none
 | .build t parts => (tyOf P t).bind fun y => (Jws P y (parts.toList.map fun (i, x) => (i, ρ x))).map fun cs => (.agg cs, [], [], nx)
 | .buildSlice t len parts => (tyOf P t).bind fun y => match y.td with
   | .slice e => (tyOf P e).bind fun ye => Jij (decide (ye.zero.length = ye.size /\ 0 < ye.size /\ len * ye.size <= 16777216))
       ((Jdf ye.size (List.replicate len ye.zero) (parts.toList.map fun (i, x) => (i, ρ x))).map fun rows => (.ref nx ye.size 0 len (some len), [], [(nx, some (.cells ye.size rows))], nx + 1))
   | _ => none
 | .makeFunc f first cap => Jij (first.isEmpty && Jdd f) (some (.fn f (cap.toList.map ρ), [], [], nx))
 | .call c => match c.callee with
   | .value f => match ρ f with
     | .fn (.func n) cap => (calls n (c.args.toList.map ρ ++ cap)).map fun r => (r, [], [], nx)
     | _ => none
   | _ => none
 | _ => none
section
variable {P : Program} {G : Jac} {calls : Nat -> List AV -> Option AV}
mutual
def evV (nk : Nat) (s : Store) : AV -> Option AV
 | .p x => some (.p x)
 | .nils => some (.p (.lst nk []))
 | .ref b k i n _ => match get s b with
   | some (.cells k' rows) => if k' = k /\ i + n <= rows.length then (unpR ((rows.drop i).take n)).map fun r => .p (.lst k r) else none
   | _ => none
 | .agg cs => (evL nk s cs).map .agg
 | .tup cs => (evL nk s cs).map .tup
 | .fn f cs => (evL nk s cs).map (.fn f)
 | .iptr k rows i j => some (.iptr k rows i j)
 | _ => none
def evL (nk : Nat) (s : Store) : List AV -> Option (List AV)
 | [] => some []
 | x :: xs => (evV nk s x).bind fun y => (evL nk s xs).map (y :: ·)
end
mutual
theorem Jwx {nk : Nat} {s : Store} : ∀ {a x : AV}, evV nk s a = some x -> FrzA s (fun _ => True) a x
 | .p _, x, h => by simp [evV] at h; subst h; exact .same _ rfl
 | .nils, x, h => by simp [evV] at h; subst h; exact .one _ _ (.nils nk)
 | .iptr .., x, h => by simp [evV] at h; subst h; exact .same _ rfl
 | .ref b k i n c, x, h => by
   simp only [evV] at h
   split at h
   . rename_i k' rows hg
     split at h
     . rename_i hk
       obtain ⟨rfl, hlen⟩ := hk
       obtain ⟨r, hr, rfl⟩ := Option.map_eq_some_iff.1 h
       have e := Jhj hr
       have hl : r.length = n := by
         have := congrArg List.length e
         simp at this; omega
       exact .one _ _ (.rows trivial hg e hl)
     . cases h
   . cases h
 | .agg cs, x, h => by
   obtain ⟨q, hq, rfl⟩ := Option.map_eq_some_iff.1 (by simpa [evV] using h)
   have := Jib hq
   exact .agg _ _ this.1 this.2
 | .tup cs, x, h => by
   obtain ⟨q, hq, rfl⟩ := Option.map_eq_some_iff.1 (by simpa [evV] using h)
   have := Jib hq
   exact .tup _ _ this.1 this.2
 | .fn f cs, x, h => by
   obtain ⟨q, hq, rfl⟩ := Option.map_eq_some_iff.1 (by simpa [evV] using h)
   have := Jib hq
   exact .fn f _ _ this.1 this.2
 | .nilp, x, h => by simp [evV] at h
 | .ptr .., x, h => by simp [evV] at h
 | .map _, x, h => by simp [evV] at h
 | .nilm, x, h => by simp [evV] at h
 | .pmap .., x, h => by simp [evV] at h
 | .acc .., x, h => by simp [evV] at h
 | .ubool, x, h => by simp [evV] at h
 | .any, x, h => by simp [evV] at h
theorem Jib {nk : Nat} {s : Store} : ∀ {a x : List AV}, evL nk s a = some x -> x.length = a.length /\ ∀ (i : Nat) c d, a[i]? = some c -> x[i]? = some d -> FrzA s (fun _ => True) c d
 | [], x, h => by simp [evL] at h; subst h; exact ⟨rfl, fun i c d h => by simp at h⟩
 | a :: as, x, h => by
   simp only [evL, Option.bind_eq_some_iff, Option.map_eq_some_iff] at h
   obtain ⟨y, hy, ys, hys, rfl⟩ := h
   obtain ⟨h1, h2⟩ := Jib hys
   refine ⟨by simp [h1], fun i c d hc hd => ?_⟩
   cases i with
   | zero => simp at hc hd; subst hc; subst hd; exact Jwx hy
   | succ i => exact h2 i c d (by simpa using hc) (by simpa using hd)
end
end
end Go.Am
namespace Go.Am
open Go
section
variable {P : Program} {G : Jac}
end
end Go.Am
namespace Go.Am
open Go
theorem Jai.goe {P : Program} {G : Jac} {N n0 : Nat} {γ : Type} {c : Cont Code} {t : Jap} {s : Store} {nx : Nat} {Q : Cont KQ} (keep keepB : List Nat) (e : Nat) (M : Nat -> γ -> Jap) (B : Nat -> γ -> Store) (I : γ -> Prop) (μ : γ -> Nat) (g0 : γ) (hi : I g0)
   (h0 : ∃ ρ, SubX ρ n0 ⟨t, s, nx⟩ ⟨M nx g0 ++ pick keep t, B nx g0 ++ Jb7 keepB s, nx + e⟩)
   (round : ∀ g, I g -> @xc P G N n0 c (M nx g ++ pick keep t) (B nx g ++ Jb7 keepB s) (nx + e) ⟨fun x st' => @Jd8 x st' ⟨fun st' => ∃ g', I g' /\ μ g' < μ g /\ ∃ ρ,
     SubX ρ n0 st' ⟨M nx g' ++ pick keep t, B nx g' ++ Jb7 keepB s, nx + e⟩⟩ Q⟩) : @Jai P G N n0 c ⟨t, s, nx⟩ Q := by
 obtain ⟨ρ0, h0⟩ := h0
 exact Jdc.intro (fun g => ⟨M nx g ++ pick keep t, B nx g ++ Jb7 keepB s, nx + e⟩) I μ g0 _ hi h0.sub fun g hg => (Jct _ _ _ (round g hg)).mono fun x st' h => by
   cases x with
   | normal =>
     obtain ⟨g', h1, h2, ρ, h3⟩ := h
     exact ⟨g', _, h1, h2, h3.sub⟩
   | _ => exact h
end Go.Am
namespace Go.Am
open Go Go.RowKit
end Go.Am
namespace Go.Am
open Go
section
variable {P : Program}
theorem Jk9 {k : Nat} {φ : Places} {own : Nat -> Prop} {w : World} {x : AV} {v : Value} {Kp : AV -> Prop} (hx : Kp x) (hv : VR φ own w x v)
   (heq : ∀ x y, Kp x -> Kp y -> ∃ c, eqA P 8 k x y = some c /\ (c = true ↔ y = x)) : ∀ (es : List (AV × AV)) (ms : List MapEntry) (i : Nat), (∀ e ∈ es, Kp e.1) -> Jcl φ own w es ms ->
   ((Instr.findAsking k v ms i).run P w = .ok none w /\ ∀ e ∈ es, e.1 ≠ x) \/
   ∃ j e m, (Instr.findAsking k v ms i).run P w = .ok (some (i + j, m.val)) w /\ es[j]? = some e /\ ms[j]? = some m /\ e.1 = x /\ ∀ (i' : Nat) e', i' < j -> es[i']? = some e' -> e'.1 ≠ x
 | [], [], i, _, _ => .inl ⟨rfl, by simp⟩
 | [], m :: ms, i, _, h => by have := h.1; simp at this
 | e :: es, [], i, _, h => by have := h.1; simp at this
 | e :: es, m :: ms, i, hk, h => by
   obtain ⟨c, h1, h2⟩ := heq x e.1 hx (hk e (by simp))
   have h3 := (h.2 0 e m rfl rfl).1
   have h4 := Jia 8 10000 k x e.1 c v m.key h1 (by omega) hv h3
   have h5 : (Op.equal k v m.key).run P w = .ok c w := h4
   cases c with
   | true =>
     refine .inr ⟨0, e, m, ?_, rfl, rfl, h2.1 rfl, fun i' e' hi => by omega⟩
     simp [Instr.findAsking, h5]
   | false =>
     have hne : e.1 ≠ x := fun q => by have := h2.2 q; cases this
     have hes : Jcl φ own w es ms := ⟨by have := h.1; simpa using this, fun j e' m' he hm => h.2 (j + 1) e' m' (by simpa using he) (by simpa using hm)⟩
     rcases Jk9 hx hv heq es ms (i + 1) (fun y hy => hk y (by simp [hy])) hes with ⟨k1, k2⟩ | ⟨j, e', m', k1, k2, k3, k4, k5⟩
     . refine .inl ⟨by simp [Instr.findAsking, h5, k1], fun y hy => ?_⟩
       rcases List.mem_cons.1 hy with rfl | hy
       . exact hne
       . exact k2 y hy
     . refine .inr ⟨j + 1, e', m', by simp [Instr.findAsking, h5, k1]; omega, by simpa using k2, by simpa using k3, k4, fun i' e2 hi he2 => ?_⟩
       cases i' with
       | zero => simp at he2; subst he2; exact hne
       | succ i' => exact k5 i' e2 (by omega) (by simpa using he2)
def IsIS (x : AV) : Prop := ∃ (n : Int) (s : List UInt8), x = .agg [.p (.int .i64 n), .p (.str s)]
theorem IsIS.val {φ : Places} {own : Nat -> Prop} {w : World} {n : Int} {s : List UInt8} {v : Value} (h : VR φ own w (.agg [.p (.int .i64 n), .p (.str s)]) v) : v = .agg ⟨[.int .i64 n, .string ⟨⟨s⟩⟩]⟩ := by
 obtain ⟨us, rfl, h1, h2⟩ := h.agg_inv
 match us, h1 with
 | [a, b], _ =>
   have e1 := (h2 0 _ a rfl rfl).int_inv
   have e2 := (h2 1 _ b rfl rfl).str_inv
   rw [e1, e2]
theorem J4i {k : Nat} (hwide : (match P.underlying k with | some (.array _ _) | some (.struct _) => true | _ => false) = true)
   (hcheck : ∀ (w : World) (em : Bool) (n : Int) (s : ByteArray), (Instr.checkKey em 10000 k (.agg ⟨[.int .i64 n, .string s]⟩)).run P w = .ok () w)
   (heq : ∀ (n m : Int) (s t : List UInt8), eqA P 8 k (.agg [.p (.int .i64 n), .p (.str s)]) (.agg [.p (.int .i64 m), .p (.str t)]) = some (decide (n = m /\ s = t))) : KeyOk P k IsIS where
 check := fun φ own w em x v hx hv => by
   obtain ⟨n, s, rfl⟩ := hx
   rw [IsIS.val hv]
   exact hcheck w em n _
 find := fun φ own w x v es ms hx hv hes h => by
   have e : (Instr.findKey k v ms).run P w = (Instr.findAsking k v ms).run P w := run_findKey_eq w hwide v ms
   rw [e]
   have := Jk9 (P := P) (k := k) (Kp := IsIS) hx hv (fun x y hx hy => by
     obtain ⟨n, s, rfl⟩ := hx
     obtain ⟨m, t, rfl⟩ := hy
     exact ⟨_, heq n m s t, by simp; grind⟩) es ms 0 hes h
   simpa using this
 stays := fun φ own w x v v' hx hv hv' => by
   obtain ⟨n, s, rfl⟩ := hx
   rw [IsIS.val hv, IsIS.val hv']
   have e : Instr.sameBits 10000 (.agg ⟨[.int .i64 n, .string ⟨⟨s⟩⟩]⟩) (.agg ⟨[.int .i64 n, .string ⟨⟨s⟩⟩]⟩) = true := by
     simp [Instr.sameBits, Go.MapKept.bytes_beq]
   rw [Instr.keyThatStays, if_pos e]
   rfl
def IsS (x : AV) : Prop := ∃ t : List UInt8, x = .p (.str t)
theorem Jph {d : TypeDesc} {φ : Places} {own : Nat -> Prop} {w : World} {x : AV} {v : Value} {Kp : AV -> Prop} (hx : Kp x) (hv : VR φ own w x v)
   (heq : ∀ (x y : AV) (v u : Value), Kp x -> Kp y -> VR φ own w x v -> VR φ own w y u -> ∃ c, Instr.sameNow d v u = some c /\ (c = true ↔ y = x)) : ∀ (es : List (AV × AV)) (ms : List MapEntry) (i : Nat), (∀ e ∈ es, Kp e.1) -> Jcl φ own w es ms ->
   (Instr.findNow d v ms i = some none /\ ∀ e ∈ es, e.1 ≠ x) \/
   ∃ j e m, Instr.findNow d v ms i = some (some (i + j, m.val)) /\ es[j]? = some e /\ ms[j]? = some m /\ e.1 = x /\ ∀ (i' : Nat) e', i' < j -> es[i']? = some e' -> e'.1 ≠ x
 | [], [], i, _, _ => .inl ⟨rfl, by simp⟩
 | [], m :: ms, i, _, h => by have := h.1; simp at this
 | e :: es, [], i, _, h => by have := h.1; simp at this
 | e :: es, m :: ms, i, hk, h => by
   have h3 := (h.2 0 e m rfl rfl).1
   obtain ⟨c, h1, h2⟩ := heq x e.1 v m.key hx (hk e (by simp)) hv h3
   cases c with
   | true =>
     refine .inr ⟨0, e, m, by simp [Instr.findNow, h1], rfl, rfl, h2.1 rfl, fun i' e' hi => by omega⟩
   | false =>
     have hne : e.1 ≠ x := fun q => by have := h2.2 q; cases this
     have hes : Jcl φ own w es ms := ⟨by have := h.1; simpa using this, fun j e' m' he hm => h.2 (j + 1) e' m' (by simpa using he) (by simpa using hm)⟩
     rcases Jph hx hv heq es ms (i + 1) (fun y hy => hk y (by simp [hy])) hes with ⟨k1, k2⟩ | ⟨j, e', m', k1, k2, k3, k4, k5⟩
     . refine .inl ⟨by simp [Instr.findNow, h1, k1], fun y hy => ?_⟩
       rcases List.mem_cons.1 hy with rfl | hy
       . exact hne
       . exact k2 y hy
     . refine .inr ⟨j + 1, e', m', by simp [Instr.findNow, h1, k1]; omega, by simpa using k2, by simpa using k3, k4, fun i' e2 hi he2 => ?_⟩
       cases i' with
       | zero => simp at he2; subst he2; exact hne
       | succ i' => exact k5 i' e2 (by omega) (by simpa using he2)
theorem keyS {k : Nat} (hu : P.underlying k = some .string) (hcheck : ∀ (w : World) (em : Bool) (n : ByteArray), (Instr.checkKey em 10000 k (.string n)).run P w = .ok () w) : KeyOk P k IsS where
 check := fun φ own w em x v hx hv => by
   obtain ⟨n, rfl⟩ := hx
   rw [hv.str_inv]
   exact hcheck w em _
 find := fun φ own w x v es ms hx hv hes h => by
   rcases Jph (d := .string) hx hv (fun x y v u hx hy hv hu => by
     obtain ⟨n, rfl⟩ := hx
     obtain ⟨m, rfl⟩ := hy
     rw [hv.str_inv, hu.str_inv]
     refine ⟨((⟨⟨n⟩⟩ : ByteArray) == ⟨⟨m⟩⟩), rfl, ?_⟩
     rw [Go.MapKept.bytes_beq]
     simp only [ByteArray.mk.injEq, Array.mk.injEq, AV.p.injEq, PV.str.injEq]
     exact eq_comm) es ms 0 hes h with ⟨h1, h2⟩ | ⟨j, e, m, h1, h2⟩
   . exact .inl ⟨by simp [Instr.findKey, run_underlying hu, h1], h2⟩
   . exact .inr ⟨j, e, m, by simp [Instr.findKey, run_underlying hu, h1], h2⟩
 stays := fun φ own w x v v' hx hv hv' => by
   obtain ⟨n, rfl⟩ := hx
   rw [hv.str_inv, hv'.str_inv]
   have e : Instr.sameBits 10000 (.string ⟨⟨n⟩⟩) (.string ⟨⟨n⟩⟩) = true := by simp [Instr.sameBits, Go.MapKept.bytes_beq]
   rw [Instr.keyThatStays, if_pos e]
   rfl
end
end Go.Am
namespace Go.Am
open Go
section
variable {P : Program} {G : Jac} {f : Nat} {args : List AV}
end
end Go.Am
namespace Go.Am
open Go
def Jnp (P : Program) (rs : List ResultVar) (r : AV) (e : Exit) (st : St) : Prop := (e = .ret \/ e = .normal) /\ ∃ vs, resA P st rs vs /\ FrzA st.s (fun _ => True) (resV vs) r
theorem Pure.of_walkZ {P : Program} {G : Jac} {N f : Nat} {fn : Func} {c : Code} {args : List AV} {r : AV} (hf : P.funcs[f]? = some fn) (hb : fn.body = some c) (hname : (fn.name == "runtime.NumGoroutine") = false) (hN : fn.ntmps = N) (hargs : args.length <= N) (hp : Ja5 args = true)
   (h : @xc P G N 0 ⟨c⟩ (Jbr 0 args) [] 0 ⟨Jnp P fn.results.toList r⟩) : Pure P G f args r :=
 Pure.of_body hf hb hname hN hargs hp ((Jdm h).mono fun _ _ h => h)
end Go.Am
namespace Go.Am
open Go
structure Leads (G : Jac) (N n0 : Nat) (st' st : St) : Prop where
 run : ∀ [Base] (F : Nat -> Prop) (φ : Places) (a : Act) (w : World), Rel G N n0 F st' φ a w ->
 ∃ φ', Rel G N n0 F st φ' a w /\ (∀ b, b < n0 -> φ' b = φ b) /\ ∀ F' : Nat -> Prop, Step (ownF F' φ st'.s) (ownF F' φ' st.s) w w
theorem Leads.of_sub {G N n0} {st' st : St} {ρ : List Nat} (h : Sub ρ n0 st' st) : Leads G N n0 st' st := ⟨fun _ _ _ _ hr => ⟨_, hr.sub h⟩⟩
theorem Leads.trans {G N n0} {a b c : St} (h : Leads G N n0 a b) (k : Leads G N n0 b c) : Leads G N n0 a c := .mk fun F φ x w hr => by
 obtain ⟨φ1, h1, h2, h3⟩ := h.run F φ x w hr
 obtain ⟨φ2, k1, k2, k3⟩ := k.run F φ1 x w h1
 exact ⟨φ2, k1, fun b hb => (k2 b hb).trans (h2 b hb), fun F' => (h3 F').trans (k3 F')⟩
def FrzB (s : Store) (B : List Nat) (y x : ABlk) : Prop := y = x \/ ∃ k rows rows', y = .cells k rows /\ x = .cells k rows' /\
 ∀ (i j : Nat) row' x', rows'[i]? = some row' -> row'[j]? = some x' -> ∃ row z, rows[i]? = some row /\ row[j]? = some z /\ FrzK s (· ∈ B) z x'
structure Freeze (B : List Nat) (st' st : St) : Prop where
 nx : st.nx = st'.nx
 slots : ∀ d, FrzK st'.s (· ∈ B) (slot st'.t d) (slot st.t d)
 blocks : ∀ b x, get st.s b = some x -> b ∉ B /\ ∃ y, get st'.s b = some y /\ FrzB st'.s B y x
theorem Freeze.leads {G N n0} {B : List Nat} {st' st : St} (h : Freeze B st' st) : Leads G N n0 st' st := .mk fun F φ a w hr => by
 have hsub : ∀ (F' : Nat -> Prop) β, ownF F' φ st.s β -> ownF F' φ st'.s β := by
   rintro F' β (hF | ⟨b, x, p, h1, h2, rfl⟩)
   . exact .inl hF
   . obtain ⟨_, y, e, _⟩ := h.blocks b x h1
     exact .inr ⟨b, y, p, e, h2, rfl⟩
 have hstF : ∀ F' : Nat -> Prop, Step (ownF F' φ st'.s) (ownF F' φ st.s) w w := fun F' => ⟨fun β _ hn => ⟨rfl, fun h' => hn (hsub F' β h')⟩, Nat.le_refl _, fun _ arr _ h => ⟨arr, h, rfl⟩, rfl, rfl, rfl⟩
 have hh : Hides F φ st'.s (· ∈ B) (ownF F φ st.s) := by
   refine ⟨hsub F, fun b x p hB h1 h2 h3 => ?_⟩
   rcases h3 with h3 | ⟨c, y, q, k1, k2, k3⟩
   . exact hr.sr.disj b x p h1 h2 h3
   . obtain ⟨hc, z, k4, _⟩ := h.blocks c y k1
     have := hr.sr.inj c b z x q p k4 h1 k2 h2 k3
     subst this
     exact hc hB
 refine ⟨φ, ⟨⟨?_, ?_, ?_, hr.sr.fsize, ?_⟩, ?_, ?_, ⟨hr.tr.size, ?_⟩, hr.side.mono (hstF _) rfl⟩, fun _ _ => rfl, hstF⟩
 . intro b x hx
   obtain ⟨_, y, e, hf⟩ := h.blocks b x hx
   have hb := hr.sr.blk b y e
   rcases hf with rfl | ⟨k, rows, rows', rfl, rfl, hc⟩
   . exact hb.mono (fun _ _ h => h) (hstF F) (fun _ _ => rfl)
   . obtain ⟨β, δ, arr, T, e1, e2, e3⟩ := hb
     refine ⟨β, δ, arr, T, e1, e2, fun i j row x hrow hx => ?_⟩
     obtain ⟨row0, z, g1, g2, g3⟩ := hc i j row x hrow hx
     obtain ⟨hj, v, hv, hz⟩ := e3 i j row0 z g1 g2
     exact ⟨hj, v, hv, VR.frzK hr.sr hh hz g3⟩
 . intro b c x z p p' h1 h2 h3 h4 h5
   obtain ⟨_, y, e, _⟩ := h.blocks b x h1
   obtain ⟨_, y', e', _⟩ := h.blocks c z h2
   exact hr.sr.inj b c y y' p p' e e' h3 h4 h5
 . intro b x p h1 h2
   obtain ⟨_, y, e, _⟩ := h.blocks b x h1
   exact hr.sr.disj b y p e h2
 . intro g k rows hg
   obtain ⟨h1, h2, h3⟩ := hr.sr.glob g k rows hg
   exact ⟨h1, fun h' => h2 (hsub F g h'), h3.mono (hstF F) h1 h2⟩
 . intro b hb
   exact hr.fresh b (by rw [<- h.nx]; exact hb)
 . rw [h.nx]; exact hr.base
 . intro d
   exact VR.frzK hr.sr hh (hr.tr.slots d) (h.slots d)
section
variable {P : Program} {G : Jac} {N n0 : Nat}
theorem Jdc.introL {γ : Type} {c : Code} {st : St} {Q : Exit -> St -> Prop} (S : γ -> St) (I : γ -> Prop) (μ : γ -> Nat) (g0 : γ) (hi : I g0) (h0 : Leads G N n0 st (S g0))
   (round : ∀ g, I g -> AEv P G N n0 c (S g) (Jgj (fun st' => ∃ g', I g' /\ μ g' < μ g /\ Leads G N n0 st' (S g')) Q)) : Jdc P G N n0 c st Q := by
 refine ⟨fun F φ a w hr => ?_⟩
 let J (g : γ) (a' : Act) (w' : World) : Prop := I g /\ ∃ φ', Rel G N n0 F (S g) φ' a' w' /\ (∀ b, b < n0 -> φ' b = φ b) /\ ∀ F' : Nat -> Prop, Step (ownF F' φ st.s) (ownF F' φ' (S g).s) w w'
 let M (a' : Act) (w' : World) (n : Nat) : Prop := ∃ g, μ g = n /\ J g a' w'
 let m (a' : Act) (w' : World) : Nat := open Classical in if h : ∃ n, M a' w' n then Classical.choose (exists_least _ h) else 0
 have hm : ∀ a' w' g, J g a' w' -> m a' w' <= μ g := fun a' w' g hg => by
   have hex : ∃ n, M a' w' n := ⟨_, g, rfl, hg⟩
   simp only [m, dif_pos hex]
   exact (Classical.choose_spec (exists_least _ hex)).2 _ ⟨g, rfl, hg⟩
 refine wpIn_loop (fun a' w' => ∃ g, J g a' w') m ?_ ?_
 . obtain ⟨φ0, h1, h2, h3⟩ := h0.run F φ a w hr
   exact ⟨g0, hi, _, h1, h2, h3⟩
 . intro a1 w1 hex
   have hexn : ∃ n, M a1 w1 n := let ⟨g, hg⟩ := hex; ⟨_, g, rfl, hg⟩
   have hmin : m a1 w1 = Classical.choose (exists_least _ hexn) := by simp only [m, dif_pos hexn]
   obtain ⟨g, hgm, hJ⟩ := (Classical.choose_spec (exists_least _ hexn)).1
   obtain ⟨hI, φ1, hr1, hb1, hs1⟩ := id hJ
   refine wpIn_mono ((round g hI).run F φ1 a1 w1 hr1) fun e a2 w2 ha => ?_
   have ha := After.trans (st := st) hb1 hs1 ha
   cases e with
   | normal =>
     obtain ⟨st', φ', ⟨g', hI', hlt, hsub⟩, hr', hb', hs'⟩ := ha
     obtain ⟨φ'', k1, k2, k3⟩ := hsub.run F φ' a2 w2 hr'
     have hJ' : J g' a2 w2 := ⟨hI', _, k1, fun b hb => (k2 b hb).trans (hb' b hb), fun F' => (hs' F').trans (k3 F')⟩
     refine ⟨⟨g', hJ'⟩, ?_⟩
     rw [hmin, <- hgm]
     exact Nat.lt_of_le_of_lt (hm a2 w2 g' hJ') hlt
   | _ => exact ha
theorem Jai.goL {γ : Type} {c : Cont Code} {st : St} {Q : Cont KQ} (S : γ -> St) (I : γ -> Prop) (μ : γ -> Nat) (g0 : γ) (hi : I g0) (h0 : Leads G N n0 st (S g0))
   (round : ∀ g, I g -> @xc P G N n0 c (S g).t (S g).s (S g).nx ⟨fun x st' => @Jd8 x st' ⟨fun st' => ∃ g', I g' /\ μ g' < μ g /\ Leads G N n0 st' (S g')⟩ Q⟩) : @Jai P G N n0 c st Q :=
 Jdc.introL S I μ g0 hi h0 fun g hg => (Jct _ _ _ (round g hg)).mono fun x st' h => by
   cases x with
   | normal => exact h
   | _ => exact h
theorem J18 (us t : Jap) (d : Nat) : (∃ p ∈ us, p.1 = d /\ slot (us ++ t) d = p.2) \/ ((∀ p ∈ us, p.1 ≠ d) /\ slot (us ++ t) d = slot t d) := by
 induction us with
 | nil => exact .inr ⟨by simp, rfl⟩
 | cons p us ih =>
   obtain ⟨e, x⟩ := p
   by_cases h : e = d
   . exact .inl ⟨(e, x), by simp, h, by simp [slot, h]⟩
   . rcases ih with ⟨p, hp, h1, h2⟩ | ⟨h1, h2⟩
     . exact .inl ⟨p, by simp [hp], h1, by simp [slot, h, h2]⟩
     . refine .inr ⟨fun p hp => ?_, by simp [slot, h, h2]⟩
       rcases List.mem_cons.1 hp with rfl | hp
       . exact h
       . exact h1 p hp
theorem Freeze.of {B : List Nat} {st' : St} (us : Jap) (ups : Store) (hu : ∀ p ∈ us, FrzK st'.s (· ∈ B) (slot st'.t p.1) p.2)
   (hb : ∀ p ∈ ups, ∀ x, p.2 = some x -> p.1 ∉ B /\ ∃ y, get st'.s p.1 = some y /\ FrzB st'.s B y x) (hB : ∀ b ∈ B, b ∈ keys ups) : Freeze B st' ⟨us ++ st'.t, ups ++ st'.s, st'.nx⟩ where
 nx := rfl
 slots d := by
   show FrzK _ _ _ (slot (us ++ st'.t) d)
   rcases J18 us st'.t d with ⟨p, hp, rfl, h2⟩ | ⟨_, h2⟩
   . rw [h2]; exact hu p hp
   . rw [h2]; exact .keep _
 blocks b x hx := by
   have hx2 : get (ups ++ st'.s) b = some x := hx
   rw [get_append] at hx2
   split at hx2
   . have := get_mem hx2
     exact hb (b, some x) this x rfl
   . rename_i hk
     exact ⟨fun h => hk (hB b h), x, hx2, .inl rfl⟩
theorem Leads.frz_sub {B : List Nat} {st' st : St} {ρ : List Nat} (us : Jap) (ups : Store) (hf : Freeze B st' ⟨us ++ st'.t, ups ++ st'.s, st'.nx⟩) (hs : SubX ρ n0 ⟨us ++ st'.t, ups ++ st'.s, st'.nx⟩ st) : Leads G N n0 st' st :=
 hf.leads.trans (.of_sub hs.sub)
theorem Leads.subx {st' st : St} {ρ : List Nat} (hs : SubX ρ n0 st' st) : Leads G N n0 st' st := .of_sub hs.sub
theorem Jai.goK {γ : Type} {c : Cont Code} {t : Jap} {s : Store} {nx : Nat} {Q : Cont KQ} (keep keepB : List Nat) (e : Nat) (M : Nat -> γ -> Jap) (B : Nat -> γ -> Store) (I : γ -> Prop) (μ : γ -> Nat) (g0 : γ) (hi : I g0)
   (h0 : Leads G N n0 ⟨t, s, nx⟩ ⟨M nx g0 ++ pick keep t, B nx g0 ++ Jb7 keepB s, nx + e⟩)
   (round : ∀ g, I g -> @xc P G N n0 c (M nx g ++ pick keep t) (B nx g ++ Jb7 keepB s) (nx + e) ⟨fun x st' => @Jd8 x st' ⟨fun st' => ∃ g', I g' /\ μ g' < μ g /\
     Leads G N n0 st' ⟨M nx g' ++ pick keep t, B nx g' ++ Jb7 keepB s, nx + e⟩⟩ Q⟩) : @Jai P G N n0 c ⟨t, s, nx⟩ Q :=
 Jai.goL (fun g => ⟨M nx g ++ pick keep t, B nx g ++ Jb7 keepB s, nx + e⟩) I μ g0 hi h0 round
end
end Go.Am
