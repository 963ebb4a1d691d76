/- Lemmas and contracts for the proof of a statement of this seat. -/
import Derived.Test.YtmfjjncfdpejiaaGreatDoorZS1
import Derived.Test.YtmfjjncfdpejiaaGreatDoorZS2
import Derived.Test.YtmfjjncfdpejiaaGreatDoorZA4
import Derived.Test.YtmfjjncfdpejiaaGreatDoorZA5
set_option linter.unusedVariables false
set_option linter.unusedSimpArgs false
namespace Go.Am
open Go Go.Proofs Go.Pn
abbrev GL : Jae := [(3, 18, [[.int .u8 65, .int .u8 90, .int .u8 1, .int .u8 97, .int .u8 122, .int .u8 1, .int .u8 48, .int .u8 57, .int .u8 2, .int .u8 95, .int .u8 95, .int .u8 3, .int .u8 32, .int .u8 32, .int .u8 5, .int .u8 10, .int .u8 10, .int .u8 5]])]
theorem Jv6 {own : Nat -> Prop} {w : World} {φ : Places} {args : List AV} {vs : List Value} {i : Nat} {k : IntKind} {n : Int} (hl : vs.length = args.length) (h : ∀ (i : Nat) x v, args[i]? = some x -> vs[i]? = some v -> VR φ own w x v)
   (hi : args[i]? = some (.p (.int k n))) : vs[i]? = some (.int k n) := by
 have hlt : i < args.length := (gsI.1 hi).1
 have hv : vs[i]? = some vs[i] := List.getElem?_eq_getElem (by omega)
 rw [hv, (h i _ _ hi hv).int_inv]
theorem Jzg {P : Program} {G : Jae} {f : Nat} {fn : Func} (hf : P.funcs[f]? = some fn) (hname : (fn.name == "runtime.NumGoroutine") = false) (hb : fn.body.isNone = true) (hn : Extern.findNext fn = none)
   (he : Extern.find fn = some Extern.BytealgIndexByte.indexByte) (a : List UInt8) (c : Int) : Pure P G f [.p (.str a), .p (.int .u8 c)] (.p (.int .i64 (Lib.indexByte a c.toNat.toUInt8))) := by
 refine ⟨rfl, fun own w vs _ _ hl hv => ?_⟩
 obtain rfl := Jr3 hl (Jmk hl hv rfl) (Jv6 hl hv rfl)
 rw [run_callFunc_extern hf hname hb hn he]
 have := Lib.run_indexByteString (P := P) ⟨⟨a⟩⟩ c w
 have e : (Extern.BytealgIndexByte.indexByte ⟨[.string ⟨⟨a⟩⟩, .int .u8 c]⟩).run P w = _ := this
 rw [e]
 exact ⟨.p _ _ (.int ..), fun _ _ => rfl, Step.refl _ _⟩
@[simp] theorem wrap_u8 {n : Int} (h1 : 0 <= n) (h2 : n <= 255) : (IntKind.u8.wrap n = n) = True := by
 apply eq_true
 simp [IntKind.wrap, IntKind.bits, IntKind.signed]
 omega
@[simp] theorem J88 {n : Int} (h1 : -9223372036854775808 <= n) (h2 : n <= 9223372036854775807) : (IntKind.i64.wrap n = n) = True := eq_true (wrap_i64 h1 h2)
end Go.Am
namespace Go.Pn
open Go Go.Proofs Go.Am
@[simp] def Port.enc (p : Port) : List PV := [.int .i64 p.part, .str p.name]
@[simp] def Port.row (p : Port) : List AV := [.p (.int .i64 p.part), .p (.str p.name)]
@[simp] def Port.av (p : Port) : AV := .agg [.p (.int .i64 p.part), .p (.str p.name)]
@[simp] def Part.enc (p : Part) : List PV := [.int .i64 p.kind, .str p.name, .int .i64 p.delay]
@[simp] def Part.row (p : Part) : List AV := [.p (.int .i64 p.kind), .p (.str p.name), .p (.int .i64 p.delay)]
@[simp] def Part.av (p : Part) : AV := .agg [.p (.int .i64 p.kind), .p (.str p.name), .p (.int .i64 p.delay)]
@[simp] def Pipe.enc (p : Pipe) : List PV := [.int .i64 p.fr.part, .str p.fr.name, .int .i64 p.to.part, .str p.to.name]
@[simp] def Pipe.row (p : Pipe) : List AV := [.p (.int .i64 p.fr.part), .p (.str p.fr.name), .p (.int .i64 p.to.part), .p (.str p.to.name)]
@[simp] def Pipe.av (p : Pipe) : AV := .agg [.p (.int .i64 p.fr.part), .p (.str p.fr.name), .p (.int .i64 p.to.part), .p (.str p.to.name)]
end Go.Pn
namespace Go.Am
open Go Go.Proofs Go.Pn
@[simp] abbrev Txt.enc (s : Txt) : List PV := [.str s]
@[simp] abbrev Txt.row (s : Txt) : List AV := [.p (.str s)]
@[simp] abbrev Txt.av (s : Txt) : AV := .p (.str s)
@[simp] abbrev Int.enc (s : Int) : List PV := [.int .i64 s]
@[simp] abbrev Int.row (s : Int) : List AV := [.p (.int .i64 s)]
@[simp] abbrev Int.av (s : Int) : AV := .p (.int .i64 s)
def Ports.enc (l : List Port) : List PV := [.lst 2 (l.map Port.enc)]
end Go.Am
namespace Go.Pn
open Go Go.Proofs Go.Am
@[simp] def Circuit.av (c : Circuit) : AV := .agg [.p (.lst 3 (c.parts.map Part.enc)), .p (.lst 4 (c.pipes.map Pipe.enc))]
end Go.Pn
namespace Go.Am
open Go Go.Proofs Go.Pn
@[simp] theorem Port.eq_iff {p q : Port} : (p.part = q.part /\ p.name = q.name) = (p = q) := by cases p; cases q; simp
@[simp] theorem Part.eq_iff {p q : Part} : (p.kind = q.kind /\ p.name = q.name /\ p.delay = q.delay) = (p = q) := by cases p; cases q; simp
@[simp] theorem Pipe.eq_iff {p q : Pipe} : (p.fr.part = q.fr.part /\ p.fr.name = q.fr.name /\ p.to.part = q.to.part /\ p.to.name = q.to.name) = (p = q) := by
 obtain ⟨⟨a, b⟩, ⟨c, d⟩⟩ := p; obtain ⟨⟨e, f⟩, ⟨g, h⟩⟩ := q; simp [and_assoc]
@[simp] theorem Pipe.eq_iff2 {p q : Pipe} : (p.fr.part = q.fr.part /\ p.fr.name = q.fr.name /\ p.to = q.to) = (p = q) := by
 obtain ⟨⟨a, b⟩, ⟨c, d⟩⟩ := p; obtain ⟨⟨e, f⟩, ⟨g, h⟩⟩ := q; simp [and_assoc]
theorem Jai.gor {P : Program} {G : Jae} {N n0 : Nat} {γ : Type} {c : Cont Code} {t : Jaq} {s : Store} {nx : Nat} {Q : Cont KQ} (keep keepB : List Nat) (ρ0 : List Nat) (rf : St -> List Nat) (M : γ -> Jaq) (B : γ -> Store) (I : γ -> Prop) (μ : γ -> Nat) (g0 : γ) (hi : I g0)
   (h0 : SubX ρ0 n0 ⟨t, s, nx⟩ ⟨M g0 ++ pick keep t, B g0 ++ Je9 keepB s, nx⟩)
   (round : ∀ g, I g -> @xc P G N n0 c (M g ++ pick keep t) (B g ++ Je9 keepB s) nx ⟨fun x st' => @Jhz x st' ⟨fun st' => ∃ g', I g' /\ μ g' < μ g /\
     SubX (rf st') n0 st' ⟨M g' ++ pick keep t, B g' ++ Je9 keepB s, nx⟩⟩ Q⟩) : @Jai P G N n0 c ⟨t, s, nx⟩ Q :=
 Jgt.intro (fun g => ⟨M g ++ pick keep t, B g ++ Je9 keepB s, nx⟩) I μ g0 _ hi h0.sub fun g hg => (Jd2 _ _ _ (round g hg)).mono fun x st' h => by
   cases x with
   | normal =>
     obtain ⟨g', h1, h2, h3⟩ := h
     exact ⟨g', _, h1, h2, h3.sub⟩
   | _ => exact h
theorem Gives.mk_walkK {P : Program} {G : Jae} {N : Nat} {f : Nat} {fn : Func} {c : Code} {args args' : List AV} {s : Store} {nx : Nat} {rc : AV} {up : Store} {nx' : Nat} (σ free : List Nat) (s0 s1 : Store) (m x : Nat) (r : AV) (names : St -> List Nat) {up1 : Store}
   (hf : P.funcs[f]? = some fn) (hb : fn.body = some c) (hname : (fn.name == "runtime.NumGoroutine") = false)
   (hN : fn.ntmps = N) (hargs : args.length <= N) (hm : σ.length = m) (hL : Jfd σ nx s0 s args args') (hfree : ∀ b ∈ free, b < m) (hr : renA (Jb1 σ nx x) r = some rc) (hup : renS (Jb1 σ nx x) s1 = some up1)
   (e1 : (up1 ++ free.map fun b => ((σ[b]?).getD 0, (none : Option ABlk))) = up) (e2 : nx + x = nx')
   (h : @xc P G N m ⟨c⟩ (Jc1 0 args) s0 m ⟨Jmf P fn.results.toList m x (s1 ++ (free.map (·, none) ++ s0)) r names⟩) :
   Gives P G f args' s nx rc σ up nx' := by
 subst e1; subst e2
 exact Gives.of_walkK names hf hb hname hN hargs hm hL hfree hr hup h
attribute [simp] or_imp forall_and
def idxI {α : Type} (xs : List α) (q : α -> Bool) : Int := match xs.findIdx? q with | some i => i | none => -1
theorem Jag {α : Type} {xs : List α} {k : Nat} (h : k < xs.length) : ∃ x, xs[k]? = some x := ⟨_, List.getElem?_eq_getElem h⟩
theorem take_snoc {α : Type} {xs : List α} {k : Nat} {x : α} (h : xs[k]? = some x) : xs.take (k + 1) = xs.take k ++ [x] := by rw [List.take_add_one, h]; rfl
theorem Jdn {α : Type} {xs : List α} {P : α -> Prop} {k : Nat} {x : α} (h : ∀ (j : Nat) y, j < k -> xs[j]? = some y -> P y) (e : xs[k]? = some x) (hx : P x) : ∀ (j : Nat) y, j < k + 1 -> xs[j]? = some y -> P y := by
 intro j y hj hy
 by_cases hjk : j = k
 . subst hjk; rw [e] at hy; cases hy; exact hx
 . exact h j y (by omega) hy
theorem Jdu {α : Type} {xs : List α} {P : α -> Prop} (h : ∀ (j : Nat) y, j < xs.length -> xs[j]? = some y -> P y) : ∀ y ∈ xs, P y := by
 intro y hy
 obtain ⟨j, hj, rfl⟩ := List.getElem_of_mem hy
 exact h j _ hj (List.getElem?_eq_getElem hj)
theorem Jdp {α : Type} {xs : List α} {q : α -> Bool} {k : Nat} {x : α} (e : xs[k]? = some x) (hx : q x = true) (h : ∀ (j : Nat) y, j < k -> xs[j]? = some y -> q y = false) : idxI xs q = k := by
 obtain ⟨hk, rfl⟩ := gsI.1 e
 unfold idxI
 rw [(List.findIdx?_eq_some_iff_getElem (i := k)).2 ⟨hk, hx, fun j hj => by have := h j _ hj (List.getElem?_eq_getElem (by omega)); simp [this]⟩]
theorem Jei {α : Type} {xs : List α} {q : α -> Bool} (h : ∀ x ∈ xs, q x = false) : idxI xs q = -1 := by
 unfold idxI
 rw [List.findIdx?_eq_none_iff.2 h]
theorem Jkg {α : Type} {xs : List α} {q : α -> Bool} : (0 <= idxI xs q) ↔ xs.any q = true := by
 unfold idxI
 split
 . rename_i i h
   obtain ⟨h1, h2, _⟩ := List.findIdx?_eq_some_iff_getElem.1 h
   simp
   exact ⟨_, List.getElem_mem h1, h2⟩
 . rename_i h
   rw [List.findIdx?_eq_none_iff] at h
   simp
   exact h
end Go.Am
namespace Go.Am
open Go Go.Proofs Go.Pn
theorem Jws (a : List UInt8) (c : Int) : Pure Tryz.prog GL 360 [.p (.str a), .p (.int .u8 c)] (.p (.int .i64 (Lib.indexByte a c.toNat.toUInt8))) :=
 Jzg Tryz.func360 rfl rfl (by kernel_rfl) (by kernel_rfl) a c
theorem Jpw (a : List UInt8) (c : Int) : Pure Tryz.prog GL 316 [.p (.str a), .p (.int .u8 c)] (.p (.int .i64 (Lib.indexByte a c.toNat.toUInt8))) := by
 refine Pure.of_walk (N := 8) Tryz.func316 rfl rfl rfl (by simp) (by first | (simp; done) | simp [*]) ?_
 simp
 refine Jab (Jws a c) ?_
 simp [Jaa]
theorem Jyc (a : List UInt8) (c : Int) : Pure Tryz.prog GL 344 [.p (.str a), .p (.int .u8 c)] (.p (.int .i64 (Lib.indexByte a c.toNat.toUInt8))) := by
 refine Pure.of_walk (N := 8) Tryz.func344 rfl rfl rfl (by simp) (by first | (simp; done) | simp [*]) ?_
 simp
 refine Jab (Jpw a c) ?_
 simp [Jaa]
def Jcp (n : Nat) : Int := if 65 <= n /\ n <= 90 then 1 else if 97 <= n /\ n <= 122 then 1 else if 48 <= n /\ n <= 57 then 2 else if n = 95 then 3 else if n = 32 then 5 else if n = 10 then 5 else
 if 0 <= Lib.indexByte [43, 45, 42, 47, 40, 41, 91, 93, 123, 125, 60, 62, 61, 44, 59, 58, 124, 38, 33, 35, 46] n.toUInt8 then 4 else 0
def passed (n : Nat) : Nat -> Prop
 | 0 => True
 | 1 => ¬ (65 <= n /\ n <= 90)
 | 2 => ¬ (65 <= n /\ n <= 90) /\ ¬ (97 <= n /\ n <= 122)
 | 3 => ¬ (65 <= n /\ n <= 90) /\ ¬ (97 <= n /\ n <= 122) /\ ¬ (48 <= n /\ n <= 57)
 | 4 => ¬ (65 <= n /\ n <= 90) /\ ¬ (97 <= n /\ n <= 122) /\ ¬ (48 <= n /\ n <= 57) /\ n ≠ 95
 | 5 => ¬ (65 <= n /\ n <= 90) /\ ¬ (97 <= n /\ n <= 122) /\ ¬ (48 <= n /\ n <= 57) /\ n ≠ 95 /\ n ≠ 32
 | _ => ¬ (65 <= n /\ n <= 90) /\ ¬ (97 <= n /\ n <= 122) /\ ¬ (48 <= n /\ n <= 57) /\ n ≠ 95 /\ n ≠ 32 /\ n ≠ 10
theorem Jpz (n : Nat) : Pure Tryz.prog GL 284 [.p (.int .u8 n)] (.p (.int .i64 (Jcp n))) := by
 refine Pure.of_walk (N := 28) Tryz.func284 rfl rfl rfl (by simp) (by first | (simp; done) | simp [*]) ?_
 simp
 refine Jai.go [0] [] 0 [] (fun _ => []) (fun _ (k : Nat) => [(5, .p (.int .i64 k))]) (fun _ _ => []) (fun k => k <= 6 /\ passed n k) (fun k => 6 - k) 0 ⟨by omega, trivial⟩ ?_ ?_
 . simp
 . rintro k ⟨hk, hp⟩
   rcases (by omega : k = 0 \/ k = 1 \/ k = 2 \/ k = 3 \/ k = 4 \/ k = 5 \/ k = 6) with rfl | rfl | rfl | rfl | rfl | rfl | rfl
   . simp
     refine Jac (fun h => ?_) (fun h => ?_)
     . simp [h]
       refine Jac (fun h2 => ?_) (fun h2 => ?_)
       . simp at h h2
         simp [passed] at hp
         simp [Jaa, Jcp]
         split <;> (try omega)
         all_goals (split <;> (try omega))
         all_goals (split <;> (try omega))
         all_goals (split <;> (try omega))
         all_goals (split <;> (try omega))
         all_goals (split <;> (try omega))
       . simp at h h2
         simp
         simp [passed] at hp
         refine ⟨1, ⟨by omega, by simp [passed]; omega⟩, by omega, ?_⟩
         simp
     . simp [h]
       simp at h
       simp [passed] at hp
       refine ⟨1, ⟨by omega, by simp [passed]; omega⟩, by omega, ?_⟩
       simp
   . simp
     refine Jac (fun h => ?_) (fun h => ?_)
     . simp [h]
       refine Jac (fun h2 => ?_) (fun h2 => ?_)
       . simp at h h2
         simp [passed] at hp
         simp [Jaa, Jcp]
         split <;> (try omega)
         all_goals (split <;> (try omega))
         all_goals (split <;> (try omega))
         all_goals (split <;> (try omega))
         all_goals (split <;> (try omega))
         all_goals (split <;> (try omega))
       . simp at h h2
         simp
         simp [passed] at hp
         refine ⟨2, ⟨by omega, by simp [passed]; omega⟩, by omega, ?_⟩
         simp
     . simp [h]
       simp at h
       simp [passed] at hp
       refine ⟨2, ⟨by omega, by simp [passed]; omega⟩, by omega, ?_⟩
       simp
   . simp
     refine Jac (fun h => ?_) (fun h => ?_)
     . simp [h]
       refine Jac (fun h2 => ?_) (fun h2 => ?_)
       . simp at h h2
         simp [passed] at hp
         simp [Jaa, Jcp]
         split <;> (try omega)
         all_goals (split <;> (try omega))
         all_goals (split <;> (try omega))
         all_goals (split <;> (try omega))
         all_goals (split <;> (try omega))
         all_goals (split <;> (try omega))
       . simp at h h2
         simp
         simp [passed] at hp
         refine ⟨3, ⟨by omega, by simp [passed]; omega⟩, by omega, ?_⟩
         simp
     . simp [h]
       simp at h
       simp [passed] at hp
       refine ⟨3, ⟨by omega, by simp [passed]; omega⟩, by omega, ?_⟩
       simp
   . simp
     refine Jac (fun h => ?_) (fun h => ?_)
     . simp [h]
       refine Jac (fun h2 => ?_) (fun h2 => ?_)
       . simp at h h2
         simp [passed] at hp
         simp [Jaa, Jcp]
         split <;> (try omega)
         all_goals (split <;> (try omega))
         all_goals (split <;> (try omega))
         all_goals (split <;> (try omega))
         all_goals (split <;> (try omega))
         all_goals (split <;> (try omega))
       . simp at h h2
         simp
         simp [passed] at hp
         refine ⟨4, ⟨by omega, by simp [passed]; omega⟩, by omega, ?_⟩
         simp
     . simp [h]
       simp at h
       simp [passed] at hp
       refine ⟨4, ⟨by omega, by simp [passed]; omega⟩, by omega, ?_⟩
       simp
   . simp
     refine Jac (fun h => ?_) (fun h => ?_)
     . simp [h]
       refine Jac (fun h2 => ?_) (fun h2 => ?_)
       . simp at h h2
         simp [passed] at hp
         simp [Jaa, Jcp]
         split <;> (try omega)
         all_goals (split <;> (try omega))
         all_goals (split <;> (try omega))
         all_goals (split <;> (try omega))
         all_goals (split <;> (try omega))
         all_goals (split <;> (try omega))
       . simp at h h2
         simp
         simp [passed] at hp
         refine ⟨5, ⟨by omega, by simp [passed]; omega⟩, by omega, ?_⟩
         simp
     . simp [h]
       simp at h
       simp [passed] at hp
       refine ⟨5, ⟨by omega, by simp [passed]; omega⟩, by omega, ?_⟩
       simp
   . simp
     refine Jac (fun h => ?_) (fun h => ?_)
     . simp [h]
       refine Jac (fun h2 => ?_) (fun h2 => ?_)
       . simp at h h2
         simp [passed] at hp
         simp [Jaa, Jcp]
         split <;> (try omega)
         all_goals (split <;> (try omega))
         all_goals (split <;> (try omega))
         all_goals (split <;> (try omega))
         all_goals (split <;> (try omega))
         all_goals (split <;> (try omega))
       . simp at h h2
         simp
         simp [passed] at hp
         refine ⟨6, ⟨by omega, by simp [passed]; omega⟩, by omega, ?_⟩
         simp
     . simp [h]
       simp at h
       simp [passed] at hp
       refine ⟨6, ⟨by omega, by simp [passed]; omega⟩, by omega, ?_⟩
       simp
   . simp
     refine Jab (Jyc _ n) ?_
     simp [passed] at hp
     simp
     refine Jac (fun h => ?_) (fun h => ?_)
     . simp at h
       simp [Jaa, Jcp]
       rw [if_neg (by omega), if_neg (by omega), if_neg (by omega), if_neg (by omega), if_neg (by omega), if_neg (by omega), if_pos h]
     . simp at h
       simp [Jaa, Jcp]
       rw [if_neg (by omega), if_neg (by omega), if_neg (by omega), if_neg (by omega), if_neg (by omega), if_neg (by omega), if_neg (by omega)]
def runN (s : List UInt8) (cs : List Int) : Nat := s.findIdx fun b => !decide (Jcp b.toNat ∈ cs)
theorem Jqs {α : Type} {p : α -> Bool} {xs : List α} {k : Nat} (h : ∀ (j : Nat) x, j < k -> xs[j]? = some x -> p x = false) (hk : k <= xs.length) (he : k = xs.length \/ ∃ x, xs[k]? = some x /\ p x = true) : xs.findIdx p = k := by
 apply Nat.le_antisymm
 . rcases he with rfl | ⟨x, hx, hp⟩
   . exact List.findIdx_le_length
   . obtain ⟨hlt, hx⟩ := gsI.1 hx
     apply Nat.le_of_not_lt
     intro hl
     have := List.not_of_lt_findIdx hl
     rw [hx, hp] at this
     cases this
 . apply Nat.le_of_not_lt
   intro hl
   have hlt : xs.findIdx p < xs.length := by omega
   have := h _ _ hl (List.getElem?_eq_getElem hlt)
   have h2 := List.findIdx_getElem (w := hlt)
   rw [this] at h2
   cases h2
theorem Jp0 (s : List UInt8) (cs : List Int) (hs : s.length < 4611686018427387904) (hc : cs.length < 4611686018427387904) : Pure Tryz.prog GL 281 [.p (.str s), .p (.lst 1 (cs.map fun c => [.int .i64 c]))] (.p (.int .i64 (runN s cs))) := by
 refine Pure.of_walk (N := 36) Tryz.func281 rfl rfl rfl (by simp) (by first | (simp; done) | simp [*]) ?_
 simp
 refine Jai.go [0, 1, 10] [] 0 [] (fun _ => []) (fun _ (k : Nat) => [(11, .p (.int .i64 k))]) (fun _ _ => []) (fun k => k <= s.length /\ ∀ (j : Nat) b, j < k -> s[j]? = some b -> (!decide (Jcp b.toNat ∈ cs)) = false) (fun k => s.length - k) 0 ⟨by omega, fun j b h => by omega⟩ ?_ ?_
 . simp
 . rintro k ⟨hk, hp⟩
   simp
   refine Jac (fun h => ?_) (fun h => ?_)
   . simp at h
     simp
     obtain ⟨b, e⟩ := Jag h
     refine Jai.go [0, 1, 5, 10, 11, 14, 15] [] 0 [] (fun _ => []) (fun _ (m : Nat) => [(6, .p (.bool (decide (Jcp b.toNat ∈ cs.take m)))), (16, .p (.int .i64 m))]) (fun _ _ => []) (fun m => m <= cs.length) (fun m => cs.length - m) 0 (by omega) ?_ ?_
     . simp
     . intro m hm
       simp
       refine Jac (fun h2 => ?_) (fun h2 => ?_)
       . simp at h2
         obtain ⟨c, e2⟩ := Jag h2
         simp [h2, e2]
         refine Jac (fun h3 => ?_) (fun h3 => ?_)
         . simp at h3
           simp [h3, e]
           refine Jab (Jpz b.toNat) ?_
           simp [h3]
           refine ⟨wrap_i64 (by omega) (by omega), m + 1, by omega, by omega, ?_⟩
           simp [take_snoc e2, h3]
           obtain ⟨_, rfl⟩ := gsI.1 e2; rfl
         . simp at h3
           simp [h3]
           refine ⟨wrap_i64 (by omega) (by omega), m + 1, by omega, by omega, ?_⟩
           simp [take_snoc e2, h3]
       . simp at h2
         have hm2 : m = cs.length := by omega
         subst hm2
         simp
         refine Jac (fun h3 => ?_) (fun h3 => ?_)
         . simp [Jaa, runN]
           rw [Jqs hp hk (.inr ⟨b, e, by simpa using h3⟩)]
         . simp at h3
           simp [h3]
           refine ⟨wrap_i64 (by omega) (by omega), k + 1, ⟨by omega, fun j b' hj hb => ?_⟩, by omega, ?_⟩
           . by_cases hjk : j = k
             . subst hjk; rw [e] at hb; cases hb; exact h3
             . simpa using hp j b' (by omega) hb
           . simp
   . simp at h
     simp [Jaa, runN]
     have hk2 : k = s.length := by omega
     subst hk2
     rw [Jqs hp hk (.inl rfl)]
theorem Jyn (b : UInt8) : (Jcp b.toNat = 1) ↔ Jd7 b = true := by
 have hb := b.toNat_lt
 simp [Jd7, UInt8.le_iff_toNat_le, Jcp]
 repeat' split
 all_goals (first | omega | simp_all)
 all_goals omega
theorem Jym (b : UInt8) : (Jcp b.toNat ∈ [1, 2, 3]) ↔ Jcf b = true := by
 have hb := b.toNat_lt
 simp [Jcf, Jd7, isDigit, UInt8.le_iff_toNat_le, Jcp, <- UInt8.toNat_inj]
 repeat' split
 all_goals (first | omega | simp_all)
 all_goals omega
theorem J4c (s : List UInt8) : runN s [1, 2, 3] = s.length ↔ s.all Jcf = true := by
 unfold runN
 rw [List.findIdx_eq_length]
 simp only [Bool.not_eq_false', decide_eq_true_eq, List.all_eq_true, Jym]
theorem Jve {b : UInt8} {r : List UInt8} (h : Jd7 b = false) : Jcn (b :: r) = 3 := by
 unfold Jcn; simp only [h, Bool.not_false, if_true]
theorem Jvf {b : UInt8} {r : List UInt8} (h : ¬ (b :: r).all Jcf = true) : Jcn (b :: r) = 3 := by
 unfold Jcn
 have h' : (b :: r).all Jcf = false := by simpa only [Bool.not_eq_true] using h
 simp only [h', Bool.not_false, if_true]
 split <;> rfl
theorem Jl4 {b : UInt8} {r : List UInt8} (h1 : Jd7 b = true) (h : (b :: r).all Jcf = true) : Jcn (b :: r) = if (b :: r).length > 24 then 17 else 0 := by
 unfold Jcn
 simp only [h1, h, Bool.not_true, if_false, Bool.false_eq_true]
theorem Jxc (s : List UInt8) (hs : s.length < 4611686018427387904) : Pure Tryz.prog GL 229 [.p (.str s)] (.p (.int .i64 (Jcn s))) := by
 refine Pure.of_walk (N := 24) Tryz.func229 rfl rfl rfl (by simp) (by first | (simp; done) | simp [*]) ?_
 simp
 cases s with
 | nil => simp [Jaa, Jcn]
 | cons b r =>
   simp
   refine Jab (Jpz b.toNat) ?_
   simp
   have h1 := Jyn b
   have h2 := J4c (b :: r)
   refine Jac (fun h => ?_) (fun h => ?_)
   . simp at h
     simp [h] at h1 ⊢
     refine Jcb ?_
     simp
     refine ⟨_, Jp0 (b :: r) [1, 2, 3] hs (by simp), rfl, ?_⟩
     simp
     refine Jac (fun h3 => ?_) (fun h3 => ?_)
     . have h4 : ¬ (b :: r).all Jcf = true := fun h5 => by
         rw [<- h2] at h5
         rw [h5] at h3
         simp at h3
       simp [Jaa, Jvf h4]
     . have h4 : (b :: r).all Jcf = true := by
         rw [<- h2]
         simp at h3
         simp
         omega
       simp
       refine Jac (fun h5 => ?_) (fun h5 => ?_)
       . simp at h5
         simp [Jaa, Jl4 h1 h4]
         omega
       . simp at h5
         simp [Jaa, Jl4 h1 h4]
         omega
   . simp at h
     have h1' : Jd7 b = false := by
       cases e : Jd7 b with
       | false => rfl
       | true => exact absurd (h1.2 e) h
     simp [h, Jaa, Jve h1']
theorem Jp4 (b : UInt8) : Pure Tryz.prog GL 182 [.p (.int .u8 b.toNat)] (.p (.bool (Jd7 b))) := by
 refine Pure.of_walk (N := 17) Tryz.func182 rfl rfl rfl (by simp) (by first | (simp; done) | simp [*]) ?_
 simp
 repeat' (first | (apply Jac <;> intro hq <;> (try simp at hq) <;> (try simp [hq])) | (apply Jcc <;> intro hq <;> (try simp at hq) <;> (try simp [hq])))
 all_goals (try simp [Jaa, Jd7, UInt8.le_iff_toNat_le])
 all_goals grind
theorem Jxu (b : UInt8) : Pure Tryz.prog GL 249 [.p (.int .u8 b.toNat)] (.p (.bool (isDigit b))) := by
 refine Pure.of_walk (N := 9) Tryz.func249 rfl rfl rfl (by simp) (by first | (simp; done) | simp [*]) ?_
 simp
 repeat' (first | (apply Jac <;> intro hq <;> (try simp at hq) <;> (try simp [hq])) | (apply Jcc <;> intro hq <;> (try simp at hq) <;> (try simp [hq])))
 all_goals (try simp [Jaa, isDigit, UInt8.le_iff_toNat_le])
 all_goals grind
theorem Jxw (b : UInt8) : Pure Tryz.prog GL 183 [.p (.int .u8 b.toNat)] (.p (.bool (Jcf b))) := by
 refine Pure.of_walk (N := 13) Tryz.func183 rfl rfl rfl (by simp) (by first | (simp; done) | simp [*]) ?_
 simp
 refine Jab (Jp4 b) ?_
 simp
 refine Jac (fun h => ?_) (fun h => ?_)
 . simp at h
   simp [h]
   refine Jab (Jxu b) ?_
   simp [h]
   refine Jac (fun h2 => ?_) (fun h2 => ?_)
   . simp at h2
     simp [h2, Jaa, Jcf, h]
     rw [Bool.eq_iff_iff]
     simp [<- UInt8.toNat_inj]
     omega
   . simp at h2
     simp [h2, Jaa, Jcf, h]
 . simp at h
   simp [h, Jaa, Jcf]
end Go.Am
namespace Go.Am
open Go Go.Proofs Go.Pn
theorem Jwq (xs : List Txt) (q : Txt -> Bool) (m : Nat) (cap : List AV) (hcap : Jbe cap = true) (hl : xs.length < 4611686018427387904) (hq : ∀ x ∈ xs, Pure Tryz.prog GL m ((Txt.av x) :: cap) (.p (.bool (q x)))) : Pure Tryz.prog GL 167 [.p (.lst 1 (xs.map Txt.enc)), .fn (.func m) cap] (.p (.int .i64 (idxI xs q))) := by
 refine Pure.of_walk (N := 19) Tryz.func167 rfl rfl rfl (by simp) (by first | (simp; done) | simp [*]) ?_
 have hren := fun ρ => (Jfu (ρ := ρ)).2 cap hcap
 simp
 refine Jai.go [0, 1, 7] [] 0 [] (fun _ => []) (fun _ (k : Nat) => [(8, .p (.int .i64 k))]) (fun _ _ => []) (fun k => k <= xs.length /\ ∀ (j : Nat) x, j < k -> xs[j]? = some x -> q x = false) (fun k => xs.length - k) 0 ⟨by omega, fun j b h => by omega⟩ ?_ ?_
 . simp [hren]
 . rintro k ⟨hk, hp⟩
   simp
   refine Jac (fun h => ?_) (fun h => ?_)
   . simp at h
     obtain ⟨x, e⟩ := Jag h
     simp [h, e, -getElem?_pos, List.getElem?_cons_zero, List.getElem?_cons_succ]
     refine Jab (hq x (List.mem_of_getElem? e)) ?_
     simp
     refine Jac (fun h2 => ?_) (fun h2 => ?_)
     . simp [Jaa, Jdp e h2 hp]
     . simp [hren]
       refine ⟨wrap_i64 (by omega) (by omega), k + 1, ⟨by omega, Jdn hp e h2⟩, by omega, ?_⟩
       simp [hren]
   . simp at h
     have hk2 : k = xs.length := by omega
     subst hk2
     simp [Jaa, Jei (Jdu hp)]
theorem Jwp (xs : List Part) (q : Part -> Bool) (m : Nat) (cap : List AV) (hcap : Jbe cap = true) (hl : xs.length < 4611686018427387904) (hq : ∀ x ∈ xs, Pure Tryz.prog GL m ((Part.av x) :: cap) (.p (.bool (q x)))) : Pure Tryz.prog GL 99 [.p (.lst 3 (xs.map Part.enc)), .fn (.func m) cap] (.p (.int .i64 (idxI xs q))) := by
 refine Pure.of_walk (N := 19) Tryz.func99 rfl rfl rfl (by simp) (by first | (simp; done) | simp [*]) ?_
 have hren := fun ρ => (Jfu (ρ := ρ)).2 cap hcap
 simp
 refine Jai.go [0, 1, 7] [] 0 [] (fun _ => []) (fun _ (k : Nat) => [(8, .p (.int .i64 k))]) (fun _ _ => []) (fun k => k <= xs.length /\ ∀ (j : Nat) x, j < k -> xs[j]? = some x -> q x = false) (fun k => xs.length - k) 0 ⟨by omega, fun j b h => by omega⟩ ?_ ?_
 . simp [hren]
 . rintro k ⟨hk, hp⟩
   simp
   refine Jac (fun h => ?_) (fun h => ?_)
   . simp at h
     obtain ⟨x, e⟩ := Jag h
     simp [h, e, -getElem?_pos, List.getElem?_cons_zero, List.getElem?_cons_succ]
     refine Jab (hq x (List.mem_of_getElem? e)) ?_
     simp
     refine Jac (fun h2 => ?_) (fun h2 => ?_)
     . simp [Jaa, Jdp e h2 hp]
     . simp [hren]
       refine ⟨wrap_i64 (by omega) (by omega), k + 1, ⟨by omega, Jdn hp e h2⟩, by omega, ?_⟩
       simp [hren]
   . simp at h
     have hk2 : k = xs.length := by omega
     subst hk2
     simp [Jaa, Jei (Jdu hp)]
theorem Jwm (xs : List Txt) (q : Txt -> Bool) (m : Nat) (cap : List AV) (hcap : Jbe cap = true) (hl : xs.length < 4611686018427387904) (hq : ∀ x ∈ xs, Pure Tryz.prog GL m ((Txt.av x) :: cap) (.p (.bool (q x)))) : Pure Tryz.prog GL 79 [.p (.lst 1 (xs.map Txt.enc)), .fn (.func m) cap] (.p (.bool (xs.any q))) := by
 refine Pure.of_walk (N := 9) Tryz.func79 rfl rfl rfl (by simp) (by first | (simp; done) | simp [*]) ?_
 simp
 refine Jab (Jwq xs q m cap hcap hl hq) ?_
 simp [Jaa]
 rw [Bool.eq_iff_iff]
 simp [Jkg]
theorem Jwr (xs : List Txt) (v : Txt) (hl : xs.length < 4611686018427387904) : Pure Tryz.prog GL 244 [.p (.lst 1 (xs.map Txt.enc)), Txt.av v] (.p (.int .i64 (idxI xs fun x => decide (x = v)))) := by
 refine Pure.of_walk (N := 19) Tryz.func244 rfl rfl rfl (by simp) (by first | (simp; done) | simp [*]) ?_
 simp
 refine Jai.go [0, 1, 7] [] 0 [] (fun _ => []) (fun _ (k : Nat) => [(8, .p (.int .i64 k))]) (fun _ _ => []) (fun k => k <= xs.length /\ ∀ (j : Nat) x, j < k -> xs[j]? = some x -> decide (x = v) = false) (fun k => xs.length - k) 0 ⟨by omega, fun j b h => by omega⟩ ?_ ?_
 . simp
 . rintro k ⟨hk, hp⟩
   simp
   refine Jac (fun h => ?_) (fun h => ?_)
   . simp at h
     obtain ⟨x, e⟩ := Jag h
     skip
     simp [h, e, -getElem?_pos, List.getElem?_cons_zero, List.getElem?_cons_succ]
     skip
     refine Jac (fun h2 => ?_) (fun h2 => ?_)
     . have h3 : decide (x = v) = true := by grind
       simp [Jaa, Jdp (q := fun x => decide (x = v)) e h3 hp]
     . have h3 : decide (x = v) = false := by grind
       simp
       refine ⟨wrap_i64 (by omega) (by omega), k + 1, ⟨by omega, ?_⟩, by omega, ?_⟩
       . simpa using Jdn (P := fun x => decide (x = v) = false) hp e h3
       . simp
   . simp at h
     have hk2 : k = xs.length := by omega
     subst hk2
     simp [Jaa, Jei (q := fun x => decide (x = v)) (Jdu hp)]
theorem Jps (xs : List Txt) (v : Txt) (hl : xs.length < 4611686018427387904) : Pure Tryz.prog GL 174 [.p (.lst 1 (xs.map Txt.enc)), Txt.av v] (.p (.bool (decide (v ∈ xs)))) := by
 refine Pure.of_walk (N := 9) Tryz.func174 rfl rfl rfl (by simp) (by first | (simp; done) | simp [*]) ?_
 simp
 refine Jab (Jwr xs v hl) ?_
 simp [Jaa, Jkg]
end Go.Am
namespace Go.Am
open Go Go.Proofs Go.Pn
theorem Jpt (n : Int) : Pure Tryz.prog GL 305 [.p (.int .i64 n)] (.p (.bool false)) := by
 refine Pure.of_walk (N := 6) Tryz.func305 rfl rfl rfl (by simp) (by first | (simp; done) | simp [*]) ?_
 simp [Jaa]
theorem Jw5 (a b : List UInt8) : Pure Tryz.prog GL 353 [.p (.str a), .p (.str b)] (.p (.int .i64 (Lib.compareBytes a b))) :=
 Jzf Tryz.func353 rfl rfl (by kernel_rfl) (by kernel_rfl) a b
theorem Jw6 (a b : List UInt8) : Pure Tryz.prog GL 304 [.p (.str a), .p (.str b)] (.p (.int .i64 (Lib.compareBytes a b))) := by
 refine Pure.of_walk (N := 8) Tryz.func304 rfl rfl rfl (by simp) (by first | (simp; done) | simp [*]) ?_
 simp
 refine Jab (Jw5 a b) ?_
 simp [Jaa]
theorem Jmv (a b : List UInt8) : Pure Tryz.prog GL 234 [.p (.str a), .p (.str b)] (.p (.int .i64 (Lib.compareBytes a b))) := by
 refine Pure.of_walk (N := 8) Tryz.func234 rfl rfl rfl (by simp) (by first | (simp; done) | simp [*]) ?_
 simp
 refine Jab (Jw6 a b) ?_
 simp [Jaa]
theorem Jw2 (a b : Int) : Pure Tryz.prog GL 235 [.p (.int .i64 a), .p (.int .i64 b)] (.p (.int .i64 (cmpI a b))) := by
 refine Pure.of_walk (N := 20) Tryz.func235 rfl rfl rfl (by simp) (by first | (simp; done) | simp [*]) ?_
 simp
 refine Jab (Jpt a) ?_
 simp
 refine Jab (Jpt b) ?_
 simp
 repeat' (first | (apply Jac <;> intro hq <;> (try simp at hq) <;> (try simp [hq])) | (apply Jcc <;> intro hq <;> (try simp at hq) <;> (try simp [hq])))
 all_goals simp [Jaa, cmpI]
 all_goals grind
theorem Jsr {xs : List Int} {k : Nat} (h : ∀ (j : Nat) x, j < k -> xs[j]? = some x -> x = 0) : orI xs = orI (xs.drop k) := by
 induction k generalizing xs with
 | zero => rfl
 | succ k ih =>
   cases xs with
   | nil => rfl
   | cons x xs =>
     have : x = 0 := h 0 x (by omega) rfl
     simp only [orI, this, if_true, List.drop_succ_cons]
     exact ih fun j y hj hy => h (j + 1) y (by omega) (by simpa using hy)
theorem Jmr (xs : List Int) (hl : xs.length < 4611686018427387904) : Pure Tryz.prog GL 154 [.p (.lst 1 (xs.map Int.enc))] (.p (.int .i64 (orI xs))) := by
 refine Pure.of_walk (N := 18) Tryz.func154 rfl rfl rfl (by simp) (by first | (simp; done) | simp [*]) ?_
 simp
 refine Jai.go [3, 6, 7] [] 0 [] (fun _ => []) (fun _ (k : Nat) => [(8, .p (.int .i64 k))]) (fun _ _ => []) (fun k => k <= xs.length /\ ∀ (j : Nat) x, j < k -> xs[j]? = some x -> x = 0) (fun k => xs.length - k) 0 ⟨by omega, fun j x h => by omega⟩ ?_ ?_
 . simp
 . rintro k ⟨hk, hz⟩
   simp
   refine Jac (fun h => ?_) (fun h => ?_)
   . simp at h
     obtain ⟨x, e⟩ := Jag h
     simp [h, e, -getElem?_pos, List.getElem?_cons_zero, List.getElem?_cons_succ]
     have hd : xs.drop k = x :: xs.drop (k + 1) := by
       obtain ⟨_, rfl⟩ := gsI.1 e
       exact List.drop_eq_getElem_cons h
     refine Jac (fun h2 => ?_) (fun h2 => ?_)
     . simp at h2
       simp [Jaa, Jsr hz, hd, orI, h2]
     . simp at h2
       simp
       refine ⟨wrap_i64 (by omega) (by omega), k + 1, ⟨by omega, Jdn hz e h2⟩, by omega, ?_⟩
       simp
   . simp at h
     have : k = xs.length := by omega
     simp [Jaa, Jsr hz, this, orI]
theorem Jmp (a b : Port) : Pure Tryz.prog GL 156 [a.av, b.av] (.p (.int .i64 (Jcl a b))) := by
 refine Pure.of_walk (N := 17) Tryz.func156 rfl rfl rfl (by simp) (by first | (simp; done) | simp [*]) ?_
 simp
 refine Jaj.intro (by kernel_rfl) ?_
 simp
 refine Jab (Jw2 a.part b.part) ?_
 simp
 refine Jab (Jmv a.name b.name) ?_
 simp
 refine Jcb ?_
 simp
 refine ⟨_, Jmr [cmpI a.part b.part, Lib.compareBytes a.name b.name] (by simp), rfl, ?_⟩
 simp [Jaa, Jcl]
 exact .of (by kernel_rfl)
theorem Jw0 (a b : Pipe) : Pure Tryz.prog GL 157 [a.av, b.av] (.p (.int .i64 (Jed a b))) := by
 refine Pure.of_walk (N := 17) Tryz.func157 rfl rfl rfl (by simp) (by first | (simp; done) | simp [*]) ?_
 simp
 refine Jaj.intro (by kernel_rfl) ?_
 simp
 refine Jab (Jmp a.fr b.fr) ?_
 simp
 refine Jab (Jmp a.to b.to) ?_
 simp
 refine Jcb ?_
 simp
 refine ⟨_, Jmr [Jcl a.fr b.fr, Jcl a.to b.to] (by simp), rfl, ?_⟩
 simp [Jaa, Jed]
 exact .of (by kernel_rfl)
theorem Jjv (a b : Port) : Pure Tryz.prog GL 162 [a.av, b.av] (.p (.bool (Jbk a b))) := by
 refine Pure.of_walk (N := 20) Tryz.func162 rfl rfl rfl (by simp) (by first | (simp; done) | simp [*]) ?_
 simp
 repeat' (first | (apply Jac <;> intro hq <;> (try simp at hq) <;> (try simp [hq])) | (apply Jcc <;> intro hq <;> (try simp at hq) <;> (try simp [hq])))
 all_goals simp [Jaa, Jbk]
 all_goals grind
theorem Jp5 (a b : Pipe) : Pure Tryz.prog GL 163 [a.av, b.av] (.p (.bool (Ja0 a b))) := by
 refine Pure.of_walk (N := 20) Tryz.func163 rfl rfl rfl (by simp) (by first | (simp; done) | simp [*]) ?_
 simp
 refine Jac (fun h => ?_) (fun h => ?_)
 . simp at h
   simp
   refine Jab (Jjv a.fr b.fr) ?_
   simp [Jaa, Ja0, h]
 . simp at h
   simp
   refine Jab (Jjv a.to b.to) ?_
   simp [Jaa, Ja0, h]
theorem Jpv (a b : List UInt8) (ha : a.length < 4611686018427387904) (hb : b.length < 4611686018427387904) : Pure Tryz.prog GL 143 [.p (.str a), .p (.str b)] (.p (.bool (decide (b.length <= a.length /\ a.drop (a.length - b.length) = b)))) := by
 refine Pure.of_walk (N := 21) Tryz.func143 rfl rfl rfl (by simp) (by first | (simp; done) | simp [*]) ?_
 simp
 refine Jac (fun h => ?_) (fun h => ?_)
 . simp at h
   simp [h]
   have e1 : (0 : Int) <= a.length - b.length /\ (a.length : Int) - b.length <= a.length := by omega
   have e2 : ((a.length : Int) - b.length).toNat = a.length - b.length := by omega
   refine ⟨wrap_i64 (by omega) (by omega), ?_⟩
   have e3 : (a.length : Int) - b.length <= a.length := by omega
   rw [if_pos e3]
   have e4 : List.take (a.length - (a.length - b.length)) (List.drop (a.length - b.length) a) = List.drop (a.length - b.length) a := List.take_of_length_le (by simp)
   simp [h, e4, Jaa]
 . simp at h
   have h2 : ¬ b.length <= a.length := by omega
   simp [h2, Jaa]
theorem Jw9 (a b : List UInt8) (ha : a.length < 4611686018427387904) (hb : b.length < 4611686018427387904) : Pure Tryz.prog GL 271 [.p (.str a), .p (.str b)] (.tup [.p (.str (if b.length <= a.length /\ a.drop (a.length - b.length) = b then a.take (a.length - b.length) else a)), .p (.bool (decide (b.length <= a.length /\ a.drop (a.length - b.length) = b)))]) := by
 refine Pure.of_walk (N := 18) Tryz.func271 rfl rfl rfl (by simp) (by first | (simp; done) | simp [*]) ?_
 simp
 refine Jab (Jpv a b ha hb) ?_
 by_cases h : b.length <= a.length /\ a.drop (a.length - b.length) = b
 . simp [h]
   have e3 : (0 : Int) <= a.length - b.length /\ (a.length : Int) - b.length <= a.length := by omega
   have e2 : ((a.length : Int) - b.length).toNat = a.length - b.length := by omega
   refine ⟨wrap_i64 (by omega) (by omega), ?_⟩
   simp [e3, e2, Jaa, h]
 . simp [h, Jaa]
theorem Jp9 (a b : List UInt8) (ha : a.length < 4611686018427387904) (hb : b.length < 4611686018427387904) : Pure Tryz.prog GL 221 [.p (.str a), .p (.str b)] (.tup [.p (.str (if b.length <= a.length /\ a.drop (a.length - b.length) = b then a.take (a.length - b.length) else a)), .p (.bool (decide (b.length <= a.length /\ a.drop (a.length - b.length) = b)))]) := by
 refine Pure.of_walk (N := 11) Tryz.func221 rfl rfl rfl (by simp) (by first | (simp; done) | simp [*]) ?_
 simp
 refine Jab (Jw9 a b ha hb) ?_
 simp [Jaa]
theorem Jwx (p : Part) (s : Txt) : Pure Tryz.prog GL 179 [p.av, .iptr 1 [[.str s]] 0 0] (.p (.bool (decide (p.name = s)))) := by
 refine Pure.of_walk (N := 8) Tryz.func179 rfl rfl rfl (by simp) (by first | (simp; done) | simp [*]) ?_
 simp
 simp [Jaa]
structure Sized (c : Circuit) : Prop where
 parts : c.parts.length < 4611686018427387904
 pipes : c.pipes.length < 4611686018427387904
 names : ∀ p ∈ c.parts, p.name.length < 4611686018427387900
theorem Jmq (c : Circuit) (s : Txt) (hc : Sized c) : Pure Tryz.prog GL 103 [c.av, .p (.str s)] (.p (.int .i64 (idxI c.parts fun p => decide (p.name = s)))) := by
 refine Pure.of_walk (N := 9) Tryz.func103 rfl rfl rfl (by simp) (by first | (simp; done) | simp [*]) ?_
 simp
 refine Jcb ?_
 simp
 refine ⟨_, Jwp c.parts (fun p => decide (p.name = s)) 179 [.iptr 1 [[.str s]] 0 0] rfl hc.parts (fun p _ => Jwx p s), rfl, ?_⟩
 simp [Jaa]
end Go.Am
namespace Go.Am
open Go Go.Proofs Go.Pn
theorem Jxv (s : List UInt8) (hs : s.length < 4611686018427387904) : Pure Tryz.prog GL 110 [.p (.str s)] (.p (.int .i64 (Jcn s))) := by
 refine Pure.of_walk (N := 27) Tryz.func110 rfl rfl rfl (by simp) (by first | (simp; done) | simp [*]) ?_
 simp
 cases s with
 | nil => simp [Jaa, Jcn]
 | cons b r =>
   have hlen : ¬ ((r.length : Int) + 1 = 0) := by omega
   simp [hlen]
   refine Jab (Jp4 b) ?_
   simp
   refine Jac (fun h => ?_) (fun h => ?_)
   . simp at h
     simp [Jaa, Jve h]
   . simp at h
     simp
     refine Jai.go [0] [] 0 [] (fun _ => []) (fun _ (k : Nat) => [(3, .p (.int .i64 k))]) (fun _ _ => []) (fun k => k <= (b :: r).length /\ ∀ (j : Nat) x, j < k -> (b :: r)[j]? = some x -> Jcf x = true) (fun k => (b :: r).length - k) 0 ⟨by omega, fun j x h => by omega⟩ ?_ ?_
     . simp
     . rintro k ⟨hk, hp⟩
       simp
       refine Jac (fun h2 => ?_) (fun h2 => ?_)
       . have h3 : k < (b :: r).length := by simp at h2; simp; omega
         obtain ⟨x, e⟩ := Jag h3
         simp [e, -getElem?_pos, List.getElem?_cons_zero, List.getElem?_cons_succ]
         refine Jab (Jxw x) ?_
         simp
         refine Jac (fun h4 => ?_) (fun h4 => ?_)
         . have h5 : ¬ (b :: r).all Jcf = true := fun h6 => by
             have := List.all_eq_true.1 h6 x (List.mem_of_getElem? e)
             simp [this] at h4
           simp [Jaa, Jvf h5]
         . have h4 : Jcf x = true := by simpa using h4
           simp
           refine ⟨wrap_i64 (by omega) (by omega), k + 1, ⟨by simp at h3; omega, Jdn hp e h4⟩, by simp at h3; omega, ?_⟩
           simp
       . have h3 : k = (b :: r).length := by simp at h2 hk; simp; omega
         subst h3
         have h5 : (b :: r).all Jcf = true := List.all_eq_true.2 (Jdu hp)
         simp
         refine Jac (fun h4 => ?_) (fun h4 => ?_)
         . simp at h4
           simp [Jaa, Jl4 h h5]
           omega
         . simp at h4
           simp [Jaa, Jl4 h h5]
           omega
theorem Jx1 (k : Int) : Pure Tryz.prog GL 109 [.p (.int .i64 k)] (.p (.int .i64 (Jbf k))) := by
 refine Pure.of_walk (N := 9) Tryz.func109 rfl rfl rfl (by simp) (by first | (simp; done) | simp [*]) ?_
 simp
 repeat' (first | (apply Jac <;> intro hq <;> (try simp at hq) <;> (try simp [hq])) | (apply Jcc <;> intro hq <;> (try simp at hq) <;> (try simp [hq])))
 all_goals (try simp [Jaa, Jbf])
 all_goals grind
def Jb4 (s : Txt) (a : List Txt × Bool) (x : Txt) : List Txt × Bool :=
 let a := if !a.2 && !Op.bytesLess x s then (a.1 ++ [s], true) else a
 if x = s then a else (a.1 ++ [x], a.2)
def putL (l : List Txt) (s : Txt) : List Txt := let a := l.foldl (Jb4 s) ([], false); if a.2 then a.1 else a.1 ++ [s]
theorem J3y {s x : Txt} {a : List Txt × Bool} : (Jb4 s a x).1.length <= a.1.length + 2 := by
 unfold Jb4
 repeat' split
 all_goals simp
theorem Jtw {s : Txt} : ∀ {l : List Txt} {a : List Txt × Bool}, (l.foldl (Jb4 s) a).1.length <= a.1.length + 2 * l.length
 | [], a => by simp
 | x :: l, a => by
   have h1 := Jtw (s := s) (l := l) (a := Jb4 s a x)
   have h2 := J3y (s := s) (x := x) (a := a)
   simp only [List.foldl_cons, List.length_cons]
   omega
theorem foldl_snoc {α β : Type} {f : β -> α -> β} {a : β} {xs : List α} {k : Nat} {x : α} (e : xs[k]? = some x) : (xs.take (k + 1)).foldl f a = f ((xs.take k).foldl f a) x := by
 rw [take_snoc e, List.foldl_append]; rfl
theorem Jx0 (l : List Txt) (s : Txt) (hl : l.length < 1000000) : Pure Tryz.prog GL 202 [.p (.lst 1 (l.map Txt.enc)), .p (.str s)] (.p (.lst 1 ((putL l s).map Txt.enc))) := by
 refine Pure.of_walk (N := 48) Tryz.func202 rfl rfl rfl (by simp) (by first | (simp; done) | simp [*]) ?_
 simp
 refine Jai.go [0, 1] [] 1 [0] (nms [5]) (fun nx (k : Nat) => [(5, .acc nx 1 ((l.take k).foldl (Jb4 s) ([], false)).1.length), (6, .p (.bool ((l.take k).foldl (Jb4 s) ([], false)).2)), (7, .p (.int .i64 k))]) (fun nx k => [(nx, accB 1 (((l.take k).foldl (Jb4 s) ([], false)).1.map Txt.row))]) (fun k => k <= l.length) (fun k => l.length - k) 0 (by omega) ?_ ?_
 . simp
 . intro k hk
   have hb := Jtw (s := s) (l := l.take k) (a := ([], false))
   have hn := @foldl_snoc _ _ (Jb4 s) ([], false) l k
   generalize hA : (l.take k).foldl (Jb4 s) ([], false) = A at hb hn
   obtain ⟨o, d⟩ := A
   simp at hb
   simp
   refine Jac (fun h => ?_) (fun h => ?_)
   . simp at h
     obtain ⟨x, e⟩ := Jag h
     have hn := hn e
     have hb2 : o.length < 3000000 := by omega
     simp [h, e, -getElem?_pos, List.getElem?_cons_zero, List.getElem?_cons_succ]
     cases d with
     | true =>
       simp [h, e, -getElem?_pos, List.getElem?_cons_zero, List.getElem?_cons_succ]
       refine Jac (fun h2 => ?_) (fun h2 => ?_)
       . simp at h2
         simp [h, e, -getElem?_pos, List.getElem?_cons_zero, List.getElem?_cons_succ]
         refine ⟨by omega, wrap_i64 (by omega) (by omega), k + 1, by omega, by omega, ?_⟩
         simp [hn, Jb4, h2]
       . simp at h2
         simp
         refine ⟨wrap_i64 (by omega) (by omega), k + 1, by omega, by omega, ?_⟩
         simp [hn, Jb4, h2]
     | false =>
       simp [h, e, -getElem?_pos, List.getElem?_cons_zero, List.getElem?_cons_succ]
       refine Jac (fun h2 => ?_) (fun h2 => ?_)
       . simp at h2
         simp [h, e, -getElem?_pos, List.getElem?_cons_zero, List.getElem?_cons_succ]
         refine ⟨by omega, ?_⟩
         refine Jac (fun h3 => ?_) (fun h3 => ?_)
         . simp at h3
           simp [h, e, -getElem?_pos, List.getElem?_cons_zero, List.getElem?_cons_succ]
           refine ⟨by omega, wrap_i64 (by omega) (by omega), k + 1, by omega, by omega, ?_⟩
           simp [hn, Jb4, h2, h3]
         . simp at h3
           subst h3
           simp
           refine ⟨wrap_i64 (by omega) (by omega), k + 1, by omega, by omega, ?_⟩
           simp [hn, Jb4, h2]
       . simp at h2
         simp [h, e, -getElem?_pos, List.getElem?_cons_zero, List.getElem?_cons_succ]
         refine Jac (fun h3 => ?_) (fun h3 => ?_)
         . simp at h3
           simp [h, e, -getElem?_pos, List.getElem?_cons_zero, List.getElem?_cons_succ]
           refine ⟨by omega, wrap_i64 (by omega) (by omega), k + 1, by omega, by omega, ?_⟩
           simp [hn, Jb4, h2, h3]
         . simp at h3
           subst h3
           simp
           refine ⟨wrap_i64 (by omega) (by omega), k + 1, by omega, by omega, ?_⟩
           simp [hn, Jb4, h2]
   . simp at h
     have hk2 : k = l.length := by omega
     subst hk2
     rw [List.take_length] at hA
     cases d with
     | true => simp [Jaa, putL, hA]
     | false =>
       simp
       refine ⟨by omega, ?_⟩
       simp [Jaa, putL, hA]
def putM (a : List Txt × Bool) : Nat := a.1.length + (match a.2 with | true => 0 | false => 1)
theorem J3w {s x : Txt} : ∀ {a : List Txt × Bool}, putM (Jb4 s a x) <= putM a + 1
 | (o, true) => by unfold Jb4; simp; split <;> simp [putM]
 | (o, false) => by
   unfold Jb4
   simp
   split <;> split <;> simp [putM]
theorem Jtx {s : Txt} : ∀ {l : List Txt} {a : List Txt × Bool}, putM (l.foldl (Jb4 s) a) <= putM a + l.length
 | [], a => by simp
 | x :: l, a => by
   have h1 := Jtx (s := s) (l := l) (a := Jb4 s a x)
   have h2 := J3w (s := s) (x := x) (a := a)
   simp only [List.foldl_cons, List.length_cons]
   omega
theorem J3v {l : List Txt} {s : Txt} : (putL l s).length <= l.length + 1 := by
 have h := Jtx (s := s) (l := l) (a := ([], false))
 unfold putL
 generalize l.foldl (Jb4 s) ([], false) = a at h
 obtain ⟨o, d⟩ := a
 cases d <;> simp [putM] at h ⊢ <;> omega
def Jdq (a : List Txt × Txt) (b : UInt8) : List Txt × Txt := if b = 32 then (putL a.1 a.2, []) else (a.1, a.2 ++ [b])
def Jdi (s : Txt) : List Txt := (s.foldl Jdq ([], [])).1
theorem Jnr : ∀ {s : Txt} {a : List Txt × Txt}, (s.foldl Jdq a).1.length <= a.1.length + s.length /\ (s.foldl Jdq a).2.length <= a.2.length + s.length
 | [], a => by simp
 | x :: s, a => by
   have h1 := Jnr (s := s) (a := Jdq a x)
   have h2 : (Jdq a x).1.length <= a.1.length + 1 /\ (Jdq a x).2.length <= a.2.length + 1 := by
     unfold Jdq
     split
     . have := J3v (l := a.1) (s := a.2)
       simp; omega
     . simp
   simp only [List.foldl_cons, List.length_cons]
   omega
theorem Jx3 (s : Txt) (hs : s.length < 100000) : Pure Tryz.prog GL 201 [.p (.str s)] (.p (.lst 1 ((Jdi s).map Txt.enc))) := by
 refine Pure.of_walk (N := 27) Tryz.func201 rfl rfl rfl (by simp) (by first | (simp; done) | simp [*]) ?_
 simp
 refine Jai.go [0] [] 0 [] (fun _ => []) (fun _ (k : Nat) => [(3, .p (.lst 1 (((s.take k).foldl Jdq ([], [])).1.map Txt.enc))), (4, .p (.str ((s.take k).foldl Jdq ([], [])).2)), (5, .p (.int .i64 k))]) (fun _ _ => []) (fun k => k <= s.length) (fun k => s.length - k) 0 (by omega) ?_ ?_
 . simp
 . intro k hk
   have hb := Jnr (s := s.take k) (a := ([], []))
   have hn := @foldl_snoc _ _ Jdq ([], []) s k
   generalize hA : (s.take k).foldl Jdq ([], []) = A at hb hn
   obtain ⟨o, d⟩ := A
   simp at hb
   simp
   refine Jac (fun h => ?_) (fun h => ?_)
   . simp at h
     obtain ⟨x, e⟩ := Jag h
     have hn := hn e
     simp [h, e, -getElem?_pos, List.getElem?_cons_zero, List.getElem?_cons_succ]
     have hx : (((x.toNat : Nat) : Int) = 32) ↔ x = 32 := by rw [<- UInt8.toNat_inj]; simp; omega
     refine Jac (fun h2 => ?_) (fun h2 => ?_)
     . simp [hx] at h2
       simp
       refine Jab (Jx0 o d (by omega)) ?_
       simp
       refine ⟨wrap_i64 (by omega) (by omega), k + 1, by omega, by omega, ?_⟩
       simp [hn, Jdq, h2]
     . simp [hx] at h2
       simp
       refine ⟨wrap_i64 (by omega) (by omega), ?_⟩
       have h3 : (s.drop k).take 1 = [x] := by
         obtain ⟨hk2, rfl⟩ := gsI.1 e
         rw [List.drop_eq_getElem_cons hk2]; rfl
       have h4 : (0 : Int) <= k + 1 /\ (k : Int) + 1 <= s.length := by omega
       have h5 : ((k : Int) + 1).toNat = k + 1 := by omega
       have h6 : (0 : Int) <= k /\ (k : Int) <= k + 1 := by omega
       simp [h4, h5, h6, h3]
       refine ⟨by omega, wrap_i64 (by omega) (by omega), k + 1, by omega, by omega, ?_⟩
       simp [hn, Jdq, h2]
   . simp at h
     have hk2 : k = s.length := by omega
     subst hk2
     rw [List.take_length] at hA
     simp [Jaa, Jdi, hA]
def Jd0 : Nat -> List Txt
 | 0 => [[], [49, 32], [], [], []]
 | 1 => [[], [], [], [], [50, 32, 52, 32]]
 | 2 => [[49, 32], [50, 32, 52, 32], [51, 32, 53, 32], [49, 50, 32, 49, 52, 32], []]
 | 3 => [[49, 32], [50, 32, 52, 32], [51, 32, 53, 32], [49, 52, 32], []]
 | 4 => [[49, 32], [50, 32], [51, 32], [49, 50, 32], []]
 | 5 => [[49, 32], [50, 32], [51, 32], [49, 48, 32], []]
 | 6 => [[49, 32], [50, 32], [51, 32], [], []]
 | 7 => [[49, 32], [50, 32], [51, 32], [], []]
 | 8 => [[49, 32, 49, 49, 32], [50, 32], [], [], []]
 | 9 => [[49, 32, 49, 49, 32], [50, 32], [], [], []]
 | 10 => [[49, 32], [50, 32], [51, 32], [], []]
 | 11 => [[49, 32], [50, 32], [], [], []]
 | 12 => [[49, 32], [50, 32], [51, 32], [49, 50, 32], []]
 | 13 => [[49, 32], [50, 32], [51, 32], [49, 50, 32], []]
 | _ => []
def Jn4 : List (Txt × Txt) := [([115, 117, 112, 112, 108, 121], [90]), ([99, 121, 108, 105, 110, 100, 101, 114], [65]), ([118, 97, 108, 118, 101, 53, 50], [86]), ([118, 97, 108, 118, 101, 53, 50, 115], [86]), ([118, 97, 108, 118, 101, 51, 50], [86]), ([118, 97, 108, 118, 101, 51, 50, 111], [86]), ([108, 105, 109, 105, 116], [83]), ([98, 117, 116, 116, 111, 110], [83]), ([115, 104, 117, 116, 116, 108, 101], [86]), ([116, 119, 105, 110], [86]), ([113, 117, 105, 99, 107], [86]), ([116, 104, 114, 111, 116, 116, 108, 101], [86]), ([100, 101, 108, 97, 121], [86]), ([99, 111, 117, 110, 116, 101, 114], [86])]
def Jlf (k : Nat) : List PV := .str (Jn4[k]?.getD ([], [])).1 :: .str (Jn4[k]?.getD ([], [])).2 :: (Jd0 k).map .str
def Jiw : List (List PV) := (List.range 14).map Jlf
def J1o : Nat -> List AV -> Option AV := fun _ _ => none
theorem Jx2 : Pure Tryz.prog GL 190 [] (.p (.lst 7 Jiw)) :=
 Pure.of_ev 1 (calls := J1o) (fun _ _ _ h => by cases h) Tryz.func190 rfl rfl (by simp) rfl (by kernel_rfl)
theorem J32 {k : Nat} (h : k < 14) : Jiw[k]? = some (Jlf k) := by simp [Jiw, h]
theorem J31 {k : Nat} (h : k < 14) : (Jd0 k).length = 5 := (by decide : ∀ k, k < 14 -> (Jd0 k).length = 5) k h
theorem Jt0 {k : Nat} {s : Txt} (h : k < 14) (hs : s ∈ Jd0 k) : s.length < 100 := (by decide : ∀ k, k < 14 -> ∀ s ∈ Jd0 k, s.length < 100) k h s hs
theorem Jxy (l : List Txt) (s : Txt) (hl : l.length < 4611686018427387904) : Pure Tryz.prog GL 245 [.p (.lst 1 (l.map Txt.enc)), .p (.str s)] (.p (.bool (decide (s ∈ l)))) := by
 refine Pure.of_walk (N := 18) Tryz.func245 rfl rfl rfl (by simp) (by first | (simp; done) | simp [*]) ?_
 simp
 refine Jai.go [0, 1] [] 0 [] (fun _ => []) (fun _ (k : Nat) => [(5, .p (.int .i64 k))]) (fun _ _ => []) (fun k => k <= l.length /\ ∀ (j : Nat) x, j < k -> l[j]? = some x -> ¬ x = s) (fun k => l.length - k) 0 ⟨by omega, fun j x h => by omega⟩ ?_ ?_
 . simp
 . rintro k ⟨hk, hp⟩
   simp
   refine Jac (fun h => ?_) (fun h => ?_)
   . simp at h
     obtain ⟨x, e⟩ := Jag h
     simp [h, e, -getElem?_pos, List.getElem?_cons_zero, List.getElem?_cons_succ]
     refine Jac (fun h2 => ?_) (fun h2 => ?_)
     . simp at h2
       subst h2
       simp [Jaa, List.mem_of_getElem? e]
     . simp at h2
       simp
       refine ⟨wrap_i64 (by omega) (by omega), k + 1, ⟨by omega, Jdn hp e h2⟩, by omega, ?_⟩
       simp
   . simp at h
     have : k = l.length := by omega
     subst this
     have hm : ¬ s ∈ l := fun hm => Jdu hp s hm rfl
     simp [Jaa, hm]
theorem Jxx (p : Part) (hs : p.name.length < 4611686018427387904) : Pure Tryz.prog GL 38 [p.av] (.p (.int .i64 (Ja6 p))) := by
 refine Pure.of_walk (N := 40) Tryz.func38 rfl rfl rfl (by simp) (by first | (simp; done) | simp [*]) ?_
 simp
 refine Jab (Jx1 p.kind) ?_
 simp
 refine Jac (fun h => ?_) (fun h => ?_)
 . simp at h
   simp [Jaa, Ja6, h]
 . simp at h
   simp
   refine Jab (Jxv p.name hs) ?_
   simp
   refine Jac (fun h2 => ?_) (fun h2 => ?_)
   . simp at h2
     simp [Jaa, Ja6, h, h2]
   . simp at h2
     simp
     repeat' (first | (apply Jac <;> intro hq <;> (try simp at hq) <;> (try simp [hq])) | (apply Jcc <;> intro hq <;> (try simp at hq) <;> (try simp [hq])))
     all_goals (try simp [Jaa, Ja6, h, h2])
     all_goals grind
def Jel (k : Nat) (s : Txt) : Int := idxI (Jd0 k) fun t => decide (s ∈ Jdi t)
theorem Jxz (k : Nat) (s : Txt) (hk : k < 14) : Pure Tryz.prog GL 177 [.p (.int .i64 k), .p (.str s)] (.p (.int .i64 (Jel k s))) := by
 refine Pure.of_walk (N := 21) Tryz.func177 rfl rfl rfl (by simp) (by first | (simp; done) | simp [*]) ?_
 simp
 refine Jai.go [0, 1] [] 0 [] (fun _ => []) (fun _ (r : Nat) => [(5, .p (.int .i64 r))]) (fun _ _ => []) (fun r => r <= (Jd0 k).length /\ ∀ (j : Nat) x, j < r -> (Jd0 k)[j]? = some x -> decide (s ∈ Jdi x) = false) (fun r => 5 - r) 0 ⟨by omega, fun j x h => by omega⟩ ?_ ?_
 . simp
 . rintro r ⟨hr, hp⟩
   have hl := J31 hk
   simp
   refine Jac (fun h => ?_) (fun h => ?_)
   . simp at h
     simp
     refine Jab Jx2 ?_
     obtain ⟨x, e⟩ := Jag (xs := Jd0 k) (k := r) (by omega)
     have hk2 : k < Jiw.length := by simpa [Jiw] using hk
     have e2 : (Jlf k)[2 + r]? = some (.str x) := by
       rw [Jlf, show 2 + r = r + 1 + 1 by omega, List.getElem?_cons_succ, List.getElem?_cons_succ, List.getElem?_map, e]; rfl
     simp [J32 hk, hk2, h, e2, -getElem?_pos, List.getElem?_cons_zero, List.getElem?_cons_succ]
     refine Jab (Jx3 x (by have := Jt0 hk (List.mem_of_getElem? e); omega)) ?_
     simp
     have h3 : (Jdi x).length < 1000 := by
       have h4 := Jt0 hk (List.mem_of_getElem? e)
       have h5 := (Jnr (s := x) (a := ([], []))).1
       simp [Jdi] at h5 ⊢
       omega
     refine Jab (Jxy (Jdi x) s (by omega)) ?_
     simp
     refine Jac (fun h2 => ?_) (fun h2 => ?_)
     . simp at h2
       have h6 : decide (s ∈ Jdi x) = true := by simpa using h2
       simp [Jaa, Jel, Jdp (q := fun t => decide (s ∈ Jdi t)) e h6 hp]
     . have h6 : decide (s ∈ Jdi x) = false := h2
       simp
       refine ⟨wrap_i64 (by omega) (by omega), r + 1, ⟨by omega, ?_⟩, by omega, ?_⟩
       . simpa using Jdn (P := fun t => decide (s ∈ Jdi t) = false) hp e h6
       . simp
   . simp at h
     have h7 : r = (Jd0 k).length := by omega
     subst h7
     simp [Jaa, Jel, Jei (q := fun t => decide (s ∈ Jdi t)) (Jdu hp)]
end Go.Am
namespace Go.Am
open Go Go.Proofs Go.Pn
theorem Jxn (n : Int) : Pure Tryz.prog GL 276 [.p (.int .i64 n)] (.fn (.func 336) [.iptr 1 [[.int .i64 n]] 0 0]) := by
 refine Pure.of_walk (N := 4) Tryz.func276 rfl rfl rfl (by simp) (by first | (simp; done) | simp [*]) ?_
 simp
 simp [Jaa]
theorem Jxo (n : Int) : Pure Tryz.prog GL 277 [.p (.int .i64 n)] (.fn (.func 337) [.iptr 1 [[.int .i64 n]] 0 0]) := by
 refine Pure.of_walk (N := 4) Tryz.func277 rfl rfl rfl (by simp) (by first | (simp; done) | simp [*]) ?_
 simp
 simp [Jaa]
theorem Jxp (n : Bool) : Pure Tryz.prog GL 278 [.p (.bool n)] (.fn (.func 338) [.iptr 1 [[.bool n]] 0 0]) := by
 refine Pure.of_walk (N := 4) Tryz.func278 rfl rfl rfl (by simp) (by first | (simp; done) | simp [*]) ?_
 simp
 simp [Jaa]
def Jmx (f : Nat) (args : List AV) : Option AV :=
 if f = 276 then (match args with | [.p (.int .i64 n)] => some (.fn (.func 336) [.iptr 1 [[.int .i64 n]] 0 0]) | _ => none)
 else if f = 277 then (match args with | [.p (.int .i64 n)] => some (.fn (.func 337) [.iptr 1 [[.int .i64 n]] 0 0]) | _ => none)
 else if f = 278 then (match args with | [.p (.bool n)] => some (.fn (.func 338) [.iptr 1 [[.bool n]] 0 0]) | _ => none)
 else none
theorem Jyd (f : Nat) (args : List AV) (r : AV) (h : Jmx f args = some r) : Pure Tryz.prog GL f args r := by
 unfold Jmx at h
 split at h
 . rename_i e; subst e
   split at h
   . cases h; exact Jxn _
   . cases h
 split at h
 . rename_i e; subst e
   split at h
   . cases h; exact Jxo _
   . cases h
 split at h
 . rename_i e; subst e
   split at h
   . cases h; exact Jxp _
   . cases h
 . cases h
def catRow : Nat -> List AV
 | 0 => [.p (.str [115, 117, 112, 112, 108, 121]), .p (.str [90]), .p (.lst 1 []), .p (.lst 1 [[.str [49]]]), .p (.lst 1 []), .p (.lst 1 []), .p (.lst 1 []), .p (.str []), .p (.str []), .p (.int .i64 1), .fn (.func 272) [], .fn (.func 273) []]
 | 1 => [.p (.str [99, 121, 108, 105, 110, 100, 101, 114]), .p (.str [65]), .p (.lst 1 []), .p (.lst 1 []), .p (.lst 1 []), .p (.lst 1 []), .p (.lst 1 [[.str [50]], [.str [52]]]), .p (.str []), .p (.str []), .p (.int .i64 1), .fn (.func 272) [], .fn (.func 273) []]
 | 2 => [.p (.str [118, 97, 108, 118, 101, 53, 50]), .p (.str [86]), .p (.lst 1 [[.str [49]]]), .p (.lst 1 [[.str [50]], [.str [52]]]), .p (.lst 1 [[.str [51]], [.str [53]]]), .p (.lst 1 [[.str [49, 50]], [.str [49, 52]]]), .p (.lst 1 []), .p (.str [49, 52]), .p (.str [49, 50]), .p (.int .i64 2), .fn (.func 274) [], .fn (.func 275) []]
 | 3 => [.p (.str [118, 97, 108, 118, 101, 53, 50, 115]), .p (.str [86]), .p (.lst 1 [[.str [49]]]), .p (.lst 1 [[.str [50]], [.str [52]]]), .p (.lst 1 [[.str [51]], [.str [53]]]), .p (.lst 1 [[.str [49, 52]]]), .p (.lst 1 []), .p (.str [49, 52]), .p (.str []), .p (.int .i64 2), .fn (.func 274) [], .fn (.func 275) []]
 | 4 => [.p (.str [118, 97, 108, 118, 101, 51, 50]), .p (.str [86]), .p (.lst 1 [[.str [49]]]), .p (.lst 1 [[.str [50]]]), .p (.lst 1 [[.str [51]]]), .p (.lst 1 [[.str [49, 50]]]), .p (.lst 1 []), .p (.str [49, 50]), .p (.str []), .p (.int .i64 2), .fn (.func 336) [.iptr 1 [[.int .i64 1]] 0 0], .fn (.func 337) [.iptr 1 [[.int .i64 1]] 0 0]]
 | 5 => [.p (.str [118, 97, 108, 118, 101, 51, 50, 111]), .p (.str [86]), .p (.lst 1 [[.str [49]]]), .p (.lst 1 [[.str [50]]]), .p (.lst 1 [[.str [51]]]), .p (.lst 1 [[.str [49, 48]]]), .p (.lst 1 []), .p (.str [49, 48]), .p (.str []), .p (.int .i64 2), .fn (.func 336) [.iptr 1 [[.int .i64 0]] 0 0], .fn (.func 337) [.iptr 1 [[.int .i64 0]] 0 0]]
 | 6 => [.p (.str [108, 105, 109, 105, 116]), .p (.str [83]), .p (.lst 1 [[.str [49]]]), .p (.lst 1 [[.str [50]]]), .p (.lst 1 [[.str [51]]]), .p (.lst 1 []), .p (.lst 1 []), .p (.str []), .p (.str []), .p (.int .i64 2), .fn (.func 336) [.iptr 1 [[.int .i64 1]] 0 0], .fn (.func 337) [.iptr 1 [[.int .i64 1]] 0 0]]
 | 7 => [.p (.str [98, 117, 116, 116, 111, 110]), .p (.str [83]), .p (.lst 1 [[.str [49]]]), .p (.lst 1 [[.str [50]]]), .p (.lst 1 [[.str [51]]]), .p (.lst 1 []), .p (.lst 1 []), .p (.str []), .p (.str []), .p (.int .i64 2), .fn (.func 336) [.iptr 1 [[.int .i64 1]] 0 0], .fn (.func 337) [.iptr 1 [[.int .i64 1]] 0 0]]
 | 8 => [.p (.str [115, 104, 117, 116, 116, 108, 101]), .p (.str [86]), .p (.lst 1 [[.str [49]], [.str [49, 49]]]), .p (.lst 1 [[.str [50]]]), .p (.lst 1 []), .p (.lst 1 []), .p (.lst 1 []), .p (.str []), .p (.str []), .p (.int .i64 1), .fn (.func 338) [.iptr 1 [[.bool false]] 0 0], .fn (.func 273) []]
 | 9 => [.p (.str [116, 119, 105, 110]), .p (.str [86]), .p (.lst 1 [[.str [49]], [.str [49, 49]]]), .p (.lst 1 [[.str [50]]]), .p (.lst 1 []), .p (.lst 1 []), .p (.lst 1 []), .p (.str []), .p (.str []), .p (.int .i64 1), .fn (.func 338) [.iptr 1 [[.bool true]] 0 0], .fn (.func 273) []]
 | 10 => [.p (.str [113, 117, 105, 99, 107]), .p (.str [86]), .p (.lst 1 [[.str [49]]]), .p (.lst 1 [[.str [50]]]), .p (.lst 1 [[.str [51]]]), .p (.lst 1 []), .p (.lst 1 []), .p (.str []), .p (.str []), .p (.int .i64 1), .fn (.func 279) [], .fn (.func 273) []]
 | 11 => [.p (.str [116, 104, 114, 111, 116, 116, 108, 101]), .p (.str [86]), .p (.lst 1 [[.str [49]]]), .p (.lst 1 [[.str [50]]]), .p (.lst 1 []), .p (.lst 1 []), .p (.lst 1 []), .p (.str []), .p (.str []), .p (.int .i64 1), .fn (.func 279) [], .fn (.func 273) []]
 | 12 => [.p (.str [100, 101, 108, 97, 121]), .p (.str [86]), .p (.lst 1 [[.str [49]]]), .p (.lst 1 [[.str [50]]]), .p (.lst 1 [[.str [51]]]), .p (.lst 1 [[.str [49, 50]]]), .p (.lst 1 []), .p (.str [49, 50]), .p (.str []), .p (.int .i64 2), .fn (.func 336) [.iptr 1 [[.int .i64 1]] 0 0], .fn (.func 337) [.iptr 1 [[.int .i64 1]] 0 0]]
 | 13 => [.p (.str [99, 111, 117, 110, 116, 101, 114]), .p (.str [86]), .p (.lst 1 [[.str [49]]]), .p (.lst 1 [[.str [50]]]), .p (.lst 1 [[.str [51]]]), .p (.lst 1 [[.str [49, 50]]]), .p (.lst 1 []), .p (.str [49, 50]), .p (.str []), .p (.int .i64 2), .fn (.func 336) [.iptr 1 [[.int .i64 1]] 0 0], .fn (.func 337) [.iptr 1 [[.int .i64 1]] 0 0]]
 | _ => [.p (.str []), .p (.str []), .p (.lst 1 []), .p (.lst 1 []), .p (.lst 1 []), .p (.lst 1 []), .p (.lst 1 []), .p (.str []), .p (.str []), .p (.int .i64 0), .p .nilf, .p .nilf]
def Jfi : List AV := (List.range 14).flatMap catRow
theorem Jp3 : Pure Tryz.prog GL 223 [] (.agg Jfi) :=
 Pure.of_ev 1 (calls := Jmx) Jyd Tryz.func223 rfl rfl (by simp) rfl (by kernel_rfl)
theorem Jyh {k : Nat} (h : k < 14) : (Jfi.drop (k * 12)).take 12 = catRow k := by
 rcases (by omega : k = 0 \/ k = 1 \/ k = 2 \/ k = 3 \/ k = 4 \/ k = 5 \/ k = 6 \/ k = 7 \/ k = 8 \/ k = 9 \/ k = 10 \/ k = 11 \/ k = 12 \/ k = 13) with rfl|rfl|rfl|rfl|rfl|rfl|rfl|rfl|rfl|rfl|rfl|rfl|rfl|rfl <;> rfl
theorem Jqe : Jfi.length = 168 := by kernel_rfl
theorem Jfj {k : Nat} : (catRow k).length = 12 := by unfold catRow; split <;> rfl
theorem Jfk {k : Nat} : (catRow k).all AV.oneCell = true := by unfold catRow; split <;> rfl
theorem Jjw {k : Nat} : Jbe (catRow k) = true := by unfold catRow; split <;> rfl
theorem Je1 {k : Int} : Jbf k = 0 ↔ 0 <= k /\ k < 14 := by unfold Jbf; split <;> omega
theorem Jnn {k : Int} (h : ¬ (0 <= k /\ k < 14)) : Jbf k = 1 := by unfold Jbf; rw [if_pos (by omega)]
theorem Jju (k : Int) : Pure Tryz.prog GL 170 [.p (.int .i64 k)] (.tup [.agg (catRow (if Jbf k = 0 then k.toNat else 14)), .p (.int .i64 (Jbf k))]) := by
 refine Pure.of_walk (N := 14) Tryz.func170 rfl rfl rfl (by simp) (by first | (simp; done) | simp [*]) ?_
 by_cases hk : 0 <= k /\ k < 14
 . have h1 : ¬ k < 0 := by omega
   have h2 : ¬ 14 <= k := by omega
   have h3 : Jbf k = 0 := Je1.2 hk
   have h4 : k.toNat < 14 := by omega
   have h5 : k.toNat * 12 + 12 <= Jfi.length := by rw [Jqe]; omega
   have hc := Jyh h4
   have hl := Jfj (k := k.toNat)
   have h6 := Jfk (k := k.toNat)
   have h7 := Jjw (k := k.toNat)
   simp [h1, h2]
   refine Jab Jp3 ?_
   simp [hk, h5, hc, hl]
   refine ⟨by simpa using h6, ?_⟩
   have h8 : (catRow k.toNat).take 12 = catRow k.toNat := List.take_of_length_le (by omega)
   simp [Jaa, Je3, hl, h3, h8, Ji8 _ h7]
 . have h3 : Jbf k = 1 := Jnn hk
   simp
   repeat' (first | (apply Jac <;> intro hq <;> (try simp at hq) <;> (try simp [hq])) | (apply Jcc <;> intro hq <;> (try simp at hq) <;> (try simp [hq])))
   all_goals (try simp [Jaa, h3, catRow])
   all_goals omega
theorem Jmt (p : Part) (hs : p.name.length < 4611686018427387904) : Pure Tryz.prog GL 146 [p.av] (.p (.int .i64 (Ja6 p))) := by
 refine Pure.of_walk (N := 44) Tryz.func146 rfl rfl rfl (by simp) (by first | (simp; done) | simp [*]) ?_
 simp
 refine Jab (Jju p.kind) ?_
 have hl := Jfj (k := if Jbf p.kind = 0 then p.kind.toNat else 14)
 have h6 := Jfk (k := if Jbf p.kind = 0 then p.kind.toNat else 14)
 generalize catRow (if Jbf p.kind = 0 then p.kind.toNat else 14) = row at hl h6
 simp [hl]
 refine ⟨by simpa using h6, ?_⟩
 refine Jac (fun h => ?_) (fun h => ?_)
 . simp at h
   simp [Jaa, Ja6, h]
 . simp at h
   simp
   refine Jab (Jxc p.name hs) ?_
   simp
   refine Jac (fun h2 => ?_) (fun h2 => ?_)
   . simp at h2
     simp [Jaa, Ja6, h, h2]
   . simp at h2
     simp
     repeat' (first | (apply Jac <;> intro hq <;> (try simp at hq) <;> (try simp [hq])) | (apply Jcc <;> intro hq <;> (try simp at hq) <;> (try simp [hq])))
     all_goals (try simp [Jaa, Ja6, h, h2])
     all_goals grind
end Go.Am
namespace Go.Am
open Go Go.Proofs Go.Pn
theorem Jko {a : Txt} {x : UInt8} : (1 <= a.length /\ a.drop (a.length - 1) = [x]) ↔ a.getLast? = some x := by
 rcases List.eq_nil_or_concat a with rfl | ⟨l, y, rfl⟩
 . simp
 . simp
def stem (s : Txt) : Option Txt := if s.getLast? = some 48 \/ s.getLast? = some 49 then some s.dropLast else none
def Jdj (c : Circuit) (s : Txt) : Int := match stem s with
 | none => -1
 | some nm => match c.parts.findIdx? fun p => decide (p.name = nm) with
   | none => -1
   | some i => if (c.parts[i]?.map (·.kind)) = some 1 then i else -1
theorem Jik {α : Type} (xs : List α) (q : α -> Bool) : (xs.findIdx? q = none /\ idxI xs q = -1) \/ ∃ i x, xs.findIdx? q = some i /\ idxI xs q = i /\ xs[i]? = some x /\ q x = true := by
 cases h : xs.findIdx? q with
 | none => exact .inl ⟨rfl, by simp [idxI, h]⟩
 | some i =>
   obtain ⟨h1, h2, _⟩ := List.findIdx?_eq_some_iff_getElem.1 h
   exact .inr ⟨i, _, rfl, by simp [idxI, h], List.getElem?_eq_getElem h1, h2⟩
theorem Jwz (c : Circuit) (p : Part) (hc : Sized c) (hp : p.name.length < 4611686018427387900) : Pure Tryz.prog GL 131 [c.av, p.av] (.p (.int .i64 (Jdj c p.name))) := by
 refine Pure.of_walk (N := 39) Tryz.func131 rfl rfl rfl (by simp) (by first | (simp; done) | simp [*]) ?_
 simp
 refine Jab (Jp9 p.name [48] (by omega) (by simp)) ?_
 by_cases h0 : p.name.getLast? = some 48
 . have h1 := Jko.2 h0
   have hst : stem p.name = some (p.name.take (p.name.length - 1)) := by simp [stem, h0, List.dropLast_eq_take]
   simp [h1]
   refine Jab (Jmq c (p.name.take (p.name.length - 1)) hc) ?_
   generalize (p.name.take (p.name.length - 1)) = nm at hst
   rcases Jik c.parts (fun q => decide (q.name = nm)) with ⟨h1, h2⟩ | ⟨i, x, h1, h2, h3, h4⟩
   . simp [h2, Jaa, Jdj, hst, h1]
   . obtain ⟨h5, h6⟩ := gsI.1 h3
     have h7 : (0 : Int) <= i := by omega
     simp [h2, h3, h5, h7, -getElem?_pos, List.getElem?_cons_zero, List.getElem?_cons_succ]
     refine Jac (fun h8 => ?_) (fun h8 => ?_)
     . simp at h8
       simp [Jaa, Jdj, hst, h1, h3, h8, -getElem?_pos]
     . simp at h8
       simp [Jaa, Jdj, hst, h1, h3, h8, -getElem?_pos]
 . have h1 : ¬ (1 <= p.name.length /\ p.name.drop (p.name.length - 1) = [48]) := fun h => h0 (Jko.1 h)
   simp [h1]
   refine Jab (Jp9 p.name [49] (by omega) (by simp)) ?_
   by_cases h0' : p.name.getLast? = some 49
   . have h1' := Jko.2 h0'
     have hst : stem p.name = some (p.name.take (p.name.length - 1)) := by simp [stem, h0', List.dropLast_eq_take]
     simp [h1']
     refine Jab (Jmq c (p.name.take (p.name.length - 1)) hc) ?_
     generalize (p.name.take (p.name.length - 1)) = nm at hst
     rcases Jik c.parts (fun q => decide (q.name = nm)) with ⟨h1, h2⟩ | ⟨i, x, h1, h2, h3, h4⟩
     . simp [h2, Jaa, Jdj, hst, h1]
     . obtain ⟨h5, h6⟩ := gsI.1 h3
       have h7 : (0 : Int) <= i := by omega
       simp [h2, h3, h5, h7, -getElem?_pos, List.getElem?_cons_zero, List.getElem?_cons_succ]
       refine Jac (fun h8 => ?_) (fun h8 => ?_)
       . simp at h8
         simp [Jaa, Jdj, hst, h1, h3, h8, -getElem?_pos]
       . simp at h8
         simp [Jaa, Jdj, hst, h1, h3, h8, -getElem?_pos]
   . have h1' : ¬ (1 <= p.name.length /\ p.name.drop (p.name.length - 1) = [49]) := fun h => h0' (Jko.1 h)
     have hst : stem p.name = none := by simp [stem, h0, h0']
     simp [h1', Jaa, Jdj, hst]
end Go.Am
