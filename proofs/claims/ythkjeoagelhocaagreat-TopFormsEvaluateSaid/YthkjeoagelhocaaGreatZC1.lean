/- Lemmas and contracts for the proof of a statement of this seat. -/
import Derived.Test.YthkjeoagelhocaaGreatZS1
import Derived.Test.YthkjeoagelhocaaGreatZS2
import Derived.Test.YthkjeoagelhocaaGreatZA4
import Derived.Test.YthkjeoagelhocaaGreatZA5
set_option linter.unusedVariables false
set_option linter.unusedSimpArgs false
/- The package variable, and functions that the machine does itself. -/
namespace Go.Am
open Go Go.Proofs Go.Pn

abbrev GL : Globs := []

@[simp] theorem wrap_u64 {n : Int} (h1 : 0 ≤ n) (h2 : n ≤ 18446744073709551615) : (IntKind.u64.wrap n = n) = True := by
  apply eq_true
  simp [IntKind.wrap, IntKind.bits, IntKind.signed]
  omega
@[simp] theorem wrap_lit {n : Int} (h1 : -9223372036854775808 ≤ n) (h2 : n ≤ 9223372036854775807) : (IntKind.i64.wrap n = n) = True := eq_true (wrap_i64 h1 h2)

end Go.Am
namespace Go.Pn
open Go Go.Proofs Go.Am
@[simp] def Port.enc (p : Port) : List PV := [.int .i64 p.part, .str p.name]
@[simp] def Port.row (p : Port) : List AV := [.p (.int .i64 p.part), .p (.str p.name)]
@[simp] def Port.av (p : Port) : AV := .agg [.p (.int .i64 p.part), .p (.str p.name)]
@[simp] def Part.enc (p : Part) : List PV := [.int .i64 p.kind, .str p.name, .int .i64 p.delay]
@[simp] def Part.row (p : Part) : List AV := [.p (.int .i64 p.kind), .p (.str p.name), .p (.int .i64 p.delay)]
@[simp] def Part.av (p : Part) : AV := .agg [.p (.int .i64 p.kind), .p (.str p.name), .p (.int .i64 p.delay)]
@[simp] def Pipe.enc (p : Pipe) : List PV := [.int .i64 p.fr.part, .str p.fr.name, .int .i64 p.to.part, .str p.to.name]
@[simp] def Pipe.row (p : Pipe) : List AV := [.p (.int .i64 p.fr.part), .p (.str p.fr.name), .p (.int .i64 p.to.part), .p (.str p.to.name)]
@[simp] def Pipe.av (p : Pipe) : AV := .agg [.p (.int .i64 p.fr.part), .p (.str p.fr.name), .p (.int .i64 p.to.part), .p (.str p.to.name)]
end Go.Pn
namespace Go.Am
open Go Go.Proofs Go.Pn
@[simp] abbrev Txt.enc (s : Txt) : List PV := [.str s]
@[simp] abbrev Txt.row (s : Txt) : List AV := [.p (.str s)]
@[simp] abbrev Txt.av (s : Txt) : AV := .p (.str s)
@[simp] abbrev Int.enc (s : Int) : List PV := [.int .i64 s]
@[simp] abbrev Int.row (s : Int) : List AV := [.p (.int .i64 s)]
@[simp] abbrev Int.av (s : Int) : AV := .p (.int .i64 s)
def Ports.enc (l : List Port) : List PV := [.lst 2 (l.map Port.enc)]
end Go.Am
namespace Go.Pn
open Go Go.Proofs Go.Am
@[simp] def Circuit.av (c : Circuit) : AV := .agg [.p (.lst 3 (c.parts.map Part.enc)), .p (.lst 4 (c.pipes.map Pipe.enc))]
end Go.Pn
namespace Go.Am
open Go Go.Proofs Go.Pn

theorem XLoop.gor {P : Program} {G : Globs} {N n0 : Nat} {γ : Type} {c : Cont Code} {t : Slots} {s : Store} {nx : Nat} {Q : Cont KQ} (keep keepB : List Nat) (ρ0 : List Nat) (rf : St → List Nat) (M : γ → Slots) (B : γ → Store) (I : γ → Prop) (μ : γ → Nat) (g0 : γ) (hi : I g0)
    (h0 : SubX ρ0 n0 ⟨t, s, nx⟩ ⟨M g0 ++ pick keep t, B g0 ++ pickS keepB s, nx⟩)
    (round : ∀ g, I g → @xc P G N n0 c (M g ++ pick keep t) (B g ++ pickS keepB s) nx ⟨fun x st' => @xthen x st' ⟨fun st' => ∃ g', I g' ∧ μ g' < μ g ∧
      SubX (rf st') n0 st' ⟨M g' ++ pick keep t, B g' ++ pickS keepB s, nx⟩⟩ Q⟩) : @XLoop P G N n0 c ⟨t, s, nx⟩ Q :=
  ALoop.intro (fun g => ⟨M g ++ pick keep t, B g ++ pickS keepB s, nx⟩) I μ g0 _ hi h0.sub fun g hg => (vc_sound _ _ _ (round g hg)).mono fun x st' h => by
    cases x with
    | normal =>
      obtain ⟨g', h1, h2, h3⟩ := h
      exact ⟨g', _, h1, h2, h3.sub⟩
    | _ => exact h

theorem Gives.mk_walkK {P : Program} {G : Globs} {N : Nat} {f : Nat} {fn : Func} {c : Code} {args args' : List AV} {s : Store} {nx : Nat} {rc : AV} {up : Store} {nx' : Nat} (σ free : List Nat) (s0 s1 : Store) (m x : Nat) (r : AV) (names : St → List Nat) {up1 : Store}
    (hf : P.funcs[f]? = some fn) (hb : fn.body = some c) (hname : (fn.name == "runtime.NumGoroutine") = false)
    (hN : fn.ntmps = N) (hargs : args.length ≤ N) (hm : σ.length = m) (hL : LendsX σ nx s0 s args args') (hfree : ∀ b ∈ free, b < m) (hr : renA (namesOf σ nx x) r = some rc) (hup : renS (namesOf σ nx x) s1 = some up1)
    (e1 : (up1 ++ free.map fun b => ((σ[b]?).getD 0, (none : Option ABlk))) = up) (e2 : nx + x = nx')
    (h : @xc P G N m ⟨c⟩ (argSlots 0 args) s0 m ⟨XEndK P fn.results.toList m x (s1 ++ (free.map (·, none) ++ s0)) r names⟩) :
    Gives P G f args' s nx rc σ up nx' := by
  subst e1; subst e2
  exact Gives.of_walkK names hf hb hname hN hargs hm hL hfree hr hup h

attribute [simp] or_imp forall_and

def idxI {α : Type} (xs : List α) (q : α → Bool) : Int := match xs.findIdx? q with | some i => i | none => -1

theorem get_lt {α : Type} {xs : List α} {k : Nat} (h : k < xs.length) : ∃ x, xs[k]? = some x := ⟨_, List.getElem?_eq_getElem h⟩

theorem take_snoc {α : Type} {xs : List α} {k : Nat} {x : α} (h : xs[k]? = some x) : xs.take (k + 1) = xs.take k ++ [x] := by rw [List.take_add_one, h]; rfl

theorem below_next {α : Type} {xs : List α} {P : α → Prop} {k : Nat} {x : α} (h : ∀ (j : Nat) y, j < k → xs[j]? = some y → P y) (e : xs[k]? = some x) (hx : P x) : ∀ (j : Nat) y, j < k + 1 → xs[j]? = some y → P y := by
  intro j y hj hy
  by_cases hjk : j = k
  · subst hjk; rw [e] at hy; cases hy; exact hx
  · exact h j y (by omega) hy

theorem below_all {α : Type} {xs : List α} {P : α → Prop} (h : ∀ (j : Nat) y, j < xs.length → xs[j]? = some y → P y) : ∀ y ∈ xs, P y := by
  intro y hy
  obtain ⟨j, hj, rfl⟩ := List.getElem_of_mem hy
  exact h j _ hj (List.getElem?_eq_getElem hj)

theorem idxI_at {α : Type} {xs : List α} {q : α → Bool} {k : Nat} {x : α} (e : xs[k]? = some x) (hx : q x = true) (h : ∀ (j : Nat) y, j < k → xs[j]? = some y → q y = false) : idxI xs q = k := by
  obtain ⟨hk, rfl⟩ := List.getElem?_eq_some_iff.1 e
  unfold idxI
  rw [(List.findIdx?_eq_some_iff_getElem (i := k)).2 ⟨hk, hx, fun j hj => by have := h j _ hj (List.getElem?_eq_getElem (by omega)); simp [this]⟩]

theorem idxI_none {α : Type} {xs : List α} {q : α → Bool} (h : ∀ x ∈ xs, q x = false) : idxI xs q = -1 := by
  unfold idxI
  rw [List.findIdx?_eq_none_iff.2 h]

theorem idxI_nonneg {α : Type} {xs : List α} {q : α → Bool} : (0 ≤ idxI xs q) ↔ xs.any q = true := by
  unfold idxI
  split
  · rename_i i h
    obtain ⟨h1, h2, _⟩ := List.findIdx?_eq_some_iff_getElem.1 h
    simp
    exact ⟨_, List.getElem_mem h1, h2⟩
  · rename_i h
    rw [List.findIdx?_eq_none_iff] at h
    simp
    exact h

end Go.Am
/- Contracts: chapter 12, words. -/
namespace Go.Am
open Go Go.Proofs Go.Pn

end Go.Am
/- Contracts: everyday functions of package slices, at the program's types. -/
namespace Go.Am
open Go Go.Proofs Go.Pn


end Go.Am
/- Contracts: comparing. -/
namespace Go.Am
open Go Go.Proofs Go.Pn


theorem c_cmp_isNaN_int (n : Int) : Pure Tryz.prog GL 84 [.p (.int .i64 n)] (.p (.bool false)) := by
  refine Pure.of_walk (N := 6) Tryz.func84 rfl rfl rfl (by simp) (by first | (simp; done) | simp [*]) ?_
  simp [XEndT]

theorem c_cmp_Compare_int (a b : Int) : Pure Tryz.prog GL 42 [.p (.int .i64 a), .p (.int .i64 b)] (.p (.int .i64 (cmpI a b))) := by
  refine Pure.of_walk (N := 20) Tryz.func42 rfl rfl rfl (by simp) (by first | (simp; done) | simp [*]) ?_
  simp
  refine xcall_pure (c_cmp_isNaN_int a) ?_
  simp
  refine xcall_pure (c_cmp_isNaN_int b) ?_
  simp
  repeat' (first | (apply xif_split <;> intro hq <;> (try simp at hq) <;> (try simp [hq])) | (apply xdec_split <;> intro hq <;> (try simp at hq) <;> (try simp [hq])))
  all_goals simp [XEndT, cmpI]
  all_goals grind

theorem orI_drop {xs : List Int} {k : Nat} (h : ∀ (j : Nat) x, j < k → xs[j]? = some x → x = 0) : orI xs = orI (xs.drop k) := by
  induction k generalizing xs with
  | zero => rfl
  | succ k ih =>
    cases xs with
    | nil => rfl
    | cons x xs =>
      have : x = 0 := h 0 x (by omega) rfl
      simp only [orI, this, if_true, List.drop_succ_cons]
      exact ih fun j y hj hy => h (j + 1) y (by omega) (by simpa using hy)

theorem c_cmp_Or_int (xs : List Int) (hl : xs.length < 4611686018427387904) : Pure Tryz.prog GL 41 [.p (.lst 1 (xs.map Int.enc))] (.p (.int .i64 (orI xs))) := by
  refine Pure.of_walk (N := 18) Tryz.func41 rfl rfl rfl (by simp) (by first | (simp; done) | simp [*]) ?_
  simp
  refine XLoop.go [3, 6, 7] [] 0 [] (fun _ => []) (fun _ (k : Nat) => [(8, .p (.int .i64 k))]) (fun _ _ => []) (fun k => k ≤ xs.length ∧ ∀ (j : Nat) x, j < k → xs[j]? = some x → x = 0) (fun k => xs.length - k) 0 ⟨by omega, fun j x h => by omega⟩ ?_ ?_
  · simp
  · rintro k ⟨hk, hz⟩
    simp
    refine xif_split (fun h => ?_) (fun h => ?_)
    · simp at h
      obtain ⟨x, e⟩ := get_lt h
      simp [h, e, -getElem?_pos, List.getElem?_cons_zero, List.getElem?_cons_succ]
      have hd : xs.drop k = x :: xs.drop (k + 1) := by
        obtain ⟨_, rfl⟩ := List.getElem?_eq_some_iff.1 e
        exact List.drop_eq_getElem_cons h
      refine xif_split (fun h2 => ?_) (fun h2 => ?_)
      · simp at h2
        simp [XEndT, orI_drop hz, hd, orI, h2]
      · simp at h2
        simp
        refine ⟨wrap_i64 (by omega) (by omega), k + 1, ⟨by omega, below_next hz e h2⟩, by omega, ?_⟩
        simp
    · simp at h
      have : k = xs.length := by omega
      simp [XEndT, orI_drop hz, this, orI]

end Go.Am
/- Contracts: the reference of chapter 20 (and of chapter 12, words). -/
namespace Go.Am
open Go Go.Proofs Go.Pn

end Go.Am
/- Contracts: package part, the catalogue. -/
namespace Go.Am
open Go Go.Proofs Go.Pn

end Go.Am
/- Contracts: package circuit, the checks. -/
namespace Go.Am
open Go Go.Proofs Go.Pn

end Go.Am
