/- Lemmas and contracts for the proof of a statement of this seat. -/
import Derived.Test.YthkjeoagelhocaaGreatZA4
import Derived.Lib.Overlaps
import Derived.Below
import Derived.Test.YthkjeoagelhocaaGreatZA2
import Derived.WideKeyRuns
set_option linter.unusedVariables false
set_option linter.unusedSimpArgs false
/-
  Closed functions: what is computed of them by the kernel.
-/
namespace Go.Am
open Go

abbrev EvR := AV × List Nat × Store × Nat

def guardO {α : Type} (b : Bool) (x : Option α) : Option α := if b = true then x else none

def evBuild (P : Program) (y : TyI) (parts : List (Nat × AV)) : Option (List AV) := match y.td with
    | .struct fs => if (fs.all fun p => p.2.1 != 0) = true then fillA (fplace fs) y.zero parts else none
    | .array _ e => (tyOf P e).bind fun ye => fillA (aplace ye.size) y.zero parts
    | _ => none

def evop (P : Program) (calls : Nat → List AV → Option AV) (op : Op) (ρ : Operand → AV) (s : Store) (nx : Nat) : Option EvR :=
  match op with
  | .move x | .assign x => some (ρ x, [], [], nx)
  | .alloc t => (tyOf P t).bind fun y => guardO (decide (y.zero.length = y.size)) (some (.ptr nx y.size 0 0, [], [(nx, some (.cells y.size [y.zero]))], nx + 1))
  | .store t x v => (tyOf P t).bind fun y => match ρ x with
    | .ptr b k i j => match get s b with
      | some (.cells k' rows) => match rows[i]? with
        | some row => guardO (decide (k' = k ∧ (ρ v).cells.length = y.size ∧ 0 < y.size ∧ j + y.size ≤ row.length) && (ρ v).cells.all AV.oneCell) (some (.any, [b], [(b, some (.cells k (rows.set i (lay row j (ρ v).cells))))], nx))
        | none => none
      | _ => none
    | _ => none
  | .build t parts => (tyOf P t).bind fun y => (evBuild P y (parts.toList.map fun (i, x) => (i, ρ x))).map fun cs => (.agg cs, [], [], nx)
  | .buildSlice t len parts => (tyOf P t).bind fun y => match y.td with
    | .slice e => (tyOf P e).bind fun ye => guardO (decide (ye.zero.length = ye.size ∧ 0 < ye.size ∧ len * ye.size ≤ 16777216))
        ((fillRows ye.size (List.replicate len ye.zero) (parts.toList.map fun (i, x) => (i, ρ x))).map fun rows => (.ref nx ye.size 0 len (some len), [], [(nx, some (.cells ye.size rows))], nx + 1))
    | _ => none
  | .makeFunc f first cap => guardO (first.isEmpty && bareF f) (some (.fn f (cap.toList.map ρ), [], [], nx))
  | .call c => match c.callee with
    | .value f => match ρ f with
      | .fn (.func n) cap => (calls n (c.args.toList.map ρ ++ cap)).map fun r => (r, [], [], nx)
      | _ => none
    | _ => none
  | _ => none

section
variable {P : Program} {G : Globs} {calls : Nat → List AV → Option AV}

mutual
def evV (nk : Nat) (s : Store) : AV → Option AV
  | .p x => some (.p x)
  | .nils => some (.p (.lst nk []))
  | .ref b k i n _ => match get s b with
    | some (.cells k' rows) => if k' = k ∧ i + n ≤ rows.length then (unpR ((rows.drop i).take n)).map fun r => .p (.lst k r) else none
    | _ => none
  | .agg cs => (evL nk s cs).map .agg
  | .tup cs => (evL nk s cs).map .tup
  | .fn f cs => (evL nk s cs).map (.fn f)
  | .iptr k rows i j => some (.iptr k rows i j)
  | _ => none
def evL (nk : Nat) (s : Store) : List AV → Option (List AV)
  | [] => some []
  | x :: xs => (evV nk s x).bind fun y => (evL nk s xs).map (y :: ·)
end

mutual
theorem evV_ok {nk : Nat} {s : Store} : ∀ {a x : AV}, evV nk s a = some x → FrzA s (fun _ => True) a x
  | .p _, x, h => by simp [evV] at h; subst h; exact .same _ rfl
  | .nils, x, h => by simp [evV] at h; subst h; exact .one _ _ (.nils nk)
  | .iptr .., x, h => by simp [evV] at h; subst h; exact .same _ rfl
  | .ref b k i n c, x, h => by
    simp only [evV] at h
    split at h
    · rename_i k' rows hg
      split at h
      · rename_i hk
        obtain ⟨rfl, hlen⟩ := hk
        obtain ⟨r, hr, rfl⟩ := Option.map_eq_some_iff.1 h
        have e := unpR_eq hr
        have hl : r.length = n := by
          have := congrArg List.length e
          simp at this; omega
        exact .one _ _ (.rows trivial hg e hl)
      · cases h
    · cases h
  | .agg cs, x, h => by
    obtain ⟨q, hq, rfl⟩ := Option.map_eq_some_iff.1 (by simpa [evV] using h)
    have := evL_ok hq
    exact .agg _ _ this.1 this.2
  | .tup cs, x, h => by
    obtain ⟨q, hq, rfl⟩ := Option.map_eq_some_iff.1 (by simpa [evV] using h)
    have := evL_ok hq
    exact .tup _ _ this.1 this.2
  | .fn f cs, x, h => by
    obtain ⟨q, hq, rfl⟩ := Option.map_eq_some_iff.1 (by simpa [evV] using h)
    have := evL_ok hq
    exact .fn f _ _ this.1 this.2
  | .nilp, x, h => by simp [evV] at h
  | .ptr .., x, h => by simp [evV] at h
  | .map _, x, h => by simp [evV] at h
  | .nilm, x, h => by simp [evV] at h
  | .pmap .., x, h => by simp [evV] at h
  | .acc .., x, h => by simp [evV] at h
  | .ubool, x, h => by simp [evV] at h
  | .any, x, h => by simp [evV] at h
theorem evL_ok {nk : Nat} {s : Store} : ∀ {a x : List AV}, evL nk s a = some x → x.length = a.length ∧ ∀ (i : Nat) c d, a[i]? = some c → x[i]? = some d → FrzA s (fun _ => True) c d
  | [], x, h => by simp [evL] at h; subst h; exact ⟨rfl, fun i c d h => by simp at h⟩
  | a :: as, x, h => by
    simp only [evL, Option.bind_eq_some_iff, Option.map_eq_some_iff] at h
    obtain ⟨y, hy, ys, hys, rfl⟩ := h
    obtain ⟨h1, h2⟩ := evL_ok hys
    refine ⟨by simp [h1], fun i c d hc hd => ?_⟩
    cases i with
    | zero => simp at hc hd; subst hc; subst hd; exact evV_ok hy
    | succ i => exact h2 i c d (by simpa using hc) (by simpa using hd)
end

end
end Go.Am
/-
  slices.overlaps at two blocks of the store.
-/
namespace Go.Am
open Go

section
variable {P : Program} {G : Globs}

end
end Go.Am
/-
  A loop whose blocks are named anew by whatever names are found at the end of each round.
-/
namespace Go.Am
open Go

theorem XLoop.goe {P : Program} {G : Globs} {N n0 : Nat} {γ : Type} {c : Cont Code} {t : Slots} {s : Store} {nx : Nat} {Q : Cont KQ} (keep keepB : List Nat) (e : Nat) (M : Nat → γ → Slots) (B : Nat → γ → Store) (I : γ → Prop) (μ : γ → Nat) (g0 : γ) (hi : I g0)
    (h0 : ∃ ρ, SubX ρ n0 ⟨t, s, nx⟩ ⟨M nx g0 ++ pick keep t, B nx g0 ++ pickS keepB s, nx + e⟩)
    (round : ∀ g, I g → @xc P G N n0 c (M nx g ++ pick keep t) (B nx g ++ pickS keepB s) (nx + e) ⟨fun x st' => @xthen x st' ⟨fun st' => ∃ g', I g' ∧ μ g' < μ g ∧ ∃ ρ,
      SubX ρ n0 st' ⟨M nx g' ++ pick keep t, B nx g' ++ pickS keepB s, nx + e⟩⟩ Q⟩) : @XLoop P G N n0 c ⟨t, s, nx⟩ Q := by
  obtain ⟨ρ0, h0⟩ := h0
  exact ALoop.intro (fun g => ⟨M nx g ++ pick keep t, B nx g ++ pickS keepB s, nx + e⟩) I μ g0 _ hi h0.sub fun g hg => (vc_sound _ _ _ (round g hg)).mono fun x st' h => by
    cases x with
    | normal =>
      obtain ⟨g', h1, h2, ρ, h3⟩ := h
      exact ⟨g', _, h1, h2, h3.sub⟩
    | _ => exact h

end Go.Am
/-
  A call that lays blocks of its own and hands one of them back.
-/
namespace Go.Am
open Go Go.RowKit

end Go.Am
/-
  Maps whose keys are structs of an int and a string.
-/
namespace Go.Am
open Go

section
variable {P : Program}

end
end Go.Am
/-
  A call that hands back a block of the caller's, under a new name.
-/
namespace Go.Am
open Go

section
variable {P : Program} {G : Globs} {f : Nat} {args : List AV}

end
end Go.Am
/-
  Footprints under new names.
-/
namespace Go.Am
open Go

end Go.Am
/-
  Blocks that are seen as pure from a place on: what a loop's next round may forget to own. Conditions: none.
-/
namespace Go.Am
open Go

structure Leads (G : Globs) (N n0 : Nat) (st' st : St) : Prop where
  run : ∀ [Base] (F : Nat → Prop) (φ : Places) (a : Act) (w : World), Rel G N n0 F st' φ a w →
  ∃ φ', Rel G N n0 F st φ' a w ∧ (∀ b, b < n0 → φ' b = φ b) ∧ ∀ F' : Nat → Prop, Step (ownF F' φ st'.s) (ownF F' φ' st.s) w w

section
variable {P : Program} {G : Globs} {N n0 : Nat}

end
end Go.Am
