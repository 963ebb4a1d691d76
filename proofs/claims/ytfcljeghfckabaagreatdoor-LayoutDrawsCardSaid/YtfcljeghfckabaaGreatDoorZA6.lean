/- Lemmas and contracts for the proof of a statement of this seat. -/
import Derived.Test.YtfcljeghfckabaaGreatDoorZA4
import Derived.Lib.Overlaps
import Derived.Below
import Derived.Test.YtfcljeghfckabaaGreatDoorZA2
import Derived.WideKeyRuns
set_option linter.unusedVariables false
set_option linter.unusedSimpArgs false
/-
  slices.overlaps at two blocks of the store.
-/
namespace Go.Am
open Go

section
variable {P : Program} {G : Globs}

end
end Go.Am
/-
  A loop whose blocks are named anew by whatever names are found at the end of each round.
-/
namespace Go.Am
open Go

theorem XLoop.goe {P : Program} {G : Globs} {N n0 : Nat} {γ : Type} {c : Cont Code} {t : Slots} {s : Store} {nx : Nat} {Q : Cont KQ} (keep keepB : List Nat) (e : Nat) (M : Nat → γ → Slots) (B : Nat → γ → Store) (I : γ → Prop) (μ : γ → Nat) (g0 : γ) (hi : I g0)
    (h0 : ∃ ρ, SubX ρ n0 ⟨t, s, nx⟩ ⟨M nx g0 ++ pick keep t, B nx g0 ++ pickS keepB s, nx + e⟩)
    (round : ∀ g, I g → @xc P G N n0 c (M nx g ++ pick keep t) (B nx g ++ pickS keepB s) (nx + e) ⟨fun x st' => @xthen x st' ⟨fun st' => ∃ g', I g' ∧ μ g' < μ g ∧ ∃ ρ,
      SubX ρ n0 st' ⟨M nx g' ++ pick keep t, B nx g' ++ pickS keepB s, nx + e⟩⟩ Q⟩) : @XLoop P G N n0 c ⟨t, s, nx⟩ Q := by
  obtain ⟨ρ0, h0⟩ := h0
  exact ALoop.intro (fun g => ⟨M nx g ++ pick keep t, B nx g ++ pickS keepB s, nx + e⟩) I μ g0 _ hi h0.sub fun g hg => (vc_sound _ _ _ (round g hg)).mono fun x st' h => by
    cases x with
    | normal =>
      obtain ⟨g', h1, h2, ρ, h3⟩ := h
      exact ⟨g', _, h1, h2, h3.sub⟩
    | _ => exact h

end Go.Am
/-
  A call that lays blocks of its own and hands one of them back.
-/
namespace Go.Am
open Go Go.RowKit

theorem step_below {F : Nat → Prop} {φ : Places} {s : Store} {w w' : World} {b g : Nat} {x : ABlk} (hb : Below w.heap.size w w') (hg : w.heap.size ≤ g) :
    Step (ownF F φ s) (ownF F (putP φ b (g, 0)) ((b, some x) :: s)) w w' where
  keep := fun β hβ ho => ⟨hb.block β hβ, by
    rintro (hF | ⟨c, y, p, h1, h2, rfl⟩)
    · exact ho (.inl hF)
    · by_cases e : c = b
      · subst e
        rw [putP_same] at h2
        cases h2
        simp only at hβ
        omega
      · rw [putP_ne e] at h2
        rw [get_cons_ne (Ne.symm e)] at h1
        exact ho (.inr ⟨c, y, p, h1, h2, rfl⟩)⟩
  size := hb.size
  shape := fun β arr T h => ⟨arr, by rw [hb.block β (Array.getElem?_eq_some_iff.1 h).1]; exact h, rfl⟩
  os := hb.os
  tape := hb.tape
  output := hb.output

theorem SR.fresh {G F} {φ : Places} {s : Store} {w w' : World} (h : SR G F φ s w) {b g : Nat} (hb : φ b = none) (hbl : Below w.heap.size w w') (hg : w.heap.size ≤ g) (x : ABlk)
    (hx : BR (putP φ b (g, 0)) (ownF F (putP φ b (g, 0)) ((b, some x) :: s)) w' b x) :
    SR G F (putP φ b (g, 0)) ((b, some x) :: s) w' := by
  refine h.change (putP_le hb) (step_below hbl hg) ?_ ?_ ?_
  · intro c y hc
    by_cases e : c = b
    · subst e
      rw [get_cons_same] at hc
      cases hc
      exact .inr hx
    · rw [get_cons_ne (Ne.symm e)] at hc
      refine .inl ⟨hc, fun p hp => ?_⟩
      obtain ⟨q, h1, h2⟩ := (h.blk c y hc).place
      rw [hp] at h1; cases h1
      exact hbl.block _ h2
  · intro c c' y y' p p' h1 h2 h3 h4 h5
    by_cases e : c = b
    · by_cases e' : c' = b
      · rw [e, e']
      · subst e
        rw [putP_same] at h3; cases h3
        rw [putP_ne e'] at h4
        rw [get_cons_ne (Ne.symm e')] at h2
        obtain ⟨q, k1, k2⟩ := (h.blk c' y' h2).place
        rw [h4] at k1; cases k1
        simp only at h5
        omega
    · by_cases e' : c' = b
      · subst e'
        rw [putP_same] at h4; cases h4
        rw [putP_ne e] at h3
        rw [get_cons_ne (Ne.symm e)] at h1
        obtain ⟨q, k1, k2⟩ := (h.blk c y h1).place
        rw [h3] at k1; cases k1
        simp only at h5
        omega
      · rw [putP_ne e] at h3
        rw [putP_ne e'] at h4
        rw [get_cons_ne (Ne.symm e)] at h1
        rw [get_cons_ne (Ne.symm e')] at h2
        exact h.inj c c' y y' p p' h1 h2 h3 h4 h5
  · intro c y p h1 h2 hF
    by_cases e : c = b
    · subst e
      rw [putP_same] at h2; cases h2
      have := h.fsize _ hF
      simp only at this
      omega
    · rw [putP_ne e] at h2
      rw [get_cons_ne (Ne.symm e)] at h1
      exact h.disj c y p h1 h2 hF

theorem post_fresh {G : Globs} {F : Nat → Prop} {φ : Places} {s : Store} {w w' : World} {nx k n g cap : Nat} {rows : List (List AV)} {arr : Array Value} {T : TypeId} (h : SR G F φ s w) (hb : φ nx = none) (hbl : Below w.heap.size w w') (hg : w.heap.size ≤ g)
    (hh : w'.heap[g]? = some (.cells arr T (0, 0))) (hc : ∀ φ' own', CellsAt φ' own' w' k rows arr 0) (hn : n ≤ cap) (hsz : cap * k ≤ arr.size) :
    Post G F φ s w (.ref nx k 0 n none) [(nx, some (.cells k rows))] nx (nx + 1) (.slice (some ⟨g, 0, none⟩) n cap) w' := by
  refine ⟨putP φ nx (g, 0), putP_le hb, fun b hb' => putP_ne (by omega), ?_, ?_, fun F' => step_below hbl hg⟩
  · exact h.fresh hb hbl hg _ ⟨g, 0, arr, T, putP_same, hh, hc _ _⟩
  · have := VR.ref (φ := putP φ nx (g, 0)) (own := ownF F (putP φ nx (g, 0)) ([(nx, some (.cells k rows))] ++ s)) (w := w') nx k 0 n none g 0 cap putP_same (fun c' e => by cases e) hn ⟨arr, T, hh, by simpa using hsz⟩
    simpa using this

end Go.Am
/-
  Maps whose keys are structs of an int and a string.
-/
namespace Go.Am
open Go

section
variable {P : Program}

theorem findAsking_spec {k : Nat} {φ : Places} {own : Nat → Prop} {w : World} {x : AV} {v : Value} {Kp : AV → Prop} (hx : Kp x) (hv : VR φ own w x v)
    (heq : ∀ x y, Kp x → Kp y → ∃ c, eqA P 8 k x y = some c ∧ (c = true ↔ y = x)) : ∀ (es : List (AV × AV)) (ms : List MapEntry) (i : Nat), (∀ e ∈ es, Kp e.1) → EntriesAt φ own w es ms →
    ((Instr.findAsking k v ms i).run P w = .ok none w ∧ ∀ e ∈ es, e.1 ≠ x) ∨
    ∃ j e m, (Instr.findAsking k v ms i).run P w = .ok (some (i + j, m.val)) w ∧ es[j]? = some e ∧ ms[j]? = some m ∧ e.1 = x ∧ ∀ (i' : Nat) e', i' < j → es[i']? = some e' → e'.1 ≠ x
  | [], [], i, _, _ => .inl ⟨rfl, by simp⟩
  | [], m :: ms, i, _, h => by have := h.1; simp at this
  | e :: es, [], i, _, h => by have := h.1; simp at this
  | e :: es, m :: ms, i, hk, h => by
    obtain ⟨c, h1, h2⟩ := heq x e.1 hx (hk e (by simp))
    have h3 := (h.2 0 e m rfl rfl).1
    have h4 := eqA_ok 8 10000 k x e.1 c v m.key h1 (by omega) hv h3
    have h5 : (Op.equal k v m.key).run P w = .ok c w := h4
    cases c with
    | true =>
      refine .inr ⟨0, e, m, ?_, rfl, rfl, h2.1 rfl, fun i' e' hi => by omega⟩
      simp [Instr.findAsking, h5]
    | false =>
      have hne : e.1 ≠ x := fun q => by have := h2.2 q; cases this
      have hes : EntriesAt φ own w es ms := ⟨by have := h.1; simpa using this, fun j e' m' he hm => h.2 (j + 1) e' m' (by simpa using he) (by simpa using hm)⟩
      rcases findAsking_spec hx hv heq es ms (i + 1) (fun y hy => hk y (by simp [hy])) hes with ⟨k1, k2⟩ | ⟨j, e', m', k1, k2, k3, k4, k5⟩
      · refine .inl ⟨by simp [Instr.findAsking, h5, k1], fun y hy => ?_⟩
        rcases List.mem_cons.1 hy with rfl | hy
        · exact hne
        · exact k2 y hy
      · refine .inr ⟨j + 1, e', m', by simp [Instr.findAsking, h5, k1]; omega, by simpa using k2, by simpa using k3, k4, fun i' e2 hi he2 => ?_⟩
        cases i' with
        | zero => simp at he2; subst he2; exact hne
        | succ i' => exact k5 i' e2 (by omega) (by simpa using he2)

def IsIS (x : AV) : Prop := ∃ (n : Int) (s : List UInt8), x = .agg [.p (.int .i64 n), .p (.str s)]

theorem IsIS.val {φ : Places} {own : Nat → Prop} {w : World} {n : Int} {s : List UInt8} {v : Value} (h : VR φ own w (.agg [.p (.int .i64 n), .p (.str s)]) v) : v = .agg ⟨[.int .i64 n, .string ⟨⟨s⟩⟩]⟩ := by
  obtain ⟨us, rfl, h1, h2⟩ := h.agg_inv
  match us, h1 with
  | [a, b], _ =>
    have e1 := (h2 0 _ a rfl rfl).int_inv
    have e2 := (h2 1 _ b rfl rfl).str_inv
    rw [e1, e2]

theorem keyIS {k : Nat} (hwide : (match P.underlying k with | some (.array _ _) | some (.struct _) => true | _ => false) = true)
    (hcheck : ∀ (w : World) (em : Bool) (n : Int) (s : ByteArray), (Instr.checkKey em 10000 k (.agg ⟨[.int .i64 n, .string s]⟩)).run P w = .ok () w)
    (heq : ∀ (n m : Int) (s t : List UInt8), eqA P 8 k (.agg [.p (.int .i64 n), .p (.str s)]) (.agg [.p (.int .i64 m), .p (.str t)]) = some (decide (n = m ∧ s = t))) : KeyOk P k IsIS where
  check := fun φ own w em x v hx hv => by
    obtain ⟨n, s, rfl⟩ := hx
    rw [IsIS.val hv]
    exact hcheck w em n _
  find := fun φ own w x v es ms hx hv hes h => by
    have e : (Instr.findKey k v ms).run P w = (Instr.findAsking k v ms).run P w := run_findKey_eq w hwide v ms
    rw [e]
    have := findAsking_spec (P := P) (k := k) (Kp := IsIS) hx hv (fun x y hx hy => by
      obtain ⟨n, s, rfl⟩ := hx
      obtain ⟨m, t, rfl⟩ := hy
      exact ⟨_, heq n m s t, by simp; grind⟩) es ms 0 hes h
    simpa using this
  stays := fun φ own w x v v' hx hv hv' => by
    obtain ⟨n, s, rfl⟩ := hx
    rw [IsIS.val hv, IsIS.val hv']
    have e : Instr.sameBits 10000 (.agg ⟨[.int .i64 n, .string ⟨⟨s⟩⟩]⟩) (.agg ⟨[.int .i64 n, .string ⟨⟨s⟩⟩]⟩) = true := by
      simp [Instr.sameBits, Go.MapKept.bytes_beq]
    rw [Instr.keyThatStays, if_pos e]
    rfl

def IsI (x : AV) : Prop := ∃ n : Int, x = .p (.int .i64 n)
def IsS (x : AV) : Prop := ∃ t : List UInt8, x = .p (.str t)

theorem findNow_at {d : TypeDesc} {φ : Places} {own : Nat → Prop} {w : World} {x : AV} {v : Value} {Kp : AV → Prop} (hx : Kp x) (hv : VR φ own w x v)
    (heq : ∀ (x y : AV) (v u : Value), Kp x → Kp y → VR φ own w x v → VR φ own w y u → ∃ c, Instr.sameNow d v u = some c ∧ (c = true ↔ y = x)) : ∀ (es : List (AV × AV)) (ms : List MapEntry) (i : Nat), (∀ e ∈ es, Kp e.1) → EntriesAt φ own w es ms →
    (Instr.findNow d v ms i = some none ∧ ∀ e ∈ es, e.1 ≠ x) ∨
    ∃ j e m, Instr.findNow d v ms i = some (some (i + j, m.val)) ∧ es[j]? = some e ∧ ms[j]? = some m ∧ e.1 = x ∧ ∀ (i' : Nat) e', i' < j → es[i']? = some e' → e'.1 ≠ x
  | [], [], i, _, _ => .inl ⟨rfl, by simp⟩
  | [], m :: ms, i, _, h => by have := h.1; simp at this
  | e :: es, [], i, _, h => by have := h.1; simp at this
  | e :: es, m :: ms, i, hk, h => by
    have h3 := (h.2 0 e m rfl rfl).1
    obtain ⟨c, h1, h2⟩ := heq x e.1 v m.key hx (hk e (by simp)) hv h3
    cases c with
    | true =>
      refine .inr ⟨0, e, m, by simp [Instr.findNow, h1], rfl, rfl, h2.1 rfl, fun i' e' hi => by omega⟩
    | false =>
      have hne : e.1 ≠ x := fun q => by have := h2.2 q; cases this
      have hes : EntriesAt φ own w es ms := ⟨by have := h.1; simpa using this, fun j e' m' he hm => h.2 (j + 1) e' m' (by simpa using he) (by simpa using hm)⟩
      rcases findNow_at hx hv heq es ms (i + 1) (fun y hy => hk y (by simp [hy])) hes with ⟨k1, k2⟩ | ⟨j, e', m', k1, k2, k3, k4, k5⟩
      · refine .inl ⟨by simp [Instr.findNow, h1, k1], fun y hy => ?_⟩
        rcases List.mem_cons.1 hy with rfl | hy
        · exact hne
        · exact k2 y hy
      · refine .inr ⟨j + 1, e', m', by simp [Instr.findNow, h1, k1]; omega, by simpa using k2, by simpa using k3, k4, fun i' e2 hi he2 => ?_⟩
        cases i' with
        | zero => simp at he2; subst he2; exact hne
        | succ i' => exact k5 i' e2 (by omega) (by simpa using he2)

theorem keyI {k : Nat} (hu : P.underlying k = some (.int .i64)) (hcheck : ∀ (w : World) (em : Bool) (n : Int), (Instr.checkKey em 10000 k (.int .i64 n)).run P w = .ok () w) : KeyOk P k IsI where
  check := fun φ own w em x v hx hv => by
    obtain ⟨n, rfl⟩ := hx
    rw [hv.int_inv]
    exact hcheck w em n
  find := fun φ own w x v es ms hx hv hes h => by
    rcases findNow_at (d := .int .i64) hx hv (fun x y v u hx hy hv hu => by
      obtain ⟨n, rfl⟩ := hx
      obtain ⟨m, rfl⟩ := hy
      rw [hv.int_inv, hu.int_inv]
      exact ⟨n == m, by simp [Instr.sameNow], by simp; exact eq_comm⟩) es ms 0 hes h with ⟨h1, h2⟩ | ⟨j, e, m, h1, h2⟩
    · exact .inl ⟨by simp [Instr.findKey, run_underlying hu, h1], h2⟩
    · exact .inr ⟨j, e, m, by simp [Instr.findKey, run_underlying hu, h1], h2⟩
  stays := fun φ own w x v v' hx hv hv' => by
    obtain ⟨n, rfl⟩ := hx
    rw [hv.int_inv, hv'.int_inv]
    have e : Instr.sameBits 10000 (.int .i64 n) (.int .i64 n) = true := by simp [Instr.sameBits]
    rw [Instr.keyThatStays, if_pos e]
    rfl

theorem keyS {k : Nat} (hu : P.underlying k = some .string) (hcheck : ∀ (w : World) (em : Bool) (n : ByteArray), (Instr.checkKey em 10000 k (.string n)).run P w = .ok () w) : KeyOk P k IsS where
  check := fun φ own w em x v hx hv => by
    obtain ⟨n, rfl⟩ := hx
    rw [hv.str_inv]
    exact hcheck w em _
  find := fun φ own w x v es ms hx hv hes h => by
    rcases findNow_at (d := .string) hx hv (fun x y v u hx hy hv hu => by
      obtain ⟨n, rfl⟩ := hx
      obtain ⟨m, rfl⟩ := hy
      rw [hv.str_inv, hu.str_inv]
      refine ⟨((⟨⟨n⟩⟩ : ByteArray) == ⟨⟨m⟩⟩), rfl, ?_⟩
      rw [Go.MapKept.bytes_beq]
      simp only [ByteArray.mk.injEq, Array.mk.injEq, AV.p.injEq, PV.str.injEq]
      exact eq_comm) es ms 0 hes h with ⟨h1, h2⟩ | ⟨j, e, m, h1, h2⟩
    · exact .inl ⟨by simp [Instr.findKey, run_underlying hu, h1], h2⟩
    · exact .inr ⟨j, e, m, by simp [Instr.findKey, run_underlying hu, h1], h2⟩
  stays := fun φ own w x v v' hx hv hv' => by
    obtain ⟨n, rfl⟩ := hx
    rw [hv.str_inv, hv'.str_inv]
    have e : Instr.sameBits 10000 (.string ⟨⟨n⟩⟩) (.string ⟨⟨n⟩⟩) = true := by simp [Instr.sameBits, Go.MapKept.bytes_beq]
    rw [Instr.keyThatStays, if_pos e]
    rfl

end
end Go.Am
/-
  A call that hands back a block of the caller's, under a new name.
-/
namespace Go.Am
open Go

section
variable {P : Program} {G : Globs} {f : Nat} {args : List AV}

theorem get_moved {s : Store} {b nx c : Nat} {x : ABlk} : get ((nx, some x) :: (b, none) :: s) c = if nx = c then some x else if b = c then none else get s c := by
  simp [get]

theorem own_moved {F : Nat → Prop} {φ : Places} {s : Store} {b nx : Nat} {x : ABlk} {p : Place} (hp : φ b = some p) (hn : get s nx = none) (β : Nat) :
    ownF F (putP φ nx p) ((nx, some x) :: (b, none) :: s) β ↔ ownF F φ ((b, some x) :: s) β := by
  constructor
  · rintro (h | ⟨c, y, q, h1, h2, rfl⟩)
    · exact .inl h
    · rw [get_moved] at h1
      by_cases e : nx = c
      · subst e
        rw [if_pos rfl] at h1
        cases h1
        rw [putP_same] at h2; cases h2
        exact .inr ⟨b, x, p, by simp [get], hp, rfl⟩
      · rw [if_neg e] at h1
        by_cases e2 : b = c
        · rw [if_pos e2] at h1; cases h1
        · rw [if_neg e2] at h1
          rw [putP_ne (Ne.symm e)] at h2
          exact .inr ⟨c, y, q, by rw [get_cons_ne e2]; exact h1, h2, rfl⟩
  · rintro (h | ⟨c, y, q, h1, h2, rfl⟩)
    · exact .inl h
    · by_cases e2 : b = c
      · subst e2
        rw [get_cons_same] at h1; cases h1
        rw [hp] at h2; cases h2
        exact .inr ⟨nx, x, p, by rw [get_moved, if_pos rfl], putP_same, rfl⟩
      · rw [get_cons_ne e2] at h1
        have e : nx ≠ c := by rintro rfl; rw [hn] at h1; cases h1
        exact .inr ⟨c, y, q, by rw [get_moved, if_neg e, if_neg e2]; exact h1, by rw [putP_ne (Ne.symm e)]; exact h2, rfl⟩

theorem SR.moved {F φ} {s : Store} {w : World} {b nx : Nat} {x : ABlk} {p : Place} (h : SR G F φ ((b, some x) :: s) w) (hp : φ b = some p) (hφ : φ nx = none) (hn : get s nx = none) (hne : b ≠ nx) :
    SR G F (putP φ nx p) ((nx, some x) :: (b, none) :: s) w := by
  have ho : ownF F (putP φ nx p) ((nx, some x) :: (b, none) :: s) = ownF F φ ((b, some x) :: s) := funext fun β => propext (own_moved hp hn β)
  have hst : Step (ownF F φ ((b, some x) :: s)) (ownF F (putP φ nx p) ((nx, some x) :: (b, none) :: s)) w w := by rw [ho]; exact Step.refl _ _
  have hle := putP_le (p := p) hφ
  have hold : ∀ c y, get ((nx, some x) :: (b, none) :: s) c = some y → nx ≠ c → get ((b, some x) :: s) c = some y ∧ b ≠ c := by
    intro c y hc e
    rw [get_moved, if_neg e] at hc
    by_cases e2 : b = c
    · rw [if_pos e2] at hc; cases hc
    · rw [if_neg e2] at hc; exact ⟨by rw [get_cons_ne e2]; exact hc, e2⟩
  have hb : get ((b, some x) :: s) b = some x := get_cons_same
  refine ⟨fun c y hc => ?_, fun c c' y y' q q' h1 h2 h3 h4 h5 => ?_, fun c y q h1 h2 => ?_, h.fsize, fun g k rows hg => ?_⟩
  · by_cases e : nx = c
    · subst e
      rw [get_moved, if_pos rfl] at hc; cases hc
      have := (h.blk b x hb).mono hle hst (fun _ _ => rfl)
      cases x with
      | cells k rows =>
        obtain ⟨β, δ, arr, T, k1, k2, k3⟩ := this
        rw [putP_ne hne, hp] at k1; cases k1
        exact ⟨β, δ, arr, T, putP_same, k2, k3⟩
      | map es =>
        obtain ⟨r, mes, cl, k1, k2, k3⟩ := this
        rw [putP_ne hne, hp] at k1; cases k1
        exact ⟨r, mes, cl, putP_same, k2, k3⟩
      | iter ks vs seen =>
        obtain ⟨r, mi, mes, cl, sn, ps, k1, k2, k3⟩ := this
        rw [putP_ne hne, hp] at k1; cases k1
        exact ⟨r, mi, mes, cl, sn, ps, putP_same, k2, k3⟩
      | loop i t j =>
        obtain ⟨tmps, D, k1, k2, k3⟩ := this
        rw [putP_ne hne, hp] at k1; cases k1
        exact ⟨tmps, D, putP_same, k2, k3⟩
    · exact (h.blk c y (hold c y hc e).1).mono hle hst (fun _ _ => rfl)
  · by_cases e : nx = c
    · subst e
      rw [putP_same] at h3; cases h3
      by_cases e' : nx = c'
      · exact e'
      · rw [putP_ne (Ne.symm e')] at h4
        obtain ⟨k1, k2⟩ := hold c' y' h2 e'
        exact (k2 (h.inj b c' x y' p q' hb k1 hp h4 h5)).elim
    · by_cases e' : nx = c'
      · subst e'
        rw [putP_same] at h4; cases h4
        rw [putP_ne (Ne.symm e)] at h3
        obtain ⟨k1, k2⟩ := hold c y h1 e
        exact (k2 (h.inj c b y x q p k1 hb h3 hp h5).symm).elim
      · rw [putP_ne (Ne.symm e)] at h3
        rw [putP_ne (Ne.symm e')] at h4
        exact h.inj c c' y y' q q' (hold c y h1 e).1 (hold c' y' h2 e').1 h3 h4 h5
  · by_cases e : nx = c
    · subst e
      rw [putP_same] at h2; cases h2
      exact h.disj b x p hb hp
    · rw [putP_ne (Ne.symm e)] at h2
      exact h.disj c y q (hold c y h1 e).1 h2
  · obtain ⟨k1, k2, k3⟩ := h.glob g k rows hg
    exact ⟨k1, fun q => k2 (Eq.mp (congrFun ho g) q), k3.mono hst k1 k2⟩

theorem Gives.moved {s : Store} {nx : Nat} {b k i n : Nat} {c : Option Nat} {x : ABlk} {rd : List Nat} {up : Store} (h : Gives P G f args s nx (.ref b k i n c) rd ((b, some x) :: up) nx) (hne : b < nx) :
    Gives P G f args s nx (.ref nx k i n c) rd ((nx, some x) :: (b, none) :: up) (nx + 1) := by
  refine ⟨Nat.le_succ _, fun F φ s1 w vs hag hs hfr hl hv => ?_⟩
  refine (h.calls F φ s1 w vs hag hs (fun c h1 h2 => by omega) hl hv).mono ?_
  rintro v' w' ⟨φ', h1, h2, h3, h4, h5⟩
  have hφ : φ' nx = none := by rw [h2 nx (.inr (Nat.le_refl _))]; exact hfr nx (Nat.le_refl _) (Nat.lt_succ_self _)
  have hnone : get (up ++ s1) nx = none := by
    have := h3.get_none hφ
    rw [List.cons_append, get_cons_ne (by omega)] at this
    exact this
  obtain ⟨p, hp, _⟩ := (h3.blk b x get_cons_same).place
  have ho : ∀ F : Nat → Prop, ownF F (putP φ' nx p) ((nx, some x) :: (b, none) :: (up ++ s1)) = ownF F φ' ((b, some x) :: (up ++ s1)) := fun F => funext fun β => propext (own_moved hp hnone β)
  refine ⟨putP φ' nx p, fun c q hc => putP_le hφ c q (h1 c q hc), fun c hc => ?_, h3.moved hp hφ hnone (by omega), ?_, fun F' => ?_⟩
  · have e : c ≠ nx := by omega
    rw [putP_ne e]
    exact h2 c (by omega)
  · cases h4 with
    | ref b k i n c β δ cap hφb hc hn room =>
      rw [hp] at hφb; cases hφb
      exact .ref nx k i n c β δ cap putP_same hc hn room
  · have := h5 F'
    simp only [List.cons_append] at this ⊢
    rw [ho F']
    exact this

end
end Go.Am
/-
  Footprints under new names.
-/
namespace Go.Am
open Go

def swp (a b n : Nat) : Nat := if n = a then b else if n = b then a else n
theorem swp_inj {a b x y : Nat} (h : swp a b x = swp a b y) : x = y := by
  unfold swp at h
  grind

def renF (r : Nat → Nat) (f : List Nat × List Nat) : List Nat × List Nat := (f.1.map r, f.2.map r)

theorem contains_ren {r : Nat → Nat} (hr : ∀ x y, r x = r y → x = y) {l : List Nat} {b : Nat} : (l.map r).contains (r b) = l.contains b := by
  rw [Bool.eq_iff_iff]
  simp only [List.contains_iff_mem, List.mem_map]
  constructor
  · rintro ⟨x, hx, e⟩; rw [← hr _ _ e]; exact hx
  · intro h; exact ⟨b, h, rfl⟩

theorem footB_ren {r : Nat → Nat} (hr : ∀ x y, r x = r y → x = y) {f g : List Nat × List Nat} : footB (renF r f) (renF r g) = footB f g := by
  simp only [footB, renF, List.all_map]
  congr 1
  · congr 1
    funext b
    simp only [Function.comp_apply, contains_ren hr]
  · congr 1
    funext b
    simp only [Function.comp_apply, contains_ren hr]

theorem discB_ren {r : Nat → Nat} (hr : ∀ x y, r x = r y → x = y) {ops : Array Oper} {cl : List (List Nat)} {fps : List (List Nat × List Nat)} : discB ops cl (fps.map (renF r)) = discB ops cl fps := by
  have e : ∀ i : Nat, (((fps.map (renF r))[i]?).getD ([], [])) = renF r ((fps[i]?).getD ([], [])) := by
    intro i
    rw [List.getElem?_map]
    cases fps[i]? <;> rfl
  simp only [discB, e, footB_ren hr]

theorem Bears.swap {fps fps' : Fps} {ops : Cont (Array Oper)} (a b : Nat) (e : fps = fps'.map (renF (swp a b))) (h : drawB ops.k fps' = true) : @Bears fps ops := by
  subst e
  unfold Bears
  simp only [drawB, Bool.and_eq_true] at h ⊢
  exact ⟨h.1, by rw [discB_ren (fun x y => swp_inj)]; exact h.2⟩

theorem blksOk_append {ρ : List Nat} {s' : Store} : ∀ {a b : Store}, blksOk ρ s' a → blksOk ρ s' b → blksOk ρ s' (a ++ b)
  | [], _, _, h => h
  | (_, _) :: _, _, h, k => ⟨h.1, blksOk_append h.2 k⟩

theorem renR_of {ρ : List Nat} : ∀ {rows rows' : List (List AV)}, rows'.length = rows.length → (∀ (i : Nat) row, rows[i]? = some row → ∃ row', rows'[i]? = some row' ∧ renL ρ row = some row') → renR ρ rows = some rows'
  | [], [], _, _ => rfl
  | [], _ :: _, h, _ => by simp at h
  | _ :: _, [], h, _ => by simp at h
  | r :: rows, r' :: rows', hl, h => by
    obtain ⟨q, e1, e2⟩ := h 0 r rfl
    simp at e1; subst e1
    have := renR_of (rows := rows) (rows' := rows') (by simpa using hl) fun i row hr => h (i + 1) row (by simpa using hr)
    simp [renR, e2, this]

theorem wknR_of : ∀ {rows rows' : List (List AV)}, rows'.length = rows.length → (∀ (i : Nat) row, rows[i]? = some row → ∃ row', rows'[i]? = some row' ∧ wknL row row') → wknR rows rows'
  | [], [], _, _ => by simp [wknR]
  | [], _ :: _, h, _ => by simp at h
  | _ :: _, [], h, _ => by simp at h
  | r :: rows, r' :: rows', hl, h => by
    obtain ⟨q, e1, e2⟩ := h 0 r rfl
    simp at e1; subst e1
    have := wknR_of (rows := rows) (rows' := rows') (by simpa using hl) fun i row hr => h (i + 1) row (by simpa using hr)
    simp only [wknR]
    exact ⟨e2, this⟩

def netNames (O N k m : Nat) : List Nat := [0, 1, 2, 3, O] ++ (List.range m).map fun j => if j = k then N else 5 + j
theorem netNames_lo {O N k m b : Nat} (h : b < 4) : (netNames O N k m)[b]? = some b := by
  match b, h with
  | 0, _ => rfl
  | 1, _ => rfl
  | 2, _ => rfl
  | 3, _ => rfl
theorem netNames_four {O N k m : Nat} : (netNames O N k m)[4]? = some O := rfl
theorem netNames_at {O N k m j : Nat} (h : j < m) : (netNames O N k m)[5 + j]? = some (if j = k then N else 5 + j) := by
  unfold netNames
  rw [List.getElem?_append_right (by simp)]
  simp [h]
theorem netNames_len {O N k m : Nat} : (netNames O N k m).length = 5 + m := by simp [netNames]; omega
theorem netNames_nodup {O N k m : Nat} (hO : O = 4 ∨ 1000 < O) (hN : 1000 < N) (hON : O ≠ N) (hm : m ≤ 900) : (netNames O N k m).Nodup := by
  unfold netNames
  rw [List.nodup_append]
  refine ⟨?_, ?_, ?_⟩
  · simp
    omega
  · rw [List.nodup_iff_pairwise_ne, List.pairwise_map]
    refine List.Pairwise.imp_of_mem (fun {a b} ha hb hab => ?_) (List.nodup_iff_pairwise_ne.1 List.nodup_range)
    simp at ha hb
    split <;> split <;> omega
  · intro a ha b hb
    simp at ha hb
    obtain ⟨j, hj, rfl⟩ := hb
    split <;> omega

def XEndZ (P : Program) (rs : List ResultVar) (r : AV) (e : Exit) (st : St) : Prop := (e = .ret ∨ e = .normal) ∧ ∃ vs, resA P st rs vs ∧ FrzA st.s (fun _ => True) (resV vs) r
theorem Pure.of_walkZ {P : Program} {G : Globs} {N f : Nat} {fn : Func} {c : Code} {args : List AV} {r : AV} (hf : P.funcs[f]? = some fn) (hb : fn.body = some c) (hname : (fn.name == "runtime.NumGoroutine") = false) (hN : fn.ntmps = N) (hargs : args.length ≤ N) (hp : pureL args = true)
    (h : @xc P G N 0 ⟨c⟩ (argSlots 0 args) [] 0 ⟨XEndZ P fn.results.toList r⟩) : Pure P G f args r :=
  Pure.of_body hf hb hname hN hargs hp ((xc_sound h).mono fun _ _ h => h)

end Go.Am
/-
  Blocks that are seen as pure from a place on: what a loop's next round may forget to own. Conditions: none.
-/
namespace Go.Am
open Go

structure Leads (G : Globs) (N n0 : Nat) (st' st : St) : Prop where
  run : ∀ [Base] (F : Nat → Prop) (φ : Places) (a : Act) (w : World), Rel G N n0 F st' φ a w →
  ∃ φ', Rel G N n0 F st φ' a w ∧ (∀ b, b < n0 → φ' b = φ b) ∧ ∀ F' : Nat → Prop, Step (ownF F' φ st'.s) (ownF F' φ' st.s) w w

theorem Leads.of_sub {G N n0} {st' st : St} {ρ : List Nat} (h : Sub ρ n0 st' st) : Leads G N n0 st' st := ⟨fun _ _ _ _ hr => ⟨_, hr.sub h⟩⟩
theorem Leads.trans {G N n0} {a b c : St} (h : Leads G N n0 a b) (k : Leads G N n0 b c) : Leads G N n0 a c := .mk fun F φ x w hr => by
  obtain ⟨φ1, h1, h2, h3⟩ := h.run F φ x w hr
  obtain ⟨φ2, k1, k2, k3⟩ := k.run F φ1 x w h1
  exact ⟨φ2, k1, fun b hb => (k2 b hb).trans (h2 b hb), fun F' => (h3 F').trans (k3 F')⟩

def FrzB (s : Store) (B : List Nat) (y x : ABlk) : Prop := y = x ∨ ∃ k rows rows', y = .cells k rows ∧ x = .cells k rows' ∧
  ∀ (i j : Nat) row' x', rows'[i]? = some row' → row'[j]? = some x' → ∃ row z, rows[i]? = some row ∧ row[j]? = some z ∧ FrzK s (· ∈ B) z x'

structure Freeze (B : List Nat) (st' st : St) : Prop where
  nx : st.nx = st'.nx
  slots : ∀ d, FrzK st'.s (· ∈ B) (slot st'.t d) (slot st.t d)
  blocks : ∀ b x, get st.s b = some x → b ∉ B ∧ ∃ y, get st'.s b = some y ∧ FrzB st'.s B y x

theorem Freeze.leads {G N n0} {B : List Nat} {st' st : St} (h : Freeze B st' st) : Leads G N n0 st' st := .mk fun F φ a w hr => by
  have hsub : ∀ (F' : Nat → Prop) β, ownF F' φ st.s β → ownF F' φ st'.s β := by
    rintro F' β (hF | ⟨b, x, p, h1, h2, rfl⟩)
    · exact .inl hF
    · obtain ⟨_, y, e, _⟩ := h.blocks b x h1
      exact .inr ⟨b, y, p, e, h2, rfl⟩
  have hstF : ∀ F' : Nat → Prop, Step (ownF F' φ st'.s) (ownF F' φ st.s) w w := fun F' => ⟨fun β _ hn => ⟨rfl, fun h' => hn (hsub F' β h')⟩, Nat.le_refl _, fun _ arr _ h => ⟨arr, h, rfl⟩, rfl, rfl, rfl⟩
  have hh : Hides F φ st'.s (· ∈ B) (ownF F φ st.s) := by
    refine ⟨hsub F, fun b x p hB h1 h2 h3 => ?_⟩
    rcases h3 with h3 | ⟨c, y, q, k1, k2, k3⟩
    · exact hr.sr.disj b x p h1 h2 h3
    · obtain ⟨hc, z, k4, _⟩ := h.blocks c y k1
      have := hr.sr.inj c b z x q p k4 h1 k2 h2 k3
      subst this
      exact hc hB
  refine ⟨φ, ⟨⟨?_, ?_, ?_, hr.sr.fsize, ?_⟩, ?_, ?_, ⟨hr.tr.size, ?_⟩, hr.side.mono (hstF _) rfl⟩, fun _ _ => rfl, hstF⟩
  · intro b x hx
    obtain ⟨_, y, e, hf⟩ := h.blocks b x hx
    have hb := hr.sr.blk b y e
    rcases hf with rfl | ⟨k, rows, rows', rfl, rfl, hc⟩
    · exact hb.mono (fun _ _ h => h) (hstF F) (fun _ _ => rfl)
    · obtain ⟨β, δ, arr, T, e1, e2, e3⟩ := hb
      refine ⟨β, δ, arr, T, e1, e2, fun i j row x hrow hx => ?_⟩
      obtain ⟨row0, z, g1, g2, g3⟩ := hc i j row x hrow hx
      obtain ⟨hj, v, hv, hz⟩ := e3 i j row0 z g1 g2
      exact ⟨hj, v, hv, VR.frzK hr.sr hh hz g3⟩
  · intro b c x z p p' h1 h2 h3 h4 h5
    obtain ⟨_, y, e, _⟩ := h.blocks b x h1
    obtain ⟨_, y', e', _⟩ := h.blocks c z h2
    exact hr.sr.inj b c y y' p p' e e' h3 h4 h5
  · intro b x p h1 h2
    obtain ⟨_, y, e, _⟩ := h.blocks b x h1
    exact hr.sr.disj b y p e h2
  · intro g k rows hg
    obtain ⟨h1, h2, h3⟩ := hr.sr.glob g k rows hg
    exact ⟨h1, fun h' => h2 (hsub F g h'), h3.mono (hstF F) h1 h2⟩
  · intro b hb
    exact hr.fresh b (by rw [← h.nx]; exact hb)
  · rw [h.nx]; exact hr.base
  · intro d
    exact VR.frzK hr.sr hh (hr.tr.slots d) (h.slots d)

section
variable {P : Program} {G : Globs} {N n0 : Nat}

theorem AEv.leads {c : Code} {st st' : St} {Q : Exit → St → Prop} (hs : Leads G N n0 st' st) (h : AEv P G N n0 c st Q) : AEv P G N n0 c st' Q :=
  .mk fun F φ a w hr => by
    obtain ⟨φ', h1, h2, h3⟩ := hs.run F φ a w hr
    exact wpIn_mono (h.run F φ' a w h1) fun e a' w' ha => After.trans h2 h3 ha

theorem ALoop.introL {γ : Type} {c : Code} {st : St} {Q : Exit → St → Prop} (S : γ → St) (I : γ → Prop) (μ : γ → Nat) (g0 : γ) (hi : I g0) (h0 : Leads G N n0 st (S g0))
    (round : ∀ g, I g → AEv P G N n0 c (S g) (thenQ (fun st' => ∃ g', I g' ∧ μ g' < μ g ∧ Leads G N n0 st' (S g')) Q)) : ALoop P G N n0 c st Q := by
  refine ⟨fun F φ a w hr => ?_⟩
  let J (g : γ) (a' : Act) (w' : World) : Prop := I g ∧ ∃ φ', Rel G N n0 F (S g) φ' a' w' ∧ (∀ b, b < n0 → φ' b = φ b) ∧ ∀ F' : Nat → Prop, Step (ownF F' φ st.s) (ownF F' φ' (S g).s) w w'
  let M (a' : Act) (w' : World) (n : Nat) : Prop := ∃ g, μ g = n ∧ J g a' w'
  let m (a' : Act) (w' : World) : Nat := open Classical in if h : ∃ n, M a' w' n then Classical.choose (exists_least _ h) else 0
  have hm : ∀ a' w' g, J g a' w' → m a' w' ≤ μ g := fun a' w' g hg => by
    have hex : ∃ n, M a' w' n := ⟨_, g, rfl, hg⟩
    simp only [m, dif_pos hex]
    exact (Classical.choose_spec (exists_least _ hex)).2 _ ⟨g, rfl, hg⟩
  refine wpIn_loop (fun a' w' => ∃ g, J g a' w') m ?_ ?_
  · obtain ⟨φ0, h1, h2, h3⟩ := h0.run F φ a w hr
    exact ⟨g0, hi, _, h1, h2, h3⟩
  · intro a1 w1 hex
    have hexn : ∃ n, M a1 w1 n := let ⟨g, hg⟩ := hex; ⟨_, g, rfl, hg⟩
    have hmin : m a1 w1 = Classical.choose (exists_least _ hexn) := by simp only [m, dif_pos hexn]
    obtain ⟨g, hgm, hJ⟩ := (Classical.choose_spec (exists_least _ hexn)).1
    obtain ⟨hI, φ1, hr1, hb1, hs1⟩ := id hJ
    refine wpIn_mono ((round g hI).run F φ1 a1 w1 hr1) fun e a2 w2 ha => ?_
    have ha := After.trans (st := st) hb1 hs1 ha
    cases e with
    | normal =>
      obtain ⟨st', φ', ⟨g', hI', hlt, hsub⟩, hr', hb', hs'⟩ := ha
      obtain ⟨φ'', k1, k2, k3⟩ := hsub.run F φ' a2 w2 hr'
      have hJ' : J g' a2 w2 := ⟨hI', _, k1, fun b hb => (k2 b hb).trans (hb' b hb), fun F' => (hs' F').trans (k3 F')⟩
      refine ⟨⟨g', hJ'⟩, ?_⟩
      rw [hmin, ← hgm]
      exact Nat.lt_of_le_of_lt (hm a2 w2 g' hJ') hlt
    | _ => exact ha


theorem XLoop.goL {γ : Type} {c : Cont Code} {st : St} {Q : Cont KQ} (S : γ → St) (I : γ → Prop) (μ : γ → Nat) (g0 : γ) (hi : I g0) (h0 : Leads G N n0 st (S g0))
    (round : ∀ g, I g → @xc P G N n0 c (S g).t (S g).s (S g).nx ⟨fun x st' => @xthen x st' ⟨fun st' => ∃ g', I g' ∧ μ g' < μ g ∧ Leads G N n0 st' (S g')⟩ Q⟩) : @XLoop P G N n0 c st Q :=
  ALoop.introL S I μ g0 hi h0 fun g hg => (vc_sound _ _ _ (round g hg)).mono fun x st' h => by
    cases x with
    | normal => exact h
    | _ => exact h


theorem slot_append (us t : Slots) (d : Nat) : (∃ p ∈ us, p.1 = d ∧ slot (us ++ t) d = p.2) ∨ ((∀ p ∈ us, p.1 ≠ d) ∧ slot (us ++ t) d = slot t d) := by
  induction us with
  | nil => exact .inr ⟨by simp, rfl⟩
  | cons p us ih =>
    obtain ⟨e, x⟩ := p
    by_cases h : e = d
    · exact .inl ⟨(e, x), by simp, h, by simp [slot, h]⟩
    · rcases ih with ⟨p, hp, h1, h2⟩ | ⟨h1, h2⟩
      · exact .inl ⟨p, by simp [hp], h1, by simp [slot, h, h2]⟩
      · refine .inr ⟨fun p hp => ?_, by simp [slot, h, h2]⟩
        rcases List.mem_cons.1 hp with rfl | hp
        · exact h
        · exact h1 p hp

theorem Freeze.of {B : List Nat} {st' : St} (us : Slots) (ups : Store) (hu : ∀ p ∈ us, FrzK st'.s (· ∈ B) (slot st'.t p.1) p.2)
    (hb : ∀ p ∈ ups, ∀ x, p.2 = some x → p.1 ∉ B ∧ ∃ y, get st'.s p.1 = some y ∧ FrzB st'.s B y x) (hB : ∀ b ∈ B, b ∈ keys ups) : Freeze B st' ⟨us ++ st'.t, ups ++ st'.s, st'.nx⟩ where
  nx := rfl
  slots d := by
    show FrzK _ _ _ (slot (us ++ st'.t) d)
    rcases slot_append us st'.t d with ⟨p, hp, rfl, h2⟩ | ⟨_, h2⟩
    · rw [h2]; exact hu p hp
    · rw [h2]; exact .keep _
  blocks b x hx := by
    have hx2 : get (ups ++ st'.s) b = some x := hx
    rw [get_append] at hx2
    split at hx2
    · have := get_mem hx2
      exact hb (b, some x) this x rfl
    · rename_i hk
      exact ⟨fun h => hk (hB b h), x, hx2, .inl rfl⟩

theorem Leads.frz_sub {B : List Nat} {st' st : St} {ρ : List Nat} (us : Slots) (ups : Store) (hf : Freeze B st' ⟨us ++ st'.t, ups ++ st'.s, st'.nx⟩) (hs : SubX ρ n0 ⟨us ++ st'.t, ups ++ st'.s, st'.nx⟩ st) : Leads G N n0 st' st :=
  hf.leads.trans (.of_sub hs.sub)
theorem Leads.subx {st' st : St} {ρ : List Nat} (hs : SubX ρ n0 st' st) : Leads G N n0 st' st := .of_sub hs.sub

end
end Go.Am
