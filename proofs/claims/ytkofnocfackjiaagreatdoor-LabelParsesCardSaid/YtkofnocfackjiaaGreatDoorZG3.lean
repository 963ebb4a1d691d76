/- Lemmas and contracts for the proof of a statement of this seat. -/
import Derived.Test.YtkofnocfackjiaaGreatDoorZF8
import Derived.Laws.RangeAny
import Derived.WalkSpells
import Derived.Lib.OthersKept
import Derived.Lib.IndexLaws
import Derived.Shelf.Small.Utf8
import Derived.Laws.Runes
import Derived.WalkMore
set_option linter.unusedVariables false
set_option linter.unusedSimpArgs false
/- Contracts of the library: strings.IndexAny of short texts that are not ASCII; chapter 26. -/
namespace Go.Am
open Go Go.Proofs Go.Shelf Go.RowKit Go.Lib Go.Pn
variable {P : Program} {ρ : Ren}

theorem enc_high {r : Int} (h : 128 ≤ r) : ∃ (n : Nat) (b : UInt8), (Utf8.encode r).size = n + 2 ∧ (Utf8.encode r).data.toList[n + 1]? = some b ∧ 128 ≤ b.toNat ∧ n ≤ 2 := by
  have key : ∀ c : Nat, 128 ≤ (UInt8.ofNat (0x80 + c % 64)).toNat := fun c => by
    rw [UInt8.toNat_ofNat']
    omega
  have hc : 128 ≤ (if Utf8.valid r then r.toNat else Utf8.runeError) := by
    split
    · omega
    · decide
  unfold Utf8.encode
  generalize (if Utf8.valid r then r.toNat else Utf8.runeError) = c at hc
  simp only
  rw [if_neg (by omega)]
  split
  · exact ⟨0, _, rfl, rfl, key c, by omega⟩
  · split
    · exact ⟨1, _, rfl, rfl, key c, by omega⟩
    · exact ⟨2, _, rfl, rfl, key c, by omega⟩

theorem run_index_of {t : TypeId} {s : ByteArray} {i : Int} {j : Nat} {x : UInt8} (w : World) (ht : P.underlying t = some .string) (hi : i = (j : Int)) (hx : s.data.toList[j]? = some x) :
    (Instr.index t (.string s) (.int .i64 i)).run P w = .ok (.int .u8 x.toNat) w := by
  subst hi
  obtain ⟨h1, h2⟩ := List.getElem?_eq_some_iff.1 hx
  have h3 : j < s.size := by rw [Lib.size_eq]; exact h1
  rw [run_index_string w _ _ _ _ ht, dif_pos ⟨by omega, by omega⟩]
  simp only [Int.toNat_natCast]
  have : s[j]'h3 = x := by rw [← h2]; rfl
  rw [this]

theorem indexByte_not {l : List UInt8} {b : UInt8} (h : ∀ c ∈ l, c ≠ b) : Lib.indexByte l b = -1 := by
  induction l with
  | nil => rfl
  | cons c l ih =>
    rw [Lib.indexByte, if_neg (by simpa using h c (List.mem_cons_self ..)), if_pos (by rw [ih fun c hc => h c (List.mem_cons_of_mem _ hc)]; rfl)]

set_option maxHeartbeats 4000000 in
set_option maxRecDepth 1000000 in
theorem own_IndexRune_high (L : Lays.n152 P ρ) (s : ByteArray) (r : Int) (w : World) (hs : s.size < 1000) (has : ∀ (j : Nat) b, s.data.toList[j]? = some b → b.toNat < 128) (h0 : 128 ≤ r) (h1 : r ≤ 2147483647) (hne : r ≠ 65533) :
    Calls P (ρ.f 152) #[.string s, .int .i32 r] w fun e w' => e = .returned (.int .i64 (-1)) ∧ Below w.heap.size w w' := by
  have t3 := L.t3; have a3 := L.a3; have z3 := L.z3; have v3 := L.v3
  have t4 := L.t4; have a4 := L.a4; have z4 := L.z4; have v4 := L.v4
  have t5 := L.t5; have a5 := L.a5; have z5 := L.z5; have v5 := L.v5
  have t9 := L.t9; have a9 := L.a9; have z9 := L.z9; have v9 := L.v9
  have t21 := L.t21; have a21 := L.a21; have z21 := L.z21; have v21 := L.v21
  have e137 : ∀ args w, (callFunc (ρ.f 137) args).run P w = .ok (.enter (ρ.f 137) args) w := enters_of L.f137 (by kernel_rfl) rfl
  have e119 : ∀ args w, (callFunc (ρ.f 119) args).run P w = .ok (.enter (ρ.f 119) args) w := enters_of L.f119 (by kernel_rfl) rfl
  have d1 : decide (r < 128) = false := decide_eq_false (by omega)
  have d2 : decide ((0 : Int) ≤ r) = true := decide_eq_true (by omega)
  have d3 : (r == 65533) = false := beq_eq_false_iff_ne.2 hne
  obtain ⟨n, b, n1, n2, n3, n4⟩ := enc_high h0
  cases hv : Lib.validRune r with
  | false =>
    go_enter L.f152, Body.n152_ntmps ρ
    go_wp2_with (go_at_fn (ρ.f 119); refine (Any.utf8_ValidRune { L with } _ _).mono ?_; rintro e w' ⟨rfl, hw⟩; rw [hw, hv])
    go_ret
    exact ⟨rfl, Below.refl _ _⟩
  | true =>
    go_enter L.f152, Body.n152_ntmps ρ
    go_wp2_with (go_at_fn (ρ.f 119); refine (Any.utf8_ValidRune { L with } _ _).mono ?_; rintro e w' ⟨rfl, hw⟩; rw [hw, hv])
    have mixed := L.mixed
    go_step3
    go_wp2
    by_cases hn : (n : Int) + 1 < s.size
    · go_loopg [9] 1 (fun g v9 wx => v9 = .int .i64 ((n : Int) + 2 - 1) ∧ wx = w)
      case atStart => exact ⟨rfl, rfl⟩
      case round =>
        obtain ⟨rfl, rfl⟩ := hrel
        have c1 : decide ((n : Int) + 2 - 1 < s.size) = true := decide_eq_true (by omega)
        obtain ⟨x, hx⟩ : ∃ x : UInt8, s.data.toList[n + 1]? = some x := ⟨_, List.getElem?_eq_getElem (by rw [← Lib.size_eq]; omega)⟩
        have hx1 := has (n + 1) x hx
        go_wp2
        go_step3
        have ri : ∀ w, (Instr.index (ρ.t 9) (.string s) (.int .i64 ((n : Int) + 2 - 1))).run P w = .ok (.int .u8 x.toNat) w := fun w => run_index_of w t9 (j := n + 1) (by omega) hx
        have re : ∀ w, (Instr.index (ρ.t 9) (.string (Utf8.encode r)) (.int .i64 ((n : Int) + 2 - 1))).run P w = .ok (.int .u8 b.toNat) w := fun w => run_index_of w t9 (j := n + 1) (by omega) n2
        have rs : ∀ w, (Instr.slice (ρ.t 9) (.string s) (some (.int .i64 ((n : Int) + 2))) none none).run P w = .ok (.string (s.extract (n + 2) s.size)) w := fun w => by
          rw [run_slice_string_from_if w _ _ _ _ t9, if_pos (by omega)]
          rfl
        have hb : (((x.toNat : Int)) == ((b.toNat : Int))) = false := beq_eq_false_iff_ne.2 (by omega)
        have hbb : ((b.toNat : Int)).toNat.toUInt8 = b := by simp
        have hnone : Lib.indexByte (List.take (s.size - (n + 2)) (List.drop (n + 2) s.data.toList)) b = -1 := indexByte_not fun c hc e => by
          obtain ⟨j, hj⟩ := List.mem_iff_getElem?.1 (List.mem_of_mem_drop (List.mem_of_mem_take hc))
          have := has j c hj
          rw [e] at this
          omega
        have hw2 : IntKind.i64.wrap ((n : Int) + 2) = (n : Int) + 2 := wrap_i64 (by omega) (by omega)
        go_wp2
        go_quiet_o (fail)
        go_wp2
        have hal : Aside (Below wr.heap.size wr (wr.drewN nq)) := ⟨rfl, rfl, rfl, Nat.le_refl _, fun _ _ => rfl⟩
        generalize wr.drewN nq = wq at hal ⊢
        go_quiet_o ((go_at_fn (ρ.f 137); go_must (refine Calls.quiet_of_same (Any.strings_IndexByte { L with } _ _ _))))
        go_wp2
        show bodyPost P (Body.n152 ρ) (fun e w' => e = .returned (.int .i64 (-1)) ∧ Below wr.heap.size wr w') .ret _ _
        go_ret
        exact ⟨rfl, hal.out.trans ⟨rfl, rfl, rfl, Nat.le_refl _, fun _ _ => rfl⟩⟩
    · have c1 : decide ((n : Int) + 2 - 1 < s.size) = false := decide_eq_false (by omega)
      go_loopg [9] 1 (fun g v9 wx => v9 = .int .i64 ((n : Int) + 2 - 1) ∧ wx = w)
      case atStart => exact ⟨rfl, rfl⟩
      case round =>
        obtain ⟨rfl, rfl⟩ := hrel
        go_wp2
        go_ret
        exact ⟨rfl, Below.refl _ _⟩

set_option maxHeartbeats 4000000 in
set_option maxRecDepth 1000000 in
theorem own_IndexRune_err (L : Lays.n152 P ρ) (s : ByteArray) (w : World) (has : ∀ (j : Nat) b, s.data.toList[j]? = some b → b.toNat < 128) :
    Calls P (ρ.f 152) #[.string s, .int .i32 65533] w fun e w' => e = .returned (.int .i64 (-1)) ∧ ∃ pos, w' = w.iter s pos := by
  have HA : Aside (∀ (j : Nat) b, s.data.toList[j]? = some b → b.toNat < 128) := has
  clear has
  have t3 := L.t3; have a3 := L.a3; have z3 := L.z3; have v3 := L.v3
  have t4 := L.t4; have a4 := L.a4; have z4 := L.z4; have v4 := L.v4
  have t5 := L.t5; have a5 := L.a5; have z5 := L.z5; have v5 := L.v5
  have t9 := L.t9; have a9 := L.a9; have z9 := L.z9; have v9 := L.v9
  have t21 := L.t21; have a21 := L.a21; have z21 := L.z21; have v21 := L.v21
  have d1 : decide ((65533 : Int) < 128) = false := rfl
  go_enter L.f152, Body.n152_ntmps ρ
  go_wp2
  go_loopg [5, 6] s.size (fun g _ _ wx => ∃ i : Nat, i + g = s.size ∧ wx = w.iter s i)
  case atStart => exact ⟨0, by omega, rfl⟩
  case round =>
    obtain ⟨i, hig, rfl⟩ := hrel
    cases gk with
    | zero =>
      obtain rfl : i = s.size := by omega
      have hnx := run_next_end (P := P) w s s.size
      go_wp2
      go_ret
      exact ⟨rfl, _, rfl⟩
    | succ g =>
      have hi : i < s.size := by omega
      obtain ⟨x, hx⟩ : ∃ x : UInt8, s[i]'hi = x := ⟨_, rfl⟩
      have hxl : s.data.toList[i]? = some x := by rw [← hx]; exact Lib.data_getElem? s i hi
      have hx128 : x.toNat < 128 := HA.out i x hxl
      have hnx := fun ty => run_next_ascii (P := P) w s i ty hi (by rw [hx]; exact hx128)
      rw [hx] at hnx
      clear hxl hx
      have hne : ((x.toNat : Int) == 65533) = false := beq_eq_false_iff_ne.2 (by omega)
      go_wp2
      go_roundg g
      case measure => omega
      case rel => exact ⟨i + 1, by omega, rfl⟩
theorem own_IndexRune (L : Lays.n152 P ρ) (s : ByteArray) (r : Int) (w : World) (hs : s.size < 1000) (has : ∀ (j : Nat) b, s.data.toList[j]? = some b → b.toNat < 128) (h0 : 128 ≤ r) (h1 : r ≤ 2147483647) :
    Calls P (ρ.f 152) #[.string s, .int .i32 r] w fun e w' => e = .returned (.int .i64 (-1)) ∧ Below w.heap.size w w' := by
  by_cases e : r = 65533
  · subst e
    refine (own_IndexRune_err L s w has).mono ?_
    rintro e w' ⟨rfl, p, rfl⟩
    exact ⟨rfl, (Below.refl _ _).alloc (Nat.le_refl _) _⟩
  · exact own_IndexRune_high L s r w hs has h0 h1 e

theorem decode_in (s : ByteArray) (pos : Nat) (h : pos < s.size) : pos + (Utf8.decode s pos).2 ≤ s.size ∧ ∀ k, 1 ≤ k → k < (Utf8.decode s pos).2 → 128 ≤ (s.get! (pos + k)).toNat := by
  have ht : ∀ k, ((s.get! (pos + k)).toNat / 64 == 2) = true → 128 ≤ (s.get! (pos + k)).toNat := fun k hk => by
    have := beq_iff_eq.1 hk
    omega
  have e3 : ∀ {k n : Nat}, 1 ≤ k → k < n → n ≤ 4 → k = 1 ∨ (k = 2 ∧ 3 ≤ n) ∨ (k = 3 ∧ n = 4) := by omega
  simp only [Utf8.decode]
  repeat' split
  all_goals simp only [Bool.and_eq_true, decide_eq_true_eq] at *
  all_goals refine ⟨by omega, fun k k1 k2 => ?_⟩
  all_goals try omega
  all_goals rcases e3 k1 k2 (by decide) with rfl | ⟨rfl, k3⟩ | ⟨rfl, k3⟩
  all_goals first | (exfalso; omega) | (apply ht; simp_all)
set_option maxHeartbeats 8000000 in
set_option maxRecDepth 1000000 in
theorem own_IndexAny (L : Lays.n153 P ρ) (s chars : ByteArray) (w : World) (h2 : 2 ≤ chars.size) (h3 : chars.size < 1000) (h8 : s.size ≤ 8) (hac : ∀ (j : Nat) b, chars.data.toList[j]? = some b → b.toNat < 128) :
    Calls P (ρ.f 153) #[.string s, .string chars] w fun e w' => e = .returned (.int .i64 (Lib.indexAny s.data.toList chars.data.toList)) ∧ Below w.heap.size w w' := by
  have HC : Aside (∀ (j : Nat) b, chars.data.toList[j]? = some b → b.toNat < 128) := hac
  clear hac
  have hemp : chars.toList.isEmpty = false := by
    rw [Lib.toList_data]
    cases h : chars.data.toList with
    | nil => have := Lib.size_eq chars; rw [h, List.length_nil] at this; omega
    | cons _ _ => rfl
  have hn1 : ((chars.size : Int) == 1) = false := beq_eq_false_iff_ne.2 (by omega)
  have h8z : decide ((8 : Int) < (s.size : Int)) = false := decide_eq_false (by omega)
  have t3 := L.t3; have a3 := L.a3; have z3 := L.z3; have v3 := L.v3
  have t4 := L.t4; have a4 := L.a4; have z4 := L.z4; have v4 := L.v4
  have t5 := L.t5; have a5 := L.a5; have z5 := L.z5; have v5 := L.v5
  have t9 := L.t9; have a9 := L.a9; have z9 := L.z9; have v9 := L.v9
  have t21 := L.t21; have a21 := L.a21; have z21 := L.z21; have v21 := L.v21
  have e152 : ∀ args w, (callFunc (ρ.f 152) args).run P w = .ok (.enter (ρ.f 152) args) w := enters_of L.f152 (by kernel_rfl) rfl
  have e226 : ∀ args w, (callFunc (ρ.f 226) args).run P w = .ok (.enter (ρ.f 226) args) w := enters_of L.f226 (by kernel_rfl) rfl
  go_enter L.f153, Body.n153_ntmps ρ
  go_wp2_with (go_at_fn (ρ.f 226); refine (Any.strings_shouldUseASCIISet { L with } _ _).mono ?_; rintro e w' ⟨rfl, hw⟩; rw [hw, h8z])
  go_loopg [9, 10] s.size (fun g _ _ wx => ∃ i : Nat, i ≤ s.size ∧ s.size - i ≤ g ∧ wx.heap[w.heap.size]? = some (.stringIter s i) ∧ Aside (Below w.heap.size w wx) ∧ Lib.NoAny s.data.toList chars.data.toList i)
  case atStart => exact ⟨0, by omega, by omega, World.iter_heap _ _ _, (Below.refl _ _).alloc (Nat.le_refl _) _, Lib.NoAny.zero _ _⟩
  case round =>
    obtain ⟨i, hi0, hig, hit, HB, hno⟩ := hrel
    have HN : Aside (Lib.NoAny s.data.toList chars.data.toList i) := hno
    clear hno
    by_cases hi : i < s.size
    · obtain ⟨g, rfl⟩ : ∃ g, gk = g + 1 := ⟨gk - 1, by omega⟩
      obtain ⟨x, hx⟩ : ∃ x : UInt8, s[i]'hi = x := ⟨_, rfl⟩
      have hxl : s.data.toList[i]? = some x := by rw [← hx]; exact Lib.data_getElem? s i hi
      have hk : w.heap.size < wr.heap.size := (Array.getElem?_eq_some_iff.1 hit).1
      by_cases hx128 : x.toNat < 128
      · have hnx := fun ty => run_next_ascii_at (P := P) wr w.heap.size s i ty hit hi (by rw [hx]; exact hx128)
        rw [hx] at hnx
        have Hx : Aside (s.data.toList[i]? = some x) := hxl
        have hit2 := iterAt_heap wr w.heap.size s i (i + 1) hit
        have HB2 : Aside (Below w.heap.size w (wr.iterAt w.heap.size s (i + 1))) := below_iterAt HB.out (Nat.le_refl _) _ _
        generalize wr.iterAt w.heap.size s (i + 1) = wn at hnx hit2 HB2
        clear hxl hx
        have hcon := Lib.contains_iff_indexByte chars.data.toList x
        have hback : ((x.toNat : Int)).toNat.toUInt8 = x := by simp
        cases hin : chars.data.toList.contains x
        · rw [hin] at hcon
          have hlt : ¬ ((0 : Int) ≤ Lib.indexByte chars.data.toList x) := of_decide_eq_false hcon.symm
          clear hcon
          go_wp2_with (go_at_fn (ρ.f 152); refine (Any.strings_IndexRune_ascii { L with } _ _ _ (by omega) (by omega)).mono ?_; rintro e w' ⟨rfl, hw⟩; rw [hw, hback])
          go_roundg g
          case measure => omega
          case rel => exact ⟨i + 1, by omega, by omega, hit2, HB2, HN.out.succ Hx.out hin⟩
        · rw [hin] at hcon
          have hge : (0 : Int) ≤ Lib.indexByte chars.data.toList x := of_decide_eq_true hcon.symm
          clear hcon
          go_wp2_with (go_at_fn (ρ.f 152); refine (Any.strings_IndexRune_ascii { L with } _ _ _ (by omega) (by omega)).mono ?_; rintro e w' ⟨rfl, hw⟩; rw [hw, hback])
          go_ret
          exact ⟨by rw [Lib.indexAny_hit HN.out Hx.out hin]; rfl, HB2.out⟩
      · obtain ⟨d1, d2⟩ := decode_high s i hi (by rw [hx]; omega)
        have d3 := decode_le s i
        obtain ⟨d4, d5⟩ := decode_in s i hi
        have hnx := fun ty => run_next_any_at (P := P) wr w.heap.size s i ty hit hi
        have hit2 := iterAt_heap wr w.heap.size s i (i + (Utf8.decode s i).2) hit
        have HB2 : Aside (Below w.heap.size w (wr.iterAt w.heap.size s (i + (Utf8.decode s i).2))) := below_iterAt HB.out (Nat.le_refl _) _ _
        have HN2 : Aside (Lib.NoAny s.data.toList chars.data.toList (i + (Utf8.decode s i).2)) := (show Aside _ from fun j b hj hb => by
          by_cases e : j < i
          · exact HN.out j b e hb
          · have hb128 : 128 ≤ b.toNat := by
              obtain ⟨e1, e2⟩ := List.getElem?_eq_some_iff.1 hb
              by_cases ej : j = i
              · subst ej
                rw [hxl] at hb
                cases hb
                omega
              · have := d5 (j - i) (by omega) (by omega)
                rw [show i + (j - i) = j from by omega] at this
                have hjs : j < s.size := by omega
                have e4 : s.get! j = b := by
                  have := get_at s j hjs
                  rw [Nat.add_zero] at this
                  rw [this, ← e2]
                  rfl
                rw [e4] at this
                exact this
            cases hcc : chars.data.toList.contains b with
            | false => rfl
            | true =>
              obtain ⟨j', hj'⟩ := List.mem_iff_getElem?.1 (List.contains_iff_mem.1 hcc)
              have := HC.out j' b hj'
              omega)
        generalize hcn : (Utf8.decode s i).1 = c at hnx d1 d3
        generalize hwd : (Utf8.decode s i).2 = wd at hnx hit2 HB2 d2 d4 HN2
        generalize wr.iterAt w.heap.size s (i + wd) = wn at hnx hit2 HB2
        clear hxl hx d5 hcn hwd
        have hk2 : w.heap.size < wn.heap.size := (Array.getElem?_eq_some_iff.1 hit2).1
        go_wp2_with (go_at_fn (ρ.f 152); refine (own_IndexRune { L with } _ _ _ h3 HC.out (by omega) (by omega)).mono ?_; rintro e w' ⟨rfl, hw⟩; have HW : Aside (Below wn.heap.size wn w') := hw; clear hw)
        go_roundg g
        case measure => omega
        case rel => exact ⟨i + wd, by omega, by omega, (HW.out.block _ hk2).trans hit2, HB2.out.trans ⟨HW.out.os, HW.out.tape, HW.out.output, HW.out.size, fun k hk => HW.out.block k (by omega)⟩, HN2.out⟩
    · obtain rfl : i = s.size := by omega
      have hnx := fun ty => run_next_end_at (P := P) wr w.heap.size s s.size ty hit (by omega)
      go_wp2
      go_ret
      exact ⟨by rw [Lib.indexAny_none (by rw [← Lib.size_eq]; exact HN.out)]; rfl, HB.out⟩
set_option maxRecDepth 100000 in
theorem c_IndexAny_all (s : Txt) (hl : s.length ≤ 1000) : Pure Tryz.prog GL4 43 [.p (.str s), .p (.str asvz)] (.p (.int .i64 (Lib.indexAny s asvz))) := by
  by_cases h : 8 < s.length
  · exact c_IndexAny s hl (.inr h)
  refine Pure.of_below Tryz.func43 (by kernel_rfl) rfl rfl fun own w vs hg hs hlen hv => ?_
  match vs, hlen with
  | [a, b], _ =>
    have ea : a = .string ⟨⟨s⟩⟩ := (hv 0 _ a rfl rfl).str_inv
    have eb : b = .string ⟨⟨asvz⟩⟩ := (hv 1 _ b rfl rfl).str_inv
    subst ea; subst eb
    have hsz : (⟨⟨s⟩⟩ : ByteArray).size ≤ 8 := by simpa [ByteArray.size] using h
    refine Calls.mono (own_IndexAny ixaLays ⟨⟨s⟩⟩ ⟨⟨asvz⟩⟩ w (by decide) (by decide) hsz (small_at asvz_small)) ?_
    rintro e w' ⟨rfl, hw⟩
    exact ⟨_, rfl, .p _ _ (.int _ _), hw⟩
end Go.Am
/- Contracts: label.Parse at texts of any bytes, LabelParses; chapter 26. -/
namespace Go.Am
open Go Go.Proofs Go.Pn Go.RowKit

set_option maxRecDepth 20000 in
theorem c_label_Parse_all (s : Txt) (hl : s.length ≤ 1000) : Pure Tryz.prog GL4 12 [.p (.str s)] (.tup [(parL s).av, .p (.int .i64 (parE s))]) := by
  refine Pure.of_walk (N := 57) Tryz.func12 rfl rfl rfl (by simp) rfl ?_
  have hI := c_IndexAny_all s hl
  simp
  refine xcall_pure hI ?_
  rcases ixa_cases s with ⟨h1, h2⟩ | ⟨k, b, h1, h2, h3, h4⟩
  · obtain ⟨p1, p2⟩ := pr_none h2
    rw [p1, p2, h1]
    simp
    simp [XEndT, noL]
  · have hk := (List.getElem?_eq_some_iff.1 h2).1
    have hk0 : ¬ (k : Int) < 0 := by omega
    rw [h1]
    have hA := c_Atoi (s.take k) (by rw [List.length_take]; omega)
    have hB := c_Atoi (s.drop (k + 1)) (by rw [List.length_drop]; omega)
    have hbad := pr_bad h1 h2
    have hkl : k ≤ s.length := by omega
    have hk1 : k + 1 ≤ s.length := by omega
    have hw : IntKind.i64.wrap ((k : Int) + 1) = ((k + 1 : Nat) : Int) := by rw [wrap_i64 (by omega) (by omega)]; omega
    have hsl : (s.take (k + 1)).drop k = [b] := by
      rw [take_snoc h2, List.drop_append_of_le_length (by simp; omega)]
      simp [List.drop_take]
    have hC := (c_label_check (prX s k b) (by simp [prX])).wider GL_four
    have hT : chkL (prX s k b) = 0 → Pure Tryz.prog GL4 46 [(prX s k b).av] (.p (.str (textL (prX s k b)))) := fun hc => (c_label_text (prX s k b) hc).wider GL_four
    have hgood : chkL (prX s k b) = 0 → textL (prX s k b) = s → parL s = prX s k b ∧ parE s = 0 := par_of
    generalize hx : prX s k b = x at *
    have hxa : AV.agg [.p (.int .i64 (atV (s.take k))), .p (.str [b]), .p (.int .i64 (atV (s.drop (k + 1))))] = x.av := by rw [← hx]; rfl
    simp [hk0, hkl]
    refine xcall_pure hA ?_
    have hlo : (0 : Int) ≤ (k : Int) + 1 := by omega
    have hhi : (k : Int) + 1 ≤ s.length := by omega
    have htd : (s.drop (k + 1)).take (s.length - (k + 1)) = s.drop (k + 1) := List.take_of_length_le (by rw [List.length_drop]; omega)
    simp [hw, hk1, hlo, hhi, hkl, -getElem?_pos, List.getElem?_cons_zero, List.getElem?_cons_succ]
    rw [htd]
    refine xcall_pure hB ?_
    generalize atV (s.take k) = va at *
    generalize atV (s.drop (k + 1)) = vb at *
    have hs1 : (s.drop k).take 1 = [b] := by rw [← hsl, List.take_drop]
    have hif : isIfaceT Tryz.prog 88 = true := by kernel_rfl
    have hkk : (k : Int) ≤ (k : Int) + 1 := by omega
    cases ha : atE (s.take k) with
    | true =>
      obtain ⟨p1, p2⟩ := hbad (.inl ha)
      rw [p1, p2]
      simp [hw, hk1, hlo, hhi, hkl, errV, hkk, hs1, hif, -getElem?_pos, List.getElem?_cons_zero, List.getElem?_cons_succ]
      simp [XEndT, noL]
    | false =>
      cases hb : atE (s.drop (k + 1)) with
      | true =>
        obtain ⟨p1, p2⟩ := hbad (.inr (.inl hb))
        rw [p1, p2]
        simp [hw, hk1, hlo, hhi, hkl, errV, hkk, hs1, hif, -getElem?_pos, List.getElem?_cons_zero, List.getElem?_cons_succ]
        simp [XEndT, noL]
      | false =>
        simp [hw, hk1, hlo, hhi, hkl, errV, hkk, hs1, hif, hxa, -getElem?_pos, List.getElem?_cons_zero, List.getElem?_cons_succ]
        refine xcall_pure hC ?_
        by_cases hc : chkL x = 0
        · have hT := hT hc
          simp [hc, -getElem?_pos, List.getElem?_cons_zero, List.getElem?_cons_succ]
          refine xcall_pure hT ?_
          by_cases ht : textL x = s
          · obtain ⟨p1, p2⟩ := hgood hc ht
            rw [p1, p2]
            simp [ht, -getElem?_pos, List.getElem?_cons_zero, List.getElem?_cons_succ]
            simp [XEndT]
          · obtain ⟨p1, p2⟩ := hbad (.inr (.inr (.inr ht)))
            rw [p1, p2]
            simp [ht, -getElem?_pos, List.getElem?_cons_zero, List.getElem?_cons_succ]
            simp [XEndT, noL]
        · obtain ⟨p1, p2⟩ := hbad (.inr (.inr (.inl hc)))
          rw [p1, p2]
          simp [hc, -getElem?_pos, List.getElem?_cons_zero, List.getElem?_cons_succ]
          simp [XEndT, noL]

set_option maxRecDepth 20000 in
theorem c_LabelParses (s : Txt) (hl : s.length < 4611686018427387900) : Pure Tryz.prog GL4 3 [.p (.str s)] (.p (.bool true)) := by
  refine Pure.of_walk (N := 32) Tryz.func3 rfl rfl rfl (by simp) (by simp) ?_
  by_cases h : (400 : Int) < s.length
  · simp [h, -getElem?_pos, List.getElem?_cons_zero, List.getElem?_cons_succ]
    refine xcall_pure c_awake26 ?_
    simp [XEndT]
  · have hA := c_label_Parse_all s (by omega)
    have hB := wF (c_pneumaticref26_Parse s (by omega))
    simp [h, -getElem?_pos, List.getElem?_cons_zero, List.getElem?_cons_succ]
    refine xcall_pure hA ?_
    simp
    refine xcall_pure hB ?_
    simp
    refine xcall_pure c_awake26 ?_
    simp [XEndT]
end Go.Am
