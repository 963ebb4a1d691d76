/- Lemmas and contracts for the proof of a statement of this seat. -/
import Derived.Test.YthkjeoagelhocaaGreatDoorZF1
import Derived.Test.YthkjeoagelhocaaGreatDoorZN5
import Derived.Test.YthkjeoagelhocaaGreatDoorZA7
import Derived.Shelf.Strings.IndexAnyAll
import Derived.Test.YthkjeoagelhocaaGreatDoorZC2
import Derived.Test.YthkjeoagelhocaaGreatDoorZCQ
import Derived.Test.YthkjeoagelhocaaGreatDoorZCA
import Derived.Laws.RangeAny
import Derived.WalkSpells
import Derived.Lib.OthersKept
import Derived.Lib.IndexLaws
import Derived.Shelf.Small.Utf8
import Derived.Laws.Runes
import Derived.WalkMore
set_option linter.unusedVariables false
set_option linter.unusedSimpArgs false
namespace Go.Am
open Go Go.Proofs Go.Shelf Go.RowKit
abbrev Kai : Ren := Jxx
theorem Kah : Lays.n171 Tryz.prog Kai := ito5
abbrev Jpn : Ren := Jt5
theorem Jpm : LaysC.n172 Tryz.prog Jpn := ato5
def Jxy : Ren := ⟨fun k => match k with | 153 => 36 | 152 => 79 | 226 => 80 | 227 => 41 | 228 => 81 | 137 => 142 | 119 => 143 | 224 => 144 | 225 => 145 | 217 => 198 | 266 => 230 | k => k, fun k => match k with | 9 => 9 | 3 => 3 | 4 => 4 | 5 => 5 | 21 => 21 | 117 => 89 | 116 => 88 | 0 => 0 | 46 => 95 | 124 => 92 | k => k, fun k => k⟩
set_option maxRecDepth 100000 in
theorem Jq2 : Lays.n153 Tryz.prog Jxy where
 mixed := by kernel_rfl
 f119 := (Tryz.func143).trans (by kernel_rfl)
 f137 := (Tryz.func142).trans (by kernel_rfl)
 f152 := (Tryz.func79).trans (by kernel_rfl)
 f153 := (Tryz.func36).trans (by kernel_rfl)
 f217 := (Tryz.func198).trans (by kernel_rfl)
 f224 := (Tryz.func144).trans (by kernel_rfl)
 f225 := (Tryz.func145).trans (by kernel_rfl)
 f226 := (Tryz.func80).trans (by kernel_rfl)
 f227 := (Tryz.func41).trans (by kernel_rfl)
 f228 := (Tryz.func81).trans (by kernel_rfl)
 f266 := (Tryz.func230).trans (by kernel_rfl)
 t0 := by kernel_rfl
 a0 := fun w => by kernel_rfl
 z0 := fun w => by kernel_rfl
 v0 := fun w => by kernel_rfl
 t3 := by kernel_rfl
 a3 := fun w => by kernel_rfl
 z3 := fun w => by kernel_rfl
 v3 := fun w => by kernel_rfl
 t4 := by kernel_rfl
 a4 := fun w => by kernel_rfl
 z4 := fun w => by kernel_rfl
 v4 := fun w => by kernel_rfl
 t5 := by kernel_rfl
 a5 := fun w => by kernel_rfl
 z5 := fun w => by kernel_rfl
 v5 := fun w => by kernel_rfl
 t9 := by kernel_rfl
 a9 := fun w => by kernel_rfl
 z9 := fun w => by kernel_rfl
 v9 := fun w => by kernel_rfl
 t21 := by kernel_rfl
 a21 := fun w => by kernel_rfl
 z21 := fun w => by kernel_rfl
 v21 := fun w => by kernel_rfl
 t46 := by kernel_rfl
 a46 := fun w => by kernel_rfl
 z46 := fun w => by kernel_rfl
 v46 := fun w => by kernel_rfl
 t116 := by kernel_rfl
 a116 := fun w => by kernel_rfl
 z116 := fun w => by kernel_rfl
 t117 := by kernel_rfl
 a117 := fun w => by kernel_rfl
 z117 := fun w => by kernel_rfl
 v117 := fun w => by kernel_rfl
 t124 := by kernel_rfl
 a124 := fun w => by kernel_rfl
 z124 := fun w => by kernel_rfl
 v124 := fun w => by kernel_rfl
end Go.Am
namespace Go.Am
open Go Go.Proofs Go.Pn Go.RowKit
theorem Kir {own : Nat -> Prop} {w : World} {n : Int} {v : Value} (h : VR (fun _ => none) own w (.p (.int .i64 n)) v) : v = .int .i64 n := h.int_inv
set_option maxRecDepth 100000 in
theorem Juh (n : Nat) (h : n < 100) : Pure Tryz.prog GL 65 [.p (.int .i64 n)] (.p (.str (digN n))) := by
 refine Pure.of_below Tryz.func65 (by kernel_rfl) rfl rfl fun own w vs hg hs hlen hv => ?_
 match vs, hlen with
 | [a], _ =>
   have ea := Kir (hv 0 _ a rfl rfl)
   subst ea
   refine Calls.mono (Any.strconv_Itoa_small Kah n h w) ?_
   rintro e w' ⟨rfl, rfl⟩
   refine ⟨_, rfl, ?_, Below.refl _ _⟩
   rw [J63 h]
   exact .p _ _ (.str _)
theorem Ju3 (x : Lbl) (h : chkL x = 0) : Pure Tryz.prog GL 27 [x.av] (.p (.str (Ja0 x))) := by
 refine Pure.of_walk (N := 13) Tryz.func27 rfl rfl rfl (by simp) (by first | (simp; done) | simp [*]) ?_
 obtain ⟨⟨a1, a2⟩, _, a4, a5⟩ := Jhm.1 h
 obtain ⟨g, l, n⟩ := x
 simp only at a1 a2 a4 a5
 obtain ⟨g', rfl⟩ : ∃ g' : Nat, g = g' := ⟨g.toNat, by omega⟩
 obtain ⟨n', rfl⟩ : ∃ n' : Nat, n = n' := ⟨n.toNat, by omega⟩
 obtain ⟨b, hb, _⟩ := Jnq h
 simp only at hb
 subst hb
 have hd1 : (digN g').length <= 2 := by unfold digN; split <;> simp
 have hd2 : (digN n').length <= 2 := by unfold digN; split <;> simp
 have D1 := Juh g' (by omega)
 have D2 := Juh n' (by omega)
 have e : Ja0 ⟨g', [b], n'⟩ = digN g' ++ (b :: digN n') := rfl
 rw [e]
 simp
 refine Jak.intro (by kernel_rfl) ?_
 simp
 refine Jab D1 ?_
 simp
 refine ⟨by omega, ?_⟩
 refine Jab D2 ?_
 simp
 refine ⟨by omega, .of (by kernel_rfl), ?_⟩
 simp [Jaa]
set_option maxRecDepth 20000 in
theorem J43 (c : Circuit) (x : Lbl) (hs : Sized c) (hxl : x.ltr.length < 4611686018427387904) : Pure Tryz.prog GL 12 [c.av, x.av] (.tup [.p (.int .i64 (fndR c x)), .p (.int .i64 (fndE c x))]) := by
 refine Pure.of_walk (N := 36) Tryz.func12 rfl rfl rfl (by simp) (by first | (simp; done) | simp [*]) ?_
 have hL := Ju0 c hs
 have hC := Ju2 x hxl
 by_cases h : Jac c = 0
 . by_cases h2 : chkL x = 0
   . have hll := @Jx6 c
     have hp := (Ja8 h).2.1
     have hE : fndE c x = if x ∈ Jb4 c then 0 else 6 := by unfold fndE; rw [if_neg (by simpa using h), if_neg (by simpa using h2)]
     rw [if_pos h] at hL
     rw [h] at hL
     rw [h2] at hC
     have hR : x ∈ Jb4 c -> fndR c x = idxI (Jb4 c) fun y => decide (y = x) := fun hx => by unfold fndR; rw [hE, if_pos hx, if_neg (by simp)]
     have hR0 : x ∉ Jb4 c -> fndR c x = 0 := fun hx => by unfold fndR; rw [hE, if_neg hx, if_pos (by simp)]
     generalize fndE c x = E at hE
     generalize fndR c x = R at hR hR0
     generalize Jb4 c = L at hL hll hE hR hR0
     simp
     refine Jab hL ?_
     simp
     refine Jab hC ?_
     simp
     refine Jag.go [3, 24, 25] [1] 0 [] (fun _ => []) (fun _ (k : Nat) => [(26, .p (.int .i64 k))]) (fun _ _ => []) (fun k => k <= L.length /\ ∀ (j : Nat) y, j < k -> L[j]? = some y -> decide (y = x) = false) (fun k => L.length - k) 0 ⟨by omega, fun j y h => by omega⟩ ?_ ?_
     . simp
       try decide
     rintro k ⟨hk, hp⟩
     simp
     refine Jad (fun h3 => ?_) (fun h3 => ?_)
     . simp at h3
       obtain ⟨y, ey⟩ := Jae h3
       simp [h3, ey, -getElem?_pos, List.getElem?_cons_zero, List.getElem?_cons_succ]
       by_cases hy : y = x
       . have hm : x ∈ L := by rw [<- hy]; exact List.mem_of_getElem? ey
         rw [if_pos hm] at hE
         have hi : (idxI L fun y => decide (y = x)) = k := Jej (q := fun y => decide (y = x)) ey (by simpa using hy) hp
         simp [hy, Jaa, hE, hR hm, hi]
       . simp [hy]
         refine ⟨wrap_i64 (by omega) (by omega), k + 1, ⟨by omega, ?_⟩, by omega, ?_⟩
         . intro j z hj ez
           by_cases hjk : j = k
           . subst hjk; rw [ey] at ez; cases ez; exact hy
           . simpa using hp j z (by omega) ez
         . simp
           try decide
     . simp at h3
       have hn : x ∉ L := fun hm => by
         obtain ⟨j, ej⟩ := List.mem_iff_getElem?.1 hm
         have := hp j x (by have := (gsI.1 ej).1; omega) ej
         simp at this
       rw [if_neg hn] at hE
       simp [Jaa, hE, hR0 hn]
   . have hE : fndE c x = chkL x := by unfold fndE; rw [if_neg (by simpa using h), if_pos h2]
     have hR : fndR c x = 0 := by unfold fndR; rw [hE, if_pos h2]
     rw [h] at hL
     simp
     refine Jab hL ?_
     simp
     refine Jab hC ?_
     simp [h2, Jaa, hE, hR]
 . have hE : fndE c x = Jac c := if_pos h
   have hR : fndR c x = 0 := by unfold fndR; rw [hE, if_pos h]
   simp
   refine Jab hL ?_
   simp [h, Jaa, hE, hR]
end Go.Am
namespace Go.Am
open Go Go.Proofs Go.Pn Go.RowKit
def GL4 : Jaf := GL ++ [(1, 1, [[.ifc]]), (2, 1, [[.ifc]])]
theorem Jpd : ∀ x ∈ GL, x ∈ GL4 := fun x hx => List.mem_append_left _ hx
def atV (s : Txt) : Int := match Lib.atoiAll s with
 | .ok v => v
 | .syntax => 0
 | .range => Lib.atoiSat s
def atE (s : Txt) : Bool := match Lib.atoiAll s with
 | .ok _ => false
 | _ => true
def errV (b : Bool) : PV := if b then .ifc else .nilif
theorem Jxc {own : Nat -> Prop} {w : World} {g : Nat} (hg : Jka GL4 own w) (hm : (g, 1, [[PV.ifc]]) ∈ GL4) : ∃ t x, w.cell? ⟨g, 0, none⟩ = some (.iface t x) := by
 obtain ⟨v, h1, h2⟩ := (hg g 1 [[PV.ifc]] hm).2.2.data 0 0 _ PV.ifc rfl rfl
 cases h2 with
 | ifc t x => exact ⟨t, x, by simpa using h1⟩
set_option maxRecDepth 100000 in
theorem Juf (s : Txt) (hl : s.length <= 1000) : Pure Tryz.prog GL4 37 [.p (.str s)] (.tup [.p (.int .i64 (atV s)), .p (errV (atE s))]) := by
 refine Pure.of_below Tryz.func37 (by kernel_rfl) rfl rfl fun own w vs hg hs hlen hv => ?_
 match vs, hlen with
 | [a], _ =>
   have ea : a = .string ⟨⟨s⟩⟩ := (hv 0 _ a rfl rfl).str_inv
   subst ea
   have e15 : Jpn.g 15 = 1 := by kernel_rfl
   have e16 : Jpn.g 16 = 2 := by kernel_rfl
   have hsz : (⟨⟨s⟩⟩ : ByteArray).size <= 1000 := by simpa [ByteArray.size] using hl
   cases h : Lib.atoiAll s with
   | ok v =>
     refine Calls.mono (Any.strconv_Atoi_ok Jpm ⟨⟨s⟩⟩ (by omega) v h w) ?_
     rintro e w' ⟨rfl, hw⟩
     refine ⟨_, rfl, ?_, ?_⟩
     . unfold atV atE errV
       rw [h]
       exact .tup _ _ rfl fun i x u hx hu => match i with
         | 0 => by simp at hx hu; subst hx; subst hu; exact .p _ _ (.int _ _)
         | 1 => by simp at hx hu; subst hx; subst hu; exact .p _ _ .nilif
         | _ + 2 => by simp at hx
     . rcases hw with rfl | ⟨t, rfl⟩
       . exact Below.refl _ _
       . exact Lib.bytesWorld_below _ _ _
   | «syntax» =>
     obtain ⟨t, x, hc⟩ := Jxc hg (g := 1) (List.mem_append_right _ (by simp))
     refine Calls.mono (Any.strconv_Atoi_syntax Jpm ⟨⟨s⟩⟩ (by omega) h (.iface t x) w (by rw [e15]; exact hc) (.inr ⟨_, _, rfl⟩)) ?_
     rintro e w' ⟨N, rfl, _, _, hw⟩
     refine ⟨_, rfl, ?_, hw⟩
     unfold atV atE errV
     rw [h]
     exact .tup _ _ rfl fun i x u hx hu => match i with
       | 0 => by simp at hx hu; subst hx; subst hu; exact .p _ _ (.int _ _)
       | 1 => by simp at hx hu; subst hx; subst hu; exact .p _ _ (.ifc _ _)
       | _ + 2 => by simp at hx
   | range =>
     obtain ⟨t, x, hc⟩ := Jxc hg (g := 2) (List.mem_append_right _ (by simp))
     refine Calls.mono (Any.strconv_Atoi_range Jpm ⟨⟨s⟩⟩ (by omega) h (.iface t x) w (by rw [e16]; exact hc) (.inr ⟨_, _, rfl⟩)) ?_
     rintro e w' ⟨N, rfl, _, _, hw⟩
     refine ⟨_, rfl, ?_, hw⟩
     unfold atV atE errV
     rw [h]
     exact .tup _ _ rfl fun i x u hx hu => match i with
       | 0 => by simp at hx hu; subst hx; subst hu; exact .p _ _ (.int _ _)
       | 1 => by simp at hx hu; subst hx; subst hu; exact .p _ _ (.ifc _ _)
       | _ + 2 => by simp at hx
def asvz : Txt := [65, 83, 86, 90]
theorem Jpl : ∀ b ∈ asvz, b.toNat < 128 := by decide
theorem Jop {s : Txt} (h : ∀ b ∈ s, b.toNat < 128) : ∀ (j : Nat) b, s[j]? = some b -> b.toNat < 128 := fun j b e => h b (List.mem_of_getElem? e)
set_option maxRecDepth 100000 in
theorem Jq3 : (Tryz.prog.info? (Jxy.t 116)).map (fun i => (i.zero, i.size)) = some (some (.agg (Array.replicate 256 (.bool false))), 256) := by kernel_rfl
set_option maxRecDepth 100000 in
theorem J4g (s : Txt) (hl : s.length <= 1000) (h : (∀ b ∈ s, b.toNat < 128) \/ 8 < s.length) : Pure Tryz.prog GL4 36 [.p (.str s), .p (.str asvz)] (.p (.int .i64 (Lib.indexAny s asvz))) := by
 refine Pure.of_below Tryz.func36 (by kernel_rfl) rfl rfl fun own w vs hg hs hlen hv => ?_
 match vs, hlen with
 | [a, b], _ =>
   have ea : a = .string ⟨⟨s⟩⟩ := (hv 0 _ a rfl rfl).str_inv
   have eb : b = .string ⟨⟨asvz⟩⟩ := (hv 1 _ b rfl rfl).str_inv
   subst ea; subst eb
   have hsz : (⟨⟨s⟩⟩ : ByteArray).size <= 1000 := by simpa [ByteArray.size] using hl
   rcases h with h | h
   . refine Calls.mono (Any.strings_IndexAny_laid Jq2 Jq3 ⟨⟨s⟩⟩ ⟨⟨asvz⟩⟩ w (by omega) (by decide) (Jop h) (Jop Jpl)) ?_
     rintro e w' ⟨rfl, hw⟩
     exact ⟨_, rfl, .p _ _ (.int _ _), hw⟩
   . refine Calls.mono (Any.strings_IndexAny_long Jq2 (zero_of_info Jq3).1 (zero_of_info Jq3).2 ⟨⟨s⟩⟩ ⟨⟨asvz⟩⟩ w (by decide) (by simpa [ByteArray.size] using h) (by omega) (by decide) (Jop Jpl)) ?_
     rintro e w' ⟨rfl, rfl⟩
     exact ⟨_, rfl, .p _ _ (.int _ _), ((Below.refl _ _).alloc (Nat.le_refl _) _).alloc (by simp) _⟩
end Go.Am
namespace Go.Am
open Go Go.Proofs Go.Pn
def fnL (L : List Lbl) : AV := .fn (.func 24) [.iptr 1 [[.lst 3 (L.map Lbl.enc)]] 0 0]
def lAt (L : List Lbl) (i : Int) : Lbl := (L[i.toNat]?).getD noL
def ltP (L : List Lbl) (i k : Int) : Bool := decide (Jct (lAt L i) (lAt L k) < 0)
def Dom (L : List Lbl) (l : List Int) : Prop := ∀ x ∈ l, 0 <= x /\ x < L.length
theorem J44 (L : List Lbl) (i k : Int) (hi : 0 <= i /\ i < L.length) (hk : 0 <= k /\ k < L.length) : Pure Tryz.prog GL 24 [.p (.int .i64 i), .p (.int .i64 k), .iptr 1 [[.lst 3 (L.map Lbl.enc)]] 0 0] (.p (.int .i64 (Jct (lAt L i) (lAt L k)))) := by
 refine Pure.of_walk (N := 15) Tryz.func24 rfl rfl rfl (by simp) (by first | (simp; done) | simp [*]) ?_
 obtain ⟨i, rfl⟩ : ∃ i' : Nat, i = i' := ⟨i.toNat, by omega⟩
 obtain ⟨k, rfl⟩ : ∃ k' : Nat, k = k' := ⟨k.toNat, by omega⟩
 have h1 : i < L.length := by omega
 have h2 : k < L.length := by omega
 obtain ⟨x, ex⟩ := Jae h1
 obtain ⟨y, ey⟩ := Jae h2
 have e1 : lAt L i = x := by unfold lAt; rw [Int.toNat_natCast, ex]; rfl
 have e2 : lAt L k = y := by unfold lAt; rw [Int.toNat_natCast, ey]; rfl
 rw [e1, e2]
 simp
 refine Jak.intro (by kernel_rfl) ?_
 simp [h1, h2, ex, ey, -getElem?_pos, List.getElem?_cons_zero, List.getElem?_cons_succ]
 refine Jab (J48 x y) ?_
 simp
 refine ⟨.of (by kernel_rfl), ?_⟩
 simp [Jaa]
theorem J69 {L : List Lbl} {l : List Int} {j : Nat} {x y : Int} (h1 : l[j]? = some x) (h2 : l[j + 1]? = some y) (h : Dom L l) : Dom L (Je8 l j) := fun z hz => h z ((J1x h1 h2).mem_iff.1 hz)
theorem J80 (L : List Lbl) (l : List Int) (s : Store) (nx b : Nat) (c : Option Nat) (hb : b < nx) (hg : get s b = some (.cells 1 (l.map Int.row))) (hl : l.length < 1000000) (hd : Dom L l) :
   Gives Tryz.prog GL 115 [.ref b 1 0 l.length c, .p (.int .i64 0), .p (.int .i64 l.length), fnL L] s nx (.tup []) [b] [(b, some (.cells 1 ((Jde (ltP L) l).map Int.row)))] nx := by
 unfold fnL
 refine Gives.mk_walkK (N := 53) (args := [.ref 0 1 0 l.length c, .p (.int .i64 0), .p (.int .i64 l.length), .fn (.func 24) [.iptr 1 [[.lst 3 (L.map Lbl.enc)]] 0 0]]) [b] [] [(0, some (.cells 1 (l.map Int.row)))] [(0, some (.cells 1 ((Jde (ltP L) l).map Int.row)))] 1 0 (.tup []) (fun _ => []) (up1 := [(b, some (.cells 1 ((Jde (ltP L) l).map Int.row)))]) Tryz.func115 rfl rfl rfl (by simp) rfl (by simp [hg, hb]) (by simp) (by simp) (by simp) (by simp) rfl ?_
 simp
 refine Jag.go [0, 1, 2, 3] [] 0 [] (fun _ => []) (fun _ (g : List Int × Nat) => [(8, .p (.int .i64 g.2))]) (fun _ g => [(0, some (.cells 1 (g.1.map Int.row)))]) (fun g => g.1.length = l.length /\ 1 <= g.2 /\ g.2 <= l.length + 1 /\ Dom L g.1 /\ Jei (ltP L) (l.length - g.2) g.1 g.2 = Jde (ltP L) l) (fun g => l.length + 1 - g.2) (l, 1) ⟨rfl, by simp, by simp, hd, rfl⟩ ?_ ?_
 . simp
 . rintro ⟨g, i⟩ ⟨h1, h2, h3, hdg, h4⟩
   simp at h1 h2 h3 h4
   simp
   refine Jad (fun h => ?_) (fun h => ?_)
   . simp at h
     simp
     refine Jag.go [0, 1, 2, 3, 8] [] 0 [] (fun _ => []) (fun _ (q : List Int × Nat) => [(9, .p (.int .i64 q.2))]) (fun _ q => [(0, some (.cells 1 (q.1.map Int.row)))]) (fun q => q.1.length = l.length /\ q.2 <= i /\ Dom L q.1 /\ Jc5 (ltP L) q.1 q.2 = Jc5 (ltP L) g i) (fun q => q.2) (g, i) ⟨h1, by simp, hdg, rfl⟩ ?_ ?_
     . simp
     . rintro ⟨q, j⟩ ⟨k1, k2, hdq, k3⟩
       simp at k1 k2 k3
       cases j with
       | zero =>
         simp
         refine Jak.intro (by kernel_rfl) ?_
         simp
         refine ⟨.of (by kernel_rfl), wrap_i64 (by omega) (by omega), q, i + 1, ⟨k1, by omega, by omega, hdq, ?_⟩, by omega, ?_⟩
         . simp [Jc5] at k3
           rw [show l.length - i = (l.length - (i + 1)) + 1 by omega] at h4
           simp [Jei] at h4
           rw [k3]
           exact h4
         . simp
       | succ j =>
         simp
         refine Jak.intro (by kernel_rfl) ?_
         have e1 : (j : Int) + 1 - 1 = j := by omega
         have e0 : (0 : Int) <= (j : Int) + 1 := by omega
         have e2 : ((j : Int) + 1).toNat = j + 1 := by omega
         have e3 : (j : Int) + 1 < l.length := by omega
         have e4 : (j : Int) < l.length := by omega
         have e5 : (0 : Int) < (j : Int) + 1 := by omega
         obtain ⟨x, f1⟩ := Jae (xs := q) (k := j) (by omega)
         obtain ⟨y, f2⟩ := Jae (xs := q) (k := j + 1) (by omega)
         have hx := hdq x (List.mem_of_getElem? f1)
         have hy := hdq y (List.mem_of_getElem? f2)
         have hsink : Jc5 (ltP L) q (j + 1) = if ltP L y x then Jc5 (ltP L) (Je8 q j) j else q := by simp [Jc5, f1, f2, -getElem?_pos]
         simp [e0, e1, e2, e3, e4, e5, f1, f2, -getElem?_pos, List.getElem?_cons_zero, List.getElem?_cons_succ]
         refine ⟨wrap_i64 (by omega) (by omega), ?_⟩
         refine Jab (J44 L y x hy hx) ?_
         simp
         refine ⟨.of (by kernel_rfl), ?_⟩
         refine Jad (fun h5 => ?_) (fun h5 => ?_)
         . have h5' : ltP L y x = true := h5
           simp
           refine Jak.intro (by kernel_rfl) ?_
           have f3 : (q.map Int.row).length = l.length := by simp [k1]
           simp [e0, e1, e2, e3, e4, e5, f1, f2, -getElem?_pos, List.getElem?_cons_zero, List.getElem?_cons_succ]
           have f4 : ((q.map Int.row).set (j + 1) [AV.p (PV.int .i64 x)]).set j [AV.p (PV.int .i64 y)] = (Je8 q j).map Int.row := by simp [Je8, List.map_set, f1, f2, -getElem?_pos]
           rw [hsink, if_pos h5'] at k3
           refine ⟨wrap_i64 (by omega) (by omega), .of (by kernel_rfl), wrap_i64 (by omega) (by omega), Je8 q j, j, ⟨by rw [Jos]; exact k1, by omega, J69 f1 f2 hdq, k3⟩, by omega, rfl, ?_⟩
           rw [f4]
           exact Jlv _
         . have h5' : ltP L y x = false := h5
           rw [hsink, if_neg (by rw [h5']; simp)] at k3
           simp
           refine ⟨wrap_i64 (by omega) (by omega), q, i + 1, ⟨k1, by omega, by omega, hdq, ?_⟩, by omega, ?_⟩
           . rw [show l.length - i = (l.length - (i + 1)) + 1 by omega] at h4
             simp [Jei] at h4
             rw [k3]
             exact h4
           . simp
   . simp at h
     have h5 : l.length - i = 0 := by omega
     rw [h5] at h4
     simp [Jei] at h4
     simp [h4]
theorem J84 (L : List Lbl) (l : List Int) (s : Store) (nx b : Nat) (c : Option Nat) (m : Int) (hb : b < nx) (hg : get s b = some (.cells 1 (l.map Int.row))) (hl : l.length <= 12) (hd : Dom L l) :
   Gives Tryz.prog GL 60 [.ref b 1 0 l.length c, .p (.int .i64 0), .p (.int .i64 l.length), .p (.int .i64 m), fnL L] s nx (.tup []) [b] [(b, some (.cells 1 ((Jde (ltP L) l).map Int.row)))] nx := by
 unfold fnL
 refine Gives.mk_walkK (N := 148) (args := [.ref 0 1 0 l.length c, .p (.int .i64 0), .p (.int .i64 l.length), .p (.int .i64 m), .fn (.func 24) [.iptr 1 [[.lst 3 (L.map Lbl.enc)]] 0 0]]) [b] [] [(0, some (.cells 1 (l.map Int.row)))] [(0, some (.cells 1 ((Jde (ltP L) l).map Int.row)))] 1 0 (.tup []) (fun _ => []) (up1 := [(b, some (.cells 1 ((Jde (ltP L) l).map Int.row)))]) Tryz.func60 rfl rfl rfl (by simp) rfl (by simp [hg, hb]) (by simp) (by simp) (by simp) (by simp) rfl ?_
 simp
 refine Jag.go [0, 4] [] 0 [] (fun _ => []) (fun _ (g : Unit) => [(1, .p (.int .i64 0)), (2, .p (.int .i64 l.length)), (3, .p (.int .i64 m)), (10, .p (.bool true)), (11, .p (.bool true))]) (fun _ g => [(0, some (.cells 1 (l.map Int.row)))]) (fun g => True) (fun g => 0) () trivial ?_ ?_
 . simp
 . rintro ⟨⟩ -
   have h12 : (l.length : Int) <= 12 := by omega
   simp [h12]
   refine ⟨wrap_i64 (by omega) (by omega), ?_⟩
   refine Ja6 (J80 L l _ 1 0 c (by omega) (by simp [get]) (by omega) hd) ?_
   simp
theorem J85 (L : List Lbl) (l : List Int) (s : Store) (nx b : Nat) (c : Option Nat) (hb : b < nx) (hg : get s b = some (.cells 1 (l.map Int.row))) (hl : l.length <= 12) (hd : Dom L l) :
   Gives Tryz.prog GL 23 [.ref b 1 0 l.length c, fnL L] s nx (.tup []) [b] [(b, some (.cells 1 ((Jde (ltP L) l).map Int.row)))] nx := by
 unfold fnL
 refine Gives.mk_walkK (N := 14) (args := [.ref 0 1 0 l.length c, .fn (.func 24) [.iptr 1 [[.lst 3 (L.map Lbl.enc)]] 0 0]]) [b] [] [(0, some (.cells 1 (l.map Int.row)))] [(0, some (.cells 1 ((Jde (ltP L) l).map Int.row)))] 1 0 (.tup []) (fun _ => []) (up1 := [(b, some (.cells 1 ((Jde (ltP L) l).map Int.row)))]) Tryz.func23 rfl rfl rfl (by simp) rfl (by simp [hg, hb]) (by simp) (by simp) (by simp) (by simp) rfl ?_
 simp
 refine ⟨by
   simp [IntKind.wrap, IntKind.bits, IntKind.signed]
   omega, ?_⟩
 refine Jab (Ju7 l.length hl) ?_
 simp
 refine Ja6 (J84 L l _ 1 0 c _ (by omega) (by simp [get]) hl hd) ?_
 simp
theorem Kix {k : Nat} (h : k < 14) : (catRow k)[0]? = some (.p (.str (Jex k))) := by
 rcases (by omega : k = 0 \/ k = 1 \/ k = 2 \/ k = 3 \/ k = 4 \/ k = 5 \/ k = 6 \/ k = 7 \/ k = 8 \/ k = 9 \/ k = 10 \/ k = 11 \/ k = 12 \/ k = 13) with rfl|rfl|rfl|rfl|rfl|rfl|rfl|rfl|rfl|rfl|rfl|rfl|rfl|rfl <;> rfl
theorem J5k (k : Int) : Pure Tryz.prog GL 26 [.p (.int .i64 k)] (.tup [.p (.str (if Jas k = 0 then Jex k.toNat else [])), .p (.int .i64 (Jas k))]) := by
 refine Pure.of_walk (N := 14) Tryz.func26 rfl rfl rfl (by simp) (by first | (simp; done) | simp [*]) ?_
 simp
 refine Jab (Jhk k) ?_
 by_cases hk : 0 <= k /\ k < 14
 . have h3 : Jas k = 0 := Jcw.2 hk
   have hl := Jfb (k := k.toNat)
   have h6 := Jfc (k := k.toNat)
   have f1 := Kix (k := k.toNat) (by omega)
   simp [h3, hl, Jcx]
   refine ⟨by simpa using h6, ?_⟩
   obtain ⟨g1, g2⟩ := gsI.1 f1
   simp [Jaa, h3, g2]
 . have h3 : Jas k = 1 := Jht hk
   simp [h3, catRow, lay]
   simp [Jaa, h3]
end Go.Am
namespace Go.Am
open Go Go.Proofs Go.Pn
def natI (l : List Nat) : List Int := l.map fun i : Nat => (i : Int)
theorem Kbr {L : List Lbl} : LtOk (ltP L) where
 asymm x y h := by
   simp only [ltP, decide_eq_true_eq, decide_eq_false_iff_not] at h ⊢
   rw [Jml]; omega
 ntrans x y z h k := by
   simp only [ltP, decide_eq_false_iff_not] at h k ⊢
   have h1 : Jct (lAt L x) (lAt L y) <= 0 := by rw [Jml]; omega
   have h2 : Jct (lAt L y) (lAt L z) <= 0 := by rw [Jml]; omega
   have h3 := J6v h1 h2
   rw [Jml]; omega
theorem Jx5 {c : Circuit} {i : Nat} (h : i < c.parts.length) : lAt (Jb4 c) i = lblN c i := by
 unfold lAt
 rw [Int.toNat_natCast, show (Jb4 c)[i]? = some (lblN c i) from Jnh h]
 rfl
theorem J1j {c : Circuit} : Jde (ltP (Jb4 c)) (natI (List.range c.parts.length)) = natI (Jb5 c) := by
 have hp := @Jxr (ltP (Jb4 c)) (natI (List.range c.parts.length))
 have hu := Kaa (@Kbr (Jb4 c)) (l := natI (List.range c.parts.length))
 generalize Jde (ltP (Jb4 c)) (natI (List.range c.parts.length)) = s' at hp hu
 have hdom : ∀ x ∈ s', ∃ i : Nat, x = i /\ i < c.parts.length := fun x hx => by
   obtain ⟨i, hi, rfl⟩ := List.mem_map.1 (hp.mem_iff.1 hx)
   exact ⟨i, rfl, List.mem_range.1 hi⟩
 have hback : natI (s'.map Int.toNat) = s' := by
   unfold natI
   rw [List.map_map]
   have : ∀ (l : List Int), (∀ x ∈ l, ∃ i : Nat, x = i /\ i < c.parts.length) -> l.map ((fun i : Nat => (i : Int)) ∘ Int.toNat) = l := fun l => by
     induction l with
     | nil => intro _; rfl
     | cons x l ih =>
       intro hl
       obtain ⟨i, rfl, _⟩ := hl x (by simp)
       rw [List.map_cons, ih fun y hy => hl y (by simp [hy])]
       simp
   exact this s' hdom
 have hps : (s'.map Int.toNat).Perm (List.range c.parts.length) := by
   have := hp.map Int.toNat
   rw [natI, List.map_map] at this
   have e : (List.range c.parts.length).map (Int.toNat ∘ fun i : Nat => (i : Int)) = List.range c.parts.length := by
     have : (Int.toNat ∘ fun i : Nat => (i : Int)) = id := by funext i; simp
     rw [this, List.map_id]
   rw [e] at this
   exact this
 have hnd : (s'.map Int.toNat).Nodup := hps.nodup_iff.2 List.nodup_range
 rw [<- hback]
 congr 1
 refine (Keo hps ?_).symm
 have hnd2 : s'.Pairwise fun x y => Int.toNat x ≠ Int.toNat y := by
   have := hnd
   rw [List.nodup_iff_pairwise_ne, List.pairwise_map] at this
   exact this
 rw [List.pairwise_map]
 refine (hu.and hnd2).imp_of_mem fun {x y} hx hy ⟨h1, h2⟩ => ?_
 obtain ⟨i, rfl, hi⟩ := hdom x hx
 obtain ⟨j, rfl, hj⟩ := hdom y hy
 simp only [Int.toNat_natCast] at h2 ⊢
 simp only [ltP, decide_eq_false_iff_not] at h1
 rw [Jx5 hi, Jx5 hj] at h1
 have h3 : Jbg (lblN c j) (lblN c i) = false := by
   cases h4 : Jbg (lblN c j) (lblN c i) with
   | false => rfl
   | true => exact absurd (Jmk.2 h4) h1
 cases h4 : Jbg (lblN c i) (lblN c j) with
 | true => rfl
 | false => exact absurd (Jyc (Jya h4 h3)) h2
def plcT (n k : Nat) : List Int := natI (List.range k) ++ List.replicate (n - k) 0
theorem Kfd {n k : Nat} (h : k <= n) : (plcT n k).length = n := by simp [plcT, natI]; omega
theorem Kfe {n k : Nat} (h : k < n) : (plcT n k).set k k = plcT n (k + 1) := by
 unfold plcT natI
 rw [List.set_append_right _ _ (by simp), show n - k = (n - (k + 1)) + 1 by omega, List.replicate_succ, List.range_succ]
 simp
theorem Kfc {n : Nat} : plcT n n = natI (List.range n) := by simp [plcT]
theorem Kff {n : Nat} : plcT n 0 = List.replicate n 0 := by simp [plcT, natI]
theorem Jzx {c : Circuit} : ∀ i ∈ Jb5 c, i < c.parts.length := by
 intro i hi
 unfold Jb5 at hi
 obtain ⟨m, _, hm⟩ := List.mem_flatMap.1 hi
 unfold Jg7 at hm
 exact List.mem_range.1 (List.mem_filter.1 hm).1
def lnsT (c : Circuit) (k : Nat) : List Txt := ((Jb5 c).take k).map (Jel c)
theorem Kbn {c : Circuit} {k i : Nat} (e : (Jb5 c)[k]? = some i) : lnsT c (k + 1) = lnsT c k ++ [Jel c i] := by unfold lnsT; rw [take_snoc e, List.map_append]; rfl
theorem Kbm {c : Circuit} {k : Nat} : (lnsT c k).length <= k := by unfold lnsT; rw [List.length_map, List.length_take]; exact Nat.min_le_left ..
set_option maxRecDepth 20000 in
theorem Ju1 (c : Circuit) (hs : Sized c) (hf : Jac c = 0 -> c.parts.length <= 12 /\ ∀ p ∈ c.parts, p.name.length < 1000000) : Pure Tryz.prog GL 6 [c.av] (.tup [.p (.lst 1 ((if Jac c = 0 then Jnk c else []).map Txt.enc)), .p (.int .i64 (Jac c))]) := by
 refine Pure.of_walk (N := 77) Tryz.func6 rfl rfl rfl (by simp) (by first | (simp; done) | simp [*]) ?_
 have hL := Ju0 c hs
 by_cases h : Jac c = 0
 . have h2 := Ja8 h
   obtain ⟨h12, hw⟩ := hf h
   rw [if_pos h, h] at hL
   rw [if_pos h, h, Jyg]
   have hll : (Jb4 c).length = c.parts.length := Jx6
   have hso := @J1j c
   have hat := fun {j : Nat} (hj : j < c.parts.length) => show (Jb4 c)[j]? = some (lblN c j) from Jnh hj
   generalize Jb4 c = L at hL hll hat hso
   simp
   refine Jab hL ?_
   simp
   refine ⟨by omega, by omega, ?_⟩
   refine Jag.goN [1, 6, 25] [0] 3 (fun (k : Nat) => [(4, .iptr 1 [[.lst 3 (L.map Lbl.enc)]] 0 0), (26, .p (.int .i64 k))]) (fun k => [(2, some (.cells 1 ((plcT L.length k).map Int.row)))]) (fun k => k <= L.length) (fun k => L.length - k) 0 (by omega) ?_ ?_
   . refine Leads.frz_sub (B := [1]) (ρ := [0, 1, 2]) [(4, .iptr 1 [[.lst 3 (L.map Lbl.enc)]] 0 0)] [(1, none)] (Freeze.of _ _ ?_ (by simp) (by simp [keys])) ?_
     . intro p hp
       simp only [List.mem_cons, List.not_mem_nil, or_false] at hp
       subst hp
       exact .frz _ _ (FrzA.cell (arows := [[.p (.lst 3 (L.map Lbl.enc))]]) (by simp) rfl rfl)
     . rw [Kff, show List.map Int.row (List.replicate L.length 0) = List.replicate L.length [AV.p (.int .i64 0)] by rw [List.map_replicate]]
       simp
   intro k hk
   have hpl := Kfd hk
   simp
   refine Jad (fun h3 => ?_) (fun h3 => ?_)
   . simp at h3
     have hst := Kfe h3
     obtain ⟨z, ez⟩ := Jae (show k < (plcT L.length k).length by omega)
     simp [h3, hpl, ez, -getElem?_pos, List.getElem?_cons_zero, List.getElem?_cons_succ]
     refine ⟨wrap_i64 (by omega) (by omega), k + 1, by omega, by omega, ?_⟩
     have hset : (List.map Int.row (plcT L.length k)).set k [AV.p (.int .i64 k)] = List.map Int.row (plcT L.length (k + 1)) := by rw [Kgv, hst]
     rw [hset]
     refine Leads.subx (ρ := [0, 1, 2]) ?_
     simp
   . simp at h3
     have hk2 : k = L.length := by omega
     subst hk2
     rw [Kfc]
     have hnl : (natI (List.range L.length)).length = L.length := by simp [natI]
     have hdm : Dom L (natI (List.range L.length)) := fun x hx => by
       obtain ⟨i, hi, rfl⟩ := List.mem_map.1 hx
       rw [List.mem_range] at hi
       exact ⟨by omega, by omega⟩
     have hS := fun s => J85 L (natI (List.range L.length)) s 3 2 (some L.length) (by omega)
     have hso2 := hso
     rw [<- hll] at hso2
     rw [hnl, hso2] at hS
     have holn : (natI (Jb5 c)).length = L.length := by rw [<- hso2, Jxq, hnl]
     simp
     refine Ja6 (hS _ (by simp [get]) (by omega) hdm) ?_
     simp
     refine Jag.go [1, 4, 37, 38] [0, 2] 1 [3] (nms [8]) (fun nx (k : Nat) => [(8, .acc nx 1 (lnsT c k).length), (39, .p (.int .i64 k))]) (fun nx k => [(nx, accB 1 ((lnsT c k).map Txt.row))]) (fun k => k <= L.length) (fun k => L.length - k) 0 (by omega) ?_ ?_
     . simp [lnsT]
       try decide
     intro k hk
     have hr3 : List.range 3 = [0, 1, 2] := rfl
     simp
     refine Jad (fun h5 => ?_) (fun h5 => ?_)
     . simp at h5
       obtain ⟨x, ex⟩ := Jae (show k < (natI (Jb5 c)).length by omega)
       obtain ⟨i, hi, rfl⟩ := List.mem_map.1 (List.mem_of_getElem? ex)
       have hil := Jzx i hi
       obtain ⟨q, eq⟩ := Jae hil
       have hqk := J0d h eq
       have hke := Jcw.2 hqk
       have hWo := J5k q.kind
       rw [hke, if_pos rfl] at hWo
       have heo : (Jb5 c)[k]? = some i := by
         unfold natI at ex
         rw [List.getElem?_map, Option.map_eq_some_iff] at ex
         obtain ⟨j, e1, e2⟩ := ex
         rw [e1]; congr 1; omega
       have hls := Kbn heo
       have hline : Jel c i = Ja0 (lblN c i) ++ (32 :: (q.name ++ (32 :: Jex q.kind.toNat))) := by unfold Jel; rw [Jrd eq, Jgh eq]
       have hlt := Kbm (c := c) (k := k)
       have hok := Ji4 h hil
       have ei := hat hil
       have hkc : k < c.parts.length := by omega
       have hnm := hw q (List.mem_of_getElem? eq)
       have htx := J11 hok
       have hwl := Kiw (k := q.kind.toNat) (by omega)
       simp [h5, ex, eq, holn, hil, hr3, -getElem?_pos, List.getElem?_cons_zero, List.getElem?_cons_succ]
       refine Jab hWo ?_
       simp
       refine Jak.intro (by kernel_rfl) ?_
       simp [eq, ei, hil, hll, -getElem?_pos, List.getElem?_cons_zero, List.getElem?_cons_succ]
       refine Jab (Ju3 (lblN c i) hok) ?_
       generalize Ja0 (lblN c i) = tx at *
       generalize Jex q.kind.toNat = wd at *
       simp [eq, ei, hil, hll, hr3, -getElem?_pos, List.getElem?_cons_zero, List.getElem?_cons_succ]
       refine ⟨by omega, by omega, by omega, by omega, by omega, .of (by kernel_rfl), wrap_i64 (by omega) (by omega), k + 1, by omega, by omega, ?_⟩
       rw [hls, hline]
       simp
     . simp at h5
       have hk2 : k = L.length := by omega
       subst hk2
       have hall : lnsT c L.length = (Jb5 c).map (Jel c) := by
         unfold lnsT
         rw [List.take_of_length_le (by have : (natI (Jb5 c)).length = (Jb5 c).length := by simp [natI]
                                        omega)]
       have hmm : List.map (Txt.enc ∘ Jel c) (Jb5 c) = (lnsT c L.length).map Txt.enc := by rw [hall, List.map_map]
       simp
       rw [hmm]
       simp [Jaa]
 . simp
   refine Jab hL ?_
   simp [h, Jaa]
end Go.Am
namespace Go.Am
open Go Go.Proofs Go.Pn Go.RowKit
theorem Kaj (s : Txt) : (Lib.indexAny s asvz = -1 /\ ∀ b ∈ s, b ∉ asvz) \/ ∃ (k : Nat) (b : UInt8), Lib.indexAny s asvz = k /\ s[k]? = some b /\ b ∈ asvz /\ ∀ x ∈ s.take k, x ∉ asvz := by
 induction s with
 | nil => left; exact ⟨rfl, by simp⟩
 | cons a s ih =>
   unfold Lib.indexAny
   by_cases h : asvz.contains a = true
   . rw [if_pos h]
     exact .inr ⟨0, a, rfl, rfl, by simpa using h, by simp⟩
   . rw [if_neg h]
     have ha : a ∉ asvz := by simpa using h
     rcases ih with ⟨h1, h2⟩ | ⟨k, b, h1, h2, h3, h4⟩
     . rw [h1]
       exact .inl ⟨rfl, by simp only [List.mem_cons]; rintro b (rfl | hb); exact ha; exact h2 b hb⟩
     . rw [h1]
       have : ¬ ((k : Int) == -1) = true := by simp
       rw [if_neg this]
       refine .inr ⟨k + 1, b, by omega, by simpa using h2, h3, ?_⟩
       rw [List.take_succ_cons]
       simp only [List.mem_cons]
       rintro x (rfl | hx)
       . exact ha
       . exact h4 x hx
theorem J65 {b : UInt8} (h : isDigit b = true) : b ∉ asvz := by
 have := Jis.1 h
 simp only [asvz, List.mem_cons, List.not_mem_nil, or_false]
 rintro (rfl | rfl | rfl | rfl) <;> revert this <;> decide
theorem Jot {x : Lbl} (h : chkL x = 0) : ∃ b, x.ltr = [b] /\ b ∈ asvz /\ Ja0 x = digN x.grp.toNat ++ b :: digN x.num.toNat /\ Lib.indexAny (Ja0 x) asvz = (digN x.grp.toNat).length /\
   atV (digN x.grp.toNat) = x.grp /\ atE (digN x.grp.toNat) = false /\ atV (digN x.num.toNat) = x.num /\ atE (digN x.num.toNat) = false := by
 obtain ⟨⟨a1, a2⟩, _, a4, a5⟩ := Jhm.1 h
 obtain ⟨b, hb, hbd, hbm'⟩ := Jnq h
 have hbm : b ∈ asvz := hbm'
 obtain ⟨_, _, c3, _, c5⟩ := @Jir x.grp.toNat (by omega)
 obtain ⟨_, _, _, _, d5⟩ := @Jir x.num.toNat (by omega)
 have et : Ja0 x = digN x.grp.toNat ++ b :: digN x.num.toNat := by unfold Ja0; rw [hb]; rfl
 have e1 : ∀ {n : Nat} {y : Int}, Lib.atoiAll (digN n) = .ok (n : Int) -> (n : Int) = y -> atV (digN n) = y /\ atE (digN n) = false := fun {n y} e hy => by
   unfold atV atE; rw [e]; exact ⟨hy, rfl⟩
 obtain ⟨f1, f2⟩ := e1 (y := x.grp) c5 (by omega)
 obtain ⟨f3, f4⟩ := e1 (y := x.num) d5 (by omega)
 refine ⟨b, hb, hbm, et, ?_, f1, f2, f3, f4⟩
 rw [et]
 have key : ∀ (d : Txt) (r : Txt), (∀ y ∈ d, isDigit y = true) -> Lib.indexAny (d ++ b :: r) asvz = d.length := fun d r => by
   induction d with
   | nil => intro _; rw [List.nil_append, Lib.indexAny, if_pos (List.contains_iff_mem.2 hbm)]; rfl
   | cons a d ih =>
     intro hd
     have ha := J65 (hd a (by simp))
     rw [List.cons_append, Lib.indexAny, if_neg (by simpa using ha), ih fun y hy => hd y (by simp [hy])]
     have : ¬ ((d.length : Int) == -1) = true := by simp
     rw [if_neg this]; simp
 exact key _ _ c3
def prX (s : Txt) (k : Nat) (b : UInt8) : Lbl := ⟨atV (s.take k), [b], atV (s.drop (k + 1))⟩
theorem Kfk {s : Txt} {k : Nat} {b : UInt8} (hk : Lib.indexAny s asvz = k) (eb : s[k]? = some b) (h : atE (s.take k) = true \/ atE (s.drop (k + 1)) = true \/ chkL (prX s k b) ≠ 0 \/ Ja0 (prX s k b) ≠ s) : parL s = noL /\ parE s = 4 := by
 refine par_none fun x hx e => ?_
 obtain ⟨b', e1, e2, e3, e4, e5, e6, e7, e8⟩ := Jot hx
 rw [e] at e3 e4
 have hkl : k = (digN x.grp.toNat).length := by omega
 have h1 : s.take k = digN x.grp.toNat := by rw [hkl, e3, List.take_left]
 have h2 : s.drop k = b' :: digN x.num.toNat := by rw [hkl, e3, List.drop_left]
 have h3 : s.drop (k + 1) = digN x.num.toNat := by rw [<- List.drop_drop, h2]; rfl
 have h4 : b = b' := by
   have : (s.drop k)[0]? = some b := by rw [List.getElem?_drop]; simpa using eb
   rw [h2] at this; simpa using this.symm
 have h5 : prX s k b = x := by
   unfold prX
   rw [h1, h3, e5, e7, h4, <- e1]
 rcases h with h | h | h | h
 . rw [h1, e6] at h; cases h
 . rw [h3, e8] at h; cases h
 . rw [h5] at h; exact h hx
 . rw [h5] at h; exact h e
theorem Kfl {s : Txt} (h : ∀ b ∈ s, b ∉ asvz) : parL s = noL /\ parE s = 4 := by
 refine par_none fun x hx e => ?_
 obtain ⟨b', e1, e2, e3, _⟩ := Jot hx
 refine h b' ?_ e2
 rw [<- e, e3]; simp
end Go.Am
namespace Go.Am
open Go Go.Proofs Go.Pn
theorem Jug (xs ys : List Txt) (hl : xs.length < 4611686018427387904) : Pure Tryz.prog GL 15 [.p (.lst 1 (xs.map Txt.enc)), .p (.lst 1 (ys.map Txt.enc))] (.p (.bool (decide (xs = ys)))) := by
 refine Pure.of_walk (N := 26) Tryz.func15 rfl rfl rfl (by simp) (by first | (simp; done) | simp [*]) ?_
 simp
 refine Jad (fun h0 => ?_) (fun h0 => ?_)
 . simp at h0
   have hne : ¬ xs = ys := fun h => h0 (by rw [h])
   simp [Jaa, hne]
 . simp at h0
   simp
   refine Jag.go [0, 1, 12] [] 0 [] (fun _ => []) (fun _ (k : Nat) => [(13, .p (.int .i64 k))]) (fun _ _ => []) (fun k => k <= xs.length /\ ∀ (j : Nat), j < k -> xs[j]? = ys[j]?) (fun k => xs.length - k) 0 ⟨by omega, fun j h => by omega⟩ ?_ ?_
   . simp
   . rintro k ⟨hk, hp⟩
     simp
     refine Jad (fun h => ?_) (fun h => ?_)
     . simp at h
       obtain ⟨x, e⟩ := Jae h
       have h2 : k < ys.length := by omega
       obtain ⟨y, e2⟩ := Jae h2
       simp
       refine Jak.intro (by kernel_rfl) ?_
       simp [h, e, h2, e2, -getElem?_pos, List.getElem?_cons_zero, List.getElem?_cons_succ]
       refine ⟨.of (by kernel_rfl), ?_⟩
       refine Jad (fun h3 => ?_) (fun h3 => ?_)
       . have hne : ¬ xs = ys := fun h => by subst h; rw [e] at e2; cases e2; simp at h3
         simp [Jaa, hne]
       . have hxy : x = y := by simpa using h3
         subst hxy
         simp
         refine ⟨wrap_i64 (by omega) (by omega), k + 1, ⟨by omega, fun j hj => ?_⟩, by omega, ?_⟩
         . by_cases hjk : j = k
           . subst hjk; rw [e, e2]
           . exact hp j (by omega)
         . simp
     . simp at h
       have hk2 : k = xs.length := by omega
       have hxy : xs = ys := List.ext_getElem? fun j => by
         by_cases hj : j < k
         . exact hp j hj
         . rw [List.getElem?_eq_none (by omega), List.getElem?_eq_none (by omega)]
       simp [Jaa, hxy]
theorem J76 {c : Circuit} (h : fewP c = true) : Jac c = 0 -> c.parts.length <= 12 /\ ∀ p ∈ c.parts, p.name.length < 1000000 := by
 intro h0
 have h2 := (Ja8 h0).2.1
 have hf : Jeg c := by simpa [fewP] using h
 obtain ⟨h3, _, h4, _⟩ := hf
 have h12 : c.parts.length <= 12 := by omega
 refine ⟨h12, fun p hp => ?_⟩
 obtain ⟨j, e⟩ := List.mem_iff_getElem?.1 hp
 have := h3 j p (by have := (gsI.1 e).1; omega) e
 omega
def d26 : List Txt := [[48, 90, 49, 32, 83, 32, 115, 117, 112, 112, 108, 121], [49, 65, 49, 32, 65, 32, 99, 121, 108, 105, 110, 100, 101, 114], [49, 83, 49, 32, 65, 48, 32, 108, 105, 109, 105, 116], [49, 86, 49, 32, 86, 32, 118, 97, 108, 118, 101, 53, 50, 115]]
theorem Jxz : Jac Jeh = 0 := by decide +kernel
theorem Kal : Jnk Jeh = d26 := by decide +kernel
theorem wF {f : Nat} {args : List AV} {r : AV} (h : Pure Tryz.prog GL f args r) : Pure Tryz.prog GL4 f args r := h.wider Jpd
end Go.Am
namespace Go.Am
open Go Go.Proofs Go.Pn
end Go.Am
namespace Go.Am
open Go Go.Proofs Go.Pn
theorem Ka7 {c : Circuit} (h : Jac c = 0) {i : Nat} (hi : i < c.parts.length) : fndE c (lblN c i) = 0 /\ fndR c (lblN c i) = i := by
 have hok := Ji4 h hi
 have hm : (Jb4 c)[i]? = some (lblN c i) := Jnh hi
 have e : fndE c (lblN c i) = 0 := by
   unfold fndE
   rw [if_neg (by simpa using h), if_neg (by simpa using hok), if_pos (List.mem_of_getElem? hm)]
 refine ⟨e, ?_⟩
 unfold fndR
 rw [e, if_neg (by simp)]
 refine Jej (q := fun y => decide (y = lblN c i)) hm (by simp) fun j y hj ey => ?_
 have : (Jb4 c)[j]? = some (lblN c j) := Jnh (by omega)
 rw [this] at ey; cases ey
 exact decide_eq_false fun he => by have := Jyc he; omega
end Go.Am
namespace Go.Am
open Go Go.Proofs Go.Pn
theorem J8t {A : Nat -> List Int} {g : List Int} {n : Nat} {k : Int} (h : gAt g k ≠ -1) : gAt (Jbd A g n) k = gAt g k := by
 unfold gAt at h ⊢
 by_cases hk : k.toNat < g.length
 . rw [Jeq hk]
   obtain ⟨x, ex⟩ := Jae hk
   rw [ex] at h ⊢
   simp only at h
   have hx : gAt g (k.toNat : Nat) = x := Jcf ex
   simp only [hx]
   rw [if_neg (fun hh => h hh.2)]
 . rw [List.getElem?_eq_none (by omega)] at h
   exact absurd rfl h
theorem Jw4 {A : Nat -> List Int} {g : List Int} {n k : Nat} {j : Int} (h : gAt (Jax A n g k) j ≠ -1) : ∀ m, gAt (Jax A n g (k + m)) j = gAt (Jax A n g k) j
 | 0 => rfl
 | m + 1 => by
   have ih := Jw4 h m
   rw [show k + (m + 1) = (k + m) + 1 from rfl, Jax, J8t (by rw [ih]; exact h), ih]
theorem Jw3 {A : Nat -> List Int} {g : List Int} {n k : Nat} {j : Int} (hk : k <= g.length) (h : gAt (Jax A n g k) j ≠ -1) : gAt (endT A n g) j = gAt (Jax A n g k) j := by
 unfold endT
 obtain ⟨m, hm⟩ : ∃ m, g.length = k + m := ⟨g.length - k, by omega⟩
 rw [hm]
 exact Jw4 h m
def rg (c : Circuit) (i : Int) : Int := gAt (rawG c) i
theorem Jw2 {c : Circuit} {i : Nat} (h : i < c.parts.length) : gAt (firstT c c.parts.length c.parts.length) i = grpK c c.parts.length i := Jcf (Jho h)
theorem J8r {c : Circuit} {i : Nat} {q : Part} (e : c.parts[i]? = some q) (hk : q.kind = 1) : 1 <= gAt (firstT c c.parts.length c.parts.length) i := by
 have hi := (gsI.1 e).1
 rw [Jw2 hi]
 unfold grpK
 rw [e]
 simp only [hk, if_true, hi]
 rw [Jv9 e, if_pos hk]
 have := @Jmo c i
 omega
theorem J8s {c : Circuit} {i : Nat} {q : Part} (e : c.parts[i]? = some q) (h0 : q.kind ≠ 0) (h1 : q.kind ≠ 1) (h6 : q.kind ≠ 6) : gAt (firstT c c.parts.length c.parts.length) i = -1 := by
 have hi := (gsI.1 e).1
 rw [Jw2 hi]
 unfold grpK
 rw [e]
 simp only
 rw [if_neg h1, if_neg h0, if_neg h6]
theorem Kf7 {c : Circuit} {i : Int} (h : gAt (firstT c c.parts.length c.parts.length) i ≠ -1) : rg c i = gAt (firstT c c.parts.length c.parts.length) i :=
 Jw3 (k := 0) (by omega) h
theorem Jxh {c : Circuit} {i : Nat} (hi : i < c.parts.length) : gAt (Jcg c) i = max (rg c i) 0 := by
 obtain ⟨x, ex⟩ := Jae (show i < (rawG c).length by rw [Jod]; exact hi)
 have e1 : rg c i = x := Jcf ex
 rw [e1]
 refine Jcf ?_
 unfold Jcg
 rw [List.getElem?_map, ex]; rfl
theorem J7h {c : Circuit} (h : Jac c = 0) {i : Nat} {q : Part} (e : c.parts[i]? = some q) (hd : Ja1 c q.name = 0) :
   ∃ v : Nat, (Ja2 c q.name).1 = v /\ v < c.parts.length /\ 1 <= gAt (Jcg c) v /\ gAt (Jcg c) v <= gAt (Jcg c) i := by
 have hi := (gsI.1 e).1
 obtain ⟨hk, v, hv, hf⟩ := Jqd h e hd
 refine ⟨v, hv, hf.lt, ?_⟩
 obtain ⟨hp2, _⟩ := Jp8 e hk
 obtain ⟨s2a, s2b⟩ := Jsk h hp2
 have h2 := hf.two.2.1
 rw [s2b] at h2
 obtain ⟨fx1, fx2, fx3⟩ := Jqj (c := c) (i := i) (s := [50]) (a := ⟨v, if (Ja2 c q.name).2 then [50] else [52]⟩) (by rw [h2]; simp)
 have hki : Jaj c (i : Int) = 1 := by rw [Jgh e, hk]
 have hrole : Jbk c ⟨(i : Int), [50]⟩ = 4 := by
   rw [Joi (k := 1) (by simpa using hki)]
   show Jc0 1 [50] = 4
   decide +kernel
 have hdir : (i : Int) ∈ dirL c v := by
   rw [Kbv]
   refine .inr ⟨_, fx2, rfl, by simp [Jcv, fx3], ⟨(i : Int), [50]⟩, List.mem_filter.2 ⟨Jtx hp2 fx1, ?_⟩, rfl⟩
   simp [Joo, Jh8, hrole]
 have hkv : Jaj c v = 2 \/ Jaj c v = 3 := by
   have hix : Jcq c q.name = i := Jgk h e
   have hdr : Ja2 c q.name = (Jcp c i).getD (0, false) := by unfold Ja2; rw [hd, if_neg (by simp), hix]
   cases ho : Jcp c i with
   | none =>
     unfold Ja1 at hd
     rw [if_neg (by simpa using h), hix, if_neg (by omega), hki, if_neg (by simp), ho] at hd
     simp at hd
   | some r =>
     rw [hdr, ho] at hv
     simp only [Option.getD_some] at hv
     unfold Jcp at ho
     split at ho
     . split at ho
       . cases ho
       . split at ho
         . rename_i hkk
           simp only [Option.some.injEq] at ho
           rw [<- ho] at hv
           simp only at hv
           rw [hv] at hkk
           exact hkk
         . cases ho
     . cases ho
 obtain ⟨qv, ev⟩ := Jae hf.lt
 rw [Jgh ev] at hkv
 have gv := J8s ev (by omega) (by omega) (by omega)
 have gi := J8r e hk
 have ri := Kf7 (c := c) (i := i) (by omega)
 have hl : 1 <= (firstT c c.parts.length c.parts.length).length := by rw [Jce]; omega
 have hn := Jeq (A := fun i => dirL c (i : Int)) (n := c.parts.length) (g := firstT c c.parts.length c.parts.length) (i := v) (by rw [Jce]; exact hf.lt)
 rw [gv, if_pos ⟨hf.lt, rfl⟩] at hn
 have hn2 := Jcf hn
 have hmin : 1 <= minG (firstT c c.parts.length c.parts.length) (dirL c (v : Int)) (-1) /\ minG (firstT c c.parts.length c.parts.length) (dirL c (v : Int)) (-1) <= gAt (firstT c c.parts.length c.parts.length) i := by
   rcases @Jkx (firstT c c.parts.length c.parts.length) (dirL c (v : Int)) with ⟨_, h3⟩ | ⟨⟨y, _, h3, h4⟩, h5⟩
   . exact absurd ⟨(i : Int), hdir, rfl, gi⟩ (h3 _)
   . exact ⟨h4, h5 _ ⟨(i : Int), hdir, rfl, gi⟩⟩
 have hrv : rg c v = gAt (Jax (fun i => dirL c (i : Int)) c.parts.length (firstT c c.parts.length c.parts.length) 1) v :=
   Jw3 (k := 1) hl (by have := hn2; show ¬ gAt (Jbd (fun i => dirL c (i : Int)) (firstT c c.parts.length c.parts.length) c.parts.length) (v : Int) = -1; omega)
 have hrv2 : rg c v = minG (firstT c c.parts.length c.parts.length) (dirL c (v : Int)) (-1) := by rw [hrv]; exact hn2
 rw [Jxh hf.lt, Jxh hi, hrv2, ri]
 omega
end Go.Am
namespace Go.Am
open Go Go.Proofs Go.Pn
end Go.Am
namespace Go.Am
open Go Go.Proofs Go.Pn
theorem J6b (c : Circuit) (hs : Sized c) : Pure Tryz.prog GL 4 [c.av] (.p (.bool (fewP c && decide (Jac c = 0)))) := by
 refine Pure.of_walk (N := 10) Tryz.func4 rfl rfl rfl (by simp) (by first | (simp; done) | simp [*]) ?_
 have hF := J55 c hs
 have hC := J53 c hs
 simp
 refine Jab hF ?_
 cases h : fewP c with
 | true =>
   simp
   refine Jab hC ?_
   simp [Jaa]
 | false => simp [Jaa]
theorem kT_p : Jg6 Jeh [0, 0, 0, 0] [65] = -1 /\ Jh2 Jeh [0, 0, 0, 0] [65] = 0 /\ Jg6 Jeh [0, 0, 0, 1] [65] = 1 /\ Jh2 Jeh [0, 0, 0, 1] [65] = 0 := by decide +kernel
set_option maxRecDepth 40000 in
theorem J6a (_ : Unit) : Pure Tryz.prog GL 5 [] (.p (.bool true)) := by
 refine Pure.of_walk (N := 51) Tryz.func5 rfl rfl rfl (by simp) (by first | (simp; done) | simp [*]) ?_
 obtain ⟨hs, _⟩ := J8n
 have hFo := J5s
 have hA := Jvh Jeh [0, 0, 0, 0] [65] hs (by decide)
 have hB := Jvh Jeh [0, 0, 0, 1] [65] hs (by decide)
 have hD := Ju1 Jeh hs fun _ => by decide +kernel
 rw [kT_p.1, kT_p.2.1] at hA
 rw [kT_p.2.2.1, kT_p.2.2.2] at hB
 rw [if_pos Jxz, Jxz, Kal] at hD
 simp
 refine Jab hFo ?_
 simp
 refine Jcs ?_
 simp
 refine ⟨_, hA, rfl, ?_⟩
 simp
 refine Jcs ?_
 simp
 refine ⟨_, hB, rfl, ?_⟩
 simp
 refine Jab hD ?_
 simp [d26]
 simp [Jaa]
end Go.Am
namespace Go.Am
open Go Go.Proofs Go.Shelf Go.RowKit Go.Lib Go.Pn
variable {P : Program} {ρ : Ren}
theorem J7r {r : Int} (h : 128 <= r) : ∃ (n : Nat) (b : UInt8), (Utf8.encode r).size = n + 2 /\ (Utf8.encode r).data.toList[n + 1]? = some b /\ 128 <= b.toNat /\ n <= 2 := by
 have key : ∀ c : Nat, 128 <= (UInt8.ofNat (0x80 + c % 64)).toNat := fun c => by
   rw [UInt8.toNat_ofNat']
   omega
 have hc : 128 <= (if Utf8.valid r then r.toNat else Utf8.runeError) := by
   split
   . omega
   . decide
 unfold Utf8.encode
 generalize (if Utf8.valid r then r.toNat else Utf8.runeError) = c at hc
 simp only
 rw [if_neg (by omega)]
 split
 . exact ⟨0, _, rfl, rfl, key c, by omega⟩
 . split
   . exact ⟨1, _, rfl, rfl, key c, by omega⟩
   . exact ⟨2, _, rfl, rfl, key c, by omega⟩
theorem J08 {t : TypeId} {s : ByteArray} {i : Int} {j : Nat} {x : UInt8} (w : World) (ht : P.underlying t = some .string) (hi : i = (j : Int)) (hx : s.data.toList[j]? = some x) :
   (Instr.index t (.string s) (.int .i64 i)).run P w = .ok (.int .u8 x.toNat) w := by
 subst hi
 obtain ⟨h1, h2⟩ := gsI.1 hx
 have h3 : j < s.size := by rw [Lib.size_eq]; exact h1
 rw [run_index_string w _ _ _ _ ht, dif_pos ⟨by omega, by omega⟩]
 simp only [Int.toNat_natCast]
 have : s[j]'h3 = x := by rw [<- h2]; rfl
 rw [this]
theorem J91 {l : List UInt8} {b : UInt8} (h : ∀ c ∈ l, c ≠ b) : Lib.indexByte l b = -1 := by
 induction l with
 | nil => rfl
 | cons c l ih =>
   rw [Lib.indexByte, if_neg (by simpa using h c (List.mem_cons_self ..)), if_pos (by rw [ih fun c hc => h c (List.mem_cons_of_mem _ hc)]; rfl)]
set_option maxHeartbeats 4000000 in
set_option maxRecDepth 1000000 in
theorem Kex (L : Lays.n152 P ρ) (s : ByteArray) (r : Int) (w : World) (hs : s.size < 1000) (has : ∀ (j : Nat) b, s.data.toList[j]? = some b -> b.toNat < 128) (h0 : 128 <= r) (h1 : r <= 2147483647) (hne : r ≠ 65533) :
   Calls P (ρ.f 152) #[.string s, .int .i32 r] w fun e w' => e = .returned (.int .i64 (-1)) /\ Below w.heap.size w w' := by
 have t3 := L.t3; have a3 := L.a3; have z3 := L.z3; have v3 := L.v3
 have t4 := L.t4; have a4 := L.a4; have z4 := L.z4; have v4 := L.v4
 have t5 := L.t5; have a5 := L.a5; have z5 := L.z5; have v5 := L.v5
 have t9 := L.t9; have a9 := L.a9; have z9 := L.z9; have v9 := L.v9
 have t21 := L.t21; have a21 := L.a21; have z21 := L.z21; have v21 := L.v21
 have e137 : ∀ args w, (callFunc (ρ.f 137) args).run P w = .ok (.enter (ρ.f 137) args) w := enters_of L.f137 (by kernel_rfl) rfl
 have e119 : ∀ args w, (callFunc (ρ.f 119) args).run P w = .ok (.enter (ρ.f 119) args) w := enters_of L.f119 (by kernel_rfl) rfl
 have d1 : decide (r < 128) = false := decide_eq_false (by omega)
 have d2 : decide ((0 : Int) <= r) = true := decide_eq_true (by omega)
 have d3 : (r == 65533) = false := beq_eq_false_iff_ne.2 hne
 obtain ⟨n, b, n1, n2, n3, n4⟩ := J7r h0
 cases hv : Lib.validRune r with
 | false =>
   go_enter L.f152, Body.n152_ntmps ρ
   go_wp2_with (go_at_fn (ρ.f 119); refine (Any.utf8_ValidRune { L with } _ _).mono ?_; rintro e w' ⟨rfl, hw⟩; rw [hw, hv])
   go_ret
   exact ⟨rfl, Below.refl _ _⟩
 | true =>
   go_enter L.f152, Body.n152_ntmps ρ
   go_wp2_with (go_at_fn (ρ.f 119); refine (Any.utf8_ValidRune { L with } _ _).mono ?_; rintro e w' ⟨rfl, hw⟩; rw [hw, hv])
   have mixed := L.mixed
   go_step3
   go_wp2
   by_cases hn : (n : Int) + 1 < s.size
   . go_loopg [9] 1 (fun g v9 wx => v9 = .int .i64 ((n : Int) + 2 - 1) /\ wx = w)
     case atStart => exact ⟨rfl, rfl⟩
     case round =>
       obtain ⟨rfl, rfl⟩ := hrel
       have c1 : decide ((n : Int) + 2 - 1 < s.size) = true := decide_eq_true (by omega)
       obtain ⟨x, hx⟩ : ∃ x : UInt8, s.data.toList[n + 1]? = some x := ⟨_, List.getElem?_eq_getElem (by rw [<- Lib.size_eq]; omega)⟩
       have hx1 := has (n + 1) x hx
       go_wp2
       go_step3
       have ri : ∀ w, (Instr.index (ρ.t 9) (.string s) (.int .i64 ((n : Int) + 2 - 1))).run P w = .ok (.int .u8 x.toNat) w := fun w => J08 w t9 (j := n + 1) (by omega) hx
       have re : ∀ w, (Instr.index (ρ.t 9) (.string (Utf8.encode r)) (.int .i64 ((n : Int) + 2 - 1))).run P w = .ok (.int .u8 b.toNat) w := fun w => J08 w t9 (j := n + 1) (by omega) n2
       have rs : ∀ w, (Instr.slice (ρ.t 9) (.string s) (some (.int .i64 ((n : Int) + 2))) none none).run P w = .ok (.string (s.extract (n + 2) s.size)) w := fun w => by
         rw [run_slice_string_from_if w _ _ _ _ t9, if_pos (by omega)]
         rfl
       have hb : (((x.toNat : Int)) == ((b.toNat : Int))) = false := beq_eq_false_iff_ne.2 (by omega)
       have hbb : ((b.toNat : Int)).toNat.toUInt8 = b := by simp
       have hnone : Lib.indexByte (List.take (s.size - (n + 2)) (List.drop (n + 2) s.data.toList)) b = -1 := J91 fun c hc e => by
         obtain ⟨j, hj⟩ := List.mem_iff_getElem?.1 (List.mem_of_mem_drop (List.mem_of_mem_take hc))
         have := has j c hj
         rw [e] at this
         omega
       have hw2 : IntKind.i64.wrap ((n : Int) + 2) = (n : Int) + 2 := wrap_i64 (by omega) (by omega)
       go_wp2
       go_quiet_o (fail)
       go_wp2
       have hal : Aside (Below wr.heap.size wr (wr.drewN nq)) := ⟨rfl, rfl, rfl, Nat.le_refl _, fun _ _ => rfl⟩
       generalize wr.drewN nq = wq at hal ⊢
       go_quiet_o ((go_at_fn (ρ.f 137); go_must (refine Calls.quiet_of_same (Any.strings_IndexByte { L with } _ _ _))))
       go_wp2
       show bodyPost P (Body.n152 ρ) (fun e w' => e = .returned (.int .i64 (-1)) /\ Below wr.heap.size wr w') .ret _ _
       go_ret
       exact ⟨rfl, hal.out.trans ⟨rfl, rfl, rfl, Nat.le_refl _, fun _ _ => rfl⟩⟩
   . have c1 : decide ((n : Int) + 2 - 1 < s.size) = false := decide_eq_false (by omega)
     go_loopg [9] 1 (fun g v9 wx => v9 = .int .i64 ((n : Int) + 2 - 1) /\ wx = w)
     case atStart => exact ⟨rfl, rfl⟩
     case round =>
       obtain ⟨rfl, rfl⟩ := hrel
       go_wp2
       go_ret
       exact ⟨rfl, Below.refl _ _⟩
set_option maxHeartbeats 4000000 in
set_option maxRecDepth 1000000 in
theorem Kew (L : Lays.n152 P ρ) (s : ByteArray) (w : World) (has : ∀ (j : Nat) b, s.data.toList[j]? = some b -> b.toNat < 128) :
   Calls P (ρ.f 152) #[.string s, .int .i32 65533] w fun e w' => e = .returned (.int .i64 (-1)) /\ ∃ pos, w' = w.iter s pos := by
 have HA : Aside (∀ (j : Nat) b, s.data.toList[j]? = some b -> b.toNat < 128) := has
 clear has
 have t3 := L.t3; have a3 := L.a3; have z3 := L.z3; have v3 := L.v3
 have t4 := L.t4; have a4 := L.a4; have z4 := L.z4; have v4 := L.v4
 have t5 := L.t5; have a5 := L.a5; have z5 := L.z5; have v5 := L.v5
 have t9 := L.t9; have a9 := L.a9; have z9 := L.z9; have v9 := L.v9
 have t21 := L.t21; have a21 := L.a21; have z21 := L.z21; have v21 := L.v21
 have d1 : decide ((65533 : Int) < 128) = false := rfl
 go_enter L.f152, Body.n152_ntmps ρ
 go_wp2
 go_loopg [5, 6] s.size (fun g _ _ wx => ∃ i : Nat, i + g = s.size /\ wx = w.iter s i)
 case atStart => exact ⟨0, by omega, rfl⟩
 case round =>
   obtain ⟨i, hig, rfl⟩ := hrel
   cases gk with
   | zero =>
     obtain rfl : i = s.size := by omega
     have hnx := run_next_end (P := P) w s s.size
     go_wp2
     go_ret
     exact ⟨rfl, _, rfl⟩
   | succ g =>
     have hi : i < s.size := by omega
     obtain ⟨x, hx⟩ : ∃ x : UInt8, s[i]'hi = x := ⟨_, rfl⟩
     have hxl : s.data.toList[i]? = some x := by rw [<- hx]; exact Lib.data_getElem? s i hi
     have hx128 : x.toNat < 128 := HA.out i x hxl
     have hnx := fun ty => run_next_ascii (P := P) w s i ty hi (by rw [hx]; exact hx128)
     rw [hx] at hnx
     clear hxl hx
     have hne : ((x.toNat : Int) == 65533) = false := beq_eq_false_iff_ne.2 (by omega)
     go_wp2
     go_roundg g
     case measure => omega
     case rel => exact ⟨i + 1, by omega, rfl⟩
theorem Kev (L : Lays.n152 P ρ) (s : ByteArray) (r : Int) (w : World) (hs : s.size < 1000) (has : ∀ (j : Nat) b, s.data.toList[j]? = some b -> b.toNat < 128) (h0 : 128 <= r) (h1 : r <= 2147483647) :
   Calls P (ρ.f 152) #[.string s, .int .i32 r] w fun e w' => e = .returned (.int .i64 (-1)) /\ Below w.heap.size w w' := by
 by_cases e : r = 65533
 . subst e
   refine (Kew L s w has).mono ?_
   rintro e w' ⟨rfl, p, rfl⟩
   exact ⟨rfl, (Below.refl _ _).alloc (Nat.le_refl _) _⟩
 . exact Kex L s r w hs has h0 h1 e
theorem J64 (s : ByteArray) (pos : Nat) (h : pos < s.size) : pos + (Utf8.decode s pos).2 <= s.size /\ ∀ k, 1 <= k -> k < (Utf8.decode s pos).2 -> 128 <= (s.get! (pos + k)).toNat := by
 have ht : ∀ k, ((s.get! (pos + k)).toNat / 64 == 2) = true -> 128 <= (s.get! (pos + k)).toNat := fun k hk => by
   have := beq_iff_eq.1 hk
   omega
 have e3 : ∀ {k n : Nat}, 1 <= k -> k < n -> n <= 4 -> k = 1 \/ (k = 2 /\ 3 <= n) \/ (k = 3 /\ n = 4) := by omega
 simp only [Utf8.decode]
 repeat' split
 all_goals simp only [Bool.and_eq_true, decide_eq_true_eq] at *
 all_goals refine ⟨by omega, fun k k1 k2 => ?_⟩
 all_goals try omega
 all_goals rcases e3 k1 k2 (by decide) with rfl | ⟨rfl, k3⟩ | ⟨rfl, k3⟩
 all_goals first | (exfalso; omega) | (apply ht; simp_all)
set_option maxHeartbeats 8000000 in
set_option maxRecDepth 1000000 in
theorem Keu (L : Lays.n153 P ρ) (s chars : ByteArray) (w : World) (h2 : 2 <= chars.size) (h3 : chars.size < 1000) (h8 : s.size <= 8) (hac : ∀ (j : Nat) b, chars.data.toList[j]? = some b -> b.toNat < 128) :
   Calls P (ρ.f 153) #[.string s, .string chars] w fun e w' => e = .returned (.int .i64 (Lib.indexAny s.data.toList chars.data.toList)) /\ Below w.heap.size w w' := by
 have HC : Aside (∀ (j : Nat) b, chars.data.toList[j]? = some b -> b.toNat < 128) := hac
 clear hac
 have hemp : chars.toList.isEmpty = false := by
   rw [Lib.toList_data]
   cases h : chars.data.toList with
   | nil => have := Lib.size_eq chars; rw [h, List.length_nil] at this; omega
   | cons _ _ => rfl
 have hn1 : ((chars.size : Int) == 1) = false := beq_eq_false_iff_ne.2 (by omega)
 have h8z : decide ((8 : Int) < (s.size : Int)) = false := decide_eq_false (by omega)
 have t3 := L.t3; have a3 := L.a3; have z3 := L.z3; have v3 := L.v3
 have t4 := L.t4; have a4 := L.a4; have z4 := L.z4; have v4 := L.v4
 have t5 := L.t5; have a5 := L.a5; have z5 := L.z5; have v5 := L.v5
 have t9 := L.t9; have a9 := L.a9; have z9 := L.z9; have v9 := L.v9
 have t21 := L.t21; have a21 := L.a21; have z21 := L.z21; have v21 := L.v21
 have e152 : ∀ args w, (callFunc (ρ.f 152) args).run P w = .ok (.enter (ρ.f 152) args) w := enters_of L.f152 (by kernel_rfl) rfl
 have e226 : ∀ args w, (callFunc (ρ.f 226) args).run P w = .ok (.enter (ρ.f 226) args) w := enters_of L.f226 (by kernel_rfl) rfl
 go_enter L.f153, Body.n153_ntmps ρ
 go_wp2_with (go_at_fn (ρ.f 226); refine (Any.strings_shouldUseASCIISet { L with } _ _).mono ?_; rintro e w' ⟨rfl, hw⟩; rw [hw, h8z])
 go_loopg [9, 10] s.size (fun g _ _ wx => ∃ i : Nat, i <= s.size /\ s.size - i <= g /\ wx.heap[w.heap.size]? = some (.stringIter s i) /\ Aside (Below w.heap.size w wx) /\ Lib.NoAny s.data.toList chars.data.toList i)
 case atStart => exact ⟨0, by omega, by omega, World.iter_heap _ _ _, (Below.refl _ _).alloc (Nat.le_refl _) _, Lib.NoAny.zero _ _⟩
 case round =>
   obtain ⟨i, hi0, hig, hit, HB, hno⟩ := hrel
   have HN : Aside (Lib.NoAny s.data.toList chars.data.toList i) := hno
   clear hno
   by_cases hi : i < s.size
   . obtain ⟨g, rfl⟩ : ∃ g, gk = g + 1 := ⟨gk - 1, by omega⟩
     obtain ⟨x, hx⟩ : ∃ x : UInt8, s[i]'hi = x := ⟨_, rfl⟩
     have hxl : s.data.toList[i]? = some x := by rw [<- hx]; exact Lib.data_getElem? s i hi
     have hk : w.heap.size < wr.heap.size := (Array.getElem?_eq_some_iff.1 hit).1
     by_cases hx128 : x.toNat < 128
     . have hnx := fun ty => run_next_ascii_at (P := P) wr w.heap.size s i ty hit hi (by rw [hx]; exact hx128)
       rw [hx] at hnx
       have Hx : Aside (s.data.toList[i]? = some x) := hxl
       have hit2 := iterAt_heap wr w.heap.size s i (i + 1) hit
       have HB2 : Aside (Below w.heap.size w (wr.iterAt w.heap.size s (i + 1))) := below_iterAt HB.out (Nat.le_refl _) _ _
       generalize wr.iterAt w.heap.size s (i + 1) = wn at hnx hit2 HB2
       clear hxl hx
       have hcon := Lib.contains_iff_indexByte chars.data.toList x
       have hback : ((x.toNat : Int)).toNat.toUInt8 = x := by simp
       cases hin : chars.data.toList.contains x
       . rw [hin] at hcon
         have hlt : ¬ ((0 : Int) <= Lib.indexByte chars.data.toList x) := of_decide_eq_false hcon.symm
         clear hcon
         go_wp2_with (go_at_fn (ρ.f 152); refine (Any.strings_IndexRune_ascii { L with } _ _ _ (by omega) (by omega)).mono ?_; rintro e w' ⟨rfl, hw⟩; rw [hw, hback])
         go_roundg g
         case measure => omega
         case rel => exact ⟨i + 1, by omega, by omega, hit2, HB2, HN.out.succ Hx.out hin⟩
       . rw [hin] at hcon
         have hge : (0 : Int) <= Lib.indexByte chars.data.toList x := of_decide_eq_true hcon.symm
         clear hcon
         go_wp2_with (go_at_fn (ρ.f 152); refine (Any.strings_IndexRune_ascii { L with } _ _ _ (by omega) (by omega)).mono ?_; rintro e w' ⟨rfl, hw⟩; rw [hw, hback])
         go_ret
         exact ⟨by rw [Lib.indexAny_hit HN.out Hx.out hin]; rfl, HB2.out⟩
     . obtain ⟨d1, d2⟩ := decode_high s i hi (by rw [hx]; omega)
       have d3 := decode_le s i
       obtain ⟨d4, d5⟩ := J64 s i hi
       have hnx := fun ty => run_next_any_at (P := P) wr w.heap.size s i ty hit hi
       have hit2 := iterAt_heap wr w.heap.size s i (i + (Utf8.decode s i).2) hit
       have HB2 : Aside (Below w.heap.size w (wr.iterAt w.heap.size s (i + (Utf8.decode s i).2))) := below_iterAt HB.out (Nat.le_refl _) _ _
       have HN2 : Aside (Lib.NoAny s.data.toList chars.data.toList (i + (Utf8.decode s i).2)) := (show Aside _ from fun j b hj hb => by
         by_cases e : j < i
         . exact HN.out j b e hb
         . have hb128 : 128 <= b.toNat := by
             obtain ⟨e1, e2⟩ := gsI.1 hb
             by_cases ej : j = i
             . subst ej
               rw [hxl] at hb
               cases hb
               omega
             . have := d5 (j - i) (by omega) (by omega)
               rw [show i + (j - i) = j from by omega] at this
               have hjs : j < s.size := by omega
               have e4 : s.get! j = b := by
                 have := get_at s j hjs
                 rw [Nat.add_zero] at this
                 rw [this, <- e2]
                 rfl
               rw [e4] at this
               exact this
           cases hcc : chars.data.toList.contains b with
           | false => rfl
           | true =>
             obtain ⟨j', hj'⟩ := List.mem_iff_getElem?.1 (List.contains_iff_mem.1 hcc)
             have := HC.out j' b hj'
             omega)
       generalize hcn : (Utf8.decode s i).1 = c at hnx d1 d3
       generalize hwd : (Utf8.decode s i).2 = wd at hnx hit2 HB2 d2 d4 HN2
       generalize wr.iterAt w.heap.size s (i + wd) = wn at hnx hit2 HB2
       clear hxl hx d5 hcn hwd
       have hk2 : w.heap.size < wn.heap.size := (Array.getElem?_eq_some_iff.1 hit2).1
       go_wp2_with (go_at_fn (ρ.f 152); refine (Kev { L with } _ _ _ h3 HC.out (by omega) (by omega)).mono ?_; rintro e w' ⟨rfl, hw⟩; have HW : Aside (Below wn.heap.size wn w') := hw; clear hw)
       go_roundg g
       case measure => omega
       case rel => exact ⟨i + wd, by omega, by omega, (HW.out.block _ hk2).trans hit2, HB2.out.trans ⟨HW.out.os, HW.out.tape, HW.out.output, HW.out.size, fun k hk => HW.out.block k (by omega)⟩, HN2.out⟩
   . obtain rfl : i = s.size := by omega
     have hnx := fun ty => run_next_end_at (P := P) wr w.heap.size s s.size ty hit (by omega)
     go_wp2
     go_ret
     exact ⟨by rw [Lib.indexAny_none (by rw [<- Lib.size_eq]; exact HN.out)]; rfl, HB.out⟩
set_option maxRecDepth 100000 in
theorem J4h (s : Txt) (hl : s.length <= 1000) : Pure Tryz.prog GL4 36 [.p (.str s), .p (.str asvz)] (.p (.int .i64 (Lib.indexAny s asvz))) := by
 by_cases h : 8 < s.length
 . exact J4g s hl (.inr h)
 refine Pure.of_below Tryz.func36 (by kernel_rfl) rfl rfl fun own w vs hg hs hlen hv => ?_
 match vs, hlen with
 | [a, b], _ =>
   have ea : a = .string ⟨⟨s⟩⟩ := (hv 0 _ a rfl rfl).str_inv
   have eb : b = .string ⟨⟨asvz⟩⟩ := (hv 1 _ b rfl rfl).str_inv
   subst ea; subst eb
   have hsz : (⟨⟨s⟩⟩ : ByteArray).size <= 8 := by simpa [ByteArray.size] using h
   refine Calls.mono (Keu Jq2 ⟨⟨s⟩⟩ ⟨⟨asvz⟩⟩ w (by decide) (by decide) hsz (Jop Jpl)) ?_
   rintro e w' ⟨rfl, hw⟩
   exact ⟨_, rfl, .p _ _ (.int _ _), hw⟩
end Go.Am
namespace Go.Am
open Go Go.Proofs Go.Pn Go.RowKit
set_option maxRecDepth 20000 in
theorem J45 (s : Txt) (hl : s.length <= 1000) : Pure Tryz.prog GL4 11 [.p (.str s)] (.tup [(parL s).av, .p (.int .i64 (parE s))]) := by
 refine Pure.of_walk (N := 57) Tryz.func11 rfl rfl rfl (by simp) rfl ?_
 have hI := J4h s hl
 simp
 refine Jab hI ?_
 rcases Kaj s with ⟨h1, h2⟩ | ⟨k, b, h1, h2, h3, h4⟩
 . obtain ⟨p1, p2⟩ := Kfl h2
   rw [p1, p2, h1]
   simp
   simp [Jaa, noL]
 . have hk := (gsI.1 h2).1
   have hk0 : ¬ (k : Int) < 0 := by omega
   rw [h1]
   have hA := Juf (s.take k) (by rw [List.length_take]; omega)
   have hB := Juf (s.drop (k + 1)) (by rw [List.length_drop]; omega)
   have hbad := Kfk h1 h2
   have hkl : k <= s.length := by omega
   have hk1 : k + 1 <= s.length := by omega
   have hw : IntKind.i64.wrap ((k : Int) + 1) = ((k + 1 : Nat) : Int) := by rw [wrap_i64 (by omega) (by omega)]; omega
   have hsl : (s.take (k + 1)).drop k = [b] := by
     rw [take_snoc h2, List.drop_append_of_le_length (by simp; omega)]
     simp [List.drop_take]
   have hC := (Ju2 (prX s k b) (by simp [prX])).wider Jpd
   have hT : chkL (prX s k b) = 0 -> Pure Tryz.prog GL4 27 [(prX s k b).av] (.p (.str (Ja0 (prX s k b)))) := fun hc => (Ju3 (prX s k b) hc).wider Jpd
   have hgood : chkL (prX s k b) = 0 -> Ja0 (prX s k b) = s -> parL s = prX s k b /\ parE s = 0 := J0a
   generalize hx : prX s k b = x at *
   have hxa : AV.agg [.p (.int .i64 (atV (s.take k))), .p (.str [b]), .p (.int .i64 (atV (s.drop (k + 1))))] = x.av := by rw [<- hx]; rfl
   simp [hk0, hkl]
   refine Jab hA ?_
   have hlo : (0 : Int) <= (k : Int) + 1 := by omega
   have hhi : (k : Int) + 1 <= s.length := by omega
   have htd : (s.drop (k + 1)).take (s.length - (k + 1)) = s.drop (k + 1) := List.take_of_length_le (by rw [List.length_drop]; omega)
   simp [hw, hk1, hlo, hhi, hkl, -getElem?_pos, List.getElem?_cons_zero, List.getElem?_cons_succ]
   rw [htd]
   refine Jab hB ?_
   generalize atV (s.take k) = va at *
   generalize atV (s.drop (k + 1)) = vb at *
   have hs1 : (s.drop k).take 1 = [b] := by rw [<- hsl, List.take_drop]
   have hif : Jkt Tryz.prog 82 = true := by kernel_rfl
   have hkk : (k : Int) <= (k : Int) + 1 := by omega
   cases ha : atE (s.take k) with
   | true =>
     obtain ⟨p1, p2⟩ := hbad (.inl ha)
     rw [p1, p2]
     simp [hw, hk1, hlo, hhi, hkl, errV, hkk, hs1, hif, -getElem?_pos, List.getElem?_cons_zero, List.getElem?_cons_succ]
     simp [Jaa, noL]
   | false =>
     cases hb : atE (s.drop (k + 1)) with
     | true =>
       obtain ⟨p1, p2⟩ := hbad (.inr (.inl hb))
       rw [p1, p2]
       simp [hw, hk1, hlo, hhi, hkl, errV, hkk, hs1, hif, -getElem?_pos, List.getElem?_cons_zero, List.getElem?_cons_succ]
       simp [Jaa, noL]
     | false =>
       simp [hw, hk1, hlo, hhi, hkl, errV, hkk, hs1, hif, hxa, -getElem?_pos, List.getElem?_cons_zero, List.getElem?_cons_succ]
       refine Jab hC ?_
       by_cases hc : chkL x = 0
       . have hT := hT hc
         simp [hc, -getElem?_pos, List.getElem?_cons_zero, List.getElem?_cons_succ]
         refine Jab hT ?_
         by_cases ht : Ja0 x = s
         . obtain ⟨p1, p2⟩ := hgood hc ht
           rw [p1, p2]
           simp [ht, -getElem?_pos, List.getElem?_cons_zero, List.getElem?_cons_succ]
           simp [Jaa]
         . obtain ⟨p1, p2⟩ := hbad (.inr (.inr (.inr ht)))
           rw [p1, p2]
           simp [ht, -getElem?_pos, List.getElem?_cons_zero, List.getElem?_cons_succ]
           simp [Jaa, noL]
       . obtain ⟨p1, p2⟩ := hbad (.inr (.inr (.inl hc)))
         rw [p1, p2]
         simp [hc, -getElem?_pos, List.getElem?_cons_zero, List.getElem?_cons_succ]
         simp [Jaa, noL]
end Go.Am
