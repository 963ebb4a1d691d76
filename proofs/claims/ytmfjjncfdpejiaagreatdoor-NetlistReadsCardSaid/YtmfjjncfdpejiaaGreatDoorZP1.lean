/- Lemmas and contracts for the proof of a statement of this seat. -/
import Derived.Test.YtmfjjncfdpejiaaGreatDoorZN4
import Derived.Test.YtmfjjncfdpejiaaGreatDoorZF6
import Derived.Test.YtmfjjncfdpejiaaGreatDoorZN5
import Derived.Test.YtmfjjncfdpejiaaGreatDoorZF1
import Derived.Test.YtmfjjncfdpejiaaGreatDoorZN1
import Derived.Shelf.Strings.FieldsFuncAny
set_option linter.unusedVariables false
set_option linter.unusedSimpArgs false
namespace Go.Am
open Go Go.Proofs Go.Pn
def Je9 : List (List AV) := (List.range 14).map catRow
theorem Jzq {k : Nat} (h : k < 14) : Je9[k]? = some (catRow k) := by simp [Je9, h]
@[simp] theorem J8r {k : Nat} : Ja9 (catRow k) = true := Jj5
@[simp] theorem J96 {ρ : List Nat} : renR ρ Je9 = some Je9 := Jlm (xs := List.range 14) (f := catRow) fun _ => Jj5
@[simp] theorem J8w {s : Store} {k : Nat} : frzL s (catRow k) = some (catRow k, []) := by unfold catRow; split <;> simp
theorem Jyt (j : Nat) (w : Txt) (hj : j < 14) : Pure Tryz.prog GL 225 [.agg (catRow j), .iptr 1 [[.str w]] 0 0] (.p (.bool (decide (Jbl j = w)))) := by
 refine Pure.of_walk (N := 8) Tryz.func225 rfl rfl rfl (by simp) (by first | (simp; done) | simp [*]) ?_
 have hl := Jft (k := j)
 have h6 := Jfu (k := j)
 have f1 := Jwk hj
 obtain ⟨g1, g2⟩ := gsI.1 f1
 simp [hl, Jfe, g2]
 simp [Jaa]
set_option maxRecDepth 20000 in
theorem J1g (w : Txt) (s : Store) (nx a b : Nat) (hnd : [a, b].Nodup) (hlt : ∀ x ∈ [a, b], x < nx) (g0 : get s a = some (.cells 1 [[.p (.str w)]])) (g1 : get s b = some (.cells 12 Je9)) :
   Gives Tryz.prog GL 224 [.ref b 12 0 14 (some 14), .fn (.func 225) [.ptr a 1 0 0]] s nx (.p (.int .i64 (Jbw w))) [a, b] [] nx := by
 refine Gives.mk_walkK (N := 19) (args := [.ref 1 12 0 14 (some 14), .fn (.func 225) [.ptr 0 1 0 0]]) [a, b] [] [(0, some (.cells 1 [[.p (.str w)]])), (1, some (.cells 12 Je9))]
   [] 2 0 (.p (.int .i64 (Jbw w))) (fun _ => []) (up1 := []) Tryz.func224 rfl rfl rfl (by simp) rfl ?_ (by simp) (by simp) (by simp) (by simp) rfl ?_
 . refine ⟨?_, rfl, hnd, hlt, rfl⟩
   simp [g0, g1]
 have hcl : Je9.length = 14 := by simp [Je9]
 simp
 refine Jam.go [0, 1, 7] [0, 1] 0 [] (fun _ => []) (fun _ (k : Nat) => [(8, .p (.int .i64 k))]) (fun _ _ => []) (fun k => k <= 14 /\ ∀ (j : Nat) x, j < k -> (List.range 14)[j]? = some x -> decide (Jbl x = w) = false) (fun k => 14 - k) 0 ⟨by omega, fun j b h => by omega⟩ ?_ ?_
 . simp
 . rintro k ⟨hk, hp⟩
   simp
   refine Jac (fun h => ?_) (fun h => ?_)
   . simp at h
     have h14 : k < 14 := by omega
     have e : (List.range 14)[k]? = some k := by simp [h14]
     have e2 := Jzq h14
     have hl := Jft (k := k)
     have h6 := Jfu (k := k)
     have h7 := Jj5 (k := k)
     have h8 : (catRow k).take 12 = catRow k := List.take_of_length_le (by omega)
     simp [h14, e2, hl, Jfe, h8]
     refine ⟨by omega, ?_⟩
     refine Jeo ?_
     simp
     refine ⟨_, Jyt k w h14, rfl, ?_⟩
     simp
     refine Jac (fun h2 => ?_) (fun h2 => ?_)
     . have := Jey (q := fun j => decide (Jbl j = w)) e h2 hp
       simp [Jbw, this]
     . simp
       refine ⟨wrap_i64 (by omega) (by omega), k + 1, ⟨by omega, by simpa using Jef hp e h2⟩, by omega, ?_⟩
       simp
   . simp at h
     have hk2 : k = 14 := by omega
     subst hk2
     have := Jfz (q := fun j => decide (Jbl j = w)) (Jet (xs := List.range 14) (by simpa using hp))
     simp [Jbw, this]
end Go.Am
namespace Go.Am
open Go Go.Proofs Go.Pn
set_option maxRecDepth 20000 in
theorem Jys (w : Txt) : Pure Tryz.prog GL 144 [.p (.str w)] (.tup [.p (.int .i64 (if Jbw w < 0 then 0 else Jbw w)), .p (.int .i64 (if Jbw w < 0 then 6 else 0))]) := by
 refine Pure.of_walk (N := 13) Tryz.func144 rfl rfl rfl (by simp) (by first | (simp; done) | simp [*]) ?_
 have hu : unpL (List.take 168 (List.drop 0 Jfs)) = none := by kernel_rfl
 have hc : Jg3 12 14 Jfs = Je9 := by kernel_rfl
 have hcl := Jqw
 simp
 refine Jab Jqm ?_
 simp [hcl]
 have h1 : Jfs.all AV.oneCell = true := by kernel_rfl
 refine ⟨by simpa using h1, ?_⟩
 have hu2 : unpL (List.take 168 Jfs) = none := hu
 simp [Jfe, hcl, hu2, hc]
 refine Ja7 (J1g w _ 2 0 1 (by decide) (by simp) rfl rfl) ?_
 simp
 by_cases h : Jbw w < 0
 . simp [h, Jaa]
 . simp [h, Jaa]
end Go.Am
namespace Go.Am
open Go Go.Proofs Go.Pn Go.RowKit
theorem Jqt (a b : List UInt8) (ha : a.length < 4611686018427387904) (hb : b.length < 4611686018427387904) : Pure Tryz.prog GL 64 [.p (.str a), .p (.str b)] (.p (.bool (decide (b.length <= a.length /\ a.drop (a.length - b.length) = b)))) := by
 refine Pure.of_walk (N := 8) Tryz.func64 rfl rfl rfl (by simp) (by first | (simp; done) | simp [*]) ?_
 simp
 refine Jab (Jqd a b ha hb) ?_
 simp [Jaa]
theorem Jzx (b : UInt8) : Jcr b.toNat = 2 ↔ isDigit b = true := by
 have hb := b.toNat_lt
 simp [isDigit, UInt8.le_iff_toNat_le, Jcr]
 repeat' split
 all_goals (first | omega | simp_all)
 all_goals omega
theorem J53 (s : List UInt8) : runN s [2] = s.length ↔ s.all isDigit = true := by
 unfold runN
 rw [List.findIdx_eq_length]
 simp only [Bool.not_eq_false', decide_eq_true_eq, List.all_eq_true, List.mem_singleton, Jzx]
set_option maxRecDepth 20000 in
theorem Jqg (s : Txt) (hs : s.length < 4611686018427387904) : Pure Tryz.prog GL 227 [.p (.str s)] (.p (.int .i64 (Jb4 s))) := by
 refine Pure.of_walk (N := 27) Tryz.func227 rfl rfl rfl (by simp) (by first | (simp; done) | simp [*]) ?_
 cases s with
 | nil => simp [Jaa, Jb4]
 | cons b r =>
   have hr := J53 (b :: r)
   have hle : runN (b :: r) [2] <= (b :: r).length := List.findIdx_le_length
   simp
   refine Jeo ?_
   simp
   refine ⟨_, Jqi (b :: r) [2] hs (by simp), rfl, ?_⟩
   simp
   by_cases h : runN (b :: r) [2] = (b :: r).length
   . have hd := hr.1 h
     rw [h]
     by_cases h0 : b = 48
     . subst h0
       by_cases h1 : r = []
       . subst h1
         have hE : Jb4 [48] = 0 := by decide
         simp [Jaa, hE]
       . have hE : Jb4 (48 :: r) = 3 := by
           unfold Jb4
           rw [if_pos (.inr ⟨by simp; exact List.length_pos_iff.2 h1, rfl⟩)]
         simp [h1, Jaa, hE]
     . have h48 : ¬ ((b.toNat : Int) = 48) := fun e => h0 (UInt8.toNat_inj.1 (show b.toNat = 48 by omega))
       by_cases h7 : (7 : Int) < (r.length : Int) + 1
       . have hE : Jb4 (b :: r) = 17 := by
           unfold Jb4
           rw [if_neg (by rintro (e | ⟨_, e⟩); cases e; simp at e; exact h0 e), if_neg (by rw [hd]; simp), if_pos (by simp; omega)]
         simp [h48, h7, Jaa, hE]
       . have hE : Jb4 (b :: r) = 0 := by
           unfold Jb4
           rw [if_neg (by rintro (e | ⟨_, e⟩); cases e; simp at e; exact h0 e), if_neg (by rw [hd]; simp), if_neg (by simp; omega)]
         simp [h48, h7, Jaa, hE]
   . have hd : (b :: r).all isDigit = false := by
       rw [<- Bool.not_eq_true]; exact fun e => h (hr.2 e)
     have hE : Jb4 (b :: r) = 3 := by
       unfold Jb4
       split
       . rfl
       . first | rfl | rw [if_pos hd]
     have hne : ¬ ((runN (b :: r) [2] : Int) = (r.length : Int) + 1) := fun e => h (by simp; omega)
     simp [hne, Jaa, hE]
theorem Jts : ∀ {l : Txt} {n : Nat}, (∀ b ∈ l, isDigit b = true) -> n + l.length <= 10 -> ∀ acc, acc < 10 ^ n -> Lib.parseUint10 acc l = .ok (l.foldl (fun a b => a * 10 + (b.toNat - 48)) acc)
 | [], n, _, _, acc, _ => rfl
 | b :: l, n, hd, hl, acc, ha => by
   have hb := Jfv.1 (hd b (by simp))
   have hn : n <= 9 := by simp at hl; omega
   have h9 : (10 : Nat) ^ n <= 10 ^ 9 := Nat.pow_le_pow_right (by omega) hn
   have e9 : (10 : Nat) ^ 9 = 1000000000 := by decide
   have es : (10 : Nat) ^ (n + 1) = 10 ^ n * 10 := Nat.pow_succ ..
   rw [Lib.parseUint10, if_pos hb, if_neg (by omega), if_neg (by omega)]
   exact Jts (n := n + 1) (fun x hx => hd x (by simp [hx])) (by simp at hl ⊢; omega) _ (by omega)
theorem Jrq : ∀ {l : Txt} {acc : Nat}, (∀ b ∈ l, isDigit b = true) -> ((l.foldl (fun a b => a * 10 + (b.toNat - 48)) acc : Nat) : Int) = l.foldl (fun n b => 10 * n + ((b.toNat : Int) - 48)) (acc : Int)
 | [], _, _ => rfl
 | b :: l, acc, hd => by
   have hb := Jfv.1 (hd b (by simp))
   rw [List.foldl_cons, List.foldl_cons, Jrq fun x hx => hd x (by simp [hx])]
   congr 1
   omega
theorem Jrm : ∀ {l : Txt} {acc n : Nat}, (∀ b ∈ l, isDigit b = true) -> acc < 10 ^ n -> l.foldl (fun a b => a * 10 + (b.toNat - 48)) acc < 10 ^ (n + l.length)
 | [], _, _, _, h => h
 | b :: l, acc, n, hd, h => by
   have hb := Jfv.1 (hd b (by simp))
   have es : (10 : Nat) ^ (n + 1) = 10 ^ n * 10 := Nat.pow_succ ..
   have := Jrm (l := l) (acc := acc * 10 + (b.toNat - 48)) (n := n + 1) (fun x hx => hd x (by simp [hx])) (by omega)
   rw [List.foldl_cons, List.length_cons, show n + (l.length + 1) = n + 1 + l.length by omega]
   exact this
theorem Js7 {s : Txt} (h : Jb4 s = 0) : s ≠ [] /\ (∀ b ∈ s, isDigit b = true) /\ s.length <= 7 := by
 unfold Jb4 at h
 split at h
 . cases h
 . rename_i h1
   split at h
   . cases h
   . rename_i h2
     split at h
     . cases h
     . rename_i h3
       refine ⟨fun e => h1 (.inl e), ?_, by omega⟩
       have : s.all isDigit = true := by simpa using h2
       exact List.all_eq_true.1 this
theorem Jsy {s : Txt} (h : Jb4 s = 0) : ∃ u : Nat, Lib.parseMag s = .ok u /\ (u : Int) = Jgb s /\ u < 10000000 := by
 obtain ⟨h1, h2, h3⟩ := Js7 h
 refine ⟨s.foldl (fun a b => a * 10 + (b.toNat - 48)) 0, ?_, ?_, ?_⟩
 . unfold Lib.parseMag
   rw [if_neg h1, Jts (n := 0) h2 (by omega) 0 (by decide)]
 . rw [Jrq h2]; rfl
 . have := Jrm (l := s) (acc := 0) (n := 0) h2 (by decide)
   rw [Nat.zero_add] at this
   exact Nat.lt_of_lt_of_le this (Nat.pow_le_pow_right (n := 10) (by omega) h3)
theorem Jxp {s : Txt} (h : Jcj s = 0) : Lib.atoiAll s = .ok (valOf s) := by
 have hv : valOf s = if signed s then -Jgb s.tail else Jgb s := by unfold valOf; rw [h, if_neg (by simp)]
 unfold Jcj at h
 by_cases hsg : signed s = true
 . cases s with
   | nil => simp [signed] at hsg
   | cons c r =>
     have hc : c = 45 := by simpa [signed] using hsg
     subst hc
     rw [hsg] at h hv
     simp only [true_and, List.tail_cons, if_true] at h hv
     split at h
     . cases h
     . obtain ⟨u, e1, e2, e3⟩ := Jsy h
       have h45 : (45 : UInt8).toNat = 45 := rfl
       unfold Lib.atoiAll
       simp only [h45, or_true, if_true, e1, not_true_eq_false, false_and, if_false, true_and]
       rw [if_neg (by omega), hv, e2]
 . have hsg : signed s = false := by simpa using hsg
   rw [hsg] at h hv
   simp only [Bool.false_eq_true, false_and, if_false] at h hv
   obtain ⟨u, e1, e2, e3⟩ := Jsy h
   obtain ⟨n1, n2, n3⟩ := Js7 h
   cases s with
   | nil => exact absurd rfl n1
   | cons c r =>
     have hd := Jfv.1 (n2 c (by simp))
     unfold Lib.atoiAll
     have a1 : ¬ c.toNat = 43 := by omega
     have a2 : ¬ c.toNat = 45 := by omega
     simp only [a1, or_self, if_false, a2, not_false_eq_true, true_and, false_and]
     rw [e1]
     simp only
     rw [if_neg (by omega), hv, e2]
set_option maxRecDepth 100000 in
theorem Jxt (s : Txt) (h : Jcj s = 0) (hl : s.length <= 100000) : Pure Tryz.prog GL 228 [.p (.str s)] (.tup [.p (.int .i64 (valOf s)), .p .nilif]) := by
 refine Pure.of_below Tryz.func228 (by kernel_rfl) rfl rfl fun own w vs hg hs hlen hv => ?_
 match vs, hlen with
 | [a], _ =>
   have ea : a = .string ⟨⟨s⟩⟩ := (hv 0 _ a rfl rfl).str_inv
   subst ea
   refine Calls.mono (Any.strconv_Atoi_ok ato5 ⟨⟨s⟩⟩ (by simp [ByteArray.size]; omega) _ (Jxp h) w) ?_
   rintro e w' ⟨rfl, hw⟩
   refine ⟨_, rfl, ?_, ?_⟩
   . exact .tup _ _ rfl fun i x u hx hu => match i with
       | 0 => by simp at hx hu; subst hx; subst hu; exact .p _ _ (.int _ _)
       | 1 => by simp at hx hu; subst hx; subst hu; exact .p _ _ .nilif
       | _ + 2 => by simp at hx
   . rcases hw with rfl | ⟨t, rfl⟩
     . exact Below.refl _ _
     . exact Lib.bytesWorld_below _ _ _
theorem Jqc (s : Txt) (b : UInt8) (hs : s.length < 4611686018427387904) : Pure Tryz.prog GL 117 [.p (.str s), .p (.str [b])] (.p (.bool (decide (s.head? = some b)))) := by
 refine Pure.of_walk (N := 18) Tryz.func117 rfl rfl rfl (by simp) (by first | (simp; done) | simp [*]) ?_
 cases s with
 | nil => simp [Jaa]
 | cons c r =>
   have h1 : (1 : Int) <= (r.length : Int) + 1 := by omega
   simp [h1]
   simp [Jaa]
theorem Jyh (s : Txt) (b : UInt8) (hs : s.length < 4611686018427387904) : Pure Tryz.prog GL 280 [.p (.str s), .p (.str [b])] (.tup [.p (.str (if s.head? = some b then s.tail else s)), .p (.bool (decide (s.head? = some b)))]) := by
 refine Pure.of_walk (N := 15) Tryz.func280 rfl rfl rfl (by simp) (by first | (simp; done) | simp [*]) ?_
 simp
 refine Jab (Jqc s b hs) ?_
 cases s with
 | nil => simp [Jaa]
 | cons c r =>
   by_cases h : c = b
   . subst h
     have h1 : (1 : Int) <= (r.length : Int) + 1 := by omega
     simp [h1]
     simp [Jaa]
   . simp [h, Jaa]
theorem Jzl (s : Txt) (b : UInt8) (hs : s.length < 4611686018427387904) : Pure Tryz.prog GL 226 [.p (.str s), .p (.str [b])] (.tup [.p (.str (if s.head? = some b then s.tail else s)), .p (.bool (decide (s.head? = some b)))]) := by
 refine Pure.of_walk (N := 11) Tryz.func226 rfl rfl rfl (by simp) (by first | (simp; done) | simp [*]) ?_
 simp
 refine Jab (Jyh s b hs) ?_
 simp [Jaa]
set_option maxRecDepth 20000 in
theorem Jyk (s : Txt) (hs : s.length <= 100000) : Pure Tryz.prog GL 145 [.p (.str s)] (.tup [.p (.int .i64 (valOf s)), .p (.int .i64 (Jcj s))]) := by
 refine Pure.of_walk (N := 30) Tryz.func145 rfl rfl rfl (by simp) (by first | (simp; done) | simp [*]) ?_
 have hA := fun h => Jxt s h hs
 have hz : Jcj s ≠ 0 -> valOf s = 0 := fun h => by unfold valOf; rw [if_pos h]
 simp
 refine Jab (Jzl s 45 (by omega)) ?_
 simp
 by_cases h : s.head? = some 45
 . have hsg : signed s = true := by unfold signed; rw [h]; rfl
   have hE : Jcj s = if s.tail = [48] then 3 else Jb4 s.tail := by unfold Jcj; rw [hsg]; simp
   simp [h]
   refine Jab (Jqg s.tail (by simp; omega)) ?_
   by_cases h2 : Jb4 s.tail = 0
   . by_cases h3 : s.tail = [48]
     . have hE2 : Jcj s = 3 := by rw [hE, if_pos h3]
       simp [h2, h3, h, (by decide : Jb4 [48] = 0), Jaa, hE2, hz (by rw [hE2]; decide)]
     . have hE2 : Jcj s = 0 := by rw [hE, if_neg h3]; exact h2
       simp [h2, h3, h]
       refine Jab (hA hE2) ?_
       simp [Jaa, hE2]
   . by_cases h3 : s.tail = [48]
     . exact absurd (by rw [h3]; decide) h2
     . have hE2 : Jcj s = Jb4 s.tail := by rw [hE, if_neg h3]
       simp [h2, Jaa, hE2, hz (by rw [hE2]; exact h2)]
 . have hsg : signed s = false := by unfold signed; simpa using h
   have hE : Jcj s = Jb4 s := by unfold Jcj; rw [hsg]; simp
   simp [h]
   refine Jab (Jqg s (by omega)) ?_
   by_cases h2 : Jb4 s = 0
   . have hE2 : Jcj s = 0 := hE.trans h2
     simp [h2, h]
     refine Jab (hA hE2) ?_
     simp [Jaa, hE2]
   . simp [h2, Jaa, hE, hz (by rw [hE]; exact h2)]
end Go.Am
namespace Go.Am
open Go Go.Proofs Go.Pn
theorem Jrh {ps : List Part} {a : Txt} (e : ps.find? (fun p => decide (p.name = a)) = none) : ¬ a ∈ ps.map (·.name) := by
 intro h
 obtain ⟨p, hp, hn⟩ := List.mem_map.1 h
 have := List.find?_eq_none.1 e p hp
 simp [hn] at this
theorem Jri {ps : List Part} {a : Txt} {p : Part} (e : ps.find? (fun p => decide (p.name = a)) = some p) : a ∈ ps.map (·.name) := by
 have h1 := List.mem_of_find?_eq_some e
 have h2 : p.name = a := by simpa using List.find?_some e
 exact List.mem_map.2 ⟨p, h1, h2⟩
theorem Juo {ps : List Part} {p : Part} (h : ¬ p.name ∈ ps.map (·.name)) : putN ps p = ps ++ [p] := by
 induction ps with
 | nil => rfl
 | cons q ps ih =>
   simp at h
   rw [putN, if_neg (fun e => h.1 e.symm), ih (by simpa using h.2)]
   rfl
theorem J7z {w : List Txt} : (∃ a b, w = [a, b]) \/ (∃ a b c, w = [a, b, c]) \/ (w.length ≠ 2 /\ w.length ≠ 3) := by
 match w with
 | [] => simp
 | [_] => simp
 | [a, b] => exact .inl ⟨a, b, rfl⟩
 | [a, b, c] => exact .inr (.inl ⟨a, b, c, rfl⟩)
 | _ :: _ :: _ :: _ :: _ => simp
theorem J4w {ps : List Part} {w : List Txt} (h : w.length ≠ 2 /\ w.length ≠ 3) : Jct ps w = 4 /\ Ja8 ps w = ps := by
 match w with
 | [] => exact ⟨rfl, rfl⟩
 | [_] => exact ⟨rfl, rfl⟩
 | [a, b] => simp at h
 | [a, b, c] => simp at h
 | _ :: _ :: _ :: _ :: _ => exact ⟨rfl, rfl⟩
theorem J49 {D : Drf} {w : List Txt} (h : w.length ≠ 2) : Jdb D w = 4 /\ Jbi D w = D.pipes := by
 match w with
 | [] => exact ⟨rfl, rfl⟩
 | [_] => exact ⟨rfl, rfl⟩
 | [a, b] => simp at h
 | _ :: _ :: _ :: _ => exact ⟨rfl, rfl⟩
set_option maxRecDepth 20000 in
theorem Jrw (D : Drf) (w : List Txt) (hk : ∀ p ∈ D.parts, 0 <= p.kind /\ p.kind < 14) (hl : ∀ t ∈ w, t.length <= 100000) (hw : w.length <= 100000) (s : Store) (nx d m q : Nat) (hnd : [d, m, q].Nodup) (hlt : ∀ b ∈ [d, m, q], b < nx)
   (g0 : get s d = some (.cells 2 [[.map m, .map q]])) (g1 : get s m = some (.map (Jap D.parts))) (g2 : get s q = some (.map (Jau (D.pipes.map ordX)))) :
   Gives Tryz.prog GL 67 [.ptr d 2 0 0, .p (.lst 1 (w.map Txt.enc))] s nx (.p (.int .i64 (Jdb D w))) [d, m, q] [(q, some (.map (Jau ((Jbi D w).map ordX))))] nx := by
 refine Gives.mk_walkK (N := 59) (args := [.ptr 0 2 0 0, .p (.lst 1 (w.map Txt.enc))]) [d, m, q] [] [(0, some (.cells 2 [[.map 1, .map 2]])), (1, some (.map (Jap D.parts))), (2, some (.map (Jau (D.pipes.map ordX))))]
   [(2, some (.map (Jau ((Jbi D w).map ordX))))] 3 0 (.p (.int .i64 (Jdb D w))) (fun _ => []) (up1 := [(q, some (.map (Jau ((Jbi D w).map ordX))))]) Tryz.func67 rfl rfl rfl (by simp) rfl ?_ (by simp) rfl (by simp) (by simp) rfl ?_
 . refine ⟨?_, rfl, hnd, hlt, rfl⟩
   simp [g0, g1, g2]
 by_cases hw2 : w.length = 2
 . obtain ⟨a, b, rfl⟩ : ∃ a b, w = [a, b] := by
     match w, hw2 with
     | [a, b], _ => exact ⟨a, b, rfl⟩
   have ha := hl a (by simp)
   have hb := hl b (by simp)
   have eE : Jdb D [a, b] = Jci D a b := rfl
   have eR : Jbi D [a, b] = Jb2 D a b := rfl
   rw [eE, eR]
   simp
   refine Ja7 (Jnm D.parts _ a hk (by omega) _ _ _ _ _ (by simp) (by simp) rfl rfl rfl) ?_
   simp
   by_cases h1 : Jbp D.parts a = 0
   . simp [h1]
     refine Ja7 (Jnm D.parts _ b hk (by omega) _ _ _ _ _ (by simp) (by simp) rfl rfl rfl) ?_
     simp
     by_cases h2 : Jbp D.parts b = 0
     . simp [h2]
       refine Jab (Jj3 (Jby D.parts a) (Jby D.parts b)) ?_
       generalize hA : Jby D.parts a = A
       generalize hB : Jby D.parts b = B
       generalize hX : D.pipes.map ordX = xs
       have hxl : xs.length = D.pipes.length := by rw [<- hX, List.length_map]
       by_cases h5 : A = B
       . have e1 : Jci D a b = 7 := by unfold Jci; rw [if_neg (by simpa using h1), if_neg (by simpa using h2), hA, hB, if_pos (.inl h5)]
         have e2 : Jb2 D a b = D.pipes := by unfold Jb2; rw [if_neg (by rw [e1]; decide)]
         have e3 : (Jb2 D a b).map ordX = xs := by rw [e2, hX]
         have hP : A.part = B.part /\ A.port = B.port := by rw [h5]; exact ⟨rfl, rfl⟩
         generalize hO : ordE A B = O
         simp
         refine Jaj.intro (by kernel_rfl) ?_
         simp [hP]
         refine ⟨.of (by kernel_rfl), ?_⟩
         simp [e1, e3]
       . have hP : ¬ (A.part = B.part /\ A.port = B.port) := fun h => h5 (by obtain ⟨x, y⟩ := A; obtain ⟨z, t⟩ := B; simp only at h; rw [h.1, h.2])
         generalize hO : ordE A B = O
         simp
         by_cases h6 : O ∈ xs
         . have e1 : Jci D a b = 7 := by unfold Jci; rw [if_neg (by simpa using h1), if_neg (by simpa using h2), hA, hB, hX, hO, if_pos (.inr h6)]
           have e2 : Jb2 D a b = D.pipes := by unfold Jb2; rw [if_neg (by rw [e1]; decide)]
           have e3 : (Jb2 D a b).map ordX = xs := by rw [e2, hX]
           refine Jaj.intro (by kernel_rfl) ?_
           simp [hP, h6]
           refine ⟨.of (by kernel_rfl), ?_⟩
           simp [e1, e3]
         . have h7 : ¬ (A = B \/ O ∈ xs) := fun h => h.elim h5 h6
           refine Jaj.intro (by kernel_rfl) ?_
           simp [hP, h6]
           refine ⟨.of (by kernel_rfl), ?_⟩
           by_cases h8 : D.pipes.length = 256
           . have e1 : Jci D a b = 5 := by unfold Jci; rw [if_neg (by simpa using h1), if_neg (by simpa using h2), hA, hB, hX, hO, if_neg h7, if_pos h8]
             have e2 : Jb2 D a b = D.pipes := by unfold Jb2; rw [if_neg (by rw [e1]; decide)]
             have e3 : (Jb2 D a b).map ordX = xs := by rw [e2, hX]
             simp [hxl, h8, e1, e3]
           . have e1 : Jci D a b = 0 := by unfold Jci; rw [if_neg (by simpa using h1), if_neg (by simpa using h2), hA, hB, hX, hO, if_neg h7, if_neg h8]
             have e3 : (Jb2 D a b).map ordX = xs ++ [O] := by
               unfold Jb2; rw [if_pos e1, List.map_append, hX, hA, hB]
               show xs ++ [ordE A B] = _
               rw [hO]
             have h9 : ¬ (D.pipes.length : Int) = 256 := by omega
             have h10 : insX xs O = xs ++ [O] := if_neg h6
             simp [hxl, h9]
             refine Jaj.intro (by kernel_rfl) ?_
             simp
             refine ⟨.of (by kernel_rfl), ?_⟩
             simp [e1, e3, h10]
     . have e1 : Jci D a b = Jbp D.parts b := by unfold Jci; rw [if_neg (by simpa using h1), if_pos h2]
       have e2 : Jb2 D a b = D.pipes := by unfold Jb2; rw [if_neg (by rw [e1]; exact h2)]
       simp [h2, e1, e2]
   . have e1 : Jci D a b = Jbp D.parts a := by unfold Jci; rw [if_pos h1]
     have e2 : Jb2 D a b = D.pipes := by unfold Jb2; rw [if_neg (by rw [e1]; exact h1)]
     simp [h1, e1, e2]
 . obtain ⟨e1, e2⟩ := J49 (D := D) hw2
   have h3 : ¬ ((w.length : Int) = 2) := by omega
   rw [e1, e2]
   simp [h3]
end Go.Am
namespace Go.Am
open Go Go.Proofs Go.Pn
def Jnx (w : Txt) : AV := .tup [.p (.int .i64 (if Jbw w < 0 then 0 else Jbw w)), .p (.int .i64 (if Jbw w < 0 then 6 else 0))]
set_option maxRecDepth 20000 in
theorem J1p (cK : ∀ w, Pure Tryz.prog GL 144 [.p (.str w)] (Jnx w)) (ps : List Part) (w : List Txt) (hl : ∀ t ∈ w, t.length <= 100000) (hw : w.length <= 100000) (s : Store) (nx d m q : Nat) (X : List (AV × AV)) (hX : ∀ ρ, renE ρ X = some X) (hnd : [d, m, q].Nodup) (hlt : ∀ b ∈ [d, m, q], b < nx)
   (g0 : get s d = some (.cells 2 [[.map m, .map q]])) (g1 : get s m = some (.map (Jap ps))) (g2 : get s q = some (.map X)) :
   Gives Tryz.prog GL 66 [.ptr d 2 0 0, .p (.lst 1 (w.map Txt.enc))] s nx (.p (.int .i64 (Jct ps w))) [d, m, q] [(m, some (.map (Jap (Ja8 ps w))))] nx := by
 refine Gives.mk_walkK (N := 77) (args := [.ptr 0 2 0 0, .p (.lst 1 (w.map Txt.enc))]) [d, m, q] [] [(0, some (.cells 2 [[.map 1, .map 2]])), (1, some (.map (Jap ps))), (2, some (.map X))]
   [(1, some (.map (Jap (Ja8 ps w))))] 3 0 (.p (.int .i64 (Jct ps w))) (fun _ => []) (up1 := [(m, some (.map (Jap (Ja8 ps w))))]) Tryz.func66 rfl rfl rfl (by simp) rfl ?_ (by simp) rfl (by simp) (by simp) rfl ?_
 . refine ⟨?_, rfl, hnd, hlt, rfl⟩
   simp [g0, g1, g2, hX]
 rcases J7z (w := w) with ⟨a, b, rfl⟩ | ⟨a, b, c, rfl⟩ | hw3
 . have ha := hl a (by simp)
   have eE : Jct ps [a, b] = Jbc ps a b none := rfl
   have eR : Ja8 ps [a, b] = Ja6 ps a b none := rfl
   rw [eE, eR]
   have hv : Jhk none = 0 := rfl
   generalize hP : partOf a b none = p
   have hpn : p.name = a := by rw [<- hP]; rfl
   have hpa : AV.agg [.p (.int .i64 (Jbw b)), .p (.str a), .p (.int .i64 0)] = p.av := by rw [<- hP]; rfl
   simp
   refine Jab (cK b) ?_
   simp [Jnx]
   by_cases h1 : Jbw b < 0
   . have e1 : Jbc ps a b none = 6 := by unfold Jbc; rw [if_pos h1]
     have e2 : Ja6 ps a b none = ps := by unfold Ja6; rw [if_neg (by rw [e1]; decide)]
     have h1' : ¬ 0 <= Jbw b := by omega
     simp [h1, h1', e1, e2, hX]
   have h1' : 0 <= Jbw b := by omega
   simp [h1, h1']
   rw [hpa]
   have hc := Jmx p (by rw [hpn]; omega)
   refine Jab hc ?_
   simp
   have q0 : ¬ Jbw b < 0 := by omega
   by_cases h2 : Ja0 p = 0
   . simp [h2]
     cases e : ps.find? fun q => decide (q.name = a) with
     | some q =>
       have e1 : Jbc ps a b none = 7 := by unfold Jbc; rw [if_neg q0, if_neg (by simpa using hv), hP, if_neg (by simpa using h2), if_pos (Jri e)]
       have e2 : Ja6 ps a b none = ps := by unfold Ja6; rw [if_neg (by rw [e1]; decide)]
       refine Jaj.intro (by kernel_rfl) ?_
       simp [hit, e]
       refine ⟨.of (by kernel_rfl), ?_⟩
       simp [e1, e2, hX]
     | none =>
       refine Jaj.intro (by kernel_rfl) ?_
       simp [hit, e, zeroV]
       refine ⟨.of (by kernel_rfl), ?_⟩
       have hno := Jrh e
       by_cases h3 : ps.length = 64
       . have e1 : Jbc ps a b none = 5 := by unfold Jbc; rw [if_neg q0, if_neg (by simpa using hv), hP, if_neg (by simpa using h2), if_neg hno, if_pos h3]
         have e2 : Ja6 ps a b none = ps := by unfold Ja6; rw [if_neg (by rw [e1]; decide)]
         have h3' : (ps.length : Int) = 64 := by omega
         simp [h3, h3', e1, e2, hX]
       . have e1 : Jbc ps a b none = 0 := by unfold Jbc; rw [if_neg q0, if_neg (by simpa using hv), hP, if_neg (by simpa using h2), if_neg hno, if_neg h3]
         have e2 : Ja6 ps a b none = putN ps p := by unfold Ja6; rw [if_pos e1, hP, Juo (by rw [hpn]; exact hno)]
         have h3' : ¬ (ps.length : Int) = 64 := by omega
         simp [h3, h3']
         refine Jaj.intro (by kernel_rfl) ?_
         have hset := Ji9 (ps := ps) (p := p)
         rw [<- hpa, hpn] at hset
         simp [hset]
         refine ⟨.of (by kernel_rfl), ?_⟩
         simp [e1, e2, hX]
   . have e1 : Jbc ps a b none = Ja0 p := by unfold Jbc; rw [if_neg q0, if_neg (by simpa using hv), hP, if_pos h2]
     have e2 : Ja6 ps a b none = ps := by unfold Ja6; rw [if_neg (by rw [e1]; exact h2)]
     simp [h2, e1, e2, hX]
 . have ha := hl a (by simp)
   have eE : Jct ps [a, b, c] = Jbc ps a b (some c) := rfl
   have eR : Ja8 ps [a, b, c] = Ja6 ps a b (some c) := rfl
   rw [eE, eR]
   generalize hP : partOf a b (some c) = p
   have hpn : p.name = a := by rw [<- hP]; rfl
   have hpa : AV.agg [.p (.int .i64 (Jbw b)), .p (.str a), .p (.int .i64 (valOf c))] = p.av := by rw [<- hP]; rfl
   simp
   refine Jab (cK b) ?_
   simp [Jnx]
   by_cases h1 : Jbw b < 0
   . have e1 : Jbc ps a b (some c) = 6 := by unfold Jbc; rw [if_pos h1]
     have e2 : Ja6 ps a b (some c) = ps := by unfold Ja6; rw [if_neg (by rw [e1]; decide)]
     have h1' : ¬ 0 <= Jbw b := by omega
     simp [h1, h1', e1, e2, hX]
   have h1' : 0 <= Jbw b := by omega
   simp [h1, h1']
   refine Jab (Jyk c (hl c (by simp))) ?_
   simp
   by_cases hve : Jcj c = 0
   . have hv : Jhk (some c) = 0 := hve
     simp [hve]
     rw [hpa]
     have hc := Jmx p (by rw [hpn]; omega)
     refine Jab hc ?_
     simp
     have q0 : ¬ Jbw b < 0 := by omega
     by_cases h2 : Ja0 p = 0
     . simp [h2]
       cases e : ps.find? fun q => decide (q.name = a) with
       | some q =>
         have e1 : Jbc ps a b (some c) = 7 := by unfold Jbc; rw [if_neg q0, if_neg (by simpa using hv), hP, if_neg (by simpa using h2), if_pos (Jri e)]
         have e2 : Ja6 ps a b (some c) = ps := by unfold Ja6; rw [if_neg (by rw [e1]; decide)]
         refine Jaj.intro (by kernel_rfl) ?_
         simp [hit, e]
         refine ⟨.of (by kernel_rfl), ?_⟩
         simp [e1, e2, hX]
       | none =>
         refine Jaj.intro (by kernel_rfl) ?_
         simp [hit, e, zeroV]
         refine ⟨.of (by kernel_rfl), ?_⟩
         have hno := Jrh e
         by_cases h3 : ps.length = 64
         . have e1 : Jbc ps a b (some c) = 5 := by unfold Jbc; rw [if_neg q0, if_neg (by simpa using hv), hP, if_neg (by simpa using h2), if_neg hno, if_pos h3]
           have e2 : Ja6 ps a b (some c) = ps := by unfold Ja6; rw [if_neg (by rw [e1]; decide)]
           have h3' : (ps.length : Int) = 64 := by omega
           simp [h3, h3', e1, e2, hX]
         . have e1 : Jbc ps a b (some c) = 0 := by unfold Jbc; rw [if_neg q0, if_neg (by simpa using hv), hP, if_neg (by simpa using h2), if_neg hno, if_neg h3]
           have e2 : Ja6 ps a b (some c) = putN ps p := by unfold Ja6; rw [if_pos e1, hP, Juo (by rw [hpn]; exact hno)]
           have h3' : ¬ (ps.length : Int) = 64 := by omega
           simp [h3, h3']
           refine Jaj.intro (by kernel_rfl) ?_
           have hset := Ji9 (ps := ps) (p := p)
           rw [<- hpa, hpn] at hset
           simp [hset]
           refine ⟨.of (by kernel_rfl), ?_⟩
           simp [e1, e2, hX]
     . have e1 : Jbc ps a b (some c) = Ja0 p := by unfold Jbc; rw [if_neg q0, if_neg (by simpa using hv), hP, if_pos h2]
       have e2 : Ja6 ps a b (some c) = ps := by unfold Ja6; rw [if_neg (by rw [e1]; exact h2)]
       simp [h2, e1, e2, hX]
   . have e1 : Jbc ps a b (some c) = Jcj c := by unfold Jbc; rw [if_neg h1, if_pos (show Jhk (some c) ≠ 0 from hve)]; rfl
     have e2 : Ja6 ps a b (some c) = ps := by unfold Ja6; rw [if_neg (by rw [e1]; exact hve)]
     simp [hve, e1, e2, hX]
 . obtain ⟨e1, e2⟩ := J4w (ps := ps) hw3
   have h3 : ¬ ((w.length : Int) = 2) := by omega
   have h4 : ¬ ((w.length : Int) = 3) := by omega
   rw [e1, e2]
   simp [h3, h4, hX]
end Go.Am
namespace Go.Am
open Go Go.Proofs Go.Shelf Go.RowKit Go.Pn
theorem Jry (s : Txt) : Lib.goFieldsP (fun x => x == 32) ⟨⟨s⟩⟩ = (fldR s).map fun l => (⟨⟨l⟩⟩ : ByteArray) := by
 rw [<- J1s, List.map_map]
 exact (List.map_id' _).symm
theorem J1r (s : Txt) : (Lib.goFieldsP (fun x => x == 32) ⟨⟨s⟩⟩).map Value.string = (fldR s).map fun l => Value.string ⟨l.toArray⟩ := by
 rw [Jry, List.map_map]; rfl
theorem J1q (s : Txt) : (Lib.goFieldsP (fun x => x == 32) ⟨⟨s⟩⟩).length = (fldR s).length := by rw [Jry, List.length_map]
theorem J2d (x : Nat) (hx : x <= 1114111) (w : World) : Calls Tryz.prog 150 #[.int .i32 (x : Int)] w fun e w' => e = .returned (.bool (x == 32)) /\ w' = w := by
 go_enter Tryz.func150, Tryz.ntmps150
 go_wp2
 go_ret
 refine ⟨?_, rfl⟩
 congr 1
 show Value.bool ((x : Int) == 32) = Value.bool (x == 32)
 congr 1
 rw [Bool.eq_iff_iff]
 simp
 omega
set_option maxRecDepth 100000 in
theorem Jxw (s : Txt) (hl : s.length <= 100000) : Pure Tryz.prog GL 149 [.p (.str s), .fn (.func 150) []] (.p (.lst 1 ((fldR s).map fun x => [PV.str x]))) := by
 refine Pure.of_below Tryz.func149 (by kernel_rfl) rfl rfl fun own w vs hg hs hlen hv => ?_
 match vs, hlen with
 | [a, f], _ =>
   have ea : a = .string ⟨⟨s⟩⟩ := (hv 0 _ a rfl rfl).str_inv
   subst ea
   obtain ⟨us, rfl, hu⟩ := (hv 1 _ f rfl rfl).fn_inv
   have h0 : us = [] := by
     have := hu.1
     simpa using this
   subst h0
   have c := Any.strings_FieldsFunc_runes ff5 150 #[] (enters_of Tryz.func150 (by kernel_rfl) rfl) (fun x => x == 32) ⟨⟨s⟩⟩ w (by simp [ByteArray.size]; omega)
     (fun W x hx _ => Calls.mono (J2d x hx W) fun e w' h => ⟨h.1, 0, h.2⟩) (by kernel_rfl) (by kernel_rfl)
   rw [J1r, J1q] at c
   refine Calls.mono c ?_
   rintro e w' ⟨A, rfl, _, h2, h3⟩
   exact ⟨_, rfl, J7w hs h2, h3⟩
theorem Jqf (s : Txt) (hl : s.length <= 100000) : Pure Tryz.prog GL 69 [.p (.str s)] (.p (.lst 1 ((fldR s).map fun x => [PV.str x]))) := by
 refine Pure.of_walk (N := 5) Tryz.func69 rfl rfl rfl (by simp) (by first | (simp; done) | simp [*]) ?_
 simp
 refine Jab (Jxw s hl) ?_
 simp [Jaa]
end Go.Am
namespace Go.Am
open Go Go.Proofs Go.Pn
theorem Jrv (ps : List Part) (w : List Txt) (hl : ∀ t ∈ w, t.length <= 100000) (hw : w.length <= 100000) (s : Store) (nx d m q : Nat) (X : List (AV × AV)) (hX : ∀ ρ, renE ρ X = some X) (hnd : [d, m, q].Nodup) (hlt : ∀ b ∈ [d, m, q], b < nx)
   (g0 : get s d = some (.cells 2 [[.map m, .map q]])) (g1 : get s m = some (.map (Jap ps))) (g2 : get s q = some (.map X)) :
   Gives Tryz.prog GL 66 [.ptr d 2 0 0, .p (.lst 1 (w.map Txt.enc))] s nx (.p (.int .i64 (Jct ps w))) [d, m, q] [(m, some (.map (Jap (Ja8 ps w))))] nx :=
 J1p (fun w => Jys w) ps w hl hw s nx d m q X hX hnd hlt g0 g1 g2
theorem Jrt (t : Txt) (s : Store) (nx : Nat) : Gives Tryz.prog GL 68 [.p (.str t)] s nx (.fn (.func 147) [.ptr nx 1 0 0]) [] [(nx, some (.cells 1 [[.p (.str t)]]))] (nx + 1) := by
 refine Gives.mk_walkK (N := 4) (args := [.p (.str t)]) [] [] [] [(0, some (.cells 1 [[.p (.str t)]]))] 0 1 (.fn (.func 147) [.ptr 0 1 0 0]) (fun _ => [0]) (up1 := [(nx, some (.cells 1 [[.p (.str t)]]))]) Tryz.func68 rfl rfl rfl (by simp) rfl (by simp) (by simp) (by simp) rfl (by simp) rfl ?_
 simp
end Go.Am
