/- Lemmas and contracts for the proof of a statement of this seat. -/
import Derived.Test.YthkjeoagelhocaaGreatDoorZC1
import Derived.Shelf.Strings.Trim
import Derived.Test.YthkjeoagelhocaaGreatDoorZE2
import Derived.Test.YthkjeoagelhocaaGreatDoorZF6
import Derived.Test.YthkjeoagelhocaaGreatDoorZN1
import Derived.Test.YthkjeoagelhocaaGreatDoorZN5
import Derived.Test.YthkjeoagelhocaaGreatDoorZP1
set_option linter.unusedVariables false
set_option linter.unusedSimpArgs false
namespace Go.Am
open Go Go.Proofs Go.Shelf
def Khq : Ren := ⟨fun k => match k with | 160 => 13 | 232 => 40 | 231 => 39 | 227 => 41 | 234 => 43 | 233 => 42 | 236 => 45 | 235 => 44 | 228 => 81 | 271 => 87 | 151 => 86 | 197 => 85 | 120 => 153 | 152 => 79 | 260 => 152 | 137 => 142 | 119 => 143 | 224 => 144 | 225 => 145 | 217 => 198 | 266 => 230 | k => k, fun k => match k with | 9 => 9 | 4 => 4 | 3 => 3 | 5 => 5 | 117 => 89 | 116 => 88 | 0 => 0 | 124 => 92 | 21 => 21 | 105 => 150 | 46 => 95 | 119 => 265 | 139 => 268 | 138 => 267 | k => k, fun k => match k with | 3 => 3 | 4 => 4 | k => k⟩
set_option maxRecDepth 100000 in
theorem trm6 : Lays.n160 Tryz.prog Khq where
 mixed := by kernel_rfl
 f119 := (Tryz.func143).trans (by kernel_rfl)
 f120 := (Tryz.func153).trans (by kernel_rfl)
 f137 := (Tryz.func142).trans (by kernel_rfl)
 f151 := (Tryz.func86).trans (by kernel_rfl)
 f152 := (Tryz.func79).trans (by kernel_rfl)
 f160 := (Tryz.func13).trans (by kernel_rfl)
 f197 := (Tryz.func85).trans (by kernel_rfl)
 f217 := (Tryz.func198).trans (by kernel_rfl)
 f224 := (Tryz.func144).trans (by kernel_rfl)
 f225 := (Tryz.func145).trans (by kernel_rfl)
 f227 := (Tryz.func41).trans (by kernel_rfl)
 f228 := (Tryz.func81).trans (by kernel_rfl)
 f231 := (Tryz.func39).trans (by kernel_rfl)
 f232 := (Tryz.func40).trans (by kernel_rfl)
 f233 := (Tryz.func42).trans (by kernel_rfl)
 f234 := (Tryz.func43).trans (by kernel_rfl)
 f235 := (Tryz.func44).trans (by kernel_rfl)
 f236 := (Tryz.func45).trans (by kernel_rfl)
 f260 := (Tryz.func152).trans (by kernel_rfl)
 f266 := (Tryz.func230).trans (by kernel_rfl)
 f271 := (Tryz.func87).trans (by kernel_rfl)
 t0 := by kernel_rfl
 a0 := fun w => by kernel_rfl
 z0 := fun w => by kernel_rfl
 v0 := fun w => by kernel_rfl
 t3 := by kernel_rfl
 a3 := fun w => by kernel_rfl
 z3 := fun w => by kernel_rfl
 v3 := fun w => by kernel_rfl
 t4 := by kernel_rfl
 a4 := fun w => by kernel_rfl
 z4 := fun w => by kernel_rfl
 v4 := fun w => by kernel_rfl
 t5 := by kernel_rfl
 a5 := fun w => by kernel_rfl
 z5 := fun w => by kernel_rfl
 v5 := fun w => by kernel_rfl
 t9 := by kernel_rfl
 a9 := fun w => by kernel_rfl
 z9 := fun w => by kernel_rfl
 v9 := fun w => by kernel_rfl
 t21 := by kernel_rfl
 a21 := fun w => by kernel_rfl
 z21 := fun w => by kernel_rfl
 v21 := fun w => by kernel_rfl
 t46 := by kernel_rfl
 a46 := fun w => by kernel_rfl
 z46 := fun w => by kernel_rfl
 v46 := fun w => by kernel_rfl
 t105 := by kernel_rfl
 a105 := fun w => by kernel_rfl
 z105 := fun w => by kernel_rfl
 v105 := fun w => by kernel_rfl
 t116 := by kernel_rfl
 a116 := fun w => by kernel_rfl
 z116 := fun w => by kernel_rfl
 t117 := by kernel_rfl
 a117 := fun w => by kernel_rfl
 z117 := fun w => by kernel_rfl
 v117 := fun w => by kernel_rfl
 t119 := by kernel_rfl
 a119 := fun w => by kernel_rfl
 z119 := fun w => by kernel_rfl
 t124 := by kernel_rfl
 a124 := fun w => by kernel_rfl
 z124 := fun w => by kernel_rfl
 v124 := fun w => by kernel_rfl
 t138 := by kernel_rfl
 a138 := fun w => by kernel_rfl
 z138 := fun w => by kernel_rfl
 v138 := fun w => by kernel_rfl
 t139 := by kernel_rfl
 a139 := fun w => by kernel_rfl
 z139 := fun w => by kernel_rfl
 v139 := fun w => by kernel_rfl
 g3 := by kernel_rfl
 g4 := by kernel_rfl
end Go.Am
namespace Go.Am
open Go Go.Proofs Go.Pn
theorem Jm1 {t : Txt} : ∀ {s cur : Txt}, fldG cur (s ++ 32 :: t) = fldG cur s ++ fldG [] t
 | [], cur => by
   simp only [List.nil_append, fldG, if_true]
   split <;> simp
 | b :: s, cur => by
   have ih := fun cur => @Jm1 t s cur
   simp only [List.cons_append, fldG]
   split
   . split
     . exact ih []
     . rw [ih []]; rfl
   . exact ih _
theorem Jwr : ∀ {n : Nat}, fldG [] (Lib.repeatL [32] n) = []
 | 0 => rfl
 | n + 1 => by rw [rep_succ]; simp only [fldG, if_true]; exact Jwr
theorem Jwt {s : Txt} {n : Nat} : fldG [] (s ++ Lib.repeatL [32] n) = fldG [] s := by
 cases n with
 | zero => simp [Lib.repeatL]
 | succ n => rw [rep_succ, Jm1, Jwr, List.append_nil]
theorem J8j {s : Txt} : fldG [] (Lib.trimRightS s [32]) = fldG [] s := by
 obtain ⟨n, hn⟩ := J15 s
 conv => rhs; rw [hn]
 rw [Jwt]
theorem Kc1 {w : Txt} (h1 : w ≠ []) (h2 : ∀ b ∈ w, Lib.isSp b = false) : NoSp w := ⟨h1, fun b hb e => by
 have := h2 b hb
 subst e
 exact absurd this (by decide)⟩
theorem Jyp {c : Circuit} {l : List Plc} {i : Int} (h : CellsOk c l i) : ∀ {n : Nat}, fldG [] (Jci c l i n) = ((List.range n).map fun (j : Nat) => cellT c l i (j : Int)) /\ (n = 0 \/ ∃ u, Jci c l i n = u ++ [32])
 | 0 => ⟨rfl, .inl rfl⟩
 | n + 1 => by
   obtain ⟨h1, h2⟩ := @Jyp c l i h n
   have hw := h.wide n
   obtain ⟨m, hm⟩ : ∃ m, widT c c.parts.length - (cellT c l i n).length = m + 1 := ⟨widT c c.parts.length - (cellT c l i n).length - 1, by omega⟩
   have hl : Jci c l i (n + 1) = Jci c l i n ++ (cellT c l i n ++ Lib.repeatL [32] (m + 1)) := by rw [<- hm]; rfl
   have hc : fldG [] (cellT c l i n ++ Lib.repeatL [32] (m + 1)) = [cellT c l i n] := by
     rw [Jwt]; exact Jws (Kc1 (h.ne n) (h.sp n))
   refine ⟨?_, .inr ⟨Jci c l i n ++ (cellT c l i n ++ Lib.repeatL [32] m), by rw [hl, J06]; simp⟩⟩
   rw [List.range_succ, List.map_append, <- h1, hl]
   rcases h2 with rfl | ⟨u, hu⟩
   . simp only [Jci, List.nil_append]
     rw [hc]; rfl
   . rw [hu, List.append_assoc, List.singleton_append, Jm1, hc, Jm1]
     simp [fldG]
theorem Kgd {c : Circuit} {l : List Plc} {i : Int} (h : CellsOk c l i) : fldR (Jfs c l i) = Jcc c l i := by
 unfold Jfs Jcc
 rw [Jqp, J8j, (Jyp h).1]
def inkL (c : Circuit) (l : List Plc) (i : Int) : List Txt := (Jcc c l i).filter fun w => !decide (w = [46])
def Jdj (c : Circuit) (l : List Plc) (n : Nat) : List Txt := (List.range n).flatMap fun (i : Nat) => inkL c l (i : Int)
theorem Jwb {c : Circuit} {l : List Plc} {n : Nat} : Jdj c l (n + 1) = Jdj c l n ++ inkL c l (n : Int) := by simp [Jdj, List.range_succ]
theorem Jns {c : Circuit} {l : List Plc} {i : Int} {w : Txt} : w ∈ inkL c l i ↔ ∃ j : Nat, j < (colT l l.length).toNat /\ cellT c l i j = w /\ w ≠ [46] := by
 unfold inkL Jcc
 simp only [List.mem_filter, List.mem_map, List.mem_range, Bool.not_eq_true', decide_eq_false_iff_not]
 constructor
 . rintro ⟨⟨j, h1, h2⟩, h3⟩; exact ⟨j, h1, h2, h3⟩
 . rintro ⟨j, h1, h2, h3⟩; exact ⟨⟨j, h1, h2⟩, h3⟩
theorem Jvp {c : Circuit} {l : List Plc} (h : Jac c = 0) (hL : LayOk c l) {i j i' j' : Int} (h1 : cellT c l i j ≠ [46]) (he : cellT c l i j = cellT c l i' j') : i = i' /\ j = j' := by
 rcases Jgt hL i j with h2 | ⟨k, q, e1, e2, e3⟩
 . exact absurd h2 h1
 . rw [e3] at he
   have := (J6l h hL e1 e2 i' j').1 he.symm
   exact ⟨congrArg Plc.row this, congrArg Plc.col this⟩
theorem J7f {c : Circuit} {l : List Plc} (h : Jac c = 0) (hL : LayOk c l) {n : Nat} : (Jdj c l n).Nodup := by
 unfold Jdj
 rw [List.Nodup, List.pairwise_flatMap]
 refine ⟨fun i _ => ?_, ?_⟩
 . unfold inkL Jcc
   rw [List.pairwise_filter, List.pairwise_map]
   refine (List.pairwise_lt_range (n := (colT l l.length).toNat)).imp fun {a b} hab h1 h2 he => ?_
   have := (Jvp h hL (by simpa using h1) he).2
   omega
 . refine (List.pairwise_lt_range (n := n)).imp fun {a b} hab x hx y hy he => ?_
   obtain ⟨j, _, h2, h3⟩ := Jns.1 hx
   obtain ⟨j', _, h5, _⟩ := Jns.1 hy
   have := (Jvp h hL (i := a) (j := j) (i' := b) (j' := j') (by rw [h2]; exact h3) (by rw [h2, h5]; exact he)).1
   omega
theorem Jy6 {c : Circuit} (h : Jac c = 0) : (c.parts.map (·.name)).Nodup := Kcl h
theorem J7g {c : Circuit} {l : List Plc} (h : Jac c = 0) (hL : LayOk c l) : (Jdj c l 5).Perm (c.parts.map (·.name)) := by
 refine (List.perm_ext_iff_of_nodup (J7f h hL) (Jy6 h)).2 fun w => ?_
 constructor
 . intro hw
   obtain ⟨i, _, hi⟩ := List.mem_flatMap.1 hw
   obtain ⟨j, _, h2, h3⟩ := Jns.1 hi
   rcases Jgt hL (i : Int) (j : Int) with h4 | ⟨k, q, _, e2, e3⟩
   . rw [h4] at h2; exact absurd h2.symm h3
   . rw [e3] at h2
     exact List.mem_map.2 ⟨q, List.mem_of_getElem? e2, h2⟩
 . intro hw
   obtain ⟨q, hq, rfl⟩ := List.mem_map.1 hw
   obtain ⟨k, e2⟩ := List.mem_iff_getElem?.1 hq
   have hk := (gsI.1 e2).1
   obtain ⟨p, e1⟩ := (Jae (by rw [hL.len]; exact hk) : ∃ p, l[k]? = some p)
   have hr := hL.row k p e1
   obtain ⟨r, hr1, hr2⟩ := @Jyi c (k : Int)
   have hc := hL.col p (List.mem_of_getElem? e1)
   have hcm := Jv6 (n := l.length) (by rw [hL.len]; exact hk) e1
   refine List.mem_flatMap.2 ⟨r, List.mem_range.2 hr2, Jns.2 ⟨p.col.toNat, by omega, ?_, (Jif (Jhy h e2)).2.1⟩⟩
   have e3 : ((p.col.toNat : Nat) : Int) = p.col := by omega
   rw [e3, <- hr1, <- hr]
   exact Jvn hL e1 e2
def legN (c : Circuit) (k : Nat) : List Txt := ((Jb5 c).take k).map fun i : Nat => nameAt c (i : Int)
theorem Kba {c : Circuit} {k i : Nat} (e : (Jb5 c)[k]? = some i) : legN c (k + 1) = legN c k ++ [nameAt c (i : Int)] := by unfold legN; rw [take_snoc e, List.map_append]; rfl
theorem Jzy {c : Circuit} : (natI (Jb5 c)).Perm (natI (List.range c.parts.length)) := by rw [<- J1j]; exact Jxr
theorem Jzw {c : Circuit} : (Jb5 c).length = c.parts.length := by
 have := (@Jzy c).length_eq
 simpa [natI] using this
theorem Kci {c : Circuit} : (natI (List.range c.parts.length)).map (nameAt c) = c.parts.map (·.name) := by
 apply List.ext_getElem?
 intro i
 unfold natI
 rw [List.getElem?_map, List.getElem?_map, List.getElem?_map]
 by_cases hi : i < c.parts.length
 . rw [List.getElem?_range hi, List.getElem?_eq_getElem hi]
   simp [nameAt, hi]
 . rw [List.getElem?_eq_none (by simp; omega), List.getElem?_eq_none (by omega)]; rfl
theorem Ka9 {c : Circuit} : (legN c c.parts.length).Perm (c.parts.map (·.name)) := by
 unfold legN
 rw [<- Jzw, List.take_length, <- Kci]
 have := (@Jzy c).map (nameAt c)
 unfold natI at this ⊢
 rw [List.map_map] at this
 exact this
theorem Jy7 {c : Circuit} (h : Jac c = 0) {l : List Txt} (hp : l.Perm (c.parts.map (·.name))) : Jch Op.bytesLess l = c.parts.map (·.name) := by
 rw [J98 Jsp hp]
 exact J97 Jsp (Kch h)
theorem Khe {x : Lbl} (h : chkL x = 0) : NoSp (Ja0 x) := by
 obtain ⟨⟨a1, a2⟩, _, a4, a5⟩ := Jhm.1 h
 obtain ⟨b, e1, e2, e3, _⟩ := Jot h
 obtain ⟨_, _, c3, _, _⟩ := @Jir x.grp.toNat (by omega)
 obtain ⟨_, _, d3, _, _⟩ := @Jir x.num.toNat (by omega)
 refine ⟨by rw [e3]; simp, fun y hy e => ?_⟩
 rw [e3] at hy
 subst e
 rcases List.mem_append.1 hy with hy | hy
 . exact absurd (c3 _ hy) (by decide)
 . rcases List.mem_cons.1 hy with hy | hy
   . rw [<- hy] at e2; exact absurd e2 (by decide)
   . exact absurd (d3 _ hy) (by decide)
theorem Kbk {c : Circuit} (h : Jac c = 0) {i : Nat} {q : Part} (e : c.parts[i]? = some q) : fldR (Jel c i) = [Ja0 (lblN c i), q.name, Jex q.kind.toNat] := by
 have hi := (gsI.1 e).1
 have hp := J0b (J0e h (List.mem_of_getElem? e))
 have hn : nameAt c (i : Int) = q.name := by unfold nameAt; rw [Int.toNat_natCast, e]
 have hk : Jaj c (i : Int) = q.kind := Jgh e
 unfold Jel
 rw [hn, hk, Jqp, Jwu (Khe (Ji4 h hi)), Jwu (Kcb hp.2.1), Jws (J2p (by omega)).1]
theorem Kbl {c : Circuit} (h : Jac c = 0) {i : Nat} {q : Part} (e : c.parts[i]? = some q) : (Jel c i).length <= 1000 /\ (Ja0 (lblN c i)).length <= 1000 := by
 have hi := (gsI.1 e).1
 have hp := J0b (J0e h (List.mem_of_getElem? e))
 have hn : nameAt c (i : Int) = q.name := by unfold nameAt; rw [Int.toNat_natCast, e]
 have hk : Jaj c (i : Int) = q.kind := Jgh e
 have h1 := (Jo9 hp.2.1).2.2
 have h2 := (J2p (k := q.kind.toNat) (by omega)).2.2.2
 have h3 := J11 (Ji4 h hi)
 unfold Jel
 rw [hn, hk]
 simp only [List.length_append, List.length_cons]
 omega
theorem J7p {c : Circuit} (h : Jac c = 0) {i : Nat} {q : Part} (e : c.parts[i]? = some q) (hd : Ja1 c q.name = 0) {v : Nat} (hv : (Ja2 c q.name).1 = v) : Jaj c v = 2 \/ Jaj c v = 3 := by
 obtain ⟨hk, _⟩ := Jqd h e hd
 have hki : Jaj c (i : Int) = 1 := by rw [Jgh e, hk]
 have hix : Jcq c q.name = i := Jgk h e
 have hdr : Ja2 c q.name = (Jcp c i).getD (0, false) := by unfold Ja2; rw [hd, if_neg (by simp), hix]
 cases ho : Jcp c i with
 | none =>
   unfold Ja1 at hd
   rw [if_neg (by simpa using h), hix, if_neg (by omega), hki, if_neg (by simp), ho] at hd
   simp at hd
 | some r =>
   rw [hdr, ho] at hv
   simp only [Option.getD_some] at hv
   unfold Jcp at ho
   split at ho
   . split at ho
     . cases ho
     . split at ho
       . rename_i hkk
         simp only [Option.some.injEq] at ho
         rw [<- ho] at hv
         simp only at hv
         rw [hv] at hkk
         exact hkk
       . cases ho
   . cases ho
theorem J7q {c : Circuit} (h : Jac c = 0) {i : Nat} {q : Part} (e : c.parts[i]? = some q) (hd : Ja1 c q.name = 0) {v : Nat} (hv : (Ja2 c q.name).1 = v) : q.kind = 1 /\ Jba c v = 1 /\ Jba c i = 0 := by
 obtain ⟨hk, _⟩ := Jqd h e hd
 have hki : Jaj c (i : Int) = 1 := by rw [Jgh e, hk]
 have hkv := J7p h e hd hv
 have hdr : Jkn c v = true := by
   unfold Jkn
   rw [List.any_eq_true]
   exact ⟨q, List.mem_of_getElem? e, by simp [hd, hv]⟩
 refine ⟨hk, ?_, ?_⟩
 . unfold Jba
   have : Jda (Jaj c v) = 2 := by rcases hkv with h | h <;> rw [h] <;> decide
   rw [if_pos this, hdr, if_pos rfl]
 . unfold Jba
   rw [hki]; rfl
end Go.Am
namespace Go.Am
open Go Go.Proofs Go.Shelf Go.RowKit Go.Pn
theorem J4k (s : Txt) (hl : s.length <= 100000) : Pure Tryz.prog GL 13 [.p (.str s), .p (.str [46])] (.p (.str (Lib.trimB s 46))) := by
 refine Pure.of_below Tryz.func13 (by kernel_rfl) rfl rfl fun own w vs hg hs hlen hv => ?_
 match vs, hlen with
 | [a, b], _ =>
   have ea : a = .string ⟨⟨s⟩⟩ := (hv 0 _ a rfl rfl).str_inv
   have eb : b = .string ⟨⟨[46]⟩⟩ := (hv 1 _ b rfl rfl).str_inv
   subst ea; subst eb
   refine Calls.mono (Any.strings_Trim_one trm6 ⟨⟨s⟩⟩ 46 (by decide) w (by simp [ByteArray.size]; omega)) ?_
   rintro e w' ⟨rfl, rfl | rfl⟩
   . exact ⟨_, rfl, .p _ _ (.str _), Below.refl _ _⟩
   . exact ⟨_, rfl, .p _ _ (.str _), ⟨rfl, rfl, rfl, Nat.le_refl _, fun _ _ => rfl⟩⟩
theorem J35 (l : List Txt) (hl : l.length < 100000) (hd : l.Nodup) : Pure Tryz.prog GL 16 [.p (.lst 1 (l.map Txt.enc))] (.p (.lst 1 (l.map Txt.enc))) := by
 refine Pure.of_walk (N := 61) Tryz.func16 rfl rfl rfl (by simp) (by first | (simp; done) | simp [*]) ?_
 simp
 refine Jad (fun h0 => ?_) (fun h0 => ?_)
 . simp [Jaa]
 . simp at h0
   simp
   refine Jag.go [0] [] 0 [] (fun _ => []) (fun _ (k : Nat) => [(3, .p (.int .i64 k))]) (fun _ _ => []) (fun k => 1 <= k /\ k <= l.length) (fun k => l.length - k) 1 ⟨by omega, by omega⟩ ?_ ?_
   . simp
   rintro k ⟨hk1, hk⟩
   simp
   refine Jad (fun h => ?_) (fun h => ?_)
   . simp at h
     obtain ⟨j, rfl⟩ : ∃ j, k = j + 1 := ⟨k - 1, by omega⟩
     obtain ⟨x, e⟩ := Jae h
     obtain ⟨y, e2⟩ := (Jae (by omega) : ∃ y, l[j]? = some y)
     have hne : ¬ x = y := fun hxy => by
       subst hxy
       have := (List.getElem?_inj (by omega) hd).1 (e.trans e2.symm)
       omega
     have hw : IntKind.i64.wrap ((j : Int) + 1 - 1) = (j : Int) + 1 - 1 := wrap_i64 (by omega) (by omega)
     have hj : (j : Int) + 1 - 1 = j := by omega
     simp
     refine Jak.intro (by kernel_rfl) ?_
     simp [h, e, e2, hne, hw, hj, -getElem?_pos, List.getElem?_cons_zero, List.getElem?_cons_succ]
     exact ⟨by omega, by omega, wrap_i64 (by omega) (by omega), by omega, .of (by kernel_rfl), wrap_i64 (by omega) (by omega), j + 1 + 1, by omega, by omega, by omega⟩
   . simp at h
     have hkl : k = l.length := by omega
     simp [Jaa]
end Go.Am
namespace Go.Am
open Go Go.Proofs Go.Pn
theorem Khn : Lib.trimB [46] 46 = [] := by decide
theorem Jwc : ∀ {s : Txt}, (∀ b ∈ s, b ≠ 46) -> s.dropWhile (· == (46 : UInt8)) = s
 | [], _ => rfl
 | b :: s, h => by
   have : (b == (46 : UInt8)) = false := by simpa using h b (by simp)
   rw [List.dropWhile_cons, this]; rfl
theorem Khp {s : Txt} (h : Jbt s = 0) : Lib.trimB s 46 ≠ [] := by
 obtain ⟨h1, h2, _⟩ := Jo9 h
 have h3 : ∀ b ∈ s, b ≠ 46 := fun b hb => (Jxn (h2 b hb)).2.1
 have h4 : Lib.trimB s 46 = s := by
   unfold Lib.trimB Lib.trimLeftB Lib.trimRightB
   rw [Jwc (s := s.reverse) fun b hb => h3 b (by simpa using hb), List.reverse_reverse, Jwc h3]
 rw [h4]; exact h1
def inkN (c : Circuit) (l : List Plc) (i : Int) (k : Nat) : List Txt := ((Jcc c l i).take k).filter fun w => !decide (w = [46])
theorem J92 {c : Circuit} {l : List Plc} {i : Int} : inkN c l i (Jcc c l i).length = inkL c l i := by unfold inkN inkL; rw [List.take_length]
theorem J94 {c : Circuit} {l : List Plc} {i : Int} {k : Nat} {w : Txt} (e : (Jcc c l i)[k]? = some w) : inkN c l i (k + 1) = inkN c l i k ++ (if w = [46] then [] else [w]) := by
 unfold inkN
 rw [take_snoc e, List.filter_append]
 by_cases h : w = [46] <;> simp [h]
theorem J6o {c : Circuit} {l : List Plc} (h : Jac c = 0) (hL : LayOk c l) {i : Int} {w : Txt} (hw : w ∈ Jcc c l i) : w.length <= 100 /\ ((Lib.trimB w 46 = []) ↔ w = [46]) := by
 unfold Jcc at hw
 obtain ⟨j, _, rfl⟩ := List.mem_map.1 hw
 rcases Jgt hL i (j : Int) with h1 | ⟨k, q, _, e2, e3⟩
 . rw [h1]; exact ⟨by decide, fun _ => rfl, fun _ => Khn⟩
 . have hp := Jhy h e2
   rw [e3]
   refine ⟨by have := (Jo9 hp).2.2; omega, fun h1 => absurd h1 (Khp hp), fun h1 => absurd h1 (Jif hp).2.1⟩
theorem Kgf {c : Circuit} {l : List Plc} (h : Jac c = 0) (hL : LayOk c l) (i : Int) : fldR (Jfs c l i) = Jcc c l i := by
 by_cases h0 : 0 < l.length
 . exact Kgd (cells_ok h hL h0 i)
 . have : l = [] := List.eq_nil_of_length_eq_zero (by omega)
   subst this
   rfl
theorem Jxg {g : List Int} {v : Nat} (hv : v < g.length) : g[v]? = some (gAt g (v : Int)) := by
 obtain ⟨x, e⟩ := Jae hv
 rw [e, Jcf e]
theorem J0p {c : Circuit} {v : Nat} (hv : v < c.parts.length) : (Ja5 c)[v]? = some ⟨Jba c v, cntT c (Jba c v) v⟩ := Jk4 hv
theorem Kcm {c : Circuit} {l : List Plc} (hL : LayOk c l) : Near l := hL.near
theorem Jvq {c : Circuit} {l : List Plc} (hL : LayOk c l) (i : Int) : (Jcc c l i).length <= 64 := by
 have := (Jkk (Kcm hL) (k := l.length)).2
 rw [J6m]; omega
theorem Jwa {c : Circuit} {l : List Plc} (hL : LayOk c l) : ∀ {n : Nat}, (Jdj c l n).length <= n * 64
 | 0 => by simp [Jdj]
 | n + 1 => by
   have ih := @Jwa c l hL n
   have h1 := Jvq hL (n : Int)
   have h2 : (inkL c l (n : Int)).length <= (Jcc c l (n : Int)).length := List.length_filter_le ..
   rw [Jwb, List.length_append]
   omega
theorem J93 {c : Circuit} {l : List Plc} {i : Int} {k : Nat} : (inkN c l i k).length <= k := by
 have h1 := List.length_filter_le (fun w : Txt => !decide (w = [46])) ((Jcc c l i).take k)
 have h2 := List.length_take_le k (Jcc c l i)
 unfold inkN
 omega
theorem Kge {c : Circuit} {l : List Plc} (hL : LayOk c l) (hlen : l.length <= 64) (hw : ∀ p ∈ c.parts, p.name.length <= 60) (i : Int) : (Jfs c l i).length <= 10000 := by
 have h1 := @Kho (Jci c l i (colT l l.length).toNat)
 have hC := @Jkk l hL.near l.length
 have hW := @Jo6 c hw c.parts.length
 have h2 : (Jci c l i (colT l l.length).toNat).length <= 64 * 61 := by
   by_cases h0 : 0 < l.length
   . rw [@Jnp c l i hL.len h0]; exact Nat.mul_le_mul (by omega) (by omega)
   . have : colT l l.length = 0 := by rw [show l.length = 0 by omega]; rfl
     rw [this]; simp [Jci]
 unfold Jfs
 omega
set_option maxRecDepth 40000 in
theorem Kji (c : Circuit) (hs : Sized c) : Pure Tryz.prog GL4 3 [c.av] (.p (.bool true)) := by
 refine Pure.of_walk (N := 246) Tryz.func3 rfl rfl rfl (by simp) rfl ?_
 have hR := wF (J6b c hs)
 have hP := wF (J6a ())
 cases hf : (fewP c && decide (Jac c = 0)) with
 | false =>
   rw [hf] at hR
   simp
   refine Jab hR ?_
   simp
   refine Jab hP ?_
   simp [Jaa]
 | true =>
 rw [hf] at hR
 simp only [Bool.and_eq_true, decide_eq_true_eq] at hf
 obtain ⟨hfw, h⟩ := hf
 have h2 := Ja8 h
 have h1 := wF (Ju1 c hs (J76 hfw))
 have h3 := wF (J5b c hs)
 have h4 := wF (J5a c (Ja5 c) hs (Jwk hfw))
 have h5 := wF (Juz c hs)
 have hL := Ke7 h
 have hE : layE c (Ja5 c) = 0 := Jx8.2 ⟨h, hL⟩
 rw [if_pos h, h, Jyg] at h1
 rw [if_pos h, h] at h3 h5
 have hD : Jkm c (Ja5 c) = Jdv c (Ja5 c) 5 := by unfold Jkm; rw [hE, if_neg (by simp)]
 rw [hE, hD] at h4
 have hpl : (Ja5 c).length = c.parts.length := Jhz
 have hol := @Jzw c
 have hgl := @Jm6 c
 simp
 refine Jab hR ?_
 simp
 refine Jab h1 ?_
 simp
 refine Jab h3 ?_
 simp
 refine Jab h4 ?_
 simp
 refine Jab h5 ?_
 simp [hpl, hol, hgl]
 refine Jag.go [1, 5, 7, 9, 12, 86, 87] [0] 1 [1] (nms [11]) (fun nx (k : Nat) => [(11, .acc nx 1 (legN c k).length), (88, .p (.int .i64 k))]) (fun nx k => [(nx, accB 1 ((legN c k).map Txt.row))]) (fun k => k <= c.parts.length) (fun k => c.parts.length - k) 0 (by omega) ?_ ?_
 . simp [legN]
   try decide
 intro k hk
 simp
 refine Jad (fun h6 => ?_) (fun h6 => ?_)
 . simp [hol] at h6
   obtain ⟨i, ei⟩ := (Jae (by omega) : ∃ i, (Jb5 c)[k]? = some i)
   have hil := Jzx i (List.mem_of_getElem? ei)
   obtain ⟨q, eq⟩ := Jae hil
   have hln := Kbl h eq
   have hF := wF (Ju5 (Jel c i) (by omega))
   rw [Kbk h eq] at hF
   have hPa := J45 (Ja0 (lblN c i)) (by omega)
   have hpar := J0a (Ji4 h hil) rfl
   rw [hpar.1, hpar.2] at hPa
   obtain ⟨hf1, hf2⟩ := Ka7 h hil
   have hFi := wF (J43 c (lblN c i) hs (by obtain ⟨b, hb, _⟩ := Jot (Ji4 h hil); rw [hb]; simp))
   rw [hf1, hf2] at hFi
   have hnm : nameAt c (i : Int) = q.name := by unfold nameAt; rw [Int.toNat_natCast, eq]
   have hst := Kba ei
   rw [hnm] at hst
   simp [h6, hol, ei, hil, eq, -getElem?_pos, List.getElem?_cons_zero, List.getElem?_cons_succ]
   refine Jab hF ?_
   simp
   refine Jab hPa ?_
   simp
   refine Jab hFi ?_
   have hil' : (i : Int) < (c.parts.length : Int) := by omega
   have hil2 : ¬ (c.parts.length : Int) <= (i : Int) := by omega
   simp
   refine Jak.intro (by kernel_rfl) ?_
   have hi0 : ¬ (i : Int) < 0 := by omega
   simp [hil, hil', hil2, hi0, eq, -getElem?_pos, List.getElem?_cons_zero, List.getElem?_cons_succ]
   refine ⟨.of (by kernel_rfl), ?_⟩
   have hlk : (legN c k).length = k := by unfold legN; rw [List.length_map, List.length_take]; omega
   have hlk1 : (legN c (k + 1)).length = k + 1 := by unfold legN; rw [List.length_map, List.length_take]; omega
   refine ⟨by omega, wrap_i64 (by omega) (by omega), k + 1, by omega, by omega, ⟨by omega, by omega⟩, ?_⟩
   rw [hst]
   refine of_eq_true (Jim ?_ (Jla fun _ => rfl))
   simp
 . simp [hol] at h6
   have hkl : k = c.parts.length := by omega
   subst hkl
   simp
   refine Jag.go [1, 5, 9, 11, 144, 145] [0, 1] 1 [2] (nms [12]) (fun nx (k : Nat) => [(12, .acc nx 1 (Jdj c (Ja5 c) k).length), (146, .p (.int .i64 k))]) (fun nx k => [(nx, accB 1 ((Jdj c (Ja5 c) k).map Txt.row))]) (fun k => k <= 5) (fun k => 5 - k) 0 (by omega) ?_ ?_
   . simp [Jdj]
     try decide
   intro r hr
   have hdl : (Jdv c (Ja5 c) 5).length = 5 := Jqa
   simp [hdl]
   refine Jad (fun h7 => ?_) (fun h7 => ?_)
   . simp at h7
     have er := J7b (c := c) (l := Ja5 c) (k := r) (by omega)
     have hF2 := wF (Ju5 (Jfs c (Ja5 c) r) (by have := Kge hL (by omega) (Jwk hfw h) r; omega))
     rw [Kgf h hL] at hF2
     have hcl := Jvq hL (r : Int)
     have hdf := @Jwa c (Ja5 c) hL r
     have hds := @Jwb c (Ja5 c) r
     simp [h7, er, -getElem?_pos, List.getElem?_cons_zero, List.getElem?_cons_succ]
     refine ⟨by omega, Jab hF2 ?_⟩
     simp
     refine Jag.gor [1, 5, 9, 11, 144, 145, 146, 151, 152] [0, 1] [0, 1, 2] (fun st => [0, 1, nameOf (slot st.t 12)]) (fun (j : Nat) => [(12, .acc 2 1 (Jdj c (Ja5 c) r ++ inkN c (Ja5 c) r j).length), (153, .p (.int .i64 j))]) (fun j => [(2, accB 1 ((Jdj c (Ja5 c) r ++ inkN c (Ja5 c) r j).map Txt.row))]) (fun j => j <= (Jcc c (Ja5 c) r).length) (fun j => (Jcc c (Ja5 c) r).length - j) 0 (by omega) ?_ ?_
     . simp [inkN]
       try decide
     intro j hj
     have hif := @J93 c (Ja5 c) r j
     simp
     refine Jad (fun h8 => ?_) (fun h8 => ?_)
     . simp at h8
       obtain ⟨w, ew⟩ := Jae h8
       obtain ⟨w1, w2⟩ := J6o h hL (List.mem_of_getElem? ew)
       have hT := wF (J4k w (by omega))
       have hsn := J94 ew
       simp [h8, ew, -getElem?_pos, List.getElem?_cons_zero, List.getElem?_cons_succ]
       refine Jab hT ?_
       by_cases hw : w = [46]
       . rw [if_pos hw] at hsn
         have hz := w2.2 hw
         simp [hz]
         refine ⟨wrap_i64 (by omega) (by omega), j + 1, by omega, by omega, ?_⟩
         simp [hsn]
       . rw [if_neg hw] at hsn
         have hz : ¬ Lib.trimB w 46 = [] := fun e => hw (w2.1 e)
         simp [hz]
         refine ⟨by omega, wrap_i64 (by omega) (by omega), j + 1, by omega, by omega, ⟨by rw [hsn]; simp; omega, by omega⟩, ?_⟩
         rw [hsn, <- @List.map_append _ _ Txt.row (Jdj c (Ja5 c) r) (inkN c (Ja5 c) r j ++ [w])]
         refine of_eq_true (Jim ?_ (Jla fun _ => rfl))
         simp
     . simp at h8
       have hjl : j = (Jcc c (Ja5 c) r).length := by omega
       subst hjl
       have hia := @J92 c (Ja5 c) r
       simp [hia]
       refine ⟨wrap_i64 (by omega) (by omega), r + 1, by omega, by omega, ⟨by rw [hds]; simp, by omega, by omega⟩, ?_, by decide⟩
       rw [hds]
       refine of_eq_true (Jim ?_ (Jla fun _ => rfl))
       simp
   . simp at h7
     have hr5 : r = 5 := by omega
     subst hr5
     have hpm := @J7g c (Ja5 c) h hL
     have hlm := @Ka9 c
     have hsl := Jy7 h hlm
     have hsd := Jy7 h hpm
     have hll := hlm.length_eq
     have hld := hpm.length_eq
     rw [List.length_map] at hll hld
     simp
     refine Ja6 (Jw6 (legN c c.parts.length) _ 3 1 (by simp [get]) (by omega) (by omega)) ?_
     simp
     refine Ja6 (Jw6 (Jdj c (Ja5 c) 5) _ 3 2 (by simp [get]) (by omega) (by omega)) ?_
     rw [hsl, hsd, hll, hld]
     have hnd := Jy6 h
     have hnl : (c.parts.map (·.name)).length = c.parts.length := List.length_map ..
     generalize hNM : c.parts.map (·.name) = NM at *
     have hEq := wF (Jug NM NM (by omega))
     have hCo := wF (J35 NM (by omega) hnd)
     rw [<- hnl]
     simp
     refine Jak.intro (by kernel_rfl) ?_
     simp
     refine Jcs ?_
     simp
     refine ⟨_, hEq, rfl, ?_⟩
     simp
     refine Ki4 ?_
     simp
     refine ⟨_, hCo, ?_⟩
     simp [hnl]
     refine ⟨.of (by kernel_rfl), ?_⟩
     refine Jag.go [1, 5, 9, 184, 185] [0] 0 [] (fun _ => []) (fun _ (k : Nat) => [(186, .p (.int .i64 k))]) (fun _ _ => []) (fun k => k <= c.parts.length) (fun k => c.parts.length - k) 0 (by omega) ?_ ?_
     . simp
     intro k hk
     simp
     refine Jad (fun h9 => ?_) (fun h9 => ?_)
     . simp at h9
       obtain ⟨q, eq⟩ := Jae h9
       have hDr := wF (Juv c q.name hs)
       simp [h9, eq, -getElem?_pos, List.getElem?_cons_zero, List.getElem?_cons_succ]
       refine Jab hDr ?_
       simp
       refine Jak.intro (by kernel_rfl) ?_
       by_cases hd : Ja1 c q.name = 0
       . obtain ⟨v, hv, hvl, _, hle⟩ := J7h h eq hd
         obtain ⟨hk1, hr1, hr0⟩ := J7q h eq hd hv
         have ep1 := J0p hvl
         have ep0 := J0p h9
         rw [hr1] at ep1
         rw [hr0] at ep0
         have eg1 := Jxg (g := Jcg c) (v := v) (by omega)
         have eg0 := Jxg (g := Jcg c) (v := k) (by omega)
         have hv0 : ¬ (v : Int) < 0 := by omega
         have hv1 : (v : Int) < c.parts.length := by omega
         have hv2 : ¬ (c.parts.length : Int) <= (v : Int) := by omega
         have hgle : ¬ gAt (Jcg c) k < gAt (Jcg c) v := by omega
         simp [h9, eq, hd, hv, hvl, hk1, ep1, ep0, eg1, eg0, hv0, hv1, hv2, hgle, -getElem?_pos, List.getElem?_cons_zero, List.getElem?_cons_succ]
         exact ⟨by omega, by omega, by omega, by omega, .of (by kernel_rfl), wrap_i64 (by omega) (by omega), k + 1, by omega, by omega, by omega⟩
       . simp [h9, eq, hd, -getElem?_pos, List.getElem?_cons_zero, List.getElem?_cons_succ]
         exact ⟨.of (by kernel_rfl), wrap_i64 (by omega) (by omega), k + 1, by omega, by omega, by omega⟩
     . simp at h9
       have hkl : k = c.parts.length := by omega
       subst hkl
       simp
       refine Jab hP ?_
       simp [Jaa]
end Go.Am
