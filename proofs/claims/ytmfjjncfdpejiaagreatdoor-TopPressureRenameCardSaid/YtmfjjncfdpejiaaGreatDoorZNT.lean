/- Lemmas and contracts for the proof of a statement of this seat. -/
import Derived.Test.YtmfjjncfdpejiaaGreatDoorZC1
import Derived.Test.YtmfjjncfdpejiaaGreatDoorZA8
import Derived.Shelf.Strings.SlTrimAscii
import Derived.Test.YtmfjjncfdpejiaaGreatDoorZN8
import Derived.Test.YtmfjjncfdpejiaaGreatDoorZN3
import Derived.Test.YtmfjjncfdpejiaaGreatDoorZG1
set_option linter.unusedVariables false
set_option linter.unusedSimpArgs false
namespace Go.Am
open Go Go.Proofs Go.Shelf Go.RowKit
def Kgu : Ren := ⟨fun k => match k with | 162 => 122 | 232 => 197 | 227 => 198 | 234 => 199 | 236 => 200 | 228 => 260 | 271 => 261 | 151 => 262 | 120 => 331 | 197 => 188 | 152 => 332 | 260 => 254 | 137 => 344 | 119 => 366 | 224 => 318 | 225 => 317 | 217 => 316 | 266 => 360 | k => k, fun k => match k with | 9 => 9 | 4 => 4 | 3 => 3 | 5 => 5 | 117 => 278 | 116 => 277 | 0 => 0 | 124 => 281 | 21 => 21 | 105 => 259 | 46 => 310 | 119 => 369 | 139 => 372 | 138 => 371 | k => k, fun k => match k with | 3 => 1 | 4 => 2 | k => k⟩
set_option maxRecDepth 100000 in
theorem trm5 : Lays.n162 Tryz.prog Kgu where
 mixed := by kernel_rfl
 f119 := (Tryz.func366).trans (by kernel_rfl)
 f120 := (Tryz.func331).trans (by kernel_rfl)
 f137 := (Tryz.func344).trans (by kernel_rfl)
 f151 := (Tryz.func262).trans (by kernel_rfl)
 f152 := (Tryz.func332).trans (by kernel_rfl)
 f162 := (Tryz.func122).trans (by kernel_rfl)
 f197 := (Tryz.func188).trans (by kernel_rfl)
 f217 := (Tryz.func316).trans (by kernel_rfl)
 f224 := (Tryz.func318).trans (by kernel_rfl)
 f225 := (Tryz.func317).trans (by kernel_rfl)
 f227 := (Tryz.func198).trans (by kernel_rfl)
 f228 := (Tryz.func260).trans (by kernel_rfl)
 f232 := (Tryz.func197).trans (by kernel_rfl)
 f234 := (Tryz.func199).trans (by kernel_rfl)
 f236 := (Tryz.func200).trans (by kernel_rfl)
 f260 := (Tryz.func254).trans (by kernel_rfl)
 f266 := (Tryz.func360).trans (by kernel_rfl)
 f271 := (Tryz.func261).trans (by kernel_rfl)
 t0 := by kernel_rfl
 a0 := fun w => by kernel_rfl
 z0 := fun w => by kernel_rfl
 v0 := fun w => by kernel_rfl
 t3 := by kernel_rfl
 a3 := fun w => by kernel_rfl
 z3 := fun w => by kernel_rfl
 v3 := fun w => by kernel_rfl
 t4 := by kernel_rfl
 a4 := fun w => by kernel_rfl
 z4 := fun w => by kernel_rfl
 v4 := fun w => by kernel_rfl
 t5 := by kernel_rfl
 a5 := fun w => by kernel_rfl
 z5 := fun w => by kernel_rfl
 v5 := fun w => by kernel_rfl
 t9 := by kernel_rfl
 a9 := fun w => by kernel_rfl
 z9 := fun w => by kernel_rfl
 v9 := fun w => by kernel_rfl
 t21 := by kernel_rfl
 a21 := fun w => by kernel_rfl
 z21 := fun w => by kernel_rfl
 v21 := fun w => by kernel_rfl
 t46 := by kernel_rfl
 a46 := fun w => by kernel_rfl
 z46 := fun w => by kernel_rfl
 v46 := fun w => by kernel_rfl
 t105 := by kernel_rfl
 a105 := fun w => by kernel_rfl
 z105 := fun w => by kernel_rfl
 v105 := fun w => by kernel_rfl
 t116 := by kernel_rfl
 a116 := fun w => by kernel_rfl
 z116 := fun w => by kernel_rfl
 t117 := by kernel_rfl
 a117 := fun w => by kernel_rfl
 z117 := fun w => by kernel_rfl
 v117 := fun w => by kernel_rfl
 t119 := by kernel_rfl
 a119 := fun w => by kernel_rfl
 z119 := fun w => by kernel_rfl
 t124 := by kernel_rfl
 a124 := fun w => by kernel_rfl
 z124 := fun w => by kernel_rfl
 v124 := fun w => by kernel_rfl
 t138 := by kernel_rfl
 a138 := fun w => by kernel_rfl
 z138 := fun w => by kernel_rfl
 v138 := fun w => by kernel_rfl
 t139 := by kernel_rfl
 a139 := fun w => by kernel_rfl
 z139 := fun w => by kernel_rfl
 v139 := fun w => by kernel_rfl
 g3 := by kernel_rfl
 g4 := by kernel_rfl
set_option maxRecDepth 100000 in
theorem J4g (s cs : List UInt8) (hl : s.length <= 9223372036854775807) (hc : cs.length < 4294967281) (ha : cs.all (fun b => decide (b.toNat < 128)) = true) : Pure Tryz.prog GL 122 [.p (.str s), .p (.str cs)] (.p (.str (Lib.trimRightS s cs))) := by
 refine Pure.of_below Tryz.func122 (by kernel_rfl) rfl rfl fun own w vs hg hs hlen hv => ?_
 match vs, hlen with
 | [a, b], _ =>
   have ea := (hv 0 _ a rfl rfl).str_inv
   have eb := (hv 1 _ b rfl rfl).str_inv
   subst ea; subst eb
   refine Calls.mono (Any.strings_TrimRight_laid trm5 (by kernel_rfl) ⟨⟨s⟩⟩ ⟨⟨cs⟩⟩ w (by simpa [ByteArray.size] using hl) (by simpa [ByteArray.size] using hc) (ascii_of_all ha)) ?_
   rintro e w' ⟨rfl, hw⟩
   exact ⟨_, rfl, .p _ _ (.str _), hw⟩
end Go.Am
namespace Go.Am
open Go Go.Proofs Go.Pn
def s01 : Txt := [48, 49]
theorem Kgt {t : Txt} {b : UInt8} : (Lib.trimRightS (t ++ [b]) s01 ≠ t ++ [b]) ↔ (b = 48 \/ b = 49) := by
 unfold Lib.trimRightS
 rw [List.reverse_append, List.reverse_cons, List.reverse_nil, List.nil_append, List.singleton_append, List.dropWhile_cons]
 have hc : s01.contains b = true ↔ (b = 48 \/ b = 49) := by
   unfold s01
   rw [List.contains_iff_mem]; simp
 by_cases h : s01.contains b = true
 . rw [if_pos h]
   refine ⟨fun _ => hc.1 h, fun _ e => ?_⟩
   have h2 := congrArg List.length e
   rw [List.length_reverse, List.length_append] at h2
   have h3 := (List.dropWhile_sublist (l := t.reverse) (s01.contains ·)).length_le
   rw [List.length_reverse] at h3
   have h4 : (List.dropWhile (fun x => s01.contains x) t.reverse).length + 0 = t.length + 1 := by simpa using h2
   omega
 . rw [if_neg h]
   refine ⟨fun hn => absurd ?_ hn, fun h2 => absurd (hc.2 h2) h⟩
   simp
theorem Kf6 {s : Txt} : s = [] \/ ∃ t b, s = t ++ [b] := by
 rcases List.eq_nil_or_concat s with h | ⟨t, b, h⟩
 . exact .inl h
 . exact .inr ⟨t, b, by simpa using h⟩
theorem J1p {s t : Txt} {b x : UInt8} (h : s ++ [b] = t ++ [x]) : s = t := (List.append_inj' h rfl).1
def rnN (c : Circuit) (p : Part) (old new : Txt) : Txt :=
 if p.name = old then new else
 if p.kind = 6 /\ 0 <= Ja4 c old /\ Jal c (Ja4 c old) = 1 /\ Lib.trimRightS p.name s01 ≠ p.name /\ p.name.take (p.name.length - 1) = old then new ++ p.name.drop (p.name.length - 1) else p.name
theorem Kfi {c : Circuit} (h : Jad c = 0) {p : Part} (hp : p ∈ c.parts) {old new : Txt} (h0 : 0 <= Ja4 c old) : rnN c p old new = Jat c old new p.name := by
 unfold rnN Jat
 by_cases h1 : p.name = old
 . rw [if_pos h1, if_pos h1]
 rw [if_neg h1, if_neg h1]
 have hsw : p.kind = 6 ↔ 0 <= swAt c p.name := by
   rw [<- Jtd h]
   obtain ⟨i, hi⟩ := List.mem_iff_getElem?.1 hp
   constructor
   . intro hk; exact ⟨i, p, (gsI.1 hi).1, hi, hk, rfl⟩
   . rintro ⟨j, q, _, e, hk, hn⟩
     have a : (c.parts.map (·.name))[i]? = some p.name := by rw [List.getElem?_map, hi]; rfl
     have b : (c.parts.map (·.name))[j]? = some p.name := by rw [List.getElem?_map, e]; simp [hn]
     have := Jjo (Jld h) a b
     subst this
     rw [hi] at e; cases e; exact hk
 rcases @Kf6 p.name with e | ⟨t, b, e⟩
 . rw [if_neg (fun hh => hh.2.2.2.1 (by rw [e]; rfl)), if_neg (fun hh => by have := hh.2.1; rw [e] at this; simpa using congrArg List.length this), if_neg (fun hh => by have := hh.2.1; rw [e] at this; simpa using congrArg List.length this)]
 . have ht := @Kgt t b
   have e1 : p.name.take (p.name.length - 1) = t := by rw [e]; simp
   have e2 : p.name.drop (p.name.length - 1) = [b] := by rw [e]; simp
   rw [e] at hsw
   rw [e1, e2, e]
   clear e1 e2
   by_cases h2 : t = old
   . subst h2
     by_cases h3 : b = 48
     . subst h3
       have ht2 := ht.2 (.inl rfl)
       by_cases h4 : p.kind = 6
       . by_cases h5 : Jal c (Ja4 c t) = 1
         . rw [if_pos ⟨h4, h0, h5, ht2, rfl⟩, if_pos ⟨h5, rfl, hsw.1 h4⟩]
         . rw [if_neg (fun hh => h5 hh.2.2.1), if_neg (fun hh => h5 hh.1), if_neg (fun hh => h5 hh.1)]
       . rw [if_neg (fun hh => h4 hh.1), if_neg (fun hh => h4 (hsw.2 hh.2.2)), if_neg (fun hh => by have := hh.2.1; simp at this)]
     . by_cases h3' : b = 49
       . subst h3'
         have ht2 := ht.2 (.inr rfl)
         by_cases h4 : p.kind = 6
         . by_cases h5 : Jal c (Ja4 c t) = 1
           . rw [if_pos ⟨h4, h0, h5, ht2, rfl⟩, if_neg (fun hh => by have := hh.2.1; simp at this), if_pos ⟨h5, rfl, hsw.1 h4⟩]
           . rw [if_neg (fun hh => h5 hh.2.2.1), if_neg (fun hh => h5 hh.1), if_neg (fun hh => h5 hh.1)]
         . rw [if_neg (fun hh => h4 hh.1), if_neg (fun hh => by have := hh.2.1; simp at this), if_neg (fun hh => h4 (hsw.2 hh.2.2))]
       . rw [if_neg (fun hh => (ht.1 hh.2.2.2.1).elim h3 h3'), if_neg (fun hh => h3 (by simpa using hh.2.1)), if_neg (fun hh => h3' (by simpa using hh.2.1))]
   . rw [if_neg (fun hh => h2 hh.2.2.2.2), if_neg (fun hh => h2 (J1p hh.2.1)), if_neg (fun hh => h2 (J1p hh.2.1))]
set_option maxRecDepth 20000 in
theorem J55 (c : Circuit) (p : Part) (old new : Txt) (hs : Sized c) (hp : p.name.length < 1000000000000000000) (hn : new.length < 1000000000000000000) : Pure Tryz.prog GL 51 [c.av, p.av, .p (.str old), .p (.str new)] (.p (.str (rnN c p old new))) := by
 refine Pure.of_walk (N := 64) Tryz.func51 rfl rfl rfl (by simp) (by first | (simp; done) | simp [*]) ?_
 have hT := J4g p.name s01 (by omega) (by decide) (by decide)
 unfold rnN
 by_cases h1 : p.name = old
 . simp [h1, Jaa]
 simp [h1]
 refine Jab (Jqh c old hs) ?_
 rw [<- Ja4]
 by_cases h2 : p.kind = 6
 . rcases Jgy c old with e0 | ⟨i, q, e0, e1, e2⟩
   . simp [h2, e0]
     refine Jaj.intro (by kernel_rfl) ?_
     simp [h2, e0]
     refine ⟨.of (by kernel_rfl), ?_⟩
     simp [Jaa, h1]
   . have hi : i < c.parts.length := (gsI.1 e1).1
     have hka : Jal c (i : Int) = q.kind := by unfold Jal; rw [Int.toNat_natCast, e1]; rfl
     have hi0 : (0 : Int) <= (i : Int) := by omega
     by_cases h3 : q.kind = 1
     . by_cases h4 : Lib.trimRightS p.name s01 = p.name
       . simp [h2, e0]
         refine Jaj.intro (by kernel_rfl) ?_
         simp [h2, e0, hi, e1, h3, hi0, -getElem?_pos, List.getElem?_cons_zero, List.getElem?_cons_succ]
         refine Jab hT ?_
         simp [h4]
         refine ⟨.of (by kernel_rfl), ?_⟩
         simp [Jaa, h1, h4]
       . have hne : p.name ≠ [] := fun e => h4 (by rw [e]; rfl)
         have hln : 1 <= p.name.length := List.length_pos_iff.2 hne
         by_cases h5 : p.name.take (p.name.length - 1) = old
         . simp [h2, e0]
           refine Jaj.intro (by kernel_rfl) ?_
           simp [h2, e0, hi, e1, h3, hi0, -getElem?_pos, List.getElem?_cons_zero, List.getElem?_cons_succ]
           refine Jab hT ?_
           simp [h4]
           refine ⟨wrap_i64 (by omega) (by omega), ?_⟩
           rw [if_pos ⟨by omega, by omega⟩]
           simp [h5]
           refine ⟨.of (by kernel_rfl), wrap_i64 (by omega) (by omega), ?_⟩
           rw [if_pos ⟨by omega, by omega⟩]
           have htk : List.take (p.name.length - (p.name.length - 1)) (p.name.drop (p.name.length - 1)) = p.name.drop (p.name.length - 1) := List.take_of_length_le (by simp)
           simp [htk]
           refine ⟨by omega, ?_⟩
           have hka2 : Jal c (i : Int) = 1 := by rw [hka, h3]
           have hcond : p.kind = 6 /\ 0 <= Ja4 c old /\ Jal c (Ja4 c old) = 1 /\ ¬Lib.trimRightS p.name s01 = p.name /\ List.take (p.name.length - 1) p.name = old := ⟨h2, by omega, by rw [e0]; exact hka2, h4, h5⟩
           rw [if_neg h1, if_pos hcond]
           simp [Jaa]
         . simp [h2, e0]
           refine Jaj.intro (by kernel_rfl) ?_
           simp [h2, e0, hi, e1, h3, hi0, -getElem?_pos, List.getElem?_cons_zero, List.getElem?_cons_succ]
           refine Jab hT ?_
           simp [h4]
           refine ⟨wrap_i64 (by omega) (by omega), ?_⟩
           rw [if_pos ⟨by omega, by omega⟩]
           simp [h5]
           refine ⟨.of (by kernel_rfl), ?_⟩
           simp [Jaa, h1, h5]
     . simp [h2, e0]
       refine Jaj.intro (by kernel_rfl) ?_
       simp [h2, e0, hi, e1, h3, hi0, -getElem?_pos, List.getElem?_cons_zero, List.getElem?_cons_succ]
       refine ⟨.of (by kernel_rfl), ?_⟩
       simp [Jaa, h1, hka, h3, e0]
 . simp [h2]
   refine Jaj.intro (by kernel_rfl) ?_
   simp [h2]
   refine ⟨.of (by kernel_rfl), ?_⟩
   simp [Jaa, h1]
end Go.Am
namespace Go.Am
open Go Go.Proofs Go.Pn
theorem Kf4 {c : Circuit} (h : Jad c = 0) : Sized c := by
 have h2 := Jbg h
 refine ⟨by omega, by omega, fun p hp => ?_⟩
 have := (Jpr (Joi (Joj h hp)).2.1).2.2
 omega
def mvK (l : List Int) (G : Nat -> Int) : Nat -> List Int
 | 0 => List.replicate l.length 0
 | k + 1 => (mvK l G k).set (G k).toNat ((l[k]?).getD 0)
def whK (n : Nat) (G : Nat -> Int) : Nat -> List Int
 | 0 => List.replicate n 0
 | k + 1 => (whK n G k).set k (G k)
theorem Jjl {l : List Int} {G : Nat -> Int} : ∀ {k : Nat}, (mvK l G k).length = l.length
 | 0 => by simp [mvK]
 | k + 1 => by rw [mvK, List.length_set, Jjl]
theorem Jt1 {n : Nat} {G : Nat -> Int} : ∀ {k : Nat}, (whK n G k).length = n
 | 0 => by simp [whK]
 | k + 1 => by rw [whK, List.length_set, Jt1]
theorem Jy1 {l : List Int} {G : Nat -> Int} (hb : ∀ i, i < l.length -> (G i).toNat < l.length) (hi : ∀ i j, i < l.length -> j < l.length -> (G i).toNat = (G j).toNat -> i = j) : ∀ {k i : Nat}, k <= l.length -> i < k -> (mvK l G k)[(G i).toNat]? = some ((l[i]?).getD 0)
 | k + 1, i, hk, h => by
   rw [mvK]
   by_cases e : i = k
   . subst e
     rw [List.getElem?_set_self (by rw [Jjl]; exact hb i (by omega))]
   . have hne : (G k).toNat ≠ (G i).toNat := fun h2 => e (hi i k (by omega) (by omega) h2.symm)
     rw [List.getElem?_set_ne hne]
     exact Jy1 hb hi (by omega) (by omega)
theorem J2i {n : Nat} {G : Nat -> Int} : ∀ {k i : Nat}, k <= n -> i < k -> (whK n G k)[i]? = some (G i)
 | k + 1, i, hk, h => by
   rw [whK]
   by_cases e : i = k
   . subst e
     rw [List.getElem?_set_self (by rw [Jt1]; omega)]
   . rw [List.getElem?_set_ne (fun h => e h.symm)]
     exact J2i (by omega) (by omega)
theorem Jxa {c : Circuit} {old new : Txt} (h : rnmE c old new = 0) : (rnmC c old new).parts.length = c.parts.length /\ (∀ i, i < c.parts.length -> ∃ j : Nat, renG c old new i = j /\ j < c.parts.length) /\
   ∀ i j, i < c.parts.length -> j < c.parts.length -> renG c old new (i : Nat) = renG c old new (j : Nat) -> i = j := by
 have I := Jsp h
 have hl := (Kfe h).2
 refine ⟨hl, fun i hi => ?_, fun i j hi hj e => ?_⟩
 . obtain ⟨q, e⟩ := Jae hi
   obtain ⟨j, h1, h2⟩ := Jhv h e
   exact ⟨j, h1, by rw [<- hl]; exact (gsI.1 h2).1⟩
 . obtain ⟨p, hp, e1⟩ := Jll I.hc hi
   obtain ⟨q, hq, e2⟩ := Jll I.hc hj
   have := I.inj p q hp hq (by rw [e1, e2]; exact e)
   rw [e1, e2] at this
   omega
theorem Kbp {c : Circuit} {old new : Txt} (h : rnmE c old new = 0) {l : List Int} (hl : Jam c l = 0) :
   Jam (rnmC c old new) (mvK l (fun i => renG c old new i) l.length) = 0 /\ Je9 c (renG c old new) l (mvK l (fun i => renG c old new i) l.length) := by
 obtain ⟨g1, g2, g3⟩ := Jxa h
 obtain ⟨q1, q2, q3⟩ := Jeg hl
 have I := Jsp h
 have hb : ∀ i, i < l.length -> ((fun i : Nat => renG c old new i) i).toNat < l.length := fun i hi => by
   obtain ⟨j, e, hj⟩ := g2 i (by omega)
   simp only [e]; omega
 have hi : ∀ i j, i < l.length -> j < l.length -> ((fun i : Nat => renG c old new i) i).toNat = ((fun i : Nat => renG c old new i) j).toNat -> i = j := fun i j hi hj e => by
   obtain ⟨a, ea, _⟩ := g2 i (by omega)
   obtain ⟨b, eb, _⟩ := g2 j (by omega)
   refine g3 i j (by omega) (by omega) ?_
   simp only [ea, eb] at e ⊢
   omega
 have hat := fun i (hh : i < l.length) => Jy1 (l := l) (G := fun i => renG c old new i) hb hi (Nat.le_refl l.length) hh
 have hs : Je9 c (renG c old new) l (mvK l (fun i => renG c old new i) l.length) := fun p hp => by
   obtain ⟨i, q, e1, e2, _⟩ := Jf7 hp
   have hil := (gsI.1 e2).1
   have := hat i (by omega)
   unfold Jdk
   rw [e1, Int.toNat_natCast, this]; rfl
 refine ⟨?_, hs⟩
 unfold Jam
 rw [I.hd, if_neg (by simp), if_neg (by rw [Jjl]; omega), Jk4]
 intro j hj
 rw [Jjl] at hj
 obtain ⟨p, hp, e1⟩ := Jll I.hd (i := j) (by omega)
 obtain ⟨r, hr, e2⟩ := I.surj p hp
 obtain ⟨i, q, f1, f2, _⟩ := Jf7 hr
 have hil := (gsI.1 f2).1
 obtain ⟨j2, k1, k2⟩ := Jhv h f2
 have hj2 : j2 = j := by
   have : (mvI (renG c old new) r).part = (j : Int) := by rw [e2, e1]
   simp only [mvI] at this
   rw [f1, k1] at this
   omega
 subst hj2
 have ha := hat i (by omega)
 simp only [k1, Int.toNat_natCast] at ha
 obtain ⟨a, b1, b2, b3⟩ := q3 i q f2
 unfold Jg0
 rw [k2, ha, b1]
 simp only [Option.getD_some, Jbn]
 unfold Jb3 at b2
 rw [Jcs.2 b3] at b2
 simp only [ne_eq, not_true_eq_false, if_false] at b2
 split at b2
 . cases b2
 . rename_i hn
   exact if_neg hn
set_option maxRecDepth 20000 in
theorem J54 (c : Circuit) (l : List Int) (old new : Txt) (hs : Sized c) (hl : l.length < 4611686018427387904) : Pure Tryz.prog GL 11 [c.av, Ints.av l, .agg [.p (.str old), .p (.str new)]] (.p (.bool true)) := by
 refine Pure.of_walk (N := 142) Tryz.func11 rfl rfl rfl (by simp) (by first | (simp; done) | simp [*]) ?_
 have hR := J57 c hs
 have hQ := J53 c l hs hl
 have hP := J56 ()
 simp [Ints.av]
 refine Jaj.intro (by kernel_rfl) ?_
 simp
 refine ⟨.of (by kernel_rfl), ?_⟩
 refine Jab hR ?_
 cases hf : (fewP c && decide (Jad c = 0)) with
 | false =>
   simp
   refine Jab hP ?_
   simp [Jaa]
 | true =>
   simp only [Bool.and_eq_true, decide_eq_true_eq] at hf
   obtain ⟨hfw, h⟩ := hf
   have h2 := (Jbg h).2.1
   by_cases h60 : 60 < (old.length : Int)
   . simp [h60]
     refine Jab hP ?_
     simp [Jaa]
   by_cases h61 : 60 < (new.length : Int)
   . simp [h60, h61]
     refine Jab hP ?_
     simp [Jaa]
   by_cases h20 : 20 < (l.length : Int)
   . simp [h60, h61, h20]
     refine Jab hP ?_
     simp [Jaa]
   simp [h60, h61, h20]
   refine Jab hQ ?_
   by_cases hq : Jam c l = 0
   . simp [hq]
     have hRn := J5a c old new hs (by omega) (by omega)
     refine Jab hRn ?_
     simp
     by_cases hE : rnmE c old new = 0
     . obtain ⟨g1, g2, g3⟩ := Jxa hE
       have hlen := (Jeg hq).2.1
       have hdq := Kbp hE hq
       have I := Jsp hE
       have hsd : Sized (rnmC c old new) := Kf4 I.hd
       simp [hE, g1]
       refine ⟨by omega, by omega, by omega, by omega, ?_⟩
       have hz : List.replicate l.length [AV.p (PV.int IntKind.i64 0)] = (List.replicate l.length (0 : Int)).map Int.row := by simp
       rw [hz]
       refine Jag.go [1, 3, 7, 8, 9, 11, 12, 75, 76] [0, 2] 0 [] (fun _ => []) (fun _ (k : Nat) => [(77, .p (.int .i64 k))]) (fun _ k => [(3, some (.cells 1 ((mvK l (fun i => renG c old new i) k).map Int.row))), (4, some (.cells 1 ((whK l.length (fun i => renG c old new i) k).map Int.row)))]) (fun k => k <= c.parts.length) (fun k => c.parts.length - k) 0 (by omega) ?_ ?_
       . simp [mvK, whK]
         try decide
       intro k hk
       have hml := @Jjl l (fun i => renG c old new i) k
       have hwl := @Jt1 l.length (fun i => renG c old new i) k
       simp
       refine Jac (fun h3 => ?_) (fun h3 => ?_)
       . simp at h3
         obtain ⟨p, e⟩ := Jae h3
         obtain ⟨j, ej, hj⟩ := g2 k h3
         obtain ⟨a, ea⟩ := Jae (xs := l) (k := k) (by omega)
         have hpm := List.mem_of_getElem? e
         have hpn := hs.names p hpm
         have h24 := (Jpr (Joi (Joj h hpm)).2.1).2.2
         have hNm := J55 c p old new hs (by omega) (by omega)
         rw [Kfi h hpm (Jj7 hE).2.1] at hNm
         have hIx := Jqh (rnmC c old new) (Jat c old new p.name) hsd
         have hre : (idxI (rnmC c old new).parts fun q => decide (q.name = Jat c old new p.name)) = (j : Int) := by
           rw [<- ej]
           unfold renG Ja4
           rw [Jn8 e]
         rw [hre] at hIx
         have hkl : k < l.length := by omega
         have hjl : j < l.length := by omega
         simp [h3, e, -getElem?_pos, List.getElem?_cons_zero, List.getElem?_cons_succ]
         refine Jaj.intro (by kernel_rfl) ?_
         simp
         refine Jab hNm ?_
         simp
         refine Jab hIx ?_
         simp
         refine ⟨.of (by kernel_rfl), ?_⟩
         have hj0 : ¬ (j : Int) < 0 := by omega
         obtain ⟨u, eu⟩ := Jae (xs := mvK l (fun i => renG c old new i) k) (k := j) (by omega)
         obtain ⟨v, ev⟩ := Jae (xs := whK l.length (fun i => renG c old new i) k) (k := k) (by omega)
         have hm1 : mvK l (fun i => renG c old new i) (k + 1) = (mvK l (fun i => renG c old new i) k).set j a := by rw [mvK, ej, ea]; rfl
         have hw1 : whK l.length (fun i => renG c old new i) (k + 1) = (whK l.length (fun i => renG c old new i) k).set k (j : Int) := by rw [whK, ej]
         have hr5 : List.range 5 = [0, 1, 2, 3, 4] := rfl
         simp [hj0, hkl, hjl, ea, hml, hwl, eu, ev, -getElem?_pos, List.getElem?_cons_zero, List.getElem?_cons_succ]
         refine ⟨wrap_i64 (by omega) (by omega), k + 1, by omega, by omega, ?_⟩
         rw [hm1, hw1, List.map_set, List.map_set, hr5]
         simp
         try decide
       simp at h3
       have hkl : k = c.parts.length := by omega
       subst hkl
       rw [<- hlen] at hml hwl ⊢
       have hM := Jjl (l := l) (G := fun i => renG c old new i) (k := l.length)
       have hW := fun i (hi : i < l.length) => J2i (n := l.length) (G := fun i => renG c old new i) (Nat.le_refl _) hi
       generalize mvK l (fun i => renG c old new i) l.length = M at hM hdq hml ⊢
       generalize whK l.length (fun i => renG c old new i) l.length = W at hW hwl ⊢
       have hAll := J5x c (Jbg h).1 (by omega)
       simp
       refine Jab hAll ?_
       simp
       refine Jag.go [1, 3, 9, 11, 12, 104, 105] [0, 2, 3, 4] 0 [] (fun _ => []) (fun _ (k : Nat) => [(106, .p (.int .i64 k))]) (fun _ _ => []) (fun k => k <= (allP c).length) (fun k => (allP c).length - k) 0 (by omega) ?_ ?_
       . simp
         try decide
       intro k hk
       simp
       refine Jac (fun h3 => ?_) (fun h3 => ?_)
       . simp at h3
         obtain ⟨p, e⟩ := Jae h3
         have hp := List.mem_of_getElem? e
         obtain ⟨i, q, e1, e2, _⟩ := Jf7 hp
         have hil := (gsI.1 e2).1
         obtain ⟨j, ej, hj⟩ := g2 i hil
         have hWi := hW i (by omega)
         simp only [ej] at hWi
         have hA := Jv0 c l p hs hl
         have hB := Jv0 (rnmC c old new) M ⟨(j : Int), p.name⟩ hsd (by omega)
         have hst := I.state hq hdq.1 hdq.2 hp
         have hga : Jbh c p = 0 := Jdl.1 hp
         have hgb : Jbh (rnmC c old new) ⟨(j : Int), p.name⟩ = 0 := by
           have := Jdl.1 (I.mem p hp)
           unfold mvI at this
           rw [e1, ej] at this
           exact this
         have a1 : Jgj c l p = 0 := by unfold Jgj; rw [hq, if_neg (by simp)]; exact hga
         have a2 : Jgj (rnmC c old new) M ⟨(j : Int), p.name⟩ = 0 := by unfold Jgj; rw [hdq.1, if_neg (by simp)]; exact hgb
         have a3 : Jg9 (rnmC c old new) M ⟨(j : Int), p.name⟩ = Jg9 c l p := by
           unfold Jg9
           rw [a1, a2, if_neg (by simp), if_neg (by simp), <- hst, e1, ej]
         rw [a1] at hA
         rw [a2, a3] at hB
         obtain ⟨pp, pn⟩ := p
         simp only at e1
         subst e1
         have hiM : i < l.length := by omega
         simp [h3, e, -getElem?_pos, List.getElem?_cons_zero, List.getElem?_cons_succ]
         refine Jab hA ?_
         simp
         refine Jaj.intro (by kernel_rfl) ?_
         simp [hiM, hWi, hwl, -getElem?_pos, List.getElem?_cons_zero, List.getElem?_cons_succ]
         rw [<- hM]
         refine Jcv ?_
         simp
         refine ⟨_, hB, rfl, ?_⟩
         simp
         have hal := Ji4 (Jbg h).1 (by omega)
         exact ⟨.of (by kernel_rfl), wrap_i64 (by omega) (by omega), k + 1, by omega, by omega, by omega, by decide⟩
       simp at h3
       simp
       refine Jab hP ?_
       simp [Jaa]
     . simp [hE]
       refine Jab hP ?_
       simp [Jaa]
   . simp [hq]
     refine Jab hP ?_
     simp [Jaa]
end Go.Am
