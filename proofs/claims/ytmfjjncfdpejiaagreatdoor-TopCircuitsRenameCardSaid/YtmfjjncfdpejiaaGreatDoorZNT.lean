/- Lemmas and contracts for the proof of a statement of this seat. -/
import Derived.Test.YtmfjjncfdpejiaaGreatDoorZC1
import Derived.Test.YtmfjjncfdpejiaaGreatDoorZA7
import Derived.Shelf.Strings.SlTrimAscii
import Derived.Test.YtmfjjncfdpejiaaGreatDoorZN8
import Derived.Test.YtmfjjncfdpejiaaGreatDoorZN1
import Derived.Test.YtmfjjncfdpejiaaGreatDoorZF6
set_option linter.unusedVariables false
set_option linter.unusedSimpArgs false
namespace Go.Am
open Go Go.Proofs Go.Shelf Go.RowKit
def J80 : Ren := ⟨fun k => match k with | 162 => 122 | 232 => 197 | 227 => 198 | 234 => 199 | 236 => 200 | 228 => 260 | 271 => 261 | 151 => 262 | 120 => 331 | 197 => 188 | 152 => 332 | 260 => 254 | 137 => 344 | 119 => 366 | 224 => 318 | 225 => 317 | 217 => 316 | 266 => 360 | k => k, fun k => match k with | 9 => 9 | 4 => 4 | 3 => 3 | 5 => 5 | 117 => 278 | 116 => 277 | 0 => 0 | 124 => 281 | 21 => 21 | 105 => 259 | 46 => 310 | 119 => 369 | 139 => 372 | 138 => 371 | k => k, fun k => match k with | 3 => 1 | 4 => 2 | k => k⟩
set_option maxRecDepth 100000 in
theorem trm5 : Lays.n162 Tryz.prog J80 where
 mixed := by kernel_rfl
 f119 := (Tryz.func366).trans (by kernel_rfl)
 f120 := (Tryz.func331).trans (by kernel_rfl)
 f137 := (Tryz.func344).trans (by kernel_rfl)
 f151 := (Tryz.func262).trans (by kernel_rfl)
 f152 := (Tryz.func332).trans (by kernel_rfl)
 f162 := (Tryz.func122).trans (by kernel_rfl)
 f197 := (Tryz.func188).trans (by kernel_rfl)
 f217 := (Tryz.func316).trans (by kernel_rfl)
 f224 := (Tryz.func318).trans (by kernel_rfl)
 f225 := (Tryz.func317).trans (by kernel_rfl)
 f227 := (Tryz.func198).trans (by kernel_rfl)
 f228 := (Tryz.func260).trans (by kernel_rfl)
 f232 := (Tryz.func197).trans (by kernel_rfl)
 f234 := (Tryz.func199).trans (by kernel_rfl)
 f236 := (Tryz.func200).trans (by kernel_rfl)
 f260 := (Tryz.func254).trans (by kernel_rfl)
 f266 := (Tryz.func360).trans (by kernel_rfl)
 f271 := (Tryz.func261).trans (by kernel_rfl)
 t0 := by kernel_rfl
 a0 := fun w => by kernel_rfl
 z0 := fun w => by kernel_rfl
 v0 := fun w => by kernel_rfl
 t3 := by kernel_rfl
 a3 := fun w => by kernel_rfl
 z3 := fun w => by kernel_rfl
 v3 := fun w => by kernel_rfl
 t4 := by kernel_rfl
 a4 := fun w => by kernel_rfl
 z4 := fun w => by kernel_rfl
 v4 := fun w => by kernel_rfl
 t5 := by kernel_rfl
 a5 := fun w => by kernel_rfl
 z5 := fun w => by kernel_rfl
 v5 := fun w => by kernel_rfl
 t9 := by kernel_rfl
 a9 := fun w => by kernel_rfl
 z9 := fun w => by kernel_rfl
 v9 := fun w => by kernel_rfl
 t21 := by kernel_rfl
 a21 := fun w => by kernel_rfl
 z21 := fun w => by kernel_rfl
 v21 := fun w => by kernel_rfl
 t46 := by kernel_rfl
 a46 := fun w => by kernel_rfl
 z46 := fun w => by kernel_rfl
 v46 := fun w => by kernel_rfl
 t105 := by kernel_rfl
 a105 := fun w => by kernel_rfl
 z105 := fun w => by kernel_rfl
 v105 := fun w => by kernel_rfl
 t116 := by kernel_rfl
 a116 := fun w => by kernel_rfl
 z116 := fun w => by kernel_rfl
 t117 := by kernel_rfl
 a117 := fun w => by kernel_rfl
 z117 := fun w => by kernel_rfl
 v117 := fun w => by kernel_rfl
 t119 := by kernel_rfl
 a119 := fun w => by kernel_rfl
 z119 := fun w => by kernel_rfl
 t124 := by kernel_rfl
 a124 := fun w => by kernel_rfl
 z124 := fun w => by kernel_rfl
 v124 := fun w => by kernel_rfl
 t138 := by kernel_rfl
 a138 := fun w => by kernel_rfl
 z138 := fun w => by kernel_rfl
 v138 := fun w => by kernel_rfl
 t139 := by kernel_rfl
 a139 := fun w => by kernel_rfl
 z139 := fun w => by kernel_rfl
 v139 := fun w => by kernel_rfl
 g3 := by kernel_rfl
 g4 := by kernel_rfl
set_option maxRecDepth 100000 in
theorem Jz9 (s cs : List UInt8) (hl : s.length <= 9223372036854775807) (hc : cs.length < 4294967281) (ha : cs.all (fun b => decide (b.toNat < 128)) = true) : Pure Tryz.prog GL 122 [.p (.str s), .p (.str cs)] (.p (.str (Lib.trimRightS s cs))) := by
 refine Pure.of_below Tryz.func122 (by kernel_rfl) rfl rfl fun own w vs hg hs hlen hv => ?_
 match vs, hlen with
 | [a, b], _ =>
   have ea := (hv 0 _ a rfl rfl).str_inv
   have eb := (hv 1 _ b rfl rfl).str_inv
   subst ea; subst eb
   refine Calls.mono (Any.strings_TrimRight_laid trm5 (by kernel_rfl) ⟨⟨s⟩⟩ ⟨⟨cs⟩⟩ w (by simpa [ByteArray.size] using hl) (by simpa [ByteArray.size] using hc) (ascii_of_all ha)) ?_
   rintro e w' ⟨rfl, hw⟩
   exact ⟨_, rfl, .p _ _ (.str _), hw⟩
end Go.Am
namespace Go.Am
open Go Go.Proofs Go.Pn
def s01 : Txt := [48, 49]
theorem J8z {t : Txt} {b : UInt8} : (Lib.trimRightS (t ++ [b]) s01 ≠ t ++ [b]) ↔ (b = 48 \/ b = 49) := by
 unfold Lib.trimRightS
 rw [List.reverse_append, List.reverse_cons, List.reverse_nil, List.nil_append, List.singleton_append, List.dropWhile_cons]
 have hc : s01.contains b = true ↔ (b = 48 \/ b = 49) := by
   unfold s01
   rw [List.contains_iff_mem]; simp
 by_cases h : s01.contains b = true
 . rw [if_pos h]
   refine ⟨fun _ => hc.1 h, fun _ e => ?_⟩
   have h2 := congrArg List.length e
   rw [List.length_reverse, List.length_append] at h2
   have h3 := (List.dropWhile_sublist (l := t.reverse) (s01.contains ·)).length_le
   rw [List.length_reverse] at h3
   have h4 : (List.dropWhile (fun x => s01.contains x) t.reverse).length + 0 = t.length + 1 := by simpa using h2
   omega
 . rw [if_neg h]
   refine ⟨fun hn => absurd ?_ hn, fun h2 => absurd (hc.2 h2) h⟩
   simp
theorem J8k {s : Txt} : s = [] \/ ∃ t b, s = t ++ [b] := by
 rcases List.eq_nil_or_concat s with h | ⟨t, b, h⟩
 . exact .inl h
 . exact .inr ⟨t, b, by simpa using h⟩
theorem Jxy {s t : Txt} {b x : UInt8} (h : s ++ [b] = t ++ [x]) : s = t := (List.append_inj' h rfl).1
def rnN (c : Circuit) (p : Part) (old new : Txt) : Txt :=
 if p.name = old then new else
 if p.kind = 6 /\ 0 <= Jb3 c old /\ Jas c (Jb3 c old) = 1 /\ Lib.trimRightS p.name s01 ≠ p.name /\ p.name.take (p.name.length - 1) = old then new ++ p.name.drop (p.name.length - 1) else p.name
theorem Kck {c : Circuit} (h : Jad c = 0) {p : Part} (hp : p ∈ c.parts) {old new : Txt} (h0 : 0 <= Jb3 c old) : rnN c p old new = Jam c old new p.name := by
 unfold rnN Jam
 by_cases h1 : p.name = old
 . rw [if_pos h1, if_pos h1]
 rw [if_neg h1, if_neg h1]
 have hsw : p.kind = 6 ↔ 0 <= swAt c p.name := by
   rw [<- Jqu h]
   obtain ⟨i, hi⟩ := List.mem_iff_getElem?.1 hp
   constructor
   . intro hk; exact ⟨i, p, (gsI.1 hi).1, hi, hk, rfl⟩
   . rintro ⟨j, q, _, e, hk, hn⟩
     have a : (c.parts.map (·.name))[i]? = some p.name := by rw [List.getElem?_map, hi]; rfl
     have b : (c.parts.map (·.name))[j]? = some p.name := by rw [List.getElem?_map, e]; simp [hn]
     have := Jif (Jjx h) a b
     subst this
     rw [hi] at e; cases e; exact hk
 rcases @J8k p.name with e | ⟨t, b, e⟩
 . rw [if_neg (fun hh => hh.2.2.2.1 (by rw [e]; rfl)), if_neg (fun hh => by have := hh.2.1; rw [e] at this; simpa using congrArg List.length this), if_neg (fun hh => by have := hh.2.1; rw [e] at this; simpa using congrArg List.length this)]
 . have ht := @J8z t b
   have e1 : p.name.take (p.name.length - 1) = t := by rw [e]; simp
   have e2 : p.name.drop (p.name.length - 1) = [b] := by rw [e]; simp
   rw [e] at hsw
   rw [e1, e2, e]
   clear e1 e2
   by_cases h2 : t = old
   . subst h2
     by_cases h3 : b = 48
     . subst h3
       have ht2 := ht.2 (.inl rfl)
       by_cases h4 : p.kind = 6
       . by_cases h5 : Jas c (Jb3 c t) = 1
         . rw [if_pos ⟨h4, h0, h5, ht2, rfl⟩, if_pos ⟨h5, rfl, hsw.1 h4⟩]
         . rw [if_neg (fun hh => h5 hh.2.2.1), if_neg (fun hh => h5 hh.1), if_neg (fun hh => h5 hh.1)]
       . rw [if_neg (fun hh => h4 hh.1), if_neg (fun hh => h4 (hsw.2 hh.2.2)), if_neg (fun hh => by have := hh.2.1; simp at this)]
     . by_cases h3' : b = 49
       . subst h3'
         have ht2 := ht.2 (.inr rfl)
         by_cases h4 : p.kind = 6
         . by_cases h5 : Jas c (Jb3 c t) = 1
           . rw [if_pos ⟨h4, h0, h5, ht2, rfl⟩, if_neg (fun hh => by have := hh.2.1; simp at this), if_pos ⟨h5, rfl, hsw.1 h4⟩]
           . rw [if_neg (fun hh => h5 hh.2.2.1), if_neg (fun hh => h5 hh.1), if_neg (fun hh => h5 hh.1)]
         . rw [if_neg (fun hh => h4 hh.1), if_neg (fun hh => by have := hh.2.1; simp at this), if_neg (fun hh => h4 (hsw.2 hh.2.2))]
       . rw [if_neg (fun hh => (ht.1 hh.2.2.2.1).elim h3 h3'), if_neg (fun hh => h3 (by simpa using hh.2.1)), if_neg (fun hh => h3' (by simpa using hh.2.1))]
   . rw [if_neg (fun hh => h2 hh.2.2.2.2), if_neg (fun hh => h2 (Jxy hh.2.1)), if_neg (fun hh => h2 (Jxy hh.2.1))]
set_option maxRecDepth 20000 in
theorem Kaw (c : Circuit) (p : Part) (old new : Txt) (hs : Sized c) (hp : p.name.length < 1000000000000000000) (hn : new.length < 1000000000000000000) : Pure Tryz.prog GL 51 [c.av, p.av, .p (.str old), .p (.str new)] (.p (.str (rnN c p old new))) := by
 refine Pure.of_walk (N := 64) Tryz.func51 rfl rfl rfl (by simp) (by first | (simp; done) | simp [*]) ?_
 have hT := Jz9 p.name s01 (by omega) (by decide) (by decide)
 unfold rnN
 by_cases h1 : p.name = old
 . simp [h1, Jaa]
 simp [h1]
 refine Jab (Js1 c old hs) ?_
 rw [<- Jb3]
 by_cases h2 : p.kind = 6
 . rcases Jmm c old with e0 | ⟨i, q, e0, e1, e2⟩
   . simp [h2, e0]
     refine Jag.intro (by kernel_rfl) ?_
     simp [h2, e0]
     refine ⟨.of (by kernel_rfl), ?_⟩
     simp [Jaa, h1]
   . have hi : i < c.parts.length := (gsI.1 e1).1
     have hka : Jas c (i : Int) = q.kind := by unfold Jas; rw [Int.toNat_natCast, e1]; rfl
     have hi0 : (0 : Int) <= (i : Int) := by omega
     by_cases h3 : q.kind = 1
     . by_cases h4 : Lib.trimRightS p.name s01 = p.name
       . simp [h2, e0]
         refine Jag.intro (by kernel_rfl) ?_
         simp [h2, e0, hi, e1, h3, hi0, -getElem?_pos, List.getElem?_cons_zero, List.getElem?_cons_succ]
         refine Jab hT ?_
         simp [h4]
         refine ⟨.of (by kernel_rfl), ?_⟩
         simp [Jaa, h1, h4]
       . have hne : p.name ≠ [] := fun e => h4 (by rw [e]; rfl)
         have hln : 1 <= p.name.length := List.length_pos_iff.2 hne
         by_cases h5 : p.name.take (p.name.length - 1) = old
         . simp [h2, e0]
           refine Jag.intro (by kernel_rfl) ?_
           simp [h2, e0, hi, e1, h3, hi0, -getElem?_pos, List.getElem?_cons_zero, List.getElem?_cons_succ]
           refine Jab hT ?_
           simp [h4]
           refine ⟨wrap_i64 (by omega) (by omega), ?_⟩
           rw [if_pos ⟨by omega, by omega⟩]
           simp [h5]
           refine ⟨.of (by kernel_rfl), wrap_i64 (by omega) (by omega), ?_⟩
           rw [if_pos ⟨by omega, by omega⟩]
           have htk : List.take (p.name.length - (p.name.length - 1)) (p.name.drop (p.name.length - 1)) = p.name.drop (p.name.length - 1) := List.take_of_length_le (by simp)
           simp [htk]
           refine ⟨by omega, ?_⟩
           have hka2 : Jas c (i : Int) = 1 := by rw [hka, h3]
           have hcond : p.kind = 6 /\ 0 <= Jb3 c old /\ Jas c (Jb3 c old) = 1 /\ ¬Lib.trimRightS p.name s01 = p.name /\ List.take (p.name.length - 1) p.name = old := ⟨h2, by omega, by rw [e0]; exact hka2, h4, h5⟩
           rw [if_neg h1, if_pos hcond]
           simp [Jaa]
         . simp [h2, e0]
           refine Jag.intro (by kernel_rfl) ?_
           simp [h2, e0, hi, e1, h3, hi0, -getElem?_pos, List.getElem?_cons_zero, List.getElem?_cons_succ]
           refine Jab hT ?_
           simp [h4]
           refine ⟨wrap_i64 (by omega) (by omega), ?_⟩
           rw [if_pos ⟨by omega, by omega⟩]
           simp [h5]
           refine ⟨.of (by kernel_rfl), ?_⟩
           simp [Jaa, h1, h5]
     . simp [h2, e0]
       refine Jag.intro (by kernel_rfl) ?_
       simp [h2, e0, hi, e1, h3, hi0, -getElem?_pos, List.getElem?_cons_zero, List.getElem?_cons_succ]
       refine ⟨.of (by kernel_rfl), ?_⟩
       simp [Jaa, h1, hka, h3, e0]
 . simp [h2]
   refine Jag.intro (by kernel_rfl) ?_
   simp [h2]
   refine ⟨.of (by kernel_rfl), ?_⟩
   simp [Jaa, h1]
end Go.Am
namespace Go.Am
open Go Go.Proofs Go.Pn
theorem Kcm {c : Circuit} (h : Jad c = 0) : Sized c := by
 have h2 := Jc7 h
 refine ⟨by omega, by omega, fun p hp => ?_⟩
 have := (Jno (Jim (Jpv h hp)).2.1).2.2
 omega
end Go.Am
