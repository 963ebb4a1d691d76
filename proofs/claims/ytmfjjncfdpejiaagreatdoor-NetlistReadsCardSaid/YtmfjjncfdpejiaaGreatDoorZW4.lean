/- Lemmas and contracts for the proof of a statement of this seat. -/
import Derived.Test.YtmfjjncfdpejiaaGreatDoorZN1
import Derived.Lib.Split
import Derived.Lib.SplitLaws
import Derived.Lib.Replace
import Derived.Lib.Join
import Derived.Test.YtmfjjncfdpejiaaGreatDoorZW1
import Derived.Shelf.Strings.Split
import Derived.Shelf.Strings.Replace
import Derived.Shelf.Strings.OnBuilder
import Derived.Shelf.Strings.Prefix
import Derived.Test.YtmfjjncfdpejiaaGreatDoorZC6
import Derived.Test.YtmfjjncfdpejiaaGreatDoorZA5
set_option linter.unusedVariables false
set_option linter.unusedSimpArgs false
namespace Go.Am
open Go Go.Proofs Go.Pn
def repl (l : Txt) : Txt := l.flatMap fun b => if b = 32 then [32, 32, 32] else [b]
theorem Jnh : ∀ {l cur : Txt}, fldG cur (repl l) = fldG cur l
 | [], cur => rfl
 | b :: l, cur => by
   have e : repl (b :: l) = (if b = 32 then [32, 32, 32] else [b]) ++ repl l := by unfold repl; rw [List.flatMap_cons]
   rw [e]
   by_cases hb : b = 32
   . subst hb
     simp only [if_true, List.cons_append, List.nil_append, fldG]
     rw [Jnh]
   . rw [if_neg hb]
     simp only [List.cons_append, List.nil_append, fldG, if_neg hb]
     exact Jnh
theorem Jni : ∀ {l cur : Txt}, fldG cur (l ++ [32]) = fldG cur l
 | [], cur => by simp [fldG]
 | b :: l, cur => by
   simp only [List.cons_append, fldG]
   rw [Jni, Jni]
def Jhs (l : Txt) : Txt := [32, 32] ++ repl l ++ [32]
theorem J05 {l : Txt} : fldR (Jhs l) = fldR l := by
 rw [Jfx, Jfx]
 unfold Jhs
 rw [Jni]
 simp only [List.cons_append, List.nil_append, fldG, if_true]
 exact Jnh
theorem J5y {l : Txt} (h : ∀ b ∈ l, b ≠ 10) : ∀ b ∈ repl l, b ≠ 10 := by
 intro b hb
 unfold repl at hb
 obtain ⟨x, hx, hb⟩ := List.mem_flatMap.1 hb
 split at hb
 . simp at hb; subst hb; decide
 . simp at hb; subst hb; exact h b hx
theorem J5x {l : Txt} : (repl l).length <= 3 * l.length := by
 induction l with
 | nil => simp [repl]
 | cons b l ih =>
   have e : repl (b :: l) = (if b = 32 then [32, 32, 32] else [b]) ++ repl l := by unfold repl; rw [List.flatMap_cons]
   rw [e, List.length_append, List.length_cons]
   split <;> simp <;> omega
def insL (ls : List Txt) (k : Nat) (l : Txt) : List Txt := ls.take k ++ ([[], [35, 32] ++ l, [32, 32, 35, 120], Jhs l] ++ ls.drop (k + 1))
theorem J04 : fldR [] = [] := by decide
theorem J02 {l : Txt} : noop (fldR ([35, 32] ++ l)) = true := by
 rw [Jfx]
 have : fldG [] ([35, 32] ++ l) = [35] :: fldG [] l := by
   show fldG [] ([35] ++ 32 :: l) = _
   exact Jg7 ⟨by decide, by decide⟩
 rw [this]; rfl
theorem J03 : noop (fldR [32, 32, 35, 120]) = true := by decide
theorem J6g {α : Type} {ls : List α} {k : Nat} {l : α} (e : ls[k]? = some l) : ls = ls.take k ++ l :: ls.drop (k + 1) := by
 obtain ⟨h, rfl⟩ := gsI.1 e
 rw [<- List.drop_eq_getElem_cons h, List.take_append_drop]
theorem J83 {ls : List Txt} {k : Nat} {l : Txt} (e : ls[k]? = some l) : ((insL ls k l).map fldR).filter (fun w => !noop w) = (ls.map fldR).filter (fun w => !noop w) := by
 conv => rhs; rw [J6g e]
 unfold insL
 simp only [List.map_append, List.map_cons, List.map_nil, List.filter_append, J05, J04]
 congr 1
 have hm : noop (fldR (35 :: 32 :: l)) = true := J02
 have h0 : noop [] = true := rfl
 simp only [List.cons_append, List.nil_append, List.filter_cons, hm, J03, h0]
 simp only [List.filter_nil, Bool.not_true, Bool.false_eq_true, if_false]
 split <;> rfl
theorem J82 {ls : List Txt} {k : Nat} {l : Txt} (e : ls[k]? = some l) (h : ∀ l ∈ ls, ∀ b ∈ l, b ≠ 10) : ∀ x ∈ insL ls k l, ∀ b ∈ x, b ≠ 10 := by
 have hl := h l (List.mem_of_getElem? e)
 intro x hx b hb
 unfold insL at hx
 rcases List.mem_append.1 hx with hx | hx
 . exact h x (List.mem_of_mem_take hx) b hb
 . rcases List.mem_append.1 hx with hx | hx
   . simp only [List.mem_cons, List.not_mem_nil, or_false] at hx
     rcases hx with rfl | rfl | rfl | rfl
     . cases hb
     . rcases List.mem_append.1 hb with hb | hb
       . exact (show ∀ b ∈ ([35, 32] : Txt), b ≠ 10 by decide) b hb
       . exact hl b hb
     . exact (show ∀ b ∈ ([32, 32, 35, 120] : Txt), b ≠ 10 by decide) b hb
     . unfold Jhs at hb
       rcases List.mem_append.1 hb with hb | hb
       . rcases List.mem_append.1 hb with hb | hb
         . exact (show ∀ b ∈ ([32, 32] : Txt), b ≠ 10 by decide) b hb
         . exact J5y hl b hb
       . simp at hb; subst hb; decide
   . exact h x (List.mem_of_mem_drop hx) b hb
theorem Jwa {a b : List Txt} : unl (a ++ b) = unl a ++ unl b := by unfold unl; rw [List.flatMap_append]
theorem J81 {ls : List Txt} {k : Nat} {l : Txt} (h : ∀ l ∈ ls, l.length <= 60) (hl : l.length <= 60) : (unl (insL ls k l)).length <= 61 * ls.length + 300 := by
 unfold insL
 rw [Jwa, Jwa]
 have h1 := @Jjh (ls.take k) 60 fun x hx => h x (List.mem_of_mem_take hx)
 have h2 := @Jjh (ls.drop (k + 1)) 60 fun x hx => h x (List.mem_of_mem_drop hx)
 have h3 := @J5x l
 have h4 : (ls.take k).length + (ls.drop (k + 1)).length <= ls.length := by simp; omega
 have h5 : (unl [[], [35, 32] ++ l, [32, 32, 35, 120], Jhs l]).length <= 270 := by
   simp only [unl, Jhs, List.flatMap_cons, List.flatMap_nil, List.length_append, List.length_cons, List.length_nil]
   omega
 simp only [List.length_append]
 have h6 : (60 + 1) * (ls.take k).length + (60 + 1) * (ls.drop (k + 1)).length <= 61 * ls.length := by rw [<- Nat.mul_add]; exact Nat.mul_le_mul_left _ h4
 omega
def Jcs {α : Type} (l : List α) (k : Nat) (a b : α) : List α := l.take k ++ b :: a :: l.drop (k + 2)
theorem J6j {α : Type} {l : List α} {k : Nat} {a b : α} (e1 : l[k]? = some a) (e2 : l[k + 1]? = some b) : l = l.take k ++ a :: b :: l.drop (k + 2) := by
 obtain ⟨h1, rfl⟩ := gsI.1 e1
 obtain ⟨h2, rfl⟩ := gsI.1 e2
 rw [<- List.drop_eq_getElem_cons h2, <- List.drop_eq_getElem_cons h1, List.take_append_drop]
theorem Jnb {α : Type} {l : List α} {k : Nat} {a b : α} (e1 : l[k]? = some a) (e2 : l[k + 1]? = some b) : (Jcs l k a b).Perm l := by
 conv => rhs; rw [J6j e1 e2]
 exact (List.Perm.swap a b _).append_left _
theorem Jrc {α β : Type} {f : α -> β} {l : List α} {k : Nat} {a b : α} : (Jcs l k a b).map f = Jcs (l.map f) k (f a) (f b) := by
 unfold Jcs; simp [List.map_take, List.map_drop]
theorem J0u {α : Type} {l m : List α} {k : Nat} {a b : α} (h : k + 1 < l.length) : Jcs (l ++ m) k a b = Jcs l k a b ++ m := by
 unfold Jcs
 rw [List.take_append_of_le_length (by omega), List.drop_append_of_le_length (by omega)]
 simp
theorem J0v {α : Type} {l m : List α} {k : Nat} {a b : α} (h : l.length <= k) : Jcs (l ++ m) k a b = l ++ Jcs m (k - l.length) a b := by
 unfold Jcs
 rw [List.take_append, List.take_of_length_le h, List.drop_append, List.drop_of_length_le (by omega)]
 rw [show k + 2 - l.length = k - l.length + 2 by omega]
 simp
theorem J8t {c : Circuit} (h : Jad c = 0) {k : Nat} {a b : Txt} (e1 : (Jdu c)[k]? = some a) (e2 : (Jdu c)[k + 1]? = some b) (hk : k + 1 < c.parts.length \/ c.parts.length <= k) :
   ∃ (ps : List Part) (xs : List Pipe), ps.Perm c.parts /\ xs.Perm c.pipes /\ ((Jcs (Jdu c) k a b).map fldR).filter (fun w => !noop w) = ps.map Jb1 ++ xs.map (Jcq c) := by
 unfold Jdu at e1 e2 ⊢
 have hpt : (c.parts.map partT).length = c.parts.length := List.length_map ..
 rcases hk with hk | hk
 . rw [List.getElem?_append_left (by rw [hpt]; omega)] at e1 e2
   rw [List.getElem?_map, Option.map_eq_some_iff] at e1 e2
   obtain ⟨p, f1, rfl⟩ := e1
   obtain ⟨q, f2, rfl⟩ := e2
   have hpm := Jnb f1 f2
   refine ⟨Jcs c.parts k p q, c.pipes, hpm, List.Perm.refl _, ?_⟩
   rw [J0u (by rw [hpt]; exact hk), <- Jrc, List.map_append, List.map_map, List.map_map]
   have a1 : (Jcs c.parts k p q).map (fldR ∘ partT) = (Jcs c.parts k p q).map Jb1 := List.map_congr_left fun x hx => Joa (Jcy h (hpm.mem_iff.1 hx))
   have a2 : c.pipes.map (fldR ∘ Jda c) = c.pipes.map (Jcq c) := List.map_congr_left fun x hx => Joe h hx
   rw [a1, a2, Jpl]
 . rw [List.getElem?_append_right (by rw [hpt]; omega), hpt] at e1 e2
   rw [show k + 1 - c.parts.length = k - c.parts.length + 1 by omega] at e2
   rw [List.getElem?_map, Option.map_eq_some_iff] at e1 e2
   obtain ⟨p, f1, rfl⟩ := e1
   obtain ⟨q, f2, rfl⟩ := e2
   have hpm := Jnb f1 f2
   refine ⟨c.parts, Jcs c.pipes (k - c.parts.length) p q, List.Perm.refl _, hpm, ?_⟩
   rw [J0v (by rw [hpt]; exact hk), hpt, <- Jrc, List.map_append, List.map_map, List.map_map]
   have a1 : c.parts.map (fldR ∘ partT) = c.parts.map Jb1 := List.map_congr_left fun x hx => Joa (Jcy h hx)
   have a2 : (Jcs c.pipes (k - c.parts.length) p q).map (fldR ∘ Jda c) = (Jcs c.pipes (k - c.parts.length) p q).map (Jcq c) := List.map_congr_left fun x hx => Joe h (hpm.mem_iff.1 hx)
   rw [a1, a2, Jpl]
theorem J8s {α : Type} {l : List α} {k : Nat} {a b : α} (e1 : l[k]? = some a) (e2 : l[k + 1]? = some b) {x : α} : x ∈ Jcs l k a b ↔ x ∈ l := (Jnb e1 e2).mem_iff
theorem Ka2 {ls ms : List Txt} (h : ls.Perm ms) : (unl ls).length = (unl ms).length := by
 unfold unl
 rw [List.length_flatMap, List.length_flatMap]
 exact (h.map _).sum_nat
theorem J9h {c : Circuit} {k : Nat} {l : Txt} (e : (Jdu c)[k]? = some l) : (Jd0.isPrefixOf l = true ↔ k < c.parts.length) := by
 unfold Jdu at e
 have hpt : (c.parts.map partT).length = c.parts.length := List.length_map ..
 by_cases hk : k < c.parts.length
 . rw [List.getElem?_append_left (by rw [hpt]; omega), List.getElem?_map, Option.map_eq_some_iff] at e
   obtain ⟨p, _, rfl⟩ := e
   refine ⟨fun _ => hk, fun _ => ?_⟩
   rw [List.isPrefixOf_iff_prefix]
   unfold partT
   exact ⟨p.name ++ [32] ++ Jbl p.kind.toNat ++ (if p.kind = 12 then 32 :: Lib.decDigits p.delay.toNat else []), by simp⟩
 . rw [List.getElem?_append_right (by rw [hpt]; omega), List.getElem?_map, Option.map_eq_some_iff] at e
   obtain ⟨p, _, rfl⟩ := e
   refine ⟨fun h => ?_, fun h => absurd h hk⟩
   rw [List.isPrefixOf_iff_prefix] at h
   obtain ⟨t, ht⟩ := h
   have : (Jd0 ++ t)[1]? = (Jda c p)[1]? := by rw [ht]
   revert this
   unfold Jda Jd0 Jf7
   simp
end Go.Am
namespace Go.Am
open Go Go.Proofs Go.Pn
theorem Jno (b c : UInt8) (l : Txt) : Lib.index (b :: l) [c] = if b = c then 0 else if Lib.index l [c] = -1 then -1 else Lib.index l [c] + 1 := by
 rw [Lib.index]
 by_cases h : b = c
 . subst h; simp [List.isPrefixOf]
 . have hp : ([c] : Txt).isPrefixOf (b :: l) = false := by simp [List.isPrefixOf, Ne.symm h]
   rw [hp, if_neg h]
   simp
theorem Jkq {c : UInt8} : ∀ {u : Txt} {t : Txt}, (∀ b ∈ u, b ≠ c) -> Lib.index (u ++ c :: t) [c] = (u.length : Int)
 | [], t, _ => by rw [List.nil_append, Jno, if_pos rfl]; rfl
 | b :: u, t, h => by
   have ih := Jkq (c := c) (u := u) (t := t) fun x hx => h x (by simp [hx])
   rw [List.cons_append, Jno, if_neg (h b (by simp)), ih, if_neg (by omega)]
   simp
theorem Jr2 {c : UInt8} : ∀ {u : Txt}, (∀ b ∈ u, b ≠ c) -> Lib.index u [c] = -1
 | [], _ => by simp [Lib.index]
 | b :: u, h => by
   rw [Jno, if_neg (h b (by simp)), Jr2 fun x hx => h x (by simp [hx]), if_pos rfl]
theorem Jq2 {c : UInt8} {u : Txt} (h : ∀ b ∈ u, b ≠ c) : Lib.count u [c] = 0 := Lib.count_miss (Jr2 h)
theorem Jq1 {c : UInt8} {u t : Txt} (h : ∀ b ∈ u, b ≠ c) : Lib.count (u ++ c :: t) [c] = 1 + Lib.count t [c] := by
 rw [Lib.count_hit (by simp) (Jkq h)]
 congr 2
 rw [List.drop_append]
 simp
theorem Jsc (x y : Txt) (r : List Txt) (c : UInt8) : Lib.join (x :: y :: r) [c] = x ++ c :: Lib.join (y :: r) [c] := by
 rw [Lib.join_cons, Lib.join_cons]
 unfold Lib.joinTail
 simp
theorem J6h {c : UInt8} : ∀ {x : Txt} {r : List Txt}, (∀ l ∈ x :: r, ∀ b ∈ l, b ≠ c) -> Lib.split (Lib.join (x :: r) [c]) [c] = x :: r
 | x, [], h => by
   rw [Lib.join_one]
   unfold Lib.split
   rw [Jq2 (h x (by simp))]
   rfl
 | x, y :: r, h => by
   have ih := J6h (c := c) (x := y) (r := r) fun l hl => h l (by simp [hl])
   unfold Lib.split at ih ⊢
   have hx := h x (by simp)
   rw [Jsc, Jq1 hx, Nat.add_comm, Lib.splitK, Jkq hx]
   have e1 : ¬ (((x.length : Nat) : Int) == -1) = true := by simp
   rw [if_neg e1]
   have e2 : (x ++ c :: Lib.join (y :: r) [c]).take (((x.length : Nat) : Int).toNat + 0) = x := by simp
   have e3 : (x ++ c :: Lib.join (y :: r) [c]).drop (((x.length : Nat) : Int).toNat + ([c] : Txt).length) = Lib.join (y :: r) [c] := by
     rw [Int.toNat_natCast, List.drop_append]; simp
   rw [e2, e3, ih]
theorem Jsd : ∀ {x : Txt} {r : List Txt}, Lib.join (x :: r) [10] ++ [10] = unl (x :: r)
 | x, [] => by rw [Lib.join_one]; simp [unl]
 | x, y :: r => by
   have ih := Jsd (x := y) (r := r)
   rw [Jsc, List.append_assoc, List.cons_append, ih]
   simp [unl]
theorem Ka0 {x : Txt} {r : List Txt} : (unl (x :: r)).take ((unl (x :: r)).length - 1) = Lib.join (x :: r) [10] /\ (unl (x :: r)).drop ((unl (x :: r)).length - 1) = [10] := by
 rw [<- Jsd]
 simp
theorem Ju0 : ∀ {k : Nat} {s : Txt}, Lib.count s [32] = k -> Lib.replaceK [32] [32, 32, 32] k s = repl s
 | k, s, hk => by
   by_cases h : ∀ b ∈ s, b ≠ 32
   . have : k = 0 := by rw [<- hk]; exact Jq2 h
     subst this
     have e : repl s = s := by
       clear hk
       unfold repl
       induction s with
       | nil => rfl
       | cons b s ih => rw [List.flatMap_cons, ih (fun x hx => h x (by simp [hx])), if_neg (h b (by simp))]; rfl
     rw [e]; rfl
   . obtain ⟨u, t, rfl, hu⟩ : ∃ u t, s = u ++ 32 :: t /\ ∀ b ∈ u, b ≠ 32 := by
       clear hk
       induction s with
       | nil => exact absurd (fun b hb => by cases hb) h
       | cons b s ih =>
         by_cases hb : b = 32
         . exact ⟨[], s, by rw [hb]; rfl, fun b hb => by cases hb⟩
         . obtain ⟨u, t, e, hu⟩ := ih (fun h2 => h (fun x hx => by
             rcases List.mem_cons.1 hx with rfl | hx
             . exact hb
             . exact h2 x hx))
           exact ⟨b :: u, t, by rw [e]; rfl, fun x hx => by
             rcases List.mem_cons.1 hx with rfl | hx
             . exact hb
             . exact hu x hx⟩
     rw [Jq1 hu] at hk
     obtain ⟨j, rfl⟩ : ∃ j, k = j + 1 := ⟨k - 1, by omega⟩
     have hj : Lib.count t [32] = j := by omega
     rw [Lib.replaceK_hit _ _ _ _ _ (Jkq hu)]
     have e1 : (u ++ 32 :: t).take u.length = u := by simp
     have e2 : (u ++ 32 :: t).drop (u.length + ([32] : Txt).length) = t := by rw [List.drop_append]; simp
     rw [e1, e2, Ju0 hj]
     have e : ∀ {v : Txt}, (∀ b ∈ v, b ≠ 32) -> ∀ w, repl (v ++ w) = v ++ repl w := fun {v} hv w => by
       unfold repl
       rw [List.flatMap_append]
       congr 1
       induction v with
       | nil => rfl
       | cons b v ih => rw [List.flatMap_cons, ih (fun x hx => hv x (by simp [hx])), if_neg (hv b (by simp))]; rfl
     rw [e hu]
     have e3 : repl (32 :: t) = [32, 32, 32] ++ repl t := by unfold repl; rw [List.flatMap_cons]; rfl
     rw [e3, List.append_assoc]
termination_by k s => k
theorem J99 (s : Txt) : Lib.replaceAll s [32] [32, 32, 32] = repl s := by
 unfold Lib.replaceAll Lib.replace
 rw [if_neg (by decide)]
 unfold Lib.replaceNum
 rw [if_pos (.inl (by decide))]
 exact Ju0 rfl
end Go.Am
namespace Go.Am
open Go Go.Proofs Go.Shelf Go.RowKit Go.Lib Go.Pn
def J6f : Ren := ⟨fun k => match k with | 146 => 39 | 221 => 111 | 268 => 184 | 138 => 185 | 143 => 186 | 195 => 250 | 197 => 188 | 218 => 251 | 219 => 252 | 260 => 254 | 217 => 316 | 225 => 317 | 224 => 318 | 267 => 319 | 266 => 360 | 314 => 361 | k => k, fun k => match k with | 9 => 9 | 31 => 75 | 3 => 3 | 4 => 4 | 0 => 0 | 105 => 259 | 21 => 21 | 5 => 5 | 46 => 310 | 119 => 369 | 139 => 372 | 138 => 371 | 146 => 407 | 51 => 355 | k => k, fun k => match k with | 1 => 0 | 3 => 1 | 4 => 2 | k => k⟩
set_option maxRecDepth 100000 in
theorem spl5 : Lays.n146 Tryz.prog J6f where
 mixed := by kernel_rfl
 f138 := (Tryz.func185).trans (by kernel_rfl)
 f143 := (Tryz.func186).trans (by kernel_rfl)
 f146 := (Tryz.func39).trans (by kernel_rfl)
 f195 := (Tryz.func250).trans (by kernel_rfl)
 f197 := (Tryz.func188).trans (by kernel_rfl)
 f217 := (Tryz.func316).trans (by kernel_rfl)
 f218 := (Tryz.func251).trans (by kernel_rfl)
 f219 := (Tryz.func252).trans (by kernel_rfl)
 f221 := (Tryz.func111).trans (by kernel_rfl)
 f224 := (Tryz.func318).trans (by kernel_rfl)
 f225 := (Tryz.func317).trans (by kernel_rfl)
 f260 := (Tryz.func254).trans (by kernel_rfl)
 f266 := (Tryz.func360).trans (by kernel_rfl)
 f267 := (Tryz.func319).trans (by kernel_rfl)
 f268 := (Tryz.func184).trans (by kernel_rfl)
 f314 := (Tryz.func361).trans (by kernel_rfl)
 t0 := by kernel_rfl
 a0 := fun w => by kernel_rfl
 z0 := fun w => by kernel_rfl
 v0 := fun w => by kernel_rfl
 t3 := by kernel_rfl
 a3 := fun w => by kernel_rfl
 z3 := fun w => by kernel_rfl
 v3 := fun w => by kernel_rfl
 t4 := by kernel_rfl
 a4 := fun w => by kernel_rfl
 z4 := fun w => by kernel_rfl
 v4 := fun w => by kernel_rfl
 t5 := by kernel_rfl
 a5 := fun w => by kernel_rfl
 z5 := fun w => by kernel_rfl
 v5 := fun w => by kernel_rfl
 t9 := by kernel_rfl
 a9 := fun w => by kernel_rfl
 z9 := fun w => by kernel_rfl
 v9 := fun w => by kernel_rfl
 t21 := by kernel_rfl
 a21 := fun w => by kernel_rfl
 z21 := fun w => by kernel_rfl
 v21 := fun w => by kernel_rfl
 t31 := by kernel_rfl
 a31 := fun w => by kernel_rfl
 z31 := fun w => by kernel_rfl
 v31 := fun w => by kernel_rfl
 t46 := by kernel_rfl
 a46 := fun w => by kernel_rfl
 z46 := fun w => by kernel_rfl
 v46 := fun w => by kernel_rfl
 t51 := by kernel_rfl
 a51 := fun w => by kernel_rfl
 z51 := fun w => by kernel_rfl
 v51 := fun w => by kernel_rfl
 t105 := by kernel_rfl
 a105 := fun w => by kernel_rfl
 z105 := fun w => by kernel_rfl
 v105 := fun w => by kernel_rfl
 t119 := by kernel_rfl
 a119 := fun w => by kernel_rfl
 z119 := fun w => by kernel_rfl
 t138 := by kernel_rfl
 a138 := fun w => by kernel_rfl
 z138 := fun w => by kernel_rfl
 v138 := fun w => by kernel_rfl
 t139 := by kernel_rfl
 a139 := fun w => by kernel_rfl
 z139 := fun w => by kernel_rfl
 v139 := fun w => by kernel_rfl
 t146 := by kernel_rfl
 a146 := fun w => by kernel_rfl
 z146 := fun w => by kernel_rfl
 v146 := fun w => by kernel_rfl
 g1 := by kernel_rfl
 g3 := by kernel_rfl
 g4 := by kernel_rfl
def J6x : Ren := ⟨fun k => match k with | 102 => 40 | 209 => 112 | 207 => 143 | k => k, fun k => match k with | 9 => 9 | 4 => 4 | 3 => 3 | k => k, fun k => k⟩
set_option maxRecDepth 100000 in
theorem tsx5 : Lays.n102 Tryz.prog J6x where
 mixed := by kernel_rfl
 f102 := (Tryz.func40).trans (by kernel_rfl)
 f207 := (Tryz.func143).trans (by kernel_rfl)
 f209 := (Tryz.func112).trans (by kernel_rfl)
 t3 := by kernel_rfl
 a3 := fun w => by kernel_rfl
 z3 := fun w => by kernel_rfl
 v3 := fun w => by kernel_rfl
 t4 := by kernel_rfl
 a4 := fun w => by kernel_rfl
 z4 := fun w => by kernel_rfl
 v4 := fun w => by kernel_rfl
 t9 := by kernel_rfl
 a9 := fun w => by kernel_rfl
 z9 := fun w => by kernel_rfl
 v9 := fun w => by kernel_rfl
def Ju6 : Ren := ⟨fun k => match k with | 155 => 43 | 154 => 115 | 138 => 185 | 165 => 116 | 143 => 186 | 166 => 88 | 197 => 188 | 169 => 92 | 195 => 250 | 218 => 251 | 240 => 171 | 241 => 189 | 219 => 252 | 260 => 254 | 276 => 241 | 277 => 255 | 217 => 316 | 225 => 317 | 224 => 318 | 267 => 319 | 266 => 360 | 314 => 361 | k => k, fun k => match k with | 9 => 9 | 3 => 3 | 4 => 4 | 72 => 147 | 0 => 0 | 76 => 151 | 105 => 259 | 21 => 21 | 5 => 5 | 70 => 144 | 20 => 20 | 37 => 145 | 75 => 150 | 127 => 246 | 164 => 317 | 46 => 310 | 119 => 369 | 139 => 372 | 138 => 371 | 146 => 407 | 51 => 355 | 80 => 156 | k => k, fun k => match k with | 1 => 0 | 3 => 1 | 4 => 2 | k => k⟩
set_option maxRecDepth 100000 in
theorem rpl5 : Lays.n155 Tryz.prog Ju6 where
 mixed := by kernel_rfl
 f138 := (Tryz.func185).trans (by kernel_rfl)
 f143 := (Tryz.func186).trans (by kernel_rfl)
 f154 := (Tryz.func115).trans (by kernel_rfl)
 f155 := (Tryz.func43).trans (by kernel_rfl)
 f165 := (Tryz.func116).trans (by kernel_rfl)
 f166 := (Tryz.func88).trans (by kernel_rfl)
 f169 := (Tryz.func92).trans (by kernel_rfl)
 f195 := (Tryz.func250).trans (by kernel_rfl)
 f197 := (Tryz.func188).trans (by kernel_rfl)
 f217 := (Tryz.func316).trans (by kernel_rfl)
 f218 := (Tryz.func251).trans (by kernel_rfl)
 f219 := (Tryz.func252).trans (by kernel_rfl)
 f224 := (Tryz.func318).trans (by kernel_rfl)
 f225 := (Tryz.func317).trans (by kernel_rfl)
 f240 := (Tryz.func171).trans (by kernel_rfl)
 f241 := (Tryz.func189).trans (by kernel_rfl)
 f260 := (Tryz.func254).trans (by kernel_rfl)
 f266 := (Tryz.func360).trans (by kernel_rfl)
 f267 := (Tryz.func319).trans (by kernel_rfl)
 f276 := (Tryz.func241).trans (by kernel_rfl)
 f277 := (Tryz.func255).trans (by kernel_rfl)
 f314 := (Tryz.func361).trans (by kernel_rfl)
 t0 := by kernel_rfl
 a0 := fun w => by kernel_rfl
 z0 := fun w => by kernel_rfl
 v0 := fun w => by kernel_rfl
 t3 := by kernel_rfl
 a3 := fun w => by kernel_rfl
 z3 := fun w => by kernel_rfl
 v3 := fun w => by kernel_rfl
 t4 := by kernel_rfl
 a4 := fun w => by kernel_rfl
 z4 := fun w => by kernel_rfl
 v4 := fun w => by kernel_rfl
 t5 := by kernel_rfl
 a5 := fun w => by kernel_rfl
 z5 := fun w => by kernel_rfl
 v5 := fun w => by kernel_rfl
 t9 := by kernel_rfl
 a9 := fun w => by kernel_rfl
 z9 := fun w => by kernel_rfl
 v9 := fun w => by kernel_rfl
 t20 := by kernel_rfl
 a20 := fun w => by kernel_rfl
 z20 := fun w => by kernel_rfl
 v20 := fun w => by kernel_rfl
 t21 := by kernel_rfl
 a21 := fun w => by kernel_rfl
 z21 := fun w => by kernel_rfl
 v21 := fun w => by kernel_rfl
 t37 := by kernel_rfl
 a37 := fun w => by kernel_rfl
 z37 := fun w => by kernel_rfl
 v37 := fun w => by kernel_rfl
 t46 := by kernel_rfl
 a46 := fun w => by kernel_rfl
 z46 := fun w => by kernel_rfl
 v46 := fun w => by kernel_rfl
 t51 := by kernel_rfl
 a51 := fun w => by kernel_rfl
 z51 := fun w => by kernel_rfl
 v51 := fun w => by kernel_rfl
 t70 := by kernel_rfl
 a70 := fun w => by kernel_rfl
 z70 := fun w => by kernel_rfl
 v70 := fun w => by kernel_rfl
 t72 := by kernel_rfl
 a72 := fun w => by kernel_rfl
 z72 := fun w => by kernel_rfl
 v72 := fun w => by kernel_rfl
 t75 := by kernel_rfl
 a75 := fun w => by kernel_rfl
 z75 := fun w => by kernel_rfl
 v75 := fun w => by kernel_rfl
 t76 := by kernel_rfl
 a76 := fun w => by kernel_rfl
 z76 := fun w => by kernel_rfl
 v76 := fun w => by kernel_rfl
 t105 := by kernel_rfl
 a105 := fun w => by kernel_rfl
 z105 := fun w => by kernel_rfl
 v105 := fun w => by kernel_rfl
 t119 := by kernel_rfl
 a119 := fun w => by kernel_rfl
 z119 := fun w => by kernel_rfl
 t127 := by kernel_rfl
 a127 := fun w => by kernel_rfl
 z127 := fun w => by kernel_rfl
 v127 := fun w => by kernel_rfl
 t138 := by kernel_rfl
 a138 := fun w => by kernel_rfl
 z138 := fun w => by kernel_rfl
 v138 := fun w => by kernel_rfl
 t139 := by kernel_rfl
 a139 := fun w => by kernel_rfl
 z139 := fun w => by kernel_rfl
 v139 := fun w => by kernel_rfl
 t146 := by kernel_rfl
 a146 := fun w => by kernel_rfl
 z146 := fun w => by kernel_rfl
 v146 := fun w => by kernel_rfl
 t164 := by kernel_rfl
 a164 := fun w => by kernel_rfl
 z164 := fun w => by kernel_rfl
 v164 := fun w => by kernel_rfl
 g1 := by kernel_rfl
 g3 := by kernel_rfl
 g4 := by kernel_rfl
def Jsb : Ren := ⟨fun k => match k with | 156 => 44 | 165 => 116 | 166 => 88 | 169 => 92 | 240 => 171 | 241 => 189 | 276 => 241 | 277 => 255 | k => k, fun k => match k with | 31 => 75 | 9 => 9 | 3 => 3 | 4 => 4 | 0 => 0 | 20 => 20 | 72 => 147 | 76 => 151 | 70 => 144 | 37 => 145 | 75 => 150 | 127 => 246 | 164 => 317 | 5 => 5 | 80 => 156 | k => k, fun k => k⟩
set_option maxRecDepth 100000 in
theorem joi5 : Lays.n156 Tryz.prog Jsb where
 mixed := by kernel_rfl
 f156 := (Tryz.func44).trans (by kernel_rfl)
 f165 := (Tryz.func116).trans (by kernel_rfl)
 f166 := (Tryz.func88).trans (by kernel_rfl)
 f169 := (Tryz.func92).trans (by kernel_rfl)
 f240 := (Tryz.func171).trans (by kernel_rfl)
 f241 := (Tryz.func189).trans (by kernel_rfl)
 f276 := (Tryz.func241).trans (by kernel_rfl)
 f277 := (Tryz.func255).trans (by kernel_rfl)
 t0 := by kernel_rfl
 a0 := fun w => by kernel_rfl
 z0 := fun w => by kernel_rfl
 v0 := fun w => by kernel_rfl
 t3 := by kernel_rfl
 a3 := fun w => by kernel_rfl
 z3 := fun w => by kernel_rfl
 v3 := fun w => by kernel_rfl
 t4 := by kernel_rfl
 a4 := fun w => by kernel_rfl
 z4 := fun w => by kernel_rfl
 v4 := fun w => by kernel_rfl
 t9 := by kernel_rfl
 a9 := fun w => by kernel_rfl
 z9 := fun w => by kernel_rfl
 v9 := fun w => by kernel_rfl
 t20 := by kernel_rfl
 a20 := fun w => by kernel_rfl
 z20 := fun w => by kernel_rfl
 v20 := fun w => by kernel_rfl
 t31 := by kernel_rfl
 a31 := fun w => by kernel_rfl
 z31 := fun w => by kernel_rfl
 v31 := fun w => by kernel_rfl
 t37 := by kernel_rfl
 a37 := fun w => by kernel_rfl
 z37 := fun w => by kernel_rfl
 v37 := fun w => by kernel_rfl
 t70 := by kernel_rfl
 a70 := fun w => by kernel_rfl
 z70 := fun w => by kernel_rfl
 v70 := fun w => by kernel_rfl
 t72 := by kernel_rfl
 a72 := fun w => by kernel_rfl
 z72 := fun w => by kernel_rfl
 v72 := fun w => by kernel_rfl
 t75 := by kernel_rfl
 a75 := fun w => by kernel_rfl
 z75 := fun w => by kernel_rfl
 v75 := fun w => by kernel_rfl
 t76 := by kernel_rfl
 a76 := fun w => by kernel_rfl
 z76 := fun w => by kernel_rfl
 v76 := fun w => by kernel_rfl
 t127 := by kernel_rfl
 a127 := fun w => by kernel_rfl
 z127 := fun w => by kernel_rfl
 v127 := fun w => by kernel_rfl
 t164 := by kernel_rfl
 a164 := fun w => by kernel_rfl
 z164 := fun w => by kernel_rfl
 v164 := fun w => by kernel_rfl
theorem rplX : Builder.Extra Tryz.prog Ju6 where
 sizeBuilder := by kernel_rfl
 liesBuilder := by kernel_rfl
 t5 := by kernel_rfl
 a5 := fun w => by kernel_rfl
 z5 := fun w => by kernel_rfl
 v5 := fun w => by kernel_rfl
 infoByte := by kernel_rfl
 cellsByte := by kernel_rfl
 sizeByte := by kernel_rfl
 neB5 := by decide
theorem joiX : Builder.Extra Tryz.prog Jsb where
 sizeBuilder := by kernel_rfl
 liesBuilder := by kernel_rfl
 t5 := by kernel_rfl
 a5 := fun w => by kernel_rfl
 z5 := fun w => by kernel_rfl
 v5 := fun w => by kernel_rfl
 infoByte := by kernel_rfl
 cellsByte := by kernel_rfl
 sizeByte := by kernel_rfl
 neB5 := by decide
def GL6 (m : Int) : Jae := GL5 ++ [(0, 1, [[.int .i64 m]])]
theorem J8b (m : Int) : ∀ x ∈ GL5, x ∈ GL6 m := fun x hx => List.mem_append_left _ hx
theorem Jsz {own : Nat -> Prop} {w : World} {m : Int} (hg : Jeq (GL6 m) own w) : w.cell? ⟨0, 0, none⟩ = some (.int .i64 m) := by
 obtain ⟨_, _, hd, _⟩ := hg 0 1 [[.int .i64 m]] (List.mem_append_right _ (by simp))
 obtain ⟨v, hv, hr⟩ := hd 0 0 _ (PV.int .i64 m) rfl rfl
 cases hr
 exact hv
theorem J7v {φ : Places} {own : Nat -> Prop} {w : World} {T : TypeId} (hs : ∀ β, own β -> β < w.heap.size) (l : List Txt) :
   VR φ own (w.alloc (.cells (l.map fun x => Value.string ⟨⟨x⟩⟩).toArray T)) (.p (.lst 1 (l.map fun s => [PV.str s]))) (.slice (some ⟨w.heap.size, 0, none⟩) l.length l.length) := by
 have hl : (l.map fun s => [PV.str s]).length = l.length := by simp
 have hblk : (w.alloc (.cells (l.map fun x => Value.string ⟨⟨x⟩⟩).toArray T)).heap[w.heap.size]? = some (.cells (l.map fun x => Value.string ⟨⟨x⟩⟩).toArray T) := by
   show (w.heap.push _)[w.heap.size]? = _
   exact Array.getElem?_push_size
 conv => rhs; rw [<- hl]
 refine .p _ _ (VRp.lst_of (Nat.le_refl _) (Array.getElem?_eq_some_iff.1 hblk).1 (fun ho => by have := hs _ ho; omega) fun i j row x hr hx => ?_)
 rw [List.getElem?_map, Option.map_eq_some_iff] at hr
 obtain ⟨s, e1, rfl⟩ := hr
 match j with
 | 0 =>
   simp only [List.getElem?_cons_zero, Option.some.injEq] at hx
   subst hx
   refine ⟨.string ⟨⟨s⟩⟩, ?_, .str s⟩
   simp only [World.cell?, hblk, Nat.mul_one, Nat.add_zero, Nat.zero_add]
   simp [e1]
 | j + 1 => simp at hx
theorem Jvm (s : Txt) (c : UInt8) : (Lib.splitB ⟨⟨[c]⟩⟩ 0 (Lib.countB ⟨⟨s⟩⟩ ⟨⟨[c]⟩⟩) ⟨⟨s⟩⟩).map Value.string = (Lib.split s [c]).map fun x => Value.string ⟨⟨x⟩⟩ := by
 have h := Lib.splitB_data ⟨⟨[c]⟩⟩ 0 (Lib.countB ⟨⟨s⟩⟩ ⟨⟨[c]⟩⟩) ⟨⟨s⟩⟩
 have e : Lib.split s [c] = (Lib.splitB ⟨⟨[c]⟩⟩ 0 (Lib.countB ⟨⟨s⟩⟩ ⟨⟨[c]⟩⟩) ⟨⟨s⟩⟩).map (·.data.toList) := by rw [h]; rfl
 rw [e, List.map_map]
 rfl
theorem J6i (s : Txt) (c : UInt8) : (Lib.split s [c]).length = Lib.countB ⟨⟨s⟩⟩ ⟨⟨[c]⟩⟩ + 1 := by
 have h := congrArg List.length (Jvm s c)
 rw [List.length_map, List.length_map] at h
 rw [<- h]
 exact Lib.splitB_all ⟨⟨[c]⟩⟩ (by simp [ByteArray.size]) 0 _ _ rfl
set_option maxRecDepth 100000 in
theorem J8k {m : Int} (s : Txt) (c : UInt8) (hl : s.length <= 100000) : Pure Tryz.prog (GL6 m) 39 [.p (.str s), .p (.str [c])] (.p (.lst 1 ((Lib.split s [c]).map fun x => [PV.str x]))) := by
 refine Pure.of_below Tryz.func39 (by kernel_rfl) rfl rfl fun own w vs hg hs hlen hv => ?_
 match vs, hlen with
 | [a, b], _ =>
   have ea : a = .string ⟨⟨s⟩⟩ := (hv 0 _ a rfl rfl).str_inv
   have eb : b = .string ⟨⟨[c]⟩⟩ := (hv 1 _ b rfl rfl).str_inv
   subst ea; subst eb
   have k := Any.strings_Split spl5 (by kernel_rfl) ⟨⟨s⟩⟩ ⟨⟨[c]⟩⟩ m w (by simp [ByteArray.size]; omega) (Jsz hg) (by simp [ByteArray.size])
   refine Calls.mono k ?_
   rintro e w' ⟨rfl, rfl⟩
   rw [Jvm, <- J6i]
   exact ⟨_, rfl, J7v hs _, (Below.refl _ w).alloc (Nat.le_refl _) _⟩
theorem J8l (s t : Txt) (hl : s.length <= 100000) : Pure Tryz.prog GL 40 [.p (.str s), .p (.str t)] (.p (.str (Lib.trimSuffix s t))) := by
 refine Pure.of_below Tryz.func40 (by kernel_rfl) rfl rfl fun own w vs hg hs hlen hv => ?_
 match vs, hlen with
 | [a, b], _ =>
   have ea : a = .string ⟨⟨s⟩⟩ := (hv 0 _ a rfl rfl).str_inv
   have eb : b = .string ⟨⟨t⟩⟩ := (hv 1 _ b rfl rfl).str_inv
   subst ea; subst eb
   refine Calls.mono (Any.strings_TrimSuffix tsx5 ⟨⟨s⟩⟩ ⟨⟨t⟩⟩ w (by simp [ByteArray.size]; omega)) ?_
   rintro e w' ⟨rfl, rfl⟩
   exact ⟨_, rfl, .p _ _ (.str _), Below.refl _ _⟩
theorem J8j {m : Int} (s a b : Txt) (h0 : a ≠ []) (hl : s.length <= 100000) (hb : b.length <= 1000) : Pure Tryz.prog (GL6 m) 43 [.p (.str s), .p (.str a), .p (.str b)] (.p (.str (Lib.replaceAll s a b))) := by
 refine Pure.of_below Tryz.func43 (by kernel_rfl) rfl rfl fun own w vs hg hs hlen hv => ?_
 match vs, hlen with
 | [x, y, z], _ =>
   have ea : x = .string ⟨⟨s⟩⟩ := (hv 0 _ x rfl rfl).str_inv
   have eb : y = .string ⟨⟨a⟩⟩ := (hv 1 _ y rfl rfl).str_inv
   have ec : z = .string ⟨⟨b⟩⟩ := (hv 2 _ z rfl rfl).str_inv
   subst ea; subst eb; subst ec
   have ha : 1 <= (⟨⟨a⟩⟩ : ByteArray).size := by have := List.length_pos_iff.2 h0; simp [ByteArray.size]; omega
   have hc := Lib.countB_le ⟨⟨a⟩⟩ ha s.length ⟨⟨s⟩⟩ (by simp [ByteArray.size])
   have hc2 : Lib.countB ⟨⟨s⟩⟩ ⟨⟨a⟩⟩ <= 100000 := by simp [ByteArray.size] at hc; omega
   have hm := Nat.mul_le_mul hc2 hb
   refine Calls.mono (Any.strings_ReplaceAll rpl5 rplX ⟨⟨s⟩⟩ ⟨⟨a⟩⟩ ⟨⟨b⟩⟩ m w (by simp [ByteArray.size]; omega) (Jsz hg) ha (by simp [ByteArray.size]; omega)) ?_
   rintro e w' ⟨rfl, h2⟩
   exact ⟨_, rfl, .p _ _ (.str _), h2⟩
theorem J8i (ls : List Txt) (t : Txt) (hn : ls.length <= 100000) (hl : (Lib.join ls t).length <= 100000) : Pure Tryz.prog GL 44 [.p (.lst 1 (ls.map fun x => [PV.str x])), .p (.str t)] (.p (.str (Lib.join ls t))) := by
 refine Pure.of_below Tryz.func44 (by kernel_rfl) rfl rfl fun own w vs hg hs hlen hv => ?_
 match vs, hlen with
 | [x, y], _ =>
   obtain ⟨a, cap, rfl, hcap, hr⟩ := Jnz (hv 0 _ x rfl rfl)
   have eb : y = .string ⟨⟨t⟩⟩ := (hv 1 _ y rfl rfl).str_inv
   subst eb
   rw [List.length_map] at hcap
   match ls, hn, hl, hcap, hr with
   | [], _, _, _, _ =>
     refine Calls.mono (Any.strings_Join_none joi5 joiX a cap ⟨⟨t⟩⟩ w) ?_
     rintro e w' ⟨rfl, rfl⟩
     exact ⟨_, rfl, .p _ _ (.str _), Below.refl _ _⟩
   | l :: r, hn, hl, hcap, hr =>
     obtain ⟨β, o, rfl, hβ, _⟩ := hr 0 _ rfl
     have hx : ((l :: r).map fun x => (⟨⟨x⟩⟩ : ByteArray)).map (·.data.toList) = l :: r := by rw [List.map_map]; exact List.map_id' _
     have k := Any.strings_Join joi5 joiX β o cap ((l :: r).map fun x => ⟨⟨x⟩⟩) ⟨⟨t⟩⟩ w (fun j x hj => by
       rw [List.getElem?_map, Option.map_eq_some_iff] at hj
       obtain ⟨z, ez, rfl⟩ := hj
       obtain ⟨β', o', e1, _, e2⟩ := hr j [PV.str z] (by rw [List.getElem?_map, ez]; rfl)
       cases e1
       obtain ⟨u, e3, e4⟩ := e2 0 _ rfl
       cases e4
       simpa using e3) hβ (by rw [List.length_map]; omega) (by rw [List.length_map]; exact hcap) (by rw [hx]; show (Lib.join (l :: r) t).length <= _; omega)
     rw [hx, List.length_map] at k
     rw [List.length_map]
     refine Calls.mono k ?_
     rintro e w' ⟨rfl, h2⟩
     exact ⟨_, rfl, .p _ _ (.str _), h2⟩
end Go.Am
namespace Go.Am
open Go Go.Proofs Go.Pn
theorem J8x {G : Jae} (l : List Txt) (s : Store) (nx : Nat) (hn : l.length < 1000000) :
   Gives Tryz.prog G 42 [.p (.lst 1 (l.map Txt.enc))] s nx (.acc nx 1 l.length) [] [(nx, accB 1 (l.map Txt.row))] (nx + 1) := by
 refine Gives.mk_walkK (N := 8) (args := [.p (.lst 1 (l.map Txt.enc))]) [] [] [] [(0, accB 1 (l.map Txt.row))] 0 1 (.acc 0 1 l.length) (nms [2]) (up1 := [(nx, accB 1 (l.map Txt.row))]) Tryz.func42 rfl rfl rfl (by simp) rfl (by simp) (by simp) (by simp) (J5w rfl (Jlm fun _ => rfl)) (by simp) rfl ?_
 simp
 refine Jep (fun h => ?_) (fun h => ?_)
 . subst h
   simp
 . have h0 : 0 < l.length := List.length_pos_iff.2 h
   have hrow : (fun x => List.map AV.p x) ∘ Txt.enc = Txt.row := rfl
   simp [h, h0, hrow, accB, Nat.pos_iff_ne_zero]
   omega
theorem J1z {R V : List (List AV)} {i n m k : Nat} {z : List AV} (hn : R.length = n) (hi : i < n) (hR : ∀ x ∈ R, x.length = k) (hV : ∀ x ∈ V, x.length = k) (hm : V.length = m) (hz : z.length = k) :
   ∃ M, Jb8 (R.take i ++ List.replicate (n + m - i) z) i V = M /\ M.length = n + m /\ (∀ x ∈ M, x.length = k) /\ M.take (i + m) = R.take i ++ V := by
 have e2 : (R.take i ++ List.replicate (n + m - i) z).take i = R.take i := by rw [List.take_append_of_le_length (by simp; omega), List.take_of_length_le (by simp; omega)]
 refine ⟨_, rfl, ?_, ?_, ?_⟩
 . simp [Jb8, List.length_take, hm]; omega
 . intro x hx
   simp only [Jb8] at hx
   rw [e2] at hx
   rcases List.mem_append.1 hx with hx | hx
   . exact hR x (List.mem_of_mem_take hx)
   . rcases List.mem_append.1 hx with hx | hx
     . exact hV x hx
     . have := List.mem_of_mem_drop hx
       rcases List.mem_append.1 this with hx | hx
       . exact hR x (List.mem_of_mem_take hx)
       . rw [(List.mem_replicate.1 hx).2]; exact hz
 . simp only [Jb8, e2]
   rw [<- List.append_assoc, List.take_append_of_le_length (by simp [hm]; omega), List.take_of_length_le (by simp [hm]; omega)]
theorem J10 {R V M : List (List AV)} {i n m : Nat} (hn : R.length = n) (hi : i < n) (hM : M.length = n + m) (hT : M.take (i + m) = R.take i ++ V) :
   Jb8 M (i + m) (R.drop i) = R.take i ++ (V ++ R.drop i) := by
 have h : M.drop (i + m + (R.drop i).length) = [] := List.drop_of_length_le (by rw [List.length_drop]; omega)
 simp only [Jb8, hT, h]
 simp
theorem J11 {R V A : List (List AV)} {i n m k : Nat} (hn : R.length = n) (hi : i < n) (hV : V.length = m) (hA : A.length = m) (hm : i + m <= n \/ True) (hR : ∀ x ∈ R, x.length = k) (hAk : ∀ x ∈ A, x.length = k) :
   ∃ M, Jb8 (R ++ A) (i + m) (R.drop i) = M /\ M.length = n + m /\ (∀ x ∈ M, x.length = k) /\ Jb8 M i V = R.take i ++ (V ++ R.drop i) := by
 have e2 : (R ++ A).drop (i + m + (R.drop i).length) = [] := List.drop_of_length_le (by rw [List.length_append, List.length_drop, hA]; omega)
 have e3 : Jb8 (R ++ A) (i + m) (R.drop i) = (R ++ A).take (i + m) ++ R.drop i := by simp only [Jb8, e2, List.append_nil]
 have e6 : ((R ++ A).take (i + m)).length = i + m := by rw [List.length_take, List.length_append]; omega
 refine ⟨_, rfl, ?_, ?_, ?_⟩
 . rw [e3, List.length_append, e6, List.length_drop]; omega
 . rw [e3]
   intro x hx
   rcases List.mem_append.1 hx with hx | hx
   . rcases List.mem_append.1 (List.mem_of_mem_take hx) with hx | hx
     . exact hR x hx
     . exact hAk x hx
   . exact hR x (List.mem_of_mem_drop hx)
 . rw [e3]
   have e4 : ((R ++ A).take (i + m) ++ R.drop i).take i = R.take i := by
     rw [List.take_append_of_le_length (by omega), List.take_take, show min i (i + m) = i by omega, List.take_append_of_le_length (by omega)]
   have e5 : ((R ++ A).take (i + m) ++ R.drop i).drop (i + m) = R.drop i := List.drop_left' e6
   simp only [Jb8, hV, e4, e5, List.append_assoc]
theorem Jlw {l : List Txt} : ∀ r ∈ l.map Txt.row, r.length = 1 := fun r hr => by
 obtain ⟨x, _, rfl⟩ := List.mem_map.1 hr; rfl
theorem Jv6 {l : List Txt} {i : Nat} : ∀ r ∈ (l.map Txt.row).drop i, ∀ c ∈ r, AV.oneCell c = true := fun r hr c hc => by
 obtain ⟨x, _, rfl⟩ := List.mem_map.1 (List.mem_of_mem_drop hr)
 simp at hc; subst hc; rfl
theorem Jv5 {l : List Txt} {i : Nat} : ∀ r ∈ (l.map Txt.row).drop i, r.length = 1 := fun r hr => Jlw r (List.mem_of_mem_drop hr)
theorem J6w {l : List Txt} {i : Nat} : ∀ r ∈ (l.map Txt.row).take i, r.length = 1 := fun r hr => Jlw r (List.mem_of_mem_take hr)
def ins3 (l : List Txt) (i : Nat) (x y z : Txt) : List Txt := l.take i ++ ([x, y, z] ++ l.drop i)
theorem J12 {G : Jae} (l : List Txt) (i : Nat) (x y z : Txt) (b bv cp : Nat) (c : Option Nat) (s : Store) (nx : Nat) (hb : b < nx) (hn : bv < nx) (hne : b ≠ bv) (hi : i < l.length) (hl : l.length < 100000) (hcp : l.length <= cp) (hlt : cp < l.length + 3)
   (hg : get s b = some (.cells 1 (l.map Txt.row))) (hv : get s bv = some (.cells 1 ([x, y, z].map Txt.row))) :
   Gives Tryz.prog G 41 [.ref b 1 0 l.length (some cp), .p (.int .i64 i), .ref bv 1 0 3 c] s nx (.ref nx 1 0 (l.length + 3) none) [b, bv] [(nx, some (.cells 1 ((ins3 l i x y z).map Txt.row))), (b, none)] (nx + 1) := by
 refine Gives.mk_walkK (N := 95) (args := [.ref 0 1 0 l.length (some cp), .p (.int .i64 i), .ref 1 1 0 3 c]) [b, bv] [0] [(0, some (.cells 1 (l.map Txt.row))), (1, some (.cells 1 ([x, y, z].map Txt.row)))] [(2, some (.cells 1 ((ins3 l i x y z).map Txt.row)))] 2 1 (.ref 2 1 0 (l.length + 3) none) (nms [6]) (up1 := [(nx, some (.cells 1 ((ins3 l i x y z).map Txt.row)))]) Tryz.func41 rfl rfl rfl (by simp) rfl (by simp [hv, hn, hg, hb, hne]; intro q hq; match q, hq with | 0, _ => simp | 1, _ => simp) (by simp) (by simp [Jbt]) (by simp only [Jbt, renS, renB, Jlm (f := Txt.row) (fun _ => rfl)]; rfl) (by simp) rfl ?_
 have hil : ¬ i = l.length := by omega
 have e2 : ¬ (i : Int) = l.length := by omega
 have e3 : i <= l.length := by omega
 have e4 : i + (l.length + 3 - i) = l.length + 3 := by omega
 have e5 : (i : Int) <= l.length + 3 := by omega
 have e6 : ¬ l.length < i := by omega
 have e7 : (i : Int) + ((l.length + 3 - i : Nat) : Int) = l.length + 3 := by omega
 have h2 : cp < l.length + 3 := hlt
 have h3 : (cp : Int) < l.length + 3 := by omega
 have e10 : min 3 (l.length + 3 - i) = 3 := by omega
 have e11 : List.take (l.length + 3 - i) [[AV.p (PV.str x)], [AV.p (PV.str y)], [AV.p (PV.str z)]] = [[AV.p (PV.str x)], [AV.p (PV.str y)], [AV.p (PV.str z)]] := List.take_of_length_le (by simp; omega)
 have e12 : ((l.length : Int) + 3).toNat = l.length + 3 := by omega
 have e13 : (i : Int) <= i + ((l.length + 3 - i : Nat) : Int) := by omega
 have e8 : ¬ i = l.length + 3 := by omega
 simp [e3, hil, hi, e2, h2, h3, e4, e5, e6, e7, e10, e11, e12, e13, e8]
 have e14 : (l.length : Int) + 3 - i = ((l.length + 3 - i : Nat) : Int) := by omega
 refine ⟨wrap_i64 (by omega) (by omega), wrap_i64 (by omega) (by omega), by omega, J6w, ?_⟩
 obtain ⟨M, hM, m1, m2, m3⟩ := J1z (R := l.map Txt.row) (V := [[AV.p (PV.str x)], [AV.p (PV.str y)], [AV.p (PV.str z)]]) (n := l.length) (m := 3) (k := 1) (z := [AV.p (PV.str [])]) (by simp) hi Jlw (by simp) rfl rfl
 rw [hM]
 refine Jaj.intro (by kernel_rfl) ?_
 have e9 : (0 : Int) <= i + 3 := by omega
 have e15 : ((i : Int) + 3).toNat = i + 3 := by omega
 simp [e3, hil, hi, e2, e4, e9, e15]
 refine ⟨wrap_i64 (by omega) (by omega), ?_⟩
 have hD1 : List.take (l.length - i) (List.drop i (List.map Txt.row l)) = (l.drop i).map Txt.row := by rw [<- List.map_drop, List.take_of_length_le (by simp)]
 simp [hD1]
 have hq := @Jv6 l i
 simp at hq
 rw [if_pos hq]
 simp
 refine ⟨Jv5, by omega, m2, .of (by kernel_rfl), ?_⟩
 rw [show List.take (l.length - i) (List.drop i (List.map Txt.row l)) = List.drop i (List.map Txt.row l) from List.take_of_length_le (by simp), J10 (n := l.length) (by simp) hi m1 m3]
 have hins : (ins3 l i x y z).map Txt.row = List.take i (List.map Txt.row l) ++ ([[AV.p (PV.str x)], [AV.p (PV.str y)], [AV.p (PV.str z)]] ++ List.drop i (List.map Txt.row l)) := by simp [ins3, List.map_take, List.map_drop]
 rw [hins]
 try simp
 try decide
theorem J13 {G : Jae} (l : List Txt) (i : Nat) (x y z : Txt) (b bv cp : Nat) (c : Option Nat) (s : Store) (nx : Nat) (hb : b < nx) (hn : bv < nx) (hne : b ≠ bv) (hi : i < l.length) (hl : l.length < 100000) (hcp : l.length + 3 <= cp)
   (hg : get s b = some (.cells 1 (l.map Txt.row))) (hv : get s bv = some (.cells 1 ([x, y, z].map Txt.row))) :
   Gives Tryz.prog G 41 [.ref b 1 0 l.length (some cp), .p (.int .i64 i), .ref bv 1 0 3 c] s nx (.ref b 1 0 (l.length + 3) none) [b, bv] [(b, some (.cells 1 ((ins3 l i x y z).map Txt.row)))] nx := by
 refine Gives.mk_walkK (N := 95) (args := [.ref 0 1 0 l.length (some cp), .p (.int .i64 i), .ref 1 1 0 3 c]) [b, bv] [] [(0, some (.cells 1 (l.map Txt.row))), (1, some (.cells 1 ([x, y, z].map Txt.row)))] [(0, some (.cells 1 ((ins3 l i x y z).map Txt.row)))] 2 0 (.ref 0 1 0 (l.length + 3) none) (nms []) (up1 := [(b, some (.cells 1 ((ins3 l i x y z).map Txt.row)))]) Tryz.func41 rfl rfl rfl (by simp) rfl (by simp [hv, hn, hg, hb, hne]; intro q hq; match q, hq with | 0, _ => simp | 1, _ => simp) (by simp) (by simp [Jbt]) (by simp only [Jbt, renS, renB, Jlm (f := Txt.row) (fun _ => rfl)]; rfl) (by simp) rfl ?_
 have hil : ¬ i = l.length := by omega
 have e2 : ¬ (i : Int) = l.length := by omega
 have e3 : i <= l.length := by omega
 have e4 : i + (l.length + 3 - i) = l.length + 3 := by omega
 have e5 : (i : Int) <= l.length + 3 := by omega
 have e12 : ((l.length : Int) + 3).toNat = l.length + 3 := by omega
 have h2 : ¬ (cp : Int) < l.length + 3 := by omega
 have h3 : l.length + 3 <= cp := hcp
 have h5 : (l.length : Int) < l.length + 3 := by omega
 have h6 : (l.length : Int) + 3 <= cp := by omega
 have h7 : (0 : Int) <= i + 3 := by omega
 have e15 : ((i : Int) + 3).toNat = i + 3 := by omega
 have hR3 : List.replicate 3 [AV.any] = [[AV.any], [AV.any], [AV.any]] := rfl
 simp [e3, hil, hi, e2, h2, h3, h5, h6, h7, e12, e15, hR3]
 refine ⟨wrap_i64 (by omega) (by omega), wrap_i64 (by omega) (by omega), ?_⟩
 refine Ja7 (J0y (tS := 75) (tR := 4) (e := 9) (size := 1) Tryz.func113 (by kernel_rfl) (by kernel_rfl) (by kernel_rfl) (by kernel_rfl) (by kernel_rfl) (fun w => by kernel_rfl) (by simp [get]; rfl) (by simp [get]; rfl) (by decide) (by decide) (by omega)) ?_
 simp
 refine Jaj.intro (by kernel_rfl) ?_
 have e8 : ¬ i = l.length + 3 := by omega
 simp [e3, hil, hi, e2, h7, e5, e8, e12, e15]
 refine ⟨wrap_i64 (by omega) (by omega), ?_⟩
 have f1 : min (l.length + 3 - i) (l.length - i) = l.length - i := by omega
 have f2 : List.take (l.length - i) (List.drop i (List.map Txt.row l ++ [[AV.any], [AV.any], [AV.any]])) = (l.drop i).map Txt.row := by
   rw [List.drop_append_of_le_length (by simp; omega), List.take_append_of_le_length (by simp), <- List.map_drop, List.take_of_length_le (by simp)]
 have f3 : i + (l.length + 3 - i) <= l.length + 3 := by omega
 simp [f1, f2, f3]
 have hq := @Jv6 l i
 simp at hq
 rw [if_pos hq]
 simp
 refine ⟨Jv5, by omega, .of (by kernel_rfl), ?_⟩
 obtain ⟨M, hM, m1, m2, m3⟩ := J11 (R := l.map Txt.row) (V := [[AV.p (PV.str x)], [AV.p (PV.str y)], [AV.p (PV.str z)]]) (A := [[AV.any], [AV.any], [AV.any]]) (n := l.length) (i := i) (m := 3) (k := 1) (by simp) hi rfl rfl (.inr trivial) Jlw (by simp)
 rw [show List.take (l.length - i) (List.drop i (List.map Txt.row l)) = List.drop i (List.map Txt.row l) from List.take_of_length_le (by simp), hM]
 have e10 : min 3 (l.length + 3 - i) = 3 := by omega
 have e11 : List.take (l.length + 3 - i) [[AV.p (PV.str x)], [AV.p (PV.str y)], [AV.p (PV.str z)]] = [[AV.p (PV.str x)], [AV.p (PV.str y)], [AV.p (PV.str z)]] := List.take_of_length_le (by simp; omega)
 simp [e5, e8, e10, e11]
 refine ⟨by omega, m2, ?_⟩
 have hins : (ins3 l i x y z).map Txt.row = List.take i (List.map Txt.row l) ++ ([[AV.p (PV.str x)], [AV.p (PV.str y)], [AV.p (PV.str z)]] ++ List.drop i (List.map Txt.row l)) := by simp [ins3, List.map_take, List.map_drop]
 rw [hins, m3]
 try simp
 try decide
theorem J8y {G : Jae} (l : List Txt) (i : Nat) (x y z : Txt) (b bv : Nat) (c : Option Nat) (s : Store) (nx : Nat) (hb : b < nx) (hn : bv < nx) (hne : b ≠ bv) (hi : i < l.length) (hl : l.length < 100000)
   (hg : get s b = some (.cells 1 (l.map Txt.row))) (hv : get s bv = some (.cells 1 ([x, y, z].map Txt.row))) :
   Gives Tryz.prog G 41 [.acc b 1 l.length, .p (.int .i64 i), .ref bv 1 0 3 c] s nx (.ref nx 1 0 (l.length + 3) none) [b, bv] [(nx, some (.cells 1 ((ins3 l i x y z).map Txt.row))), (b, none)] (nx + 1) := by
 refine Gives.of_acc (fun h => by omega) (fun h => ?_)
 refine Gives.capped (j := 0) rfl (fun cp hcp => ?_)
 by_cases hlt : cp < l.length + 3
 . exact J12 l i x y z b bv cp c s nx hb hn hne hi hl hcp hlt hg hv
 . exact (J13 l i x y z b bv cp c s nx hb hn hne hi hl (by omega) hg hv).moved hb
end Go.Am
