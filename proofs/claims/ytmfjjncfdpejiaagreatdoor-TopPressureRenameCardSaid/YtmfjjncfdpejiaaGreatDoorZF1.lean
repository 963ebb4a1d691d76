/- Lemmas and contracts for the proof of a statement of this seat. -/
import Derived.Test.YtmfjjncfdpejiaaGreatDoorZC1
import Derived.Test.YtmfjjncfdpejiaaGreatDoorZCT
import Derived.Test.YtmfjjncfdpejiaaGreatDoorZCR
import Derived.Lib.AtoiAll
import Derived.Lib.IndexAny
import Derived.Lib.ItoaNum
set_option linter.unusedVariables false
set_option linter.unusedSimpArgs false
namespace Go.Am
open Go Go.Proofs Go.Pn
def gAt (g : List Int) (k : Int) : Int := match g[k.toNat]? with | some x => x | none => -1
def minG (g : List Int) (ks : List Int) (x : Int) : Int := ks.foldl (fun x k => if 1 <= gAt g k /\ (x = -1 \/ gAt g k < x) then gAt g k else x) x
theorem Jrp {g : List Int} {k : Int} {ks : List Int} {x : Int} : minG g (k :: ks) x = minG g ks (if 1 <= gAt g k /\ (x = -1 \/ gAt g k < x) then gAt g k else x) := rfl
theorem Kbm {g : List Int} {k : Int} {ks : List Int} {x : Int} : minG g (ks ++ [k]) x = if 1 <= gAt g k /\ (minG g ks x = -1 \/ gAt g k < minG g ks x) then gAt g k else minG g ks x := by
 unfold minG; rw [List.foldl_append]; rfl
def Jh0 (S : Int -> Prop) (r : Int) : Prop := (r = -1 /\ ∀ y, ¬ S y) \/ (S r /\ ∀ y, S y -> r <= y)
theorem Jh0.unique {S T : Int -> Prop} {r s : Int} (h : Jh0 S r) (k : Jh0 T s) (hst : ∀ y, S y ↔ T y) : r = s := by
 rcases h with ⟨h1, h2⟩ | ⟨h1, h2⟩ <;> rcases k with ⟨k1, k2⟩ | ⟨k1, k2⟩
 . omega
 . exact absurd ((hst s).2 k1) (h2 s)
 . exact absurd ((hst r).1 h1) (k2 r)
 . have := h2 s ((hst s).2 k1); have := k2 r ((hst r).1 h1); omega
theorem Jyz {g : List Int} : ∀ {ks : List Int} {x : Int} {S : Int -> Prop}, Jh0 S x -> (∀ y, S y -> 1 <= y) -> Jh0 (fun y => S y \/ ∃ k ∈ ks, gAt g k = y /\ 1 <= y) (minG g ks x)
 | [], x, S, h, _ => by
   have e : (fun y => S y \/ ∃ k ∈ ([] : List Int), gAt g k = y /\ 1 <= y) = S := by funext y; simp
   rw [e]; exact h
 | k :: ks, x, S, h, hS => by
   rw [Jrp]
   have key : Jh0 (fun y => S y \/ (gAt g k = y /\ 1 <= y)) (if 1 <= gAt g k /\ (x = -1 \/ gAt g k < x) then gAt g k else x) := by
     by_cases hc : 1 <= gAt g k /\ (x = -1 \/ gAt g k < x)
     . rw [if_pos hc]
       refine .inr ⟨.inr ⟨rfl, hc.1⟩, ?_⟩
       rintro y (hy | ⟨rfl, _⟩)
       . rcases h with ⟨h1, h2⟩ | ⟨h1, h2⟩
         . exact absurd hy (h2 y)
         . have := h2 y hy
           have := hS x h1
           omega
       . exact Int.le_refl _
     . rw [if_neg hc]
       rcases h with ⟨h1, h2⟩ | ⟨h1, h2⟩
       . refine .inl ⟨h1, ?_⟩
         rintro y (hy | ⟨rfl, hy⟩)
         . exact h2 y hy
         . exact hc ⟨hy, .inl h1⟩
       . refine .inr ⟨.inl h1, ?_⟩
         rintro y (hy | ⟨rfl, hy⟩)
         . exact h2 y hy
         . have := hS x h1
           omega
   have ih := Jyz (g := g) (ks := ks) key (by rintro y (hy | ⟨_, hy⟩); exact hS y hy; exact hy)
   have e : (fun y => S y \/ ∃ k' ∈ k :: ks, gAt g k' = y /\ 1 <= y) = (fun y => (S y \/ (gAt g k = y /\ 1 <= y)) \/ ∃ k' ∈ ks, gAt g k' = y /\ 1 <= y) := by
     funext y
     refine propext ⟨?_, ?_⟩
     . rintro (h | ⟨k', hk, h⟩)
       . exact .inl (.inl h)
       . rcases List.mem_cons.1 hk with rfl | hk
         . exact .inl (.inr h)
         . exact .inr ⟨k', hk, h⟩
     . rintro ((h | h) | ⟨k', hk, h⟩)
       . exact .inl h
       . exact .inr ⟨k, by simp, h⟩
       . exact .inr ⟨k', by simp [hk], h⟩
   rw [e]; exact ih
theorem Jn6 {g : List Int} {ks : List Int} : Jh0 (fun y => ∃ k ∈ ks, gAt g k = y /\ 1 <= y) (minG g ks (-1)) := by
 have := Jyz (g := g) (ks := ks) (x := -1) (S := fun _ => False) (.inl ⟨rfl, fun _ h => h⟩) (fun _ h => h.elim)
 have e : (fun y => False \/ ∃ k ∈ ks, gAt g k = y /\ 1 <= y) = (fun y => ∃ k ∈ ks, gAt g k = y /\ 1 <= y) := by funext y; simp
 rw [e] at this; exact this
theorem Kbl {g : List Int} {ks ms : List Int} (h : ∀ k, k ∈ ks ↔ k ∈ ms) : minG g ks (-1) = minG g ms (-1) :=
 Jn6.unique Jn6 fun y => by simp only [h]
theorem Jy0 {g : List Int} {ks : List Int} (h : minG g ks (-1) ≠ -1) : 1 <= minG g ks (-1) := by
 rcases @Jn6 g ks with ⟨h1, _⟩ | ⟨⟨_, _, _, h1⟩, _⟩
 . exact absurd h1 h
 . exact h1
def Jbi (A : Nat -> List Int) (g : List Int) (n : Nat) : List Int := (List.range g.length).map fun i => if i < n /\ gAt g i = -1 then minG g (A i) (-1) else gAt g i
theorem Jep {A : Nat -> List Int} {g : List Int} {n : Nat} : (Jbi A g n).length = g.length := by simp [Jbi]
theorem Jfk {A : Nat -> List Int} {g : List Int} {n i : Nat} (h : i < g.length) : (Jbi A g n)[i]? = some (if i < n /\ gAt g i = -1 then minG g (A i) (-1) else gAt g i) := by simp [Jbi, h]
theorem Jd3 {g : List Int} {i : Nat} {x : Int} (e : g[i]? = some x) : gAt g (i : Int) = x := by simp only [gAt, Int.toNat_natCast, e]
theorem Kcb {A : Nat -> List Int} {g : List Int} : Jbi A g 0 = g := by
 apply List.ext_getElem?
 intro i
 by_cases h : i < g.length
 . rw [Jfk h, if_neg (by omega)]
   obtain ⟨x, e⟩ : ∃ x, g[i]? = some x := ⟨_, List.getElem?_eq_getElem h⟩
   rw [Jd3 e, e]
 . rw [List.getElem?_eq_none (by rw [Jep]; omega), List.getElem?_eq_none (by omega)]
theorem Kca {A : Nat -> List Int} {g : List Int} {n : Nat} (h : n < g.length) : Jbi A g (n + 1) = if gAt g n = -1 then (Jbi A g n).set n (minG g (A n) (-1)) else Jbi A g n := by
 apply List.ext_getElem?
 intro i
 by_cases hi : i < g.length
 . rw [Jfk hi]
   by_cases hn : gAt g n = -1
   . rw [if_pos hn, List.getElem?_set, Jep]
     by_cases e : n = i
     . subst e
       rw [if_pos ⟨by omega, hn⟩, if_pos rfl, if_pos h]
     . rw [if_neg e, Jfk hi]
       congr 1
       by_cases h2 : gAt g i = -1
       . by_cases h3 : i < n
         . rw [if_pos ⟨by omega, h2⟩, if_pos ⟨h3, h2⟩]
         . rw [if_neg (by omega), if_neg (by omega)]
       . rw [if_neg (fun h => h2 h.2), if_neg (fun h => h2 h.2)]
   . rw [if_neg hn, Jfk hi]
     congr 1
     by_cases e : i = n
     . subst e
       rw [if_neg (fun h => hn h.2), if_neg (fun h => hn h.2)]
     . by_cases h2 : gAt g i = -1
       . by_cases h3 : i < n
         . rw [if_pos ⟨by omega, h2⟩, if_pos ⟨h3, h2⟩]
         . rw [if_neg (by omega), if_neg (by omega)]
       . rw [if_neg (fun h => h2 h.2), if_neg (fun h => h2 h.2)]
 . have h2 : i ≥ (Jbi A g n).length := by rw [Jep]; omega
   rw [List.getElem?_eq_none (by rw [Jep]; omega)]
   split
   . rw [List.getElem?_eq_none (by rw [List.length_set]; exact h2)]
   . rw [List.getElem?_eq_none h2]
def Jeq (g : List Int) : Nat := g.countP fun x => decide (x = -1)
theorem Jrv {g : List Int} : Jeq g <= g.length := List.countP_le_length
theorem count_le {A B : List Int} (hl : A.length = B.length) (h : ∀ (i : Nat) a b, A[i]? = some a -> B[i]? = some b -> b = -1 -> a = -1) : Jeq B <= Jeq A /\ (Jeq A = Jeq B -> ∀ (i : Nat) a b, A[i]? = some a -> B[i]? = some b -> (a = -1 ↔ b = -1)) := by
 induction A generalizing B with
 | nil => cases B with | nil => simp [Jeq] | cons => simp at hl
 | cons a A ih =>
   cases B with
   | nil => simp at hl
   | cons b B =>
     have ih := @ih B (by simpa using hl) fun i x y hx hy => h (i + 1) x y (by simpa using hx) (by simpa using hy)
     have h0 := h 0 a b rfl rfl
     unfold Jeq at ih ⊢
     simp only [List.countP_cons, decide_eq_true_eq]
     refine ⟨by split <;> split <;> omega, fun hc i x y hx hy => ?_⟩
     have hab : a = -1 ↔ b = -1 := by
       refine ⟨fun ha => ?_, h0⟩
       by_cases hb : b = -1
       . exact hb
       . rw [if_pos ha, if_neg hb] at hc
         omega
     cases i with
     | zero => simp at hx hy; subst hx; subst hy; exact hab
     | succ i =>
       refine ih.2 ?_ i x y (by simpa using hx) (by simpa using hy)
       by_cases ha : a = -1
       . rw [if_pos ha, if_pos (hab.1 ha)] at hc; omega
       . rw [if_neg ha, if_neg (fun hb => ha (hab.2 hb))] at hc; omega
theorem Kcc {A : Nat -> List Int} {g : List Int} {n : Nat} (hne : Jbi A g n ≠ g) : Jeq (Jbi A g n) < Jeq g := by
 have hk : ∀ (i : Nat) a b, g[i]? = some a -> (Jbi A g n)[i]? = some b -> b = -1 -> a = -1 := fun i a b ha hb hb1 => by
   have hi := (gsI.1 ha).1
   rw [Jfk hi, Jd3 ha] at hb
   by_cases h : i < n /\ a = -1
   . exact h.2
   . rw [if_neg h] at hb; cases hb; exact hb1
 obtain ⟨h1, h2⟩ := count_le (A := g) (B := Jbi A g n) Jep.symm hk
 by_cases he : Jeq g = Jeq (Jbi A g n)
 . exfalso
   apply hne
   apply List.ext_getElem?
   intro i
   by_cases hi : i < g.length
   . obtain ⟨x, e⟩ : ∃ x, g[i]? = some x := ⟨_, List.getElem?_eq_getElem hi⟩
     have e2 := Jfk (A := A) (n := n) hi
     have h3 := h2 he i _ _ e e2
     rw [e2, e, Jd3 e]
     rw [Jd3 e] at h3
     by_cases h : i < n /\ x = -1
     . rw [if_pos h] at h3 ⊢
       rw [h3.1 h.2, h.2]
     . rw [if_neg h]
   . rw [List.getElem?_eq_none (by rw [Jep]; omega), List.getElem?_eq_none (by omega)]
 . omega
def Ja9 (A : Nat -> List Int) (n : Nat) (g : List Int) : Nat -> List Int
 | 0 => g
 | k + 1 => Jbi A (Ja9 A n g k) n
theorem Jk8 {A : Nat -> List Int} {n : Nat} {g : List Int} : ∀ {k : Nat}, (Ja9 A n g k).length = g.length
 | 0 => rfl
 | k + 1 => by rw [Ja9, Jep, Jk8]
theorem Jnw {A : Nat -> List Int} {n : Nat} {g : List Int} {k : Nat} (h : Jbi A (Ja9 A n g k) n = Ja9 A n g k) : ∀ m, Ja9 A n g (k + m) = Ja9 A n g k
 | 0 => rfl
 | m + 1 => by
   have ih := Jnw h m
   rw [show k + (m + 1) = (k + m) + 1 from rfl, Ja9, ih, h]
def endT (A : Nat -> List Int) (n : Nat) (g : List Int) : List Int := Ja9 A n g g.length
theorem Jnx {A : Nat -> List Int} {n : Nat} {g : List Int} : ∀ {k : Nat}, (∀ j, j < k -> Jbi A (Ja9 A n g j) n ≠ Ja9 A n g j) -> Jeq (Ja9 A n g k) + k <= Jeq g
 | 0, _ => by simp [Ja9]
 | k + 1, h => by
   have ih := @Jnx A n g k fun j hj => h j (by omega)
   have := Kcc (h k (by omega))
   rw [Ja9]; omega
theorem J7h {A : Nat -> List Int} {n : Nat} {g : List Int} {k : Nat} (hp : ∀ j, j < k -> Jbi A (Ja9 A n g j) n ≠ Ja9 A n g j) (h : Jbi A (Ja9 A n g k) n = Ja9 A n g k) : Ja9 A n g k = endT A n g := by
 have h1 := Jnx hp
 have h2 := @Jrv g
 obtain ⟨m, hm⟩ : ∃ m, g.length = k + m := ⟨g.length - k, by omega⟩
 unfold endT
 rw [hm, Jnw h m]
end Go.Am
namespace Go.Am
open Go Go.Proofs Go.Pn
def cylN (c : Circuit) (k : Nat) : Int := ((c.parts.take k).countP fun p => decide (p.kind = 1) : Nat)
theorem J6z {c : Circuit} {k : Nat} {p : Part} (e : c.parts[k]? = some p) : cylN c (k + 1) = cylN c k + if p.kind = 1 then 1 else 0 := by
 unfold cylN
 rw [take_snoc e, List.countP_append]
 by_cases h : p.kind = 1 <;> simp [h]
theorem J6y {c : Circuit} {k : Nat} : cylN c k <= k := by
 have h1 := @List.countP_le_length _ (fun p : Part => decide (p.kind = 1)) (c.parts.take k)
 have h2 : (c.parts.take k).length <= k := List.length_take_le ..
 unfold cylN; omega
theorem Jqt {c : Circuit} {k : Nat} : 0 <= cylN c k := by unfold cylN; omega
def Jgm (c : Circuit) (s : Txt) : Int := Ja4 c s.dropLast
def grpK (c : Circuit) (k : Nat) (i : Nat) : Int := match c.parts[i]? with
 | none => -1
 | some p => if p.kind = 1 then (if i < k then cylN c (i + 1) else -1) else if p.kind = 0 then (if i < k then 0 else -1)
     else if p.kind = 6 then (if Jgm c p.name < k then cylN c ((Jgm c p.name).toNat + 1) else -1) else -1
def firstT (c : Circuit) (n k : Nat) : List Int := (List.range n).map (grpK c k)
theorem Jcy {c : Circuit} {n k : Nat} : (firstT c n k).length = n := by simp [firstT]
theorem Jjc {c : Circuit} {n k i : Nat} (h : i < n) : (firstT c n k)[i]? = some (grpK c k i) := by simp [firstT, h]
theorem Ka0 {c : Circuit} (h : Jad c = 0) {i : Nat} {q : Part} (e : c.parts[i]? = some q) (hk : q.kind = 6) : belB c q.name = true := by
 have hc := Jm1.1 h
 have h1 := Jk4.1 hc.1.owned i (gsI.1 e).1
 simp only [Jer, e] at h1
 have hn : ∀ p ∈ c.parts, p.name ≠ [] := fun p hp => by
   obtain ⟨j, hj, ej⟩ := List.getElem_of_mem hp
   have h2 := Jk4.1 hc.1.each j hj
   simp only [partAt, List.getElem?_eq_getElem hj, ej] at h2
   intro hnil
   have h3 : Jbk p = 0 := by
     apply Decidable.byContradiction
     intro hne
     rw [if_pos hne] at h2
     exact hne h2
   unfold Jbk at h3
   rw [hnil] at h3
   have h4 : Jcu ([] : Txt) ≠ 0 := by decide
   by_cases h5 : Jax p.kind ≠ 0
   . rw [if_pos h5] at h3; exact h5 h3
   . rw [if_neg h5, if_pos h4] at h3; exact h4 h3
 cases hb : belB c q.name with
 | true => rfl
 | false =>
   rw [if_pos ⟨hk, (Jr3 hn).2 hb⟩] at h1
   cases h1
theorem Jn4 {c : Circuit} (h : Jad c = 0) {i : Nat} {q : Part} (e : c.parts[i]? = some q) (hk : q.kind = 6) :
   ∃ (j : Nat) (p : Part) (d : UInt8), Jgm c q.name = j /\ c.parts[j]? = some p /\ p.kind = 1 /\ q.name = p.name ++ [d] /\ (d = 48 \/ d = 49) := by
 have hb := Ka0 h e hk
 unfold belB at hb
 simp only [Bool.and_eq_true, Bool.or_eq_true, decide_eq_true_eq] at hb
 obtain ⟨⟨h1, h2⟩, h3⟩ := hb
 unfold cylB at h3
 split at h3
 . cases h3
 . rename_i j hj
   obtain ⟨hjl, hp, _⟩ := List.findIdx?_eq_some_iff_getElem.1 hj
   have ej : c.parts[j]? = some c.parts[j] := List.getElem?_eq_getElem hjl
   have hname : c.parts[j].name = q.name.dropLast := by simpa using hp
   have hki : c.parts[j].kind = 1 := by rw [ej] at h3; simpa using h3
   have hd : ∀ d, q.name.getLast? = some d -> q.name = c.parts[j].name ++ [d] := fun d hd => by
     rw [hname]
     have hne : q.name ≠ [] := by intro h0; rw [h0] at h1; simp at h1
     rw [List.getLast?_eq_some_getLast hne] at hd
     have := List.dropLast_concat_getLast hne
     simp only [Option.some.injEq] at hd
     rw [hd] at this
     exact this.symm
   have hc : Jgm c q.name = j := by unfold Jgm; rw [<- hname]; exact Jih h ej
   rcases h2 with h2 | h2
   . exact ⟨j, _, 48, hc, ej, hki, hd _ h2, .inl rfl⟩
   . exact ⟨j, _, 49, hc, ej, hki, hd _ h2, .inr rfl⟩
theorem Jte {c : Circuit} (h : Jad c = 0) {j : Nat} {p : Part} (e : c.parts[j]? = some p) (d : UInt8) : (swAt c (p.name ++ [d]) = -1 /\ ∀ (i : Nat) q, c.parts[i]? = some q -> q.kind = 6 -> q.name ≠ p.name ++ [d]) \/
   ∃ (i : Nat) (q : Part), swAt c (p.name ++ [d]) = i /\ c.parts[i]? = some q /\ q.kind = 6 /\ q.name = p.name ++ [d] := by
 have h0 := Jgy c (p.name ++ [d])
 unfold swAt
 rcases h0 with hk | ⟨i, x, hk, ei, hx⟩
 . rw [hk]
   refine .inl ⟨rfl, fun i q eq _ => Ked hk q (List.mem_of_getElem? eq)⟩
 . rw [hk]
   have hka : Jal c (i : Int) = x.kind := by rw [Jal, Int.toNat_natCast, ei]; rfl
   have hxn : x.name = p.name ++ [d] := hx
   unfold swK
   rw [hka]
   by_cases h6 : x.kind = 6
   . rw [if_neg (by simp [h6])]
     exact .inr ⟨i, x, rfl, ei, h6, hxn⟩
   . rw [if_pos ⟨by omega, h6⟩]
     refine .inl ⟨rfl, fun i' q eq hq6 hqn => ?_⟩
     have h1 := Jih h eq
     rw [hqn, hk] at h1
     have h2 : i = i' := by omega
     subst h2
     rw [ei] at eq; cases eq
     exact h6 hq6
theorem J9b {c : Circuit} (h : Jad c = 0) {i : Nat} : grpK c 0 i = -1 := by
 unfold grpK
 cases e : c.parts[i]? with
 | none => rfl
 | some p =>
   simp only
   split
   . rw [if_neg (by omega)]
   . split
     . rw [if_neg (by omega)]
     . split
       . rename_i h6
         obtain ⟨j, _, _, hj, _⟩ := Jn4 h e h6
         rw [if_neg (by omega)]
       . rfl
theorem J71 {c : Circuit} (h : Jad c = 0) {n k : Nat} {p : Part} (e : c.parts[k]? = some p) (h1 : p.kind ≠ 1) (h0 : p.kind ≠ 0) : firstT c n (k + 1) = firstT c n k := by
 unfold firstT
 apply List.map_congr_left
 intro i _
 unfold grpK
 cases ei : c.parts[i]? with
 | none => rfl
 | some q =>
   have hne : i = k -> q = p := fun hik => by subst hik; rw [e] at ei; cases ei; rfl
   simp only
   by_cases hq1 : q.kind = 1
   . have : i ≠ k := fun hik => h1 (hne hik ▸ hq1)
     rw [if_pos hq1, if_pos hq1]
     by_cases hik : i < k
     . rw [if_pos (by omega), if_pos hik]
     . rw [if_neg (by omega), if_neg hik]
   . rw [if_neg hq1, if_neg hq1]
     by_cases hq0 : q.kind = 0
     . have : i ≠ k := fun hik => h0 (hne hik ▸ hq0)
       rw [if_pos hq0, if_pos hq0]
       by_cases hik : i < k
       . rw [if_pos (by omega), if_pos hik]
       . rw [if_neg (by omega), if_neg hik]
     . rw [if_neg hq0, if_neg hq0]
       by_cases hq6 : q.kind = 6
       . rw [if_pos hq6, if_pos hq6]
         obtain ⟨j, p', d, hj, ej, hk1, _⟩ := Jn4 h ei hq6
         have : j ≠ k := fun hjk => by subst hjk; rw [e] at ej; cases ej; exact h1 hk1
         rw [hj]
         by_cases hjk : j < k
         . rw [if_pos (by omega), if_pos (by omega)]
         . rw [if_neg (by omega), if_neg (by omega)]
       . rw [if_neg hq6, if_neg hq6]
theorem J72 {c : Circuit} (h : Jad c = 0) {n k : Nat} {p : Part} (e : c.parts[k]? = some p) (h0 : p.kind = 0) (hk : k < n) : firstT c n (k + 1) = (firstT c n k).set k 0 := by
 apply List.ext_getElem?
 intro i
 by_cases hi : i < n
 . rw [List.getElem?_set, Jjc hi, Jcy]
   by_cases hik : k = i
   . subst hik
     rw [if_pos rfl, if_pos hk]
     unfold grpK
     rw [e]
     simp [h0]
   . rw [if_neg hik, Jjc hi]
     congr 1
     unfold grpK
     cases ei : c.parts[i]? with
     | none => rfl
     | some q =>
       simp only
       by_cases hq1 : q.kind = 1
       . rw [if_pos hq1, if_pos hq1]
         by_cases hik : i < k
         . rw [if_pos (by omega), if_pos hik]
         . rw [if_neg (by omega), if_neg hik]
       . rw [if_neg hq1, if_neg hq1]
         by_cases hq0 : q.kind = 0
         . rw [if_pos hq0, if_pos hq0]
           by_cases hik : i < k
           . rw [if_pos (by omega), if_pos hik]
           . rw [if_neg (by omega), if_neg hik]
         . rw [if_neg hq0, if_neg hq0]
           by_cases hq6 : q.kind = 6
           . rw [if_pos hq6, if_pos hq6]
             obtain ⟨j, p', d, hj, ej, hk1, _⟩ := Jn4 h ei hq6
             have : j ≠ k := fun hjk => by subst hjk; rw [e] at ej; cases ej; rw [h0] at hk1; cases hk1
             rw [hj]
             by_cases hjk : j < k
             . rw [if_pos (by omega), if_pos (by omega)]
             . rw [if_neg (by omega), if_neg (by omega)]
           . rw [if_neg hq6, if_neg hq6]
 . rw [List.getElem?_eq_none (by rw [Jcy]; omega), List.getElem?_eq_none (by rw [List.length_set, Jcy]; omega)]
def setI (g : List Int) (k x : Int) : List Int := if 0 <= k then g.set k.toNat x else g
theorem Jo5 {g : List Int} {k x : Int} : (setI g k x).length = g.length := by unfold setI; split <;> simp
theorem J1g {g : List Int} {k x : Int} {i : Nat} (hi : i < g.length) : (setI g k x)[i]? = if k = i then some x else g[i]? := by
 unfold setI
 by_cases h : 0 <= k
 . rw [if_pos h, List.getElem?_set]
   by_cases e : k = i
   . rw [if_pos e, if_pos (by omega), if_pos (by omega)]
   . rw [if_neg e, if_neg (by omega)]
 . rw [if_neg h, if_neg (by omega)]
theorem J70 {c : Circuit} (h : Jad c = 0) {n k : Nat} {p : Part} (e : c.parts[k]? = some p) (h1 : p.kind = 1) (hk : k < n) :
   firstT c n (k + 1) = setI (setI ((firstT c n k).set k (cylN c (k + 1))) (swAt c (p.name ++ [48])) (cylN c (k + 1))) (swAt c (p.name ++ [49])) (cylN c (k + 1)) := by
 apply List.ext_getElem?
 intro i
 by_cases hi : i < n
 . rw [J1g (by rw [Jo5, List.length_set, Jcy]; exact hi), J1g (by rw [List.length_set, Jcy]; exact hi), List.getElem?_set, Jjc hi, Jjc hi, Jcy]
   have hsw : ∀ d, swAt c (p.name ++ [d]) = i -> ∃ q, c.parts[i]? = some q /\ q.kind = 6 /\ q.name = p.name ++ [d] := fun d hd => by
     rcases Jte h e d with ⟨h2, _⟩ | ⟨i', q, h2, h3, h4, h5⟩
     . omega
     . have : i' = i := by omega
       subst this
       exact ⟨q, h3, h4, h5⟩
   have hlim : ∀ d q, c.parts[i]? = some q -> q.kind = 6 -> q.name = p.name ++ [d] -> grpK c (k + 1) i = cylN c (k + 1) := fun d q eq h6 hn => by
     have hco : Jgm c q.name = k := by
       unfold Jgm
       rw [hn, List.dropLast_concat]
       exact Jih h e
     unfold grpK
     rw [eq]
     simp only
     rw [if_neg (by omega), if_neg (by omega), if_pos h6, hco, if_pos (by omega), Int.toNat_natCast]
   by_cases hb : swAt c (p.name ++ [49]) = i
   . rw [if_pos hb]
     obtain ⟨q, a1, a2, a3⟩ := hsw _ hb
     rw [hlim _ q a1 a2 a3]
   . rw [if_neg hb]
     by_cases ha : swAt c (p.name ++ [48]) = i
     . rw [if_pos ha]
       obtain ⟨q, a1, a2, a3⟩ := hsw _ ha
       rw [hlim _ q a1 a2 a3]
     . rw [if_neg ha]
       by_cases hik : k = i
       . subst hik
         rw [if_pos rfl, if_pos hk]
         unfold grpK
         rw [e]
         simp [h1]
       . rw [if_neg hik]
         congr 1
         unfold grpK
         cases ei : c.parts[i]? with
         | none => rfl
         | some q =>
           simp only
           by_cases hq1 : q.kind = 1
           . rw [if_pos hq1, if_pos hq1]
             by_cases hik : i < k
             . rw [if_pos (by omega), if_pos hik]
             . rw [if_neg (by omega), if_neg hik]
           . rw [if_neg hq1, if_neg hq1]
             by_cases hq0 : q.kind = 0
             . rw [if_pos hq0, if_pos hq0]
               by_cases hik : i < k
               . rw [if_pos (by omega), if_pos hik]
               . rw [if_neg (by omega), if_neg hik]
             . rw [if_neg hq0, if_neg hq0]
               by_cases hq6 : q.kind = 6
               . rw [if_pos hq6, if_pos hq6]
                 obtain ⟨j, p', d, hj, ej, hk1, hn, hd⟩ := Jn4 h ei hq6
                 have hjk : j ≠ k := fun hjk => by
                   subst hjk
                   rw [e] at ej; cases ej
                   have hne : swAt c (p.name ++ [d]) ≠ i := by rcases hd with rfl | rfl <;> assumption
                   rcases Jte h e d with ⟨_, h2⟩ | ⟨i', q', h2, h3, h4, h5⟩
                   . exact h2 i q ei hq6 hn
                   . have h6 := Jih h ei
                     have h7 := Jih h h3
                     rw [hn] at h6
                     rw [h5, h6] at h7
                     exact hne (by omega)
                 rw [hj]
                 by_cases hjk2 : j < k
                 . rw [if_pos (by omega), if_pos (by omega)]
                 . rw [if_neg (by omega), if_neg (by omega)]
               . rw [if_neg hq6, if_neg hq6]
 . rw [List.getElem?_eq_none (by rw [Jcy]; omega), List.getElem?_eq_none (by rw [Jo5, Jo5, List.length_set, Jcy]; omega)]
end Go.Am
namespace Go.Am
open Go Go.Proofs Go.Pn
theorem Jyy {g h : List Int} (e : ∀ k : Int, gAt g k = gAt h k) : ∀ {ks : List Int} {x : Int}, minG g ks x = minG h ks x
 | [], _ => rfl
 | k :: ks, x => by rw [Jrp, Jrp, e k]; exact Jyy e
def padT (g : List Int) (m : Nat) : List Int := g ++ List.replicate (m - g.length) (-1)
theorem Jju {g : List Int} {m : Nat} (h : g.length <= m) : (padT g m).length = m := by simp [padT]; omega
theorem Jog {g : List Int} {m i : Nat} (h : i < m) : (padT g m)[i]? = some (gAt g i) := by
 unfold padT
 by_cases hi : i < g.length
 . rw [List.getElem?_append_left hi, List.getElem?_eq_getElem hi, Jd3 (List.getElem?_eq_getElem hi)]
 . have e : g[i]? = none := List.getElem?_eq_none (by omega)
   rw [List.getElem?_append_right (by omega), List.getElem?_replicate, if_pos (by omega)]
   simp only [gAt, Int.toNat_natCast, e]
theorem Jq8 {g : List Int} {i : Nat} (h : g.length <= i) : gAt g i = -1 := by simp only [gAt, Int.toNat_natCast, List.getElem?_eq_none h]
theorem Jw9 {g : List Int} {m : Nat} (h : g.length <= m) (k : Int) : gAt (padT g m) k = gAt g k := by
 unfold gAt
 by_cases hk : k.toNat < m
 . rw [Jog hk]
   simp only [gAt, Int.toNat_natCast]
 . rw [List.getElem?_eq_none (by rw [Jju h]; omega), List.getElem?_eq_none (by omega)]
theorem Kb9 {A : Nat -> List Int} {g : List Int} {n m : Nat} (hn : n <= g.length) (h : g.length <= m) : Jbi A (padT g m) n = padT (Jbi A g n) m := by
 apply List.ext_getElem?
 intro i
 by_cases hi : i < m
 . rw [Jfk (by rw [Jju h]; exact hi), Jog hi, Jw9 h, Jyy (Jw9 h)]
   by_cases hg : i < g.length
   . rw [Jd3 (Jfk hg)]
   . rw [if_neg (by omega), Jq8 (by omega), Jq8 (by rw [Jep]; omega)]
 . rw [List.getElem?_eq_none (by rw [Jep, Jju h]; omega), List.getElem?_eq_none (by rw [Jju (by rw [Jep]; exact h)]; omega)]
theorem Jxz {A : Nat -> List Int} {g : List Int} {n m : Nat} (hn : n <= g.length) (h : g.length <= m) : ∀ {k : Nat}, Ja9 A n (padT g m) k = padT (Ja9 A n g k) m
 | 0 => rfl
 | k + 1 => by rw [Ja9, Jxz hn h, Kb9 (by rw [Jk8]; exact hn) (by rw [Jk8]; exact h)]; rfl
theorem J90 {A : Nat -> List Int} {g : List Int} {n : Nat} {m : Nat} (h : g.length <= m) : Ja9 A n g m = endT A n g := by
 have h0 : ∃ k, k <= g.length /\ Jbi A (Ja9 A n g k) n = Ja9 A n g k := by
   apply Classical.byContradiction
   intro hn
   have h1 := @Jnx A n g (g.length + 1) fun j hj he => hn ⟨j, by omega, he⟩
   have h2 := @Jrv g
   omega
 obtain ⟨k, hk, he⟩ := h0
 have h1 := Jnw he (m - k)
 have h2 := Jnw he (g.length - k)
 rw [show k + (m - k) = m by omega] at h1
 rw [show k + (g.length - k) = g.length by omega] at h2
 unfold endT
 rw [h1, h2]
theorem J7e {A : Nat -> List Int} {g : List Int} {n m : Nat} (hn : n <= g.length) (h : g.length <= m) : endT A n (padT g m) = padT (endT A n g) m := by
 have e : endT A n (padT g m) = Ja9 A n (padT g m) m := by unfold endT; rw [Jju h]
 rw [e, Jxz hn h, J90 h]
theorem J7d {A : Nat -> List Int} {g : List Int} {n : Nat} : (endT A n g).length = g.length := Jk8
theorem Kb6 {A B : Nat -> List Int} {g : List Int} {n : Nat} (h : ∀ i, i < n -> ∀ k, k ∈ A i ↔ k ∈ B i) : Jbi A g n = Jbi B g n := by
 unfold Jbi
 apply List.map_congr_left
 intro i _
 by_cases hi : i < n /\ gAt g i = -1
 . rw [if_pos hi, if_pos hi]; exact Kbl (h i hi.1)
 . rw [if_neg hi, if_neg hi]
theorem Jxw {A B : Nat -> List Int} {g : List Int} {n : Nat} (h : ∀ i, i < n -> ∀ k, k ∈ A i ↔ k ∈ B i) : ∀ {k : Nat}, Ja9 A n g k = Ja9 B n g k
 | 0 => rfl
 | k + 1 => by rw [Ja9, Ja9, Jxw h, Kb6 h]
theorem J7c {A B : Nat -> List Int} {g : List Int} {n : Nat} (h : ∀ i, i < n -> ∀ k, k ∈ A i ↔ k ∈ B i) : endT A n g = endT B n g := Jxw h
theorem J7z {c : Circuit} {k m : Nat} (h : c.parts.length <= m) : firstT c m k = padT (firstT c c.parts.length k) m := by
 apply List.ext_getElem?
 intro i
 by_cases hi : i < m
 . rw [Jjc hi, Jog hi]
   by_cases hp : i < c.parts.length
   . rw [Jd3 (Jjc hp)]
   . rw [Jq8 (by rw [Jcy]; omega)]
     unfold grpK
     rw [List.getElem?_eq_none (by omega)]
 . rw [List.getElem?_eq_none (by rw [Jcy]; omega), List.getElem?_eq_none (by rw [Jju (by rw [Jcy]; exact h)]; omega)]
def actP (c : Circuit) (i : Int) (p : Port) : List Int := if decide (p.part = i) && Jfg c p then (Jfm c (around c p) false).map (·.part) else []
def actK (c : Circuit) (i : Int) : List Int := (allP c).flatMap (actP c i) ++ (limL c i).filter fun x => decide (0 <= x)
theorem Jyt {c : Circuit} {i x : Int} : x ∈ actK c i ↔ x ∈ dirL c i := by
 unfold actK dirL
 rw [Jyw, Jyu, List.mem_append, List.mem_filter, List.mem_flatMap]
 simp only [List.not_mem_nil, false_or, decide_eq_true_eq]
 have e : (∃ p ∈ allP c, x ∈ actP c i p) ↔ ∃ p ∈ allP c, p.part = i /\ Jfg c p = true /\ ∃ q ∈ Jfm c (around c p) false, q.part = x := by
   constructor
   . rintro ⟨p, hp, hx⟩
     unfold actP at hx
     by_cases h : (decide (p.part = i) && Jfg c p) = true
     . rw [if_pos h] at hx
       simp only [Bool.and_eq_true, decide_eq_true_eq] at h
       obtain ⟨q, hq, hqx⟩ := List.mem_map.1 hx
       exact ⟨p, hp, h.1, h.2, q, hq, hqx⟩
     . rw [if_neg h] at hx; cases hx
   . rintro ⟨p, hp, h1, h2, q, hq, hqx⟩
     refine ⟨p, hp, ?_⟩
     unfold actP
     rw [if_pos (by simp [h1, h2])]
     exact List.mem_map.2 ⟨q, hq, hqx⟩
 rw [e]
def rawG (c : Circuit) : List Int := endT (fun i => dirL c (i : Int)) c.parts.length (firstT c c.parts.length c.parts.length)
def Jfh (c : Circuit) : List Int := (rawG c).map fun x => max x 0
theorem Jsg {c : Circuit} : (rawG c).length = c.parts.length := by unfold rawG; rw [J7d, Jcy]
theorem Jra {c : Circuit} : (Jfh c).length = c.parts.length := by unfold Jfh; rw [List.length_map, Jsg]
theorem J7f {c : Circuit} {m : Nat} (h : c.parts.length <= m) : endT (fun i => actK c (i : Int)) c.parts.length (firstT c m c.parts.length) = padT (rawG c) m := by
 rw [J7z h, J7e (by rw [Jcy]; exact Nat.le_refl _) (by rw [Jcy]; exact h)]
 unfold rawG
 rw [J7c fun i _ k => Jyt]
end Go.Am
namespace Go.Am
open Go Go.Proofs Go.Pn
theorem Jz6 {c : Circuit} (h : Jad c = 0) {i : Nat} {q : Part} (e : c.parts[i]? = some q) : 0 <= q.kind /\ q.kind < 14 := (Jbg h).1 q (List.mem_of_getElem? e)
theorem Jrr {c : Circuit} {i : Nat} {q : Part} (e : c.parts[i]? = some q) : nameAt c i = q.name := by unfold nameAt; rw [Int.toNat_natCast, e]
theorem Jrj {c : Circuit} {i : Nat} {q : Part} (e : c.parts[i]? = some q) : Jal c i = q.kind := by unfold Jal; rw [Int.toNat_natCast, e]; rfl
end Go.Am
namespace Go.Am
open Go Go.Proofs Go.Pn
structure Lbl where
 grp : Int
 ltr : Txt
 num : Int
deriving DecidableEq
@[simp] def Lbl.av (x : Lbl) : AV := .agg [.p (.int .i64 x.grp), .p (.str x.ltr), .p (.int .i64 x.num)]
@[simp] def Lbl.enc (x : Lbl) : List PV := [.int .i64 x.grp, .str x.ltr, .int .i64 x.num]
@[simp] def Lbl.row_ (x : Lbl) : List AV := [.p (.int .i64 x.grp), .p (.str x.ltr), .p (.int .i64 x.num)]
def Jgt (k : Int) : Txt := if k = 0 then [90] else if k = 1 then [65] else if k = 6 \/ k = 7 then [83] else [86]
def keyG (c : Circuit) (i : Nat) : Int × Txt := (gAt (Jfh c) i, Jgt (Jal c i))
def cntG (c : Circuit) (y : Int × Txt) (i : Nat) : Nat := (List.range i).countP fun k => decide (keyG c k = y)
theorem Jm9 {c : Circuit} {y : Int × Txt} {i : Nat} : cntG c y (i + 1) = cntG c y i + if keyG c i = y then 1 else 0 := by
 unfold cntG
 rw [List.range_succ, List.countP_append]
 by_cases h : keyG c i = y <;> simp [h]
theorem Jwk {c : Circuit} {y : Int × Txt} {i : Nat} : cntG c y i <= i := by
 have := @List.countP_le_length _ (fun k => decide (keyG c k = y)) (List.range i)
 rw [List.length_range] at this
 exact this
theorem Jwl {c : Circuit} {y : Int × Txt} {i : Nat} : ∀ {d : Nat}, cntG c y i <= cntG c y (i + d)
 | 0 => Nat.le_refl _
 | d + 1 => by
   have := @Jwl c y i d
   rw [show i + (d + 1) = (i + d) + 1 from rfl, Jm9]
   omega
def lblN (c : Circuit) (i : Nat) : Lbl := ⟨(keyG c i).1, (keyG c i).2, ((cntG c (keyG c i) i : Nat) : Int) + 1⟩
def Je2 (c : Circuit) (k : Nat) : List Lbl := (List.range k).map (lblN c)
def Je1 (c : Circuit) : List Lbl := Je2 c c.parts.length
theorem Jx8 {c : Circuit} {k : Nat} : (Je2 c k).length = k := by simp [Je2]
theorem Kam {c : Circuit} {k : Nat} : Je2 c (k + 1) = Je2 c k ++ [lblN c k] := by unfold Je2; rw [List.range_succ, List.map_append]; rfl
theorem Jx7 {c : Circuit} {n k : Nat} (h : k < n) : (Je2 c n)[k]? = some (lblN c k) := by simp [Je2, h]
theorem Kal {c : Circuit} : (Je1 c).length = c.parts.length := Jx8
theorem Jyd {c : Circuit} {i j : Nat} (h : i < j) : lblN c i ≠ lblN c j := by
 intro e
 have h1 : keyG c i = keyG c j := by
   have a := congrArg Lbl.grp e
   have b := congrArg Lbl.ltr e
   exact Prod.ext a b
 have h2 := congrArg Lbl.num e
 simp only [lblN] at h2
 rw [h1] at h2
 obtain ⟨d, hd⟩ : ∃ d, j = (i + 1) + d := ⟨j - (i + 1), by omega⟩
 have h3 := @Jwl c (keyG c j) (i + 1) d
 rw [<- hd, Jm9, if_pos h1] at h3
 omega
theorem Kaq {c : Circuit} {i j : Nat} (e : lblN c i = lblN c j) : i = j := by
 rcases Nat.lt_trichotomy i j with h | h | h
 . exact absurd e (Jyd h)
 . exact h
 . exact absurd e.symm (Jyd h)
def Jbd (a b : Lbl) : Bool := if a.grp ≠ b.grp then decide (a.grp < b.grp) else if a.ltr ≠ b.ltr then Op.bytesLess a.ltr b.ltr else decide (a.num < b.num)
theorem Jrk (a : Lbl) : Jbd a a = false := by simp [Jbd]
theorem Jyc {a b c : Lbl} (h : Jbd a b = true) (k : Jbd b c = true) : Jbd a c = true := by
 unfold Jbd at *
 by_cases h1 : a.grp = b.grp
 . rw [if_neg (by simpa using h1)] at h
   by_cases h2 : b.grp = c.grp
   . rw [if_neg (by simpa using h2)] at k
     rw [if_neg (by simpa using h1.trans h2)]
     by_cases h3 : a.ltr = b.ltr
     . rw [if_neg (by simpa using h3)] at h
       by_cases h4 : b.ltr = c.ltr
       . rw [if_neg (by simpa using h4)] at k
         rw [if_neg (by simpa using h3.trans h4)]
         simp only [decide_eq_true_eq] at h k ⊢
         omega
       . rw [if_pos h4] at k
         rw [h3, if_pos h4]
         exact k
     . rw [if_pos h3] at h
       by_cases h4 : b.ltr = c.ltr
       . rw [<- h4, if_pos h3]; exact h
       . rw [if_pos h4] at k
         have h5 := Jh1 h k
         rw [if_pos (fun e => by rw [e, Jdm] at h5; cases h5)]
         exact h5
   . rw [if_pos h2] at k
     rw [h1, if_pos h2]
     exact k
 . rw [if_pos h1] at h
   simp only [decide_eq_true_eq] at h
   by_cases h2 : b.grp = c.grp
   . rw [<- h2, if_pos h1]; simpa using h
   . rw [if_pos h2] at k
     simp only [decide_eq_true_eq] at k
     rw [if_pos (by omega)]
     simp only [decide_eq_true_eq]
     omega
theorem Jya {a b : Lbl} (h : Jbd a b = true) : Jbd b a = false := by
 cases k : Jbd b a with
 | false => rfl
 | true => have := Jyc h k; rw [Jrk] at this; cases this
def Jou (c : Circuit) (i : Nat) : Nat := (List.range c.parts.length).countP fun k => Jbd (lblN c k) (lblN c i)
theorem J0w {c : Circuit} {s : List Nat} (hp : s.Perm (List.range c.parts.length)) (hs : s.Pairwise fun a b => Jbd (lblN c a) (lblN c b) = true) {m i : Nat} (e : s[m]? = some i) : Jou c i = m := by
 obtain ⟨hm, he⟩ := gsI.1 e
 unfold Jou
 rw [<- hp.countP_eq]
 have hsp : s = s.take m ++ s[m] :: s.drop (m + 1) := by
   rw [List.getElem_cons_drop, List.take_append_drop]
 rw [he] at hsp
 rw [hsp] at hs ⊢
 rw [List.pairwise_append] at hs
 obtain ⟨_, h2, h3⟩ := hs
 rw [List.pairwise_cons] at h2
 rw [List.countP_append, List.countP_cons]
 have e1 : (s.take m).countP (fun k => Jbd (lblN c k) (lblN c i)) = (s.take m).length := by
   rw [List.countP_eq_length]
   intro a ha
   exact h3 a ha i (by simp)
 have e2 : (s.drop (m + 1)).countP (fun k => Jbd (lblN c k) (lblN c i)) = 0 := by
   rw [List.countP_eq_zero]
   intro a ha
   rw [Jya (h2.1 a ha)]
   simp
 rw [e1, e2, Jrk]
 simp
 omega
def Jht (c : Circuit) (m : Nat) : List Nat := (List.range c.parts.length).filter fun i => decide (Jou c i = m)
theorem Ke4 {c : Circuit} {s : List Nat} (hp : s.Perm (List.range c.parts.length)) (hs : s.Pairwise fun a b => Jbd (lblN c a) (lblN c b) = true) {m i : Nat} (e : s[m]? = some i) : Jht c m = [i] := by
 have hnd : (Jht c m).Nodup := List.Nodup.sublist List.filter_sublist List.nodup_range
 have hmem : ∀ j, j ∈ Jht c m ↔ j = i := by
   intro j
   unfold Jht
   rw [List.mem_filter, <- hp.mem_iff]
   simp only [decide_eq_true_eq]
   constructor
   . rintro ⟨hj, hr⟩
     obtain ⟨m', e'⟩ := List.mem_iff_getElem?.1 hj
     have h1 := J0w hp hs e'
     rw [hr] at h1
     subst h1
     rw [e] at e'
     simpa using e'.symm
   . rintro rfl
     exact ⟨List.mem_of_getElem? e, J0w hp hs e⟩
 have hperm : (Jht c m).Perm [i] := (List.perm_ext_iff_of_nodup hnd (by simp)).2 fun j => by rw [hmem]; simp
 exact List.perm_singleton.1 hperm
def Jdi (c : Circuit) : List Nat := (List.range c.parts.length).flatMap (Jht c)
theorem Kd5 {c : Circuit} {s : List Nat} (hp : s.Perm (List.range c.parts.length)) (hs : s.Pairwise fun a b => Jbd (lblN c a) (lblN c b) = true) : Jdi c = s := by
 have hl : s.length = c.parts.length := by rw [hp.length_eq, List.length_range]
 have h : ∀ (n : Nat), n <= s.length -> (List.range n).flatMap (Jht c) = s.take n := by
   intro n
   induction n with
   | zero => simp
   | succ n ih =>
     intro hn
     obtain ⟨i, e⟩ := Jae (show n < s.length by omega)
     rw [List.range_succ, List.flatMap_append, ih (by omega), take_snoc e]
     simp [Ke4 hp hs e]
 unfold Jdi
 rw [<- hl, h s.length (Nat.le_refl _), List.take_length]
end Go.Am
namespace Go.Am
open Go Go.Proofs Go.Pn
def digN (n : Nat) : Txt := if n < 10 then [UInt8.ofNat (48 + n)] else [UInt8.ofNat (48 + n / 10), UInt8.ofNat (48 + n % 10)]
theorem J60 {n : Nat} (h : n < 100) : Lib.decDigits n = digN n := by
 unfold digN
 by_cases h1 : n < 10
 . rw [Lib.decDigits, dif_pos h1, if_pos h1]
 . rw [Lib.decDigits, dif_neg h1, if_neg h1, Lib.decDigits, dif_pos (by omega)]
   rfl
def chkL (x : Lbl) : Int := if x.grp < 0 \/ 64 < x.grp then 2 else if x.ltr ∉ [([65] : Txt), [83], [86], [90]] then 1 else if x.num < 1 \/ 64 < x.num then 2 else 0
theorem Jqn {x : Lbl} : chkL x = 0 ↔ (0 <= x.grp /\ x.grp <= 64) /\ x.ltr ∈ [([65] : Txt), [83], [86], [90]] /\ 1 <= x.num /\ x.num <= 64 := by
 unfold chkL
 by_cases h1 : x.grp < 0 \/ 64 < x.grp
 . rw [if_pos h1]; constructor
   . intro h; cases h
   . rintro ⟨h, _⟩; omega
 . rw [if_neg h1]
   by_cases h2 : x.ltr ∈ [([65] : Txt), [83], [86], [90]]
   . rw [if_neg (fun hn => hn h2)]
     by_cases h3 : x.num < 1 \/ 64 < x.num
     . rw [if_pos h3]; constructor
       . intro h; cases h
       . rintro ⟨_, _, h⟩; omega
     . rw [if_neg h3]
       exact ⟨fun _ => ⟨by omega, h2, by omega⟩, fun _ => rfl⟩
   . rw [if_pos h2]; constructor
     . intro h; cases h
     . rintro ⟨_, h, _⟩; exact absurd h h2
def Jiq (x : Lbl) : Txt := digN x.grp.toNat ++ (x.ltr ++ digN x.num.toNat)
def noL : Lbl := ⟨0, [], 0⟩
theorem Jyp {x : Lbl} (h : chkL x = 0) : ∃ b : UInt8, x.ltr = [b] /\ isDigit b = false /\ b ∈ ([65, 83, 86, 90] : Txt) := by
 obtain ⟨_, h2, _⟩ := Jqn.1 h
 simp only [List.mem_cons, List.not_mem_nil, or_false] at h2
 rcases h2 with h2 | h2 | h2 | h2
 . exact ⟨65, h2, by decide, by simp⟩
 . exact ⟨83, h2, by decide, by simp⟩
 . exact ⟨86, h2, by decide, by simp⟩
 . exact ⟨90, h2, by decide, by simp⟩
end Go.Am
namespace Go.Am
open Go Go.Proofs Go.Pn
def cmpS (a b : Txt) : Int := if Op.bytesLess a b then -1 else if Op.bytesLess b a then 1 else 0
def Jcw (a b : Lbl) : Int := orI [cmpI a.grp b.grp, cmpS a.ltr b.ltr, cmpI a.num b.num]
theorem Jyb {a b : Lbl} (h : Jbd a b = false) (k : Jbd b a = false) : a = b := by
 unfold Jbd at h k
 by_cases h1 : a.grp = b.grp
 . rw [if_neg (by simpa using h1)] at h
   rw [if_neg (by simpa using h1.symm)] at k
   by_cases h2 : a.ltr = b.ltr
   . rw [if_neg (by simpa using h2)] at h
     rw [if_neg (by simpa using h2.symm)] at k
     simp only [decide_eq_false_iff_not] at h k
     obtain ⟨g, l, n⟩ := a
     obtain ⟨g', l', n'⟩ := b
     simp only at h1 h2 h k
     have h3 : n = n' := by omega
     rw [h1, h2, h3]
   . rw [if_pos h2] at h
     rw [if_pos (fun e => h2 e.symm)] at k
     exact absurd (Jfz h k) h2
 . rw [if_pos h1] at h
   rw [if_pos (fun e => h1 e.symm)] at k
   simp only [decide_eq_false_iff_not] at h k
   omega
theorem Jwg (a : Int) : cmpI a a = 0 := by unfold cmpI; rw [if_neg (by omega), if_neg (by omega)]
theorem Jwf {a b : Int} (h : a < b) : cmpI a b = -1 := by unfold cmpI; rw [if_pos h]
theorem Jwe {a b : Int} (h : b < a) : cmpI a b = 1 := by unfold cmpI; rw [if_neg (by omega), if_pos h]
theorem J6w (a : Txt) : cmpS a a = 0 := by unfold cmpS; rw [Jdm]; rfl
theorem Jm6 (a b : Lbl) : Jcw a b = if Jbd a b then -1 else if Jbd b a then 1 else 0 := by
 obtain ⟨g, l, n⟩ := a
 obtain ⟨g', l', n'⟩ := b
 unfold Jcw
 simp only [orI]
 unfold Jbd
 simp only
 by_cases h1 : g = g'
 . subst h1
   simp only [Jwg, ne_eq, not_true_eq_false, if_true, if_false]
   by_cases h2 : l = l'
   . subst h2
     simp only [J6w, not_true_eq_false, if_true, if_false]
     rcases Int.lt_trichotomy n n' with h3 | h3 | h3
     . rw [Jwf h3]; simp [h3]
     . subst h3; rw [Jwg]; simp
     . rw [Jwe h3]; simp [h3]; omega
   . have h2' : ¬ l' = l := fun e => h2 e.symm
     simp only [h2, h2', not_false_eq_true, if_true]
     unfold cmpS
     cases h3 : Op.bytesLess l l' with
     | true => simp
     | false =>
       cases h4 : Op.bytesLess l' l with
       | true => simp
       | false => exact absurd (Jfz h3 h4) h2
 . rw [if_pos h1, if_pos (fun e => h1 e.symm)]
   by_cases h2 : g < g'
   . rw [Jwf h2]; simp [h2]
   . have h3 : g' < g := by omega
     rw [Jwe h3]; simp [h3]; omega
theorem J6u {a b : Lbl} : Jcw a b = 0 ↔ a = b := by
 rw [Jm6]
 constructor
 . intro h
   cases h1 : Jbd a b with
   | true => rw [h1] at h; simp at h
   | false =>
     cases h2 : Jbd b a with
     | true => rw [h1, h2] at h; simp at h
     | false => exact Jyb h1 h2
 . rintro rfl
   rw [Jrk]; rfl
theorem Jm8 (a b : Lbl) : Jcw a b = -Jcw b a := by
 rw [Jm6, Jm6]
 cases h1 : Jbd a b with
 | true => rw [Jya h1]; simp
 | false => cases h2 : Jbd b a <;> simp
theorem Jm7 {a b : Lbl} : Jcw a b < 0 ↔ Jbd a b = true := by
 rw [Jm6]
 cases h1 : Jbd a b with
 | true => simp
 | false => cases h2 : Jbd b a <;> simp
theorem J6t {a b c : Lbl} (h : Jcw a b <= 0) (k : Jcw b c <= 0) : Jcw a c <= 0 := by
 have e : ∀ {x y : Lbl}, Jcw x y <= 0 -> Jcw x y < 0 \/ x = y := fun {x y} hxy => by
   by_cases h0 : Jcw x y = 0
   . exact .inr (J6u.1 h0)
   . exact .inl (by omega)
 rcases e h with h1 | rfl
 . rcases e k with h2 | rfl
   . have := Jm7.2 (Jyc (Jm7.1 h1) (Jm7.1 h2)); omega
   . omega
 . exact k
end Go.Am
namespace Go.Am
open Go Go.Proofs Go.Pn
def Je7 (l : List Int) (j : Nat) : List Int := (l.set (j + 1) (l[j]?.getD 0)).set j (l[j + 1]?.getD 0)
def Jda (lt : Int -> Int -> Bool) (l : List Int) : Nat -> List Int
 | 0 => l
 | j + 1 => if lt (l[j + 1]?.getD 0) (l[j]?.getD 0) then Jda lt (Je7 l j) j else l
def Jel (lt : Int -> Int -> Bool) : Nat -> List Int -> Nat -> List Int
 | 0, l, _ => l
 | f + 1, l, i => Jel lt f (Jda lt l i) (i + 1)
def Jdg (lt : Int -> Int -> Bool) (l : List Int) : List Int := Jel lt (l.length - 1) l 1
theorem Jpa {l : List Int} {j : Nat} : (Je7 l j).length = l.length := by simp [Je7]
theorem Jlw {lt : Int -> Int -> Bool} : ∀ {j : Nat} {l : List Int}, (Jda lt l j).length = l.length
 | 0, l => rfl
 | j + 1, l => by
   unfold Jda
   split
   . rw [Jlw, Jpa]
   . rfl
theorem Jnk {lt : Int -> Int -> Bool} : ∀ {f : Nat} {l : List Int} {i : Nat}, (Jel lt f l i).length = l.length
 | 0, l, i => rfl
 | f + 1, l, i => by simp only [Jel]; rw [Jnk, Jlw]
theorem Jxu {lt : Int -> Int -> Bool} {l : List Int} : (Jdg lt l).length = l.length := Jnk
theorem Jtf {l : List Int} {j i : Nat} {x y : Int} (h1 : l[j]? = some x) (h2 : l[j + 1]? = some y) : (Je7 l j)[i]? = if i = j then some y else if i = j + 1 then some x else l[i]? := by
 have hj := (gsI.1 h2).1
 unfold Je7
 rw [h1, h2, List.getElem?_set, List.getElem?_set, List.length_set]
 simp only [Option.getD_some]
 by_cases e1 : i = j
 . subst e1; rw [if_pos rfl, if_pos (by omega), if_pos rfl]
 . rw [if_neg (fun e => e1 e.symm), if_neg e1]
   by_cases e2 : i = j + 1
   . subst e2; rw [if_pos rfl, if_pos hj, if_pos rfl]
   . rw [if_neg (fun e => e2 e.symm), if_neg e2]
theorem J12 {l : List Int} {j : Nat} {x y : Int} (h1 : l[j]? = some x) (h2 : l[j + 1]? = some y) : (Je7 l j).Perm l := by
 have hj := (gsI.1 h2).1
 have e1 : l = l.take j ++ x :: y :: l.drop (j + 2) := by
   have a : l.drop j = x :: l.drop (j + 1) := by rw [List.drop_eq_getElem_cons (by omega)]; rw [List.getElem?_eq_getElem (by omega)] at h1; cases h1; rfl
   have b : l.drop (j + 1) = y :: l.drop (j + 2) := by rw [List.drop_eq_getElem_cons hj]; rw [List.getElem?_eq_getElem hj] at h2; cases h2; rfl
   rw [<- b, <- a, List.take_append_drop]
 have e2 : Je7 l j = l.take j ++ y :: x :: l.drop (j + 2) := by
   apply List.ext_getElem?
   intro i
   rw [Jtf h1 h2]
   have hl : (l.take j).length = j := by simp; omega
   by_cases a : i = j
   . subst a; rw [if_pos rfl, List.getElem?_append_right (by omega), hl]; simp
   . rw [if_neg a]
     by_cases b : i = j + 1
     . subst b; rw [if_pos rfl, List.getElem?_append_right (by omega), hl]; simp
     . rw [if_neg b]
       by_cases c : i < j
       . rw [List.getElem?_append_left (by omega), List.getElem?_take_of_lt c]
       . rw [List.getElem?_append_right (by omega), hl]
         obtain ⟨d, hd⟩ : ∃ d, i = j + 2 + d := ⟨i - (j + 2), by omega⟩
         subst hd
         rw [show j + 2 + d - j = d + 2 by omega]
         simp [List.getElem?_drop]
 rw [e2]
 conv => rhs; rw [e1]
 exact List.Perm.append_left _ (List.Perm.swap ..)
theorem J1k {lt : Int -> Int -> Bool} : ∀ {j : Nat} {l : List Int}, j < l.length -> (Jda lt l j).Perm l
 | 0, l, _ => .refl _
 | j + 1, l, h => by
   obtain ⟨x, h1⟩ := Jae (xs := l) (k := j) (by omega)
   obtain ⟨y, h2⟩ := Jae (xs := l) (k := j + 1) h
   unfold Jda
   split
   . exact (J1k (by rw [Jpa]; omega)).trans (J12 h1 h2)
   . exact .refl _
theorem Jw4 {lt : Int -> Int -> Bool} : ∀ {f : Nat} {l : List Int} {i : Nat}, i + f <= l.length -> (Jel lt f l i).Perm l
 | 0, l, i, _ => .refl _
 | f + 1, l, i, h => by
   simp only [Jel]
   exact (Jw4 (by rw [Jlw]; omega)).trans (J1k (by omega))
theorem J9u {lt : Int -> Int -> Bool} {l : List Int} : (Jdg lt l).Perm l := by
 unfold Jdg
 cases l with
 | nil => exact .refl _
 | cons a l => exact Jw4 (by simp; omega)
structure LtOk (lt : Int -> Int -> Bool) : Prop where
 asymm : ∀ x y, lt x y = true -> lt y x = false
 ntrans : ∀ x y z, lt y x = false -> lt z y = false -> lt z x = false
def UpTo (lt : Int -> Int -> Bool) (q : List Int) (i : Nat) : Prop := ∀ (a b : Nat) x y, a < b -> b <= i -> q[a]? = some x -> q[b]? = some y -> lt y x = false
theorem J1m {lt : Int -> Int -> Bool} (ho : LtOk lt) {i : Nat} : ∀ {j : Nat} {q : List Int}, j <= i -> i < q.length -> (∀ (a b : Nat) x y, a < b -> b <= i -> a ≠ j -> b ≠ j -> q[a]? = some x -> q[b]? = some y -> lt y x = false) ->
   (∀ (b : Nat) x y, j < b -> b <= i -> q[j]? = some x -> q[b]? = some y -> lt y x = false) -> UpTo lt (Jda lt q j) i
 | 0, q, _, _, h1, h2 => by
   intro a b x y hab hb hx hy
   simp only [Jda] at hx hy
   by_cases ha : a = 0
   . subst ha; exact h2 b x y hab hb hx hy
   . exact h1 a b x y hab hb ha (by omega) hx hy
 | j + 1, q, hj, hi, h1, h2 => by
   obtain ⟨u, e1⟩ := Jae (xs := q) (k := j) (by omega)
   obtain ⟨v, e2⟩ := Jae (xs := q) (k := j + 1) (by omega)
   have e1' : q[j]?.getD 0 = u := by rw [e1]; rfl
   have e2' : q[j + 1]?.getD 0 = v := by rw [e2]; rfl
   unfold Jda
   rw [e1', e2']
   by_cases hlt : lt v u = true
   . rw [if_pos hlt]
     refine J1m ho (by omega) (by rw [Jpa]; exact hi) (fun a b x y hab hb ha hb2 hx hy => ?_) (fun b x y hb hbi hx hy => ?_)
     . rw [Jtf e1 e2] at hx hy
       rw [if_neg ha] at hx
       rw [if_neg hb2] at hy
       by_cases a1 : a = j + 1
       . rw [if_pos a1] at hx; cases hx
         rw [if_neg (by omega)] at hy
         exact h1 j b u y (by omega) hb (by omega) (by omega) e1 hy
       . rw [if_neg a1] at hx
         by_cases b1 : b = j + 1
         . rw [if_pos b1] at hy; cases hy
           exact h1 a j x u (by omega) (by omega) a1 (by omega) hx e1
         . rw [if_neg b1] at hy
           exact h1 a b x y hab hb a1 b1 hx hy
     . rw [Jtf e1 e2] at hx hy
       rw [if_pos rfl] at hx; cases hx
       rw [if_neg (by omega)] at hy
       by_cases b1 : b = j + 1
       . rw [if_pos b1] at hy; cases hy
         exact ho.asymm _ _ hlt
       . rw [if_neg b1] at hy
         exact h2 b v y (by omega) hbi e2 hy
   . rw [if_neg hlt]
     have hf : lt v u = false := by simpa using hlt
     intro a b x y hab hb hx hy
     by_cases a1 : a = j + 1
     . subst a1; rw [e2] at hx; cases hx
       exact h2 b v y hab hb e2 hy
     . by_cases b1 : b = j + 1
       . subst b1; rw [e2] at hy; cases hy
         by_cases a2 : a = j
         . subst a2; rw [e1] at hx; cases hx; exact hf
         . exact ho.ntrans _ _ _ (h1 a j x u (by omega) (by omega) a1 (by omega) hx e1) hf
       . exact h1 a b x y hab hb a1 b1 hx hy
theorem Jw5 {lt : Int -> Int -> Bool} (ho : LtOk lt) : ∀ {f : Nat} {q : List Int} {i : Nat}, 1 <= i -> i + f = q.length -> UpTo lt q (i - 1) -> UpTo lt (Jel lt f q i) (q.length - 1)
 | 0, q, i, _, h, hu => by
   simp only [Jel]
   rw [<- h]; exact hu
 | f + 1, q, i, h1, h, hu => by
   simp only [Jel]
   have h2 : UpTo lt (Jda lt q i) i := J1m ho (Nat.le_refl _) (by omega) (fun a b x y hab hb ha hb2 hx hy => hu a b x y hab (by omega) hx hy) (fun b x y hb hbi => by omega)
   have := Jw5 ho (f := f) (q := Jda lt q i) (i := i + 1) (by omega) (by rw [Jlw]; omega) h2
   rw [Jlw] at this
   exact this
theorem J9v {lt : Int -> Int -> Bool} (ho : LtOk lt) {l : List Int} : (Jdg lt l).Pairwise fun x y => lt y x = false := by
 rw [List.pairwise_iff_getElem]
 intro a b ha hb hab
 rw [Jxu] at ha hb
 have hl : 0 < l.length := by omega
 have h := @Jw5 lt ho (l.length - 1) l 1 (by omega) (by omega) (fun a b x y hab hb => by omega)
 exact h a b _ _ hab (by omega) (List.getElem?_eq_getElem (by rw [Jnk]; exact ha)) (List.getElem?_eq_getElem (by rw [Jnk]; exact hb))
end Go.Am
