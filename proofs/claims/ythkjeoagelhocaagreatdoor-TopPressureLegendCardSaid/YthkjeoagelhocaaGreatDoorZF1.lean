/- Lemmas and contracts for the proof of a statement of this seat. -/
import Derived.Test.YthkjeoagelhocaaGreatDoorZC1
import Derived.Test.YthkjeoagelhocaaGreatDoorZCQ
import Derived.Test.YthkjeoagelhocaaGreatDoorZCP
import Derived.Lib.AtoiAll
import Derived.Lib.IndexAny
import Derived.Lib.ItoaNum
import Derived.Test.YthkjeoagelhocaaGreatDoorZCA
import Derived.Test.YthkjeoagelhocaaGreatDoorZA5
import Derived.Test.YthkjeoagelhocaaGreatDoorZCX
import Derived.Test.YthkjeoagelhocaaGreatDoorZC7
import Derived.Test.YthkjeoagelhocaaGreatDoorZA7
set_option linter.unusedVariables false
set_option linter.unusedSimpArgs false
namespace Go.Am
open Go Go.Proofs Go.Pn
def gAt (g : List Int) (k : Int) : Int := match g[k.toNat]? with | some x => x | none => -1
def minG (g : List Int) (ks : List Int) (x : Int) : Int := ks.foldl (fun x k => if 1 <= gAt g k /\ (x = -1 \/ gAt g k < x) then gAt g k else x) x
theorem Jrb {g : List Int} {k : Int} {ks : List Int} {x : Int} : minG g (k :: ks) x = minG g ks (if 1 <= gAt g k /\ (x = -1 \/ gAt g k < x) then gAt g k else x) := rfl
theorem Kb4 {g : List Int} {k : Int} {ks : List Int} {x : Int} : minG g (ks ++ [k]) x = if 1 <= gAt g k /\ (minG g ks x = -1 \/ gAt g k < minG g ks x) then gAt g k else minG g ks x := by
 unfold minG; rw [List.foldl_append]; rfl
def Jhh (S : Int -> Prop) (r : Int) : Prop := (r = -1 /\ ∀ y, ¬ S y) \/ (S r /\ ∀ y, S y -> r <= y)
theorem Jhh.unique {S T : Int -> Prop} {r s : Int} (h : Jhh S r) (k : Jhh T s) (hst : ∀ y, S y ↔ T y) : r = s := by
 rcases h with ⟨h1, h2⟩ | ⟨h1, h2⟩ <;> rcases k with ⟨k1, k2⟩ | ⟨k1, k2⟩
 . omega
 . exact absurd ((hst s).2 k1) (h2 s)
 . exact absurd ((hst r).1 h1) (k2 r)
 . have := h2 s ((hst s).2 k1); have := k2 r ((hst r).1 h1); omega
theorem Jyy {g : List Int} : ∀ {ks : List Int} {x : Int} {S : Int -> Prop}, Jhh S x -> (∀ y, S y -> 1 <= y) -> Jhh (fun y => S y \/ ∃ k ∈ ks, gAt g k = y /\ 1 <= y) (minG g ks x)
 | [], x, S, h, _ => by
   have e : (fun y => S y \/ ∃ k ∈ ([] : List Int), gAt g k = y /\ 1 <= y) = S := by funext y; simp
   rw [e]; exact h
 | k :: ks, x, S, h, hS => by
   rw [Jrb]
   have key : Jhh (fun y => S y \/ (gAt g k = y /\ 1 <= y)) (if 1 <= gAt g k /\ (x = -1 \/ gAt g k < x) then gAt g k else x) := by
     by_cases hc : 1 <= gAt g k /\ (x = -1 \/ gAt g k < x)
     . rw [if_pos hc]
       refine .inr ⟨.inr ⟨rfl, hc.1⟩, ?_⟩
       rintro y (hy | ⟨rfl, _⟩)
       . rcases h with ⟨h1, h2⟩ | ⟨h1, h2⟩
         . exact absurd hy (h2 y)
         . have := h2 y hy
           have := hS x h1
           omega
       . exact Int.le_refl _
     . rw [if_neg hc]
       rcases h with ⟨h1, h2⟩ | ⟨h1, h2⟩
       . refine .inl ⟨h1, ?_⟩
         rintro y (hy | ⟨rfl, hy⟩)
         . exact h2 y hy
         . exact hc ⟨hy, .inl h1⟩
       . refine .inr ⟨.inl h1, ?_⟩
         rintro y (hy | ⟨rfl, hy⟩)
         . exact h2 y hy
         . have := hS x h1
           omega
   have ih := Jyy (g := g) (ks := ks) key (by rintro y (hy | ⟨_, hy⟩); exact hS y hy; exact hy)
   have e : (fun y => S y \/ ∃ k' ∈ k :: ks, gAt g k' = y /\ 1 <= y) = (fun y => (S y \/ (gAt g k = y /\ 1 <= y)) \/ ∃ k' ∈ ks, gAt g k' = y /\ 1 <= y) := by
     funext y
     refine propext ⟨?_, ?_⟩
     . rintro (h | ⟨k', hk, h⟩)
       . exact .inl (.inl h)
       . rcases List.mem_cons.1 hk with rfl | hk
         . exact .inl (.inr h)
         . exact .inr ⟨k', hk, h⟩
     . rintro ((h | h) | ⟨k', hk, h⟩)
       . exact .inl h
       . exact .inr ⟨k, by simp, h⟩
       . exact .inr ⟨k', by simp [hk], h⟩
   rw [e]; exact ih
theorem Jkx {g : List Int} {ks : List Int} : Jhh (fun y => ∃ k ∈ ks, gAt g k = y /\ 1 <= y) (minG g ks (-1)) := by
 have := Jyy (g := g) (ks := ks) (x := -1) (S := fun _ => False) (.inl ⟨rfl, fun _ h => h⟩) (fun _ h => h.elim)
 have e : (fun y => False \/ ∃ k ∈ ks, gAt g k = y /\ 1 <= y) = (fun y => ∃ k ∈ ks, gAt g k = y /\ 1 <= y) := by funext y; simp
 rw [e] at this; exact this
theorem Kb3 {g : List Int} {ks ms : List Int} (h : ∀ k, k ∈ ks ↔ k ∈ ms) : minG g ks (-1) = minG g ms (-1) :=
 Jkx.unique Jkx fun y => by simp only [h]
theorem Jyz {g : List Int} {ks : List Int} (h : minG g ks (-1) ≠ -1) : 1 <= minG g ks (-1) := by
 rcases @Jkx g ks with ⟨h1, _⟩ | ⟨⟨_, _, _, h1⟩, _⟩
 . exact absurd h1 h
 . exact h1
def Jbd (A : Nat -> List Int) (g : List Int) (n : Nat) : List Int := (List.range g.length).map fun i => if i < n /\ gAt g i = -1 then minG g (A i) (-1) else gAt g i
theorem Jer {A : Nat -> List Int} {g : List Int} {n : Nat} : (Jbd A g n).length = g.length := by simp [Jbd]
theorem Jeq {A : Nat -> List Int} {g : List Int} {n i : Nat} (h : i < g.length) : (Jbd A g n)[i]? = some (if i < n /\ gAt g i = -1 then minG g (A i) (-1) else gAt g i) := by simp [Jbd, h]
theorem Jcf {g : List Int} {i : Nat} {x : Int} (e : g[i]? = some x) : gAt g (i : Int) = x := by simp only [gAt, Int.toNat_natCast, e]
theorem Kcx {A : Nat -> List Int} {g : List Int} : Jbd A g 0 = g := by
 apply List.ext_getElem?
 intro i
 by_cases h : i < g.length
 . rw [Jeq h, if_neg (by omega)]
   obtain ⟨x, e⟩ : ∃ x, g[i]? = some x := ⟨_, List.getElem?_eq_getElem h⟩
   rw [Jcf e, e]
 . rw [List.getElem?_eq_none (by rw [Jer]; omega), List.getElem?_eq_none (by omega)]
theorem Kcw {A : Nat -> List Int} {g : List Int} {n : Nat} (h : n < g.length) : Jbd A g (n + 1) = if gAt g n = -1 then (Jbd A g n).set n (minG g (A n) (-1)) else Jbd A g n := by
 apply List.ext_getElem?
 intro i
 by_cases hi : i < g.length
 . rw [Jeq hi]
   by_cases hn : gAt g n = -1
   . rw [if_pos hn, List.getElem?_set, Jer]
     by_cases e : n = i
     . subst e
       rw [if_pos ⟨by omega, hn⟩, if_pos rfl, if_pos h]
     . rw [if_neg e, Jeq hi]
       congr 1
       by_cases h2 : gAt g i = -1
       . by_cases h3 : i < n
         . rw [if_pos ⟨by omega, h2⟩, if_pos ⟨h3, h2⟩]
         . rw [if_neg (by omega), if_neg (by omega)]
       . rw [if_neg (fun h => h2 h.2), if_neg (fun h => h2 h.2)]
   . rw [if_neg hn, Jeq hi]
     congr 1
     by_cases e : i = n
     . subst e
       rw [if_neg (fun h => hn h.2), if_neg (fun h => hn h.2)]
     . by_cases h2 : gAt g i = -1
       . by_cases h3 : i < n
         . rw [if_pos ⟨by omega, h2⟩, if_pos ⟨h3, h2⟩]
         . rw [if_neg (by omega), if_neg (by omega)]
       . rw [if_neg (fun h => h2 h.2), if_neg (fun h => h2 h.2)]
 . have h2 : i ≥ (Jbd A g n).length := by rw [Jer]; omega
   rw [List.getElem?_eq_none (by rw [Jer]; omega)]
   split
   . rw [List.getElem?_eq_none (by rw [List.length_set]; exact h2)]
   . rw [List.getElem?_eq_none h2]
def Jes (g : List Int) : Nat := g.countP fun x => decide (x = -1)
theorem Jrk {g : List Int} : Jes g <= g.length := List.countP_le_length
theorem count_le {A B : List Int} (hl : A.length = B.length) (h : ∀ (i : Nat) a b, A[i]? = some a -> B[i]? = some b -> b = -1 -> a = -1) : Jes B <= Jes A /\ (Jes A = Jes B -> ∀ (i : Nat) a b, A[i]? = some a -> B[i]? = some b -> (a = -1 ↔ b = -1)) := by
 induction A generalizing B with
 | nil => cases B with | nil => simp [Jes] | cons => simp at hl
 | cons a A ih =>
   cases B with
   | nil => simp at hl
   | cons b B =>
     have ih := @ih B (by simpa using hl) fun i x y hx hy => h (i + 1) x y (by simpa using hx) (by simpa using hy)
     have h0 := h 0 a b rfl rfl
     unfold Jes at ih ⊢
     simp only [List.countP_cons, decide_eq_true_eq]
     refine ⟨by split <;> split <;> omega, fun hc i x y hx hy => ?_⟩
     have hab : a = -1 ↔ b = -1 := by
       refine ⟨fun ha => ?_, h0⟩
       by_cases hb : b = -1
       . exact hb
       . rw [if_pos ha, if_neg hb] at hc
         omega
     cases i with
     | zero => simp at hx hy; subst hx; subst hy; exact hab
     | succ i =>
       refine ih.2 ?_ i x y (by simpa using hx) (by simpa using hy)
       by_cases ha : a = -1
       . rw [if_pos ha, if_pos (hab.1 ha)] at hc; omega
       . rw [if_neg ha, if_neg (fun hb => ha (hab.2 hb))] at hc; omega
theorem Kcy {A : Nat -> List Int} {g : List Int} {n : Nat} (hne : Jbd A g n ≠ g) : Jes (Jbd A g n) < Jes g := by
 have hk : ∀ (i : Nat) a b, g[i]? = some a -> (Jbd A g n)[i]? = some b -> b = -1 -> a = -1 := fun i a b ha hb hb1 => by
   have hi := (gsI.1 ha).1
   rw [Jeq hi, Jcf ha] at hb
   by_cases h : i < n /\ a = -1
   . exact h.2
   . rw [if_neg h] at hb; cases hb; exact hb1
 obtain ⟨h1, h2⟩ := count_le (A := g) (B := Jbd A g n) Jer.symm hk
 by_cases he : Jes g = Jes (Jbd A g n)
 . exfalso
   apply hne
   apply List.ext_getElem?
   intro i
   by_cases hi : i < g.length
   . obtain ⟨x, e⟩ : ∃ x, g[i]? = some x := ⟨_, List.getElem?_eq_getElem hi⟩
     have e2 := Jeq (A := A) (n := n) hi
     have h3 := h2 he i _ _ e e2
     rw [e2, e, Jcf e]
     rw [Jcf e] at h3
     by_cases h : i < n /\ x = -1
     . rw [if_pos h] at h3 ⊢
       rw [h3.1 h.2, h.2]
     . rw [if_neg h]
   . rw [List.getElem?_eq_none (by rw [Jer]; omega), List.getElem?_eq_none (by omega)]
 . omega
def Jax (A : Nat -> List Int) (n : Nat) (g : List Int) : Nat -> List Int
 | 0 => g
 | k + 1 => Jbd A (Jax A n g k) n
theorem Jku {A : Nat -> List Int} {n : Nat} {g : List Int} : ∀ {k : Nat}, (Jax A n g k).length = g.length
 | 0 => rfl
 | k + 1 => by rw [Jax, Jer, Jku]
theorem Jne {A : Nat -> List Int} {n : Nat} {g : List Int} {k : Nat} (h : Jbd A (Jax A n g k) n = Jax A n g k) : ∀ m, Jax A n g (k + m) = Jax A n g k
 | 0 => rfl
 | m + 1 => by
   have ih := Jne h m
   rw [show k + (m + 1) = (k + m) + 1 from rfl, Jax, ih, h]
def endT (A : Nat -> List Int) (n : Nat) (g : List Int) : List Int := Jax A n g g.length
theorem Jnf {A : Nat -> List Int} {n : Nat} {g : List Int} : ∀ {k : Nat}, (∀ j, j < k -> Jbd A (Jax A n g j) n ≠ Jax A n g j) -> Jes (Jax A n g k) + k <= Jes g
 | 0, _ => by simp [Jax]
 | k + 1, h => by
   have ih := @Jnf A n g k fun j hj => h j (by omega)
   have := Kcy (h k (by omega))
   rw [Jax]; omega
theorem J7w {A : Nat -> List Int} {n : Nat} {g : List Int} {k : Nat} (hp : ∀ j, j < k -> Jbd A (Jax A n g j) n ≠ Jax A n g j) (h : Jbd A (Jax A n g k) n = Jax A n g k) : Jax A n g k = endT A n g := by
 have h1 := Jnf hp
 have h2 := @Jrk g
 obtain ⟨m, hm⟩ : ∃ m, g.length = k + m := ⟨g.length - k, by omega⟩
 unfold endT
 rw [hm, Jne h m]
end Go.Am
namespace Go.Am
open Go Go.Proofs Go.Pn
def cylN (c : Circuit) (k : Nat) : Int := ((c.parts.take k).countP fun p => decide (p.kind = 1) : Nat)
theorem Jv9 {c : Circuit} {k : Nat} {p : Part} (e : c.parts[k]? = some p) : cylN c (k + 1) = cylN c k + if p.kind = 1 then 1 else 0 := by
 unfold cylN
 rw [take_snoc e, List.countP_append]
 by_cases h : p.kind = 1 <;> simp [h]
theorem J60 {c : Circuit} {k : Nat} : cylN c k <= k := by
 have h1 := @List.countP_le_length _ (fun p : Part => decide (p.kind = 1)) (c.parts.take k)
 have h2 : (c.parts.take k).length <= k := List.length_take_le ..
 unfold cylN; omega
theorem Jmo {c : Circuit} {k : Nat} : 0 <= cylN c k := by unfold cylN; omega
def Jge (c : Circuit) (s : Txt) : Int := Jck c s.dropLast
def grpK (c : Circuit) (k : Nat) (i : Nat) : Int := match c.parts[i]? with
 | none => -1
 | some p => if p.kind = 1 then (if i < k then cylN c (i + 1) else -1) else if p.kind = 0 then (if i < k then 0 else -1)
     else if p.kind = 6 then (if Jge c p.name < k then cylN c ((Jge c p.name).toNat + 1) else -1) else -1
def firstT (c : Circuit) (n k : Nat) : List Int := (List.range n).map (grpK c k)
theorem Jce {c : Circuit} {n k : Nat} : (firstT c n k).length = n := by simp [firstT]
theorem Jho {c : Circuit} {n k i : Nat} (h : i < n) : (firstT c n k)[i]? = some (grpK c k i) := by simp [firstT, h]
theorem Kbj {c : Circuit} (h : Jac c = 0) {i : Nat} {q : Part} (e : c.parts[i]? = some q) (hk : q.kind = 6) : belB c q.name = true := by
 have hc := Jvs.1 h
 have h1 := Jmz.1 hc.1.owned i (gsI.1 e).1
 simp only [Jet, e] at h1
 have hn : ∀ p ∈ c.parts, p.name ≠ [] := fun p hp => by
   obtain ⟨j, hj, ej⟩ := List.getElem_of_mem hp
   have h2 := Jmz.1 hc.1.each j hj
   simp only [partAt, List.getElem?_eq_getElem hj, ej] at h2
   intro hnil
   have h3 : Jbb p = 0 := by
     apply Decidable.byContradiction
     intro hne
     rw [if_pos hne] at h2
     exact hne h2
   unfold Jbb at h3
   rw [hnil] at h3
   have h4 : Jbt ([] : Txt) ≠ 0 := by decide
   by_cases h5 : Jas p.kind ≠ 0
   . rw [if_pos h5] at h3; exact h5 h3
   . rw [if_neg h5, if_pos h4] at h3; exact h4 h3
 cases hb : belB c q.name with
 | true => rfl
 | false =>
   rw [if_pos ⟨hk, (Jro hn).2 hb⟩] at h1
   cases h1
theorem Jno {c : Circuit} (h : Jac c = 0) {i : Nat} {q : Part} (e : c.parts[i]? = some q) (hk : q.kind = 6) :
   ∃ (j : Nat) (p : Part) (d : UInt8), Jge c q.name = j /\ c.parts[j]? = some p /\ p.kind = 1 /\ q.name = p.name ++ [d] /\ (d = 48 \/ d = 49) := by
 have hb := Kbj h e hk
 unfold belB at hb
 simp only [Bool.and_eq_true, Bool.or_eq_true, decide_eq_true_eq] at hb
 obtain ⟨⟨h1, h2⟩, h3⟩ := hb
 unfold cylB at h3
 split at h3
 . cases h3
 . rename_i j hj
   obtain ⟨hjl, hp, _⟩ := List.findIdx?_eq_some_iff_getElem.1 hj
   have ej : c.parts[j]? = some c.parts[j] := List.getElem?_eq_getElem hjl
   have hname : c.parts[j].name = q.name.dropLast := by simpa using hp
   have hki : c.parts[j].kind = 1 := by rw [ej] at h3; simpa using h3
   have hd : ∀ d, q.name.getLast? = some d -> q.name = c.parts[j].name ++ [d] := fun d hd => by
     rw [hname]
     have hne : q.name ≠ [] := by intro h0; rw [h0] at h1; simp at h1
     rw [List.getLast?_eq_some_getLast hne] at hd
     have := List.dropLast_concat_getLast hne
     simp only [Option.some.injEq] at hd
     rw [hd] at this
     exact this.symm
   have hc : Jge c q.name = j := by unfold Jge; rw [<- hname]; exact Jgk h ej
   rcases h2 with h2 | h2
   . exact ⟨j, _, 48, hc, ej, hki, hd _ h2, .inl rfl⟩
   . exact ⟨j, _, 49, hc, ej, hki, hd _ h2, .inr rfl⟩
theorem Jss {c : Circuit} (h : Jac c = 0) {j : Nat} {p : Part} (e : c.parts[j]? = some p) (d : UInt8) : (swAt c (p.name ++ [d]) = -1 /\ ∀ (i : Nat) q, c.parts[i]? = some q -> q.kind = 6 -> q.name ≠ p.name ++ [d]) \/
   ∃ (i : Nat) (q : Part), swAt c (p.name ++ [d]) = i /\ c.parts[i]? = some q /\ q.kind = 6 /\ q.name = p.name ++ [d] := by
 have h0 := Jjd c (p.name ++ [d])
 unfold swAt
 rcases h0 with hk | ⟨i, x, hk, ei, hx⟩
 . rw [hk]
   refine .inl ⟨rfl, fun i q eq _ => Ke0 hk q (List.mem_of_getElem? eq)⟩
 . rw [hk]
   have hka : Jaj c (i : Int) = x.kind := by rw [Jaj, Int.toNat_natCast, ei]; rfl
   have hxn : x.name = p.name ++ [d] := hx
   unfold swK
   rw [hka]
   by_cases h6 : x.kind = 6
   . rw [if_neg (by simp [h6])]
     exact .inr ⟨i, x, rfl, ei, h6, hxn⟩
   . rw [if_pos ⟨by omega, h6⟩]
     refine .inl ⟨rfl, fun i' q eq hq6 hqn => ?_⟩
     have h1 := Jgk h eq
     rw [hqn, hk] at h1
     have h2 : i = i' := by omega
     subst h2
     rw [ei] at eq; cases eq
     exact h6 hq6
theorem J9q {c : Circuit} (h : Jac c = 0) {i : Nat} : grpK c 0 i = -1 := by
 unfold grpK
 cases e : c.parts[i]? with
 | none => rfl
 | some p =>
   simp only
   split
   . rw [if_neg (by omega)]
   . split
     . rw [if_neg (by omega)]
     . split
       . rename_i h6
         obtain ⟨j, _, _, hj, _⟩ := Jno h e h6
         rw [if_neg (by omega)]
       . rfl
theorem J8h {c : Circuit} (h : Jac c = 0) {n k : Nat} {p : Part} (e : c.parts[k]? = some p) (h1 : p.kind ≠ 1) (h0 : p.kind ≠ 0) : firstT c n (k + 1) = firstT c n k := by
 unfold firstT
 apply List.map_congr_left
 intro i _
 unfold grpK
 cases ei : c.parts[i]? with
 | none => rfl
 | some q =>
   have hne : i = k -> q = p := fun hik => by subst hik; rw [e] at ei; cases ei; rfl
   simp only
   by_cases hq1 : q.kind = 1
   . have : i ≠ k := fun hik => h1 (hne hik ▸ hq1)
     rw [if_pos hq1, if_pos hq1]
     by_cases hik : i < k
     . rw [if_pos (by omega), if_pos hik]
     . rw [if_neg (by omega), if_neg hik]
   . rw [if_neg hq1, if_neg hq1]
     by_cases hq0 : q.kind = 0
     . have : i ≠ k := fun hik => h0 (hne hik ▸ hq0)
       rw [if_pos hq0, if_pos hq0]
       by_cases hik : i < k
       . rw [if_pos (by omega), if_pos hik]
       . rw [if_neg (by omega), if_neg hik]
     . rw [if_neg hq0, if_neg hq0]
       by_cases hq6 : q.kind = 6
       . rw [if_pos hq6, if_pos hq6]
         obtain ⟨j, p', d, hj, ej, hk1, _⟩ := Jno h ei hq6
         have : j ≠ k := fun hjk => by subst hjk; rw [e] at ej; cases ej; exact h1 hk1
         rw [hj]
         by_cases hjk : j < k
         . rw [if_pos (by omega), if_pos (by omega)]
         . rw [if_neg (by omega), if_neg (by omega)]
       . rw [if_neg hq6, if_neg hq6]
theorem J8i {c : Circuit} (h : Jac c = 0) {n k : Nat} {p : Part} (e : c.parts[k]? = some p) (h0 : p.kind = 0) (hk : k < n) : firstT c n (k + 1) = (firstT c n k).set k 0 := by
 apply List.ext_getElem?
 intro i
 by_cases hi : i < n
 . rw [List.getElem?_set, Jho hi, Jce]
   by_cases hik : k = i
   . subst hik
     rw [if_pos rfl, if_pos hk]
     unfold grpK
     rw [e]
     simp [h0]
   . rw [if_neg hik, Jho hi]
     congr 1
     unfold grpK
     cases ei : c.parts[i]? with
     | none => rfl
     | some q =>
       simp only
       by_cases hq1 : q.kind = 1
       . rw [if_pos hq1, if_pos hq1]
         by_cases hik : i < k
         . rw [if_pos (by omega), if_pos hik]
         . rw [if_neg (by omega), if_neg hik]
       . rw [if_neg hq1, if_neg hq1]
         by_cases hq0 : q.kind = 0
         . rw [if_pos hq0, if_pos hq0]
           by_cases hik : i < k
           . rw [if_pos (by omega), if_pos hik]
           . rw [if_neg (by omega), if_neg hik]
         . rw [if_neg hq0, if_neg hq0]
           by_cases hq6 : q.kind = 6
           . rw [if_pos hq6, if_pos hq6]
             obtain ⟨j, p', d, hj, ej, hk1, _⟩ := Jno h ei hq6
             have : j ≠ k := fun hjk => by subst hjk; rw [e] at ej; cases ej; rw [h0] at hk1; cases hk1
             rw [hj]
             by_cases hjk : j < k
             . rw [if_pos (by omega), if_pos (by omega)]
             . rw [if_neg (by omega), if_neg (by omega)]
           . rw [if_neg hq6, if_neg hq6]
 . rw [List.getElem?_eq_none (by rw [Jce]; omega), List.getElem?_eq_none (by rw [List.length_set, Jce]; omega)]
def setI (g : List Int) (k x : Int) : List Int := if 0 <= k then g.set k.toNat x else g
theorem Jon {g : List Int} {k x : Int} : (setI g k x).length = g.length := by unfold setI; split <;> simp
theorem J1b {g : List Int} {k x : Int} {i : Nat} (hi : i < g.length) : (setI g k x)[i]? = if k = i then some x else g[i]? := by
 unfold setI
 by_cases h : 0 <= k
 . rw [if_pos h, List.getElem?_set]
   by_cases e : k = i
   . rw [if_pos e, if_pos (by omega), if_pos (by omega)]
   . rw [if_neg e, if_neg (by omega)]
 . rw [if_neg h, if_neg (by omega)]
theorem J8g {c : Circuit} (h : Jac c = 0) {n k : Nat} {p : Part} (e : c.parts[k]? = some p) (h1 : p.kind = 1) (hk : k < n) :
   firstT c n (k + 1) = setI (setI ((firstT c n k).set k (cylN c (k + 1))) (swAt c (p.name ++ [48])) (cylN c (k + 1))) (swAt c (p.name ++ [49])) (cylN c (k + 1)) := by
 apply List.ext_getElem?
 intro i
 by_cases hi : i < n
 . rw [J1b (by rw [Jon, List.length_set, Jce]; exact hi), J1b (by rw [List.length_set, Jce]; exact hi), List.getElem?_set, Jho hi, Jho hi, Jce]
   have hsw : ∀ d, swAt c (p.name ++ [d]) = i -> ∃ q, c.parts[i]? = some q /\ q.kind = 6 /\ q.name = p.name ++ [d] := fun d hd => by
     rcases Jss h e d with ⟨h2, _⟩ | ⟨i', q, h2, h3, h4, h5⟩
     . omega
     . have : i' = i := by omega
       subst this
       exact ⟨q, h3, h4, h5⟩
   have hlim : ∀ d q, c.parts[i]? = some q -> q.kind = 6 -> q.name = p.name ++ [d] -> grpK c (k + 1) i = cylN c (k + 1) := fun d q eq h6 hn => by
     have hco : Jge c q.name = k := by
       unfold Jge
       rw [hn, List.dropLast_concat]
       exact Jgk h e
     unfold grpK
     rw [eq]
     simp only
     rw [if_neg (by omega), if_neg (by omega), if_pos h6, hco, if_pos (by omega), Int.toNat_natCast]
   by_cases hb : swAt c (p.name ++ [49]) = i
   . rw [if_pos hb]
     obtain ⟨q, a1, a2, a3⟩ := hsw _ hb
     rw [hlim _ q a1 a2 a3]
   . rw [if_neg hb]
     by_cases ha : swAt c (p.name ++ [48]) = i
     . rw [if_pos ha]
       obtain ⟨q, a1, a2, a3⟩ := hsw _ ha
       rw [hlim _ q a1 a2 a3]
     . rw [if_neg ha]
       by_cases hik : k = i
       . subst hik
         rw [if_pos rfl, if_pos hk]
         unfold grpK
         rw [e]
         simp [h1]
       . rw [if_neg hik]
         congr 1
         unfold grpK
         cases ei : c.parts[i]? with
         | none => rfl
         | some q =>
           simp only
           by_cases hq1 : q.kind = 1
           . rw [if_pos hq1, if_pos hq1]
             by_cases hik : i < k
             . rw [if_pos (by omega), if_pos hik]
             . rw [if_neg (by omega), if_neg hik]
           . rw [if_neg hq1, if_neg hq1]
             by_cases hq0 : q.kind = 0
             . rw [if_pos hq0, if_pos hq0]
               by_cases hik : i < k
               . rw [if_pos (by omega), if_pos hik]
               . rw [if_neg (by omega), if_neg hik]
             . rw [if_neg hq0, if_neg hq0]
               by_cases hq6 : q.kind = 6
               . rw [if_pos hq6, if_pos hq6]
                 obtain ⟨j, p', d, hj, ej, hk1, hn, hd⟩ := Jno h ei hq6
                 have hjk : j ≠ k := fun hjk => by
                   subst hjk
                   rw [e] at ej; cases ej
                   have hne : swAt c (p.name ++ [d]) ≠ i := by rcases hd with rfl | rfl <;> assumption
                   rcases Jss h e d with ⟨_, h2⟩ | ⟨i', q', h2, h3, h4, h5⟩
                   . exact h2 i q ei hq6 hn
                   . have h6 := Jgk h ei
                     have h7 := Jgk h h3
                     rw [hn] at h6
                     rw [h5, h6] at h7
                     exact hne (by omega)
                 rw [hj]
                 by_cases hjk2 : j < k
                 . rw [if_pos (by omega), if_pos (by omega)]
                 . rw [if_neg (by omega), if_neg (by omega)]
               . rw [if_neg hq6, if_neg hq6]
 . rw [List.getElem?_eq_none (by rw [Jce]; omega), List.getElem?_eq_none (by rw [Jon, Jon, List.length_set, Jce]; omega)]
end Go.Am
namespace Go.Am
open Go Go.Proofs Go.Pn
theorem Jyx {g h : List Int} (e : ∀ k : Int, gAt g k = gAt h k) : ∀ {ks : List Int} {x : Int}, minG g ks x = minG h ks x
 | [], _ => rfl
 | k :: ks, x => by rw [Jrb, Jrb, e k]; exact Jyx e
def padT (g : List Int) (m : Nat) : List Int := g ++ List.replicate (m - g.length) (-1)
theorem Jjc {g : List Int} {m : Nat} (h : g.length <= m) : (padT g m).length = m := by simp [padT]; omega
theorem Jn2 {g : List Int} {m i : Nat} (h : i < m) : (padT g m)[i]? = some (gAt g i) := by
 unfold padT
 by_cases hi : i < g.length
 . rw [List.getElem?_append_left hi, List.getElem?_eq_getElem hi, Jcf (List.getElem?_eq_getElem hi)]
 . have e : g[i]? = none := List.getElem?_eq_none (by omega)
   rw [List.getElem?_append_right (by omega), List.getElem?_replicate, if_pos (by omega)]
   simp only [gAt, Int.toNat_natCast, e]
theorem Jqu {g : List Int} {i : Nat} (h : g.length <= i) : gAt g i = -1 := by simp only [gAt, Int.toNat_natCast, List.getElem?_eq_none h]
theorem Jw5 {g : List Int} {m : Nat} (h : g.length <= m) (k : Int) : gAt (padT g m) k = gAt g k := by
 unfold gAt
 by_cases hk : k.toNat < m
 . rw [Jn2 hk]
   simp only [gAt, Int.toNat_natCast]
 . rw [List.getElem?_eq_none (by rw [Jjc h]; omega), List.getElem?_eq_none (by omega)]
theorem Kcv {A : Nat -> List Int} {g : List Int} {n m : Nat} (hn : n <= g.length) (h : g.length <= m) : Jbd A (padT g m) n = padT (Jbd A g n) m := by
 apply List.ext_getElem?
 intro i
 by_cases hi : i < m
 . rw [Jeq (by rw [Jjc h]; exact hi), Jn2 hi, Jw5 h, Jyx (Jw5 h)]
   by_cases hg : i < g.length
   . rw [Jcf (Jeq hg)]
   . rw [if_neg (by omega), Jqu (by omega), Jqu (by rw [Jer]; omega)]
 . rw [List.getElem?_eq_none (by rw [Jer, Jjc h]; omega), List.getElem?_eq_none (by rw [Jjc (by rw [Jer]; exact h)]; omega)]
theorem Jxw {A : Nat -> List Int} {g : List Int} {n m : Nat} (hn : n <= g.length) (h : g.length <= m) : ∀ {k : Nat}, Jax A n (padT g m) k = padT (Jax A n g k) m
 | 0 => rfl
 | k + 1 => by rw [Jax, Jxw hn h, Kcv (by rw [Jku]; exact hn) (by rw [Jku]; exact h)]; rfl
theorem Kaf {A : Nat -> List Int} {g : List Int} {n : Nat} {m : Nat} (h : g.length <= m) : Jax A n g m = endT A n g := by
 have h0 : ∃ k, k <= g.length /\ Jbd A (Jax A n g k) n = Jax A n g k := by
   apply Classical.byContradiction
   intro hn
   have h1 := @Jnf A n g (g.length + 1) fun j hj he => hn ⟨j, by omega, he⟩
   have h2 := @Jrk g
   omega
 obtain ⟨k, hk, he⟩ := h0
 have h1 := Jne he (m - k)
 have h2 := Jne he (g.length - k)
 rw [show k + (m - k) = m by omega] at h1
 rw [show k + (g.length - k) = g.length by omega] at h2
 unfold endT
 rw [h1, h2]
theorem J7u {A : Nat -> List Int} {g : List Int} {n m : Nat} (hn : n <= g.length) (h : g.length <= m) : endT A n (padT g m) = padT (endT A n g) m := by
 have e : endT A n (padT g m) = Jax A n (padT g m) m := by unfold endT; rw [Jjc h]
 rw [e, Jxw hn h, Kaf h]
theorem J7t {A : Nat -> List Int} {g : List Int} {n : Nat} : (endT A n g).length = g.length := Jku
theorem Kct {A B : Nat -> List Int} {g : List Int} {n : Nat} (h : ∀ i, i < n -> ∀ k, k ∈ A i ↔ k ∈ B i) : Jbd A g n = Jbd B g n := by
 unfold Jbd
 apply List.map_congr_left
 intro i _
 by_cases hi : i < n /\ gAt g i = -1
 . rw [if_pos hi, if_pos hi]; exact Kb3 (h i hi.1)
 . rw [if_neg hi, if_neg hi]
theorem Jxt {A B : Nat -> List Int} {g : List Int} {n : Nat} (h : ∀ i, i < n -> ∀ k, k ∈ A i ↔ k ∈ B i) : ∀ {k : Nat}, Jax A n g k = Jax B n g k
 | 0 => rfl
 | k + 1 => by rw [Jax, Jax, Jxt h, Kct h]
theorem J7s {A B : Nat -> List Int} {g : List Int} {n : Nat} (h : ∀ i, i < n -> ∀ k, k ∈ A i ↔ k ∈ B i) : endT A n g = endT B n g := Jxt h
theorem J8f {c : Circuit} {k m : Nat} (h : c.parts.length <= m) : firstT c m k = padT (firstT c c.parts.length k) m := by
 apply List.ext_getElem?
 intro i
 by_cases hi : i < m
 . rw [Jho hi, Jn2 hi]
   by_cases hp : i < c.parts.length
   . rw [Jcf (Jho hp)]
   . rw [Jqu (by rw [Jce]; omega)]
     unfold grpK
     rw [List.getElem?_eq_none (by omega)]
 . rw [List.getElem?_eq_none (by rw [Jce]; omega), List.getElem?_eq_none (by rw [Jjc (by rw [Jce]; exact h)]; omega)]
def actP (c : Circuit) (i : Int) (p : Port) : List Int := if decide (p.part = i) && Jcv c p then (Jbx c (around c p) false).map (·.part) else []
def actK (c : Circuit) (i : Int) : List Int := (allP c).flatMap (actP c i) ++ (limL c i).filter fun x => decide (0 <= x)
theorem Jyu {c : Circuit} {i x : Int} : x ∈ actK c i ↔ x ∈ dirL c i := by
 unfold actK dirL
 rw [Jnt, Jnr, List.mem_append, List.mem_filter, List.mem_flatMap]
 simp only [List.not_mem_nil, false_or, decide_eq_true_eq]
 have e : (∃ p ∈ allP c, x ∈ actP c i p) ↔ ∃ p ∈ allP c, p.part = i /\ Jcv c p = true /\ ∃ q ∈ Jbx c (around c p) false, q.part = x := by
   constructor
   . rintro ⟨p, hp, hx⟩
     unfold actP at hx
     by_cases h : (decide (p.part = i) && Jcv c p) = true
     . rw [if_pos h] at hx
       simp only [Bool.and_eq_true, decide_eq_true_eq] at h
       obtain ⟨q, hq, hqx⟩ := List.mem_map.1 hx
       exact ⟨p, hp, h.1, h.2, q, hq, hqx⟩
     . rw [if_neg h] at hx; cases hx
   . rintro ⟨p, hp, h1, h2, q, hq, hqx⟩
     refine ⟨p, hp, ?_⟩
     unfold actP
     rw [if_pos (by simp [h1, h2])]
     exact List.mem_map.2 ⟨q, hq, hqx⟩
 rw [e]
def rawG (c : Circuit) : List Int := endT (fun i => dirL c (i : Int)) c.parts.length (firstT c c.parts.length c.parts.length)
def Jcg (c : Circuit) : List Int := (rawG c).map fun x => max x 0
theorem Jod {c : Circuit} : (rawG c).length = c.parts.length := by unfold rawG; rw [J7t, Jce]
theorem Jm6 {c : Circuit} : (Jcg c).length = c.parts.length := by unfold Jcg; rw [List.length_map, Jod]
theorem J7v {c : Circuit} {m : Nat} (h : c.parts.length <= m) : endT (fun i => actK c (i : Int)) c.parts.length (firstT c m c.parts.length) = padT (rawG c) m := by
 rw [J8f h, J7u (by rw [Jce]; exact Nat.le_refl _) (by rw [Jce]; exact h)]
 unfold rawG
 rw [J7s fun i _ k => Jyu]
end Go.Am
namespace Go.Am
open Go Go.Proofs Go.Pn
theorem Kbv {c : Circuit} {i x : Int} : x ∈ dirL c i ↔ (x ∈ limL c i /\ 0 <= x) \/ ∃ p ∈ allP c, p.part = i /\ Jcv c p = true /\ ∃ q ∈ Jbx c (around c p) false, q.part = x := by
 unfold dirL
 rw [Jnt, Jnr]
 simp only [List.not_mem_nil, false_or]
 constructor
 . rintro (h | h)
   . exact .inr h
   . exact .inl h
 . rintro (h | h)
   . exact .inr h
   . exact .inl h
theorem J0d {c : Circuit} (h : Jac c = 0) {i : Nat} {q : Part} (e : c.parts[i]? = some q) : 0 <= q.kind /\ q.kind < 14 := (Ja8 h).1 q (List.mem_of_getElem? e)
theorem Jrd {c : Circuit} {i : Nat} {q : Part} (e : c.parts[i]? = some q) : nameAt c i = q.name := by unfold nameAt; rw [Int.toNat_natCast, e]
theorem Jgh {c : Circuit} {i : Nat} {q : Part} (e : c.parts[i]? = some q) : Jaj c i = q.kind := by unfold Jaj; rw [Int.toNat_natCast, e]; rfl
end Go.Am
namespace Go.Am
open Go Go.Proofs Go.Pn
structure Lbl where
 grp : Int
 ltr : Txt
 num : Int
deriving DecidableEq
@[simp] def Lbl.av (x : Lbl) : AV := .agg [.p (.int .i64 x.grp), .p (.str x.ltr), .p (.int .i64 x.num)]
@[simp] def Lbl.enc (x : Lbl) : List PV := [.int .i64 x.grp, .str x.ltr, .int .i64 x.num]
@[simp] def Lbl.row_ (x : Lbl) : List AV := [.p (.int .i64 x.grp), .p (.str x.ltr), .p (.int .i64 x.num)]
@[simp] theorem Lbl.eq_iff {x y : Lbl} : (x.grp = y.grp /\ x.ltr = y.ltr /\ x.num = y.num) = (x = y) := by cases x; cases y; simp
def Jgj (k : Int) : Txt := if k = 0 then [90] else if k = 1 then [65] else if k = 6 \/ k = 7 then [83] else [86]
def keyG (c : Circuit) (i : Nat) : Int × Txt := (gAt (Jcg c) i, Jgj (Jaj c i))
def cntG (c : Circuit) (y : Int × Txt) (i : Nat) : Nat := (List.range i).countP fun k => decide (keyG c k = y)
theorem Jmm {c : Circuit} {y : Int × Txt} {i : Nat} : cntG c y (i + 1) = cntG c y i + if keyG c i = y then 1 else 0 := by
 unfold cntG
 rw [List.range_succ, List.countP_append]
 by_cases h : keyG c i = y <;> simp [h]
theorem Jv3 {c : Circuit} {y : Int × Txt} {i : Nat} : cntG c y i <= i := by
 have := @List.countP_le_length _ (fun k => decide (keyG c k = y)) (List.range i)
 rw [List.length_range] at this
 exact this
theorem Jv4 {c : Circuit} {y : Int × Txt} {i : Nat} : ∀ {d : Nat}, cntG c y i <= cntG c y (i + d)
 | 0 => Nat.le_refl _
 | d + 1 => by
   have := @Jv4 c y i d
   rw [show i + (d + 1) = (i + d) + 1 from rfl, Jmm]
   omega
def lblN (c : Circuit) (i : Nat) : Lbl := ⟨(keyG c i).1, (keyG c i).2, ((cntG c (keyG c i) i : Nat) : Int) + 1⟩
def Je2 (c : Circuit) (k : Nat) : List Lbl := (List.range k).map (lblN c)
def Jb4 (c : Circuit) : List Lbl := Je2 c c.parts.length
theorem Jx7 {c : Circuit} {k : Nat} : (Je2 c k).length = k := by simp [Je2]
theorem Ka4 {c : Circuit} {k : Nat} : Je2 c (k + 1) = Je2 c k ++ [lblN c k] := by unfold Je2; rw [List.range_succ, List.map_append]; rfl
theorem Jnh {c : Circuit} {n k : Nat} (h : k < n) : (Je2 c n)[k]? = some (lblN c k) := by simp [Je2, h]
theorem Jx6 {c : Circuit} : (Jb4 c).length = c.parts.length := Jx7
theorem Jyd {c : Circuit} {i j : Nat} (h : i < j) : lblN c i ≠ lblN c j := by
 intro e
 have h1 : keyG c i = keyG c j := by
   have a := congrArg Lbl.grp e
   have b := congrArg Lbl.ltr e
   exact Prod.ext a b
 have h2 := congrArg Lbl.num e
 simp only [lblN] at h2
 rw [h1] at h2
 obtain ⟨d, hd⟩ : ∃ d, j = (i + 1) + d := ⟨j - (i + 1), by omega⟩
 have h3 := @Jv4 c (keyG c j) (i + 1) d
 rw [<- hd, Jmm, if_pos h1] at h3
 omega
theorem Jyc {c : Circuit} {i j : Nat} (e : lblN c i = lblN c j) : i = j := by
 rcases Nat.lt_trichotomy i j with h | h | h
 . exact absurd e (Jyd h)
 . exact h
 . exact absurd e.symm (Jyd h)
def Jbg (a b : Lbl) : Bool := if a.grp ≠ b.grp then decide (a.grp < b.grp) else if a.ltr ≠ b.ltr then Op.bytesLess a.ltr b.ltr else decide (a.num < b.num)
theorem Jq6 (a : Lbl) : Jbg a a = false := by simp [Jbg]
theorem Jyb {a b c : Lbl} (h : Jbg a b = true) (k : Jbg b c = true) : Jbg a c = true := by
 unfold Jbg at *
 by_cases h1 : a.grp = b.grp
 . rw [if_neg (by simpa using h1)] at h
   by_cases h2 : b.grp = c.grp
   . rw [if_neg (by simpa using h2)] at k
     rw [if_neg (by simpa using h1.trans h2)]
     by_cases h3 : a.ltr = b.ltr
     . rw [if_neg (by simpa using h3)] at h
       by_cases h4 : b.ltr = c.ltr
       . rw [if_neg (by simpa using h4)] at k
         rw [if_neg (by simpa using h3.trans h4)]
         simp only [decide_eq_true_eq] at h k ⊢
         omega
       . rw [if_pos h4] at k
         rw [h3, if_pos h4]
         exact k
     . rw [if_pos h3] at h
       by_cases h4 : b.ltr = c.ltr
       . rw [<- h4, if_pos h3]; exact h
       . rw [if_pos h4] at k
         have h5 := Jil h k
         rw [if_pos (fun e => by rw [e, Jdu] at h5; cases h5)]
         exact h5
   . rw [if_pos h2] at k
     rw [h1, if_pos h2]
     exact k
 . rw [if_pos h1] at h
   simp only [decide_eq_true_eq] at h
   by_cases h2 : b.grp = c.grp
   . rw [<- h2, if_pos h1]; simpa using h
   . rw [if_pos h2] at k
     simp only [decide_eq_true_eq] at k
     rw [if_pos (by omega)]
     simp only [decide_eq_true_eq]
     omega
theorem Jx9 {a b : Lbl} (h : Jbg a b = true) : Jbg b a = false := by
 cases k : Jbg b a with
 | false => rfl
 | true => have := Jyb h k; rw [Jq6] at this; cases this
def Joc (c : Circuit) (i : Nat) : Nat := (List.range c.parts.length).countP fun k => Jbg (lblN c k) (lblN c i)
theorem J0y {c : Circuit} {s : List Nat} (hp : s.Perm (List.range c.parts.length)) (hs : s.Pairwise fun a b => Jbg (lblN c a) (lblN c b) = true) {m i : Nat} (e : s[m]? = some i) : Joc c i = m := by
 obtain ⟨hm, he⟩ := gsI.1 e
 unfold Joc
 rw [<- hp.countP_eq]
 have hsp : s = s.take m ++ s[m] :: s.drop (m + 1) := by
   rw [List.getElem_cons_drop, List.take_append_drop]
 rw [he] at hsp
 rw [hsp] at hs ⊢
 rw [List.pairwise_append] at hs
 obtain ⟨_, h2, h3⟩ := hs
 rw [List.pairwise_cons] at h2
 rw [List.countP_append, List.countP_cons]
 have e1 : (s.take m).countP (fun k => Jbg (lblN c k) (lblN c i)) = (s.take m).length := by
   rw [List.countP_eq_length]
   intro a ha
   exact h3 a ha i (by simp)
 have e2 : (s.drop (m + 1)).countP (fun k => Jbg (lblN c k) (lblN c i)) = 0 := by
   rw [List.countP_eq_zero]
   intro a ha
   rw [Jx9 (h2.1 a ha)]
   simp
 rw [e1, e2, Jq6]
 simp
 omega
def Jg7 (c : Circuit) (m : Nat) : List Nat := (List.range c.parts.length).filter fun i => decide (Joc c i = m)
theorem Kfw {c : Circuit} {s : List Nat} (hp : s.Perm (List.range c.parts.length)) (hs : s.Pairwise fun a b => Jbg (lblN c a) (lblN c b) = true) {m i : Nat} (e : s[m]? = some i) : Jg7 c m = [i] := by
 have hnd : (Jg7 c m).Nodup := List.Nodup.sublist List.filter_sublist List.nodup_range
 have hmem : ∀ j, j ∈ Jg7 c m ↔ j = i := by
   intro j
   unfold Jg7
   rw [List.mem_filter, <- hp.mem_iff]
   simp only [decide_eq_true_eq]
   constructor
   . rintro ⟨hj, hr⟩
     obtain ⟨m', e'⟩ := List.mem_iff_getElem?.1 hj
     have h1 := J0y hp hs e'
     rw [hr] at h1
     subst h1
     rw [e] at e'
     simpa using e'.symm
   . rintro rfl
     exact ⟨List.mem_of_getElem? e, J0y hp hs e⟩
 have hperm : (Jg7 c m).Perm [i] := (List.perm_ext_iff_of_nodup hnd (by simp)).2 fun j => by rw [hmem]; simp
 exact List.perm_singleton.1 hperm
def Jb5 (c : Circuit) : List Nat := (List.range c.parts.length).flatMap (Jg7 c)
theorem Keo {c : Circuit} {s : List Nat} (hp : s.Perm (List.range c.parts.length)) (hs : s.Pairwise fun a b => Jbg (lblN c a) (lblN c b) = true) : Jb5 c = s := by
 have hl : s.length = c.parts.length := by rw [hp.length_eq, List.length_range]
 have h : ∀ (n : Nat), n <= s.length -> (List.range n).flatMap (Jg7 c) = s.take n := by
   intro n
   induction n with
   | zero => simp
   | succ n ih =>
     intro hn
     obtain ⟨i, e⟩ := Jae (show n < s.length by omega)
     rw [List.range_succ, List.flatMap_append, ih (by omega), take_snoc e]
     simp [Kfw hp hs e]
 unfold Jb5
 rw [<- hl, h s.length (Nat.le_refl _), List.take_length]
end Go.Am
namespace Go.Am
open Go Go.Proofs Go.Pn
def digN (n : Nat) : Txt := if n < 10 then [UInt8.ofNat (48 + n)] else [UInt8.ofNat (48 + n / 10), UInt8.ofNat (48 + n % 10)]
theorem J63 {n : Nat} (h : n < 100) : Lib.decDigits n = digN n := by
 unfold digN
 by_cases h1 : n < 10
 . rw [Lib.decDigits, dif_pos h1, if_pos h1]
 . rw [Lib.decDigits, dif_neg h1, if_neg h1, Lib.decDigits, dif_pos (by omega)]
   rfl
def chkL (x : Lbl) : Int := if x.grp < 0 \/ 64 < x.grp then 2 else if x.ltr ∉ [([65] : Txt), [83], [86], [90]] then 1 else if x.num < 1 \/ 64 < x.num then 2 else 0
theorem Jhm {x : Lbl} : chkL x = 0 ↔ (0 <= x.grp /\ x.grp <= 64) /\ x.ltr ∈ [([65] : Txt), [83], [86], [90]] /\ 1 <= x.num /\ x.num <= 64 := by
 unfold chkL
 by_cases h1 : x.grp < 0 \/ 64 < x.grp
 . rw [if_pos h1]; constructor
   . intro h; cases h
   . rintro ⟨h, _⟩; omega
 . rw [if_neg h1]
   by_cases h2 : x.ltr ∈ [([65] : Txt), [83], [86], [90]]
   . rw [if_neg (fun hn => hn h2)]
     by_cases h3 : x.num < 1 \/ 64 < x.num
     . rw [if_pos h3]; constructor
       . intro h; cases h
       . rintro ⟨_, _, h⟩; omega
     . rw [if_neg h3]
       exact ⟨fun _ => ⟨by omega, h2, by omega⟩, fun _ => rfl⟩
   . rw [if_pos h2]; constructor
     . intro h; cases h
     . rintro ⟨_, h, _⟩; exact absurd h h2
def Ja0 (x : Lbl) : Txt := digN x.grp.toNat ++ (x.ltr ++ digN x.num.toNat)
def noL : Lbl := ⟨0, [], 0⟩
def Ji9 (s : Txt) : Int := if s = [] \/ (1 < s.length /\ s.head? = some 48) then 3 else if s.all isDigit = false then 3 else if 7 < s.length then 17 else 0
def Jea (s : Txt) : Int := s.foldl (fun n b => 10 * n + ((b.toNat : Int) - 48)) 0
def signed (s : Txt) : Bool := decide (s.head? = some 45)
def Jf5 (s : Txt) : Int := if signed s /\ s.tail = [48] then 3 else Ji9 (if signed s then s.tail else s)
def valOf (s : Txt) : Int := if Jf5 s ≠ 0 then 0 else if signed s then -Jea s.tail else Jea s
theorem Jis {b : UInt8} : isDigit b = true ↔ 48 <= b.toNat /\ b.toNat <= 57 := by
 have h : ∀ n : Nat, n < 256 -> (isDigit (UInt8.ofNat n) = true ↔ 48 <= n /\ n <= 57) := by decide +kernel
 have := h b.toNat b.toNat_lt
 rwa [UInt8.ofNat_toNat] at this
theorem Kiy {s : Txt} : ∀ {n : Int}, (∀ b ∈ s, isDigit b = true) -> 0 <= n -> n * 10 ^ s.length <= s.foldl (fun n b => 10 * n + ((b.toNat : Int) - 48)) n := by
 induction s with
 | nil => intro n _ _; simp
 | cons b s ih =>
   intro n hd h0
   have hb := Jis.1 (hd b (by simp))
   have h1 := @ih (10 * n + ((b.toNat : Int) - 48)) (fun x hx => hd x (by simp [hx])) (by omega)
   rw [List.foldl_cons]
   refine Int.le_trans ?_ h1
   rw [List.length_cons, Int.pow_succ]
   have h2 : 0 <= (10 : Int) ^ s.length := Int.pow_nonneg (by omega)
   have h3 : n * (10 ^ s.length * 10) = (10 * n) * 10 ^ s.length := by rw [Int.mul_comm (10 ^ s.length) 10, <- Int.mul_assoc, Int.mul_comm n 10]
   rw [h3, Int.add_mul]
   have h4 : 0 <= ((b.toNat : Int) - 48) * 10 ^ s.length := Int.mul_nonneg (by omega) h2
   omega
theorem Jze {s : Txt} (h : Ji9 s = 0) (h1 : Jea s <= 64) : 0 <= Jea s /\ s = digN (Jea s).toNat := by
 have e1 : ¬ (s = [] \/ (1 < s.length /\ s.head? = some 48)) := by intro h2; unfold Ji9 at h; rw [if_pos h2] at h; cases h
 have e2 : s.all isDigit = true := by
   cases h3 : s.all isDigit with
   | true => rfl
   | false => unfold Ji9 at h; rw [if_neg e1, if_pos h3] at h; cases h
 have hd : ∀ b ∈ s, isDigit b = true := fun b hb => List.all_eq_true.1 e2 b hb
 match s, e1, hd with
 | [], e1, _ => exact absurd (.inl rfl) e1
 | [a], _, hd =>
   have ha := Jis.1 (hd a (by simp))
   have e : Jea [a] = (a.toNat : Int) - 48 := by simp [Jea]
   rw [e]
   refine ⟨by omega, ?_⟩
   unfold digN
   rw [if_pos (by omega), show 48 + ((a.toNat : Int) - 48).toNat = a.toNat by omega, UInt8.ofNat_toNat]
 | [a, b], e1, hd =>
   have ha := Jis.1 (hd a (by simp))
   have hb := Jis.1 (hd b (by simp))
   have h48 : a.toNat ≠ 48 := fun hh => e1 (.inr ⟨by simp, by simp; rw [<- UInt8.toNat_inj]; exact hh⟩)
   have e : Jea [a, b] = 10 * ((a.toNat : Int) - 48) + ((b.toNat : Int) - 48) := by simp [Jea]
   rw [e]
   refine ⟨by omega, ?_⟩
   unfold digN
   rw [if_neg (by omega), show 48 + (10 * ((a.toNat : Int) - 48) + ((b.toNat : Int) - 48)).toNat / 10 = a.toNat by omega, show 48 + (10 * ((a.toNat : Int) - 48) + ((b.toNat : Int) - 48)).toNat % 10 = b.toNat by omega, UInt8.ofNat_toNat, UInt8.ofNat_toNat]
 | a :: b :: c :: r, e1, hd =>
   exfalso
   have ha := Jis.1 (hd a (by simp))
   have h48 : a.toNat ≠ 48 := fun hh => e1 (.inr ⟨by simp, by simp; rw [<- UInt8.toNat_inj]; exact hh⟩)
   have h2 := @Kiy (b :: c :: r) ((a.toNat : Int) - 48) (fun x hx => hd x (by simp [hx])) (by omega)
   have e : Jea (a :: b :: c :: r) = (b :: c :: r).foldl (fun n b => 10 * n + ((b.toNat : Int) - 48)) ((a.toNat : Int) - 48) := by simp [Jea]
   rw [<- e] at h2
   have h3 : (100 : Int) <= 10 ^ (b :: c :: r).length := by
     simp only [List.length_cons]
     rw [show r.length + 1 + 1 = r.length + 2 from rfl, Int.pow_add]
     have : (0 : Int) < 10 ^ r.length := Int.pow_pos (by omega)
     omega
   have h4 : (100 : Int) <= ((a.toNat : Int) - 48) * 10 ^ (b :: c :: r).length := by
     have : (1 : Int) * 10 ^ (b :: c :: r).length <= ((a.toNat : Int) - 48) * 10 ^ (b :: c :: r).length := Int.mul_le_mul_of_nonneg_right (by omega) (by omega)
     omega
   omega
theorem J2a {s : Txt} (h : Jf5 s = 0) (h0 : 0 <= valOf s) (h1 : valOf s <= 64) : s = digN (valOf s).toNat := by
 cases hs : signed s with
 | false =>
   have e1 : Jf5 s = Ji9 s := by unfold Jf5; rw [hs]; simp
   have e2 : valOf s = Jea s := by unfold valOf; rw [if_neg (by simpa using h), hs]; simp
   rw [e1] at h
   rw [e2] at h1 ⊢
   exact (Jze h h1).2
 | true =>
   exfalso
   have e2 : valOf s = -Jea s.tail := by unfold valOf; rw [if_neg (by simpa using h), hs]; simp
   have hne : ¬ s.tail = [48] := fun hh => by unfold Jf5 at h; rw [if_pos ⟨hs, hh⟩] at h; cases h
   have e1 : Ji9 s.tail = 0 := by
     unfold Jf5 at h
     rw [if_neg (fun hh => hne hh.2), hs] at h
     simpa using h
   rw [e2] at h0
   obtain ⟨h2, h3⟩ := Jze e1 (by omega)
   have h4 : Jea s.tail = 0 := by omega
   rw [h4] at h3
   exact hne h3
theorem Jir {n : Nat} (h : n < 100) : Jf5 (digN n) = 0 /\ valOf (digN n) = n /\ (∀ b ∈ digN n, isDigit b = true) /\ digN n ≠ [] /\ Lib.atoiAll (digN n) = .ok (n : Int) := by
 have h2 : ∀ n : Nat, n < 100 -> (Jf5 (digN n) = 0 /\ valOf (digN n) = n /\ (digN n).all isDigit = true /\ digN n ≠ []) := by decide +kernel
 have h4 : ∀ n : Nat, n < 100 -> (match Lib.atoiAll (digN n) with | .ok v => decide (v = (n : Int)) | _ => false) = true := by decide +kernel
 have h3 : ∀ n : Nat, n < 100 -> Lib.atoiAll (digN n) = .ok (n : Int) := fun n hn => by
   have := h4 n hn
   cases e : Lib.atoiAll (digN n) with
   | ok v => rw [e] at this; simp only [decide_eq_true_eq] at this; rw [this]
   | «syntax» => rw [e] at this; cases this
   | range => rw [e] at this; cases this
 obtain ⟨a, b, c, d⟩ := h2 n h
 exact ⟨a, b, fun x hx => List.all_eq_true.1 c x hx, d, h3 n h⟩
def dpl (s : Txt) : Nat := (s.takeWhile isDigit).length
def parX (s : Txt) : Lbl := ⟨valOf (s.take (dpl s)), (s.drop (dpl s)).take 1, valOf (s.drop (dpl s + 1))⟩
def parB (s : Txt) : Bool := !decide (dpl s = s.length) && (decide (Jf5 (s.take (dpl s)) = 0) && (decide (Jf5 (s.drop (dpl s + 1)) = 0) && decide (chkL (parX s) = 0)))
def parL (s : Txt) : Lbl := if parB s then parX s else noL
def parE (s : Txt) : Int := if parB s then 0 else 4
theorem J7a {s : Txt} : dpl s <= s.length := (List.takeWhile_prefix _).length_le
theorem Kez {s : Txt} (h : parB s = true) : chkL (parX s) = 0 /\ Ja0 (parX s) = s := by
 unfold parB at h
 simp only [Bool.and_eq_true, Bool.not_eq_true', decide_eq_true_eq, decide_eq_false_iff_not] at h
 obtain ⟨h1, h2, h3, h4⟩ := h
 refine ⟨h4, ?_⟩
 obtain ⟨⟨a1, a2⟩, a3, a4, a5⟩ := Jhm.1 h4
 have e1 := J2a h2 a1 a2
 have e2 := J2a h3 (by simp only [parX] at a4; omega) a5
 have hl := @J7a s
 unfold Ja0
 simp only [parX]
 rw [<- e1, <- e2]
 have e3 : (s.drop (dpl s)).take 1 ++ s.drop (dpl s + 1) = s.drop (dpl s) := by
   rw [show s.drop (dpl s + 1) = (s.drop (dpl s)).drop 1 by rw [List.drop_drop]]
   exact List.take_append_drop _ _
 rw [e3, List.take_append_drop]
theorem Jnq {x : Lbl} (h : chkL x = 0) : ∃ b : UInt8, x.ltr = [b] /\ isDigit b = false /\ b ∈ ([65, 83, 86, 90] : Txt) := by
 obtain ⟨_, h2, _⟩ := Jhm.1 h
 simp only [List.mem_cons, List.not_mem_nil, or_false] at h2
 rcases h2 with h2 | h2 | h2 | h2
 . exact ⟨65, h2, by decide, by simp⟩
 . exact ⟨83, h2, by decide, by simp⟩
 . exact ⟨86, h2, by decide, by simp⟩
 . exact ⟨90, h2, by decide, by simp⟩
theorem Kg7 {d : Txt} {b : UInt8} {r : Txt} (hd : ∀ x ∈ d, isDigit x = true) (hb : isDigit b = false) : (d ++ b :: r).takeWhile isDigit = d := by
 induction d with
 | nil => simp [hb]
 | cons a d ih => rw [List.cons_append, List.takeWhile_cons, if_pos (hd a (by simp)), ih fun x hx => hd x (by simp [hx])]
theorem Khf {x : Lbl} (h : chkL x = 0) : parB (Ja0 x) = true /\ parX (Ja0 x) = x := by
 obtain ⟨⟨a1, a2⟩, _, a4, a5⟩ := Jhm.1 h
 obtain ⟨b, hb, hbd, _⟩ := Jnq h
 obtain ⟨c1, c2, c3, c4, _⟩ := @Jir x.grp.toNat (by omega)
 obtain ⟨d1, d2, d3, d4, _⟩ := @Jir x.num.toNat (by omega)
 have et : Ja0 x = digN x.grp.toNat ++ b :: digN x.num.toNat := by unfold Ja0; rw [hb]; rfl
 have ed : dpl (Ja0 x) = (digN x.grp.toNat).length := by unfold dpl; rw [et, Kg7 c3 hbd]
 have e1 : (Ja0 x).take (dpl (Ja0 x)) = digN x.grp.toNat := by rw [ed, et, List.take_left]
 have e2 : (Ja0 x).drop (dpl (Ja0 x)) = b :: digN x.num.toNat := by rw [ed, et, List.drop_left]
 have e3 : (Ja0 x).drop (dpl (Ja0 x) + 1) = digN x.num.toNat := by rw [<- List.drop_drop, e2]; rfl
 have ex : parX (Ja0 x) = x := by
   unfold parX
   rw [e1, e2, e3, c2, d2]
   cases x
   simp only at hb a1 a4 ⊢
   rw [hb]
   simp only [List.take_succ_cons, List.take_zero, Lbl.mk.injEq, true_and]
   omega
 refine ⟨?_, ex⟩
 unfold parB
 rw [e1, e3, c1, d1, ex, h]
 have : ¬ dpl (Ja0 x) = (Ja0 x).length := by
   rw [ed, et]; simp
 simp [this]
theorem J0a {s : Txt} {x : Lbl} (h : chkL x = 0) (e : Ja0 x = s) : parL s = x /\ parE s = 0 := by
 subst e
 obtain ⟨h1, h2⟩ := Khf h
 unfold parL parE
 rw [if_pos h1, if_pos h1]
 exact ⟨h2, rfl⟩
theorem par_none {s : Txt} (h : ∀ x, chkL x = 0 -> Ja0 x ≠ s) : parL s = noL /\ parE s = 4 := by
 have hb : ¬ parB s = true := fun hb => by
   obtain ⟨h1, h2⟩ := Kez hb
   exact h _ h1 h2
 unfold parL parE
 rw [if_neg hb, if_neg hb]
 exact ⟨rfl, rfl⟩
end Go.Am
namespace Go.Am
open Go Go.Proofs Go.Pn
def cmpS (a b : Txt) : Int := if Op.bytesLess a b then -1 else if Op.bytesLess b a then 1 else 0
def Jct (a b : Lbl) : Int := orI [cmpI a.grp b.grp, cmpS a.ltr b.ltr, cmpI a.num b.num]
theorem Jya {a b : Lbl} (h : Jbg a b = false) (k : Jbg b a = false) : a = b := by
 unfold Jbg at h k
 by_cases h1 : a.grp = b.grp
 . rw [if_neg (by simpa using h1)] at h
   rw [if_neg (by simpa using h1.symm)] at k
   by_cases h2 : a.ltr = b.ltr
   . rw [if_neg (by simpa using h2)] at h
     rw [if_neg (by simpa using h2.symm)] at k
     simp only [decide_eq_false_iff_not] at h k
     obtain ⟨g, l, n⟩ := a
     obtain ⟨g', l', n'⟩ := b
     simp only at h1 h2 h k
     have h3 : n = n' := by omega
     rw [h1, h2, h3]
   . rw [if_pos h2] at h
     rw [if_pos (fun e => h2 e.symm)] at k
     exact absurd (Jhj h k) h2
 . rw [if_pos h1] at h
   rw [if_pos (fun e => h1 e.symm)] at k
   simp only [decide_eq_false_iff_not] at h k
   omega
theorem Jvz (a : Int) : cmpI a a = 0 := by unfold cmpI; rw [if_neg (by omega), if_neg (by omega)]
theorem Jvy {a b : Int} (h : a < b) : cmpI a b = -1 := by unfold cmpI; rw [if_pos h]
theorem Jvx {a b : Int} (h : b < a) : cmpI a b = 1 := by unfold cmpI; rw [if_neg (by omega), if_pos h]
theorem J6x (a : Txt) : cmpS a a = 0 := by unfold cmpS; rw [Jdu]; rfl
theorem Jmj (a b : Lbl) : Jct a b = if Jbg a b then -1 else if Jbg b a then 1 else 0 := by
 obtain ⟨g, l, n⟩ := a
 obtain ⟨g', l', n'⟩ := b
 unfold Jct
 simp only [orI]
 unfold Jbg
 simp only
 by_cases h1 : g = g'
 . subst h1
   simp only [Jvz, ne_eq, not_true_eq_false, if_true, if_false]
   by_cases h2 : l = l'
   . subst h2
     simp only [J6x, not_true_eq_false, if_true, if_false]
     rcases Int.lt_trichotomy n n' with h3 | h3 | h3
     . rw [Jvy h3]; simp [h3]
     . subst h3; rw [Jvz]; simp
     . rw [Jvx h3]; simp [h3]; omega
   . have h2' : ¬ l' = l := fun e => h2 e.symm
     simp only [h2, h2', not_false_eq_true, if_true]
     unfold cmpS
     cases h3 : Op.bytesLess l l' with
     | true => simp
     | false =>
       cases h4 : Op.bytesLess l' l with
       | true => simp
       | false => exact absurd (Jhj h3 h4) h2
 . rw [if_pos h1, if_pos (fun e => h1 e.symm)]
   by_cases h2 : g < g'
   . rw [Jvy h2]; simp [h2]
   . have h3 : g' < g := by omega
     rw [Jvx h3]; simp [h3]; omega
theorem J6w {a b : Lbl} : Jct a b = 0 ↔ a = b := by
 rw [Jmj]
 constructor
 . intro h
   cases h1 : Jbg a b with
   | true => rw [h1] at h; simp at h
   | false =>
     cases h2 : Jbg b a with
     | true => rw [h1, h2] at h; simp at h
     | false => exact Jya h1 h2
 . rintro rfl
   rw [Jq6]; rfl
theorem Jml (a b : Lbl) : Jct a b = -Jct b a := by
 rw [Jmj, Jmj]
 cases h1 : Jbg a b with
 | true => rw [Jx9 h1]; simp
 | false => cases h2 : Jbg b a <;> simp
theorem Jmk {a b : Lbl} : Jct a b < 0 ↔ Jbg a b = true := by
 rw [Jmj]
 cases h1 : Jbg a b with
 | true => simp
 | false => cases h2 : Jbg b a <;> simp
theorem J6v {a b c : Lbl} (h : Jct a b <= 0) (k : Jct b c <= 0) : Jct a c <= 0 := by
 have e : ∀ {x y : Lbl}, Jct x y <= 0 -> Jct x y < 0 \/ x = y := fun {x y} hxy => by
   by_cases h0 : Jct x y = 0
   . exact .inr (J6w.1 h0)
   . exact .inl (by omega)
 rcases e h with h1 | rfl
 . rcases e k with h2 | rfl
   . have := Jmk.2 (Jyb (Jmk.1 h1) (Jmk.1 h2)); omega
   . omega
 . exact k
end Go.Am
namespace Go.Am
open Go Go.Proofs Go.Pn
def Je8 (l : List Int) (j : Nat) : List Int := (l.set (j + 1) (l[j]?.getD 0)).set j (l[j + 1]?.getD 0)
def Jc5 (lt : Int -> Int -> Bool) (l : List Int) : Nat -> List Int
 | 0 => l
 | j + 1 => if lt (l[j + 1]?.getD 0) (l[j]?.getD 0) then Jc5 lt (Je8 l j) j else l
def Jei (lt : Int -> Int -> Bool) : Nat -> List Int -> Nat -> List Int
 | 0, l, _ => l
 | f + 1, l, i => Jei lt f (Jc5 lt l i) (i + 1)
def Jde (lt : Int -> Int -> Bool) (l : List Int) : List Int := Jei lt (l.length - 1) l 1
theorem Jos {l : List Int} {j : Nat} : (Je8 l j).length = l.length := by simp [Je8]
theorem Jli {lt : Int -> Int -> Bool} : ∀ {j : Nat} {l : List Int}, (Jc5 lt l j).length = l.length
 | 0, l => rfl
 | j + 1, l => by
   unfold Jc5
   split
   . rw [Jli, Jos]
   . rfl
theorem Jm3 {lt : Int -> Int -> Bool} : ∀ {f : Nat} {l : List Int} {i : Nat}, (Jei lt f l i).length = l.length
 | 0, l, i => rfl
 | f + 1, l, i => by simp only [Jei]; rw [Jm3, Jli]
theorem Jxq {lt : Int -> Int -> Bool} {l : List Int} : (Jde lt l).length = l.length := Jm3
theorem Jst {l : List Int} {j i : Nat} {x y : Int} (h1 : l[j]? = some x) (h2 : l[j + 1]? = some y) : (Je8 l j)[i]? = if i = j then some y else if i = j + 1 then some x else l[i]? := by
 have hj := (gsI.1 h2).1
 unfold Je8
 rw [h1, h2, List.getElem?_set, List.getElem?_set, List.length_set]
 simp only [Option.getD_some]
 by_cases e1 : i = j
 . subst e1; rw [if_pos rfl, if_pos (by omega), if_pos rfl]
 . rw [if_neg (fun e => e1 e.symm), if_neg e1]
   by_cases e2 : i = j + 1
   . subst e2; rw [if_pos rfl, if_pos hj, if_pos rfl]
   . rw [if_neg (fun e => e2 e.symm), if_neg e2]
theorem J1x {l : List Int} {j : Nat} {x y : Int} (h1 : l[j]? = some x) (h2 : l[j + 1]? = some y) : (Je8 l j).Perm l := by
 have hj := (gsI.1 h2).1
 have e1 : l = l.take j ++ x :: y :: l.drop (j + 2) := by
   have a : l.drop j = x :: l.drop (j + 1) := by rw [List.drop_eq_getElem_cons (by omega)]; rw [List.getElem?_eq_getElem (by omega)] at h1; cases h1; rfl
   have b : l.drop (j + 1) = y :: l.drop (j + 2) := by rw [List.drop_eq_getElem_cons hj]; rw [List.getElem?_eq_getElem hj] at h2; cases h2; rfl
   rw [<- b, <- a, List.take_append_drop]
 have e2 : Je8 l j = l.take j ++ y :: x :: l.drop (j + 2) := by
   apply List.ext_getElem?
   intro i
   rw [Jst h1 h2]
   have hl : (l.take j).length = j := by simp; omega
   by_cases a : i = j
   . subst a; rw [if_pos rfl, List.getElem?_append_right (by omega), hl]; simp
   . rw [if_neg a]
     by_cases b : i = j + 1
     . subst b; rw [if_pos rfl, List.getElem?_append_right (by omega), hl]; simp
     . rw [if_neg b]
       by_cases c : i < j
       . rw [List.getElem?_append_left (by omega), List.getElem?_take_of_lt c]
       . rw [List.getElem?_append_right (by omega), hl]
         obtain ⟨d, hd⟩ : ∃ d, i = j + 2 + d := ⟨i - (j + 2), by omega⟩
         subst hd
         rw [show j + 2 + d - j = d + 2 by omega]
         simp [List.getElem?_drop]
 rw [e2]
 conv => rhs; rw [e1]
 exact List.Perm.append_left _ (List.Perm.swap ..)
theorem J1e {lt : Int -> Int -> Bool} : ∀ {j : Nat} {l : List Int}, j < l.length -> (Jc5 lt l j).Perm l
 | 0, l, _ => .refl _
 | j + 1, l, h => by
   obtain ⟨x, h1⟩ := Jae (xs := l) (k := j) (by omega)
   obtain ⟨y, h2⟩ := Jae (xs := l) (k := j + 1) h
   unfold Jc5
   split
   . exact (J1e (by rw [Jos]; omega)).trans (J1x h1 h2)
   . exact .refl _
theorem Jwy {lt : Int -> Int -> Bool} : ∀ {f : Nat} {l : List Int} {i : Nat}, i + f <= l.length -> (Jei lt f l i).Perm l
 | 0, l, i, _ => .refl _
 | f + 1, l, i, h => by
   simp only [Jei]
   exact (Jwy (by rw [Jli]; omega)).trans (J1e (by omega))
theorem Jxr {lt : Int -> Int -> Bool} {l : List Int} : (Jde lt l).Perm l := by
 unfold Jde
 cases l with
 | nil => exact .refl _
 | cons a l => exact Jwy (by simp; omega)
structure LtOk (lt : Int -> Int -> Bool) : Prop where
 asymm : ∀ x y, lt x y = true -> lt y x = false
 ntrans : ∀ x y z, lt y x = false -> lt z y = false -> lt z x = false
def UpTo (lt : Int -> Int -> Bool) (q : List Int) (i : Nat) : Prop := ∀ (a b : Nat) x y, a < b -> b <= i -> q[a]? = some x -> q[b]? = some y -> lt y x = false
theorem J1g {lt : Int -> Int -> Bool} (ho : LtOk lt) {i : Nat} : ∀ {j : Nat} {q : List Int}, j <= i -> i < q.length -> (∀ (a b : Nat) x y, a < b -> b <= i -> a ≠ j -> b ≠ j -> q[a]? = some x -> q[b]? = some y -> lt y x = false) ->
   (∀ (b : Nat) x y, j < b -> b <= i -> q[j]? = some x -> q[b]? = some y -> lt y x = false) -> UpTo lt (Jc5 lt q j) i
 | 0, q, _, _, h1, h2 => by
   intro a b x y hab hb hx hy
   simp only [Jc5] at hx hy
   by_cases ha : a = 0
   . subst ha; exact h2 b x y hab hb hx hy
   . exact h1 a b x y hab hb ha (by omega) hx hy
 | j + 1, q, hj, hi, h1, h2 => by
   obtain ⟨u, e1⟩ := Jae (xs := q) (k := j) (by omega)
   obtain ⟨v, e2⟩ := Jae (xs := q) (k := j + 1) (by omega)
   have e1' : q[j]?.getD 0 = u := by rw [e1]; rfl
   have e2' : q[j + 1]?.getD 0 = v := by rw [e2]; rfl
   unfold Jc5
   rw [e1', e2']
   by_cases hlt : lt v u = true
   . rw [if_pos hlt]
     refine J1g ho (by omega) (by rw [Jos]; exact hi) (fun a b x y hab hb ha hb2 hx hy => ?_) (fun b x y hb hbi hx hy => ?_)
     . rw [Jst e1 e2] at hx hy
       rw [if_neg ha] at hx
       rw [if_neg hb2] at hy
       by_cases a1 : a = j + 1
       . rw [if_pos a1] at hx; cases hx
         rw [if_neg (by omega)] at hy
         exact h1 j b u y (by omega) hb (by omega) (by omega) e1 hy
       . rw [if_neg a1] at hx
         by_cases b1 : b = j + 1
         . rw [if_pos b1] at hy; cases hy
           exact h1 a j x u (by omega) (by omega) a1 (by omega) hx e1
         . rw [if_neg b1] at hy
           exact h1 a b x y hab hb a1 b1 hx hy
     . rw [Jst e1 e2] at hx hy
       rw [if_pos rfl] at hx; cases hx
       rw [if_neg (by omega)] at hy
       by_cases b1 : b = j + 1
       . rw [if_pos b1] at hy; cases hy
         exact ho.asymm _ _ hlt
       . rw [if_neg b1] at hy
         exact h2 b v y (by omega) hbi e2 hy
   . rw [if_neg hlt]
     have hf : lt v u = false := by simpa using hlt
     intro a b x y hab hb hx hy
     by_cases a1 : a = j + 1
     . subst a1; rw [e2] at hx; cases hx
       exact h2 b v y hab hb e2 hy
     . by_cases b1 : b = j + 1
       . subst b1; rw [e2] at hy; cases hy
         by_cases a2 : a = j
         . subst a2; rw [e1] at hx; cases hx; exact hf
         . exact ho.ntrans _ _ _ (h1 a j x u (by omega) (by omega) a1 (by omega) hx e1) hf
       . exact h1 a b x y hab hb a1 b1 hx hy
theorem Jwz {lt : Int -> Int -> Bool} (ho : LtOk lt) : ∀ {f : Nat} {q : List Int} {i : Nat}, 1 <= i -> i + f = q.length -> UpTo lt q (i - 1) -> UpTo lt (Jei lt f q i) (q.length - 1)
 | 0, q, i, _, h, hu => by
   simp only [Jei]
   rw [<- h]; exact hu
 | f + 1, q, i, h1, h, hu => by
   simp only [Jei]
   have h2 : UpTo lt (Jc5 lt q i) i := J1g ho (Nat.le_refl _) (by omega) (fun a b x y hab hb ha hb2 hx hy => hu a b x y hab (by omega) hx hy) (fun b x y hb hbi => by omega)
   have := Jwz ho (f := f) (q := Jc5 lt q i) (i := i + 1) (by omega) (by rw [Jli]; omega) h2
   rw [Jli] at this
   exact this
theorem Kaa {lt : Int -> Int -> Bool} (ho : LtOk lt) {l : List Int} : (Jde lt l).Pairwise fun x y => lt y x = false := by
 rw [List.pairwise_iff_getElem]
 intro a b ha hb hab
 rw [Jxq] at ha hb
 have hl : 0 < l.length := by omega
 have h := @Jwz lt ho (l.length - 1) l 1 (by omega) (by omega) (fun a b x y hab hb => by omega)
 exact h a b _ _ hab (by omega) (List.getElem?_eq_getElem (by rw [Jm3]; exact ha)) (List.getElem?_eq_getElem (by rw [Jm3]; exact hb))
end Go.Am
namespace Go.Am
open Go Go.Proofs Go.Pn
end Go.Am
namespace Go.Am
open Go Go.Proofs Go.Pn
theorem J4s (a b : Txt) : Pure Tryz.prog GL 63 [.p (.str a), .p (.str b)] (.p (.int .i64 (cmpS a b))) := by
 refine Pure.of_walk (N := 20) Tryz.func63 rfl rfl rfl (by simp) (by first | (simp; done) | simp [*]) ?_
 simp
 refine Jab (Jpv a) ?_
 simp
 refine Jab (Jpv b) ?_
 simp
 cases h1 : Op.bytesLess a b with
 | true => simp [Jaa, cmpS, h1]
 | false =>
   cases h2 : Op.bytesLess b a with
   | true =>
     have hne : ¬ a = b := fun e => by subst e; rw [Jdu] at h2; cases h2
     simp [Jaa, cmpS, h1, h2, hne]
   | false =>
     obtain rfl := Jhj h1 h2
     simp [Jaa, cmpS, Jdu]
def ltrL : List Txt := [[65], [83], [86], [90]]
theorem Ju2 (x : Lbl) (hl : x.ltr.length < 4611686018427387904) : Pure Tryz.prog GL 38 [x.av] (.p (.int .i64 (chkL x))) := by
 refine Pure.of_walk (N := 27) Tryz.func38 rfl rfl rfl (by simp) (by first | (simp; done) | simp [*]) ?_
 by_cases h1 : x.grp < 0
 . have e : chkL x = 2 := if_pos (.inl h1)
   simp [h1]
   simp [Jaa, e]
 by_cases h2 : 64 < x.grp
 . have e : chkL x = 2 := if_pos (.inr h2)
   simp [h1, h2]
   simp [Jaa, e]
 simp [h1, h2]
 refine Jcs ?_
 simp
 refine ⟨_, Jps ltrL x.ltr (by simp [ltrL]), rfl, ?_⟩
 by_cases h3 : x.ltr ∈ ltrL
 . by_cases h4 : x.num < 1
   . have e : chkL x = 2 := by unfold chkL; rw [if_neg (by omega), if_neg (fun hn => hn h3), if_pos (.inl h4)]
     simp [h3, h4]
     simp [Jaa, e]
   by_cases h5 : 64 < x.num
   . have e : chkL x = 2 := by unfold chkL; rw [if_neg (by omega), if_neg (fun hn => hn h3), if_pos (.inr h5)]
     simp [h3, h4, h5]
     simp [Jaa, e]
   have e : chkL x = 0 := by unfold chkL; rw [if_neg (by omega), if_neg (fun hn => hn h3), if_neg (by omega)]
   simp [h3, h4, h5]
   simp [Jaa, e]
 . have e : chkL x = 1 := by unfold chkL; rw [if_neg (by omega), if_pos (show ¬ x.ltr ∈ [([65] : Txt), [83], [86], [90]] from h3)]
   simp [h3]
   simp [Jaa, e]
theorem J48 (a b : Lbl) : Pure Tryz.prog GL 25 [a.av, b.av] (.p (.int .i64 (Jct a b))) := by
 refine Pure.of_walk (N := 22) Tryz.func25 rfl rfl rfl (by simp) (by first | (simp; done) | simp [*]) ?_
 simp
 refine Jak.intro (by kernel_rfl) ?_
 simp
 refine Jab (Jpt a.grp b.grp) ?_
 simp
 refine Jab (J4s a.ltr b.ltr) ?_
 simp
 refine Jab (Jpt a.num b.num) ?_
 simp
 refine Jcs ?_
 simp
 refine ⟨_, Jpu [cmpI a.grp b.grp, cmpS a.ltr b.ltr, cmpI a.num b.num] (by simp), rfl, ?_⟩
 simp [Jaa, Jct]
 exact .of (by kernel_rfl)
end Go.Am
namespace Go.Am
open Go Go.Proofs Go.Pn
end Go.Am
namespace Go.Am
open Go Go.Proofs Go.Pn
end Go.Am
namespace Go.Am
open Go Go.Proofs Go.Pn
def g1 (c : Circuit) (k i : Nat) : Int := if i < k then (match c.parts[i]? with
 | some p => if p.kind = 1 then cylN c (i + 1) else if p.kind = 0 then 0 else -1
 | none => -1) else 0
def g2 (c : Circuit) (k i : Nat) : Int := if i < k then grpK c c.parts.length i else g1 c c.parts.length i
theorem Kgv {l : List Int} {i : Nat} {x : Int} : (l.map Int.row).set i [.p (.int .i64 x)] = (l.set i x).map Int.row := by rw [List.map_set]
end Go.Am
namespace Go.Am
open Go Go.Proofs Go.Pn
theorem Jzc {A : Nat -> List Int} {g : List Int} {n : Nat} (hg : ∀ x ∈ g, -1 <= x) : ∀ x ∈ Jbd A g n, -1 <= x := by
 intro x hx
 obtain ⟨i, e⟩ := List.mem_iff_getElem?.1 hx
 have hi : i < g.length := by have := (gsI.1 e).1; rwa [Jer] at this
 rw [Jeq hi] at e
 obtain ⟨y, ey⟩ := Jae hi
 have hy := hg y (List.mem_of_getElem? ey)
 rw [Jcf ey] at e
 by_cases h : i < n /\ y = -1
 . rw [if_pos h] at e; cases e
   by_cases h1 : minG g (A i) (-1) = -1
   . omega
   . have := Jyz h1; omega
 . rw [if_neg h] at e; cases e; exact hy
theorem Jxv {A : Nat -> List Int} {g : List Int} {n : Nat} (hg : ∀ x ∈ g, -1 <= x) : ∀ {k : Nat}, ∀ x ∈ Jax A n g k, -1 <= x
 | 0 => hg
 | k + 1 => Jzc (Jxv hg)
theorem J9p {c : Circuit} {k i : Nat} : -1 <= grpK c k i := by
 unfold grpK
 have h1 := @Jmo c (i + 1)
 split
 . omega
 . split
   . split <;> omega
   . split
     . split <;> omega
     . split
       . rename_i p _ _ _ _
         have h2 := @Jmo c ((Jge c p.name).toNat + 1)
         split <;> omega
       . omega
theorem J8e {c : Circuit} {n k : Nat} : ∀ x ∈ firstT c n k, -1 <= x := by
 intro x hx
 obtain ⟨i, _, rfl⟩ := List.mem_map.1 hx
 exact J9p
end Go.Am
namespace Go.Am
open Go Go.Proofs Go.Pn
def Jex (k : Nat) : Txt := (Jof[k]?.getD ([], [])).1
def fndE (c : Circuit) (x : Lbl) : Int := if Jac c ≠ 0 then Jac c else if chkL x ≠ 0 then chkL x else if x ∈ Jb4 c then 0 else 6
def fndR (c : Circuit) (x : Lbl) : Int := if fndE c x ≠ 0 then 0 else idxI (Jb4 c) fun y => decide (y = x)
end Go.Am
namespace Go.Am
open Go Go.Proofs Go.Pn
theorem Kb2 {g : List Int} {B : Int} (hB : -1 <= B) (hg : ∀ x ∈ g, x <= B) {ks : List Int} : minG g ks (-1) <= B := by
 rcases @Jkx g ks with ⟨h1, _⟩ | ⟨⟨k, _, h1, h2⟩, _⟩
 . omega
 . rw [<- h1]
   unfold gAt
   cases e : g[k.toNat]? with
   | none => simpa using hB
   | some x => exact hg x (List.mem_of_getElem? e)
theorem Kcu {A : Nat -> List Int} {g : List Int} {n : Nat} {B : Int} (hB : -1 <= B) (hg : ∀ x ∈ g, x <= B) : ∀ x ∈ Jbd A g n, x <= B := by
 intro x hx
 obtain ⟨i, e⟩ := List.mem_iff_getElem?.1 hx
 have hi : i < g.length := by have := (gsI.1 e).1; rwa [Jer] at this
 rw [Jeq hi] at e
 obtain ⟨y, ey⟩ := Jae hi
 rw [Jcf ey] at e
 by_cases h : i < n /\ y = -1
 . rw [if_pos h] at e; cases e
   exact Kb2 hB hg
 . rw [if_neg h] at e; cases e; exact hg _ (List.mem_of_getElem? ey)
theorem Jxu {A : Nat -> List Int} {g : List Int} {n : Nat} {B : Int} (hB : -1 <= B) (hg : ∀ x ∈ g, x <= B) : ∀ {k : Nat}, ∀ x ∈ Jax A n g k, x <= B
 | 0 => hg
 | k + 1 => Kcu hB (Jxu hB hg)
theorem Jv8 {c : Circuit} {k : Nat} : cylN c k <= c.parts.length := by
 have h1 := @List.countP_le_length _ (fun p : Part => decide (p.kind = 1)) (c.parts.take k)
 have h2 : (c.parts.take k).length <= c.parts.length := by simp; omega
 unfold cylN; omega
theorem J8d {c : Circuit} {n k : Nat} : ∀ x ∈ firstT c n k, x <= c.parts.length := by
 intro x hx
 obtain ⟨i, _, rfl⟩ := List.mem_map.1 hx
 unfold grpK
 have h1 := @Jv8 c (i + 1)
 split
 . omega
 . split
   . split <;> omega
   . split
     . split <;> omega
     . split
       . rename_i p _ _ _ _
         have h2 := @Jv8 c ((Jge c p.name).toNat + 1)
         split <;> omega
       . omega
theorem J9n {c : Circuit} {i : Nat} {y : Int} (e : (Jcg c)[i]? = some y) : 0 <= y /\ y <= c.parts.length := by
 unfold Jcg at e
 rw [List.getElem?_map, Option.map_eq_some_iff] at e
 obtain ⟨x, h1, rfl⟩ := e
 have h2 : x <= c.parts.length := Jxu (by omega) J8d x (by unfold rawG endT at h1; exact List.mem_of_getElem? h1)
 omega
theorem Kbf {k : Int} : Jgj k ∈ [([65] : Txt), [83], [86], [90]] := by
 unfold Jgj
 split
 . simp
 . split
   . simp
   . split <;> simp
theorem Ji4 {c : Circuit} (h : Jac c = 0) {i : Nat} (hi : i < c.parts.length) : chkL (lblN c i) = 0 := by
 have h2 := (Ja8 h).2.1
 obtain ⟨y, ey⟩ := Jae (show i < (Jcg c).length by rw [Jm6]; exact hi)
 have h3 := J9n ey
 have h4 := @Jv3 c (keyG c i) i
 rw [Jhm]
 have e1 : (lblN c i).grp = y := Jcf ey
 refine ⟨by rw [e1]; omega, Kbf, ?_⟩
 show 1 <= ((cntG c (keyG c i) i : Nat) : Int) + 1 /\ ((cntG c (keyG c i) i : Nat) : Int) + 1 <= 64
 omega
theorem J11 {x : Lbl} (h : chkL x = 0) : (Ja0 x).length <= 5 := by
 obtain ⟨b, hb, _⟩ := Jnq h
 have hd : ∀ n, (digN n).length <= 2 := fun n => by unfold digN; split <;> simp
 have h1 := hd x.grp.toNat
 have h2 := hd x.num.toNat
 unfold Ja0
 rw [hb]
 simp only [List.length_append, List.length_cons, List.length_nil]
 omega
def Jel (c : Circuit) (i : Nat) : Txt := Ja0 (lblN c i) ++ (32 :: (nameAt c i ++ (32 :: Jex (Jaj c i).toNat)))
def legI (c : Circuit) (m i : Nat) : List Txt := ((List.range i).filter fun i => decide (Joc c i = m)).map (Jel c)
def legT (c : Circuit) (m : Nat) : List Txt := (List.range m).flatMap fun m => legI c m c.parts.length
def Jnk (c : Circuit) : List Txt := legT c c.parts.length
theorem Jyg {c : Circuit} : Jnk c = (Jb5 c).map (Jel c) := by
 unfold Jnk legT Jb5
 rw [List.map_flatMap]
 rfl
theorem Kiw {k : Nat} (h : k < 14) : (Jex k).length <= 10 := (by decide : ∀ k, k < 14 -> (Jex k).length <= 10) k h
end Go.Am
namespace Go.Am
open Go Go.Proofs Go.Pn
def toN (x : Int) : Int := if x = -1 then -1099511627776 else x
def nA (x : Int) : AV := .p (.int .i64 (toN x))
theorem Jjy {x : Int} (h : x ≠ -1) : toN x = x := if_neg h
theorem J13 : toN (-1) = -1099511627776 := rfl
theorem Khi {x y : Int} (hx : -1 <= x) (hy : -1 <= y) (h : toN x = toN y) : x = y := by
 unfold toN at h
 split at h <;> split at h <;> omega
def zrow (k : Nat) : List AV := (List.range 64).map fun j => if j < k then nA (-1) else .p (.int .i64 0)
theorem Jj8 {k : Nat} : (zrow k).length = 64 := by simp [zrow]
theorem Kja {k : Nat} : (zrow k).set k (nA (-1)) = zrow (k + 1) := by
 apply List.ext_getElem?
 intro i
 rw [List.getElem?_set, Jj8]
 by_cases hi : i < 64
 . have a : ∀ m, (zrow m)[i]? = some (if i < m then nA (-1) else .p (.int .i64 0)) := fun m => by simp [zrow, hi]
   rw [a, a]
   by_cases h : k = i
   . subst h; rw [if_pos rfl, if_pos hi, if_pos (by omega)]
   . rw [if_neg h]
     by_cases h2 : i < k
     . rw [if_pos h2, if_pos (by omega)]
     . rw [if_neg h2, if_neg (by omega)]
 . rw [List.getElem?_eq_none (show (zrow (k + 1)).length <= i by rw [Jj8]; omega), List.getElem?_eq_none (show (zrow k).length <= i by rw [Jj8]; omega)]
   split
   . rename_i hki; rw [if_neg (by omega)]
   . rfl
@[simp] theorem Kq6 {ρ : List Nat} {k : Nat} : renL ρ (zrow k) = some (zrow k) := by
 unfold zrow
 induction (List.range 64) with
 | nil => rfl
 | cons i l ih => rw [List.map_cons, renL, ih]; split <;> rfl
@[simp] theorem Kj1 {ρ : List Nat} {g : List Int} : renL ρ (g.map nA) = some (g.map nA) := by
 induction g with
 | nil => rfl
 | cons i l ih => rw [List.map_cons, renL, ih]; rfl
theorem Kb9 {S : Store} {g : List Int} : toL S (g.map nA) (g.map nA) := by
 induction g with
 | nil => simp [toL]
 | cons i l ih => rw [List.map_cons, toL]; exact ⟨by unfold nA; simp [toV], ih⟩
theorem Ki9 {c : Circuit} (h : Jac c = 0) : zrow 64 = (firstT c 64 0).map nA := by
 unfold zrow firstT
 rw [List.map_map]
 apply List.map_congr_left
 intro i hi
 rw [List.mem_range] at hi
 rw [if_pos hi]
 simp [J9q h]
def inG (g : List Int) (a b n : Int) (j : Nat) : List Int := if j = 0 then g else if j = 1 then setI g a n else setI (setI g a n) b n
theorem J9w {g : List Int} {a b n : Int} {j : Nat} : (inG g a b n j).length = g.length := by unfold inG; split; rfl; split <;> simp [Jon]
theorem J9x {g : List Int} {a b n : Int} {j : Nat} (hj : j < 2) : inG g a b n (j + 1) = setI (inG g a b n j) (if j = 0 then a else b) n := by
 have : j = 0 \/ j = 1 := by omega
 rcases this with rfl | rfl <;> simp [inG]
theorem Kgq {g : List Int} {a n : Int} (ha : 0 <= a) (hn : n ≠ -1) : (g.map nA).set a.toNat (.p (.int .i64 n)) = (setI g a n).map nA := by unfold setI; rw [if_pos ha, List.map_set, nA, Jjy hn]
theorem Jyn {c : Circuit} (h : Jac c = 0) {k : Nat} {p : Part} (e : c.parts[k]? = some p) (h1 : p.kind = 1) (d : UInt8) : Jc3 c p.name d = swAt c (p.name ++ [d]) := by
 have h2 : Jaj c k = 1 := by rw [Jgh e, h1]
 have h3 : Jfy c p.name = 0 := by
   unfold Jfy
   rw [if_neg (show ¬ Jac c ≠ 0 by omega), Jgk h e, if_neg (by omega), h2]
   rfl
 unfold Jc3
 rw [if_neg (by omega)]
theorem J1w {c : Circuit} (h : Jac c = 0) {k : Nat} {p : Part} (e : c.parts[k]? = some p) (d : UInt8) : swAt c (p.name ++ [d]) = -1 \/ (0 <= swAt c (p.name ++ [d]) /\ swAt c (p.name ++ [d]) < c.parts.length) := by
 rcases Jss h e d with ⟨h1, _⟩ | ⟨i, q, h1, h2, _, _⟩
 . exact .inl h1
 . have := (gsI.1 h2).1
   right; omega
set_option maxRecDepth 20000 in
theorem J47 (c : Circuit) (hs : Sized c) (h : Jac c = 0) : Pure Tryz.prog GL 33 [c.av] (.agg ((firstT c 64 c.parts.length).map nA)) := by
 refine Pure.of_walk (N := 64) Tryz.func33 rfl rfl rfl (by simp) (by first | (simp; done) | simp [*]) ?_
 have h2 := Ja8 h
 simp
 rw [show ([AV.p (.int .i64 0), AV.p (.int .i64 0), AV.p (.int .i64 0), AV.p (.int .i64 0), AV.p (.int .i64 0), AV.p (.int .i64 0), AV.p (.int .i64 0), AV.p (.int .i64 0), AV.p (.int .i64 0), AV.p (.int .i64 0), AV.p (.int .i64 0), AV.p (.int .i64 0), AV.p (.int .i64 0), AV.p (.int .i64 0), AV.p (.int .i64 0), AV.p (.int .i64 0), AV.p (.int .i64 0), AV.p (.int .i64 0), AV.p (.int .i64 0), AV.p (.int .i64 0), AV.p (.int .i64 0), AV.p (.int .i64 0), AV.p (.int .i64 0), AV.p (.int .i64 0), AV.p (.int .i64 0), AV.p (.int .i64 0), AV.p (.int .i64 0), AV.p (.int .i64 0), AV.p (.int .i64 0), AV.p (.int .i64 0), AV.p (.int .i64 0), AV.p (.int .i64 0), AV.p (.int .i64 0), AV.p (.int .i64 0), AV.p (.int .i64 0), AV.p (.int .i64 0), AV.p (.int .i64 0), AV.p (.int .i64 0), AV.p (.int .i64 0), AV.p (.int .i64 0), AV.p (.int .i64 0), AV.p (.int .i64 0), AV.p (.int .i64 0), AV.p (.int .i64 0), AV.p (.int .i64 0), AV.p (.int .i64 0), AV.p (.int .i64 0), AV.p (.int .i64 0), AV.p (.int .i64 0), AV.p (.int .i64 0), AV.p (.int .i64 0), AV.p (.int .i64 0), AV.p (.int .i64 0), AV.p (.int .i64 0), AV.p (.int .i64 0), AV.p (.int .i64 0), AV.p (.int .i64 0), AV.p (.int .i64 0), AV.p (.int .i64 0), AV.p (.int .i64 0), AV.p (.int .i64 0), AV.p (.int .i64 0), AV.p (.int .i64 0), AV.p (.int .i64 0)] : List AV) = zrow 0 from rfl]
 refine Jag.go [1, 2, 3] [0, 1] 0 [] (fun _ => []) (fun _ (k : Nat) => [(13, .p (.int .i64 k))]) (fun _ k => [(2, some (.cells 64 [zrow k]))]) (fun k => k <= 64) (fun k => 64 - k) 0 (by omega) ?_ ?_
 . simp
   try decide
 intro k hk
 have hzl := @Jj8 k
 have hzs := @Kja k
 simp
 refine Jad (fun h3 => ?_) (fun h3 => ?_)
 . simp at h3
   have h3' : k < 64 := by omega
   simp [h3, h3', hzl, -getElem?_pos, List.getElem?_cons_zero, List.getElem?_cons_succ]
   refine ⟨by omega, wrap_i64 (by omega) (by omega), k + 1, by omega, by omega, by omega, ?_⟩
   rw [show (AV.p (PV.int IntKind.i64 (-1099511627776))) = nA (-1) from rfl, hzs]
   exact Jcn _
 . simp at h3
   have hk2 : k = 64 := by omega
   subst hk2
   rw [Ki9 h]
   simp
   refine Jag.go [1, 2, 3, 20, 21] [0, 1] 0 [] (fun _ => []) (fun _ (k : Nat) => [(5, .p (.int .i64 (cylN c k))), (22, .p (.int .i64 k))]) (fun _ k => [(2, some (.cells 64 [(firstT c 64 k).map nA]))]) (fun k => k <= c.parts.length) (fun k => c.parts.length - k) 0 (by omega) ?_ ?_
   . simp [cylN]
     try decide
   intro k hk
   have hl := @Jce c 64 k
   have hcs := fun {p : Part} (e : c.parts[k]? = some p) => Jv9 e
   have hle := @J60 c k
   have hpos := @Jmo c k
   simp
   refine Jad (fun h3 => ?_) (fun h3 => ?_)
   . simp at h3
     obtain ⟨p, e⟩ := Jae h3
     have hcs := hcs e
     by_cases k0 : p.kind = 0
     . have hst := J8i (n := 64) h e k0 (by omega)
       rw [if_neg (by omega)] at hcs
       simp [h3, e, k0, hl, -getElem?_pos, List.getElem?_cons_zero, List.getElem?_cons_succ]
       refine ⟨by omega, by omega, wrap_i64 (by omega) (by omega), k + 1, by omega, by omega, ⟨by omega, by omega⟩, ?_⟩
       rw [hst, List.map_set]
       exact Jcn _
     . by_cases k1 : p.kind = 1
       . have hcyl := J8g (n := 64) h e k1 (by omega)
         have hl0 := Jyn h e k1 48
         have hl1 := Jyn h e k1 49
         have hr0 := J1w h e 48
         have hr1 := J1w h e 49
         have hnl := hs.names p (List.mem_of_getElem? e)
         rw [if_pos k1] at hcs
         generalize swAt c (p.name ++ [48]) = s0 at *
         generalize swAt c (p.name ++ [49]) = s1 at *
         have hcn : cylN c (k + 1) ≠ -1 := by omega
         have hw : IntKind.i64.wrap (cylN c k + 1) = cylN c (k + 1) := by rw [hcs]; exact wrap_i64 (by omega) (by omega)
         have hnn : AV.p (.int .i64 (cylN c (k + 1))) = nA (cylN c (k + 1)) := by unfold nA; rw [Jjy hcn]
         simp [h3, e, k1, hl, hw, -getElem?_pos, List.getElem?_cons_zero, List.getElem?_cons_succ]
         refine ⟨by omega, by omega, by omega, ?_⟩
         refine Jab (Juk c p.name hs hnl) ?_
         simp [hl0, hl1, -getElem?_pos, List.getElem?_cons_zero, List.getElem?_cons_succ]
         rw [<- hcs, show (List.map nA (firstT c 64 k)).set k (AV.p (.int .i64 (cylN c (k + 1)))) = List.map nA ((firstT c 64 k).set k (cylN c (k + 1))) by rw [hnn, List.map_set]]
         generalize hbase : (firstT c 64 k).set k (cylN c (k + 1)) = base at *
         have hbl : base.length = 64 := by rw [<- hbase, List.length_set, hl]
         generalize hn : cylN c (k + 1) = n at *
         refine Jag.go [1, 2, 3, 5, 20, 21, 22, 50, 51] [0, 1, 4] 0 [] (fun _ => []) (fun _ (j : Nat) => [(52, .p (.int .i64 j))]) (fun _ j => [(2, some (.cells 64 [(inG base s0 s1 n j).map nA]))]) (fun j => j <= 2) (fun j => 2 - j) 0 (by omega) ?_ ?_
         . simp [inG]
           try decide
         intro j hj
         have hr5 : List.range 5 = [0, 1, 2, 3, 4] := rfl
         have hil := (@J9w base s0 s1 n j).trans hbl
         have hist := @J9x base s0 s1 n j
         simp
         refine Jad (fun h4 => ?_) (fun h4 => ?_)
         . simp at h4
           have hj2 : j = 0 \/ j = 1 := by omega
           have hist := hist (by omega)
           have hel : [[AV.p (PV.int IntKind.i64 s0)], [AV.p (PV.int IntKind.i64 s1)]][j]? = some [AV.p (PV.int IntKind.i64 (if j = 0 then s0 else s1))] := by
             rcases hj2 with rfl | rfl <;> rfl
           generalize hx : (if j = 0 then s0 else s1) = x at *
           have hxr : x = -1 \/ (0 <= x /\ x < c.parts.length) := by rw [<- hx]; split <;> assumption
           by_cases hx0 : 0 <= x
           . have hset := @Kgq (inG base s0 s1 n j) x n hx0 hcn
             simp [h4, hel, hx0, hil, hr5, -getElem?_pos, List.getElem?_cons_zero, List.getElem?_cons_succ]
             rw [hset, <- hist]
             exact ⟨by omega, by omega, wrap_i64 (by omega) (by omega), j + 1, by omega, by omega, by omega, Jcn _⟩
           . have hset : setI (inG base s0 s1 n j) x n = inG base s0 s1 n j := by unfold setI; rw [if_neg hx0]
             simp [h4, hel, hx0, hil, hr5, -getElem?_pos, List.getElem?_cons_zero, List.getElem?_cons_succ]
             rw [hset] at hist
             exact ⟨wrap_i64 (by omega) (by omega), j + 1, by omega, by omega, by omega, by rw [hist]; exact Jcn _⟩
         . simp at h4
           have hj2 : j = 2 := by omega
           subst hj2
           simp
           exact ⟨wrap_i64 (by omega) (by omega), k + 1, by omega, by omega, ⟨hn.symm, by omega⟩, by rw [hcyl]; exact Jcn _⟩
       . have hst := J8h (n := 64) h e k1 k0
         rw [if_neg k1] at hcs
         simp [h3, e, k0, k1, hl, -getElem?_pos, List.getElem?_cons_zero, List.getElem?_cons_succ]
         refine ⟨wrap_i64 (by omega) (by omega), k + 1, by omega, by omega, ⟨by omega, by omega⟩, ?_⟩
         rw [hst]
         exact Jcn _
   . simp at h3
     have hk2 : k = c.parts.length := by omega
     subst hk2
     have hlen : (List.map nA (firstT c 64 c.parts.length)).length = 64 := by rw [List.length_map, hl]
     have ht : List.take 64 (List.map nA (firstT c 64 c.parts.length)) = List.map nA (firstT c 64 c.parts.length) := List.take_of_length_le (by omega)
     have hly : lay (zrow 0) 0 (List.map nA (firstT c 64 c.parts.length)) = List.map nA (firstT c 64 c.parts.length) := Jcx _ _ (by rw [Jj8, hlen])
     simp [Jaa, ht, hly, hl, Jj8]
     exact ⟨fun _ _ => rfl, Kb9⟩
end Go.Am
namespace Go.Am
open Go Go.Proofs Go.Pn
def rowI (x : Int) : List AV := [AV.p (.int .i64 x)]
def tab (f : Nat -> List Int) : List (List (List AV)) := (List.range 64).map fun i => (f i).map rowI
def tabP (f : Nat -> List Int) : List (List (List PV)) := (List.range 64).map fun i => (f i).map fun x => [PV.int .i64 x]
theorem Jdq {f : Nat -> List Int} : (tab f).length = 64 := by simp [tab]
theorem Jlm {f : Nat -> List Int} {i : Nat} (h : i < 64) : (tab f).getD i [] = (f i).map rowI := by simp [tab, List.getD_eq_getElem?_getD, h]
theorem Kg6 {f : Nat -> List Int} : ∀ l ∈ tab f, l.all Jay = true := by
 intro l hl
 obtain ⟨i, _, rfl⟩ := List.mem_map.1 hl
 rw [List.all_eq_true]
 intro r hr
 obtain ⟨x, _, rfl⟩ := List.mem_map.1 hr
 rfl
def nilRow : List AV := List.replicate 64 .nils
theorem Jfg : Jay nilRow = true := by decide +kernel
def kidC (f : Nat -> List Int) : List AV := Jfv 3 (tab f)
def kidK (f : Nat -> List Int) : Store := Jkv 3 (tab f)
theorem Jhs {f : Nat -> List Int} : (kidC f).length = 64 := by unfold kidC; rw [Kay, Jdq]
theorem Jng {f : Nat -> List Int} {i : Nat} (h : i < 64) : (kidC f)[i]? = some (.acc (3 + i) 1 (f i).length) := by
 unfold kidC
 rw [Kax (by rw [Jdq]; exact h), Jlm h, List.length_map]
theorem Jek {f : Nat -> List Int} {i : Nat} (h : i < 64) (s : Store) : get (kidK f ++ s) (3 + i) = accB 1 ((f i).map rowI) := by
 unfold kidK
 rw [J9f (by rw [Jdq]; exact h), Jlm h]
theorem Jdz {f : Nat -> List Int} {b : Nat} (h : b < 3 \/ 67 <= b) (s : Store) : get (kidK f ++ s) b = get s b := by
 unfold kidK
 rw [Jxa, if_neg (by rw [Jdq]; omega)]
theorem Leads.cellsK {G : Jaf} {N : Nat} {t' t : Jam} {s' K : Store} {nx' nx : Nat} {f : Nat -> List Int} {R : List AV} (m : Nat) (b : Nat -> Nat) (hnx : 67 + m <= nx)
   (hK : KidS (Stay 3 64 m) s' K) (ht : KidT (Stay 3 64 m) t' t)
   (ha : get s' 2 = some (.cells 64 [R])) (hRl : R.length = 64) (hR : ∀ i, i < 64 -> ∃ y, R[i]? = some y /\ wkn y (.acc (b i) 1 (f i).length))
   (hb : ∀ i, i < 64 -> ∀ x, accB 1 ((f i).map rowI) = some x -> get s' (b i) = some x) (hbn : ∀ i, i < 64 -> 3 <= b i /\ (b i < 67 \/ 67 + m <= b i)) (hbi : ∀ i j, i < 64 -> j < 64 -> b i = b j -> i = j) :
   Leads G N 0 ⟨t', s', nx'⟩ ⟨t, (2, some (.cells 64 [kidC f])) :: (kidK f ++ K), nx⟩ := by
 have h := @Leads.kid G N 0 t' t s' K nx' 2 3 nx (tab f) R m b (by omega) (by omega) (by rw [Jdq]; omega) (by rw [Jdq]; exact hK) (by rw [Jdq]; exact ht) (by rw [Jdq]; exact ha) (by rw [Jdq]; exact hRl)
   (fun i hi => by rw [Jdq] at hi; rw [Jlm hi, List.length_map]; exact hR i hi) (fun i hi => by rw [Jdq] at hi; rw [Jlm hi]; exact hb i hi)
   (fun i hi => by rw [Jdq] at hi ⊢; exact hbn i hi) (fun i j hi hj => by rw [Jdq] at hi hj; exact hbi i j hi hj) Kg6
 rw [Jdq] at h
 exact h
theorem Leads.cells0 {G : Jaf} {N : Nat} {t' t : Jam} {s' K : Store} {nx' nx : Nat} (hnx : 67 <= nx) (hK : KidS (Stay 3 64 0) s' K) (ht : KidT (Stay 3 64 0) t' t) (ha : get s' 2 = some (.cells 64 [nilRow])) :
   Leads G N 0 ⟨t', s', nx'⟩ ⟨t, (2, some (.cells 64 [kidC fun _ => []])) :: (kidK (fun _ => []) ++ K), nx⟩ :=
 .cellsK 0 (3 + ·) (by omega) hK ht ha (by simp [nilRow]) (fun i hi => ⟨.nils, by unfold nilRow; rw [List.getElem?_replicate, if_pos hi], by simp [wkn]⟩) (fun i _ x hx => by simp [accB] at hx) (fun i hi => by omega) (fun i j _ _ h => by omega)
theorem Leads.cellsS {G : Jaf} {N : Nat} {t' t : Jam} {s' K : Store} {nx' nx : Nat} {f : Nat -> List Int} (m : Nat) (hnx : 67 + m <= nx) (hK : KidS (Stay 3 64 m) s' K) (ht : KidT (Stay 3 64 m) t' t)
   (ha : get s' 2 = some (.cells 64 [kidC f])) (hb : ∀ i, i < 64 -> get s' (3 + i) = accB 1 ((f i).map rowI)) : Leads G N 0 ⟨t', s', nx'⟩ ⟨t, (2, some (.cells 64 [kidC f])) :: (kidK f ++ K), nx⟩ :=
 .cellsK m (3 + ·) hnx hK ht ha Jhs (fun i hi => ⟨_, Jng hi, by simp⟩) (fun i hi x hx => by rw [hb i hi, hx]) (fun i hi => by omega) (fun i j _ _ h => by omega)
def addC (f : Nat -> List Int) (k : Nat) (x : Int) (i : Nat) : List Int := if i = k then f k ++ [x] else f i
theorem Leads.cellsA {G : Jaf} {N : Nat} {t' t : Jam} {s' K : Store} {nx' nx : Nat} {f : Nat -> List Int} (m : Nat) {k b : Nat} {x : Int} (hk : k < 64) (hnx : 67 + m <= nx) (hbm : 67 + m <= b) (hK : KidS (Stay 3 64 m) s' K) (ht : KidT (Stay 3 64 m) t' t)
   (ha : get s' 2 = some (.cells 64 [(kidC f).set k (.acc b 1 ((f k).length + 1))])) (hbk : get s' b = accB 1 ((f k ++ [x]).map rowI)) (hb : ∀ i, i < 64 -> i ≠ k -> get s' (3 + i) = accB 1 ((f i).map rowI)) :
   Leads G N 0 ⟨t', s', nx'⟩ ⟨t, (2, some (.cells 64 [kidC (addC f k x)])) :: (kidK (addC f k x) ++ K), nx⟩ :=
 .cellsK m (fun i => if i = k then b else 3 + i) hnx hK ht ha (by rw [List.length_set, Jhs]) (fun i hi => by
   by_cases h : i = k
   . subst h
     refine ⟨_, List.getElem?_set_self (by rw [Jhs]; exact hi), ?_⟩
     rw [if_pos rfl]; simp [addC]
   . refine ⟨_, by rw [List.getElem?_set_ne (Ne.symm h)]; exact Jng hi, ?_⟩
     rw [if_neg h]; simp [addC, h]) (fun i hi y hy => by
   by_cases h : i = k
   . subst h
     simp only [if_pos]
     rw [hbk, <- hy]; simp [addC]
   . simp only [if_neg h]
     rw [hb i hi h, <- hy]; simp [addC, h]) (fun i hi => by split <;> omega) (fun i j hi hj h => by
   split at h <;> split at h <;> omega)
def inF (f : Nat -> List Int) (i : Nat) (xs : List Int) (j : Nat) (k : Nat) : List Int := if k = i then f k ++ xs.take j else f k
theorem Jxi {f : Nat -> List Int} {i : Nat} {xs : List Int} : inF f i xs 0 = f := by funext k; unfold inF; split <;> simp
theorem J9v {f : Nat -> List Int} {i j : Nat} {xs : List Int} {x : Int} (e : xs[j]? = some x) : inF f i xs (j + 1) = addC (inF f i xs j) i x := by
 funext k
 unfold addC inF
 by_cases h : k = i
 . subst h; simp [List.take_add_one, e]
 . simp [h]
theorem Jdk {s : Store} {p : Nat × Option ABlk} {b : Nat} (h : p.1 ≠ b) : get (p :: s) b = get s b := by
 obtain ⟨a, x⟩ := p
 simp only [get, if_neg h]
def actR (c : Circuit) (i : Nat) : List Int := if Jac c = 0 /\ i < c.parts.length then actK c i else []
def outP (c : Circuit) (k i : Nat) : List Int := ((allP c).take k).flatMap (actP c i)
theorem Ket {c : Circuit} {k : Nat} {p : Port} (e : (allP c)[k]? = some p) : outP c (k + 1) = fun i => outP c k i ++ actP c i p := by
 funext i
 unfold outP
 rw [List.take_add_one, e]
 simp
def outL (c : Circuit) (k i : Nat) : List Int := outP c (allP c).length i ++ if i < k then (limL c i).filter fun x => decide (0 <= x) else []
theorem Ker {c : Circuit} : outL c 0 = outP c (allP c).length := by funext i; simp [outL]
theorem Kep {c : Circuit} {i : Nat} (h : i < c.parts.length) : outL c c.parts.length i = actK c i := by unfold outL actK outP; rw [if_pos h, List.take_length]
theorem Keq {c : Circuit} {k : Nat} {p : Part} (_ : c.parts[k]? = some p) : outL c (k + 1) = fun i => if i = k then outL c k k ++ (limL c k).filter (fun x => decide (0 <= x)) else outL c k i := by
 funext i
 unfold outL
 by_cases h : i = k
 . subst h; simp
 . rw [if_neg h]
   by_cases h2 : i < k
   . rw [if_pos h2, if_pos (by omega)]
   . rw [if_neg h2, if_neg (by omega)]
def inQ (f : Nat -> List Int) (i : Nat) (xs : List Int) (j : Nat) : Nat -> List Int := inF f i ((xs.take j).filter fun x => decide (0 <= x)) ((xs.take j).filter fun x => decide (0 <= x)).length
theorem J90 {f : Nat -> List Int} {i : Nat} {xs : List Int} : inQ f i xs 0 = f := Jxi
theorem J9z {f : Nat -> List Int} {i j : Nat} {xs : List Int} {x : Int} (e : xs[j]? = some x) (h : 0 <= x) : inQ f i xs (j + 1) = addC (inQ f i xs j) i x := by
 funext k
 unfold addC inQ inF
 by_cases hk : k = i
 . subst hk; simp [List.take_add_one, e, h]
 . simp [hk]
theorem J9y {f : Nat -> List Int} {i j : Nat} {xs : List Int} {x : Int} (e : xs[j]? = some x) (h : ¬ 0 <= x) : inQ f i xs (j + 1) = inQ f i xs j := by
 funext k
 unfold inQ inF
 by_cases hk : k = i
 . subst hk; simp [List.take_add_one, e, h]
 . simp [hk]
theorem Jrl {c : Circuit} {k i : Nat} (h : (allP c).length <= 1200) : (outP c k i).length <= 1440000 := by
 have h1 : ∀ (l : List Port), (l.flatMap (actP c i)).length <= 1200 * l.length := fun l => by
   induction l with
   | nil => simp
   | cons p l ih =>
     rw [List.flatMap_cons, List.length_append, List.length_cons]
     have : (actP c i p).length <= 1200 := by
       unfold actP
       split
       . rw [List.length_map]
         exact Nat.le_trans (List.length_filter_le ..) (Nat.le_trans (List.length_filter_le ..) h)
       . simp
     omega
 have h2 := h1 ((allP c).take k)
 have h3 : ((allP c).take k).length <= (allP c).length := by rw [List.length_take]; exact Nat.min_le_right ..
 unfold outP
 omega
theorem Jtm {c : Circuit} {p : Port} {i : Nat} (j : Nat) (e : p.part = i) : actP c j p = if j = i then (if Jcv c p then (Jbx c (around c p) false).map (·.part) else []) else [] := by
 unfold actP
 by_cases h : j = i
 . subst h; simp [e]
 . rw [if_neg h, if_neg]
   simp; intro h2; omega
theorem Kes {c : Circuit} (h : Jdf c) {k i : Nat} (hi : c.parts.length <= i) : outP c k i = [] := by
 unfold outP
 rw [List.flatMap_eq_nil_iff]
 intro p hp
 obtain ⟨j, q, e1, e2, _⟩ := Jlc h (List.mem_of_mem_take hp)
 rw [Jtm i e1, if_neg (by omega)]
theorem Kaw {f : Nat -> List Int} : ∀ x ∈ kidC f, (match x with
   | AV.agg _ => false
   | AV.tup _ => false
   | AV.any => false
   | _ => true) = true := by
 intro x hx
 unfold kidC Jfv at hx
 obtain ⟨i, _, rfl⟩ := List.mem_map.1 hx
 rfl
theorem J12 {S : Store} {α : Type} {f g : α -> AV} : ∀ {l : List α}, (∀ i ∈ l, toV S (f i) (g i)) -> toL S (l.map f) (l.map g)
 | [], _ => by simp [toL]
 | i :: l, h => by
   rw [List.map_cons, List.map_cons, toL]
   exact ⟨h i (by simp), J12 fun j hj => h j (by simp [hj])⟩
theorem Khh {S : Store} {f : Nat -> List Int} (h : ∀ i, i < 64 -> get S (3 + i) = accB 1 ((f i).map rowI)) : toL S (kidC f) ((tabP f).map fun l => .p (.lst 1 l)) := by
 unfold kidC Jfv tabP
 rw [Jdq, List.map_map]
 refine J12 fun i hi => ?_
 rw [List.mem_range] at hi
 rw [Jlm hi]
 simp only [Function.comp, toV, List.length_map, true_and]
 rw [h i hi]
 have e : (List.map rowI (f i)) = List.map (fun x => List.map AV.p x) (List.map (fun x => [PV.int IntKind.i64 x]) (f i)) := by rw [List.map_map]; rfl
 unfold accB
 split
 . rename_i hn
   rw [<- e, hn]; rfl
 . rename_i hn
   exact ⟨rfl, hn, e⟩
set_option maxRecDepth 20000 in
theorem J46 (c : Circuit) (hs : Sized c) : Pure Tryz.prog GL 32 [c.av] (.tup [.agg ((tabP (actR c)).map fun l => .p (.lst 1 l)), .p (.int .i64 (Jac c))]) := by
 refine Pure.of_walk (N := 124) Tryz.func32 rfl rfl rfl (by simp) (by first | (simp; done) | simp [*]) ?_
 have hPo := Jun c hs
 simp
 refine Jab hPo ?_
 by_cases h : Jac c = 0
 . have h2 := Ja8 h
   have hal := Jik h2.1 (by omega)
   simp [h]
   rw [show ([AV.nils, AV.nils, AV.nils, AV.nils, AV.nils, AV.nils, AV.nils, AV.nils, AV.nils, AV.nils, AV.nils, AV.nils, AV.nils, AV.nils, AV.nils, AV.nils, AV.nils, AV.nils, AV.nils, AV.nils, AV.nils, AV.nils, AV.nils, AV.nils, AV.nils, AV.nils, AV.nils, AV.nils, AV.nils, AV.nils, AV.nils, AV.nils, AV.nils, AV.nils, AV.nils, AV.nils, AV.nils, AV.nils, AV.nils, AV.nils, AV.nils, AV.nils, AV.nils, AV.nils, AV.nils, AV.nils, AV.nils, AV.nils, AV.nils, AV.nils, AV.nils, AV.nils, AV.nils, AV.nils, AV.nils, AV.nils, AV.nils, AV.nils, AV.nils, AV.nils, AV.nils, AV.nils, AV.nils, AV.nils] : List AV) = nilRow from rfl]
   refine Jag.goK [1, 2, 4, 31, 32] [0, 1] 64 (fun _ (k : Nat) => [(33, .p (.int .i64 k))]) (fun _ k => (2, some (.cells 64 [kidC (outP c k)])) :: kidK (outP c k)) (fun k => k <= (allP c).length) (fun k => (allP c).length - k) 0 (by omega) ?_ ?_
   . refine .cells0 (by omega) ?_ ?_ ?_
     . simp [Stay, Jfg]
     . simp [Stay]
     . simp [get]
   intro k hk
   generalize hf : outP c k = f at *
   have hkl := @Jhs f
   have lo0 : ∀ s, get (kidK f ++ s) 0 = get s 0 := fun s => Jdz (by omega) s
   have lo1 : ∀ s, get (kidK f ++ s) 1 = get s 1 := fun s => Jdz (by omega) s
   have lo2 : ∀ s, get (kidK f ++ s) 2 = get s 2 := fun s => Jdz (by omega) s
   simp
   refine Jad (fun h3 => ?_) (fun h3 => ?_)
   . simp at h3
     obtain ⟨p, e⟩ := Jae h3
     have hp : p ∈ allP c := List.mem_of_getElem? e
     obtain ⟨i, q, e1, e2, e3, e4, e5, e6, e7, e8⟩ := Jlc h2.1 hp
     have hro := Jpw q.kind p.name e5
     rw [e7, if_neg (by omega), if_neg (by omega)] at hro
     simp [h3, e, e1, e3, -getElem?_pos, List.getElem?_cons_zero, List.getElem?_cons_succ]
     refine Jak.intro (by kernel_rfl) ?_
     simp [e2, e3, Part.enc, lo0, lo1, lo2, -getElem?_pos, List.getElem?_cons_zero, List.getElem?_cons_succ]
     refine Jab hro ?_
     simp
     refine ⟨.of (by kernel_rfl), ?_⟩
     have hsn := Ket e
     have hact := fun j => @Jtm c p i j e1
     by_cases hg : Jbk c p = 1
     . have htk := J4v c p hs
       have hse : Jdi c p = 0 := by unfold Jdi; rw [if_neg (by simpa using h), Jgb.1 hp]
       have hsl : Jhb c p false = Jbx c (around c p) false := by unfold Jhb; rw [if_neg (by simpa using hse)]
       have hgv : Jcv c p = true := decide_eq_true hg
       rw [hse, hsl] at htk
       obtain ⟨pi, pn⟩ := p
       simp only at e1
       subst e1
       have htp : ∀ t ∈ Jbx c (around c ⟨(i : Int), pn⟩) false, t ∈ allP c := fun t ht => (List.mem_filter.1 (List.mem_filter.1 ht).1).1
       have hTl : (Jbx c (around c ⟨(i : Int), pn⟩) false).length <= 1200 := Nat.le_trans (List.length_filter_le ..) (Nat.le_trans (List.length_filter_le ..) hal)
       generalize Jbx c (around c ⟨(i : Int), pn⟩) false = T at *
       simp [hg, lo0, lo1, lo2]
       refine Jab htk ?_
       simp [hg, lo0, lo1, lo2]
       refine Jag.goK [1, 2, 4, 8, 31, 32, 33, 66, 67] [0, 1, 67] 0 (fun _ (j : Nat) => [(68, .p (.int .i64 j))]) (fun _ j => (2, some (.cells 64 [kidC (inF f i (T.map (·.part)) j)])) :: kidK (inF f i (T.map (·.part)) j)) (fun j => j <= T.length) (fun j => T.length - j) 0 (by omega) ?_ ?_
       . rw [Jxi]
         refine .cellsS 1 (by omega) ?_ ?_ ?_ ?_
         . simp [Stay, Jfg, get, lo0, lo1]
         . simp [Stay]
         . simp [get]
         . exact fun j hj => by rw [Jdk (by simp; omega), Jdk (by simp; omega), Jdk (by simp; omega), Jek hj]
       . intro j hj
         generalize hf' : inF f i (T.map (·.part)) j = f' at *
         have hkl' := @Jhs f'
         have li0 : ∀ s, get (kidK f' ++ s) 0 = get s 0 := fun s => Jdz (by omega) s
         have li1 : ∀ s, get (kidK f' ++ s) 1 = get s 1 := fun s => Jdz (by omega) s
         have li2 : ∀ s, get (kidK f' ++ s) 2 = get s 2 := fun s => Jdz (by omega) s
         have li67 : ∀ s, get (kidK f' ++ s) 67 = get s 67 := fun s => Jdz (by omega) s
         have hi64 : i < 64 := by omega
         have hfl : (f' i).length <= 1500000 := by
           have h9 := Jrl (k := k) (i := i) hal
           rw [<- hf', inF, if_pos rfl, List.length_append, <- hf]
           have : (List.take j (List.map (fun x => x.part) T)).length <= T.length := by rw [List.length_take, List.length_map]; exact Nat.min_le_right ..
           have : T.length <= 1200 := hTl
           omega
         have hat := Jng (f := f') hi64
         have hki : ∀ s, get (kidK f' ++ s) (3 + i) = accB 1 ((f' i).map rowI) := fun s => Jek hi64 s
         simp [lo0, lo1]
         refine Jad (fun h4 => ?_) (fun h4 => ?_)
         . simp at h4
           obtain ⟨t, et⟩ := Jae h4
           simp [h4, et, lo0, lo1, li0, li1, li2, li67, -getElem?_pos, List.getElem?_cons_zero, List.getElem?_cons_succ]
           refine Jak.intro (by kernel_rfl) ?_
           have n1 : ¬ 68 = 3 + i := by omega
           have n2 : ¬ 2 = 3 + i := by omega
           have n3 : ¬ 3 + i = 2 := by omega
           have n4 : ¬ 3 + i = 68 := by omega
           have n5 : ¬ 69 = 3 + i := by omega
           have n6 : ¬ 70 = 3 + i := by omega
           have n7 : ¬ 71 = 3 + i := by omega
           have n9 : ¬ 67 = 3 + i := by omega
           have n10 : ¬ 3 + i = 1 := by omega
           have n11 : ¬ 3 + i = 67 := by omega
           have n8 : ((f' i).length + 1) * 8 <= 35184372088832 := by omega
           simp [hat, hki, hkl', hi64, n1, n2, n3, n4, n5, n6, n7, n8, li0, li1, li2, li67, -getElem?_pos, List.getElem?_cons_zero, List.getElem?_cons_succ]
           refine ⟨by omega, by omega, by omega, fun _ _ => rfl, by omega, by omega, Bears.swap 999999 (3 + i) (fps' := [([], []), ([67], []), ([], []), ([67], []), ([], []), ([2], []), ([], []), ([68], []), ([], [69]), ([999999, 69], [70, 999999]), ([], []), ([2], [2])]) (by simp [renF, swp, n1, n2, n3, n4, n5, n6, n7, n9]) (by kernel_rfl), wrap_i64 (by omega) (by omega), j + 1, by omega, by omega, ?_⟩
           rw [J9v (x := t.part) (by simp [et]), hf']
           refine .cellsA 1 (b := 70) hi64 (by omega) (by omega) ?_ ?_ ?_ ?_ ?_
           . simp [Stay, Jfg, get, lo0, lo1, li0, li1, li67, n5, n6, n1, n10, n11]
           . simp [Stay]
           . simp [get]
           . simp [get, rowI]
           . intro m hm hmi
             repeat rw [Jdk (by simp; omega)]
             exact Jek hm _
         . simp at h4
           have hj2 : j = T.length := by omega
           subst hj2
           simp
           have he : outP c (k + 1) = f' := by
             rw [hsn, hf, <- hf']; funext x; rw [hact x, hgv]; unfold inF
             by_cases hx : x = i <;> simp [hx]
           refine ⟨wrap_i64 (by omega) (by omega), k + 1, by omega, by omega, ?_⟩
           rw [he]
           refine .cellsS 0 (by omega) ?_ ?_ ?_ ?_
           . simp [Stay, Jfg, get, li0, li1]
           . simp [Stay]
           . simp [get]
           . exact fun m hm => by rw [Jdk (by simp; omega), Jek hm]
     . have hgv : Jcv c p = false := decide_eq_false hg
       have he : outP c (k + 1) = f := by rw [hsn, hf]; funext j; rw [hact j, hgv]; simp
       simp [hg]
       refine ⟨wrap_i64 (by omega) (by omega), k + 1, by omega, by omega, ?_⟩
       rw [he]
       refine .cellsS 0 (by omega) ?_ ?_ ?_ ?_
       . simp [Stay, Jfg, get, lo0, lo1]
       . simp [Stay]
       . simp [get]
       . exact fun j hj => by rw [Jdk (by simp; omega), Jdk (by simp; omega), Jdk (by simp; omega), Jek hj]
   . simp at h3
     have hk2 : k = (allP c).length := by omega
     subst hk2
     simp [lo0, lo1, lo2]
     refine Jag.goK [1, 2, 4, 86, 87] [0, 1] 0 (fun _ (k : Nat) => [(88, .p (.int .i64 k))]) (fun _ k => (2, some (.cells 64 [kidC (outL c k)])) :: kidK (outL c k)) (fun k => k <= c.parts.length) (fun k => c.parts.length - k) 0 (by omega) ?_ ?_
     . rw [Ker, hf]
       refine .cellsS 0 (by omega) ?_ ?_ ?_ ?_
       . simp [Stay, Jfg, get, lo0, lo1]
       . simp [Stay]
       . simp [get]
       . exact fun m hm => by rw [Jdk (by simp; omega), Jek hm]
     intro k hk
     generalize hf' : outL c k = f' at *
     have hkl' := @Jhs f'
     have li0 : ∀ s, get (kidK f' ++ s) 0 = get s 0 := fun s => Jdz (by omega) s
     have li1 : ∀ s, get (kidK f' ++ s) 1 = get s 1 := fun s => Jdz (by omega) s
     have li2 : ∀ s, get (kidK f' ++ s) 2 = get s 2 := fun s => Jdz (by omega) s
     simp [lo0, lo1]
     refine Jad (fun h3 => ?_) (fun h3 => ?_)
     . simp at h3
       obtain ⟨p, e⟩ := Jae h3
       simp [h3, e, li0, li1, li2, lo0, lo1, -getElem?_pos, List.getElem?_cons_zero, List.getElem?_cons_succ]
       refine Jab (Juk c p.name hs (hs.names p (List.mem_of_getElem? e))) ?_
       have hst := Keq e
       rw [hf'] at hst
       by_cases hle : Jfy c p.name = 0
       . rw [limL, Jrd e, if_pos hle] at hst
         generalize Jc3 c p.name 48 = s0 at *
         generalize Jc3 c p.name 49 = s1 at *
         simp [hle, li0, li1, li2, lo0, lo1, -getElem?_pos, List.getElem?_cons_zero, List.getElem?_cons_succ]
         refine Jag.goK [1, 2, 4, 15, 86, 87, 88, 105, 106] [0, 1, 68] 0 (fun _ (j : Nat) => [(107, .p (.int .i64 j))]) (fun _ j => (2, some (.cells 64 [kidC (inQ f' k [s0, s1] j)])) :: kidK (inQ f' k [s0, s1] j)) (fun j => j <= 2) (fun j => 2 - j) 0 (by omega) ?_ ?_
         . rw [J90]
           refine .cellsS 2 (by omega) ?_ ?_ ?_ ?_
           . simp [Stay, Jfg, get, li0, li1, lo0, lo1]
           . simp [Stay]
           . simp [get]
           . intro m hm
             repeat rw [Jdk (by simp; omega)]
             exact Jek hm _
         intro j hj
         have hpos := fun {x : Int} => @J9z f' k j [s0, s1] x
         have hneg := fun {x : Int} => @J9y f' k j [s0, s1] x
         have hfl : (inQ f' k [s0, s1] j k).length <= 1500000 := by
           have h9 := Jrl (k := (allP c).length) (i := k) hal
           have h10 : ∀ i (l : List Int), (inQ f' k l i k).length <= (f' k).length + l.length := fun i l => by
             unfold inQ inF
             rw [if_pos rfl, List.length_append]
             have a1 : (l.take i).length <= l.length := by rw [List.length_take]; exact Nat.min_le_right ..
             have a2 := List.length_filter_le (fun x => decide (0 <= x)) (l.take i)
             rw [List.take_length]
             omega
           have h11 := h10 j [s0, s1]
           have h12 : f' k = outP c (allP c).length k := by rw [<- hf', outL, if_neg (by omega), List.append_nil]
           rw [h12] at h11
           simp only [List.length_cons, List.length_nil] at h11
           omega
         generalize hg : inQ f' k [s0, s1] j = g at *
         have hkg := @Jhs g
         have lj0 : ∀ s, get (kidK g ++ s) 0 = get s 0 := fun s => Jdz (by omega) s
         have lj1 : ∀ s, get (kidK g ++ s) 1 = get s 1 := fun s => Jdz (by omega) s
         have lj2 : ∀ s, get (kidK g ++ s) 2 = get s 2 := fun s => Jdz (by omega) s
         have lj68 : ∀ s, get (kidK g ++ s) 68 = get s 68 := fun s => Jdz (by omega) s
         have hi64 : k < 64 := by omega
         have hat := Jng (f := g) hi64
         have hki : ∀ s, get (kidK g ++ s) (3 + k) = accB 1 ((g k).map rowI) := fun s => Jek hi64 s
         simp [lo0, lo1, li0, li1]
         refine Jad (fun h4 => ?_) (fun h4 => ?_)
         . simp at h4
           have hj2 : j = 0 \/ j = 1 := by omega
           have hel : [[AV.p (PV.int IntKind.i64 s0)], [AV.p (PV.int IntKind.i64 s1)]][j]? = some [AV.p (PV.int IntKind.i64 (if j = 0 then s0 else s1))] := by
             rcases hj2 with rfl | rfl <;> rfl
           have hel2 : [s0, s1][j]? = some (if j = 0 then s0 else s1) := by
             rcases hj2 with rfl | rfl <;> rfl
           generalize (if j = 0 then s0 else s1) = x at *
           have n1 : ¬ 68 = 3 + k := by omega
           have n2 : ¬ 2 = 3 + k := by omega
           have n3 : ¬ 3 + k = 2 := by omega
           have n4 : ¬ 3 + k = 68 := by omega
           have n5 : ¬ 69 = 3 + k := by omega
           have n6 : ¬ 70 = 3 + k := by omega
           have n7 : ¬ 71 = 3 + k := by omega
           have n8 : ((g k).length + 1) * 8 <= 35184372088832 := by omega
           have n9 : ¬ 67 = 3 + k := by omega
           have n10 : ¬ 3 + k = 1 := by omega
           have n11 : ¬ 3 + k = 67 := by omega
           by_cases hx0 : 0 <= x
           . have hpos := hpos hel2 hx0
             simp [h4, hel, hx0, lj0, lj1, lj2, lj68, li0, li1, lo0, lo1, hat, hki, hkg, hi64, n1, n2, n3, n4, n5, n6, n7, n8, -getElem?_pos, List.getElem?_cons_zero, List.getElem?_cons_succ]
             refine ⟨by omega, by omega, by omega, fun _ _ => rfl, by omega, by omega, wrap_i64 (by omega) (by omega), j + 1, by omega, by omega, ?_⟩
             rw [hpos]
             refine .cellsA 2 (b := 70) hi64 (by omega) (by omega) ?_ ?_ ?_ ?_ ?_
             . simp [Stay, Jfg, get, lj0, lj1, lj68, n5, n6, n1, n4, n10, n11]
             . simp [Stay]
             . simp [get]
             . simp [get, rowI]
             . intro m hm hmi
               repeat rw [Jdk (by simp; omega)]
               exact Jek hm _
           . have hneg := hneg hel2 hx0
             simp [h4, hel, hx0, lj0, lj1, lj2, lj68, li0, li1, lo0, lo1, -getElem?_pos, List.getElem?_cons_zero, List.getElem?_cons_succ]
             refine ⟨wrap_i64 (by omega) (by omega), j + 1, by omega, by omega, ?_⟩
             rw [hneg]
             refine .cellsS 2 (by omega) ?_ ?_ ?_ ?_
             . simp [Stay, Jfg, get, lj0, lj1, lj68]
             . simp [Stay]
             . simp [get]
             . intro m hm
               repeat rw [Jdk (by simp; omega)]
               exact Jek hm _
         . simp at h4
           have hj2 : j = 2 := by omega
           subst hj2
           simp
           have he : outL c (k + 1) = g := by
             rw [hst, <- hg]; funext x
             unfold inQ inF
             rw [List.take_length]
             by_cases hx : x = k
             . subst hx; simp
             . simp [hx]
           refine ⟨wrap_i64 (by omega) (by omega), k + 1, by omega, by omega, ?_⟩
           rw [he]
           refine .cellsS 0 (by omega) ?_ ?_ ?_ ?_
           . simp [Stay, Jfg, get, lj0, lj1, lo0, lo1]
           . simp [Stay]
           . simp [get]
           . intro m hm
             repeat rw [Jdk (by simp; omega)]
             exact Jek hm _
       . rw [limL, Jrd e, if_neg hle] at hst
         simp [hle, li0, li1, li2, lo0, lo1, -getElem?_pos, List.getElem?_cons_zero, List.getElem?_cons_succ]
         have he : outL c (k + 1) = f' := by
           rw [hst]; funext x
           by_cases hx : x = k
           . subst hx; simp
           . simp [hx]
         refine ⟨wrap_i64 (by omega) (by omega), k + 1, by omega, by omega, ?_⟩
         rw [he]
         refine .cellsS 0 (by omega) ?_ ?_ ?_ ?_
         . simp [Stay, Jfg, get, li0, li1]
         . simp [Stay]
         . simp [get]
         . intro m hm
           repeat rw [Jdk (by simp; omega)]
           exact Jek hm _
     . simp at h3
       have hk2 : k = c.parts.length := by omega
       subst hk2
       have ht : List.take 64 (kidC f') = kidC f' := List.take_of_length_le (by omega)
       have hly : lay nilRow 0 (kidC f') = kidC f' := Jcx _ _ (by rw [hkl']; rfl)
       simp [li1, li2, hkl', ht, hly]
       refine ⟨by decide, Kaw, ?_⟩
       have htab : tabP (actR c) = tabP f' := by
         unfold tabP
         apply List.map_congr_left
         intro i hi
         rw [<- hf']
         unfold actR
         by_cases hp : i < c.parts.length
         . rw [if_pos ⟨h, hp⟩, Kep hp]
         . rw [if_neg (by omega), outL, if_neg hp, Kes h2.1 (by omega)]
           rfl
       rw [htab, h]
       simp [Jaa, hkl', ht]
       refine Khh fun i hi => ?_
       repeat rw [Jdk (by simp; omega)]
       exact Jek hi _
 . simp [h]
   have ht : tabP (actR c) = List.replicate 64 [] := by
     unfold tabP
     rw [List.eq_replicate_iff]
     refine ⟨by simp, fun x hx => ?_⟩
     obtain ⟨i, _, rfl⟩ := List.mem_map.1 hx
     unfold actR
     rw [if_neg (by omega)]; rfl
   rw [ht]
   simp [Jaa]
end Go.Am
namespace Go.Am
open Go Go.Proofs Go.Pn
def itP (c : Circuit) (k : Nat) : List Int := Jax (fun i => actK c (i : Int)) c.parts.length (firstT c 64 c.parts.length) k
def nxP (c : Circuit) (g : List Int) (i : Nat) : List Int := Jbd (fun i => actK c (i : Int)) g i
theorem Kac {c : Circuit} {k : Nat} : (itP c k).length = 64 := by unfold itP; rw [Jku, Jce]
theorem Kad {c : Circuit} {k : Nat} : ∀ x ∈ itP c k, -1 <= x := Jxv J8e
theorem Kae {c : Circuit} {k : Nat} : nxP c (itP c k) c.parts.length = itP c (k + 1) := rfl
theorem Jxs {c : Circuit} {k : Nat} (hp : ∀ j, j < k -> itP c (j + 1) ≠ itP c j) : k <= 64 := by
 have h1 := @Jnf (fun i => actK c (i : Int)) c.parts.length (firstT c 64 c.parts.length) k hp
 have h2 := @Jrk (firstT c 64 c.parts.length)
 rw [Jce] at h2
 omega
theorem Kab {c : Circuit} (hn : c.parts.length <= 64) {k : Nat} (hp : ∀ j, j < k -> itP c (j + 1) ≠ itP c j) (he : itP c (k + 1) = itP c k) : itP c k = padT (rawG c) 64 := by
 rw [<- J7v hn]
 exact J7w hp he
theorem J3c {c : Circuit} {i : Nat} (hi : i < c.parts.length) {x : Int} (hx : x ∈ actK c i) : 0 <= x /\ x < c.parts.length :=
 Jmp ⟨by omega, by omega⟩ (Jyu.1 hx)
theorem Kj0 {g : List Int} : ∀ x ∈ g.map nA, (match x with
   | AV.agg _ => false
   | AV.tup _ => false
   | AV.any => false
   | _ => true) = true := by
 intro x hx
 obtain ⟨i, _, rfl⟩ := List.mem_map.1 hx
 rfl
def zeros : List AV := List.replicate 64 (.p (.int .i64 0))
def Jfo (c : Circuit) : List AV := (tabP (actR c)).map fun l => .p (.lst 1 l)
theorem J3e {c : Circuit} : (Jfo c).length = 64 := by simp [Jfo, tabP]
theorem J3d {c : Circuit} (h : Jac c = 0) {i : Nat} (hi : i < c.parts.length) (hn : c.parts.length <= 64) : (Jfo c)[i]? = some (.p (.lst 1 ((actK c i).map fun x => [PV.int .i64 x]))) := by
 have : i < 64 := by omega
 simp [Jfo, tabP, this, actR, h, hi]
theorem Jtn {c : Circuit} : ∀ x ∈ Jfo c, (match x with
   | AV.agg _ => false
   | AV.tup _ => false
   | AV.any => false
   | _ => true) = true := by
 intro x hx
 obtain ⟨i, _, rfl⟩ := List.mem_map.1 hx
 rfl
@[simp] theorem Kjd {c : Circuit} {ρ : List Nat} : renL ρ (Jfo c) = some (Jfo c) := by
 refine Jjn ?_
 unfold Jfo
 induction tabP (actR c) with
 | nil => rfl
 | cons i l ih => rw [List.map_cons, Jay, ih]; rfl
theorem Jrc {g : List Int} : ∀ x ∈ g, (match nA x with
   | AV.agg _ => false
   | AV.tup _ => false
   | AV.any => false
   | _ => true) = true := fun _ _ => rfl
theorem J3b {c : Circuit} {i : Nat} (h : Jac c = 0) : (actK c i).length <= 1500000 := by
 have h2 := Ja8 h
 have h3 := Jrl (k := (allP c).length) (i := i) (Jik h2.1 (by omega))
 have h4 : ((limL c i).filter fun x => decide (0 <= x)).length <= 2 := by
   refine Nat.le_trans (List.length_filter_le ..) ?_
   unfold limL; split <;> simp
 unfold outP at h3
 rw [List.take_length] at h3
 unfold actK
 rw [List.length_append]
 omega
theorem Jwf {y : TyI} (h1 : y.agg = false) (h2 : y.size = 1) {eq : AV -> AV -> Option Bool} (heq : ∀ a b, eq (.p (.int .i64 a)) (.p (.int .i64 b)) = some (decide (a = b))) {g h : List Int} (hg : ∀ x ∈ g, -1 <= x) (hh : ∀ x ∈ h, -1 <= x) :
   ∀ (is : List Nat), (∀ i ∈ is, i < g.length /\ i < h.length) -> eqI eq y (g.map nA) (h.map nA) is = some (decide (∀ i ∈ is, g[i]? = h[i]?))
 | [], _ => by simp [eqI]
 | i :: is, hi => by
   obtain ⟨a, ea⟩ := Jae (hi i (by simp)).1
   obtain ⟨b, eb⟩ := Jae (hi i (by simp)).2
   have ih := Jwf h1 h2 heq hg hh is fun j hj => hi j (by simp [hj])
   have ha := hg a (List.mem_of_getElem? ea)
   have hb := hh b (List.mem_of_getElem? eb)
   have e1 : (g.map nA)[i]? = some (.p (.int .i64 (toN a))) := by rw [List.getElem?_map, ea]; rfl
   have e2 : (h.map nA)[i]? = some (.p (.int .i64 (toN b))) := by rw [List.getElem?_map, eb]; rfl
   have hiff : toN a = toN b ↔ a = b := ⟨Khi ha hb, fun h => by rw [h]⟩
   simp only [eqI, Jhx, h1, h2, Nat.mul_one, Bool.false_eq_true, if_false, e1, e2, Option.bind_some, heq, ih, Option.map_some, Option.some.injEq]
   simp only [List.mem_cons, forall_eq_or_imp, ea, eb, Option.some.injEq]
   by_cases hab : a = b <;> simp [hab, hiff]
theorem Kgg {g h : List Int} (hgl : g.length = 64) (hhl : h.length = 64) (hg : ∀ x ∈ g, -1 <= x) (hh : ∀ x ∈ h, -1 <= x) (f : Bool -> Prop) (k : f (decide (g = h))) : VEq Tryz.prog 76 (g.map nA) (h.map nA) f := by
 refine ⟨by kernel_rfl, ?_⟩
 have e : eqA Tryz.prog 8 76 (.agg (g.map nA)) (.agg (h.map nA)) = some (decide (g = h)) := by
   have hty : ∃ y, tyOf Tryz.prog 3 = some y /\ y.agg = false /\ y.size = 1 := ⟨_, ty3, rfl, rfl⟩
   obtain ⟨y, e1, e2, e3⟩ := hty
   have hu : Tryz.prog.underlying 76 = some (.array 64 3) := by kernel_rfl
   unfold eqA
   rw [hu]
   simp only [e1, Option.bind_some]
   rw [Jwf e2 e3 (fun a b => by unfold eqA; rw [show Tryz.prog.underlying 3 = some (.int .i64) by kernel_rfl]; simp) hg hh (List.range 64) (fun i hi => by rw [List.mem_range] at hi; omega)]
   refine congrArg some (decide_eq_decide.2 ?_)
   constructor
   . intro h
     apply List.ext_getElem?
     intro i
     by_cases hi : i < 64
     . exact h i (by simp [hi])
     . rw [List.getElem?_eq_none (by omega), List.getElem?_eq_none (by omega)]
   . rintro rfl _ _; rfl
 rw [e]
 exact k
def upG (c : Circuit) (k : Nat) : List Int := (Jcg c).take k
theorem Kij {c : Circuit} : upG c 0 = [] := rfl
def rowM (l : List Int) (i : Nat) (m : Int) : List Int := l.set i m
theorem Kgb {l : List Int} {i : Nat} {m : Int} : (rowM l i m).length = l.length := List.length_set
theorem Kga {l : List Int} {i : Nat} {m : Int} (h : i < l.length) : (rowM l i m)[i]? = some m := List.getElem?_set_self h
theorem Kgc {l : List Int} {i : Nat} {m y : Int} (hy : y ≠ -1) : ((rowM l i m).map nA).set i (.p (.int .i64 y)) = (rowM l i y).map nA := by
 rw [show AV.p (.int .i64 y) = nA y by unfold nA; rw [Jjy hy], <- List.map_set]
 unfold rowM
 rw [List.set_set]
set_option maxRecDepth 20000 in
theorem Juz (c : Circuit) (hs : Sized c) : Pure Tryz.prog GL 9 [c.av] (.tup [.p (.lst 1 ((if Jac c = 0 then Jcg c else []).map Int.enc)), .p (.int .i64 (Jac c))]) := by
 refine Pure.of_walk (N := 85) Tryz.func9 rfl rfl rfl (by simp) (by first | (simp; done) | simp [*]) ?_
 have hD := J46 c hs
 simp
 refine Jab hD ?_
 rw [show List.map (fun l => AV.p (PV.lst 1 l)) (tabP (actR c)) = Jfo c from rfl]
 have hal := @J3e c
 by_cases h : Jac c = 0
 . have h2 := Ja8 h
   have hn : c.parts.length <= 64 := h2.2.1
   have hF := J47 c hs h
   have hfl := @Jce c 64 c.parts.length
   simp [h, hal]
   rw [show ([AV.nils, AV.nils, AV.nils, AV.nils, AV.nils, AV.nils, AV.nils, AV.nils, AV.nils, AV.nils, AV.nils, AV.nils, AV.nils, AV.nils, AV.nils, AV.nils, AV.nils, AV.nils, AV.nils, AV.nils, AV.nils, AV.nils, AV.nils, AV.nils, AV.nils, AV.nils, AV.nils, AV.nils, AV.nils, AV.nils, AV.nils, AV.nils, AV.nils, AV.nils, AV.nils, AV.nils, AV.nils, AV.nils, AV.nils, AV.nils, AV.nils, AV.nils, AV.nils, AV.nils, AV.nils, AV.nils, AV.nils, AV.nils, AV.nils, AV.nils, AV.nils, AV.nils, AV.nils, AV.nils, AV.nils, AV.nils, AV.nils, AV.nils, AV.nils, AV.nils, AV.nils, AV.nils, AV.nils, AV.nils] : List AV) = nilRow from rfl, Jcx nilRow (Jfo c) (by rw [hal]; rfl)]
   refine ⟨Jtn, ?_⟩
   refine Jab hF ?_
   simp [hfl]
   rw [show ([AV.p (.int .i64 0), AV.p (.int .i64 0), AV.p (.int .i64 0), AV.p (.int .i64 0), AV.p (.int .i64 0), AV.p (.int .i64 0), AV.p (.int .i64 0), AV.p (.int .i64 0), AV.p (.int .i64 0), AV.p (.int .i64 0), AV.p (.int .i64 0), AV.p (.int .i64 0), AV.p (.int .i64 0), AV.p (.int .i64 0), AV.p (.int .i64 0), AV.p (.int .i64 0), AV.p (.int .i64 0), AV.p (.int .i64 0), AV.p (.int .i64 0), AV.p (.int .i64 0), AV.p (.int .i64 0), AV.p (.int .i64 0), AV.p (.int .i64 0), AV.p (.int .i64 0), AV.p (.int .i64 0), AV.p (.int .i64 0), AV.p (.int .i64 0), AV.p (.int .i64 0), AV.p (.int .i64 0), AV.p (.int .i64 0), AV.p (.int .i64 0), AV.p (.int .i64 0), AV.p (.int .i64 0), AV.p (.int .i64 0), AV.p (.int .i64 0), AV.p (.int .i64 0), AV.p (.int .i64 0), AV.p (.int .i64 0), AV.p (.int .i64 0), AV.p (.int .i64 0), AV.p (.int .i64 0), AV.p (.int .i64 0), AV.p (.int .i64 0), AV.p (.int .i64 0), AV.p (.int .i64 0), AV.p (.int .i64 0), AV.p (.int .i64 0), AV.p (.int .i64 0), AV.p (.int .i64 0), AV.p (.int .i64 0), AV.p (.int .i64 0), AV.p (.int .i64 0), AV.p (.int .i64 0), AV.p (.int .i64 0), AV.p (.int .i64 0), AV.p (.int .i64 0), AV.p (.int .i64 0), AV.p (.int .i64 0), AV.p (.int .i64 0), AV.p (.int .i64 0), AV.p (.int .i64 0), AV.p (.int .i64 0), AV.p (.int .i64 0), AV.p (.int .i64 0)] : List AV) = zeros from rfl, Jcx zeros ((firstT c 64 c.parts.length).map nA) (by rw [List.length_map, hfl]; rfl)]
   refine ⟨Jrc, ?_⟩
   refine Jag.go [1, 4, 6] [0, 1] 0 [] (fun _ => []) (fun _ (_ : Nat) => []) (fun _ k => [(2, some (.cells 64 [(itP c k).map nA]))]) (fun k => ∀ j, j < k -> itP c (j + 1) ≠ itP c j) (fun k => 64 - k) 0 (fun j hj => by omega) ?_ ?_
   . simp
     exact Jcn _
   intro k hk
   have hil := @Kac c k
   have hlo := @Kad c k
   have hnx := @Kae c k
   have hend := @Kab c hn k hk
   have hkn := Jxs hk
   generalize hg : itP c k = g at *
   have hml : (List.map nA g).length = 64 := by rw [List.length_map, hil]
   have ht : List.take 64 (List.map nA g) = List.map nA g := List.take_of_length_le (by omega)
   simp [hil, ht]
   rw [show ([AV.p (.int .i64 0), AV.p (.int .i64 0), AV.p (.int .i64 0), AV.p (.int .i64 0), AV.p (.int .i64 0), AV.p (.int .i64 0), AV.p (.int .i64 0), AV.p (.int .i64 0), AV.p (.int .i64 0), AV.p (.int .i64 0), AV.p (.int .i64 0), AV.p (.int .i64 0), AV.p (.int .i64 0), AV.p (.int .i64 0), AV.p (.int .i64 0), AV.p (.int .i64 0), AV.p (.int .i64 0), AV.p (.int .i64 0), AV.p (.int .i64 0), AV.p (.int .i64 0), AV.p (.int .i64 0), AV.p (.int .i64 0), AV.p (.int .i64 0), AV.p (.int .i64 0), AV.p (.int .i64 0), AV.p (.int .i64 0), AV.p (.int .i64 0), AV.p (.int .i64 0), AV.p (.int .i64 0), AV.p (.int .i64 0), AV.p (.int .i64 0), AV.p (.int .i64 0), AV.p (.int .i64 0), AV.p (.int .i64 0), AV.p (.int .i64 0), AV.p (.int .i64 0), AV.p (.int .i64 0), AV.p (.int .i64 0), AV.p (.int .i64 0), AV.p (.int .i64 0), AV.p (.int .i64 0), AV.p (.int .i64 0), AV.p (.int .i64 0), AV.p (.int .i64 0), AV.p (.int .i64 0), AV.p (.int .i64 0), AV.p (.int .i64 0), AV.p (.int .i64 0), AV.p (.int .i64 0), AV.p (.int .i64 0), AV.p (.int .i64 0), AV.p (.int .i64 0), AV.p (.int .i64 0), AV.p (.int .i64 0), AV.p (.int .i64 0), AV.p (.int .i64 0), AV.p (.int .i64 0), AV.p (.int .i64 0), AV.p (.int .i64 0), AV.p (.int .i64 0), AV.p (.int .i64 0), AV.p (.int .i64 0), AV.p (.int .i64 0), AV.p (.int .i64 0)] : List AV) = zeros from rfl, Jcx zeros (List.map nA g) (by rw [List.length_map, hil]; rfl)]
   refine ⟨Jrc, ?_⟩
   refine Jag.go [1, 4, 6, 7, 27] [0, 1, 2] 0 [] (fun _ => []) (fun _ (i : Nat) => [(28, .p (.int .i64 i))]) (fun _ i => [(3, some (.cells 64 [(nxP c g i).map nA]))]) (fun i => i <= c.parts.length) (fun i => c.parts.length - i) 0 (by omega) ?_ ?_
   . simp [nxP, Kcx]
     try decide
   intro i hi
   have hnl : (nxP c g i).length = 64 := by unfold nxP; rw [Jer, hil]
   have hst := @Kcw (fun i => actK c (i : Int)) g i
   rw [show Jbd (fun i => actK c (i : Int)) g (i + 1) = nxP c g (i + 1) from rfl, show Jbd (fun i => actK c (i : Int)) g i = nxP c g i from rfl] at hst
   simp
   refine Jad (fun h3 => ?_) (fun h3 => ?_)
   . simp at h3
     have hi64 : i < 64 := by omega
     have hst := hst (by omega)
     obtain ⟨x, ex⟩ := Jae (show i < g.length by omega)
     have hxl := hlo x (List.mem_of_getElem? ex)
     rw [Jcf ex] at hst
     have har := J3d h (show i < c.parts.length by omega) hn
     have hnax : nA x = .p (.int .i64 (toN x)) := rfl
     simp [h3, ex, hil, hi64, hnax, -getElem?_pos, List.getElem?_cons_zero, List.getElem?_cons_succ]
     refine ⟨by omega, ?_⟩
     by_cases hx : x = -1
     . rw [if_pos hx] at hst
       subst hx
       have hnx : (nxP c g i)[i]? = some (-1) := by unfold nxP; rw [Jeq (by omega), if_neg (by omega), Jcf ex]
       have hset : rowM (nxP c g i) i (minG g ((actK c i).take 0) (-1)) = nxP c g i := by
         unfold rowM
         rw [List.take_zero]
         apply List.ext_getElem?
         intro j
         by_cases hj : i = j
         . subst hj; rw [List.getElem?_set_self (by omega), hnx]; rfl
         . rw [List.getElem?_set_ne hj]
       have hAl := @J3b c i h
       have hAr := fun {y : Int} => @J3c c i (by omega) y
       generalize actK c (i : Int) = A at *
       simp [hi64, hil, har, hal, J13, -getElem?_pos, List.getElem?_cons_zero, List.getElem?_cons_succ]
       refine ⟨by omega, ?_⟩
       refine Jag.go [1, 4, 6, 7, 8, 27, 28, 37, 38] [0, 1, 2] 0 [] (fun _ => []) (fun _ (j : Nat) => [(39, .p (.int .i64 j))]) (fun _ j => [(3, some (.cells 64 [(rowM (nxP c g i) i (minG g (A.take j) (-1))).map nA]))]) (fun j => j <= A.length) (fun j => A.length - j) 0 (by omega) ?_ ?_
       . rw [hset]
         simp
         exact List.nodup_range
       intro j hj
       have hr4 : List.range 4 = [0, 1, 2, 3] := rfl
       have hm1 := @Jyz g (A.take j)
       have hms := fun {k : Int} => @Kb4 g k (A.take j) (-1)
       have hat : (rowM (nxP c g i) i (minG g (A.take j) (-1)))[i]? = some (minG g (A.take j) (-1)) := Kga (by omega)
       have hrl := (@Kgb (nxP c g i) i (minG g (A.take j) (-1))).trans hnl
       have hss := fun {y : Int} => @Kgc (nxP c g i) i (minG g (A.take j) (-1)) y
       generalize hm : minG g (A.take j) (-1) = m at *
       have hnaM : nA m = .p (.int .i64 (toN m)) := rfl
       simp
       refine Jad (fun h4 => ?_) (fun h4 => ?_)
       . simp at h4
         obtain ⟨a, ea⟩ := Jae h4
         have har := hAr (List.mem_of_getElem? ea)
         obtain ⟨y, ey⟩ := Jae (show a.toNat < g.length by omega)
         have hyl := hlo y (List.mem_of_getElem? ey)
         have hga : gAt g a = y := by unfold gAt; rw [ey]
         have hms := @hms a
         rw [hga] at hms
         have hts : A.take (j + 1) = A.take j ++ [a] := take_snoc ea
         have hnaY : nA y = .p (.int .i64 (toN y)) := rfl
         rw [<- hts] at hms
         by_cases hy1 : 1 <= y
         . have hty : toN y = y := Jjy (by omega)
           by_cases hm0 : m = -1
           . subst hm0
             rw [if_pos ⟨hy1, .inl rfl⟩] at hms
             simp [h4, ea, ey, hil, hr4, hnaY, hi64, hnl, hrl, hty, hy1, hat, hnaM, J13, -getElem?_pos, List.getElem?_cons_zero, List.getElem?_cons_succ]
             exact ⟨by omega, by omega, by omega, by omega, wrap_i64 (by omega) (by omega), j + 1, by omega, by omega, by omega, by rw [hms, hss (by omega)]; exact Jcn _⟩
           . have htm : toN m = m := Jjy hm0
             have hm9 : ¬ m = -1099511627776 := by have := hm1 hm0; omega
             by_cases hlt : y < m
             . rw [if_pos ⟨hy1, .inr hlt⟩] at hms
               simp [h4, ea, ey, hil, hr4, hnaY, hi64, hnl, hrl, hty, hy1, hat, hnaM, htm, hlt, hm9, -getElem?_pos, List.getElem?_cons_zero, List.getElem?_cons_succ]
               exact ⟨by omega, by omega, by omega, by omega, wrap_i64 (by omega) (by omega), j + 1, by omega, by omega, by omega, by rw [hms, hss (by omega)]; exact Jcn _⟩
             . rw [if_neg (by omega)] at hms
               simp [h4, ea, ey, hil, hr4, hnaY, hi64, hnl, hrl, hty, hy1, hat, hnaM, htm, hlt, hm9, -getElem?_pos, List.getElem?_cons_zero, List.getElem?_cons_succ]
               exact ⟨by omega, by omega, by omega, wrap_i64 (by omega) (by omega), j + 1, by omega, by omega, by omega, by rw [hms]; exact Jcn _⟩
         . rw [if_neg (by omega)] at hms
           have hty : ¬ 1 <= toN y := by unfold toN; split <;> omega
           simp [h4, ea, ey, hil, hr4, hnaY, hi64, hnl, hrl, hty, -getElem?_pos, List.getElem?_cons_zero, List.getElem?_cons_succ]
           exact ⟨by omega, by omega, wrap_i64 (by omega) (by omega), j + 1, by omega, by omega, by omega, by rw [hms]; exact Jcn _⟩
       . simp at h4
         have hj2 : j = A.length := by omega
         subst hj2
         rw [List.take_length] at hm
         simp [hr4]
         exact ⟨wrap_i64 (by omega) (by omega), i + 1, by omega, by omega, by omega, by rw [hst, <- hm]; exact Jcn _⟩
     . rw [if_neg hx] at hst
       have hne : ¬ toN x = -1099511627776 := by rw [Jjy hx]; omega
       simp [hne]
       exact ⟨wrap_i64 (by omega) (by omega), i + 1, by omega, by omega, by omega, by rw [hst]; exact ⟨Jcn _, List.nodup_range⟩⟩
   . simp at h3
     have hk2 : i = c.parts.length := by omega
     subst hk2
     have hnlo : ∀ x ∈ nxP c g c.parts.length, -1 <= x := Jzc hlo
     have ht2 : List.take 64 (List.map nA (nxP c g c.parts.length)) = List.map nA (nxP c g c.parts.length) := List.take_of_length_le (by rw [List.length_map]; omega)
     simp [hnl, hil, ht, ht2]
     refine Kgg hnl hil hnlo hlo _ ?_
     rw [hnx] at hnl hnlo ht2 ⊢
     by_cases he : itP c (k + 1) = g
     . have hend := hend he
       simp [he]
       have hgat : ∀ {i : Nat} {x : Int}, (rawG c)[i]? = some x -> g[i]? = some x := fun {i x} e => by
         have hi := (gsI.1 e).1
         rw [Jod] at hi
         rw [hend, Jn2 (by omega), Jcf e]
       refine Jag.go [6, 72] [2] 1 [4] (nms [12]) (fun nx (k : Nat) => [(12, .acc nx 1 (upG c k).length), (73, .p (.int .i64 k))]) (fun nx k => [(nx, accB 1 ((upG c k).map rowI))]) (fun k => k <= c.parts.length) (fun k => c.parts.length - k) 0 (by omega) ?_ ?_
       . simp [Kij]
         try decide
       intro m hm
       have hgl := @Jm6 c
       have hrl := @Jod c
       simp
       refine Jad (fun h5 => ?_) (fun h5 => ?_)
       . simp at h5
         obtain ⟨x, ex⟩ := Jae (show m < (rawG c).length by omega)
         have ex2 := hgat ex
         have hxl := hlo x (List.mem_of_getElem? ex2)
         have hmx : max (toN x) 0 = max x 0 := by unfold toN; split <;> omega
         have hts : upG c (m + 1) = upG c m ++ [max x 0] := by
           refine take_snoc ?_
           unfold Jcg
           rw [List.getElem?_map, ex]; rfl
         have htl : (upG c m).length = m := by unfold upG; rw [List.length_take]; omega
         have hrm : ∀ r ∈ (upG c m).map rowI, r.length = 1 := fun r hr => by obtain ⟨_, _, rfl⟩ := List.mem_map.1 hr; rfl
         have hr4 : List.range 4 = [0, 1, 2, 3] := rfl
         have hnaX : nA x = .p (.int .i64 (toN x)) := rfl
         have hm64 : m < 64 := by omega
         simp [h5, ex2, hnaX, hmx, hil, htl, hm64, hr4, -getElem?_pos, List.getElem?_cons_zero, List.getElem?_cons_succ]
         refine ⟨by omega, by omega, fun _ _ => rfl, wrap_i64 (by omega) (by omega), m + 1, by omega, by omega, ⟨by rw [hts, List.length_append, htl]; rfl, by omega⟩, ?_⟩
         rw [hts, List.map_append]
         simp [rowI]
       . simp at h5
         have hm2 : m = c.parts.length := by omega
         subst hm2
         have htg : upG c c.parts.length = Jcg c := by unfold upG; rw [<- hgl, List.take_length]
         simp [Jaa, h, htg]
         exact fun _ _ => rfl
     . have hk1 : k + 1 <= 64 := Jxs fun j hj => by
         by_cases hjk : j = k
         . subst hjk; rw [hg]; exact he
         . exact hk j (by omega)
       simp [he, hnl, hil, ht2]
       refine ⟨Jrc, k + 1, fun j hj => ?_, by omega, ?_⟩
       . by_cases hjk : j = k
         . subst hjk; rw [hg]; exact he
         . exact hk j (by omega)
       . rw [Jcx _ _ (by rw [List.length_map, List.length_map, hnl, hil])]
         exact Jcn _
 . simp [h, hal, Jaa]
   exact Jtn
end Go.Am
namespace Go.Am
open Go Go.Proofs Go.Pn
theorem Kbg {k : Nat} (h : k < 14) : Jfw k = Jgj k := by
 rcases (by omega : k = 0 \/ k = 1 \/ k = 2 \/ k = 3 \/ k = 4 \/ k = 5 \/ k = 6 \/ k = 7 \/ k = 8 \/ k = 9 \/ k = 10 \/ k = 11 \/ k = 12 \/ k = 13) with rfl|rfl|rfl|rfl|rfl|rfl|rfl|rfl|rfl|rfl|rfl|rfl|rfl|rfl <;> rfl
theorem Jx2 : KeyOk Tryz.prog 41 Jfn := Kap (by kernel_rfl) (fun w em n s m => by kernel_rfl) (fun n m s t a b => by rw [eq41]; simp [Bool.decide_and])
def keyA (y : Int × Txt) : AV := .agg [.p (.int .i64 y.1), .p (.str y.2), .p (.int .i64 0)]
theorem Jx1 {y z : Int × Txt} : keyA y = keyA z ↔ y = z := by
 unfold keyA
 constructor
 . intro h
   simp only [AV.agg.injEq, List.cons.injEq, AV.p.injEq, PV.int.injEq, PV.str.injEq] at h
   exact Prod.ext h.1.2 h.2.1
 . rintro rfl; rfl
open Classical in
theorem Jt0 {x v y : AV} : ∀ {es : List (AV × AV)}, Jal (setA es x v) y = if x = y then some v else Jal es y
 | [] => by
   rw [setA, Jfa]
 | (k, u) :: es => by
   rw [setA]
   by_cases h : k = x
   . rw [if_pos h, Jfa, Jfa]
     by_cases h2 : x = y
     . rw [if_pos h2, if_pos h2]
     . rw [if_neg h2, if_neg h2, if_neg (fun h3 => h2 (h.symm.trans h3))]
   . rw [if_neg h, Jfa, Jfa, Jt0]
     by_cases h2 : k = y
     . rw [if_pos h2, if_pos h2, if_neg (fun h3 => h (h2.trans h3.symm))]
     . rw [if_neg h2, if_neg h2]
theorem J1a {K : AV -> Prop} {x v : AV} (hx : K x) : ∀ {es : List (AV × AV)}, (∀ e ∈ es, K e.1) -> ∀ e ∈ setA es x v, K e.1
 | [], _, e, he => by
   rw [setA, List.mem_singleton] at he
   subst he; exact hx
 | (k, u) :: es, h, e, he => by
   rw [setA] at he
   split at he
   . rcases List.mem_cons.1 he with rfl | he
     . exact hx
     . exact h e (List.mem_cons_of_mem _ he)
   . rcases List.mem_cons.1 he with rfl | he
     . exact h (k, u) (by simp)
     . exact J1a hx (fun e he => h e (List.mem_cons_of_mem _ he)) e he
theorem J3v {es : List (AV × AV)} {x z : AV} (h : Jal es x = none) : Jal (es ++ [(x, z)]) x = some z := by
 induction es with
 | nil => rw [List.nil_append, Jfa, if_pos rfl]
 | cons e es ih =>
   rw [Jfa] at h
   rw [List.cons_append, Jfa]
   by_cases he : e.1 = x
   . rw [if_pos he] at h; cases h
   . rw [if_neg he] at h
     rw [if_neg he, ih h]
theorem J7y {es : List (AV × AV)} {x z : AV} : Jal (entA es x z) x = some ((Jal es x).getD z) := by
 unfold entA
 cases h : Jal es x with
 | none => exact J3v h
 | some v => exact h
theorem J7z {K : AV -> Prop} {es : List (AV × AV)} {x z : AV} (h : ∀ e ∈ es, K e.1) (hx : K x) : ∀ e ∈ entA es x z, K e.1 := by
 intro e he
 unfold entA at he
 split at he
 . exact h e he
 . rcases List.mem_append.1 he with he | he
   . exact h e he
   . rw [List.mem_singleton] at he; subst he; exact hx
noncomputable def cntE (c : Circuit) : Nat -> List (AV × AV)
 | 0 => []
 | k + 1 => setA (cntE c k) (keyA (keyG c k)) (.p (.int .i64 ((cntG c (keyG c k) k : Nat) + 1)))
theorem Jp4 {c : Circuit} {y : Int × Txt} : ∀ {k : Nat}, Jal (cntE c k) (keyA y) = if cntG c y k = 0 then none else some (.p (.int .i64 (cntG c y k : Nat)))
 | 0 => by rw [if_pos (by simp [cntG])]; rfl
 | k + 1 => by
   rw [cntE, Jt0, Jp4, Jmm]
   by_cases h : keyG c k = y
   . rw [if_pos (Jx1.2 h), if_pos h, if_neg (by omega), h]
     simp
   . rw [if_neg (fun h2 => h (Jx1.1 h2)), if_neg h]
     simp
theorem Jp5 {c : Circuit} : ∀ {k : Nat}, ∀ e ∈ cntE c k, Jfn e.1
 | 0, _, he => by cases he
 | k + 1, e, he => J1a (K := Jfn) ⟨_, _, _, rfl⟩ Jp5 e he
theorem J09 {K : AV × AV -> Prop} {x v : AV} (hx : K (x, v)) : ∀ {es : List (AV × AV)}, (∀ e ∈ es, K e) -> ∀ e ∈ setA es x v, K e
 | [], _, e, he => by
   rw [setA, List.mem_singleton] at he
   subst he; exact hx
 | (k, u) :: es, h, e, he => by
   rw [setA] at he
   split at he
   . rcases List.mem_cons.1 he with rfl | he
     . exact hx
     . exact h e (List.mem_cons_of_mem _ he)
   . rcases List.mem_cons.1 he with rfl | he
     . exact h (k, u) (by simp)
     . exact J09 hx (fun e he => h e (List.mem_cons_of_mem _ he)) e he
theorem Jv2 {c : Circuit} : ∀ {k : Nat}, ∀ e ∈ cntE c k, Jap e.1 = true /\ Jap e.2 = true
 | 0, _, he => by cases he
 | k + 1, e, he => J09 (K := fun e => Jap e.1 = true /\ Jap e.2 = true) ⟨rfl, rfl⟩ Jv2 e he
theorem J01 {ρ : List Nat} : ∀ {es : List (AV × AV)}, (∀ e ∈ es, Jap e.1 = true /\ Jap e.2 = true) -> renE ρ es = some es
 | [], _ => rfl
 | e :: es, h => by
   obtain ⟨h1, h2⟩ := h e (by simp)
   rw [renE, Jg9.1 _ h1, Jg9.1 _ h2, J01 fun e he => h e (List.mem_cons_of_mem _ he)]
   rfl
@[simp] theorem Kkn {c : Circuit} {k : Nat} {ρ : List Nat} : renE ρ (cntE c k) = some (cntE c k) := J01 Jv2
@[simp] theorem Kjq {c : Circuit} {k : Nat} {a : Int} {s : Txt} : Jca Tryz.prog 41 (cntE c k) (.agg [.p (.int .i64 a), .p (.str s), .p (.int .i64 0)]) = True :=
 eq_true ⟨_, Jx2, ⟨_, _, _, rfl⟩, Jp5⟩
@[simp] theorem Kat {c : Circuit} {k : Nat} {a : Int} {s : Txt} {x z : AV} (hx : Jfn x) : Jca Tryz.prog 41 (entA (cntE c k) x z) (.agg [.p (.int .i64 a), .p (.str s), .p (.int .i64 0)]) = True :=
 eq_true ⟨_, Jx2, ⟨_, _, _, rfl⟩, J7z Jp5 hx⟩
set_option maxRecDepth 20000 in
theorem Ju0 (c : Circuit) (hs : Sized c) : Pure Tryz.prog GL 22 [c.av] (.tup [.p (.lst 3 ((if Jac c = 0 then Jb4 c else []).map Lbl.enc)), .p (.int .i64 (Jac c))]) := by
 refine Pure.of_walk (N := 63) Tryz.func22 rfl rfl rfl (by simp) (by first | (simp; done) | simp [*]) ?_
 have hG := Juz c hs
 simp
 refine Jab hG ?_
 by_cases h : Jac c = 0
 . have h2 := Ja8 h
   have hn : c.parts.length <= 64 := h2.2.1
   have hgl := @Jm6 c
   simp [h]
   refine Jag.go [1, 6, 22, 23] [0] 1 [2] (nms [7]) (fun nx (k : Nat) => [(7, .acc nx 3 (Je2 c k).length), (24, .p (.int .i64 k))]) (fun nx k => [(1, some (.map (cntE c k))), (nx, accB 3 ((Je2 c k).map Lbl.row_))]) (fun k => k <= c.parts.length) (fun k => c.parts.length - k) 0 (by omega) ?_ ?_
   . simp [Je2, cntE]
     try decide
   intro k hk
   have htl := @Jx7 c k
   simp [hgl]
   refine Jad (fun h3 => ?_) (fun h3 => ?_)
   . simp at h3
     obtain ⟨p, ep⟩ := Jae h3
     obtain ⟨g, eg⟩ := Jae (show k < (Jcg c).length by omega)
     have hpk := J0d h ep
     have hke := Jcw.2 hpk
     have hLe := Ju8 p.kind
     have hlt : Jfw p.kind.toNat = Jgj p.kind := by
       have := @Kbg p.kind.toNat (by omega)
       rw [this]; congr 1; omega
     rw [hke, if_pos rfl, hlt] at hLe
     have hkey : keyG c k = (g, Jgj p.kind) := by unfold keyG; rw [Jcf eg, Jgh ep]
     have hat := @Jp4 c (keyG c k) k
     have hnx : cntE c (k + 1) = setA (cntE c k) (keyA (keyG c k)) (.p (.int .i64 ((cntG c (keyG c k) k : Nat) + 1))) := rfl
     have hat' := @Jp4 c (keyG c k) (k + 1)
     rw [Jmm, if_pos rfl, if_neg (by omega)] at hat'
     have hcl := @Jv3 c (keyG c k) k
     have hlb : lblN c k = ⟨g, Jgj p.kind, ((cntG c (keyG c k) k : Nat) : Int) + 1⟩ := by unfold lblN; rw [hkey]
     have hls := @Ka4 c k
     rw [hlb] at hls
     generalize hcn : cntG c (keyG c k) k = n at *
     rw [hkey] at hat hnx hat'
     simp only [keyA] at hat hnx hat'
     simp [h3, ep, eg, hgl, -getElem?_pos, List.getElem?_cons_zero, List.getElem?_cons_succ]
     refine Jab hLe ?_
     simp
     refine Jak.late 2 4 _ (by kernel_rfl) rfl rfl ?_
     have hhit : hit false (AV.p (PV.int IntKind.i64 0)) (if n = 0 then none else some (AV.p (PV.int IntKind.i64 ↑n))) = .p (.int .i64 n) := by
       by_cases hn0 : n = 0 <;> simp [hit, hn0]
     have hw : IntKind.i64.wrap ((n : Int) + 1) = n + 1 := wrap_i64 (by omega) (by omega)
     have hput := @Kfn (cntE c k) (AV.agg [AV.p (PV.int IntKind.i64 g), AV.p (PV.str (Jgj p.kind)), AV.p (PV.int IntKind.i64 0)]) (.p (.int .i64 0)) (AV.p (PV.int IntKind.i64 (↑n + 1)))
     have hilt := @J9u (cntE c k) (AV.agg [AV.p (PV.int IntKind.i64 g), AV.p (PV.str (Jgj p.kind)), AV.p (PV.int IntKind.i64 0)]) (.p (.int .i64 0))
     rw [<- hnx] at hput
     have hr2 : List.range 2 = [0, 1] := rfl
     simp [hat, hhit, hw, hput, hilt, hat', htl, hr2, -getElem?_pos, List.getElem?_cons_zero, List.getElem?_cons_succ]
     refine ⟨.of (by kernel_rfl), ⟨?_, ?_⟩, by omega, wrap_i64 (by omega) (by omega), k + 1, by omega, by omega, ?_⟩
     . rw [Kat ⟨_, _, _, rfl⟩]; trivial
     . rw [J7y, hat]
       by_cases hn0 : n = 0 <;> simp [hit, hn0]
     rw [hls]
     simp [htl, hgl]
   . simp at h3
     have hk2 : k = c.parts.length := by omega
     subst hk2
     rw [show Je2 c c.parts.length = Jb4 c from rfl]
     simp [Jaa, h]
 . simp [h, Jaa]
end Go.Am
