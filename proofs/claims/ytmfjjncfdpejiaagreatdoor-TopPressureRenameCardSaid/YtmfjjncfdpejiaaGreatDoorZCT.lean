/- Lemmas and contracts for the proof of a statement of this seat. -/
import Derived.Test.YtmfjjncfdpejiaaGreatDoorZCS
import Derived.Test.YtmfjjncfdpejiaaGreatDoorZCB
import Derived.Test.YtmfjjncfdpejiaaGreatDoorZCJ
set_option linter.unusedVariables false
set_option linter.unusedSimpArgs false
namespace Go.Am
open Go Go.Proofs Go.Pn
end Go.Am
namespace Go.Am
open Go Go.Proofs Go.Pn
def insI (ks : List Int) (k : Int) : List Int := if k ∈ ks then ks else ks ++ [k]
theorem Jyv {ks : List Int} {k x : Int} : x ∈ insI ks k ↔ x ∈ ks \/ x = k := by
 unfold insI
 split
 . rename_i h
   constructor
   . exact .inl
   . rintro (h1 | rfl)
     . exact h1
     . exact h
 . simp
theorem Kbi {l : List Int} : ∀ {ks : List Int} {x : Int}, x ∈ l.foldl insI ks ↔ x ∈ ks \/ x ∈ l := by
 induction l with
 | nil => simp
 | cons a l ih =>
   intro ks x
   rw [List.foldl_cons, ih, Jyv, List.mem_cons]
   constructor
   . rintro ((h | h) | h)
     . exact .inl h
     . exact .inr (.inl h)
     . exact .inr (.inr h)
   . rintro (h | h | h)
     . exact .inl (.inl h)
     . exact .inl (.inr h)
     . exact .inr h
def Jna (c : Circuit) (i : Int) (ks : List Int) (p : Port) : List Int := if decide (p.part = i) && Jfg c p then ((Jfm c (around c p) false).map (·.part)).foldl insI ks else ks
def Jn3 (ks : List Int) (x : Int) : List Int := if 0 <= x then insI ks x else ks
def limL (c : Circuit) (i : Int) : List Int := if Jf4 c (nameAt c i) = 0 then [Jc7 c (nameAt c i) 48, Jc7 c (nameAt c i) 49] else []
def dirL (c : Circuit) (i : Int) : List Int := (limL c i).foldl Jn3 ((allP c).foldl (Jna c i) [])
theorem Jyu {c : Circuit} {i : Int} {l : List Port} : ∀ {ks : List Int} {x : Int}, x ∈ l.foldl (Jna c i) ks ↔ x ∈ ks \/ ∃ p ∈ l, p.part = i /\ Jfg c p = true /\ ∃ q ∈ Jfm c (around c p) false, q.part = x := by
 induction l with
 | nil => simp
 | cons a l ih =>
   intro ks x
   rw [List.foldl_cons, ih]
   have hst : x ∈ Jna c i ks a ↔ x ∈ ks \/ (a.part = i /\ Jfg c a = true /\ ∃ q ∈ Jfm c (around c a) false, q.part = x) := by
     unfold Jna
     by_cases h : (decide (a.part = i) && Jfg c a) = true
     . rw [if_pos h, Kbi, List.mem_map]
       simp only [Bool.and_eq_true, decide_eq_true_eq] at h
       simp [h.1, h.2]
     . rw [if_neg h]
       simp only [Bool.and_eq_true, decide_eq_true_eq, not_and] at h
       constructor
       . exact .inl
       . rintro (h1 | ⟨h1, h2, _⟩)
         . exact h1
         . exact absurd h2 (h h1)
   rw [hst]
   constructor
   . rintro ((h | h) | ⟨p, hp, h⟩)
     . exact .inl h
     . exact .inr ⟨a, by simp, h⟩
     . exact .inr ⟨p, by simp [hp], h⟩
   . rintro (h | ⟨p, hp, h⟩)
     . exact .inl (.inl h)
     . rcases List.mem_cons.1 hp with rfl | hp
       . exact .inl (.inr h)
       . exact .inr ⟨p, hp, h⟩
theorem Jyw {l : List Int} : ∀ {ks : List Int} {x : Int}, x ∈ l.foldl Jn3 ks ↔ x ∈ ks \/ (x ∈ l /\ 0 <= x) := by
 induction l with
 | nil => simp
 | cons a l ih =>
   intro ks x
   rw [List.foldl_cons, ih]
   have : x ∈ Jn3 ks a ↔ x ∈ ks \/ (x = a /\ 0 <= x) := by
     unfold Jn3
     split
     . rename_i h
       rw [Jyv]
       constructor
       . rintro (h1 | rfl)
         . exact .inl h1
         . exact .inr ⟨rfl, h⟩
       . rintro (h1 | ⟨h1, _⟩)
         . exact .inl h1
         . exact .inr h1
     . rename_i h
       constructor
       . exact .inl
       . rintro (h1 | ⟨rfl, h2⟩)
         . exact h1
         . exact absurd h2 h
   rw [this, List.mem_cons]
   constructor
   . rintro ((h | ⟨h1, h2⟩) | ⟨h1, h2⟩)
     . exact .inl h
     . exact .inr ⟨.inl h1, h2⟩
     . exact .inr ⟨.inr h1, h2⟩
   . rintro (h | ⟨h1 | h1, h2⟩)
     . exact .inl (.inl h)
     . exact .inl (.inr ⟨h1, h2⟩)
     . exact .inr ⟨h1, h2⟩
theorem Jyn {c : Circuit} {s : Txt} {d : UInt8} : Jc7 c s d = -1 \/ Jc7 c s d = 0 \/ (0 <= Jc7 c s d /\ Jc7 c s d < c.parts.length) := by
 unfold Jc7
 split
 . exact .inr (.inl rfl)
 . unfold swAt swK
   split
   . exact .inl rfl
   . rcases Jgy c (s ++ [d]) with h | ⟨i, x, h, e, _⟩
     . exact .inl h
     . rw [h]
       have := (gsI.1 e).1
       exact .inr (.inr ⟨by omega, by omega⟩)
theorem J61 {c : Circuit} {i x : Int} (hi : 0 <= i /\ i < c.parts.length) (h : x ∈ dirL c i) : 0 <= x /\ x < c.parts.length := by
 unfold dirL at h
 rw [Jyw, Jyu] at h
 rcases h with (h | ⟨p, _, _, _, q, hq, rfl⟩) | ⟨h1, h2⟩
 . cases h
 . have := Kee q (List.mem_filter.1 hq).1
   have h3 := this.1
   have h4 := this.2
   omega
 . refine ⟨h2, ?_⟩
   unfold limL at h1
   split at h1
   . rcases List.mem_cons.1 h1 with rfl | h1
     . rcases @Jyn c (nameAt c i) 48 with h | h | h <;> omega
     . simp at h1
       subst h1
       rcases @Jyn c (nameAt c i) 49 with h | h | h <;> omega
   . cases h1
end Go.Am
namespace Go.Am
open Go Go.Proofs Go.Pn
def nmQ (x : AV) : Nat := match x with
 | .ref b .. => b
 | _ => 2
@[simp] theorem Kji {b k i n : Nat} {c : Option Nat} : nmQ (.ref b k i n c) = b := rfl
@[simp] theorem Kjh {x : PV} : nmQ (.p x) = 2 := rfl
end Go.Am
namespace Go.Am
open Go Go.Proofs Go.Pn
end Go.Am
