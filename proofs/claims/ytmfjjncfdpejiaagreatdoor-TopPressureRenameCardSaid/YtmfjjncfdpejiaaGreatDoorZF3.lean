/- Lemmas and contracts for the proof of a statement of this seat. -/
import Derived.Test.YtmfjjncfdpejiaaGreatDoorZF2
import Derived.Test.YtmfjjncfdpejiaaGreatDoorZCG
set_option linter.unusedVariables false
set_option linter.unusedSimpArgs false
namespace Go.Am
open Go Go.Proofs Go.Pn
theorem Jzd {A : Nat -> List Int} {g : List Int} {n : Nat} (hg : ∀ x ∈ g, -1 <= x) : ∀ x ∈ Jbi A g n, -1 <= x := by
 intro x hx
 obtain ⟨i, e⟩ := List.mem_iff_getElem?.1 hx
 have hi : i < g.length := by have := (gsI.1 e).1; rwa [Jep] at this
 rw [Jfk hi] at e
 obtain ⟨y, ey⟩ := Jae hi
 have hy := hg y (List.mem_of_getElem? ey)
 rw [Jd3 ey] at e
 by_cases h : i < n /\ y = -1
 . rw [if_pos h] at e; cases e
   by_cases h1 : minG g (A i) (-1) = -1
   . omega
   . have := Jy0 h1; omega
 . rw [if_neg h] at e; cases e; exact hy
theorem Jxy {A : Nat -> List Int} {g : List Int} {n : Nat} (hg : ∀ x ∈ g, -1 <= x) : ∀ {k : Nat}, ∀ x ∈ Ja9 A n g k, -1 <= x
 | 0 => hg
 | k + 1 => Jzd (Jxy hg)
theorem J9a {c : Circuit} {k i : Nat} : -1 <= grpK c k i := by
 unfold grpK
 have h1 := @Jqt c (i + 1)
 split
 . omega
 . split
   . split <;> omega
   . split
     . split <;> omega
     . split
       . rename_i p _ _ _ _
         have h2 := @Jqt c ((Jgm c p.name).toNat + 1)
         split <;> omega
       . omega
theorem J7y {c : Circuit} {n k : Nat} : ∀ x ∈ firstT c n k, -1 <= x := by
 intro x hx
 obtain ⟨i, _, rfl⟩ := List.mem_map.1 hx
 exact J9a
end Go.Am
namespace Go.Am
open Go Go.Proofs Go.Pn
def Jix (k : Nat) : Txt := (Jox[k]?.getD ([], [])).1
end Go.Am
namespace Go.Am
open Go Go.Proofs Go.Pn
theorem Kbk {g : List Int} {B : Int} (hB : -1 <= B) (hg : ∀ x ∈ g, x <= B) {ks : List Int} : minG g ks (-1) <= B := by
 rcases @Jn6 g ks with ⟨h1, _⟩ | ⟨⟨k, _, h1, h2⟩, _⟩
 . omega
 . rw [<- h1]
   unfold gAt
   cases e : g[k.toNat]? with
   | none => simpa using hB
   | some x => exact hg x (List.mem_of_getElem? e)
theorem Kb7 {A : Nat -> List Int} {g : List Int} {n : Nat} {B : Int} (hB : -1 <= B) (hg : ∀ x ∈ g, x <= B) : ∀ x ∈ Jbi A g n, x <= B := by
 intro x hx
 obtain ⟨i, e⟩ := List.mem_iff_getElem?.1 hx
 have hi : i < g.length := by have := (gsI.1 e).1; rwa [Jep] at this
 rw [Jfk hi] at e
 obtain ⟨y, ey⟩ := Jae hi
 rw [Jd3 ey] at e
 by_cases h : i < n /\ y = -1
 . rw [if_pos h] at e; cases e
   exact Kbk hB hg
 . rw [if_neg h] at e; cases e; exact hg _ (List.mem_of_getElem? ey)
theorem Jxx {A : Nat -> List Int} {g : List Int} {n : Nat} {B : Int} (hB : -1 <= B) (hg : ∀ x ∈ g, x <= B) : ∀ {k : Nat}, ∀ x ∈ Ja9 A n g k, x <= B
 | 0 => hg
 | k + 1 => Kb7 hB (Jxx hB hg)
theorem Jwn {c : Circuit} {k : Nat} : cylN c k <= c.parts.length := by
 have h1 := @List.countP_le_length _ (fun p : Part => decide (p.kind = 1)) (c.parts.take k)
 have h2 : (c.parts.take k).length <= c.parts.length := by simp; omega
 unfold cylN; omega
theorem J7x {c : Circuit} {n k : Nat} : ∀ x ∈ firstT c n k, x <= c.parts.length := by
 intro x hx
 obtain ⟨i, _, rfl⟩ := List.mem_map.1 hx
 unfold grpK
 have h1 := @Jwn c (i + 1)
 split
 . omega
 . split
   . split <;> omega
   . split
     . split <;> omega
     . split
       . rename_i p _ _ _ _
         have h2 := @Jwn c ((Jgm c p.name).toNat + 1)
         split <;> omega
       . omega
theorem J87 {c : Circuit} {i : Nat} {y : Int} (e : (Jfh c)[i]? = some y) : 0 <= y /\ y <= c.parts.length := by
 unfold Jfh at e
 rw [List.getElem?_map, Option.map_eq_some_iff] at e
 obtain ⟨x, h1, rfl⟩ := e
 have h2 : x <= c.parts.length := Jxx (by omega) J7x x (by unfold rawG endT at h1; exact List.mem_of_getElem? h1)
 omega
theorem Kaw {k : Int} : Jgt k ∈ [([65] : Txt), [83], [86], [90]] := by
 unfold Jgt
 split
 . simp
 . split
   . simp
   . split <;> simp
theorem Kar {c : Circuit} (h : Jad c = 0) {i : Nat} (hi : i < c.parts.length) : chkL (lblN c i) = 0 := by
 have h2 := (Jbg h).2.1
 obtain ⟨y, ey⟩ := Jae (show i < (Jfh c).length by rw [Jra]; exact hi)
 have h3 := J87 ey
 have h4 := @Jwk c (keyG c i) i
 rw [Jqn]
 have e1 : (lblN c i).grp = y := Jd3 ey
 refine ⟨by rw [e1]; omega, Kaw, ?_⟩
 show 1 <= ((cntG c (keyG c i) i : Nat) : Int) + 1 /\ ((cntG c (keyG c i) i : Nat) : Int) + 1 <= 64
 omega
theorem Kgo {x : Lbl} (h : chkL x = 0) : (Jiq x).length <= 5 := by
 obtain ⟨b, hb, _⟩ := Jyp h
 have hd : ∀ n, (digN n).length <= 2 := fun n => by unfold digN; split <;> simp
 have h1 := hd x.grp.toNat
 have h2 := hd x.num.toNat
 unfold Jiq
 rw [hb]
 simp only [List.length_append, List.length_cons, List.length_nil]
 omega
def Jhi (c : Circuit) (i : Nat) : Txt := Jiq (lblN c i) ++ (32 :: (nameAt c i ++ (32 :: Jix (Jal c i).toNat)))
def legI (c : Circuit) (m i : Nat) : List Txt := ((List.range i).filter fun i => decide (Jou c i = m)).map (Jhi c)
def legT (c : Circuit) (m : Nat) : List Txt := (List.range m).flatMap fun m => legI c m c.parts.length
def Jn1 (c : Circuit) : List Txt := legT c c.parts.length
theorem Kas {c : Circuit} : Jn1 c = (Jdi c).map (Jhi c) := by
 unfold Jn1 legT Jdi
 rw [List.map_flatMap]
 rfl
theorem Kia {k : Nat} (h : k < 14) : (Jix k).length <= 10 := (by decide : ∀ k, k < 14 -> (Jix k).length <= 10) k h
end Go.Am
