/- Lemmas and contracts for the proof of a statement of this seat. -/
import Derived.Test.YtmfjjncfdpejiaaGreatDoorZC4
set_option linter.unusedVariables false
set_option linter.unusedSimpArgs false
namespace Go.Am
open Go Go.Proofs Go.Pn
end Go.Am
namespace Go.Am
open Go Go.Proofs Go.Pn
def Jr2 (c : Circuit) (p : Port) : Prop := (around c p)[0]? = some p
instance (c : Circuit) (p : Port) : Decidable (Jr2 c p) := inferInstanceAs (Decidable ((around c p)[0]? = some p))
def J2h (c : Circuit) (l : List Port) : List (List Port) := (l.filter fun p => decide (Jr2 c p)).map (around c)
def nets (c : Circuit) : List (List Port) := J2h c (allP c)
@[simp] def Ports.row (l : List Port) : List AV := [.p (.lst 2 (l.map Port.enc))]
def Jcx (c : Circuit) (p : Port) : Int := if Jbx c p ≠ 0 then Jbx c p else Jb2 c p
def netP (c : Circuit) (p : Port) : Int := idxI (nets c) fun l => decide (p ∈ l)
end Go.Am
namespace Go.Am
open Go Go.Proofs Go.Pn
def Jsu (f b : Int) (p : Port) : Port := if f <= p.part then ⟨p.part + b, p.name⟩ else p
def J2b (f b : Int) (x : Pipe) : Pipe := ⟨Jsu f b x.fr, Jsu f b x.to⟩
def J2a (f b : Int) (l : List Pipe) : List Pipe := l.map (J2b f b)
end Go.Am
namespace Go.Am
open Go Go.Proofs Go.Pn
end Go.Am
namespace Go.Am
open Go Go.Proofs Go.Pn
def Jdh (c : Circuit) (k : Int) : Int := (c.parts[k.toNat]?.map (·.kind)).getD 0
def Jea (c : Circuit) (s : Txt) : Int := idxI c.parts fun p => decide (p.name = s)
def swK (c : Circuit) (k : Int) : Int := if 0 <= k /\ Jdh c k ≠ 6 then -1 else k
theorem Jtl (c : Circuit) (s : Txt) : Jea c s = -1 \/ ∃ (i : Nat) (x : Part), Jea c s = i /\ c.parts[i]? = some x /\ x.name = s := by
 rcases Jim c.parts (fun p => decide (p.name = s)) with ⟨_, h⟩ | ⟨i, x, _, h1, h2, h3⟩
 . exact .inl h
 . exact .inr ⟨i, x, h1, h2, by simpa using h3⟩
def swAt (c : Circuit) (s : Txt) : Int := swK c (Jea c s)
end Go.Am
namespace Go.Am
open Go Go.Proofs Go.Pn
@[simp] theorem J88 {α β : Type} {f : α -> β} {l : List α} : List.take l.length (l.map f) = l.map f := List.take_of_length_le (by simp)
end Go.Am
namespace Go.Am
open Go Go.Proofs Go.Pn
def J45 (k : Nat) (l : List Pipe) : List Pipe := l.filter fun x => !decide (x.fr.part = k) && !decide (x.to.part = k)
def J44 (c : Circuit) (k : Nat) : Circuit := ⟨c.parts.take k ++ c.parts.drop (k + 1), J2a k (-1) (J45 k c.pipes)⟩
end Go.Am
namespace Go.Am
open Go Go.Proofs Go.Pn
theorem Jq5 {α : Type} {xs ys : List α} (hl : xs.length = ys.length) (h : ∀ j, j < xs.length -> xs[j]? = ys[j]?) : xs = ys := by
 apply List.ext_getElem?
 intro j
 by_cases hj : j < xs.length
 . exact h j hj
 . rw [List.getElem?_eq_none (by omega), List.getElem?_eq_none (by omega)]
theorem Jyp (a b : Circuit) (ha : Sized a) (hb : Sized b) : Pure Tryz.prog GL 19 [a.av, b.av] (.p (.bool (decide (a.parts = b.parts) && decide (a.pipes = b.pipes)))) := by
 refine Pure.of_walk (N := 59) Tryz.func19 rfl rfl rfl (by simp) (by first | (simp; done) | simp [*]) ?_
 have ha1 := ha.parts
 have ha2 := ha.pipes
 simp
 by_cases h1 : a.parts.length = b.parts.length
 . simp [h1]
   by_cases h2 : a.pipes.length = b.pipes.length
   . simp [h2]
     refine Jah.go [2, 3] [0, 1] 0 [] (fun _ => []) (fun _ (k : Nat) => [(5, .p (.int .i64 k))]) (fun _ _ => []) (fun k => k <= a.parts.length /\ ∀ j, j < k -> a.parts[j]? = b.parts[j]?) (fun k => a.parts.length - k) 0 ⟨by omega, fun j h => by omega⟩ ?_ ?_
     . simp
       try decide
     . rintro k ⟨hk, hp⟩
       simp
       refine Jac (fun h => ?_) (fun h => ?_)
       . simp at h
         obtain ⟨x, e⟩ := Jag h
         obtain ⟨y, e2⟩ := Jag (show k < b.parts.length by omega)
         simp
         refine Jaj.intro (by kernel_rfl) ?_
         have hkb : k < b.parts.length := by omega
         simp [h, e, e2, hkb, -getElem?_pos, List.getElem?_cons_zero, List.getElem?_cons_succ]
         refine ⟨.of (by kernel_rfl), ?_⟩
         by_cases hxy : x = y
         . subst hxy
           simp
           refine ⟨wrap_i64 (by omega) (by omega), k + 1, ⟨by omega, fun j hj => ?_⟩, by omega, ?_⟩
           . by_cases hjk : j = k
             . rw [hjk, e, e2]
             . exact hp j (by omega)
           . simp
             try decide
         . have hne : ¬ a.parts = b.parts := fun hq => hxy (by rw [hq, e2] at e; cases e; rfl)
           simp [hxy]
           simp [Jaa, hne]
       . simp at h
         have hpe : a.parts = b.parts := Jq5 h1 (fun j hj => hp j (by omega))
         clear hp
         simp
         refine Jah.go [2, 3] [0, 1] 0 [] (fun _ => []) (fun _ (k : Nat) => [(6, .p (.int .i64 k))]) (fun _ _ => []) (fun k => k <= a.pipes.length /\ ∀ j, j < k -> a.pipes[j]? = b.pipes[j]?) (fun k => a.pipes.length - k) 0 ⟨by omega, fun j h => by omega⟩ ?_ ?_
         . simp
           try decide
         . clear hk h
           rintro k ⟨hk, hp⟩
           simp
           refine Jac (fun h => ?_) (fun h => ?_)
           . simp at h
             obtain ⟨x, e⟩ := Jag h
             obtain ⟨y, e2⟩ := Jag (show k < b.pipes.length by omega)
             simp
             refine Jaj.intro (by kernel_rfl) ?_
             have hkb : k < b.pipes.length := by omega
             simp [h, e, e2, hkb, -getElem?_pos, List.getElem?_cons_zero, List.getElem?_cons_succ]
             refine ⟨.of (by kernel_rfl), ?_⟩
             by_cases hxy : x = y
             . subst hxy
               simp
               refine ⟨wrap_i64 (by omega) (by omega), k + 1, ⟨by omega, fun j hj => ?_⟩, by omega, ?_⟩
               . by_cases hjk : j = k
                 . rw [hjk, e, e2]
                 . exact hp j (by omega)
               . simp
                 try decide
             . have hne : ¬ a.pipes = b.pipes := fun hq => hxy (by rw [hq, e2] at e; cases e; rfl)
               simp [hxy]
               simp [Jaa, hne]
           . simp at h
             have hpi : a.pipes = b.pipes := Jq5 h2 (fun j hj => hp j (by omega))
             simp [Jaa, hpe, hpi]
   . have h3 : ¬ a.pipes = b.pipes := fun h => h2 (by rw [h])
     have h4 : ¬ (a.pipes.length : Int) = b.pipes.length := by omega
     simp [h4]
     simp [Jaa, h3]
 . have h3 : ¬ a.parts = b.parts := fun h => h1 (by rw [h])
   have h4 : ¬ (a.parts.length : Int) = b.parts.length := by omega
   simp [h4]
   simp [Jaa, h3]
end Go.Am
namespace Go.Am
open Go Go.Proofs Go.Pn
def Jq8 (c : Circuit) : Prop := (c.parts.length <= 12 \/ 64 < c.parts.length /\ c.parts.length < 128) /\ (c.pipes.length <= 24 \/ 256 < c.pipes.length /\ c.pipes.length < 512)
instance (c : Circuit) : Decidable (Jq8 c) := by unfold Jq8; infer_instance
end Go.Am
