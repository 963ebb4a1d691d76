/- Lemmas and contracts for the proof of a statement of this seat. -/
import Derived.Test.YtmfjjncfdpejiaaGreatDoorZC4
set_option linter.unusedVariables false
set_option linter.unusedSimpArgs false
namespace Go.Am
open Go Go.Proofs Go.Pn
theorem J8d {c : Circuit} (hk : Jgk c) (hn : c.parts.length <= 100) : (allP c).length <= 1200 := by
 have := Jmo hk (k := c.parts.length)
 unfold allP
 omega
end Go.Am
namespace Go.Am
open Go Go.Proofs Go.Pn
def Jr5 (c : Circuit) (p : Port) : Prop := (around c p)[0]? = some p
instance (c : Circuit) (p : Port) : Decidable (Jr5 c p) := inferInstanceAs (Decidable ((around c p)[0]? = some p))
def J22 (c : Circuit) (l : List Port) : List (List Port) := (l.filter fun p => decide (Jr5 c p)).map (around c)
def nets (c : Circuit) : List (List Port) := J22 c (allP c)
@[simp] def Ports.row (l : List Port) : List AV := [.p (.lst 2 (l.map Port.enc))]
def Jbq (c : Circuit) (p : Port) : Int := if Jbk c p ≠ 0 then Jbk c p else Jbx c p
def netP (c : Circuit) (p : Port) : Int := idxI (nets c) fun l => decide (p ∈ l)
end Go.Am
namespace Go.Am
open Go Go.Proofs Go.Pn
def Js1 (f b : Int) (p : Port) : Port := if f <= p.part then ⟨p.part + b, p.name⟩ else p
def J2v (f b : Int) (x : Pipe) : Pipe := ⟨Js1 f b x.fr, Js1 f b x.to⟩
def J2u (f b : Int) (l : List Pipe) : List Pipe := l.map (J2v f b)
end Go.Am
namespace Go.Am
open Go Go.Proofs Go.Pn
end Go.Am
namespace Go.Am
open Go Go.Proofs Go.Pn
def Jc6 (c : Circuit) (k : Int) : Int := (c.parts[k.toNat]?.map (·.kind)).getD 0
def Jc8 (c : Circuit) (s : Txt) : Int := idxI c.parts fun p => decide (p.name = s)
def swK (c : Circuit) (k : Int) : Int := if 0 <= k /\ Jc6 c k ≠ 6 then -1 else k
theorem Jn9 (c : Circuit) (s : Txt) : Jc8 c s = -1 \/ ∃ (i : Nat) (x : Part), Jc8 c s = i /\ c.parts[i]? = some x /\ x.name = s := by
 rcases Jko c.parts (fun p => decide (p.name = s)) with ⟨_, h⟩ | ⟨i, x, _, h1, h2, h3⟩
 . exact .inl h
 . exact .inr ⟨i, x, h1, h2, by simpa using h3⟩
def swAt (c : Circuit) (s : Txt) : Int := swK c (Jc8 c s)
end Go.Am
namespace Go.Am
open Go Go.Proofs Go.Pn
@[simp] theorem Kag {α β : Type} {f : α -> β} {l : List α} : List.take l.length (l.map f) = l.map f := List.take_of_length_le (by simp)
end Go.Am
namespace Go.Am
open Go Go.Proofs Go.Pn
def J5z (k : Nat) (l : List Pipe) : List Pipe := l.filter fun x => !decide (x.fr.part = k) && !decide (x.to.part = k)
def J5u (c : Circuit) (k : Nat) : Circuit := ⟨c.parts.take k ++ c.parts.drop (k + 1), J2u k (-1) (J5z k c.pipes)⟩
end Go.Am
namespace Go.Am
open Go Go.Proofs Go.Pn
theorem Jq9 {α : Type} {xs ys : List α} (hl : xs.length = ys.length) (h : ∀ j, j < xs.length -> xs[j]? = ys[j]?) : xs = ys := by
 apply List.ext_getElem?
 intro j
 by_cases hj : j < xs.length
 . exact h j hj
 . rw [List.getElem?_eq_none (by omega), List.getElem?_eq_none (by omega)]
theorem Jzh (a b : Circuit) (ha : Sized a) (hb : Sized b) : Pure Tryz.prog GL 19 [a.av, b.av] (.p (.bool (decide (a.parts = b.parts) && decide (a.pipes = b.pipes)))) := by
 refine Pure.of_walk (N := 59) Tryz.func19 rfl rfl rfl (by simp) (by first | (simp; done) | simp [*]) ?_
 have ha1 := ha.parts
 have ha2 := ha.pipes
 simp
 by_cases h1 : a.parts.length = b.parts.length
 . simp [h1]
   by_cases h2 : a.pipes.length = b.pipes.length
   . simp [h2]
     refine Jam.go [2, 3] [0, 1] 0 [] (fun _ => []) (fun _ (k : Nat) => [(5, .p (.int .i64 k))]) (fun _ _ => []) (fun k => k <= a.parts.length /\ ∀ j, j < k -> a.parts[j]? = b.parts[j]?) (fun k => a.parts.length - k) 0 ⟨by omega, fun j h => by omega⟩ ?_ ?_
     . simp
       try decide
     . rintro k ⟨hk, hp⟩
       simp
       refine Jac (fun h => ?_) (fun h => ?_)
       . simp at h
         obtain ⟨x, e⟩ := Jah h
         obtain ⟨y, e2⟩ := Jah (show k < b.parts.length by omega)
         simp
         refine Jaj.intro (by kernel_rfl) ?_
         have hkb : k < b.parts.length := by omega
         simp [h, e, e2, hkb, -getElem?_pos, List.getElem?_cons_zero, List.getElem?_cons_succ]
         refine ⟨.of (by kernel_rfl), ?_⟩
         by_cases hxy : x = y
         . subst hxy
           simp
           refine ⟨wrap_i64 (by omega) (by omega), k + 1, ⟨by omega, fun j hj => ?_⟩, by omega, ?_⟩
           . by_cases hjk : j = k
             . rw [hjk, e, e2]
             . exact hp j (by omega)
           . simp
             try decide
         . have hne : ¬ a.parts = b.parts := fun hq => hxy (by rw [hq, e2] at e; cases e; rfl)
           simp [hxy]
           simp [Jaa, hne]
       . simp at h
         have hpe : a.parts = b.parts := Jq9 h1 (fun j hj => hp j (by omega))
         clear hp
         simp
         refine Jam.go [2, 3] [0, 1] 0 [] (fun _ => []) (fun _ (k : Nat) => [(6, .p (.int .i64 k))]) (fun _ _ => []) (fun k => k <= a.pipes.length /\ ∀ j, j < k -> a.pipes[j]? = b.pipes[j]?) (fun k => a.pipes.length - k) 0 ⟨by omega, fun j h => by omega⟩ ?_ ?_
         . simp
           try decide
         . clear hk h
           rintro k ⟨hk, hp⟩
           simp
           refine Jac (fun h => ?_) (fun h => ?_)
           . simp at h
             obtain ⟨x, e⟩ := Jah h
             obtain ⟨y, e2⟩ := Jah (show k < b.pipes.length by omega)
             simp
             refine Jaj.intro (by kernel_rfl) ?_
             have hkb : k < b.pipes.length := by omega
             simp [h, e, e2, hkb, -getElem?_pos, List.getElem?_cons_zero, List.getElem?_cons_succ]
             refine ⟨.of (by kernel_rfl), ?_⟩
             by_cases hxy : x = y
             . subst hxy
               simp
               refine ⟨wrap_i64 (by omega) (by omega), k + 1, ⟨by omega, fun j hj => ?_⟩, by omega, ?_⟩
               . by_cases hjk : j = k
                 . rw [hjk, e, e2]
                 . exact hp j (by omega)
               . simp
                 try decide
             . have hne : ¬ a.pipes = b.pipes := fun hq => hxy (by rw [hq, e2] at e; cases e; rfl)
               simp [hxy]
               simp [Jaa, hne]
           . simp at h
             have hpi : a.pipes = b.pipes := Jq9 h2 (fun j hj => hp j (by omega))
             simp [Jaa, hpe, hpi]
   . have h3 : ¬ a.pipes = b.pipes := fun h => h2 (by rw [h])
     have h4 : ¬ (a.pipes.length : Int) = b.pipes.length := by omega
     simp [h4]
     simp [Jaa, h3]
 . have h3 : ¬ a.parts = b.parts := fun h => h1 (by rw [h])
   have h4 : ¬ (a.parts.length : Int) = b.parts.length := by omega
   simp [h4]
   simp [Jaa, h3]
end Go.Am
namespace Go.Am
open Go Go.Proofs Go.Pn
def Jt7 (c : Circuit) (k : Nat) : Prop := ∀ (j : Nat) x, j < k -> c.pipes[j]? = some x -> x.fr.name.length <= 60 /\ x.to.name.length <= 60
def Jrd (c : Circuit) : Prop := ∀ (j : Nat) x, j < 12 -> c.parts[j]? = some x -> x.name.length <= 60
def Jnc (c : Circuit) : Prop := ∀ (j : Nat) x, j < 24 -> c.pipes[j]? = some x -> x.fr.name.length <= 60 /\ x.to.name.length <= 60
def Jas (c : Circuit) : Prop := (c.parts.length <= 12 \/ 64 < c.parts.length /\ c.parts.length < 128) /\ (c.pipes.length <= 24 \/ 256 < c.pipes.length /\ c.pipes.length < 512)
def Jd7 (c : Circuit) : Prop := Jrd c /\ Jnc c /\ Jas c
open Classical in
noncomputable def fewP (c : Circuit) : Bool := decide (Jd7 c)
instance (c : Circuit) : Decidable (Jas c) := by unfold Jas; infer_instance
theorem Jin {c : Circuit} (h : ¬ Jd7 c) : fewP c = false := by simp [fewP, h]
set_option maxHeartbeats 2000000 in
theorem Jzf (c : Circuit) (hs : Sized c) : Pure Tryz.prog GL 78 [c.av] (.p (.bool (fewP c))) := by
 refine Pure.of_walk (N := 89) Tryz.func78 rfl rfl rfl (by simp) (by first | (simp; done) | simp [*]) ?_
 simp
 refine Jam.go [1] [0] 0 [] (fun _ => []) (fun _ (k : Nat) => [(3, .p (.int .i64 k))]) (fun _ _ => []) (fun k => k <= c.parts.length /\ k <= 12 /\ ∀ (j : Nat) x, j < k -> c.parts[j]? = some x -> x.name.length <= 60) (fun k => c.parts.length - k) 0 ⟨by omega, by omega, fun j x h => by omega⟩ ?_ ?_
 . simp
 . rintro k ⟨hk, hk2, hp⟩
   simp
   by_cases h1 : k < c.parts.length /\ k < 12
   . obtain ⟨h1, h2⟩ := h1
     obtain ⟨x, e⟩ := Jah h1
     have hn := hs.names x (List.mem_of_getElem? e)
     have h2c : (k : Int) < 12 := by omega
     simp [h1]
     simp [h2c]
     simp [h1, e, -getElem?_pos, List.getElem?_cons_zero, List.getElem?_cons_succ]
     by_cases h4 : (60 : Int) < x.name.length
     . have hno : ¬ Jd7 c := fun hq => by have := hq.1 k x h2 e; omega
       simp [h4]
       simp [Jaa, Jin hno]
     . simp [h4]
       refine ⟨wrap_i64 (by omega) (by omega), k + 1, ⟨by omega, by omega, fun j y hj e2 => ?_⟩, by omega, ?_⟩
       . by_cases hjk : j = k
         . subst hjk
           rw [e] at e2
           cases e2
           omega
         . exact hp j y (by omega) e2
       . simp
   . have hfp : Jrd c := by
       intro j x hj e
       obtain ⟨hj2, _⟩ := gsI.1 e
       exact hp j x (by omega) e
     clear hp
     by_cases h2 : k < c.parts.length
     . have h3 : ¬ (k : Int) < 12 := by omega
       simp [h2]
       simp [h3]
       clear h2 h3 h1 hk2 hk
       refine Jam.go [1] [0] 0 [] (fun _ => []) (fun _ (k : Nat) => [(4, .p (.int .i64 k))]) (fun _ _ => []) (fun k => k <= c.pipes.length /\ k <= 24 /\ Jt7 c k) (fun k => c.pipes.length - k) 0 ⟨by omega, by omega, fun j x h => by omega⟩ ?_ ?_
       . simp
       . rintro k ⟨hk, hk2, hp⟩
         simp
         by_cases h1 : k < c.pipes.length /\ k < 24
         . obtain ⟨h1, h2⟩ := h1
           obtain ⟨x, e⟩ := Jah h1
           have h2c : (k : Int) < 24 := by omega
           simp [h1]
           simp [h2c]
           simp [h1, e, -getElem?_pos, List.getElem?_cons_zero, List.getElem?_cons_succ]
           by_cases h4 : (60 : Int) < x.fr.name.length
           . have hno : ¬ Jd7 c := fun hq => by have := (hq.2.1 k x h2 e).1; omega
             simp [h4]
             simp [Jaa, Jin hno]
           . simp [h4]
             simp [h1, e, -getElem?_pos, List.getElem?_cons_zero, List.getElem?_cons_succ]
             by_cases h5 : (60 : Int) < x.to.name.length
             . have hno : ¬ Jd7 c := fun hq => by have := (hq.2.1 k x h2 e).2; omega
               simp [h5]
               simp [Jaa, Jin hno]
             . simp [h5]
               refine ⟨wrap_i64 (by omega) (by omega), k + 1, ⟨by omega, by omega, fun j y hj e2 => ?_⟩, by omega, ?_⟩
               . by_cases hjk : j = k
                 . subst hjk
                   rw [e] at e2
                   cases e2
                   omega
                 . exact hp j y (by omega) e2
               . simp
         . have hfq : Jnc c := by
             intro j x hj e
             obtain ⟨hj2, _⟩ := gsI.1 e
             exact hp j x (by omega) e
           clear hp
           have hfe : fewP c = decide (Jas c) := by
             by_cases hq : Jas c
             . simp [fewP, Jd7, hfp, hfq, hq]
             . simp [fewP, Jd7, hq]
           rw [hfe]
           by_cases h2 : k < c.pipes.length
           . have h3 : ¬ (k : Int) < 24 := by omega
             simp [h2]
             simp [h3]
             clear h2 h3 h1 hk2 hk
             clear hfe hfq hfp
             by_cases a1 : (c.parts.length : Int) <= 12
             . simp [a1]
               by_cases b1 : (c.pipes.length : Int) <= 24
               . simp [b1]
                 simp [Jaa]
                 unfold Jas
                 omega
               . by_cases b2 : (256 : Int) < c.pipes.length
                 . by_cases b3 : (c.pipes.length : Int) < 512
                   . simp [b1]
                     simp [b2]
                     simp [b3]
                     simp [Jaa]
                     unfold Jas
                     omega
                   . simp [b1]
                     simp [b2]
                     simp [b3]
                     simp [Jaa]
                     unfold Jas
                     omega
                 . simp [b1]
                   simp [b2]
                   simp [Jaa]
                   unfold Jas
                   omega
             . by_cases a2 : (64 : Int) < c.parts.length
               . by_cases a3 : (c.parts.length : Int) < 128
                 . simp [a1]
                   simp [a2]
                   simp [a3]
                   by_cases b1 : (c.pipes.length : Int) <= 24
                   . simp [b1]
                     simp [Jaa]
                     unfold Jas
                     omega
                   . by_cases b2 : (256 : Int) < c.pipes.length
                     . by_cases b3 : (c.pipes.length : Int) < 512
                       . simp [b1]
                         simp [b2]
                         simp [b3]
                         simp [Jaa]
                         unfold Jas
                         omega
                       . simp [b1]
                         simp [b2]
                         simp [b3]
                         simp [Jaa]
                         unfold Jas
                         omega
                     . simp [b1]
                       simp [b2]
                       simp [Jaa]
                       unfold Jas
                       omega
                 . simp [a1]
                   simp [a2]
                   simp [a3]
                   simp [Jaa]
                   unfold Jas
                   omega
               . simp [a1]
                 simp [a2]
                 simp [Jaa]
                 unfold Jas
                 omega
           . simp [h2]
             clear h2 h1 hk2 hk
             clear hfe hfq hfp
             by_cases a1 : (c.parts.length : Int) <= 12
             . simp [a1]
               by_cases b1 : (c.pipes.length : Int) <= 24
               . simp [b1]
                 simp [Jaa]
                 unfold Jas
                 omega
               . by_cases b2 : (256 : Int) < c.pipes.length
                 . by_cases b3 : (c.pipes.length : Int) < 512
                   . simp [b1]
                     simp [b2]
                     simp [b3]
                     simp [Jaa]
                     unfold Jas
                     omega
                   . simp [b1]
                     simp [b2]
                     simp [b3]
                     simp [Jaa]
                     unfold Jas
                     omega
                 . simp [b1]
                   simp [b2]
                   simp [Jaa]
                   unfold Jas
                   omega
             . by_cases a2 : (64 : Int) < c.parts.length
               . by_cases a3 : (c.parts.length : Int) < 128
                 . simp [a1]
                   simp [a2]
                   simp [a3]
                   by_cases b1 : (c.pipes.length : Int) <= 24
                   . simp [b1]
                     simp [Jaa]
                     unfold Jas
                     omega
                   . by_cases b2 : (256 : Int) < c.pipes.length
                     . by_cases b3 : (c.pipes.length : Int) < 512
                       . simp [b1]
                         simp [b2]
                         simp [b3]
                         simp [Jaa]
                         unfold Jas
                         omega
                       . simp [b1]
                         simp [b2]
                         simp [b3]
                         simp [Jaa]
                         unfold Jas
                         omega
                     . simp [b1]
                       simp [b2]
                       simp [Jaa]
                       unfold Jas
                       omega
                 . simp [a1]
                   simp [a2]
                   simp [a3]
                   simp [Jaa]
                   unfold Jas
                   omega
               . simp [a1]
                 simp [a2]
                 simp [Jaa]
                 unfold Jas
                 omega
     . simp [h2]
       clear h2 h1 hk2 hk
       refine Jam.go [1] [0] 0 [] (fun _ => []) (fun _ (k : Nat) => [(4, .p (.int .i64 k))]) (fun _ _ => []) (fun k => k <= c.pipes.length /\ k <= 24 /\ Jt7 c k) (fun k => c.pipes.length - k) 0 ⟨by omega, by omega, fun j x h => by omega⟩ ?_ ?_
       . simp
       . rintro k ⟨hk, hk2, hp⟩
         simp
         by_cases h1 : k < c.pipes.length /\ k < 24
         . obtain ⟨h1, h2⟩ := h1
           obtain ⟨x, e⟩ := Jah h1
           have h2c : (k : Int) < 24 := by omega
           simp [h1]
           simp [h2c]
           simp [h1, e, -getElem?_pos, List.getElem?_cons_zero, List.getElem?_cons_succ]
           by_cases h4 : (60 : Int) < x.fr.name.length
           . have hno : ¬ Jd7 c := fun hq => by have := (hq.2.1 k x h2 e).1; omega
             simp [h4]
             simp [Jaa, Jin hno]
           . simp [h4]
             simp [h1, e, -getElem?_pos, List.getElem?_cons_zero, List.getElem?_cons_succ]
             by_cases h5 : (60 : Int) < x.to.name.length
             . have hno : ¬ Jd7 c := fun hq => by have := (hq.2.1 k x h2 e).2; omega
               simp [h5]
               simp [Jaa, Jin hno]
             . simp [h5]
               refine ⟨wrap_i64 (by omega) (by omega), k + 1, ⟨by omega, by omega, fun j y hj e2 => ?_⟩, by omega, ?_⟩
               . by_cases hjk : j = k
                 . subst hjk
                   rw [e] at e2
                   cases e2
                   omega
                 . exact hp j y (by omega) e2
               . simp
         . have hfq : Jnc c := by
             intro j x hj e
             obtain ⟨hj2, _⟩ := gsI.1 e
             exact hp j x (by omega) e
           clear hp
           have hfe : fewP c = decide (Jas c) := by
             by_cases hq : Jas c
             . simp [fewP, Jd7, hfp, hfq, hq]
             . simp [fewP, Jd7, hq]
           rw [hfe]
           by_cases h2 : k < c.pipes.length
           . have h3 : ¬ (k : Int) < 24 := by omega
             simp [h2]
             simp [h3]
             clear h2 h3 h1 hk2 hk
             clear hfe hfq hfp
             by_cases a1 : (c.parts.length : Int) <= 12
             . simp [a1]
               by_cases b1 : (c.pipes.length : Int) <= 24
               . simp [b1]
                 simp [Jaa]
                 unfold Jas
                 omega
               . by_cases b2 : (256 : Int) < c.pipes.length
                 . by_cases b3 : (c.pipes.length : Int) < 512
                   . simp [b1]
                     simp [b2]
                     simp [b3]
                     simp [Jaa]
                     unfold Jas
                     omega
                   . simp [b1]
                     simp [b2]
                     simp [b3]
                     simp [Jaa]
                     unfold Jas
                     omega
                 . simp [b1]
                   simp [b2]
                   simp [Jaa]
                   unfold Jas
                   omega
             . by_cases a2 : (64 : Int) < c.parts.length
               . by_cases a3 : (c.parts.length : Int) < 128
                 . simp [a1]
                   simp [a2]
                   simp [a3]
                   by_cases b1 : (c.pipes.length : Int) <= 24
                   . simp [b1]
                     simp [Jaa]
                     unfold Jas
                     omega
                   . by_cases b2 : (256 : Int) < c.pipes.length
                     . by_cases b3 : (c.pipes.length : Int) < 512
                       . simp [b1]
                         simp [b2]
                         simp [b3]
                         simp [Jaa]
                         unfold Jas
                         omega
                       . simp [b1]
                         simp [b2]
                         simp [b3]
                         simp [Jaa]
                         unfold Jas
                         omega
                     . simp [b1]
                       simp [b2]
                       simp [Jaa]
                       unfold Jas
                       omega
                 . simp [a1]
                   simp [a2]
                   simp [a3]
                   simp [Jaa]
                   unfold Jas
                   omega
               . simp [a1]
                 simp [a2]
                 simp [Jaa]
                 unfold Jas
                 omega
           . simp [h2]
             clear h2 h1 hk2 hk
             clear hfe hfq hfp
             by_cases a1 : (c.parts.length : Int) <= 12
             . simp [a1]
               by_cases b1 : (c.pipes.length : Int) <= 24
               . simp [b1]
                 simp [Jaa]
                 unfold Jas
                 omega
               . by_cases b2 : (256 : Int) < c.pipes.length
                 . by_cases b3 : (c.pipes.length : Int) < 512
                   . simp [b1]
                     simp [b2]
                     simp [b3]
                     simp [Jaa]
                     unfold Jas
                     omega
                   . simp [b1]
                     simp [b2]
                     simp [b3]
                     simp [Jaa]
                     unfold Jas
                     omega
                 . simp [b1]
                   simp [b2]
                   simp [Jaa]
                   unfold Jas
                   omega
             . by_cases a2 : (64 : Int) < c.parts.length
               . by_cases a3 : (c.parts.length : Int) < 128
                 . simp [a1]
                   simp [a2]
                   simp [a3]
                   by_cases b1 : (c.pipes.length : Int) <= 24
                   . simp [b1]
                     simp [Jaa]
                     unfold Jas
                     omega
                   . by_cases b2 : (256 : Int) < c.pipes.length
                     . by_cases b3 : (c.pipes.length : Int) < 512
                       . simp [b1]
                         simp [b2]
                         simp [b3]
                         simp [Jaa]
                         unfold Jas
                         omega
                       . simp [b1]
                         simp [b2]
                         simp [b3]
                         simp [Jaa]
                         unfold Jas
                         omega
                     . simp [b1]
                       simp [b2]
                       simp [Jaa]
                       unfold Jas
                       omega
                 . simp [a1]
                   simp [a2]
                   simp [a3]
                   simp [Jaa]
                   unfold Jas
                   omega
               . simp [a1]
                 simp [a2]
                 simp [Jaa]
                 unfold Jas
                 omega
end Go.Am
