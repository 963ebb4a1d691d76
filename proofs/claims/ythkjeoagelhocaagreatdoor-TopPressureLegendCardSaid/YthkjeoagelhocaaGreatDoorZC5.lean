/- Lemmas and contracts for the proof of a statement of this seat. -/
import Derived.Test.YthkjeoagelhocaaGreatDoorZC4
set_option linter.unusedVariables false
set_option linter.unusedSimpArgs false
namespace Go.Am
open Go Go.Proofs Go.Pn
theorem Jik {c : Circuit} (hk : Jdf c) (hn : c.parts.length <= 100) : (allP c).length <= 1200 := by
 have := Jl7 hk (k := c.parts.length)
 unfold allP
 omega
theorem J8a {α : Type} {p : α -> Bool} {xs : List α} {k : Nat} {x : α} (e : xs[k]? = some x) : (xs.take (k + 1)).filter p = (xs.take k).filter p ++ (if p x then [x] else []) := by
 rw [take_snoc e, List.filter_append]
 congr 1
 simp [List.filter_cons]
end Go.Am
namespace Go.Am
open Go Go.Proofs Go.Pn
theorem Jtu {c : Circuit} {p : Port} {l : List Port} (h : p ∈ l) : ∀ n, p ∈ Jbc c l n
 | 0 => h
 | n + 1 => by
   obtain ⟨e, h1, _⟩ := Jkg (ps := c.pipes) (a := (Jbc c l n, false))
   have h1' : (Jec c (Jbc c l n)).1 = Jbc c l n ++ e := h1
   rw [Jbc, h1']
   exact List.mem_append_left _ (Jtu h n)
theorem J3s {c : Circuit} {p : Port} (h : p ∈ allP c) : p ∈ around c p := by
 rw [around, List.mem_filter]
 exact ⟨h, by simp; exact Jtu (by simp) _⟩
theorem Jma {c : Circuit} {p : Port} : (around c p).length <= (allP c).length := List.length_filter_le ..
def Jxl (c : Circuit) (p : Port) : Prop := (around c p)[0]? = some p
instance (c : Circuit) (p : Port) : Decidable (Jxl c p) := inferInstanceAs (Decidable ((around c p)[0]? = some p))
def Jri (c : Circuit) (l : List Port) : List (List Port) := (l.filter fun p => decide (Jxl c p)).map (around c)
def nets (c : Circuit) : List (List Port) := Jri c (allP c)
@[simp] def Ports.row (l : List Port) : List AV := [.p (.lst 2 (l.map Port.enc))]
theorem Ji8 {c : Circuit} (h : Jac c = 0) : (nets c).length <= 1200 /\ ∀ l ∈ nets c, l.length <= 1200 := by
 have h2 := Ja8 h
 have hal := Jik h2.1 (by omega)
 refine ⟨?_, fun l hl => ?_⟩
 . unfold nets Jri
   rw [List.length_map]
   exact Nat.le_trans (List.length_filter_le ..) hal
 . unfold nets Jri at hl
   obtain ⟨p, _, rfl⟩ := List.mem_map.1 hl
   exact Nat.le_trans Jma hal
def Jdl (c : Circuit) (p : Port) : Int := if Jbi c p ≠ 0 then Jbi c p else Jbw c p
def netP (c : Circuit) (p : Port) : Int := idxI (nets c) fun l => decide (p ∈ l)
end Go.Am
namespace Go.Am
open Go Go.Proofs Go.Pn
def Jy0 (f b : Int) (p : Port) : Port := if f <= p.part then ⟨p.part + b, p.name⟩ else p
def Kb7 (f b : Int) (x : Pipe) : Pipe := ⟨Jy0 f b x.fr, Jy0 f b x.to⟩
def Kb6 (f b : Int) (l : List Pipe) : List Pipe := l.map (Kb7 f b)
end Go.Am
namespace Go.Am
open Go Go.Proofs Go.Pn
end Go.Am
namespace Go.Am
open Go Go.Proofs Go.Pn
def Jaj (c : Circuit) (k : Int) : Int := (c.parts[k.toNat]?.map (·.kind)).getD 0
def Jck (c : Circuit) (s : Txt) : Int := idxI c.parts fun p => decide (p.name = s)
def swK (c : Circuit) (k : Int) : Int := if 0 <= k /\ Jaj c k ≠ 6 then -1 else k
theorem Jjd (c : Circuit) (s : Txt) : Jck c s = -1 \/ ∃ (i : Nat) (x : Part), Jck c s = i /\ c.parts[i]? = some x /\ x.name = s := by
 rcases Ji0 c.parts (fun p => decide (p.name = s)) with ⟨_, h⟩ | ⟨i, x, _, h1, h2, h3⟩
 . exact .inl h
 . exact .inr ⟨i, x, h1, h2, by simpa using h3⟩
def swAt (c : Circuit) (s : Txt) : Int := swK c (Jck c s)
end Go.Am
namespace Go.Am
open Go Go.Proofs Go.Pn
@[simp] theorem Kkv {α β : Type} {f : α -> β} {l : List α} : List.take l.length (l.map f) = l.map f := List.take_of_length_le (by simp)
end Go.Am
namespace Go.Am
open Go Go.Proofs Go.Pn
def Jfy (c : Circuit) (s : Txt) : Int := if Jac c ≠ 0 then Jac c else if Jck c s < 0 then 6 else if Jaj c (Jck c s) ≠ 1 then 1 else 0
def Jc3 (c : Circuit) (s : Txt) (d : UInt8) : Int := if Jfy c s ≠ 0 then 0 else swAt c (s ++ [d])
def Kf5 (k : Nat) (l : List Pipe) : List Pipe := l.filter fun x => !decide (x.fr.part = k) && !decide (x.to.part = k)
def Kf2 (c : Circuit) (k : Nat) : Circuit := ⟨c.parts.take k ++ c.parts.drop (k + 1), Kb6 k (-1) (Kf5 k c.pipes)⟩
end Go.Am
namespace Go.Am
open Go Go.Proofs Go.Pn
end Go.Am
namespace Go.Am
open Go Go.Proofs Go.Pn
def J0m (c : Circuit) (k : Nat) : Prop := ∀ (j : Nat) x, j < k -> c.pipes[j]? = some x -> x.fr.name.length <= 60 /\ x.to.name.length <= 60
def Jwj (c : Circuit) : Prop := ∀ (j : Nat) x, j < 12 -> c.parts[j]? = some x -> x.name.length <= 60
def Jqk (c : Circuit) : Prop := ∀ (j : Nat) x, j < 24 -> c.pipes[j]? = some x -> x.fr.name.length <= 60 /\ x.to.name.length <= 60
def Jar (c : Circuit) : Prop := (c.parts.length <= 12 \/ 64 < c.parts.length /\ c.parts.length < 128) /\ (c.pipes.length <= 24 \/ 256 < c.pipes.length /\ c.pipes.length < 512)
def Jeg (c : Circuit) : Prop := Jwj c /\ Jqk c /\ Jar c
open Classical in
noncomputable def fewP (c : Circuit) : Bool := decide (Jeg c)
instance (c : Circuit) : Decidable (Jar c) := by unfold Jar; infer_instance
theorem Jkp {c : Circuit} (h : ¬ Jeg c) : fewP c = false := by simp [fewP, h]
set_option maxHeartbeats 2000000 in
theorem J55 (c : Circuit) (hs : Sized c) : Pure Tryz.prog GL 18 [c.av] (.p (.bool (fewP c))) := by
 refine Pure.of_walk (N := 89) Tryz.func18 rfl rfl rfl (by simp) (by first | (simp; done) | simp [*]) ?_
 simp
 refine Jag.go [1] [0] 0 [] (fun _ => []) (fun _ (k : Nat) => [(3, .p (.int .i64 k))]) (fun _ _ => []) (fun k => k <= c.parts.length /\ k <= 12 /\ ∀ (j : Nat) x, j < k -> c.parts[j]? = some x -> x.name.length <= 60) (fun k => c.parts.length - k) 0 ⟨by omega, by omega, fun j x h => by omega⟩ ?_ ?_
 . simp
 . rintro k ⟨hk, hk2, hp⟩
   simp
   by_cases h1 : k < c.parts.length /\ k < 12
   . obtain ⟨h1, h2⟩ := h1
     obtain ⟨x, e⟩ := Jae h1
     have hn := hs.names x (List.mem_of_getElem? e)
     have h2c : (k : Int) < 12 := by omega
     simp [h1]
     simp [h2c]
     simp [h1, e, -getElem?_pos, List.getElem?_cons_zero, List.getElem?_cons_succ]
     by_cases h4 : (60 : Int) < x.name.length
     . have hno : ¬ Jeg c := fun hq => by have := hq.1 k x h2 e; omega
       simp [h4]
       simp [Jaa, Jkp hno]
     . simp [h4]
       refine ⟨wrap_i64 (by omega) (by omega), k + 1, ⟨by omega, by omega, fun j y hj e2 => ?_⟩, by omega, ?_⟩
       . by_cases hjk : j = k
         . subst hjk
           rw [e] at e2
           cases e2
           omega
         . exact hp j y (by omega) e2
       . simp
   . have hfp : Jwj c := by
       intro j x hj e
       obtain ⟨hj2, _⟩ := gsI.1 e
       exact hp j x (by omega) e
     clear hp
     by_cases h2 : k < c.parts.length
     . have h3 : ¬ (k : Int) < 12 := by omega
       simp [h2]
       simp [h3]
       clear h2 h3 h1 hk2 hk
       refine Jag.go [1] [0] 0 [] (fun _ => []) (fun _ (k : Nat) => [(4, .p (.int .i64 k))]) (fun _ _ => []) (fun k => k <= c.pipes.length /\ k <= 24 /\ J0m c k) (fun k => c.pipes.length - k) 0 ⟨by omega, by omega, fun j x h => by omega⟩ ?_ ?_
       . simp
       . rintro k ⟨hk, hk2, hp⟩
         simp
         by_cases h1 : k < c.pipes.length /\ k < 24
         . obtain ⟨h1, h2⟩ := h1
           obtain ⟨x, e⟩ := Jae h1
           have h2c : (k : Int) < 24 := by omega
           simp [h1]
           simp [h2c]
           simp [h1, e, -getElem?_pos, List.getElem?_cons_zero, List.getElem?_cons_succ]
           by_cases h4 : (60 : Int) < x.fr.name.length
           . have hno : ¬ Jeg c := fun hq => by have := (hq.2.1 k x h2 e).1; omega
             simp [h4]
             simp [Jaa, Jkp hno]
           . simp [h4]
             simp [h1, e, -getElem?_pos, List.getElem?_cons_zero, List.getElem?_cons_succ]
             by_cases h5 : (60 : Int) < x.to.name.length
             . have hno : ¬ Jeg c := fun hq => by have := (hq.2.1 k x h2 e).2; omega
               simp [h5]
               simp [Jaa, Jkp hno]
             . simp [h5]
               refine ⟨wrap_i64 (by omega) (by omega), k + 1, ⟨by omega, by omega, fun j y hj e2 => ?_⟩, by omega, ?_⟩
               . by_cases hjk : j = k
                 . subst hjk
                   rw [e] at e2
                   cases e2
                   omega
                 . exact hp j y (by omega) e2
               . simp
         . have hfq : Jqk c := by
             intro j x hj e
             obtain ⟨hj2, _⟩ := gsI.1 e
             exact hp j x (by omega) e
           clear hp
           have hfe : fewP c = decide (Jar c) := by
             by_cases hq : Jar c
             . simp [fewP, Jeg, hfp, hfq, hq]
             . simp [fewP, Jeg, hq]
           rw [hfe]
           by_cases h2 : k < c.pipes.length
           . have h3 : ¬ (k : Int) < 24 := by omega
             simp [h2]
             simp [h3]
             clear h2 h3 h1 hk2 hk
             clear hfe hfq hfp
             by_cases a1 : (c.parts.length : Int) <= 12
             . simp [a1]
               by_cases b1 : (c.pipes.length : Int) <= 24
               . simp [b1]
                 simp [Jaa]
                 unfold Jar
                 omega
               . by_cases b2 : (256 : Int) < c.pipes.length
                 . by_cases b3 : (c.pipes.length : Int) < 512
                   . simp [b1]
                     simp [b2]
                     simp [b3]
                     simp [Jaa]
                     unfold Jar
                     omega
                   . simp [b1]
                     simp [b2]
                     simp [b3]
                     simp [Jaa]
                     unfold Jar
                     omega
                 . simp [b1]
                   simp [b2]
                   simp [Jaa]
                   unfold Jar
                   omega
             . by_cases a2 : (64 : Int) < c.parts.length
               . by_cases a3 : (c.parts.length : Int) < 128
                 . simp [a1]
                   simp [a2]
                   simp [a3]
                   by_cases b1 : (c.pipes.length : Int) <= 24
                   . simp [b1]
                     simp [Jaa]
                     unfold Jar
                     omega
                   . by_cases b2 : (256 : Int) < c.pipes.length
                     . by_cases b3 : (c.pipes.length : Int) < 512
                       . simp [b1]
                         simp [b2]
                         simp [b3]
                         simp [Jaa]
                         unfold Jar
                         omega
                       . simp [b1]
                         simp [b2]
                         simp [b3]
                         simp [Jaa]
                         unfold Jar
                         omega
                     . simp [b1]
                       simp [b2]
                       simp [Jaa]
                       unfold Jar
                       omega
                 . simp [a1]
                   simp [a2]
                   simp [a3]
                   simp [Jaa]
                   unfold Jar
                   omega
               . simp [a1]
                 simp [a2]
                 simp [Jaa]
                 unfold Jar
                 omega
           . simp [h2]
             clear h2 h1 hk2 hk
             clear hfe hfq hfp
             by_cases a1 : (c.parts.length : Int) <= 12
             . simp [a1]
               by_cases b1 : (c.pipes.length : Int) <= 24
               . simp [b1]
                 simp [Jaa]
                 unfold Jar
                 omega
               . by_cases b2 : (256 : Int) < c.pipes.length
                 . by_cases b3 : (c.pipes.length : Int) < 512
                   . simp [b1]
                     simp [b2]
                     simp [b3]
                     simp [Jaa]
                     unfold Jar
                     omega
                   . simp [b1]
                     simp [b2]
                     simp [b3]
                     simp [Jaa]
                     unfold Jar
                     omega
                 . simp [b1]
                   simp [b2]
                   simp [Jaa]
                   unfold Jar
                   omega
             . by_cases a2 : (64 : Int) < c.parts.length
               . by_cases a3 : (c.parts.length : Int) < 128
                 . simp [a1]
                   simp [a2]
                   simp [a3]
                   by_cases b1 : (c.pipes.length : Int) <= 24
                   . simp [b1]
                     simp [Jaa]
                     unfold Jar
                     omega
                   . by_cases b2 : (256 : Int) < c.pipes.length
                     . by_cases b3 : (c.pipes.length : Int) < 512
                       . simp [b1]
                         simp [b2]
                         simp [b3]
                         simp [Jaa]
                         unfold Jar
                         omega
                       . simp [b1]
                         simp [b2]
                         simp [b3]
                         simp [Jaa]
                         unfold Jar
                         omega
                     . simp [b1]
                       simp [b2]
                       simp [Jaa]
                       unfold Jar
                       omega
                 . simp [a1]
                   simp [a2]
                   simp [a3]
                   simp [Jaa]
                   unfold Jar
                   omega
               . simp [a1]
                 simp [a2]
                 simp [Jaa]
                 unfold Jar
                 omega
     . simp [h2]
       clear h2 h1 hk2 hk
       refine Jag.go [1] [0] 0 [] (fun _ => []) (fun _ (k : Nat) => [(4, .p (.int .i64 k))]) (fun _ _ => []) (fun k => k <= c.pipes.length /\ k <= 24 /\ J0m c k) (fun k => c.pipes.length - k) 0 ⟨by omega, by omega, fun j x h => by omega⟩ ?_ ?_
       . simp
       . rintro k ⟨hk, hk2, hp⟩
         simp
         by_cases h1 : k < c.pipes.length /\ k < 24
         . obtain ⟨h1, h2⟩ := h1
           obtain ⟨x, e⟩ := Jae h1
           have h2c : (k : Int) < 24 := by omega
           simp [h1]
           simp [h2c]
           simp [h1, e, -getElem?_pos, List.getElem?_cons_zero, List.getElem?_cons_succ]
           by_cases h4 : (60 : Int) < x.fr.name.length
           . have hno : ¬ Jeg c := fun hq => by have := (hq.2.1 k x h2 e).1; omega
             simp [h4]
             simp [Jaa, Jkp hno]
           . simp [h4]
             simp [h1, e, -getElem?_pos, List.getElem?_cons_zero, List.getElem?_cons_succ]
             by_cases h5 : (60 : Int) < x.to.name.length
             . have hno : ¬ Jeg c := fun hq => by have := (hq.2.1 k x h2 e).2; omega
               simp [h5]
               simp [Jaa, Jkp hno]
             . simp [h5]
               refine ⟨wrap_i64 (by omega) (by omega), k + 1, ⟨by omega, by omega, fun j y hj e2 => ?_⟩, by omega, ?_⟩
               . by_cases hjk : j = k
                 . subst hjk
                   rw [e] at e2
                   cases e2
                   omega
                 . exact hp j y (by omega) e2
               . simp
         . have hfq : Jqk c := by
             intro j x hj e
             obtain ⟨hj2, _⟩ := gsI.1 e
             exact hp j x (by omega) e
           clear hp
           have hfe : fewP c = decide (Jar c) := by
             by_cases hq : Jar c
             . simp [fewP, Jeg, hfp, hfq, hq]
             . simp [fewP, Jeg, hq]
           rw [hfe]
           by_cases h2 : k < c.pipes.length
           . have h3 : ¬ (k : Int) < 24 := by omega
             simp [h2]
             simp [h3]
             clear h2 h3 h1 hk2 hk
             clear hfe hfq hfp
             by_cases a1 : (c.parts.length : Int) <= 12
             . simp [a1]
               by_cases b1 : (c.pipes.length : Int) <= 24
               . simp [b1]
                 simp [Jaa]
                 unfold Jar
                 omega
               . by_cases b2 : (256 : Int) < c.pipes.length
                 . by_cases b3 : (c.pipes.length : Int) < 512
                   . simp [b1]
                     simp [b2]
                     simp [b3]
                     simp [Jaa]
                     unfold Jar
                     omega
                   . simp [b1]
                     simp [b2]
                     simp [b3]
                     simp [Jaa]
                     unfold Jar
                     omega
                 . simp [b1]
                   simp [b2]
                   simp [Jaa]
                   unfold Jar
                   omega
             . by_cases a2 : (64 : Int) < c.parts.length
               . by_cases a3 : (c.parts.length : Int) < 128
                 . simp [a1]
                   simp [a2]
                   simp [a3]
                   by_cases b1 : (c.pipes.length : Int) <= 24
                   . simp [b1]
                     simp [Jaa]
                     unfold Jar
                     omega
                   . by_cases b2 : (256 : Int) < c.pipes.length
                     . by_cases b3 : (c.pipes.length : Int) < 512
                       . simp [b1]
                         simp [b2]
                         simp [b3]
                         simp [Jaa]
                         unfold Jar
                         omega
                       . simp [b1]
                         simp [b2]
                         simp [b3]
                         simp [Jaa]
                         unfold Jar
                         omega
                     . simp [b1]
                       simp [b2]
                       simp [Jaa]
                       unfold Jar
                       omega
                 . simp [a1]
                   simp [a2]
                   simp [a3]
                   simp [Jaa]
                   unfold Jar
                   omega
               . simp [a1]
                 simp [a2]
                 simp [Jaa]
                 unfold Jar
                 omega
           . simp [h2]
             clear h2 h1 hk2 hk
             clear hfe hfq hfp
             by_cases a1 : (c.parts.length : Int) <= 12
             . simp [a1]
               by_cases b1 : (c.pipes.length : Int) <= 24
               . simp [b1]
                 simp [Jaa]
                 unfold Jar
                 omega
               . by_cases b2 : (256 : Int) < c.pipes.length
                 . by_cases b3 : (c.pipes.length : Int) < 512
                   . simp [b1]
                     simp [b2]
                     simp [b3]
                     simp [Jaa]
                     unfold Jar
                     omega
                   . simp [b1]
                     simp [b2]
                     simp [b3]
                     simp [Jaa]
                     unfold Jar
                     omega
                 . simp [b1]
                   simp [b2]
                   simp [Jaa]
                   unfold Jar
                   omega
             . by_cases a2 : (64 : Int) < c.parts.length
               . by_cases a3 : (c.parts.length : Int) < 128
                 . simp [a1]
                   simp [a2]
                   simp [a3]
                   by_cases b1 : (c.pipes.length : Int) <= 24
                   . simp [b1]
                     simp [Jaa]
                     unfold Jar
                     omega
                   . by_cases b2 : (256 : Int) < c.pipes.length
                     . by_cases b3 : (c.pipes.length : Int) < 512
                       . simp [b1]
                         simp [b2]
                         simp [b3]
                         simp [Jaa]
                         unfold Jar
                         omega
                       . simp [b1]
                         simp [b2]
                         simp [b3]
                         simp [Jaa]
                         unfold Jar
                         omega
                     . simp [b1]
                       simp [b2]
                       simp [Jaa]
                       unfold Jar
                       omega
                 . simp [a1]
                   simp [a2]
                   simp [a3]
                   simp [Jaa]
                   unfold Jar
                   omega
               . simp [a1]
                 simp [a2]
                 simp [Jaa]
                 unfold Jar
                 omega
end Go.Am
