/- Lemmas and contracts for the proof of a statement of this seat. -/
import Derived.Test.YtmfjjncfdpejiaaGreatDoorZC4
set_option linter.unusedVariables false
set_option linter.unusedSimpArgs false
namespace Go.Am
open Go Go.Proofs Go.Pn
theorem Jj8 {c : Circuit} (hk : Jb6 c) (hn : c.parts.length <= 100) : (allP c).length <= 1200 := by
 have := Jl5 hk (k := c.parts.length)
 unfold allP
 omega
theorem Jqc {α : Type} {p : α -> Bool} {xs : List α} {k : Nat} {x : α} (e : xs[k]? = some x) : (xs.take (k + 1)).filter p = (xs.take k).filter p ++ (if p x then [x] else []) := by
 rw [take_snoc e, List.filter_append]
 congr 1
 simp [List.filter_cons]
end Go.Am
namespace Go.Am
open Go Go.Proofs Go.Pn
theorem Jtj {c : Circuit} {p : Port} {l : List Port} (h : p ∈ l) : ∀ n, p ∈ Jbe c l n
 | 0 => h
 | n + 1 => by
   obtain ⟨e, h1, _⟩ := Jka (ps := c.pipes) (a := (Jbe c l n, false))
   have h1' : (Jeg c (Jbe c l n)).1 = Jbe c l n ++ e := h1
   rw [Jbe, h1']
   exact List.mem_append_left _ (Jtj h n)
theorem Jpa {c : Circuit} {p : Port} (h : p ∈ allP c) : p ∈ around c p := by
 rw [around, List.mem_filter]
 exact ⟨h, by simp; exact Jtj (by simp) _⟩
theorem Jha {c : Circuit} {p : Port} : (around c p).length <= (allP c).length := List.length_filter_le ..
def Jwf (c : Circuit) (p : Port) : Prop := (around c p)[0]? = some p
instance (c : Circuit) (p : Port) : Decidable (Jwf c p) := inferInstanceAs (Decidable ((around c p)[0]? = some p))
def Jq8 (c : Circuit) (l : List Port) : List (List Port) := (l.filter fun p => decide (Jwf c p)).map (around c)
def nets (c : Circuit) : List (List Port) := Jq8 c (allP c)
@[simp] def Ports.row (l : List Port) : List AV := [.p (.lst 2 (l.map Port.enc))]
theorem Jxl {c : Circuit} (h : Jad c = 0) : (nets c).length <= 1200 /\ ∀ l ∈ nets c, l.length <= 1200 := by
 have h2 := Jcx h
 have hal := Jj8 h2.1 (by omega)
 refine ⟨?_, fun l hl => ?_⟩
 . unfold nets Jq8
   rw [List.length_map]
   exact Nat.le_trans (List.length_filter_le ..) hal
 . unfold nets Jq8 at hl
   obtain ⟨p, _, rfl⟩ := List.mem_map.1 hl
   exact Nat.le_trans Jha hal
def Jd8 (c : Circuit) (p : Port) : Int := if Jbt c p ≠ 0 then Jbt c p else Jb3 c p
def netP (c : Circuit) (p : Port) : Int := idxI (nets c) fun l => decide (p ∈ l)
end Go.Am
namespace Go.Am
open Go Go.Proofs Go.Pn
def Jbx (f b : Int) (p : Port) : Port := if f <= p.part then ⟨p.part + b, p.name⟩ else p
def Jkq (f b : Int) (x : Pipe) : Pipe := ⟨Jbx f b x.fr, Jbx f b x.to⟩
def Jq1 (f b : Int) (l : List Pipe) : List Pipe := l.map (Jkq f b)
end Go.Am
namespace Go.Am
open Go Go.Proofs Go.Pn
end Go.Am
namespace Go.Am
open Go Go.Proofs Go.Pn
def Jal (c : Circuit) (k : Int) : Int := (c.parts[k.toNat]?.map (·.kind)).getD 0
def Jb8 (c : Circuit) (s : Txt) : Int := idxI c.parts fun p => decide (p.name = s)
def swK (c : Circuit) (k : Int) : Int := if 0 <= k /\ Jal c k ≠ 6 then -1 else k
theorem Jgb (c : Circuit) (s : Txt) : Jb8 c s = -1 \/ ∃ (i : Nat) (x : Part), Jb8 c s = i /\ c.parts[i]? = some x /\ x.name = s := by
 rcases Jhn c.parts (fun p => decide (p.name = s)) with ⟨_, h⟩ | ⟨i, x, _, h1, h2, h3⟩
 . exact .inl h
 . exact .inr ⟨i, x, h1, h2, by simpa using h3⟩
def swAt (c : Circuit) (s : Txt) : Int := swK c (Jb8 c s)
end Go.Am
namespace Go.Am
open Go Go.Proofs Go.Pn
theorem J4z {c : Circuit} (h : Jad c = 0) : ∀ x ∈ c.pipes, (0 <= x.fr.part /\ x.fr.part < c.parts.length) /\ 0 <= x.to.part /\ x.to.part < c.parts.length := by
 have h0 : Jar (Jb9 c) c.pipes.length = 0 := by unfold Jad at h; grind
 intro x hx
 obtain ⟨j, hj, rfl⟩ := List.getElem_of_mem hx
 have h7 := Jer h0 hj
 simp only [Jb9, List.getElem?_eq_getElem hj] at h7
 have h8 : Jc3 c c.pipes[j] = 0 := by
   apply Classical.byContradiction
   intro hne
   rw [if_pos hne] at h7
   exact hne h7
 have h9 : Jfe c [c.pipes[j].fr, c.pipes[j].to] = 0 := by
   apply Classical.byContradiction
   intro hne
   rw [Jc3, if_pos hne] at h8
   exact hne h8
 have h10 := Jy5 h9
 exact ⟨h10 _ (by simp), h10 _ (by simp)⟩
@[simp] theorem Kgo {α β : Type} {f : α -> β} {l : List α} : List.take l.length (l.map f) = l.map f := List.take_of_length_le (by simp)
theorem J8n {c : Circuit} (h : Jad c = 0) : ∀ x ∈ c.pipes, -1000 <= x.fr.part /\ x.fr.part <= 1000 /\ -1000 <= x.to.part /\ x.to.part <= 1000 := by
 intro x hx
 have h1 := J4z h x hx
 have h2 := (Jcx h).2.1
 omega
end Go.Am
namespace Go.Am
open Go Go.Proofs Go.Pn
def Jfb (c : Circuit) (s : Txt) : Int := if Jad c ≠ 0 then Jad c else if Jb8 c s < 0 then 6 else if Jal c (Jb8 c s) ≠ 1 then 1 else 0
def Jcu (c : Circuit) (s : Txt) (d : UInt8) : Int := if Jfb c s ≠ 0 then 0 else swAt c (s ++ [d])
def Jfr (c : Circuit) (s : Txt) : Int :=
 if Jad c ≠ 0 then Jad c else if Jb8 c s < 0 then 6 else if Jal c (Jb8 c s) = 1 /\ (0 <= swAt c (s ++ [48]) \/ 0 <= swAt c (s ++ [49])) then 14 else 0
def Jc5 (k : Nat) (l : List Pipe) : List Pipe := l.filter fun x => !decide (x.fr.part = k) && !decide (x.to.part = k)
def Jag (c : Circuit) (k : Nat) : Circuit := ⟨c.parts.take k ++ c.parts.drop (k + 1), Jq1 k (-1) (Jc5 k c.pipes)⟩
def remP (c : Circuit) (s : Txt) : Circuit := if Jfr c s ≠ 0 then ⟨[], []⟩ else Jag c (Jb8 c s).toNat
theorem Kb5 {k : Nat} {l : List Pipe} : (Jc5 k l).length <= l.length := List.length_filter_le ..
theorem Jzf {k : Nat} {l : List Pipe} {y : Pipe} (h : y ∈ Jc5 k l) : y ∈ l := (List.mem_filter.1 h).1
end Go.Am
namespace Go.Am
open Go Go.Proofs Go.Pn
theorem Jvb {α : Type} {xs ys : List α} (hl : xs.length = ys.length) (h : ∀ j, j < xs.length -> xs[j]? = ys[j]?) : xs = ys := by
 apply List.ext_getElem?
 intro j
 by_cases hj : j < xs.length
 . exact h j hj
 . rw [List.getElem?_eq_none (by omega), List.getElem?_eq_none (by omega)]
theorem J4h (a b : Circuit) (ha : Sized a) (hb : Sized b) : Pure Tryz.prog GL 19 [a.av, b.av] (.p (.bool (decide (a.parts = b.parts) && decide (a.pipes = b.pipes)))) := by
 refine Pure.of_walk (N := 59) Tryz.func19 rfl rfl rfl (by simp) (by first | (simp; done) | simp [*]) ?_
 have ha1 := ha.parts
 have ha2 := ha.pipes
 simp
 by_cases h1 : a.parts.length = b.parts.length
 . simp [h1]
   by_cases h2 : a.pipes.length = b.pipes.length
   . simp [h2]
     refine Jaj.go [2, 3] [0, 1] 0 [] (fun _ => []) (fun _ (k : Nat) => [(5, .p (.int .i64 k))]) (fun _ _ => []) (fun k => k <= a.parts.length /\ ∀ j, j < k -> a.parts[j]? = b.parts[j]?) (fun k => a.parts.length - k) 0 ⟨by omega, fun j h => by omega⟩ ?_ ?_
     . simp
       try decide
     . rintro k ⟨hk, hp⟩
       simp
       refine Jac (fun h => ?_) (fun h => ?_)
       . simp at h
         obtain ⟨x, e⟩ := Jah h
         obtain ⟨y, e2⟩ := Jah (show k < b.parts.length by omega)
         simp
         refine Jak.intro (by kernel_rfl) ?_
         have hkb : k < b.parts.length := by omega
         simp [h, e, e2, hkb, -getElem?_pos, List.getElem?_cons_zero, List.getElem?_cons_succ]
         refine ⟨.of (by kernel_rfl), ?_⟩
         by_cases hxy : x = y
         . subst hxy
           simp
           refine ⟨wrap_i64 (by omega) (by omega), k + 1, ⟨by omega, fun j hj => ?_⟩, by omega, ?_⟩
           . by_cases hjk : j = k
             . rw [hjk, e, e2]
             . exact hp j (by omega)
           . simp
             try decide
         . have hne : ¬ a.parts = b.parts := fun hq => hxy (by rw [hq, e2] at e; cases e; rfl)
           simp [hxy]
           simp [Jaa, hne]
       . simp at h
         have hpe : a.parts = b.parts := Jvb h1 (fun j hj => hp j (by omega))
         clear hp
         simp
         refine Jaj.go [2, 3] [0, 1] 0 [] (fun _ => []) (fun _ (k : Nat) => [(6, .p (.int .i64 k))]) (fun _ _ => []) (fun k => k <= a.pipes.length /\ ∀ j, j < k -> a.pipes[j]? = b.pipes[j]?) (fun k => a.pipes.length - k) 0 ⟨by omega, fun j h => by omega⟩ ?_ ?_
         . simp
           try decide
         . clear hk h
           rintro k ⟨hk, hp⟩
           simp
           refine Jac (fun h => ?_) (fun h => ?_)
           . simp at h
             obtain ⟨x, e⟩ := Jah h
             obtain ⟨y, e2⟩ := Jah (show k < b.pipes.length by omega)
             simp
             refine Jak.intro (by kernel_rfl) ?_
             have hkb : k < b.pipes.length := by omega
             simp [h, e, e2, hkb, -getElem?_pos, List.getElem?_cons_zero, List.getElem?_cons_succ]
             refine ⟨.of (by kernel_rfl), ?_⟩
             by_cases hxy : x = y
             . subst hxy
               simp
               refine ⟨wrap_i64 (by omega) (by omega), k + 1, ⟨by omega, fun j hj => ?_⟩, by omega, ?_⟩
               . by_cases hjk : j = k
                 . rw [hjk, e, e2]
                 . exact hp j (by omega)
               . simp
                 try decide
             . have hne : ¬ a.pipes = b.pipes := fun hq => hxy (by rw [hq, e2] at e; cases e; rfl)
               simp [hxy]
               simp [Jaa, hne]
           . simp at h
             have hpi : a.pipes = b.pipes := Jvb h2 (fun j hj => hp j (by omega))
             simp [Jaa, hpe, hpi]
   . have h3 : ¬ a.pipes = b.pipes := fun h => h2 (by rw [h])
     have h4 : ¬ (a.pipes.length : Int) = b.pipes.length := by omega
     simp [h4]
     simp [Jaa, h3]
 . have h3 : ¬ a.parts = b.parts := fun h => h1 (by rw [h])
   have h4 : ¬ (a.parts.length : Int) = b.parts.length := by omega
   simp [h4]
   simp [Jaa, h3]
end Go.Am
namespace Go.Am
open Go Go.Proofs Go.Pn
def Jyq (c : Circuit) (k : Nat) : Prop := ∀ (j : Nat) x, j < k -> c.pipes[j]? = some x -> x.fr.name.length <= 60 /\ x.to.name.length <= 60
def Jvf (c : Circuit) : Prop := ∀ (j : Nat) x, j < 12 -> c.parts[j]? = some x -> x.name.length <= 60
def Jp9 (c : Circuit) : Prop := ∀ (j : Nat) x, j < 24 -> c.pipes[j]? = some x -> x.fr.name.length <= 60 /\ x.to.name.length <= 60
def Jas (c : Circuit) : Prop := (c.parts.length <= 12 \/ 64 < c.parts.length /\ c.parts.length < 128) /\ (c.pipes.length <= 24 \/ 256 < c.pipes.length /\ c.pipes.length < 512)
def Je8 (c : Circuit) : Prop := Jvf c /\ Jp9 c /\ Jas c
open Classical in
noncomputable def fewP (c : Circuit) : Bool := decide (Je8 c)
instance (c : Circuit) : Decidable (Jas c) := by unfold Jas; infer_instance
theorem Jki {c : Circuit} (h : ¬ Je8 c) : fewP c = false := by simp [fewP, h]
set_option maxHeartbeats 2000000 in
theorem J4f (c : Circuit) (hs : Sized c) : Pure Tryz.prog GL 78 [c.av] (.p (.bool (fewP c))) := by
 refine Pure.of_walk (N := 89) Tryz.func78 rfl rfl rfl (by simp) (by first | (simp; done) | simp [*]) ?_
 simp
 refine Jaj.go [1] [0] 0 [] (fun _ => []) (fun _ (k : Nat) => [(3, .p (.int .i64 k))]) (fun _ _ => []) (fun k => k <= c.parts.length /\ k <= 12 /\ ∀ (j : Nat) x, j < k -> c.parts[j]? = some x -> x.name.length <= 60) (fun k => c.parts.length - k) 0 ⟨by omega, by omega, fun j x h => by omega⟩ ?_ ?_
 . simp
 . rintro k ⟨hk, hk2, hp⟩
   simp
   by_cases h1 : k < c.parts.length /\ k < 12
   . obtain ⟨h1, h2⟩ := h1
     obtain ⟨x, e⟩ := Jah h1
     have hn := hs.names x (List.mem_of_getElem? e)
     have h2c : (k : Int) < 12 := by omega
     simp [h1]
     simp [h2c]
     simp [h1, e, -getElem?_pos, List.getElem?_cons_zero, List.getElem?_cons_succ]
     by_cases h4 : (60 : Int) < x.name.length
     . have hno : ¬ Je8 c := fun hq => by have := hq.1 k x h2 e; omega
       simp [h4]
       simp [Jaa, Jki hno]
     . simp [h4]
       refine ⟨wrap_i64 (by omega) (by omega), k + 1, ⟨by omega, by omega, fun j y hj e2 => ?_⟩, by omega, ?_⟩
       . by_cases hjk : j = k
         . subst hjk
           rw [e] at e2
           cases e2
           omega
         . exact hp j y (by omega) e2
       . simp
   . have hfp : Jvf c := by
       intro j x hj e
       obtain ⟨hj2, _⟩ := gsI.1 e
       exact hp j x (by omega) e
     clear hp
     by_cases h2 : k < c.parts.length
     . have h3 : ¬ (k : Int) < 12 := by omega
       simp [h2]
       simp [h3]
       clear h2 h3 h1 hk2 hk
       refine Jaj.go [1] [0] 0 [] (fun _ => []) (fun _ (k : Nat) => [(4, .p (.int .i64 k))]) (fun _ _ => []) (fun k => k <= c.pipes.length /\ k <= 24 /\ Jyq c k) (fun k => c.pipes.length - k) 0 ⟨by omega, by omega, fun j x h => by omega⟩ ?_ ?_
       . simp
       . rintro k ⟨hk, hk2, hp⟩
         simp
         by_cases h1 : k < c.pipes.length /\ k < 24
         . obtain ⟨h1, h2⟩ := h1
           obtain ⟨x, e⟩ := Jah h1
           have h2c : (k : Int) < 24 := by omega
           simp [h1]
           simp [h2c]
           simp [h1, e, -getElem?_pos, List.getElem?_cons_zero, List.getElem?_cons_succ]
           by_cases h4 : (60 : Int) < x.fr.name.length
           . have hno : ¬ Je8 c := fun hq => by have := (hq.2.1 k x h2 e).1; omega
             simp [h4]
             simp [Jaa, Jki hno]
           . simp [h4]
             simp [h1, e, -getElem?_pos, List.getElem?_cons_zero, List.getElem?_cons_succ]
             by_cases h5 : (60 : Int) < x.to.name.length
             . have hno : ¬ Je8 c := fun hq => by have := (hq.2.1 k x h2 e).2; omega
               simp [h5]
               simp [Jaa, Jki hno]
             . simp [h5]
               refine ⟨wrap_i64 (by omega) (by omega), k + 1, ⟨by omega, by omega, fun j y hj e2 => ?_⟩, by omega, ?_⟩
               . by_cases hjk : j = k
                 . subst hjk
                   rw [e] at e2
                   cases e2
                   omega
                 . exact hp j y (by omega) e2
               . simp
         . have hfq : Jp9 c := by
             intro j x hj e
             obtain ⟨hj2, _⟩ := gsI.1 e
             exact hp j x (by omega) e
           clear hp
           have hfe : fewP c = decide (Jas c) := by
             by_cases hq : Jas c
             . simp [fewP, Je8, hfp, hfq, hq]
             . simp [fewP, Je8, hq]
           rw [hfe]
           by_cases h2 : k < c.pipes.length
           . have h3 : ¬ (k : Int) < 24 := by omega
             simp [h2]
             simp [h3]
             clear h2 h3 h1 hk2 hk
             clear hfe hfq hfp
             by_cases a1 : (c.parts.length : Int) <= 12
             . simp [a1]
               by_cases b1 : (c.pipes.length : Int) <= 24
               . simp [b1]
                 simp [Jaa]
                 unfold Jas
                 omega
               . by_cases b2 : (256 : Int) < c.pipes.length
                 . by_cases b3 : (c.pipes.length : Int) < 512
                   . simp [b1]
                     simp [b2]
                     simp [b3]
                     simp [Jaa]
                     unfold Jas
                     omega
                   . simp [b1]
                     simp [b2]
                     simp [b3]
                     simp [Jaa]
                     unfold Jas
                     omega
                 . simp [b1]
                   simp [b2]
                   simp [Jaa]
                   unfold Jas
                   omega
             . by_cases a2 : (64 : Int) < c.parts.length
               . by_cases a3 : (c.parts.length : Int) < 128
                 . simp [a1]
                   simp [a2]
                   simp [a3]
                   by_cases b1 : (c.pipes.length : Int) <= 24
                   . simp [b1]
                     simp [Jaa]
                     unfold Jas
                     omega
                   . by_cases b2 : (256 : Int) < c.pipes.length
                     . by_cases b3 : (c.pipes.length : Int) < 512
                       . simp [b1]
                         simp [b2]
                         simp [b3]
                         simp [Jaa]
                         unfold Jas
                         omega
                       . simp [b1]
                         simp [b2]
                         simp [b3]
                         simp [Jaa]
                         unfold Jas
                         omega
                     . simp [b1]
                       simp [b2]
                       simp [Jaa]
                       unfold Jas
                       omega
                 . simp [a1]
                   simp [a2]
                   simp [a3]
                   simp [Jaa]
                   unfold Jas
                   omega
               . simp [a1]
                 simp [a2]
                 simp [Jaa]
                 unfold Jas
                 omega
           . simp [h2]
             clear h2 h1 hk2 hk
             clear hfe hfq hfp
             by_cases a1 : (c.parts.length : Int) <= 12
             . simp [a1]
               by_cases b1 : (c.pipes.length : Int) <= 24
               . simp [b1]
                 simp [Jaa]
                 unfold Jas
                 omega
               . by_cases b2 : (256 : Int) < c.pipes.length
                 . by_cases b3 : (c.pipes.length : Int) < 512
                   . simp [b1]
                     simp [b2]
                     simp [b3]
                     simp [Jaa]
                     unfold Jas
                     omega
                   . simp [b1]
                     simp [b2]
                     simp [b3]
                     simp [Jaa]
                     unfold Jas
                     omega
                 . simp [b1]
                   simp [b2]
                   simp [Jaa]
                   unfold Jas
                   omega
             . by_cases a2 : (64 : Int) < c.parts.length
               . by_cases a3 : (c.parts.length : Int) < 128
                 . simp [a1]
                   simp [a2]
                   simp [a3]
                   by_cases b1 : (c.pipes.length : Int) <= 24
                   . simp [b1]
                     simp [Jaa]
                     unfold Jas
                     omega
                   . by_cases b2 : (256 : Int) < c.pipes.length
                     . by_cases b3 : (c.pipes.length : Int) < 512
                       . simp [b1]
                         simp [b2]
                         simp [b3]
                         simp [Jaa]
                         unfold Jas
                         omega
                       . simp [b1]
                         simp [b2]
                         simp [b3]
                         simp [Jaa]
                         unfold Jas
                         omega
                     . simp [b1]
                       simp [b2]
                       simp [Jaa]
                       unfold Jas
                       omega
                 . simp [a1]
                   simp [a2]
                   simp [a3]
                   simp [Jaa]
                   unfold Jas
                   omega
               . simp [a1]
                 simp [a2]
                 simp [Jaa]
                 unfold Jas
                 omega
     . simp [h2]
       clear h2 h1 hk2 hk
       refine Jaj.go [1] [0] 0 [] (fun _ => []) (fun _ (k : Nat) => [(4, .p (.int .i64 k))]) (fun _ _ => []) (fun k => k <= c.pipes.length /\ k <= 24 /\ Jyq c k) (fun k => c.pipes.length - k) 0 ⟨by omega, by omega, fun j x h => by omega⟩ ?_ ?_
       . simp
       . rintro k ⟨hk, hk2, hp⟩
         simp
         by_cases h1 : k < c.pipes.length /\ k < 24
         . obtain ⟨h1, h2⟩ := h1
           obtain ⟨x, e⟩ := Jah h1
           have h2c : (k : Int) < 24 := by omega
           simp [h1]
           simp [h2c]
           simp [h1, e, -getElem?_pos, List.getElem?_cons_zero, List.getElem?_cons_succ]
           by_cases h4 : (60 : Int) < x.fr.name.length
           . have hno : ¬ Je8 c := fun hq => by have := (hq.2.1 k x h2 e).1; omega
             simp [h4]
             simp [Jaa, Jki hno]
           . simp [h4]
             simp [h1, e, -getElem?_pos, List.getElem?_cons_zero, List.getElem?_cons_succ]
             by_cases h5 : (60 : Int) < x.to.name.length
             . have hno : ¬ Je8 c := fun hq => by have := (hq.2.1 k x h2 e).2; omega
               simp [h5]
               simp [Jaa, Jki hno]
             . simp [h5]
               refine ⟨wrap_i64 (by omega) (by omega), k + 1, ⟨by omega, by omega, fun j y hj e2 => ?_⟩, by omega, ?_⟩
               . by_cases hjk : j = k
                 . subst hjk
                   rw [e] at e2
                   cases e2
                   omega
                 . exact hp j y (by omega) e2
               . simp
         . have hfq : Jp9 c := by
             intro j x hj e
             obtain ⟨hj2, _⟩ := gsI.1 e
             exact hp j x (by omega) e
           clear hp
           have hfe : fewP c = decide (Jas c) := by
             by_cases hq : Jas c
             . simp [fewP, Je8, hfp, hfq, hq]
             . simp [fewP, Je8, hq]
           rw [hfe]
           by_cases h2 : k < c.pipes.length
           . have h3 : ¬ (k : Int) < 24 := by omega
             simp [h2]
             simp [h3]
             clear h2 h3 h1 hk2 hk
             clear hfe hfq hfp
             by_cases a1 : (c.parts.length : Int) <= 12
             . simp [a1]
               by_cases b1 : (c.pipes.length : Int) <= 24
               . simp [b1]
                 simp [Jaa]
                 unfold Jas
                 omega
               . by_cases b2 : (256 : Int) < c.pipes.length
                 . by_cases b3 : (c.pipes.length : Int) < 512
                   . simp [b1]
                     simp [b2]
                     simp [b3]
                     simp [Jaa]
                     unfold Jas
                     omega
                   . simp [b1]
                     simp [b2]
                     simp [b3]
                     simp [Jaa]
                     unfold Jas
                     omega
                 . simp [b1]
                   simp [b2]
                   simp [Jaa]
                   unfold Jas
                   omega
             . by_cases a2 : (64 : Int) < c.parts.length
               . by_cases a3 : (c.parts.length : Int) < 128
                 . simp [a1]
                   simp [a2]
                   simp [a3]
                   by_cases b1 : (c.pipes.length : Int) <= 24
                   . simp [b1]
                     simp [Jaa]
                     unfold Jas
                     omega
                   . by_cases b2 : (256 : Int) < c.pipes.length
                     . by_cases b3 : (c.pipes.length : Int) < 512
                       . simp [b1]
                         simp [b2]
                         simp [b3]
                         simp [Jaa]
                         unfold Jas
                         omega
                       . simp [b1]
                         simp [b2]
                         simp [b3]
                         simp [Jaa]
                         unfold Jas
                         omega
                     . simp [b1]
                       simp [b2]
                       simp [Jaa]
                       unfold Jas
                       omega
                 . simp [a1]
                   simp [a2]
                   simp [a3]
                   simp [Jaa]
                   unfold Jas
                   omega
               . simp [a1]
                 simp [a2]
                 simp [Jaa]
                 unfold Jas
                 omega
           . simp [h2]
             clear h2 h1 hk2 hk
             clear hfe hfq hfp
             by_cases a1 : (c.parts.length : Int) <= 12
             . simp [a1]
               by_cases b1 : (c.pipes.length : Int) <= 24
               . simp [b1]
                 simp [Jaa]
                 unfold Jas
                 omega
               . by_cases b2 : (256 : Int) < c.pipes.length
                 . by_cases b3 : (c.pipes.length : Int) < 512
                   . simp [b1]
                     simp [b2]
                     simp [b3]
                     simp [Jaa]
                     unfold Jas
                     omega
                   . simp [b1]
                     simp [b2]
                     simp [b3]
                     simp [Jaa]
                     unfold Jas
                     omega
                 . simp [b1]
                   simp [b2]
                   simp [Jaa]
                   unfold Jas
                   omega
             . by_cases a2 : (64 : Int) < c.parts.length
               . by_cases a3 : (c.parts.length : Int) < 128
                 . simp [a1]
                   simp [a2]
                   simp [a3]
                   by_cases b1 : (c.pipes.length : Int) <= 24
                   . simp [b1]
                     simp [Jaa]
                     unfold Jas
                     omega
                   . by_cases b2 : (256 : Int) < c.pipes.length
                     . by_cases b3 : (c.pipes.length : Int) < 512
                       . simp [b1]
                         simp [b2]
                         simp [b3]
                         simp [Jaa]
                         unfold Jas
                         omega
                       . simp [b1]
                         simp [b2]
                         simp [b3]
                         simp [Jaa]
                         unfold Jas
                         omega
                     . simp [b1]
                       simp [b2]
                       simp [Jaa]
                       unfold Jas
                       omega
                 . simp [a1]
                   simp [a2]
                   simp [a3]
                   simp [Jaa]
                   unfold Jas
                   omega
               . simp [a1]
                 simp [a2]
                 simp [Jaa]
                 unfold Jas
                 omega
end Go.Am
