/- Lemmas and contracts for the proof of a statement of this seat. -/
import Derived.Test.YtmfjjncfdpejiaaGreatDoorZC4
set_option linter.unusedVariables false
set_option linter.unusedSimpArgs false
namespace Go.Am
open Go Go.Proofs Go.Pn
theorem Jji {c : Circuit} (hk : Jb5 c) (hn : c.parts.length <= 100) : (allP c).length <= 1200 := by
 have := Jk3 hk (k := c.parts.length)
 unfold allP
 omega
theorem Jtg {α : Type} {p : α -> Bool} {xs : List α} {k : Nat} {x : α} (e : xs[k]? = some x) : (xs.take (k + 1)).filter p = (xs.take k).filter p ++ (if p x then [x] else []) := by
 rw [take_snoc e, List.filter_append]
 congr 1
 simp [List.filter_cons]
end Go.Am
namespace Go.Am
open Go Go.Proofs Go.Pn
theorem Jrp {c : Circuit} {p : Port} {l : List Port} (h : p ∈ l) : ∀ n, p ∈ Jbb c l n
 | 0 => h
 | n + 1 => by
   obtain ⟨e, h1, _⟩ := Jjj (ps := c.pipes) (a := (Jbb c l n, false))
   have h1' : (Jd5 c (Jbb c l n)).1 = Jbb c l n ++ e := h1
   rw [Jbb, h1']
   exact List.mem_append_left _ (Jrp h n)
theorem Jnu {c : Circuit} {p : Port} (h : p ∈ allP c) : p ∈ around c p := by
 rw [around, List.mem_filter]
 exact ⟨h, by simp; exact Jrp (by simp) _⟩
theorem Jhu {c : Circuit} {p : Port} : (around c p).length <= (allP c).length := List.length_filter_le ..
def Jua (c : Circuit) (p : Port) : Prop := (around c p)[0]? = some p
instance (c : Circuit) (p : Port) : Decidable (Jua c p) := inferInstanceAs (Decidable ((around c p)[0]? = some p))
def Jpa (c : Circuit) (l : List Port) : List (List Port) := (l.filter fun p => decide (Jua c p)).map (around c)
def nets (c : Circuit) : List (List Port) := Jpa c (allP c)
@[simp] def Ports.row (l : List Port) : List AV := [.p (.lst 2 (l.map Port.enc))]
theorem Jva {c : Circuit} (h : Jad c = 0) : (nets c).length <= 1200 /\ ∀ l ∈ nets c, l.length <= 1200 := by
 have h2 := Jdv h
 have hal := Jji h2.1 (by omega)
 refine ⟨?_, fun l hl => ?_⟩
 . unfold nets Jpa
   rw [List.length_map]
   exact Nat.le_trans (List.length_filter_le ..) hal
 . unfold nets Jpa at hl
   obtain ⟨p, _, rfl⟩ := List.mem_map.1 hl
   exact Nat.le_trans Jhu hal
def Jcw (c : Circuit) (p : Port) : Int := if Jbq c p ≠ 0 then Jbq c p else Jb1 c p
def netP (c : Circuit) (p : Port) : Int := idxI (nets c) fun l => decide (p ∈ l)
end Go.Am
namespace Go.Am
open Go Go.Proofs Go.Pn
end Go.Am
namespace Go.Am
open Go Go.Proofs Go.Pn
end Go.Am
namespace Go.Am
open Go Go.Proofs Go.Pn
def Jc0 (c : Circuit) (k : Int) : Int := (c.parts[k.toNat]?.map (·.kind)).getD 0
def J63 (c : Circuit) (s : Txt) : Int := idxI c.parts fun p => decide (p.name = s)
end Go.Am
namespace Go.Am
open Go Go.Proofs Go.Pn
@[simp] theorem Kcr {α β : Type} {f : α -> β} {l : List α} : List.take l.length (l.map f) = l.map f := List.take_of_length_le (by simp)
end Go.Am
namespace Go.Am
open Go Go.Proofs Go.Pn
end Go.Am
namespace Go.Am
open Go Go.Proofs Go.Pn
theorem Jlk {α : Type} {xs ys : List α} (hl : xs.length = ys.length) (h : ∀ j, j < xs.length -> xs[j]? = ys[j]?) : xs = ys := by
 apply List.ext_getElem?
 intro j
 by_cases hj : j < xs.length
 . exact h j hj
 . rw [List.getElem?_eq_none (by omega), List.getElem?_eq_none (by omega)]
theorem J1k (a b : Circuit) (ha : Sized a) (hb : Sized b) : Pure Tryz.prog GL 19 [a.av, b.av] (.p (.bool (decide (a.parts = b.parts) && decide (a.pipes = b.pipes)))) := by
 refine Pure.of_walk (N := 59) Tryz.func19 rfl rfl rfl (by simp) (by first | (simp; done) | simp [*]) ?_
 have ha1 := ha.parts
 have ha2 := ha.pipes
 simp
 by_cases h1 : a.parts.length = b.parts.length
 . simp [h1]
   by_cases h2 : a.pipes.length = b.pipes.length
   . simp [h2]
     refine Jai.go [2, 3] [0, 1] 0 [] (fun _ => []) (fun _ (k : Nat) => [(5, .p (.int .i64 k))]) (fun _ _ => []) (fun k => k <= a.parts.length /\ ∀ j, j < k -> a.parts[j]? = b.parts[j]?) (fun k => a.parts.length - k) 0 ⟨by omega, fun j h => by omega⟩ ?_ ?_
     . simp
       try decide
     . rintro k ⟨hk, hp⟩
       simp
       refine Jac (fun h => ?_) (fun h => ?_)
       . simp at h
         obtain ⟨x, e⟩ := Jag h
         obtain ⟨y, e2⟩ := Jag (show k < b.parts.length by omega)
         simp
         refine Jak.intro (by kernel_rfl) ?_
         have hkb : k < b.parts.length := by omega
         simp [h, e, e2, hkb, -getElem?_pos, List.getElem?_cons_zero, List.getElem?_cons_succ]
         refine ⟨.of (by kernel_rfl), ?_⟩
         by_cases hxy : x = y
         . subst hxy
           simp
           refine ⟨wrap_i64 (by omega) (by omega), k + 1, ⟨by omega, fun j hj => ?_⟩, by omega, ?_⟩
           . by_cases hjk : j = k
             . rw [hjk, e, e2]
             . exact hp j (by omega)
           . simp
             try decide
         . have hne : ¬ a.parts = b.parts := fun hq => hxy (by rw [hq, e2] at e; cases e; rfl)
           simp [hxy]
           simp [Jaa, hne]
       . simp at h
         have hpe : a.parts = b.parts := Jlk h1 (fun j hj => hp j (by omega))
         clear hp
         simp
         refine Jai.go [2, 3] [0, 1] 0 [] (fun _ => []) (fun _ (k : Nat) => [(6, .p (.int .i64 k))]) (fun _ _ => []) (fun k => k <= a.pipes.length /\ ∀ j, j < k -> a.pipes[j]? = b.pipes[j]?) (fun k => a.pipes.length - k) 0 ⟨by omega, fun j h => by omega⟩ ?_ ?_
         . simp
           try decide
         . clear hk h
           rintro k ⟨hk, hp⟩
           simp
           refine Jac (fun h => ?_) (fun h => ?_)
           . simp at h
             obtain ⟨x, e⟩ := Jag h
             obtain ⟨y, e2⟩ := Jag (show k < b.pipes.length by omega)
             simp
             refine Jak.intro (by kernel_rfl) ?_
             have hkb : k < b.pipes.length := by omega
             simp [h, e, e2, hkb, -getElem?_pos, List.getElem?_cons_zero, List.getElem?_cons_succ]
             refine ⟨.of (by kernel_rfl), ?_⟩
             by_cases hxy : x = y
             . subst hxy
               simp
               refine ⟨wrap_i64 (by omega) (by omega), k + 1, ⟨by omega, fun j hj => ?_⟩, by omega, ?_⟩
               . by_cases hjk : j = k
                 . rw [hjk, e, e2]
                 . exact hp j (by omega)
               . simp
                 try decide
             . have hne : ¬ a.pipes = b.pipes := fun hq => hxy (by rw [hq, e2] at e; cases e; rfl)
               simp [hxy]
               simp [Jaa, hne]
           . simp at h
             have hpi : a.pipes = b.pipes := Jlk h2 (fun j hj => hp j (by omega))
             simp [Jaa, hpe, hpi]
   . have h3 : ¬ a.pipes = b.pipes := fun h => h2 (by rw [h])
     have h4 : ¬ (a.pipes.length : Int) = b.pipes.length := by omega
     simp [h4]
     simp [Jaa, h3]
 . have h3 : ¬ a.parts = b.parts := fun h => h1 (by rw [h])
   have h4 : ¬ (a.parts.length : Int) = b.parts.length := by omega
   simp [h4]
   simp [Jaa, h3]
theorem Ka0 (a b : List (List Port)) (ha : a.length < 4611686018427387904) (hb : b.length < 4611686018427387904) (hla : ∀ l ∈ a, l.length < 4611686018427387904) (hlb : ∀ l ∈ b, l.length < 4611686018427387904) : Pure Tryz.prog GL 56 [.p (.lst 1 (a.map Ports.enc)), .p (.lst 1 (b.map Ports.enc))] (.p (.bool (decide (a = b)))) := by
 refine Pure.of_walk (N := 53) Tryz.func56 rfl rfl rfl (by simp) (by first | (simp; done) | simp [*]) ?_
 simp
 by_cases h1 : a.length = b.length
 . simp [h1]
   refine Jai.go [0, 1] [] 0 [] (fun _ => []) (fun _ (k : Nat) => [(5, .p (.int .i64 k))]) (fun _ _ => []) (fun k => k <= a.length /\ ∀ j, j < k -> a[j]? = b[j]?) (fun k => a.length - k) 0 ⟨by omega, fun j h => by omega⟩ ?_ ?_
   . simp
     try decide
   . rintro k ⟨hk, hp⟩
     simp
     refine Jac (fun h => ?_) (fun h => ?_)
     . simp at h
       obtain ⟨x, e⟩ := Jag h
       have hkb : k < b.length := by omega
       obtain ⟨y, e2⟩ := Jag hkb
       have hx := hla x (List.mem_of_getElem? e)
       have hy := hlb y (List.mem_of_getElem? e2)
       simp
       refine Jak.intro (by kernel_rfl) ?_
       simp [h, e, e2, hkb, -getElem?_pos, List.getElem?_cons_zero, List.getElem?_cons_succ]
       refine ⟨.of (by kernel_rfl), ?_⟩
       by_cases hl : x.length = y.length
       . simp [hl]
         refine Jai.go [0, 1, 5] [] 0 [] (fun _ => []) (fun _ (i : Nat) => [(6, .p (.int .i64 i))]) (fun _ _ => []) (fun i => i <= x.length /\ ∀ j, j < i -> x[j]? = y[j]?) (fun i => x.length - i) 0 ⟨by omega, fun j h => by omega⟩ ?_ ?_
         . simp
           try decide
         . rintro i ⟨hi, hq⟩
           simp [h, e, -getElem?_pos, List.getElem?_cons_zero, List.getElem?_cons_succ]
           refine Jac (fun h3 => ?_) (fun h3 => ?_)
           . simp at h3
             have h3b : i < y.length := by omega
             obtain ⟨u, f⟩ := Jag h3
             obtain ⟨v, f2⟩ := Jag h3b
             simp
             refine Jak.intro (by kernel_rfl) ?_
             simp [h, e, e2, hkb, f, f2, h3, h3b, -getElem?_pos, List.getElem?_cons_zero, List.getElem?_cons_succ]
             refine ⟨.of (by kernel_rfl), ?_⟩
             by_cases huv : u = v
             . subst huv
               simp
               refine ⟨wrap_i64 (by omega) (by omega), i + 1, ⟨by omega, fun j hj => ?_⟩, by omega, ?_⟩
               . by_cases hjk : j = i
                 . rw [hjk, f, f2]
                 . exact hq j (by omega)
               . simp
                 try decide
             . have hxy : ¬ x = y := fun hq => huv (by rw [hq, f2] at f; cases f; rfl)
               have hne : ¬ a = b := fun hq => hxy (by rw [hq, e2] at e; cases e; rfl)
               simp [huv]
               simp [Jaa, hne]
           . simp at h3
             have hxy : x = y := Jlk hl (fun j hj => hq j (by omega))
             simp
             refine ⟨wrap_i64 (by omega) (by omega), k + 1, ⟨by omega, fun j hj => ?_⟩, by omega, ?_⟩
             . by_cases hjk : j = k
               . rw [hjk, e, e2, hxy]
               . exact hp j (by omega)
             . simp
               try decide
       . have hne : ¬ a = b := fun hq => hl (by rw [hq, e2] at e; cases e; rfl)
         have h4 : ¬ (x.length : Int) = y.length := by omega
         simp [h4]
         simp [Jaa, hne]
     . simp at h
       have hab : a = b := Jlk h1 (fun j hj => hp j (by omega))
       simp [Jaa, hab]
 . have h3 : ¬ a = b := fun h => h1 (by rw [h])
   have h4 : ¬ (a.length : Int) = b.length := by omega
   simp [h4]
   simp [Jaa, h3]
end Go.Am
namespace Go.Am
open Go Go.Proofs Go.Pn
def Jwf (c : Circuit) (k : Nat) : Prop := ∀ (j : Nat) x, j < k -> c.pipes[j]? = some x -> x.fr.name.length <= 60 /\ x.to.name.length <= 60
def Jte (c : Circuit) : Prop := ∀ (j : Nat) x, j < 12 -> c.parts[j]? = some x -> x.name.length <= 60
def Joj (c : Circuit) : Prop := ∀ (j : Nat) x, j < 24 -> c.pipes[j]? = some x -> x.fr.name.length <= 60 /\ x.to.name.length <= 60
def Jaq (c : Circuit) : Prop := (c.parts.length <= 12 \/ 64 < c.parts.length /\ c.parts.length < 128) /\ (c.pipes.length <= 24 \/ 256 < c.pipes.length /\ c.pipes.length < 512)
def Jef (c : Circuit) : Prop := Jte c /\ Joj c /\ Jaq c
open Classical in
noncomputable def fewP (c : Circuit) : Bool := decide (Jef c)
instance (c : Circuit) : Decidable (Jaq c) := by unfold Jaq; infer_instance
theorem Jjr {c : Circuit} (h : ¬ Jef c) : fewP c = false := by simp [fewP, h]
set_option maxHeartbeats 2000000 in
theorem J1i (c : Circuit) (hs : Sized c) : Pure Tryz.prog GL 78 [c.av] (.p (.bool (fewP c))) := by
 refine Pure.of_walk (N := 89) Tryz.func78 rfl rfl rfl (by simp) (by first | (simp; done) | simp [*]) ?_
 simp
 refine Jai.go [1] [0] 0 [] (fun _ => []) (fun _ (k : Nat) => [(3, .p (.int .i64 k))]) (fun _ _ => []) (fun k => k <= c.parts.length /\ k <= 12 /\ ∀ (j : Nat) x, j < k -> c.parts[j]? = some x -> x.name.length <= 60) (fun k => c.parts.length - k) 0 ⟨by omega, by omega, fun j x h => by omega⟩ ?_ ?_
 . simp
 . rintro k ⟨hk, hk2, hp⟩
   simp
   by_cases h1 : k < c.parts.length /\ k < 12
   . obtain ⟨h1, h2⟩ := h1
     obtain ⟨x, e⟩ := Jag h1
     have hn := hs.names x (List.mem_of_getElem? e)
     have h2c : (k : Int) < 12 := by omega
     simp [h1]
     simp [h2c]
     simp [h1, e, -getElem?_pos, List.getElem?_cons_zero, List.getElem?_cons_succ]
     by_cases h4 : (60 : Int) < x.name.length
     . have hno : ¬ Jef c := fun hq => by have := hq.1 k x h2 e; omega
       simp [h4]
       simp [Jaa, Jjr hno]
     . simp [h4]
       refine ⟨wrap_i64 (by omega) (by omega), k + 1, ⟨by omega, by omega, fun j y hj e2 => ?_⟩, by omega, ?_⟩
       . by_cases hjk : j = k
         . subst hjk
           rw [e] at e2
           cases e2
           omega
         . exact hp j y (by omega) e2
       . simp
   . have hfp : Jte c := by
       intro j x hj e
       obtain ⟨hj2, _⟩ := gsI.1 e
       exact hp j x (by omega) e
     clear hp
     by_cases h2 : k < c.parts.length
     . have h3 : ¬ (k : Int) < 12 := by omega
       simp [h2]
       simp [h3]
       clear h2 h3 h1 hk2 hk
       refine Jai.go [1] [0] 0 [] (fun _ => []) (fun _ (k : Nat) => [(4, .p (.int .i64 k))]) (fun _ _ => []) (fun k => k <= c.pipes.length /\ k <= 24 /\ Jwf c k) (fun k => c.pipes.length - k) 0 ⟨by omega, by omega, fun j x h => by omega⟩ ?_ ?_
       . simp
       . rintro k ⟨hk, hk2, hp⟩
         simp
         by_cases h1 : k < c.pipes.length /\ k < 24
         . obtain ⟨h1, h2⟩ := h1
           obtain ⟨x, e⟩ := Jag h1
           have h2c : (k : Int) < 24 := by omega
           simp [h1]
           simp [h2c]
           simp [h1, e, -getElem?_pos, List.getElem?_cons_zero, List.getElem?_cons_succ]
           by_cases h4 : (60 : Int) < x.fr.name.length
           . have hno : ¬ Jef c := fun hq => by have := (hq.2.1 k x h2 e).1; omega
             simp [h4]
             simp [Jaa, Jjr hno]
           . simp [h4]
             simp [h1, e, -getElem?_pos, List.getElem?_cons_zero, List.getElem?_cons_succ]
             by_cases h5 : (60 : Int) < x.to.name.length
             . have hno : ¬ Jef c := fun hq => by have := (hq.2.1 k x h2 e).2; omega
               simp [h5]
               simp [Jaa, Jjr hno]
             . simp [h5]
               refine ⟨wrap_i64 (by omega) (by omega), k + 1, ⟨by omega, by omega, fun j y hj e2 => ?_⟩, by omega, ?_⟩
               . by_cases hjk : j = k
                 . subst hjk
                   rw [e] at e2
                   cases e2
                   omega
                 . exact hp j y (by omega) e2
               . simp
         . have hfq : Joj c := by
             intro j x hj e
             obtain ⟨hj2, _⟩ := gsI.1 e
             exact hp j x (by omega) e
           clear hp
           have hfe : fewP c = decide (Jaq c) := by
             by_cases hq : Jaq c
             . simp [fewP, Jef, hfp, hfq, hq]
             . simp [fewP, Jef, hq]
           rw [hfe]
           by_cases h2 : k < c.pipes.length
           . have h3 : ¬ (k : Int) < 24 := by omega
             simp [h2]
             simp [h3]
             clear h2 h3 h1 hk2 hk
             clear hfe hfq hfp
             by_cases a1 : (c.parts.length : Int) <= 12
             . simp [a1]
               by_cases b1 : (c.pipes.length : Int) <= 24
               . simp [b1]
                 simp [Jaa]
                 unfold Jaq
                 omega
               . by_cases b2 : (256 : Int) < c.pipes.length
                 . by_cases b3 : (c.pipes.length : Int) < 512
                   . simp [b1]
                     simp [b2]
                     simp [b3]
                     simp [Jaa]
                     unfold Jaq
                     omega
                   . simp [b1]
                     simp [b2]
                     simp [b3]
                     simp [Jaa]
                     unfold Jaq
                     omega
                 . simp [b1]
                   simp [b2]
                   simp [Jaa]
                   unfold Jaq
                   omega
             . by_cases a2 : (64 : Int) < c.parts.length
               . by_cases a3 : (c.parts.length : Int) < 128
                 . simp [a1]
                   simp [a2]
                   simp [a3]
                   by_cases b1 : (c.pipes.length : Int) <= 24
                   . simp [b1]
                     simp [Jaa]
                     unfold Jaq
                     omega
                   . by_cases b2 : (256 : Int) < c.pipes.length
                     . by_cases b3 : (c.pipes.length : Int) < 512
                       . simp [b1]
                         simp [b2]
                         simp [b3]
                         simp [Jaa]
                         unfold Jaq
                         omega
                       . simp [b1]
                         simp [b2]
                         simp [b3]
                         simp [Jaa]
                         unfold Jaq
                         omega
                     . simp [b1]
                       simp [b2]
                       simp [Jaa]
                       unfold Jaq
                       omega
                 . simp [a1]
                   simp [a2]
                   simp [a3]
                   simp [Jaa]
                   unfold Jaq
                   omega
               . simp [a1]
                 simp [a2]
                 simp [Jaa]
                 unfold Jaq
                 omega
           . simp [h2]
             clear h2 h1 hk2 hk
             clear hfe hfq hfp
             by_cases a1 : (c.parts.length : Int) <= 12
             . simp [a1]
               by_cases b1 : (c.pipes.length : Int) <= 24
               . simp [b1]
                 simp [Jaa]
                 unfold Jaq
                 omega
               . by_cases b2 : (256 : Int) < c.pipes.length
                 . by_cases b3 : (c.pipes.length : Int) < 512
                   . simp [b1]
                     simp [b2]
                     simp [b3]
                     simp [Jaa]
                     unfold Jaq
                     omega
                   . simp [b1]
                     simp [b2]
                     simp [b3]
                     simp [Jaa]
                     unfold Jaq
                     omega
                 . simp [b1]
                   simp [b2]
                   simp [Jaa]
                   unfold Jaq
                   omega
             . by_cases a2 : (64 : Int) < c.parts.length
               . by_cases a3 : (c.parts.length : Int) < 128
                 . simp [a1]
                   simp [a2]
                   simp [a3]
                   by_cases b1 : (c.pipes.length : Int) <= 24
                   . simp [b1]
                     simp [Jaa]
                     unfold Jaq
                     omega
                   . by_cases b2 : (256 : Int) < c.pipes.length
                     . by_cases b3 : (c.pipes.length : Int) < 512
                       . simp [b1]
                         simp [b2]
                         simp [b3]
                         simp [Jaa]
                         unfold Jaq
                         omega
                       . simp [b1]
                         simp [b2]
                         simp [b3]
                         simp [Jaa]
                         unfold Jaq
                         omega
                     . simp [b1]
                       simp [b2]
                       simp [Jaa]
                       unfold Jaq
                       omega
                 . simp [a1]
                   simp [a2]
                   simp [a3]
                   simp [Jaa]
                   unfold Jaq
                   omega
               . simp [a1]
                 simp [a2]
                 simp [Jaa]
                 unfold Jaq
                 omega
     . simp [h2]
       clear h2 h1 hk2 hk
       refine Jai.go [1] [0] 0 [] (fun _ => []) (fun _ (k : Nat) => [(4, .p (.int .i64 k))]) (fun _ _ => []) (fun k => k <= c.pipes.length /\ k <= 24 /\ Jwf c k) (fun k => c.pipes.length - k) 0 ⟨by omega, by omega, fun j x h => by omega⟩ ?_ ?_
       . simp
       . rintro k ⟨hk, hk2, hp⟩
         simp
         by_cases h1 : k < c.pipes.length /\ k < 24
         . obtain ⟨h1, h2⟩ := h1
           obtain ⟨x, e⟩ := Jag h1
           have h2c : (k : Int) < 24 := by omega
           simp [h1]
           simp [h2c]
           simp [h1, e, -getElem?_pos, List.getElem?_cons_zero, List.getElem?_cons_succ]
           by_cases h4 : (60 : Int) < x.fr.name.length
           . have hno : ¬ Jef c := fun hq => by have := (hq.2.1 k x h2 e).1; omega
             simp [h4]
             simp [Jaa, Jjr hno]
           . simp [h4]
             simp [h1, e, -getElem?_pos, List.getElem?_cons_zero, List.getElem?_cons_succ]
             by_cases h5 : (60 : Int) < x.to.name.length
             . have hno : ¬ Jef c := fun hq => by have := (hq.2.1 k x h2 e).2; omega
               simp [h5]
               simp [Jaa, Jjr hno]
             . simp [h5]
               refine ⟨wrap_i64 (by omega) (by omega), k + 1, ⟨by omega, by omega, fun j y hj e2 => ?_⟩, by omega, ?_⟩
               . by_cases hjk : j = k
                 . subst hjk
                   rw [e] at e2
                   cases e2
                   omega
                 . exact hp j y (by omega) e2
               . simp
         . have hfq : Joj c := by
             intro j x hj e
             obtain ⟨hj2, _⟩ := gsI.1 e
             exact hp j x (by omega) e
           clear hp
           have hfe : fewP c = decide (Jaq c) := by
             by_cases hq : Jaq c
             . simp [fewP, Jef, hfp, hfq, hq]
             . simp [fewP, Jef, hq]
           rw [hfe]
           by_cases h2 : k < c.pipes.length
           . have h3 : ¬ (k : Int) < 24 := by omega
             simp [h2]
             simp [h3]
             clear h2 h3 h1 hk2 hk
             clear hfe hfq hfp
             by_cases a1 : (c.parts.length : Int) <= 12
             . simp [a1]
               by_cases b1 : (c.pipes.length : Int) <= 24
               . simp [b1]
                 simp [Jaa]
                 unfold Jaq
                 omega
               . by_cases b2 : (256 : Int) < c.pipes.length
                 . by_cases b3 : (c.pipes.length : Int) < 512
                   . simp [b1]
                     simp [b2]
                     simp [b3]
                     simp [Jaa]
                     unfold Jaq
                     omega
                   . simp [b1]
                     simp [b2]
                     simp [b3]
                     simp [Jaa]
                     unfold Jaq
                     omega
                 . simp [b1]
                   simp [b2]
                   simp [Jaa]
                   unfold Jaq
                   omega
             . by_cases a2 : (64 : Int) < c.parts.length
               . by_cases a3 : (c.parts.length : Int) < 128
                 . simp [a1]
                   simp [a2]
                   simp [a3]
                   by_cases b1 : (c.pipes.length : Int) <= 24
                   . simp [b1]
                     simp [Jaa]
                     unfold Jaq
                     omega
                   . by_cases b2 : (256 : Int) < c.pipes.length
                     . by_cases b3 : (c.pipes.length : Int) < 512
                       . simp [b1]
                         simp [b2]
                         simp [b3]
                         simp [Jaa]
                         unfold Jaq
                         omega
                       . simp [b1]
                         simp [b2]
                         simp [b3]
                         simp [Jaa]
                         unfold Jaq
                         omega
                     . simp [b1]
                       simp [b2]
                       simp [Jaa]
                       unfold Jaq
                       omega
                 . simp [a1]
                   simp [a2]
                   simp [a3]
                   simp [Jaa]
                   unfold Jaq
                   omega
               . simp [a1]
                 simp [a2]
                 simp [Jaa]
                 unfold Jaq
                 omega
           . simp [h2]
             clear h2 h1 hk2 hk
             clear hfe hfq hfp
             by_cases a1 : (c.parts.length : Int) <= 12
             . simp [a1]
               by_cases b1 : (c.pipes.length : Int) <= 24
               . simp [b1]
                 simp [Jaa]
                 unfold Jaq
                 omega
               . by_cases b2 : (256 : Int) < c.pipes.length
                 . by_cases b3 : (c.pipes.length : Int) < 512
                   . simp [b1]
                     simp [b2]
                     simp [b3]
                     simp [Jaa]
                     unfold Jaq
                     omega
                   . simp [b1]
                     simp [b2]
                     simp [b3]
                     simp [Jaa]
                     unfold Jaq
                     omega
                 . simp [b1]
                   simp [b2]
                   simp [Jaa]
                   unfold Jaq
                   omega
             . by_cases a2 : (64 : Int) < c.parts.length
               . by_cases a3 : (c.parts.length : Int) < 128
                 . simp [a1]
                   simp [a2]
                   simp [a3]
                   by_cases b1 : (c.pipes.length : Int) <= 24
                   . simp [b1]
                     simp [Jaa]
                     unfold Jaq
                     omega
                   . by_cases b2 : (256 : Int) < c.pipes.length
                     . by_cases b3 : (c.pipes.length : Int) < 512
                       . simp [b1]
                         simp [b2]
                         simp [b3]
                         simp [Jaa]
                         unfold Jaq
                         omega
                       . simp [b1]
                         simp [b2]
                         simp [b3]
                         simp [Jaa]
                         unfold Jaq
                         omega
                     . simp [b1]
                       simp [b2]
                       simp [Jaa]
                       unfold Jaq
                       omega
                 . simp [a1]
                   simp [a2]
                   simp [a3]
                   simp [Jaa]
                   unfold Jaq
                   omega
               . simp [a1]
                 simp [a2]
                 simp [Jaa]
                 unfold Jaq
                 omega
end Go.Am
