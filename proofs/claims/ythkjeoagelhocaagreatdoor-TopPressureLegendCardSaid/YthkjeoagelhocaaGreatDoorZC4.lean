/- Lemmas and contracts for the proof of a statement of this seat. -/
import Derived.Test.YthkjeoagelhocaaGreatDoorZC3
set_option linter.unusedVariables false
set_option linter.unusedSimpArgs false
namespace Go.Am
open Go Go.Proofs Go.Pn
theorem J4m (l : List Txt) : Pure Tryz.prog GL 189 [.p (.lst 1 (l.map Txt.enc))] (Jsi l) := by
 refine Pure.of_walk (N := 4) Tryz.func189 rfl rfl rfl (by simp) (by first | (simp; done) | simp [*]) ?_
 simp
 simp [Jaa]
theorem J4j (l : List Txt) (h0 : l ≠ []) (hl : l.length <= 12) : Pure Tryz.prog GL 188 [Jsi l] (.p (.lst 1 ((Jdm l).map Txt.enc))) := by
 refine Pure.of_walk (N := 9) Tryz.func188 rfl rfl rfl (by simp) (by first | (simp; done) | simp [*]) ?_
 simp
 refine Ja6 (J8u l _ _ h0 (by omega)) ?_
 simp
 refine Ja6 (Jw7 _ _ _ 0 none (by omega) (by simp [get]) hl) ?_
 simp [Jaa, Jq1]
 rw [List.take_of_length_le (by simp [Jq1])]
 rfl
theorem Jq5 {k : Nat} (h : k < 14) : Jdm (Jao k) = Jao k /\ Jao k ≠ [] /\ (Jao k).length <= 12 := (by decide : ∀ k, k < 14 -> Jdm (Jao k) = Jao k /\ Jao k ≠ [] /\ (Jao k).length <= 12) k h
theorem Jus (p : Part) (hk : 0 <= p.kind /\ p.kind < 14) : Pure Tryz.prog GL 129 [p.av] (.p (.lst 1 ((Jbq p).map Txt.enc))) := by
 refine Pure.of_walk (N := 14) Tryz.func129 rfl rfl rfl (by simp) (by first | (simp; done) | simp [*]) ?_
 have h4 : p.kind.toNat < 14 := by omega
 obtain ⟨h1, h2, h3⟩ := Jq5 h4
 simp
 refine Jab (Ju9 p.kind) ?_
 simp [Jcw.2 hk]
 refine Jab (J4m (Jao p.kind.toNat)) ?_
 simp
 refine Jab (J4j (Jao p.kind.toNat) h2 h3) ?_
 simp [Jaa, Jbq, h1]
def Kj4 (c : Circuit) (p : Port) : Int := if p.part < 0 \/ (c.parts.length : Int) <= p.part then 2 else match c.parts[p.part.toNat]? with
 | some x => if p.name ∈ Jbq x then 0 else 6
 | none => 2
def Jbi (c : Circuit) (p : Port) : Int := if p.part < 0 \/ (c.parts.length : Int) <= p.part then 2 else 0
def Jbw (c : Circuit) (p : Port) : Int := match c.parts[p.part.toNat]? with
 | some x => if p.name ∈ Jbq x then 0 else 6
 | none => 0
def Jaq (f : Nat -> Int) : Nat -> Int
 | 0 => 0
 | n + 1 => if Jaq f n ≠ 0 then Jaq f n else f n
theorem Jgf {f : Nat -> Int} {k n : Nat} (h : Jaq f k = 0) (hk : k < n) (hf : f k ≠ 0) : Jaq f n = f k := by
 induction n with
 | zero => omega
 | succ n ih =>
   by_cases e : k = n
   . subst e; simp [Jaq, h]
   . have := ih (by omega)
     simp [Jaq, this, hf]
theorem Jdd {f : Nat -> Int} {k : Nat} (h : Jaq f k = 0) (hf : f k = 0) : Jaq f (k + 1) = 0 := by simp [Jaq, h, hf]
theorem Jfu {f : Nat -> Int} : ∀ {n : Nat}, Jaq f n = 0 -> ∀ {k : Nat}, k < n -> f k = 0
 | 0, _, k, hk => by omega
 | n + 1, h, k, hk => by
   simp only [Jaq] at h
   split at h
   . rename_i h1; exact absurd h h1
   . rename_i h1
     by_cases e : k = n
     . subst e; exact h
     . exact Jfu (by simpa using h1) (by omega)
def Jef {α : Type} (xs : List α) (f : α -> Int) (k : Nat) : Int := match xs[k]? with | some x => f x | none => 0
def Je6 (c : Circuit) (l : List Port) : Int := Jaq (Jef l (Jbi c)) l.length
def Jff (c : Circuit) (l : List Port) : Int := Jaq (Jef l (Jbw c)) l.length
theorem Juq (c : Circuit) (l : List Port) (hc : Sized c) (hl : l.length < 1000000) : Pure Tryz.prog GL 68 [c.av, .p (.lst 2 (l.map Port.enc))] (.p (.int .i64 (Je6 c l))) := by
 refine Pure.of_walk (N := 25) Tryz.func68 rfl rfl rfl (by simp) (by first | (simp; done) | simp [*]) ?_
 simp
 refine Jag.go [2, 7, 8] [0] 0 [] (fun _ => []) (fun _ (k : Nat) => [(9, .p (.int .i64 k))]) (fun _ _ => []) (fun k => k <= l.length /\ Jaq (Jef l (Jbi c)) k = 0) (fun k => l.length - k) 0 ⟨by omega, rfl⟩ ?_ ?_
 . simp
 . rintro k ⟨hk, hp⟩
   simp
   refine Jad (fun h => ?_) (fun h => ?_)
   . simp at h
     obtain ⟨x, e⟩ := Jae h
     have hx : Jef l (Jbi c) k = Jbi c x := by simp [Jef, e, -getElem?_pos]
     by_cases hb : x.part < 0 \/ (c.parts.length : Int) <= x.part
     . have h2 : Jbi c x = 2 := if_pos hb
       have h3 : Je6 c l = 2 := by rw [Je6, Jgf hp h (by rw [hx, h2]; decide), hx, h2]
       simp [h, e, -getElem?_pos, List.getElem?_cons_zero, List.getElem?_cons_succ]
       repeat' (first | (apply Jad <;> intro hq <;> (try simp at hq) <;> (try simp [hq])) | (apply Jfl <;> intro hq <;> (try simp at hq) <;> (try simp [hq])))
       all_goals (try simp [Jaa, h3])
       all_goals omega
     . have h2 : Jbi c x = 0 := if_neg hb
       have h4 : ¬ x.part < 0 := by omega
       have h5 : ¬ (c.parts.length : Int) <= x.part := by omega
       simp [h, e, h4, h5, -getElem?_pos, List.getElem?_cons_zero, List.getElem?_cons_succ]
       refine ⟨wrap_i64 (by omega) (by omega), k + 1, ⟨by omega, Jdd hp (by rw [hx, h2])⟩, by omega, ?_⟩
       simp
   . simp at h
     have hk2 : k = l.length := by omega
     subst hk2
     simp [Jaa, Je6, hp]
theorem Jup (c : Circuit) (l : List Port) (hc : Sized c) (hl : l.length < 1000000) (hk : ∀ p ∈ c.parts, 0 <= p.kind /\ p.kind < 14) (hr : ∀ p ∈ l, 0 <= p.part /\ p.part < c.parts.length) : Pure Tryz.prog GL 69 [c.av, .p (.lst 2 (l.map Port.enc))] (.p (.int .i64 (Jff c l))) := by
 refine Pure.of_walk (N := 25) Tryz.func69 rfl rfl rfl (by simp) (by first | (simp; done) | simp [*]) ?_
 simp
 refine Jag.go [2, 7, 8] [0] 0 [] (fun _ => []) (fun _ (k : Nat) => [(9, .p (.int .i64 k))]) (fun _ _ => []) (fun k => k <= l.length /\ Jaq (Jef l (Jbw c)) k = 0) (fun k => l.length - k) 0 ⟨by omega, rfl⟩ ?_ ?_
 . simp
 . rintro k ⟨hk1, hp⟩
   simp
   refine Jad (fun h => ?_) (fun h => ?_)
   . simp at h
     obtain ⟨x, e⟩ := Jae h
     have hx : Jef l (Jbw c) k = Jbw c x := by simp [Jef, e, -getElem?_pos]
     obtain ⟨hr1, hr2⟩ := hr x (List.mem_of_getElem? e)
     obtain ⟨y, ey⟩ := Jae (xs := c.parts) (k := x.part.toNat) (by omega)
     simp [h, e, -getElem?_pos, List.getElem?_cons_zero, List.getElem?_cons_succ]
     refine Jak.intro (by kernel_rfl) ?_
     simp [hr1, hr2, ey, -getElem?_pos, List.getElem?_cons_zero, List.getElem?_cons_succ]
     refine Jab (Jus y (hk y (List.mem_of_getElem? ey))) ?_
     simp
     have hlen : (Jbq y).length < 1000000 := by
       have h5 := (hk y (List.mem_of_getElem? ey))
       have h6 := (Jq5 (k := y.kind.toNat) (by omega)).2.2
       simp only [Jbq]; omega
     refine Jab (Jps (Jbq y) x.name (by omega)) ?_
     simp
     refine ⟨.of (by kernel_rfl), ?_⟩
     have hn : Jbw c x = if x.name ∈ Jbq y then 0 else 6 := by simp [Jbw, ey, -getElem?_pos]
     refine Jad (fun h2 => ?_) (fun h2 => ?_)
     . simp at h2
       have h3 : Jff c l = 6 := by rw [Jff, Jgf hp h (by rw [hx, hn, if_neg h2]; decide), hx, hn, if_neg h2]
       simp [Jaa, h3]
     . simp at h2
       simp
       refine ⟨wrap_i64 (by omega) (by omega), k + 1, ⟨by omega, Jdd hp (by rw [hx, hn, if_pos h2])⟩, by omega, ?_⟩
       simp
   . simp at h
     have hk2 : k = l.length := by omega
     subst hk2
     simp [Jaa, Jff, hp]
end Go.Am
namespace Go.Am
open Go Go.Proofs Go.Pn
def partAt (c : Circuit) (k : Nat) : Int := match c.parts[k]? with
 | some p => if Jbb p ≠ 0 then Jbb p else if 0 < k /\ ¬ Op.bytesLess ((c.parts[k - 1]?.map (·.name)).getD []) p.name = true then 9 else 0
 | none => 0
def Jet (c : Circuit) (k : Nat) : Int := match c.parts[k]? with
 | some p => if p.kind = 6 /\ Jd4 c p.name < 0 then 6 else 0
 | none => 0
def Jd6 (c : Circuit) (x : Pipe) : Int := if Je6 c [x.fr, x.to] ≠ 0 then Je6 c [x.fr, x.to] else if Jff c [x.fr, x.to] ≠ 0 then Jff c [x.fr, x.to] else if 0 <= Jcd x.fr x.to then 9 else 0
def Jb7 (c : Circuit) (k : Nat) : Int := match c.pipes[k]? with
 | some x => if Jd6 c x ≠ 0 then Jd6 c x else match k, c.pipes[k - 1]? with
   | _ + 1, some y => if 0 <= Jfr y x then 9 else 0
   | _, _ => 0
 | none => 0
def Jac (c : Circuit) : Int :=
 if 64 < c.parts.length then 5 else
 if Jaq (partAt c) c.parts.length ≠ 0 then Jaq (partAt c) c.parts.length else
 if Jaq (Jet c) c.parts.length ≠ 0 then Jaq (Jet c) c.parts.length else
 if 256 < c.pipes.length then 5 else Jaq (Jb7 c) c.pipes.length
theorem Kfs {c : Circuit} {a b : Port} (h : Je6 c [a, b] = 0) : ∀ p ∈ [a, b], 0 <= p.part /\ p.part < c.parts.length := by
 have h1 := Jfu (n := 2) h (k := 0) (by omega)
 have h2 := Jfu (n := 2) h (k := 1) (by omega)
 simp [Jef, Jbi] at h1 h2
 intro p hp
 simp at hp
 rcases hp with rfl | rfl <;> omega
theorem Jgr (c : Circuit) (hc : Sized c) : Pure Tryz.prog GL 28 [c.av] (.p (.int .i64 (Jac c))) := by
 refine Pure.of_walk (N := 115) Tryz.func28 rfl rfl rfl (by simp) (by first | (simp; done) | simp [*]) ?_
 simp
 refine Jad (fun h => ?_) (fun h => ?_)
 . have h' : 64 < c.parts.length := by simp at h; omega
   have hP : Jac c = 5 := by unfold Jac; rw [if_pos h']
   simp [Jaa, hP]
 . have h0 : ¬ 64 < c.parts.length := by simp at h; omega
   simp
   refine Jag.go [1, 17, 18] [0] 0 [] (fun _ => []) (fun _ (k : Nat) => [(19, .p (.int .i64 k))]) (fun _ _ => []) (fun k => k <= c.parts.length /\ Jaq (partAt c) k = 0) (fun k => c.parts.length - k) 0 ⟨by omega, rfl⟩ ?_ ?_
   . simp
   . rintro k ⟨hk, hp⟩
     simp
     refine Jad (fun h1 => ?_) (fun h1 => ?_)
     . simp at h1
       obtain ⟨x, e⟩ := Jae h1
       have hbad : ∀ m : Int, partAt c k = m -> m ≠ 0 -> Jac c = m := by
         intro m h2 h3
         have h4 : Jaq (partAt c) c.parts.length = m := by rw [Jgf hp h1 (by rw [h2]; exact h3), h2]
         unfold Jac
         rw [if_neg h0, h4, if_pos h3]
       have hx : partAt c k = if Jbb x ≠ 0 then Jbb x else if 0 < k /\ ¬ Op.bytesLess ((c.parts[k - 1]?.map (·.name)).getD []) x.name = true then 9 else 0 := by simp only [partAt, e]
       simp [h1, e, -getElem?_pos, List.getElem?_cons_zero, List.getElem?_cons_succ]
       refine Jab (J5h x (by have := hc.names x (List.mem_of_getElem? e); omega)) ?_
       simp
       refine Jad (fun h2 => ?_) (fun h2 => ?_)
       . simp at h2
         have h3 := hbad (Jbb x) (by rw [hx, if_pos h2]) h2
         simp [Jaa, h3]
       . simp at h2
         rw [if_neg (by simp [h2])] at hx
         cases k with
         | zero =>
           simp
           refine Jak.intro (by kernel_rfl) ?_
           simp
           refine ⟨.of (by kernel_rfl), 0 + 1, ⟨by omega, Jdd hp (by rw [hx]; simp)⟩, by omega, ?_⟩
           simp
         | succ k =>
           obtain ⟨y, ey⟩ := Jae (xs := c.parts) (k := k) (by omega)
           have e0 : (0 : Int) < (k : Int) + 1 := by omega
           have e1 : (k : Int) + 1 - 1 = k := by omega
           have e2 : k < c.parts.length := by omega
           simp
           refine Jak.intro (by kernel_rfl) ?_
           simp [e0, e1, e2, ey, -getElem?_pos, List.getElem?_cons_zero, List.getElem?_cons_succ]
           refine ⟨wrap_i64 (by omega) (by omega), .of (by kernel_rfl), ?_⟩
           have hk1 : k + 1 - 1 = k := by omega
           rw [hk1, ey] at hx
           simp at hx
           refine Jad (fun h3 => ?_) (fun h3 => ?_)
           . have h5 : Op.bytesLess y.name x.name = false := by rw [Jmd] at h3; simpa using h3
             have h4 := hbad 9 (by rw [hx]; simp [h5]) (by decide)
             simp [Jaa, h4]
           . have h5 : Op.bytesLess y.name x.name = true := by rw [Jmd] at h3; simpa using h3
             simp [h5] at hx
             simp
             refine ⟨wrap_i64 (by omega) (by omega), k + 1 + 1, ⟨by omega, Jdd hp hx⟩, by omega, ?_⟩
             simp
     . simp at h1
       have hk2 : k = c.parts.length := by omega
       subst hk2
       simp
       refine Jag.go [1, 45, 46] [0] 0 [] (fun _ => []) (fun _ (k : Nat) => [(47, .p (.int .i64 k))]) (fun _ _ => []) (fun k => k <= c.parts.length /\ Jaq (Jet c) k = 0) (fun k => c.parts.length - k) 0 ⟨by omega, rfl⟩ ?_ ?_
       . simp
       . rintro k ⟨hk, hp2⟩
         simp
         refine Jad (fun h1 => ?_) (fun h1 => ?_)
         . simp at h1
           obtain ⟨x, e⟩ := Jae h1
           simp [h1, e, -getElem?_pos, List.getElem?_cons_zero, List.getElem?_cons_succ]
           have hx : Jet c k = if x.kind = 6 /\ Jd4 c x.name < 0 then 6 else 0 := by simp only [Jet, e]
           refine Jad (fun h2 => ?_) (fun h2 => ?_)
           . simp at h2
             simp [h2]
             refine Jab (J4q c ⟨6, x.name, x.delay⟩ hc (hc.names x (List.mem_of_getElem? e))) ?_
             simp
             refine Jad (fun h3 => ?_) (fun h3 => ?_)
             . simp at h3
               rw [if_pos ⟨h2, h3⟩] at hx
               have hP : Jac c = 6 := by unfold Jac; rw [if_neg h0, hp, Jgf hp2 h1 (by rw [hx]; decide), hx]; simp
               simp [Jaa, hP]
             . simp at h3
               rw [if_neg (by omega)] at hx
               simp
               refine ⟨wrap_i64 (by omega) (by omega), k + 1, ⟨by omega, Jdd hp2 hx⟩, by omega, ?_⟩
               simp
           . simp at h2
             rw [if_neg (by simp [h2])] at hx
             simp [h2]
             refine ⟨wrap_i64 (by omega) (by omega), k + 1, ⟨by omega, Jdd hp2 hx⟩, by omega, ?_⟩
             simp
         . simp at h1
           have hk2 : k = c.parts.length := by omega
           subst hk2
           simp
           refine Jad (fun h3 => ?_) (fun h3 => ?_)
           . have h3' : 256 < c.pipes.length := by simp at h3; omega
             have hP : Jac c = 5 := by unfold Jac; rw [if_neg h0, hp, hp2]; simp [h3']
             simp [Jaa, hP]
           . have h3' : ¬ 256 < c.pipes.length := by simp at h3; omega
             simp
             refine Jag.go [1, 66, 67] [0] 0 [] (fun _ => []) (fun _ (k : Nat) => [(68, .p (.int .i64 k))]) (fun _ _ => []) (fun k => k <= c.pipes.length /\ Jaq (Jb7 c) k = 0) (fun k => c.pipes.length - k) 0 ⟨by omega, rfl⟩ ?_ ?_
             . simp
             . rintro k ⟨hk, hp3⟩
               simp
               refine Jad (fun h1 => ?_) (fun h1 => ?_)
               . simp at h1
                 obtain ⟨x, e⟩ := Jae h1
                 have hkinds : ∀ p ∈ c.parts, 0 <= p.kind /\ p.kind < 14 := by
                   intro p hpm
                   obtain ⟨j, hj, rfl⟩ := List.getElem_of_mem hpm
                   have h7 := Jfu hp hj
                   simp only [partAt, List.getElem?_eq_getElem hj] at h7
                   have h8 : Jas c.parts[j].kind = 0 := by
                     by_cases h9 : Jas c.parts[j].kind = 0
                     . exact h9
                     . exfalso
                       have h10 : Jbb c.parts[j] ≠ 0 := by simp [Jbb, h9]
                       rw [if_pos h10] at h7
                       exact h10 h7
                   exact Jcw.1 h8
                 have hbad : ∀ m : Int, Jb7 c k = m -> m ≠ 0 -> Jac c = m := by
                   intro m h2 h3
                   have h4 : Jaq (Jb7 c) c.pipes.length = m := by rw [Jgf hp3 h1 (by rw [h2]; exact h3), h2]
                   unfold Jac
                   rw [if_neg h0, hp, hp2, h4]
                   simp [h3']
                 have hx : ∀ m, Jd6 c x = m -> m ≠ 0 -> Jb7 c k = m := by
                   intro m h2 h3
                   simp only [Jb7, e]
                   rw [if_pos (by rw [h2]; exact h3), h2]
                 simp [h1, e, -getElem?_pos, List.getElem?_cons_zero, List.getElem?_cons_succ]
                 refine Jcs ?_
                 simp
                 refine ⟨_, Juq c [x.fr, x.to] hc (by simp), rfl, ?_⟩
                 simp
                 refine Jad (fun h4 => ?_) (fun h4 => ?_)
                 . simp at h4
                   have h5 := hbad _ (hx (Je6 c [x.fr, x.to]) (by simp [Jd6, h4]) h4) h4
                   simp [Jaa, h5]
                 . simp at h4
                   simp
                   refine Jcs ?_
                   simp
                   refine ⟨_, Jup c [x.fr, x.to] hc (by simp) hkinds (Kfs h4), rfl, ?_⟩
                   simp
                   refine Jad (fun h5 => ?_) (fun h5 => ?_)
                   . simp at h5
                     have h6 := hbad _ (hx (Jff c [x.fr, x.to]) (by simp [Jd6, h4, h5]) h5) h5
                     simp [Jaa, h6]
                   . simp at h5
                     have hp0 : Jd6 c x = if 0 <= Jcd x.fr x.to then 9 else 0 := by simp [Jd6, h4, h5]
                     simp
                     refine Jak.intro (by kernel_rfl) ?_
                     simp
                     refine Jab (Jmf x.fr x.to) ?_
                     simp
                     by_cases h6 : 0 <= Jcd x.fr x.to
                     . have h7 := hbad 9 (hx 9 (by rw [hp0, if_pos h6]) (by decide)) (by decide)
                       simp [h6]
                       refine ⟨.of (by kernel_rfl), ?_⟩
                       simp [Jaa, h7]
                     . rw [if_neg h6] at hp0
                       simp [h6]
                       cases k with
                       | zero =>
                         simp
                         refine ⟨.of (by kernel_rfl), 0 + 1, ⟨by omega, Jdd hp3 (by simp [Jb7, e, hp0, -getElem?_pos])⟩, by omega, ?_⟩
                         simp
                       | succ k =>
                         obtain ⟨y, ey⟩ := Jae (xs := c.pipes) (k := k) (by omega)
                         have e0 : (0 : Int) < (k : Int) + 1 := by omega
                         have e1 : (k : Int) + 1 - 1 = k := by omega
                         have e2 : k < c.pipes.length := by omega
                         have hq : Jb7 c (k + 1) = if 0 <= Jfr y x then 9 else 0 := by
                           have hk1 : k + 1 - 1 = k := by omega
                           simp only [Jb7, e, hp0, hk1, ey]
                           simp
                         simp [e0, e1, e2, ey, -getElem?_pos, List.getElem?_cons_zero, List.getElem?_cons_succ]
                         refine ⟨wrap_i64 (by omega) (by omega), ?_⟩
                         refine Jab (J4r y x) ?_
                         simp
                         refine ⟨.of (by kernel_rfl), ?_⟩
                         refine Jad (fun h8 => ?_) (fun h8 => ?_)
                         . simp at h8
                           have h9 := hbad 9 (by rw [hq, if_pos h8]) (by decide)
                           simp [Jaa, h9]
                         . simp at h8
                           simp
                           refine ⟨wrap_i64 (by omega) (by omega), k + 1 + 1, ⟨by omega, Jdd hp3 (by rw [hq, if_neg (by omega)])⟩, by omega, ?_⟩
                           simp
               . simp at h1
                 have hk2 : k = c.pipes.length := by omega
                 subst hk2
                 have hP : Jac c = 0 := by unfold Jac; rw [if_neg h0, hp, hp2, hp3]; simp [h3']
                 simp [Jaa, hP]
end Go.Am
namespace Go.Am
open Go Go.Proofs Go.Pn
def Jbz (c : Circuit) : Nat -> List Port
 | 0 => []
 | k + 1 => Jbz c k ++ match c.parts[k]? with
   | some p => (Jbq p).map fun s => ⟨k, s⟩
   | none => []
def allP (c : Circuit) : List Port := Jbz c c.parts.length
def Jdf (c : Circuit) : Prop := ∀ p ∈ c.parts, 0 <= p.kind /\ p.kind < 14
theorem J0s {p : Part} (h : 0 <= p.kind /\ p.kind < 14) : (Jbq p).length <= 12 := (Jq5 (k := p.kind.toNat) (by omega)).2.2
theorem Jl7 {c : Circuit} (h : Jdf c) : ∀ {k : Nat}, (Jbz c k).length <= 12 * k
 | 0 => by simp [Jbz]
 | k + 1 => by
   have := Jl7 h (k := k)
   simp only [Jbz]
   split
   . rename_i p hp
     have := J0s (h p (List.mem_of_getElem? hp))
     simp; omega
   . simp; omega
def allIn (c : Circuit) (k : Nat) (l : List Txt) : List Port := Jbz c k ++ l.map fun s => ⟨k, s⟩
theorem J3h {c : Circuit} {k : Nat} : allIn c k [] = Jbz c k := by simp [allIn]
theorem J3i {c : Circuit} {k i : Nat} {l : List Txt} {y : Txt} (e : l[i]? = some y) : allIn c k (l.take (i + 1)) = allIn c k (l.take i) ++ [⟨k, y⟩] := by simp only [allIn]; rw [take_snoc e]; simp
theorem J3g {c : Circuit} {k i : Nat} {l : List Txt} : (allIn c k (l.take i)).length <= (Jbz c k).length + l.length := by simp [allIn]; omega
theorem J3f {c : Circuit} {k : Nat} {p : Part} (e : c.parts[k]? = some p) : allIn c k (Jbq p) = Jbz c (k + 1) := by simp only [allIn, Jbz, e]
theorem Juo (c : Circuit) (hk : Jdf c) (hn : c.parts.length <= 100) : Pure Tryz.prog GL 138 [c.av] (.p (.lst 2 ((allP c).map Port.enc))) := by
 refine Pure.of_walk (N := 32) Tryz.func138 rfl rfl rfl (by simp) (by first | (simp; done) | simp [*]) ?_
 simp
 refine Jag.go [9, 10] [] 1 [1] (nms [3]) (fun nx (k : Nat) => [(3, .acc nx 2 (Jbz c k).length), (11, .p (.int .i64 k))]) (fun nx k => [(nx, accB 2 ((Jbz c k).map Port.row))]) (fun k => k <= c.parts.length) (fun k => c.parts.length - k) 0 (by omega) ?_ ?_
 . simp [Jbz]
 . intro k hk1
   have hb := Jl7 hk (k := k)
   simp
   refine Jad (fun h => ?_) (fun h => ?_)
   . simp at h
     obtain ⟨x, e⟩ := Jae h
     have hx := hk x (List.mem_of_getElem? e)
     have hpl := J0s hx
     simp [h, e, -getElem?_pos, List.getElem?_cons_zero, List.getElem?_cons_succ]
     refine Jab (Jus x hx) ?_
     simp
     refine Jag.gor [4, 9, 10, 11, 17, 18] [] [0, 1, 2] (fun st => [0, nameOf (slot st.t 3), 2]) (fun (i : Nat) => [(3, .acc 1 2 (allIn c k ((Jbq x).take i)).length), (19, .p (.int .i64 i))]) (fun i => [(1, accB 2 ((allIn c k ((Jbq x).take i)).map Port.row))]) (fun i => i <= (Jbq x).length) (fun i => (Jbq x).length - i) 0 (by omega) ?_ ?_
     . simp [J3h]
     . intro i hi
       have hil := J3g (c := c) (k := k) (l := Jbq x) (i := i)
       simp
       refine Jad (fun h2 => ?_) (fun h2 => ?_)
       . simp at h2
         obtain ⟨y, e2⟩ := Jae h2
         have hs := J3i (c := c) (k := k) e2
         simp [h2, e2, -getElem?_pos, List.getElem?_cons_zero, List.getElem?_cons_succ]
         refine ⟨by omega, wrap_i64 (by omega) (by omega), i + 1, by omega, by omega, ?_⟩
         simp [hs]
       . simp at h2
         have h3 : i = (Jbq x).length := by omega
         subst h3
         have ha := J3f e
         simp [ha]
         refine ⟨wrap_i64 (by omega) (by omega), k + 1, by omega, by omega, ?_⟩
         simp
   . simp at h
     have hk2 : k = c.parts.length := by omega
     subst hk2
     simp [Jaa, allP]
theorem Juj (c : Circuit) (s : Txt) (hc : Sized c) : Pure Tryz.prog GL 49 [c.av, .p (.str s)] (.tup [.p (.int .i64 (if Jac c ≠ 0 then 0 else if idxI c.parts (fun p => decide (p.name = s)) < 0 then 0 else idxI c.parts fun p => decide (p.name = s))), .p (.int .i64 (if Jac c ≠ 0 then Jac c else if idxI c.parts (fun p => decide (p.name = s)) < 0 then 6 else 0))]) := by
 refine Pure.of_walk (N := 19) Tryz.func49 rfl rfl rfl (by simp) (by first | (simp; done) | simp [*]) ?_
 simp
 refine Jab (Jgr c hc) ?_
 by_cases h : Jac c = 0
 . simp [h]
   refine Jab (Jki c s hc) ?_
   generalize (idxI c.parts fun p => decide (p.name = s)) = m
   by_cases h2 : m < 0
   . simp [h2, Jaa, h]
   . simp [h2, Jaa, h]
 . simp [h, Jaa]
end Go.Am
namespace Go.Am
open Go Go.Proofs Go.Pn
theorem J56 (c : Circuit) (s : Txt) (hc : Sized c) : Pure Tryz.prog GL 206 [c.av, .p (.str s)] (.p (.int .i64 (idxI c.parts fun p => decide (p.name = s)))) := by
 refine Pure.of_walk (N := 22) Tryz.func206 rfl rfl rfl (by simp) (by first | (simp; done) | simp [*]) ?_
 simp
 refine Jag.go [1, 2] [0] 0 [] (fun _ => []) (fun _ (k : Nat) => [(5, .p (.int .i64 k))]) (fun _ _ => []) (fun k => k <= c.parts.length /\ ∀ (j : Nat) x, j < k -> c.parts[j]? = some x -> decide (x.name = s) = false) (fun k => c.parts.length - k) 0 ⟨by omega, fun j x h => by omega⟩ ?_ ?_
 . simp
 . rintro k ⟨hk, hp⟩
   have hc1 := hc.parts
   simp
   refine Jad (fun h => ?_) (fun h => ?_)
   . simp at h
     obtain ⟨x, e⟩ := Jae h
     simp [h, e, -getElem?_pos, List.getElem?_cons_zero, List.getElem?_cons_succ]
     refine Jad (fun h2 => ?_) (fun h2 => ?_)
     . simp [Jaa, Jej (q := fun p => decide (p.name = s)) e h2 hp]
     . simp
       refine ⟨wrap_i64 (by omega) (by omega), k + 1, ⟨by omega, ?_⟩, by omega, ?_⟩
       . simpa using Jdt (P := fun p : Part => decide (p.name = s) = false) hp e h2
       . simp
   . simp at h
     have : k = c.parts.length := by omega
     subst this
     have hI : (idxI c.parts fun p => decide (p.name = s)) = -1 := Jfd (Jed hp)
     simp [Jaa, hI]
def cylB (c : Circuit) (s : Txt) : Bool := match c.parts.findIdx? fun p => decide (p.name = s) with
 | none => false
 | some i => decide ((c.parts[i]?.map (·.kind)) = some 1)
theorem Jve (c : Circuit) (s : Txt) (hc : Sized c) : Pure Tryz.prog GL 164 [c.av, .p (.str s)] (.p (.bool (cylB c s))) := by
 refine Pure.of_walk (N := 20) Tryz.func164 rfl rfl rfl (by simp) (by first | (simp; done) | simp [*]) ?_
 simp
 refine Jab (J56 c s hc) ?_
 rcases Ji0 c.parts (fun q => decide (q.name = s)) with ⟨h1, h2⟩ | ⟨i, x, h1, h2, h3, h4⟩
 . simp [h2, Jaa, cylB, h1]
 . obtain ⟨h5, h6⟩ := gsI.1 h3
   have h7 : (0 : Int) <= i := by omega
   simp [h2, h3, h5, h7, -getElem?_pos, List.getElem?_cons_zero, List.getElem?_cons_succ]
   simp [Jaa, cylB, h1, h3, -getElem?_pos]
def belB (c : Circuit) (s : Txt) : Bool := decide (1 < s.length) && (decide (s.getLast? = some 48) || decide (s.getLast? = some 49)) && cylB c s.dropLast
theorem J57 (c : Circuit) (s : Txt) (hc : Sized c) (hs : s.length < 4611686018427387900) : Pure Tryz.prog GL 103 [c.av, .p (.str s)] (.p (.bool (belB c s))) := by
 refine Pure.of_walk (N := 32) Tryz.func103 rfl rfl rfl (by simp) (by first | (simp; done) | simp [*]) ?_
 by_cases h : 1 < s.length
 . obtain ⟨x, e⟩ := Jae (xs := s) (k := s.length - 1) (by omega)
   have hl : s.getLast? = some x := by rw [List.getLast?_eq_getElem?]; exact e
   have h1 : (1 : Int) < s.length := by omega
   have h2 : (0 : Int) <= (s.length : Int) - 1 := by omega
   have h3 : ((s.length : Int) - 1).toNat = s.length - 1 := by omega
   have h4 : (s.length : Int) - 1 <= s.length := by omega
   have h5 : ((x.toNat : Int) = 48) ↔ x = 48 := by rw [<- UInt8.toNat_inj]; simp; omega
   have h6 : ((x.toNat : Int) = 49) ↔ x = 49 := by rw [<- UInt8.toNat_inj]; simp; omega
   simp
   refine Jak.intro (by kernel_rfl) ?_
   simp [h, h1, h2, h3, h4, e, -getElem?_pos, List.getElem?_cons_zero, List.getElem?_cons_succ]
   refine ⟨wrap_i64 (by omega) (by omega), by omega, ?_⟩
   have hd : s.take (s.length - 1) = s.dropLast := by rw [List.dropLast_eq_take]
   have h7 : (1 : Int) <= s.length := by omega
   have h8 : (s.length : Int) - 1 <= s.length := by omega
   have hcl : Sized c := hc
   by_cases e1 : x = 48
   . subst e1
     simp [h, h1]
     refine ⟨wrap_i64 (by omega) (by omega), ?_⟩
     rw [if_pos ⟨h7, h8⟩]
     simp [h3, hd]
     refine Jab (Jve c s.dropLast hc) ?_
     simp
     refine ⟨.of (by kernel_rfl), ?_⟩
     simp [Jaa, belB, h, hl]
   . have e1' : ¬ (x.toNat : Int) = 48 := fun h => e1 (h5.1 h)
     simp [e1', h, h1, h2, h3, h4, e, -getElem?_pos, List.getElem?_cons_zero, List.getElem?_cons_succ]
     refine ⟨wrap_i64 (by omega) (by omega), by omega, ?_⟩
     by_cases e2 : x = 49
     . subst e2
       simp [h, h1]
       refine ⟨wrap_i64 (by omega) (by omega), ?_⟩
       rw [if_pos ⟨h7, h8⟩]
       simp [h3, hd]
       refine Jab (Jve c s.dropLast hc) ?_
       simp
       refine ⟨.of (by kernel_rfl), ?_⟩
       simp [Jaa, belB, h, hl]
     . have e2' : ¬ (x.toNat : Int) = 49 := fun h => e2 (h6.1 h)
       simp [e2', h1]
       refine ⟨.of (by kernel_rfl), ?_⟩
       simp [Jaa, belB, h, hl, e1, e2]
 . have h1 : ¬ (1 : Int) < s.length := by omega
   simp
   refine Jak.intro (by kernel_rfl) ?_
   simp [h1]
   refine ⟨.of (by kernel_rfl), ?_⟩
   simp [Jaa, belB, h]
end Go.Am
namespace Go.Am
open Go Go.Proofs Go.Pn
theorem Jro {c : Circuit} {s : Txt} (hn : ∀ p ∈ c.parts, p.name ≠ []) : (Jd4 c s < 0) ↔ belB c s = false := by
 unfold Jd4 belB stem cylB
 by_cases h1 : s.getLast? = some 48 \/ s.getLast? = some 49
 . rw [if_pos h1]
   have h2 : (decide (s.getLast? = some 48) || decide (s.getLast? = some 49)) = true := by simpa using h1
   rw [h2, Bool.and_true]
   cases hf : c.parts.findIdx? fun p => decide (p.name = s.dropLast) with
   | none => simp [hf]
   | some i =>
     obtain ⟨h3, h4, _⟩ := List.findIdx?_eq_some_iff_getElem.1 hf
     have h5 : 1 < s.length := by
       have h6 := hn _ (List.getElem_mem h3)
       have h7 : c.parts[i].name = s.dropLast := by simpa using h4
       rw [h7] at h6
       have : s.dropLast.length ≠ 0 := fun h => h6 (List.length_eq_zero_iff.1 h)
       rw [List.length_dropLast] at this
       omega
     simp only [hf, h5, decide_true, Bool.true_and]
     by_cases h8 : (c.parts[i]?.map (·.kind)) = some 1
     . simp [h8]
     . simp [h8]
 . rw [if_neg h1]
   have h2 : (decide (s.getLast? = some 48) || decide (s.getLast? = some 49)) = false := by simpa using h1
   simp [h2]
theorem Kck {c : Circuit} (h : Jaq (partAt c) c.parts.length = 0) : ∀ p ∈ c.parts, p.name ≠ [] := by
 intro p hp he
 obtain ⟨j, hj, rfl⟩ := List.getElem_of_mem hp
 have h7 := Jfu h hj
 simp only [partAt, List.getElem?_eq_getElem hj] at h7
 have h9 : Jbt c.parts[j].name = 3 := by rw [he]; rfl
 by_cases h10 : Jas c.parts[j].kind = 0
 . have h11 : Jbb c.parts[j] = 3 := by simp [Jbb, h10, h9]
   rw [h11] at h7; simp at h7
 . have h11 : Jbb c.parts[j] ≠ 0 := by simp [Jbb, h10]
   rw [if_pos h11] at h7; exact h11 h7
theorem Jx4 {c : Circuit} (h : Jaq (partAt c) c.parts.length = 0) : Jdf c := by
 intro p hp
 obtain ⟨j, hj, rfl⟩ := List.getElem_of_mem hp
 have h7 := Jfu h hj
 simp only [partAt, List.getElem?_eq_getElem hj] at h7
 have h8 : Jas c.parts[j].kind = 0 := by
   by_cases h9 : Jas c.parts[j].kind = 0
   . exact h9
   . exfalso
     have h10 : Jbb c.parts[j] ≠ 0 := by simp [Jbb, h9]
     rw [if_pos h10] at h7
     exact h10 h7
 exact Jcw.1 h8
theorem J0n {k : Nat} {s : Txt} (hk : k < 14) : (Jc0 k s < 0) ↔ ¬ s ∈ Jao k := by
 have h1 : (Je7 k).map Jd1 = Jbs k := (by decide : ∀ k, k < 14 -> (Je7 k).map Jd1 = Jbs k) k hk
 have h2 : ∀ t, (t ∈ (Jbs k).flatten) ↔ t ∈ Jao k := by
   intro t
   rcases (by omega : k = 0 \/ k = 1 \/ k = 2 \/ k = 3 \/ k = 4 \/ k = 5 \/ k = 6 \/ k = 7 \/ k = 8 \/ k = 9 \/ k = 10 \/ k = 11 \/ k = 12 \/ k = 13) with rfl|rfl|rfl|rfl|rfl|rfl|rfl|rfl|rfl|rfl|rfl|rfl|rfl|rfl <;> simp [Jbs, Jao] <;> grind
 have h3 : (0 <= Jc0 k s) ↔ s ∈ Jao k := by
   unfold Jc0
   rw [Jhr, <- h2, <- h1]
   simp only [List.any_eq_true, decide_eq_true_eq, List.mem_flatten, List.mem_map]
   grind
 exact ⟨fun h hm => by have := h3.2 hm; omega, fun h => Int.not_le.1 fun h' => h (h3.1 h')⟩
def Jdo (c : Circuit) : Int :=
 if 64 < c.parts.length then 5 else
 if Jaq (partAt c) c.parts.length ≠ 0 then Jaq (partAt c) c.parts.length else Jaq (Jet c) c.parts.length
theorem J58 (c : Circuit) (hc : Sized c) : Pure Tryz.prog GL 52 [c.av] (.p (.int .i64 (Jdo c))) := by
 refine Pure.of_walk (N := 69) Tryz.func52 rfl rfl rfl (by simp) (by first | (simp; done) | simp [*]) ?_
 simp
 refine Jad (fun h => ?_) (fun h => ?_)
 . have h' : 64 < c.parts.length := by simp at h; omega
   have hP : Jdo c = 5 := by unfold Jdo; rw [if_pos h']
   simp [Jaa, hP]
 . have h0 : ¬ 64 < c.parts.length := by simp at h; omega
   simp
   refine Jag.go [1] [0] 0 [] (fun _ => []) (fun _ (k : Nat) => [(3, .p (.int .i64 k))]) (fun _ _ => []) (fun k => k <= c.parts.length /\ Jaq (partAt c) k = 0) (fun k => c.parts.length - k) 0 ⟨by omega, rfl⟩ ?_ ?_
   . simp
   . rintro k ⟨hk, hp⟩
     simp
     refine Jad (fun h1 => ?_) (fun h1 => ?_)
     . simp at h1
       obtain ⟨x, e⟩ := Jae h1
       have hbad : ∀ m : Int, partAt c k = m -> m ≠ 0 -> Jdo c = m := by
         intro m h2 h3
         have h4 : Jaq (partAt c) c.parts.length = m := by rw [Jgf hp h1 (by rw [h2]; exact h3), h2]
         unfold Jdo
         rw [if_neg h0, h4, if_pos h3]
       have hx : partAt c k = if Jbb x ≠ 0 then Jbb x else if 0 < k /\ ¬ Op.bytesLess ((c.parts[k - 1]?.map (·.name)).getD []) x.name = true then 9 else 0 := by simp only [partAt, e]
       simp [h1, e, -getElem?_pos, List.getElem?_cons_zero, List.getElem?_cons_succ]
       refine Jab (J5w x (by have := hc.names x (List.mem_of_getElem? e); omega)) ?_
       simp
       refine Jad (fun h2 => ?_) (fun h2 => ?_)
       . simp at h2
         have h3 := hbad (Jbb x) (by rw [hx, if_pos h2]) h2
         simp [Jaa, h3]
       . simp at h2
         rw [if_neg (by simp [h2])] at hx
         cases k with
         | zero =>
           simp
           refine Jak.intro (by kernel_rfl) ?_
           simp
           refine ⟨.of (by kernel_rfl), 0 + 1, ⟨by omega, Jdd hp (by rw [hx]; simp)⟩, by omega, ?_⟩
           simp
         | succ k =>
           obtain ⟨y, ey⟩ := Jae (xs := c.parts) (k := k) (by omega)
           have e0 : (0 : Int) < (k : Int) + 1 := by omega
           have e0' : (0 : Int) <= (k : Int) + 1 := by omega
           have e1 : (k : Int) + 1 - 1 = k := by omega
           have e2 : k < c.parts.length := by omega
           have e3 : (k : Int) + 1 < c.parts.length := by omega
           have e4 : ((k : Int) + 1).toNat = k + 1 := by omega
           simp
           refine Jak.intro (by kernel_rfl) ?_
           simp [e0, e0', e1, e2, e3, e4, e, ey, -getElem?_pos, List.getElem?_cons_zero, List.getElem?_cons_succ]
           refine ⟨wrap_i64 (by omega) (by omega), .of (by kernel_rfl), ?_⟩
           have hk1 : k + 1 - 1 = k := by omega
           rw [hk1, ey] at hx
           simp at hx
           refine Jad (fun h3 => ?_) (fun h3 => ?_)
           . have h5 : Op.bytesLess y.name x.name = false := by rw [Jmd] at h3; simpa using h3
             have h4 := hbad 9 (by rw [hx]; simp [h5]) (by decide)
             simp [Jaa, h4]
           . have h5 : Op.bytesLess y.name x.name = true := by rw [Jmd] at h3; simpa using h3
             simp [h5] at hx
             simp
             refine ⟨wrap_i64 (by omega) (by omega), k + 1 + 1, ⟨by omega, Jdd hp hx⟩, by omega, ?_⟩
             simp
     . simp at h1
       have hk2 : k = c.parts.length := by omega
       subst hk2
       have hne := Kck hp
       simp
       refine Jag.go [1] [0] 0 [] (fun _ => []) (fun _ (k : Nat) => [(5, .p (.int .i64 k))]) (fun _ _ => []) (fun k => k <= c.parts.length /\ Jaq (Jet c) k = 0) (fun k => c.parts.length - k) 0 ⟨by omega, rfl⟩ ?_ ?_
       . simp
       . rintro k ⟨hk, hp2⟩
         simp
         refine Jad (fun h1 => ?_) (fun h1 => ?_)
         . simp at h1
           obtain ⟨x, e⟩ := Jae h1
           have hx : Jet c k = if x.kind = 6 /\ Jd4 c x.name < 0 then 6 else 0 := by simp only [Jet, e]
           simp
           refine Jak.intro (by kernel_rfl) ?_
           simp [h1, e, -getElem?_pos, List.getElem?_cons_zero, List.getElem?_cons_succ]
           refine Jad (fun h2 => ?_) (fun h2 => ?_)
           . simp at h2
             simp [h2, h1, e, -getElem?_pos, List.getElem?_cons_zero, List.getElem?_cons_succ]
             refine Jab (J57 c x.name hc (hc.names x (List.mem_of_getElem? e))) ?_
             simp
             refine ⟨.of (by kernel_rfl), ?_⟩
             refine Jad (fun h3 => ?_) (fun h3 => ?_)
             . have h3' : belB c x.name = false := by simpa using h3
               rw [if_pos ⟨h2, (Jro hne).2 h3'⟩] at hx
               have hP : Jdo c = 6 := by unfold Jdo; rw [if_neg h0, hp, Jgf hp2 h1 (by rw [hx]; decide), hx]; simp
               simp [Jaa, hP]
             . have h3' : ¬ Jd4 c x.name < 0 := fun h => by have := (Jro hne).1 h; simp [this] at h3
               rw [if_neg (fun h => h3' h.2)] at hx
               simp
               refine ⟨wrap_i64 (by omega) (by omega), k + 1, ⟨by omega, Jdd hp2 hx⟩, by omega, ?_⟩
               simp
           . simp at h2
             rw [if_neg (by simp [h2])] at hx
             simp [h2]
             refine ⟨.of (by kernel_rfl), wrap_i64 (by omega) (by omega), k + 1, ⟨by omega, Jdd hp2 hx⟩, by omega, ?_⟩
             simp
         . simp at h1
           have hk2 : k = c.parts.length := by omega
           subst hk2
           have hP : Jdo c = 0 := by unfold Jdo; rw [if_neg h0, hp, hp2]; simp
           simp [Jaa, hP]
theorem Jvf (c : Circuit) (p : Port) (hk : Jdf c) : Pure Tryz.prog GL 104 [c.av, p.av] (.tup [.p (.int .i64 (Jbi c p)), .p (.int .i64 (if Jbi c p = 0 then Jbw c p else 0))]) := by
 refine Pure.of_walk (N := 28) Tryz.func104 rfl rfl rfl (by simp) (by first | (simp; done) | simp [*]) ?_
 by_cases hb : p.part < 0 \/ (c.parts.length : Int) <= p.part
 . have h2 : Jbi c p = 2 := if_pos hb
   simp
   repeat' (first | (apply Jad <;> intro hq <;> (try simp at hq) <;> (try simp [hq])) | (apply Jfl <;> intro hq <;> (try simp at hq) <;> (try simp [hq])))
   all_goals (try simp [Jaa, h2])
   all_goals omega
 . have h2 : Jbi c p = 0 := if_neg hb
   have h4 : ¬ p.part < 0 := by omega
   have h4' : 0 <= p.part := by omega
   have h5 : ¬ (c.parts.length : Int) <= p.part := by omega
   have h5' : p.part < (c.parts.length : Int) := by omega
   obtain ⟨x, e⟩ := Jae (xs := c.parts) (k := p.part.toNat) (by omega)
   have hx := hk x (List.mem_of_getElem? e)
   have hn : Jbw c p = if p.name ∈ Jbq x then 0 else 6 := by simp only [Jbw, e]
   simp [h4, h5]
   refine Jak.intro (by kernel_rfl) ?_
   simp [h4', h5', e, -getElem?_pos, List.getElem?_cons_zero, List.getElem?_cons_succ]
   have hk3 : x.kind = (x.kind.toNat : Int) := by omega
   rw [hk3]
   refine Jab (J5y x.kind.toNat p.name (by omega)) ?_
   simp
   refine ⟨.of (by kernel_rfl), ?_⟩
   have hpl := J0n (k := x.kind.toNat) (s := p.name) (by omega)
   refine Jad (fun h6 => ?_) (fun h6 => ?_)
   . simp at h6
     have h7 : ¬ p.name ∈ Jbq x := hpl.1 h6
     simp [Jaa, h2, hn, h7]
   . simp at h6
     have h7 : p.name ∈ Jbq x := by
       by_cases h8 : p.name ∈ Jbq x
       . exact h8
       . have := hpl.2 h8; omega
     simp [Jaa, h2, hn, h7]
end Go.Am
namespace Go.Am
open Go Go.Proofs Go.Pn
theorem Jiq {a b : Port} : (Jcd a b < 0) ↔ Ja3 a b = true := by
 unfold Jcd Ja3 cmpI
 by_cases h : a.part = b.part
 . simp [orI, h]
   by_cases h2 : Lib.compareBytes a.name b.name = 0
   . have := Jio.1 h2
     have h3 := (Jio (a := b.name) (b := b.name)).2 rfl
     simp [this, Jdu, h3]
   . simp [h2, Jvw]
 . by_cases h2 : a.part < b.part
   . simp [orI, h, h2]
   . have h3 : b.part < a.part := by omega
     simp [orI, h, h2, h3]
theorem Jip {a b : Port} : Jcd a b = 0 ↔ a = b := by
 unfold Jcd cmpI
 by_cases h : a.part = b.part
 . simp [orI, h]
   by_cases h2 : Lib.compareBytes a.name b.name = 0
   . have h3 := Jio.1 h2
     cases a; cases b
     simp at h h3
     simp [h, h3, Jio.2]
   . have h3 : a.name ≠ b.name := fun e => h2 (Jio.2 e)
     have : a ≠ b := fun e => h3 (by rw [e])
     simp [h2, this]
 . have : a ≠ b := fun e => h (by rw [e])
   by_cases h2 : a.part < b.part
   . simp [orI, h2, this]
   . have h3 : b.part < a.part := by omega
     simp [orI, h2, h3, this]
theorem Jp3 {a b : Pipe} : (Jfr a b < 0) ↔ Je4 a b = true := by
 unfold Jfr Je4
 by_cases h : a.fr = b.fr
 . have h1 : Jcd a.fr b.fr = 0 := Jip.2 h
   have h0 : Jcd b.fr b.fr = 0 := Jip.2 rfl
   simp only [orI, h, h0, if_true]
   by_cases h2 : Jcd a.to b.to = 0
   . have h3 := Jip.1 h2
     have h4 : ¬ Ja3 a.to b.to = true := fun h => by have := Jiq.2 h; omega
     simp [h2, h4]
   . simp [h2, Jiq]
 . have h1 : Jcd a.fr b.fr ≠ 0 := fun e => h (Jip.1 e)
   simp [orI, h1, h, Jiq]
theorem Kfv {c : Circuit} {a b : Port} : Je6 c [a, b] = if Jbi c a ≠ 0 then Jbi c a else Jbi c b := by
 simp [Je6, Jaq, Jef]
theorem Kcd {c : Circuit} {a b : Port} : Jff c [a, b] = if Jbw c a ≠ 0 then Jbw c a else Jbw c b := by
 simp [Jff, Jaq, Jef]
theorem Joa {c : Circuit} {a : Port} : Jbi c a = 0 \/ Jbi c a = 2 := by unfold Jbi; split <;> simp
theorem Jy4 {c : Circuit} {a : Port} : Jbw c a = 0 \/ Jbw c a = 6 := by unfold Jbw; split <;> (try split) <;> simp
theorem J59 (c : Circuit) (x : Pipe) (hk : Jdf c) : Pure Tryz.prog GL 53 [c.av, x.av] (.p (.int .i64 (Jd6 c x))) := by
 refine Pure.of_walk (N := 41) Tryz.func53 rfl rfl rfl (by simp) (by first | (simp; done) | simp [*]) ?_
 simp
 refine Jab (Jvf c x.fr hk) ?_
 simp
 refine Jab (Jvf c x.to hk) ?_
 have hp : Jd6 c x = if Jbi c x.fr ≠ 0 \/ Jbi c x.to ≠ 0 then 2 else if Jbw c x.fr ≠ 0 \/ Jbw c x.to ≠ 0 then 6 else if Ja3 x.fr x.to = true then 0 else 9 := by
   have h1 := Joa (c := c) (a := x.fr)
   have h2 := Joa (c := c) (a := x.to)
   have h3 := Jy4 (c := c) (a := x.fr)
   have h4 := Jy4 (c := c) (a := x.to)
   have h5 := Jiq (a := x.fr) (b := x.to)
   unfold Jd6
   rw [Kfv, Kcd]
   grind
 have h1 := Joa (c := c) (a := x.fr)
 have h2 := Joa (c := c) (a := x.to)
 generalize Jbi c x.fr = r1 at *
 generalize Jbi c x.to = r2 at *
 generalize Jbw c x.fr = n1 at *
 generalize Jbw c x.to = n2 at *
 rcases h1 with rfl | rfl
 . rcases h2 with rfl | rfl
   . by_cases h3 : n1 = 0
     . by_cases h4 : n2 = 0
       . simp [h3, h4]
         refine Jab (Jpx x.fr x.to) ?_
         simp
         cases h5 : Ja3 x.fr x.to with
         | true => simp [Jaa, hp, h3, h4, h5]
         | false => simp [Jaa, hp, h3, h4, h5]
       . simp [Jaa, h3, h4, hp]
     . simp [Jaa, h3, hp]
   . simp [Jaa, hp]
 . simp [Jaa, hp]
theorem J53 (c : Circuit) (hc : Sized c) : Pure Tryz.prog GL 19 [c.av] (.p (.int .i64 (Jac c))) := by
 refine Pure.of_walk (N := 49) Tryz.func19 rfl rfl rfl (by simp) (by first | (simp; done) | simp [*]) ?_
 simp
 refine Jab (J58 c hc) ?_
 simp
 refine Jad (fun h => ?_) (fun h => ?_)
 . have hP : Jac c = Jdo c := by
     simp at h
     unfold Jac Jdo at *
     grind
   simp [Jaa, hP]
 . have hn : Jdo c = 0 := by simpa using h
   have h0 : ¬ 64 < c.parts.length := by intro h0; unfold Jdo at hn; rw [if_pos h0] at hn; simp at hn
   have hp : Jaq (partAt c) c.parts.length = 0 := by unfold Jdo at hn; grind
   have hp2 : Jaq (Jet c) c.parts.length = 0 := by unfold Jdo at hn; grind
   have hkinds := Jx4 hp
   simp
   refine Jad (fun h3 => ?_) (fun h3 => ?_)
   . have h3' : 256 < c.pipes.length := by simp at h3; omega
     have hP : Jac c = 5 := by unfold Jac; rw [if_neg h0, hp, hp2]; simp [h3']
     simp [Jaa, hP]
   . have h3' : ¬ 256 < c.pipes.length := by simp at h3; omega
     simp
     refine Jag.go [1] [0] 0 [] (fun _ => []) (fun _ (k : Nat) => [(4, .p (.int .i64 k))]) (fun _ _ => []) (fun k => k <= c.pipes.length /\ Jaq (Jb7 c) k = 0) (fun k => c.pipes.length - k) 0 ⟨by omega, rfl⟩ ?_ ?_
     . simp
     . rintro k ⟨hk, hp3⟩
       simp
       refine Jad (fun h1 => ?_) (fun h1 => ?_)
       . simp at h1
         obtain ⟨x, e⟩ := Jae h1
         have hbad : ∀ m : Int, Jb7 c k = m -> m ≠ 0 -> Jac c = m := by
           intro m h2 h3
           have h4 : Jaq (Jb7 c) c.pipes.length = m := by rw [Jgf hp3 h1 (by rw [h2]; exact h3), h2]
           unfold Jac
           rw [if_neg h0, hp, hp2, h4]
           simp [h3']
         have hx : ∀ m, Jd6 c x = m -> m ≠ 0 -> Jb7 c k = m := by
           intro m h2 h3
           simp only [Jb7, e]
           rw [if_pos (by rw [h2]; exact h3), h2]
         simp
         refine Jak.intro (by kernel_rfl) ?_
         simp [h1, e, -getElem?_pos, List.getElem?_cons_zero, List.getElem?_cons_succ]
         refine Jab (J59 c x hkinds) ?_
         simp
         refine ⟨.of (by kernel_rfl), ?_⟩
         refine Jad (fun h4 => ?_) (fun h4 => ?_)
         . simp at h4
           have h5 := hbad _ (hx _ rfl h4) h4
           simp [Jaa, h5]
         . have hp0 : Jd6 c x = 0 := by simpa using h4
           cases k with
           | zero =>
             simp
             refine Jak.intro (by kernel_rfl) ?_
             simp
             refine ⟨.of (by kernel_rfl), 0 + 1, ⟨by omega, Jdd hp3 (by simp [Jb7, e, hp0, -getElem?_pos])⟩, by omega, ?_⟩
             simp
           | succ k =>
             obtain ⟨y, ey⟩ := Jae (xs := c.pipes) (k := k) (by omega)
             have e0 : (0 : Int) < (k : Int) + 1 := by omega
             have e0' : (0 : Int) <= (k : Int) + 1 := by omega
             have e1 : (k : Int) + 1 - 1 = k := by omega
             have e2 : k < c.pipes.length := by omega
             have e3 : (k : Int) + 1 < c.pipes.length := by omega
             have e4 : ((k : Int) + 1).toNat = k + 1 := by omega
             have hq : Jb7 c (k + 1) = if 0 <= Jfr y x then 9 else 0 := by
               have hk1 : k + 1 - 1 = k := by omega
               simp only [Jb7, e, hp0, hk1, ey]
               simp
             simp
             refine Jak.intro (by kernel_rfl) ?_
             simp [e0, e0', e1, e2, e3, e4, e, ey, -getElem?_pos, List.getElem?_cons_zero, List.getElem?_cons_succ]
             refine ⟨wrap_i64 (by omega) (by omega), ?_⟩
             refine Jab (J54 y x) ?_
             simp
             refine ⟨.of (by kernel_rfl), ?_⟩
             refine Jad (fun h8 => ?_) (fun h8 => ?_)
             . have h8' : 0 <= Jfr y x := by
                 have := Jp3 (a := y) (b := x)
                 simp at h8
                 rw [h8] at this
                 simp at this
                 exact this
               have h9 := hbad 9 (by rw [hq, if_pos h8']) (by decide)
               simp [Jaa, h9]
             . have h8' : Jfr y x < 0 := Jp3.2 (by simpa using h8)
               simp
               refine ⟨wrap_i64 (by omega) (by omega), k + 1 + 1, ⟨by omega, Jdd hp3 (by rw [hq, if_neg (by omega)])⟩, by omega, ?_⟩
               simp
       . simp at h1
         have hk2 : k = c.pipes.length := by omega
         subst hk2
         have hP : Jac c = 0 := by unfold Jac; rw [if_neg h0, hp, hp2, hp3]; simp [h3']
         simp [Jaa, hP]
theorem Ja8 {c : Circuit} (h : Jac c = 0) : Jdf c /\ c.parts.length <= 64 /\ c.pipes.length <= 256 := by
 have h0 : ¬ 64 < c.parts.length := by intro h0; unfold Jac at h; rw [if_pos h0] at h; simp at h
 have hp : Jaq (partAt c) c.parts.length = 0 := by unfold Jac at h; grind
 have hp2 : ¬ 256 < c.pipes.length := by intro h1; unfold Jac at h; grind
 exact ⟨Jx4 hp, by omega, by omega⟩
end Go.Am
namespace Go.Am
open Go Go.Proofs Go.Pn
theorem Jun (c : Circuit) (hc : Sized c) : Pure Tryz.prog GL 75 [c.av] (.tup [.p (.lst 2 ((if Jac c ≠ 0 then [] else allP c).map Port.enc)), .p (.int .i64 (Jac c))]) := by
 refine Pure.of_walk (N := 12) Tryz.func75 rfl rfl rfl (by simp) (by first | (simp; done) | simp [*]) ?_
 simp
 refine Jab (Jgr c hc) ?_
 by_cases h : Jac c = 0
 . simp [h]
   refine Jab (Juo c (Ja8 h).1 (by have := (Ja8 h).2.1; omega)) ?_
   simp [Jaa, h]
 . simp [h, Jaa]
@[simp] theorem Kj5 {l : List Port} : Ports.enc l = [.lst 2 (l.map Port.enc)] := rfl
end Go.Am
namespace Go.Am
open Go Go.Proofs Go.Pn
def Jcb (a : List Port × Bool) (x : Pipe) : List Port × Bool :=
 let a := if x.fr ∈ a.1 /\ ¬ x.to ∈ a.1 then (a.1 ++ [x.to], true) else a
 if x.to ∈ a.1 /\ ¬ x.fr ∈ a.1 then (a.1 ++ [x.fr], true) else a
def Jec (c : Circuit) (l : List Port) : List Port × Bool := c.pipes.foldl Jcb (l, false)
def Jbc (c : Circuit) (l : List Port) : Nat -> List Port
 | 0 => l
 | n + 1 => (Jec c (Jbc c l n)).1
def closure (c : Circuit) (p : Port) : List Port := Jbc c [p] (2 * c.pipes.length + 2)
def around (c : Circuit) (p : Port) : List Port := (allP c).filter fun q => decide (q ∈ closure c p)
def Jqf (c : Circuit) : List Port := c.pipes.flatMap fun x => [x.fr, x.to]
theorem Jtv {a : List Port × Bool} {x : Pipe} : ∃ e, (Jcb a x).1 = a.1 ++ e /\ (∀ q ∈ e, q = x.fr \/ q = x.to) /\ (a.1.Nodup -> (a.1 ++ e).Nodup) /\ ((Jcb a x).2 = false -> e = [] /\ a.2 = false) /\ ((Jcb a x).2 = true -> a.2 = true \/ e ≠ []) /\ (a.2 = true -> (Jcb a x).2 = true) := by
 obtain ⟨l, m⟩ := a
 unfold Jcb
 by_cases h1 : x.fr ∈ l /\ ¬ x.to ∈ l
 . simp only [h1, not_false_eq_true, and_self, if_true]
   have h2 : ¬ (x.to ∈ l ++ [x.to] /\ ¬ x.fr ∈ l ++ [x.to]) := fun h => h.2 (by simp [h1.1])
   rw [if_neg h2]
   refine ⟨[x.to], rfl, by simp, fun hn => ?_, by simp, by simp, by simp⟩
   rw [List.nodup_append]
   exact ⟨hn, by simp, fun a ha b hb => by simp at hb; subst hb; rintro rfl; exact h1.2 ha⟩
 . rw [if_neg h1]
   by_cases h2 : x.to ∈ l /\ ¬ x.fr ∈ l
   . rw [if_pos h2]
     refine ⟨[x.fr], rfl, by simp, fun hn => ?_, by simp, by simp, by simp⟩
     rw [List.nodup_append]
     exact ⟨hn, by simp, fun a ha b hb => by simp at hb; subst hb; rintro rfl; exact h2.2 ha⟩
   . rw [if_neg h2]
     exact ⟨[], by simp, by simp, by simp, by simp, by simp, by simp⟩
theorem Jkg : ∀ {ps : List Pipe} {a : List Port × Bool}, ∃ e, (ps.foldl Jcb a).1 = a.1 ++ e /\ (∀ q ∈ e, q ∈ ps.flatMap fun x => [x.fr, x.to]) /\ (a.1.Nodup -> (a.1 ++ e).Nodup) /\ ((ps.foldl Jcb a).2 = false -> e = [] /\ a.2 = false) /\ ((ps.foldl Jcb a).2 = true -> a.2 = true \/ e ≠ []) /\ (a.2 = true -> (ps.foldl Jcb a).2 = true)
 | [], a => ⟨[], by simp, by simp, by simp, by simp, by simp, by simp⟩
 | x :: ps, a => by
   obtain ⟨e1, h1, h2, h3, h4, h5, h6⟩ := Jtv (a := a) (x := x)
   obtain ⟨e2, k1, k2, k3, k4, k5, k6⟩ := Jkg (ps := ps) (a := Jcb a x)
   refine ⟨e1 ++ e2, by rw [List.foldl_cons, k1, h1, List.append_assoc], fun q hq => ?_, fun hn => ?_, fun h => ?_, fun h => ?_, fun h => ?_⟩
   . rcases List.mem_append.1 hq with hq | hq
     . have := h2 q hq; simp; grind
     . have := k2 q hq; simp at this ⊢; grind
   . rw [<- List.append_assoc, <- h1]; exact k3 (by rw [h1]; exact h3 hn)
   . obtain ⟨r1, r2⟩ := k4 h
     obtain ⟨r3, r4⟩ := h4 r2
     exact ⟨by rw [r1, r3]; rfl, r4⟩
   . rcases k5 h with r | r
     . rcases h5 r with r | r
       . exact .inl r
       . exact .inr (by simp [r])
     . exact .inr (by simp [r])
   . exact k6 (h6 h)
theorem J7x {c : Circuit} : (Jqf c).length = 2 * c.pipes.length := by
 unfold Jqf
 induction c.pipes with
 | nil => rfl
 | cons x xs ih => simp [List.flatMap_cons, ih]; omega
theorem Jnx {α : Type} [DecidableEq α] : ∀ {l m : List α}, l.Nodup -> (∀ x ∈ l, x ∈ m) -> l.length <= m.length
 | [], m, _, _ => by simp
 | x :: l, m, hn, h => by
   have h1 := List.nodup_cons.1 hn
   have h2 := Jnx (l := l) (m := m.erase x) h1.2 fun y hy => (List.mem_erase_of_ne (by rintro rfl; exact h1.1 hy)).2 (h y (by simp [hy]))
   have h3 := List.length_erase_of_mem (h x (by simp))
   have h4 := List.length_pos_of_mem (h x (by simp))
   simp only [List.length_cons]
   omega
structure ArInv (c : Circuit) (p : Port) (j : Nat) (l : List Port) : Prop where
 it : l = Jbc c [p] j
 nodup : l.Nodup
 sub : ∀ q ∈ l, q ∈ p :: Jqf c
theorem ArInv.le {c : Circuit} {p : Port} {j : Nat} {l : List Port} (h : ArInv c p j l) : l.length <= 2 * c.pipes.length + 1 := by
 have := Jnx h.nodup h.sub
 simp [J7x] at this
 exact this
theorem ArInv.next {c : Circuit} {p : Port} {j : Nat} {l : List Port} (h : ArInv c p j l) : ArInv c p (j + 1) (Jec c l).1 /\ ((Jec c l).2 = true -> l.length < (Jec c l).1.length) /\ ((Jec c l).2 = false -> (Jec c l).1 = l) := by
 obtain ⟨e, h1, h2, h3, h4, h5, _⟩ := Jkg (ps := c.pipes) (a := (l, false))
 have h1' : (Jec c l).1 = l ++ e := h1
 refine ⟨⟨by rw [Jbc, <- h.it], by rw [h1']; exact h3 h.nodup, fun q hq => ?_⟩, fun hm => ?_, fun hm => ?_⟩
 . rw [h1'] at hq
   rcases List.mem_append.1 hq with hq | hq
   . exact h.sub q hq
   . exact List.mem_cons_of_mem _ (h2 q hq)
 . rw [h1']
   rcases h5 hm with r | r
   . cases r
   . have := List.length_pos_iff.2 r
     simp; omega
 . rw [h1', (h4 hm).1]; simp
theorem J3o {c : Circuit} {l : List Port} {j : Nat} (h : (Jec c (Jbc c l j)).1 = Jbc c l j) : ∀ m, j <= m -> Jbc c l m = Jbc c l j := by
 intro m hm
 obtain ⟨d, rfl⟩ := Nat.exists_eq_add_of_le hm
 induction d with
 | zero => rfl
 | succ d ih => rw [<- Nat.add_assoc, Jbc, ih (by omega), h]
@[simp] theorem Klf {l : List Txt} : unpR (l.map Txt.row) = some (l.map Txt.enc) := Jow (f := Txt.row) (g := Txt.enc) (fun _ => rfl) l
end Go.Am
