/- Lemmas and contracts for the proof of a statement of this seat. -/
import Derived.Test.YtmfjjncfdpejiaaGreatDoorZC3
set_option linter.unusedVariables false
set_option linter.unusedSimpArgs false
namespace Go.Am
open Go Go.Proofs Go.Pn
theorem Jx2 (l : List Txt) : Pure Tryz.prog GL 248 [.p (.lst 1 (l.map Txt.enc))] (Jo0 l) := by
 refine Pure.of_walk (N := 4) Tryz.func248 rfl rfl rfl (by simp) (by first | (simp; done) | simp [*]) ?_
 simp
 simp [Jaa]
theorem Jx1 (l : List Txt) (h0 : l ≠ []) (hl : l.length <= 12) : Pure Tryz.prog GL 247 [Jo0 l] (.p (.lst 1 ((Jdi l).map Txt.enc))) := by
 refine Pure.of_walk (N := 9) Tryz.func247 rfl rfl rfl (by simp) (by first | (simp; done) | simp [*]) ?_
 simp
 refine Ja7 (J1c l _ _ h0 (by omega)) ?_
 simp
 refine Ja7 (Jrs _ _ _ 0 none (by omega) (by simp [get]) hl) ?_
 simp [Jaa, Jnr]
 rw [List.take_of_length_le (by simp [Jnr])]
 rfl
theorem Jnw {k : Nat} (h : k < 14) : Jdi (Jbr k) = Jbr k /\ Jbr k ≠ [] /\ (Jbr k).length <= 12 := (by decide : ∀ k, k < 14 -> Jdi (Jbr k) = Jbr k /\ Jbr k ≠ [] /\ (Jbr k).length <= 12) k h
theorem Jqa (p : Part) (hk : 0 <= p.kind /\ p.kind < 14) : Pure Tryz.prog GL 180 [p.av] (.p (.lst 1 ((Jbg p).map Txt.enc))) := by
 refine Pure.of_walk (N := 14) Tryz.func180 rfl rfl rfl (by simp) (by first | (simp; done) | simp [*]) ?_
 have h4 : p.kind.toNat < 14 := by omega
 obtain ⟨h1, h2, h3⟩ := Jnw h4
 simp
 refine Jab (Jyu p.kind) ?_
 simp [Jfd.2 hk]
 refine Jab (Jx2 (Jbr p.kind.toNat)) ?_
 simp
 refine Jab (Jx1 (Jbr p.kind.toNat) h2 h3) ?_
 simp [Jaa, Jbg, h1]
def J9k (c : Circuit) (p : Port) : Int := if p.part < 0 \/ (c.parts.length : Int) <= p.part then 2 else match c.parts[p.part.toNat]? with
 | some x => if p.name ∈ Jbg x then 0 else 6
 | none => 2
def Jbk (c : Circuit) (p : Port) : Int := if p.part < 0 \/ (c.parts.length : Int) <= p.part then 2 else 0
def Jbx (c : Circuit) (p : Port) : Int := match c.parts[p.part.toNat]? with
 | some x => if p.name ∈ Jbg x then 0 else 6
 | none => 0
def Jat (f : Nat -> Int) : Nat -> Int
 | 0 => 0
 | n + 1 => if Jat f n ≠ 0 then Jat f n else f n
theorem Jfw {f : Nat -> Int} {k n : Nat} (h : Jat f k = 0) (hk : k < n) (hf : f k ≠ 0) : Jat f n = f k := by
 induction n with
 | zero => omega
 | succ n ih =>
   by_cases e : k = n
   . subst e; simp [Jat, h]
   . have := ih (by omega)
     simp [Jat, this, hf]
theorem Jdh {f : Nat -> Int} {k : Nat} (h : Jat f k = 0) (hf : f k = 0) : Jat f (k + 1) = 0 := by simp [Jat, h, hf]
theorem Jfa {f : Nat -> Int} : ∀ {n : Nat}, Jat f n = 0 -> ∀ {k : Nat}, k < n -> f k = 0
 | 0, _, k, hk => by omega
 | n + 1, h, k, hk => by
   simp only [Jat] at h
   split at h
   . rename_i h1; exact absurd h h1
   . rename_i h1
     by_cases e : k = n
     . subst e; exact h
     . exact Jfa (by simpa using h1) (by omega)
def Jej {α : Type} (xs : List α) (f : α -> Int) (k : Nat) : Int := match xs[k]? with | some x => f x | none => 0
def Je3 (c : Circuit) (l : List Port) : Int := Jat (Jej l (Jbk c)) l.length
def Jff (c : Circuit) (l : List Port) : Int := Jat (Jej l (Jbx c)) l.length
theorem Jx7 (c : Circuit) (l : List Port) (hc : Sized c) (hl : l.length < 1000000) : Pure Tryz.prog GL 104 [c.av, .p (.lst 2 (l.map Port.enc))] (.p (.int .i64 (Je3 c l))) := by
 refine Pure.of_walk (N := 25) Tryz.func104 rfl rfl rfl (by simp) (by first | (simp; done) | simp [*]) ?_
 simp
 refine Jam.go [2, 7, 8] [0] 0 [] (fun _ => []) (fun _ (k : Nat) => [(9, .p (.int .i64 k))]) (fun _ _ => []) (fun k => k <= l.length /\ Jat (Jej l (Jbk c)) k = 0) (fun k => l.length - k) 0 ⟨by omega, rfl⟩ ?_ ?_
 . simp
 . rintro k ⟨hk, hp⟩
   simp
   refine Jac (fun h => ?_) (fun h => ?_)
   . simp at h
     obtain ⟨x, e⟩ := Jah h
     have hx : Jej l (Jbk c) k = Jbk c x := by simp [Jej, e, -getElem?_pos]
     by_cases hb : x.part < 0 \/ (c.parts.length : Int) <= x.part
     . have h2 : Jbk c x = 2 := if_pos hb
       have h3 : Je3 c l = 2 := by rw [Je3, Jfw hp h (by rw [hx, h2]; decide), hx, h2]
       simp [h, e, -getElem?_pos, List.getElem?_cons_zero, List.getElem?_cons_succ]
       repeat' (first | (apply Jac <;> intro hq <;> (try simp at hq) <;> (try simp [hq])) | (apply Jep <;> intro hq <;> (try simp at hq) <;> (try simp [hq])))
       all_goals (try simp [Jaa, h3])
       all_goals omega
     . have h2 : Jbk c x = 0 := if_neg hb
       have h4 : ¬ x.part < 0 := by omega
       have h5 : ¬ (c.parts.length : Int) <= x.part := by omega
       simp [h, e, h4, h5, -getElem?_pos, List.getElem?_cons_zero, List.getElem?_cons_succ]
       refine ⟨wrap_i64 (by omega) (by omega), k + 1, ⟨by omega, Jdh hp (by rw [hx, h2])⟩, by omega, ?_⟩
       simp
   . simp at h
     have hk2 : k = l.length := by omega
     subst hk2
     simp [Jaa, Je3, hp]
theorem Jx5 (c : Circuit) (l : List Port) (hc : Sized c) (hl : l.length < 1000000) (hk : ∀ p ∈ c.parts, 0 <= p.kind /\ p.kind < 14) (hr : ∀ p ∈ l, 0 <= p.part /\ p.part < c.parts.length) : Pure Tryz.prog GL 105 [c.av, .p (.lst 2 (l.map Port.enc))] (.p (.int .i64 (Jff c l))) := by
 refine Pure.of_walk (N := 25) Tryz.func105 rfl rfl rfl (by simp) (by first | (simp; done) | simp [*]) ?_
 simp
 refine Jam.go [2, 7, 8] [0] 0 [] (fun _ => []) (fun _ (k : Nat) => [(9, .p (.int .i64 k))]) (fun _ _ => []) (fun k => k <= l.length /\ Jat (Jej l (Jbx c)) k = 0) (fun k => l.length - k) 0 ⟨by omega, rfl⟩ ?_ ?_
 . simp
 . rintro k ⟨hk1, hp⟩
   simp
   refine Jac (fun h => ?_) (fun h => ?_)
   . simp at h
     obtain ⟨x, e⟩ := Jah h
     have hx : Jej l (Jbx c) k = Jbx c x := by simp [Jej, e, -getElem?_pos]
     obtain ⟨hr1, hr2⟩ := hr x (List.mem_of_getElem? e)
     obtain ⟨y, ey⟩ := Jah (xs := c.parts) (k := x.part.toNat) (by omega)
     simp [h, e, -getElem?_pos, List.getElem?_cons_zero, List.getElem?_cons_succ]
     refine Jaj.intro (by kernel_rfl) ?_
     simp [hr1, hr2, ey, -getElem?_pos, List.getElem?_cons_zero, List.getElem?_cons_succ]
     refine Jab (Jqa y (hk y (List.mem_of_getElem? ey))) ?_
     simp
     have hlen : (Jbg y).length < 1000000 := by
       have h5 := (hk y (List.mem_of_getElem? ey))
       have h6 := (Jnw (k := y.kind.toNat) (by omega)).2.2
       simp only [Jbg]; omega
     refine Jab (Jp8 (Jbg y) x.name (by omega)) ?_
     simp
     refine ⟨.of (by kernel_rfl), ?_⟩
     have hn : Jbx c x = if x.name ∈ Jbg y then 0 else 6 := by simp [Jbx, ey, -getElem?_pos]
     refine Jac (fun h2 => ?_) (fun h2 => ?_)
     . simp at h2
       have h3 : Jff c l = 6 := by rw [Jff, Jfw hp h (by rw [hx, hn, if_neg h2]; decide), hx, hn, if_neg h2]
       simp [Jaa, h3]
     . simp at h2
       simp
       refine ⟨wrap_i64 (by omega) (by omega), k + 1, ⟨by omega, Jdh hp (by rw [hx, hn, if_pos h2])⟩, by omega, ?_⟩
       simp
   . simp at h
     have hk2 : k = l.length := by omega
     subst hk2
     simp [Jaa, Jff, hp]
end Go.Am
namespace Go.Am
open Go Go.Proofs Go.Pn
def partAt (c : Circuit) (k : Nat) : Int := match c.parts[k]? with
 | some p => if Ja0 p ≠ 0 then Ja0 p else if 0 < k /\ ¬ Op.bytesLess ((c.parts[k - 1]?.map (·.name)).getD []) p.name = true then 9 else 0
 | none => 0
def Jd9 (c : Circuit) (k : Nat) : Int := match c.parts[k]? with
 | some p => if p.kind = 6 /\ Jds c p.name < 0 then 6 else 0
 | none => 0
def Jc9 (c : Circuit) (x : Pipe) : Int := if Je3 c [x.fr, x.to] ≠ 0 then Je3 c [x.fr, x.to] else if Jff c [x.fr, x.to] ≠ 0 then Jff c [x.fr, x.to] else if 0 <= Jco x.fr x.to then 9 else 0
def Jcb (c : Circuit) (k : Nat) : Int := match c.pipes[k]? with
 | some x => if Jc9 c x ≠ 0 then Jc9 c x else match k, c.pipes[k - 1]? with
   | _ + 1, some y => if 0 <= Jev y x then 9 else 0
   | _, _ => 0
 | none => 0
def Jad (c : Circuit) : Int :=
 if 64 < c.parts.length then 5 else
 if Jat (partAt c) c.parts.length ≠ 0 then Jat (partAt c) c.parts.length else
 if Jat (Jd9 c) c.parts.length ≠ 0 then Jat (Jd9 c) c.parts.length else
 if 256 < c.pipes.length then 5 else Jat (Jcb c) c.pipes.length
theorem J5q {c : Circuit} {a b : Port} (h : Je3 c [a, b] = 0) : ∀ p ∈ [a, b], 0 <= p.part /\ p.part < c.parts.length := by
 have h1 := Jfa (n := 2) h (k := 0) (by omega)
 have h2 := Jfa (n := 2) h (k := 1) (by omega)
 simp [Jej, Jbk] at h1 h2
 intro p hp
 simp at hp
 rcases hp with rfl | rfl <;> omega
theorem Jeu (c : Circuit) (hc : Sized c) : Pure Tryz.prog GL 71 [c.av] (.p (.int .i64 (Jad c))) := by
 refine Pure.of_walk (N := 115) Tryz.func71 rfl rfl rfl (by simp) (by first | (simp; done) | simp [*]) ?_
 simp
 refine Jac (fun h => ?_) (fun h => ?_)
 . have h' : 64 < c.parts.length := by simp at h; omega
   have hP : Jad c = 5 := by unfold Jad; rw [if_pos h']
   simp [Jaa, hP]
 . have h0 : ¬ 64 < c.parts.length := by simp at h; omega
   simp
   refine Jam.go [1, 17, 18] [0] 0 [] (fun _ => []) (fun _ (k : Nat) => [(19, .p (.int .i64 k))]) (fun _ _ => []) (fun k => k <= c.parts.length /\ Jat (partAt c) k = 0) (fun k => c.parts.length - k) 0 ⟨by omega, rfl⟩ ?_ ?_
   . simp
   . rintro k ⟨hk, hp⟩
     simp
     refine Jac (fun h1 => ?_) (fun h1 => ?_)
     . simp at h1
       obtain ⟨x, e⟩ := Jah h1
       have hbad : ∀ m : Int, partAt c k = m -> m ≠ 0 -> Jad c = m := by
         intro m h2 h3
         have h4 : Jat (partAt c) c.parts.length = m := by rw [Jfw hp h1 (by rw [h2]; exact h3), h2]
         unfold Jad
         rw [if_neg h0, h4, if_pos h3]
       have hx : partAt c k = if Ja0 x ≠ 0 then Ja0 x else if 0 < k /\ ¬ Op.bytesLess ((c.parts[k - 1]?.map (·.name)).getD []) x.name = true then 9 else 0 := by simp only [partAt, e]
       simp [h1, e, -getElem?_pos, List.getElem?_cons_zero, List.getElem?_cons_succ]
       refine Jab (Jmx x (by have := hc.names x (List.mem_of_getElem? e); omega)) ?_
       simp
       refine Jac (fun h2 => ?_) (fun h2 => ?_)
       . simp at h2
         have h3 := hbad (Ja0 x) (by rw [hx, if_pos h2]) h2
         simp [Jaa, h3]
       . simp at h2
         rw [if_neg (by simp [h2])] at hx
         cases k with
         | zero =>
           simp
           refine Jaj.intro (by kernel_rfl) ?_
           simp
           refine ⟨.of (by kernel_rfl), 0 + 1, ⟨by omega, Jdh hp (by rw [hx]; simp)⟩, by omega, ?_⟩
           simp
         | succ k =>
           obtain ⟨y, ey⟩ := Jah (xs := c.parts) (k := k) (by omega)
           have e0 : (0 : Int) < (k : Int) + 1 := by omega
           have e1 : (k : Int) + 1 - 1 = k := by omega
           have e2 : k < c.parts.length := by omega
           simp
           refine Jaj.intro (by kernel_rfl) ?_
           simp [e0, e1, e2, ey, -getElem?_pos, List.getElem?_cons_zero, List.getElem?_cons_succ]
           refine ⟨wrap_i64 (by omega) (by omega), .of (by kernel_rfl), ?_⟩
           have hk1 : k + 1 - 1 = k := by omega
           rw [hk1, ey] at hx
           simp at hx
           refine Jac (fun h3 => ?_) (fun h3 => ?_)
           . have h5 : Op.bytesLess y.name x.name = false := by rw [Jjz] at h3; simpa using h3
             have h4 := hbad 9 (by rw [hx]; simp [h5]) (by decide)
             simp [Jaa, h4]
           . have h5 : Op.bytesLess y.name x.name = true := by rw [Jjz] at h3; simpa using h3
             simp [h5] at hx
             simp
             refine ⟨wrap_i64 (by omega) (by omega), k + 1 + 1, ⟨by omega, Jdh hp hx⟩, by omega, ?_⟩
             simp
     . simp at h1
       have hk2 : k = c.parts.length := by omega
       subst hk2
       simp
       refine Jam.go [1, 45, 46] [0] 0 [] (fun _ => []) (fun _ (k : Nat) => [(47, .p (.int .i64 k))]) (fun _ _ => []) (fun k => k <= c.parts.length /\ Jat (Jd9 c) k = 0) (fun k => c.parts.length - k) 0 ⟨by omega, rfl⟩ ?_ ?_
       . simp
       . rintro k ⟨hk, hp2⟩
         simp
         refine Jac (fun h1 => ?_) (fun h1 => ?_)
         . simp at h1
           obtain ⟨x, e⟩ := Jah h1
           simp [h1, e, -getElem?_pos, List.getElem?_cons_zero, List.getElem?_cons_succ]
           have hx : Jd9 c k = if x.kind = 6 /\ Jds c x.name < 0 then 6 else 0 := by simp only [Jd9, e]
           refine Jac (fun h2 => ?_) (fun h2 => ?_)
           . simp at h2
             simp [h2]
             refine Jab (Jx8 c ⟨6, x.name, x.delay⟩ hc (hc.names x (List.mem_of_getElem? e))) ?_
             simp
             refine Jac (fun h3 => ?_) (fun h3 => ?_)
             . simp at h3
               rw [if_pos ⟨h2, h3⟩] at hx
               have hP : Jad c = 6 := by unfold Jad; rw [if_neg h0, hp, Jfw hp2 h1 (by rw [hx]; decide), hx]; simp
               simp [Jaa, hP]
             . simp at h3
               rw [if_neg (by omega)] at hx
               simp
               refine ⟨wrap_i64 (by omega) (by omega), k + 1, ⟨by omega, Jdh hp2 hx⟩, by omega, ?_⟩
               simp
           . simp at h2
             rw [if_neg (by simp [h2])] at hx
             simp [h2]
             refine ⟨wrap_i64 (by omega) (by omega), k + 1, ⟨by omega, Jdh hp2 hx⟩, by omega, ?_⟩
             simp
         . simp at h1
           have hk2 : k = c.parts.length := by omega
           subst hk2
           simp
           refine Jac (fun h3 => ?_) (fun h3 => ?_)
           . have h3' : 256 < c.pipes.length := by simp at h3; omega
             have hP : Jad c = 5 := by unfold Jad; rw [if_neg h0, hp, hp2]; simp [h3']
             simp [Jaa, hP]
           . have h3' : ¬ 256 < c.pipes.length := by simp at h3; omega
             simp
             refine Jam.go [1, 66, 67] [0] 0 [] (fun _ => []) (fun _ (k : Nat) => [(68, .p (.int .i64 k))]) (fun _ _ => []) (fun k => k <= c.pipes.length /\ Jat (Jcb c) k = 0) (fun k => c.pipes.length - k) 0 ⟨by omega, rfl⟩ ?_ ?_
             . simp
             . rintro k ⟨hk, hp3⟩
               simp
               refine Jac (fun h1 => ?_) (fun h1 => ?_)
               . simp at h1
                 obtain ⟨x, e⟩ := Jah h1
                 have hkinds : ∀ p ∈ c.parts, 0 <= p.kind /\ p.kind < 14 := by
                   intro p hpm
                   obtain ⟨j, hj, rfl⟩ := List.getElem_of_mem hpm
                   have h7 := Jfa hp hj
                   simp only [partAt, List.getElem?_eq_getElem hj] at h7
                   have h8 : Jbf c.parts[j].kind = 0 := by
                     by_cases h9 : Jbf c.parts[j].kind = 0
                     . exact h9
                     . exfalso
                       have h10 : Ja0 c.parts[j] ≠ 0 := by simp [Ja0, h9]
                       rw [if_pos h10] at h7
                       exact h10 h7
                   exact Jfd.1 h8
                 have hbad : ∀ m : Int, Jcb c k = m -> m ≠ 0 -> Jad c = m := by
                   intro m h2 h3
                   have h4 : Jat (Jcb c) c.pipes.length = m := by rw [Jfw hp3 h1 (by rw [h2]; exact h3), h2]
                   unfold Jad
                   rw [if_neg h0, hp, hp2, h4]
                   simp [h3']
                 have hx : ∀ m, Jc9 c x = m -> m ≠ 0 -> Jcb c k = m := by
                   intro m h2 h3
                   simp only [Jcb, e]
                   rw [if_pos (by rw [h2]; exact h3), h2]
                 simp [h1, e, -getElem?_pos, List.getElem?_cons_zero, List.getElem?_cons_succ]
                 refine Jeo ?_
                 simp
                 refine ⟨_, Jx7 c [x.fr, x.to] hc (by simp), rfl, ?_⟩
                 simp
                 refine Jac (fun h4 => ?_) (fun h4 => ?_)
                 . simp at h4
                   have h5 := hbad _ (hx (Je3 c [x.fr, x.to]) (by simp [Jc9, h4]) h4) h4
                   simp [Jaa, h5]
                 . simp at h4
                   simp
                   refine Jeo ?_
                   simp
                   refine ⟨_, Jx5 c [x.fr, x.to] hc (by simp) hkinds (J5q h4), rfl, ?_⟩
                   simp
                   refine Jac (fun h5 => ?_) (fun h5 => ?_)
                   . simp at h5
                     have h6 := hbad _ (hx (Jff c [x.fr, x.to]) (by simp [Jc9, h4, h5]) h5) h5
                     simp [Jaa, h6]
                   . simp at h5
                     have hp0 : Jc9 c x = if 0 <= Jco x.fr x.to then 9 else 0 := by simp [Jc9, h4, h5]
                     simp
                     refine Jaj.intro (by kernel_rfl) ?_
                     simp
                     refine Jab (Jmu x.fr x.to) ?_
                     simp
                     by_cases h6 : 0 <= Jco x.fr x.to
                     . have h7 := hbad 9 (hx 9 (by rw [hp0, if_pos h6]) (by decide)) (by decide)
                       simp [h6]
                       refine ⟨.of (by kernel_rfl), ?_⟩
                       simp [Jaa, h7]
                     . rw [if_neg h6] at hp0
                       simp [h6]
                       cases k with
                       | zero =>
                         simp
                         refine ⟨.of (by kernel_rfl), 0 + 1, ⟨by omega, Jdh hp3 (by simp [Jcb, e, hp0, -getElem?_pos])⟩, by omega, ?_⟩
                         simp
                       | succ k =>
                         obtain ⟨y, ey⟩ := Jah (xs := c.pipes) (k := k) (by omega)
                         have e0 : (0 : Int) < (k : Int) + 1 := by omega
                         have e1 : (k : Int) + 1 - 1 = k := by omega
                         have e2 : k < c.pipes.length := by omega
                         have hq : Jcb c (k + 1) = if 0 <= Jev y x then 9 else 0 := by
                           have hk1 : k + 1 - 1 = k := by omega
                           simp only [Jcb, e, hp0, hk1, ey]
                           simp
                         simp [e0, e1, e2, ey, -getElem?_pos, List.getElem?_cons_zero, List.getElem?_cons_succ]
                         refine ⟨wrap_i64 (by omega) (by omega), ?_⟩
                         refine Jab (Jx9 y x) ?_
                         simp
                         refine ⟨.of (by kernel_rfl), ?_⟩
                         refine Jac (fun h8 => ?_) (fun h8 => ?_)
                         . simp at h8
                           have h9 := hbad 9 (by rw [hq, if_pos h8]) (by decide)
                           simp [Jaa, h9]
                         . simp at h8
                           simp
                           refine ⟨wrap_i64 (by omega) (by omega), k + 1 + 1, ⟨by omega, Jdh hp3 (by rw [hq, if_neg (by omega)])⟩, by omega, ?_⟩
                           simp
               . simp at h1
                 have hk2 : k = c.pipes.length := by omega
                 subst hk2
                 have hP : Jad c = 0 := by unfold Jad; rw [if_neg h0, hp, hp2, hp3]; simp [h3']
                 simp [Jaa, hP]
end Go.Am
namespace Go.Am
open Go Go.Proofs Go.Pn
def Jc3 (c : Circuit) : Nat -> List Port
 | 0 => []
 | k + 1 => Jc3 c k ++ match c.parts[k]? with
   | some p => (Jbg p).map fun s => ⟨k, s⟩
   | none => []
def allP (c : Circuit) : List Port := Jc3 c c.parts.length
def Jgk (c : Circuit) : Prop := ∀ p ∈ c.parts, 0 <= p.kind /\ p.kind < 14
theorem Juf {p : Part} (h : 0 <= p.kind /\ p.kind < 14) : (Jbg p).length <= 12 := (Jnw (k := p.kind.toNat) (by omega)).2.2
theorem Jmo {c : Circuit} (h : Jgk c) : ∀ {k : Nat}, (Jc3 c k).length <= 12 * k
 | 0 => by simp [Jc3]
 | k + 1 => by
   have := Jmo h (k := k)
   simp only [Jc3]
   split
   . rename_i p hp
     have := Juf (h p (List.mem_of_getElem? hp))
     simp; omega
   . simp; omega
def allIn (c : Circuit) (k : Nat) (l : List Txt) : List Port := Jc3 c k ++ l.map fun s => ⟨k, s⟩
theorem Jxb {c : Circuit} {k : Nat} : allIn c k [] = Jc3 c k := by simp [allIn]
theorem Jxc {c : Circuit} {k i : Nat} {l : List Txt} {y : Txt} (e : l[i]? = some y) : allIn c k (l.take (i + 1)) = allIn c k (l.take i) ++ [⟨k, y⟩] := by simp only [allIn]; rw [take_snoc e]; simp
theorem Jxa {c : Circuit} {k i : Nat} {l : List Txt} : (allIn c k (l.take i)).length <= (Jc3 c k).length + l.length := by simp [allIn]; omega
theorem Jw9 {c : Circuit} {k : Nat} {p : Part} (e : c.parts[k]? = some p) : allIn c k (Jbg p) = Jc3 c (k + 1) := by simp only [allIn, Jc3, e]
theorem Jx4 (c : Circuit) (hk : Jgk c) (hn : c.parts.length <= 100) : Pure Tryz.prog GL 118 [c.av] (.p (.lst 2 ((allP c).map Port.enc))) := by
 refine Pure.of_walk (N := 32) Tryz.func118 rfl rfl rfl (by simp) (by first | (simp; done) | simp [*]) ?_
 simp
 refine Jam.go [9, 10] [] 1 [1] (nms [3]) (fun nx (k : Nat) => [(3, .acc nx 2 (Jc3 c k).length), (11, .p (.int .i64 k))]) (fun nx k => [(nx, accB 2 ((Jc3 c k).map Port.row))]) (fun k => k <= c.parts.length) (fun k => c.parts.length - k) 0 (by omega) ?_ ?_
 . simp [Jc3]
 . intro k hk1
   have hb := Jmo hk (k := k)
   simp
   refine Jac (fun h => ?_) (fun h => ?_)
   . simp at h
     obtain ⟨x, e⟩ := Jah h
     have hx := hk x (List.mem_of_getElem? e)
     have hpl := Juf hx
     simp [h, e, -getElem?_pos, List.getElem?_cons_zero, List.getElem?_cons_succ]
     refine Jab (Jqa x hx) ?_
     simp
     refine Jam.gor [4, 9, 10, 11, 17, 18] [] [0, 1, 2] (fun st => [0, nameOf (slot st.t 3), 2]) (fun (i : Nat) => [(3, .acc 1 2 (allIn c k ((Jbg x).take i)).length), (19, .p (.int .i64 i))]) (fun i => [(1, accB 2 ((allIn c k ((Jbg x).take i)).map Port.row))]) (fun i => i <= (Jbg x).length) (fun i => (Jbg x).length - i) 0 (by omega) ?_ ?_
     . simp [Jxb]
     . intro i hi
       have hil := Jxa (c := c) (k := k) (l := Jbg x) (i := i)
       simp
       refine Jac (fun h2 => ?_) (fun h2 => ?_)
       . simp at h2
         obtain ⟨y, e2⟩ := Jah h2
         have hs := Jxc (c := c) (k := k) e2
         simp [h2, e2, -getElem?_pos, List.getElem?_cons_zero, List.getElem?_cons_succ]
         refine ⟨by omega, wrap_i64 (by omega) (by omega), i + 1, by omega, by omega, ?_⟩
         simp [hs]
       . simp at h2
         have h3 : i = (Jbg x).length := by omega
         subst h3
         have ha := Jw9 e
         simp [ha]
         refine ⟨wrap_i64 (by omega) (by omega), k + 1, by omega, by omega, ?_⟩
         simp
   . simp at h
     have hk2 : k = c.parts.length := by omega
     subst hk2
     simp [Jaa, allP]
theorem Jx3 (c : Circuit) (s : Txt) (hc : Sized c) : Pure Tryz.prog GL 36 [c.av, .p (.str s)] (.tup [.p (.int .i64 (if Jad c ≠ 0 then 0 else if idxI c.parts (fun p => decide (p.name = s)) < 0 then 0 else idxI c.parts fun p => decide (p.name = s))), .p (.int .i64 (if Jad c ≠ 0 then Jad c else if idxI c.parts (fun p => decide (p.name = s)) < 0 then 6 else 0))]) := by
 refine Pure.of_walk (N := 19) Tryz.func36 rfl rfl rfl (by simp) (by first | (simp; done) | simp [*]) ?_
 simp
 refine Jab (Jeu c hc) ?_
 by_cases h : Jad c = 0
 . simp [h]
   refine Jab (Jmv c s hc) ?_
   generalize (idxI c.parts fun p => decide (p.name = s)) = m
   by_cases h2 : m < 0
   . simp [h2, Jaa, h]
   . simp [h2, Jaa, h]
 . simp [h, Jaa]
end Go.Am
namespace Go.Am
open Go Go.Proofs Go.Pn
theorem Jzg (c : Circuit) (s : Txt) (hc : Sized c) : Pure Tryz.prog GL 50 [c.av, .p (.str s)] (.p (.int .i64 (idxI c.parts fun p => decide (p.name = s)))) := by
 refine Pure.of_walk (N := 22) Tryz.func50 rfl rfl rfl (by simp) (by first | (simp; done) | simp [*]) ?_
 simp
 refine Jam.go [1, 2] [0] 0 [] (fun _ => []) (fun _ (k : Nat) => [(5, .p (.int .i64 k))]) (fun _ _ => []) (fun k => k <= c.parts.length /\ ∀ (j : Nat) x, j < k -> c.parts[j]? = some x -> decide (x.name = s) = false) (fun k => c.parts.length - k) 0 ⟨by omega, fun j x h => by omega⟩ ?_ ?_
 . simp
 . rintro k ⟨hk, hp⟩
   have hc1 := hc.parts
   simp
   refine Jac (fun h => ?_) (fun h => ?_)
   . simp at h
     obtain ⟨x, e⟩ := Jah h
     simp [h, e, -getElem?_pos, List.getElem?_cons_zero, List.getElem?_cons_succ]
     refine Jac (fun h2 => ?_) (fun h2 => ?_)
     . simp [Jaa, Jey (q := fun p => decide (p.name = s)) e h2 hp]
     . simp
       refine ⟨wrap_i64 (by omega) (by omega), k + 1, ⟨by omega, ?_⟩, by omega, ?_⟩
       . simpa using Jef (P := fun p : Part => decide (p.name = s) = false) hp e h2
       . simp
   . simp at h
     have : k = c.parts.length := by omega
     subst this
     have hI : (idxI c.parts fun p => decide (p.name = s)) = -1 := Jfz (Jet hp)
     simp [Jaa, hI]
def cylB (c : Circuit) (s : Txt) : Bool := match c.parts.findIdx? fun p => decide (p.name = s) with
 | none => false
 | some i => decide ((c.parts[i]?.map (·.kind)) = some 1)
theorem Jqo (c : Circuit) (s : Txt) (hc : Sized c) : Pure Tryz.prog GL 308 [c.av, .p (.str s)] (.p (.bool (cylB c s))) := by
 refine Pure.of_walk (N := 20) Tryz.func308 rfl rfl rfl (by simp) (by first | (simp; done) | simp [*]) ?_
 simp
 refine Jab (Jzg c s hc) ?_
 rcases Jko c.parts (fun q => decide (q.name = s)) with ⟨h1, h2⟩ | ⟨i, x, h1, h2, h3, h4⟩
 . simp [h2, Jaa, cylB, h1]
 . obtain ⟨h5, h6⟩ := gsI.1 h3
   have h7 : (0 : Int) <= i := by omega
   simp [h2, h3, h5, h7, -getElem?_pos, List.getElem?_cons_zero, List.getElem?_cons_succ]
   simp [Jaa, cylB, h1, h3, -getElem?_pos]
def belB (c : Circuit) (s : Txt) : Bool := decide (1 < s.length) && (decide (s.getLast? = some 48) || decide (s.getLast? = some 49)) && cylB c s.dropLast
theorem Jzi (c : Circuit) (s : Txt) (hc : Sized c) (hs : s.length < 4611686018427387900) : Pure Tryz.prog GL 239 [c.av, .p (.str s)] (.p (.bool (belB c s))) := by
 refine Pure.of_walk (N := 32) Tryz.func239 rfl rfl rfl (by simp) (by first | (simp; done) | simp [*]) ?_
 by_cases h : 1 < s.length
 . obtain ⟨x, e⟩ := Jah (xs := s) (k := s.length - 1) (by omega)
   have hl : s.getLast? = some x := by rw [List.getLast?_eq_getElem?]; exact e
   have h1 : (1 : Int) < s.length := by omega
   have h2 : (0 : Int) <= (s.length : Int) - 1 := by omega
   have h3 : ((s.length : Int) - 1).toNat = s.length - 1 := by omega
   have h4 : (s.length : Int) - 1 <= s.length := by omega
   have h5 : ((x.toNat : Int) = 48) ↔ x = 48 := by rw [<- UInt8.toNat_inj]; simp; omega
   have h6 : ((x.toNat : Int) = 49) ↔ x = 49 := by rw [<- UInt8.toNat_inj]; simp; omega
   simp
   refine Jaj.intro (by kernel_rfl) ?_
   simp [h, h1, h2, h3, h4, e, -getElem?_pos, List.getElem?_cons_zero, List.getElem?_cons_succ]
   refine ⟨wrap_i64 (by omega) (by omega), by omega, ?_⟩
   have hd : s.take (s.length - 1) = s.dropLast := by rw [List.dropLast_eq_take]
   have h7 : (1 : Int) <= s.length := by omega
   have h8 : (s.length : Int) - 1 <= s.length := by omega
   have hcl : Sized c := hc
   by_cases e1 : x = 48
   . subst e1
     simp [h, h1]
     refine ⟨wrap_i64 (by omega) (by omega), ?_⟩
     rw [if_pos ⟨h7, h8⟩]
     simp [h3, hd]
     refine Jab (Jqo c s.dropLast hc) ?_
     simp
     refine ⟨.of (by kernel_rfl), ?_⟩
     simp [Jaa, belB, h, hl]
   . have e1' : ¬ (x.toNat : Int) = 48 := fun h => e1 (h5.1 h)
     simp [e1', h, h1, h2, h3, h4, e, -getElem?_pos, List.getElem?_cons_zero, List.getElem?_cons_succ]
     refine ⟨wrap_i64 (by omega) (by omega), by omega, ?_⟩
     by_cases e2 : x = 49
     . subst e2
       simp [h, h1]
       refine ⟨wrap_i64 (by omega) (by omega), ?_⟩
       rw [if_pos ⟨h7, h8⟩]
       simp [h3, hd]
       refine Jab (Jqo c s.dropLast hc) ?_
       simp
       refine ⟨.of (by kernel_rfl), ?_⟩
       simp [Jaa, belB, h, hl]
     . have e2' : ¬ (x.toNat : Int) = 49 := fun h => e2 (h6.1 h)
       simp [e2', h1]
       refine ⟨.of (by kernel_rfl), ?_⟩
       simp [Jaa, belB, h, hl, e1, e2]
 . have h1 : ¬ (1 : Int) < s.length := by omega
   simp
   refine Jaj.intro (by kernel_rfl) ?_
   simp [h1]
   refine ⟨.of (by kernel_rfl), ?_⟩
   simp [Jaa, belB, h]
end Go.Am
namespace Go.Am
open Go Go.Proofs Go.Pn
theorem Jtp {c : Circuit} {s : Txt} (hn : ∀ p ∈ c.parts, p.name ≠ []) : (Jds c s < 0) ↔ belB c s = false := by
 unfold Jds belB stem cylB
 by_cases h1 : s.getLast? = some 48 \/ s.getLast? = some 49
 . rw [if_pos h1]
   have h2 : (decide (s.getLast? = some 48) || decide (s.getLast? = some 49)) = true := by simpa using h1
   rw [h2, Bool.and_true]
   cases hf : c.parts.findIdx? fun p => decide (p.name = s.dropLast) with
   | none => simp [hf]
   | some i =>
     obtain ⟨h3, h4, _⟩ := List.findIdx?_eq_some_iff_getElem.1 hf
     have h5 : 1 < s.length := by
       have h6 := hn _ (List.getElem_mem h3)
       have h7 : c.parts[i].name = s.dropLast := by simpa using h4
       rw [h7] at h6
       have : s.dropLast.length ≠ 0 := fun h => h6 (List.length_eq_zero_iff.1 h)
       rw [List.length_dropLast] at this
       omega
     simp only [hf, h5, decide_true, Bool.true_and]
     by_cases h8 : (c.parts[i]?.map (·.kind)) = some 1
     . simp [h8]
     . simp [h8]
 . rw [if_neg h1]
   have h2 : (decide (s.getLast? = some 48) || decide (s.getLast? = some 49)) = false := by simpa using h1
   simp [h2]
theorem J21 {c : Circuit} (h : Jat (partAt c) c.parts.length = 0) : ∀ p ∈ c.parts, p.name ≠ [] := by
 intro p hp he
 obtain ⟨j, hj, rfl⟩ := List.getElem_of_mem hp
 have h7 := Jfa h hj
 simp only [partAt, List.getElem?_eq_getElem hj] at h7
 have h9 : Jcm c.parts[j].name = 3 := by rw [he]; rfl
 by_cases h10 : Jbf c.parts[j].kind = 0
 . have h11 : Ja0 c.parts[j] = 3 := by simp [Ja0, h10, h9]
   rw [h11] at h7; simp at h7
 . have h11 : Ja0 c.parts[j] ≠ 0 := by simp [Ja0, h10]
   rw [if_pos h11] at h7; exact h11 h7
theorem Jsj {c : Circuit} (h : Jat (partAt c) c.parts.length = 0) : Jgk c := by
 intro p hp
 obtain ⟨j, hj, rfl⟩ := List.getElem_of_mem hp
 have h7 := Jfa h hj
 simp only [partAt, List.getElem?_eq_getElem hj] at h7
 have h8 : Jbf c.parts[j].kind = 0 := by
   by_cases h9 : Jbf c.parts[j].kind = 0
   . exact h9
   . exfalso
     have h10 : Ja0 c.parts[j] ≠ 0 := by simp [Ja0, h9]
     rw [if_pos h10] at h7
     exact h10 h7
 exact Jfd.1 h8
theorem Jof {k : Nat} {s : Txt} (hk : k < 14) : (Jea k s < 0) ↔ ¬ s ∈ Jbr k := by
 have h1 : (Jeb k).map Jdr = Jbo k := (by decide : ∀ k, k < 14 -> (Jeb k).map Jdr = Jbo k) k hk
 have h2 : ∀ t, (t ∈ (Jbo k).flatten) ↔ t ∈ Jbr k := by
   intro t
   rcases (by omega : k = 0 \/ k = 1 \/ k = 2 \/ k = 3 \/ k = 4 \/ k = 5 \/ k = 6 \/ k = 7 \/ k = 8 \/ k = 9 \/ k = 10 \/ k = 11 \/ k = 12 \/ k = 13) with rfl|rfl|rfl|rfl|rfl|rfl|rfl|rfl|rfl|rfl|rfl|rfl|rfl|rfl <;> simp [Jbo, Jbr] <;> grind
 have h3 : (0 <= Jea k s) ↔ s ∈ Jbr k := by
   unfold Jea
   rw [Jkp, <- h2, <- h1]
   simp only [List.any_eq_true, decide_eq_true_eq, List.mem_flatten, List.mem_map]
   grind
 exact ⟨fun h hm => by have := h3.2 hm; omega, fun h => Int.not_le.1 fun h' => h (h3.1 h')⟩
def Jdj (c : Circuit) : Int :=
 if 64 < c.parts.length then 5 else
 if Jat (partAt c) c.parts.length ≠ 0 then Jat (partAt c) c.parts.length else Jat (Jd9 c) c.parts.length
theorem Jzj (c : Circuit) (hc : Sized c) : Pure Tryz.prog GL 164 [c.av] (.p (.int .i64 (Jdj c))) := by
 refine Pure.of_walk (N := 69) Tryz.func164 rfl rfl rfl (by simp) (by first | (simp; done) | simp [*]) ?_
 simp
 refine Jac (fun h => ?_) (fun h => ?_)
 . have h' : 64 < c.parts.length := by simp at h; omega
   have hP : Jdj c = 5 := by unfold Jdj; rw [if_pos h']
   simp [Jaa, hP]
 . have h0 : ¬ 64 < c.parts.length := by simp at h; omega
   simp
   refine Jam.go [1] [0] 0 [] (fun _ => []) (fun _ (k : Nat) => [(3, .p (.int .i64 k))]) (fun _ _ => []) (fun k => k <= c.parts.length /\ Jat (partAt c) k = 0) (fun k => c.parts.length - k) 0 ⟨by omega, rfl⟩ ?_ ?_
   . simp
   . rintro k ⟨hk, hp⟩
     simp
     refine Jac (fun h1 => ?_) (fun h1 => ?_)
     . simp at h1
       obtain ⟨x, e⟩ := Jah h1
       have hbad : ∀ m : Int, partAt c k = m -> m ≠ 0 -> Jdj c = m := by
         intro m h2 h3
         have h4 : Jat (partAt c) c.parts.length = m := by rw [Jfw hp h1 (by rw [h2]; exact h3), h2]
         unfold Jdj
         rw [if_neg h0, h4, if_pos h3]
       have hx : partAt c k = if Ja0 x ≠ 0 then Ja0 x else if 0 < k /\ ¬ Op.bytesLess ((c.parts[k - 1]?.map (·.name)).getD []) x.name = true then 9 else 0 := by simp only [partAt, e]
       simp [h1, e, -getElem?_pos, List.getElem?_cons_zero, List.getElem?_cons_succ]
       refine Jab (Jy6 x (by have := hc.names x (List.mem_of_getElem? e); omega)) ?_
       simp
       refine Jac (fun h2 => ?_) (fun h2 => ?_)
       . simp at h2
         have h3 := hbad (Ja0 x) (by rw [hx, if_pos h2]) h2
         simp [Jaa, h3]
       . simp at h2
         rw [if_neg (by simp [h2])] at hx
         cases k with
         | zero =>
           simp
           refine Jaj.intro (by kernel_rfl) ?_
           simp
           refine ⟨.of (by kernel_rfl), 0 + 1, ⟨by omega, Jdh hp (by rw [hx]; simp)⟩, by omega, ?_⟩
           simp
         | succ k =>
           obtain ⟨y, ey⟩ := Jah (xs := c.parts) (k := k) (by omega)
           have e0 : (0 : Int) < (k : Int) + 1 := by omega
           have e0' : (0 : Int) <= (k : Int) + 1 := by omega
           have e1 : (k : Int) + 1 - 1 = k := by omega
           have e2 : k < c.parts.length := by omega
           have e3 : (k : Int) + 1 < c.parts.length := by omega
           have e4 : ((k : Int) + 1).toNat = k + 1 := by omega
           simp
           refine Jaj.intro (by kernel_rfl) ?_
           simp [e0, e0', e1, e2, e3, e4, e, ey, -getElem?_pos, List.getElem?_cons_zero, List.getElem?_cons_succ]
           refine ⟨wrap_i64 (by omega) (by omega), .of (by kernel_rfl), ?_⟩
           have hk1 : k + 1 - 1 = k := by omega
           rw [hk1, ey] at hx
           simp at hx
           refine Jac (fun h3 => ?_) (fun h3 => ?_)
           . have h5 : Op.bytesLess y.name x.name = false := by rw [Jjz] at h3; simpa using h3
             have h4 := hbad 9 (by rw [hx]; simp [h5]) (by decide)
             simp [Jaa, h4]
           . have h5 : Op.bytesLess y.name x.name = true := by rw [Jjz] at h3; simpa using h3
             simp [h5] at hx
             simp
             refine ⟨wrap_i64 (by omega) (by omega), k + 1 + 1, ⟨by omega, Jdh hp hx⟩, by omega, ?_⟩
             simp
     . simp at h1
       have hk2 : k = c.parts.length := by omega
       subst hk2
       have hne := J21 hp
       simp
       refine Jam.go [1] [0] 0 [] (fun _ => []) (fun _ (k : Nat) => [(5, .p (.int .i64 k))]) (fun _ _ => []) (fun k => k <= c.parts.length /\ Jat (Jd9 c) k = 0) (fun k => c.parts.length - k) 0 ⟨by omega, rfl⟩ ?_ ?_
       . simp
       . rintro k ⟨hk, hp2⟩
         simp
         refine Jac (fun h1 => ?_) (fun h1 => ?_)
         . simp at h1
           obtain ⟨x, e⟩ := Jah h1
           have hx : Jd9 c k = if x.kind = 6 /\ Jds c x.name < 0 then 6 else 0 := by simp only [Jd9, e]
           simp
           refine Jaj.intro (by kernel_rfl) ?_
           simp [h1, e, -getElem?_pos, List.getElem?_cons_zero, List.getElem?_cons_succ]
           refine Jac (fun h2 => ?_) (fun h2 => ?_)
           . simp at h2
             simp [h2, h1, e, -getElem?_pos, List.getElem?_cons_zero, List.getElem?_cons_succ]
             refine Jab (Jzi c x.name hc (hc.names x (List.mem_of_getElem? e))) ?_
             simp
             refine ⟨.of (by kernel_rfl), ?_⟩
             refine Jac (fun h3 => ?_) (fun h3 => ?_)
             . have h3' : belB c x.name = false := by simpa using h3
               rw [if_pos ⟨h2, (Jtp hne).2 h3'⟩] at hx
               have hP : Jdj c = 6 := by unfold Jdj; rw [if_neg h0, hp, Jfw hp2 h1 (by rw [hx]; decide), hx]; simp
               simp [Jaa, hP]
             . have h3' : ¬ Jds c x.name < 0 := fun h => by have := (Jtp hne).1 h; simp [this] at h3
               rw [if_neg (fun h => h3' h.2)] at hx
               simp
               refine ⟨wrap_i64 (by omega) (by omega), k + 1, ⟨by omega, Jdh hp2 hx⟩, by omega, ?_⟩
               simp
           . simp at h2
             rw [if_neg (by simp [h2])] at hx
             simp [h2]
             refine ⟨.of (by kernel_rfl), wrap_i64 (by omega) (by omega), k + 1, ⟨by omega, Jdh hp2 hx⟩, by omega, ?_⟩
             simp
         . simp at h1
           have hk2 : k = c.parts.length := by omega
           subst hk2
           have hP : Jdj c = 0 := by unfold Jdj; rw [if_neg h0, hp, hp2]; simp
           simp [Jaa, hP]
theorem Jqp (c : Circuit) (p : Port) (hk : Jgk c) : Pure Tryz.prog GL 240 [c.av, p.av] (.tup [.p (.int .i64 (Jbk c p)), .p (.int .i64 (if Jbk c p = 0 then Jbx c p else 0))]) := by
 refine Pure.of_walk (N := 28) Tryz.func240 rfl rfl rfl (by simp) (by first | (simp; done) | simp [*]) ?_
 by_cases hb : p.part < 0 \/ (c.parts.length : Int) <= p.part
 . have h2 : Jbk c p = 2 := if_pos hb
   simp
   repeat' (first | (apply Jac <;> intro hq <;> (try simp at hq) <;> (try simp [hq])) | (apply Jep <;> intro hq <;> (try simp at hq) <;> (try simp [hq])))
   all_goals (try simp [Jaa, h2])
   all_goals omega
 . have h2 : Jbk c p = 0 := if_neg hb
   have h4 : ¬ p.part < 0 := by omega
   have h4' : 0 <= p.part := by omega
   have h5 : ¬ (c.parts.length : Int) <= p.part := by omega
   have h5' : p.part < (c.parts.length : Int) := by omega
   obtain ⟨x, e⟩ := Jah (xs := c.parts) (k := p.part.toNat) (by omega)
   have hx := hk x (List.mem_of_getElem? e)
   have hn : Jbx c p = if p.name ∈ Jbg x then 0 else 6 := by simp only [Jbx, e]
   simp [h4, h5]
   refine Jaj.intro (by kernel_rfl) ?_
   simp [h4', h5', e, -getElem?_pos, List.getElem?_cons_zero, List.getElem?_cons_succ]
   have hk3 : x.kind = (x.kind.toNat : Int) := by omega
   rw [hk3]
   refine Jab (Jy8 x.kind.toNat p.name (by omega)) ?_
   simp
   refine ⟨.of (by kernel_rfl), ?_⟩
   have hpl := Jof (k := x.kind.toNat) (s := p.name) (by omega)
   refine Jac (fun h6 => ?_) (fun h6 => ?_)
   . simp at h6
     have h7 : ¬ p.name ∈ Jbg x := hpl.1 h6
     simp [Jaa, h2, hn, h7]
   . simp at h6
     have h7 : p.name ∈ Jbg x := by
       by_cases h8 : p.name ∈ Jbg x
       . exact h8
       . have := hpl.2 h8; omega
     simp [Jaa, h2, hn, h7]
end Go.Am
namespace Go.Am
open Go Go.Proofs Go.Pn
theorem Jij {a b : Port} : (Jco a b < 0) ↔ Jbj a b = true := by
 unfold Jco Jbj cmpI
 by_cases h : a.part = b.part
 . simp [orI, h]
   by_cases h2 : Lib.compareBytes a.name b.name = 0
   . have := Jdx.1 h2
     have h3 := (Jdx (a := b.name) (b := b.name)).2 rfl
     simp [this, Jeg, h3]
   . simp [h2, Jj6]
 . by_cases h2 : a.part < b.part
   . simp [orI, h, h2]
   . have h3 : b.part < a.part := by omega
     simp [orI, h, h2, h3]
theorem Jj9 {a b : Port} : Jco a b = 0 ↔ a = b := by
 unfold Jco cmpI
 by_cases h : a.part = b.part
 . simp [orI, h]
   by_cases h2 : Lib.compareBytes a.name b.name = 0
   . have h3 := Jdx.1 h2
     cases a; cases b
     simp at h h3
     simp [h, h3, Jdx.2]
   . have h3 : a.name ≠ b.name := fun e => h2 (Jdx.2 e)
     have : a ≠ b := fun e => h3 (by rw [e])
     simp [h2, this]
 . have : a ≠ b := fun e => h (by rw [e])
   by_cases h2 : a.part < b.part
   . simp [orI, h2, this]
   . have h3 : b.part < a.part := by omega
     simp [orI, h2, h3, this]
theorem Jm3 {a b : Pipe} : (Jev a b < 0) ↔ Jbu a b = true := by
 unfold Jev Jbu
 by_cases h : a.fr = b.fr
 . have h1 : Jco a.fr b.fr = 0 := Jj9.2 h
   have h0 : Jco b.fr b.fr = 0 := Jj9.2 rfl
   simp only [orI, h, h0, if_true]
   by_cases h2 : Jco a.to b.to = 0
   . have h3 := Jj9.1 h2
     have h4 : ¬ Jbj a.to b.to = true := fun h => by have := Jij.2 h; omega
     simp [h2, h4]
   . simp [h2, Jij]
 . have h1 : Jco a.fr b.fr ≠ 0 := fun e => h (Jj9.1 e)
   simp [orI, h1, h, Jij]
theorem Jus {c : Circuit} {a b : Port} : Je3 c [a, b] = if Jbk c a ≠ 0 then Jbk c a else Jbk c b := by
 simp [Je3, Jat, Jej]
theorem Js3 {c : Circuit} {a b : Port} : Jff c [a, b] = if Jbx c a ≠ 0 then Jbx c a else Jbx c b := by
 simp [Jff, Jat, Jej]
theorem Jhp {c : Circuit} {a : Port} : Jbk c a = 0 \/ Jbk c a = 2 := by unfold Jbk; split <;> simp
theorem Jk6 {c : Circuit} {a : Port} : Jbx c a = 0 \/ Jbx c a = 6 := by unfold Jbx; split <;> (try split) <;> simp
theorem Jzk (c : Circuit) (x : Pipe) (hk : Jgk c) : Pure Tryz.prog GL 165 [c.av, x.av] (.p (.int .i64 (Jc9 c x))) := by
 refine Pure.of_walk (N := 41) Tryz.func165 rfl rfl rfl (by simp) (by first | (simp; done) | simp [*]) ?_
 simp
 refine Jab (Jqp c x.fr hk) ?_
 simp
 refine Jab (Jqp c x.to hk) ?_
 have hp : Jc9 c x = if Jbk c x.fr ≠ 0 \/ Jbk c x.to ≠ 0 then 2 else if Jbx c x.fr ≠ 0 \/ Jbx c x.to ≠ 0 then 6 else if Jbj x.fr x.to = true then 0 else 9 := by
   have h1 := Jhp (c := c) (a := x.fr)
   have h2 := Jhp (c := c) (a := x.to)
   have h3 := Jk6 (c := c) (a := x.fr)
   have h4 := Jk6 (c := c) (a := x.to)
   have h5 := Jij (a := x.fr) (b := x.to)
   unfold Jc9
   rw [Jus, Js3]
   grind
 have h1 := Jhp (c := c) (a := x.fr)
 have h2 := Jhp (c := c) (a := x.to)
 generalize Jbk c x.fr = r1 at *
 generalize Jbk c x.to = r2 at *
 generalize Jbx c x.fr = n1 at *
 generalize Jbx c x.to = n2 at *
 rcases h1 with rfl | rfl
 . rcases h2 with rfl | rfl
   . by_cases h3 : n1 = 0
     . by_cases h4 : n2 = 0
       . simp [h3, h4]
         refine Jab (Jmy x.fr x.to) ?_
         simp
         cases h5 : Jbj x.fr x.to with
         | true => simp [Jaa, hp, h3, h4, h5]
         | false => simp [Jaa, hp, h3, h4, h5]
       . simp [Jaa, h3, h4, hp]
     . simp [Jaa, h3, hp]
   . simp [Jaa, hp]
 . simp [Jaa, hp]
theorem Jzd (c : Circuit) (hc : Sized c) : Pure Tryz.prog GL 75 [c.av] (.p (.int .i64 (Jad c))) := by
 refine Pure.of_walk (N := 49) Tryz.func75 rfl rfl rfl (by simp) (by first | (simp; done) | simp [*]) ?_
 simp
 refine Jab (Jzj c hc) ?_
 simp
 refine Jac (fun h => ?_) (fun h => ?_)
 . have hP : Jad c = Jdj c := by
     simp at h
     unfold Jad Jdj at *
     grind
   simp [Jaa, hP]
 . have hn : Jdj c = 0 := by simpa using h
   have h0 : ¬ 64 < c.parts.length := by intro h0; unfold Jdj at hn; rw [if_pos h0] at hn; simp at hn
   have hp : Jat (partAt c) c.parts.length = 0 := by unfold Jdj at hn; grind
   have hp2 : Jat (Jd9 c) c.parts.length = 0 := by unfold Jdj at hn; grind
   have hkinds := Jsj hp
   simp
   refine Jac (fun h3 => ?_) (fun h3 => ?_)
   . have h3' : 256 < c.pipes.length := by simp at h3; omega
     have hP : Jad c = 5 := by unfold Jad; rw [if_neg h0, hp, hp2]; simp [h3']
     simp [Jaa, hP]
   . have h3' : ¬ 256 < c.pipes.length := by simp at h3; omega
     simp
     refine Jam.go [1] [0] 0 [] (fun _ => []) (fun _ (k : Nat) => [(4, .p (.int .i64 k))]) (fun _ _ => []) (fun k => k <= c.pipes.length /\ Jat (Jcb c) k = 0) (fun k => c.pipes.length - k) 0 ⟨by omega, rfl⟩ ?_ ?_
     . simp
     . rintro k ⟨hk, hp3⟩
       simp
       refine Jac (fun h1 => ?_) (fun h1 => ?_)
       . simp at h1
         obtain ⟨x, e⟩ := Jah h1
         have hbad : ∀ m : Int, Jcb c k = m -> m ≠ 0 -> Jad c = m := by
           intro m h2 h3
           have h4 : Jat (Jcb c) c.pipes.length = m := by rw [Jfw hp3 h1 (by rw [h2]; exact h3), h2]
           unfold Jad
           rw [if_neg h0, hp, hp2, h4]
           simp [h3']
         have hx : ∀ m, Jc9 c x = m -> m ≠ 0 -> Jcb c k = m := by
           intro m h2 h3
           simp only [Jcb, e]
           rw [if_pos (by rw [h2]; exact h3), h2]
         simp
         refine Jaj.intro (by kernel_rfl) ?_
         simp [h1, e, -getElem?_pos, List.getElem?_cons_zero, List.getElem?_cons_succ]
         refine Jab (Jzk c x hkinds) ?_
         simp
         refine ⟨.of (by kernel_rfl), ?_⟩
         refine Jac (fun h4 => ?_) (fun h4 => ?_)
         . simp at h4
           have h5 := hbad _ (hx _ rfl h4) h4
           simp [Jaa, h5]
         . have hp0 : Jc9 c x = 0 := by simpa using h4
           cases k with
           | zero =>
             simp
             refine Jaj.intro (by kernel_rfl) ?_
             simp
             refine ⟨.of (by kernel_rfl), 0 + 1, ⟨by omega, Jdh hp3 (by simp [Jcb, e, hp0, -getElem?_pos])⟩, by omega, ?_⟩
             simp
           | succ k =>
             obtain ⟨y, ey⟩ := Jah (xs := c.pipes) (k := k) (by omega)
             have e0 : (0 : Int) < (k : Int) + 1 := by omega
             have e0' : (0 : Int) <= (k : Int) + 1 := by omega
             have e1 : (k : Int) + 1 - 1 = k := by omega
             have e2 : k < c.pipes.length := by omega
             have e3 : (k : Int) + 1 < c.pipes.length := by omega
             have e4 : ((k : Int) + 1).toNat = k + 1 := by omega
             have hq : Jcb c (k + 1) = if 0 <= Jev y x then 9 else 0 := by
               have hk1 : k + 1 - 1 = k := by omega
               simp only [Jcb, e, hp0, hk1, ey]
               simp
             simp
             refine Jaj.intro (by kernel_rfl) ?_
             simp [e0, e0', e1, e2, e3, e4, e, ey, -getElem?_pos, List.getElem?_cons_zero, List.getElem?_cons_succ]
             refine ⟨wrap_i64 (by omega) (by omega), ?_⟩
             refine Jab (Jze y x) ?_
             simp
             refine ⟨.of (by kernel_rfl), ?_⟩
             refine Jac (fun h8 => ?_) (fun h8 => ?_)
             . have h8' : 0 <= Jev y x := by
                 have := Jm3 (a := y) (b := x)
                 simp at h8
                 rw [h8] at this
                 simp at this
                 exact this
               have h9 := hbad 9 (by rw [hq, if_pos h8']) (by decide)
               simp [Jaa, h9]
             . have h8' : Jev y x < 0 := Jm3.2 (by simpa using h8)
               simp
               refine ⟨wrap_i64 (by omega) (by omega), k + 1 + 1, ⟨by omega, Jdh hp3 (by rw [hq, if_neg (by omega)])⟩, by omega, ?_⟩
               simp
       . simp at h1
         have hk2 : k = c.pipes.length := by omega
         subst hk2
         have hP : Jad c = 0 := by unfold Jad; rw [if_neg h0, hp, hp2, hp3]; simp [h3']
         simp [Jaa, hP]
theorem Jd5 {c : Circuit} (h : Jad c = 0) : Jgk c /\ c.parts.length <= 64 /\ c.pipes.length <= 256 := by
 have h0 : ¬ 64 < c.parts.length := by intro h0; unfold Jad at h; rw [if_pos h0] at h; simp at h
 have hp : Jat (partAt c) c.parts.length = 0 := by unfold Jad at h; grind
 have hp2 : ¬ 256 < c.pipes.length := by intro h1; unfold Jad at h; grind
 exact ⟨Jsj hp, by omega, by omega⟩
end Go.Am
namespace Go.Am
open Go Go.Proofs Go.Pn
theorem J8n (c : Circuit) (hc : Sized c) : Pure Tryz.prog GL 46 [c.av] (.tup [.p (.lst 2 ((if Jad c ≠ 0 then [] else allP c).map Port.enc)), .p (.int .i64 (Jad c))]) := by
 refine Pure.of_walk (N := 12) Tryz.func46 rfl rfl rfl (by simp) (by first | (simp; done) | simp [*]) ?_
 simp
 refine Jab (Jeu c hc) ?_
 by_cases h : Jad c = 0
 . simp [h]
   refine Jab (Jx4 c (Jd5 h).1 (by have := (Jd5 h).2.1; omega)) ?_
   simp [Jaa, h]
 . simp [h, Jaa]
@[simp] theorem J9l {l : List Port} : Ports.enc l = [.lst 2 (l.map Port.enc)] := rfl
end Go.Am
namespace Go.Am
open Go Go.Proofs Go.Pn
def Jxg (a : List Port × Bool) (x : Pipe) : List Port × Bool :=
 let a := if x.fr ∈ a.1 /\ ¬ x.to ∈ a.1 then (a.1 ++ [x.to], true) else a
 if x.to ∈ a.1 /\ ¬ x.fr ∈ a.1 then (a.1 ++ [x.fr], true) else a
def Jxf (c : Circuit) (l : List Port) : List Port × Bool := c.pipes.foldl Jxg (l, false)
def Jp0 (c : Circuit) (l : List Port) : Nat -> List Port
 | 0 => l
 | n + 1 => (Jxf c (Jp0 c l n)).1
def closure (c : Circuit) (p : Port) : List Port := Jp0 c [p] (2 * c.pipes.length + 2)
def around (c : Circuit) (p : Port) : List Port := (allP c).filter fun q => decide (q ∈ closure c p)
theorem Jn4 {α : Type} [DecidableEq α] : ∀ {l m : List α}, l.Nodup -> (∀ x ∈ l, x ∈ m) -> l.length <= m.length
 | [], m, _, _ => by simp
 | x :: l, m, hn, h => by
   have h1 := List.nodup_cons.1 hn
   have h2 := Jn4 (l := l) (m := m.erase x) h1.2 fun y hy => (List.mem_erase_of_ne (by rintro rfl; exact h1.1 hy)).2 (h y (by simp [hy]))
   have h3 := List.length_erase_of_mem (h x (by simp))
   have h4 := List.length_pos_of_mem (h x (by simp))
   simp only [List.length_cons]
   omega
@[simp] theorem Ka3 {l : List Txt} : unpR (l.map Txt.row) = some (l.map Txt.enc) := Jwc (f := Txt.row) (g := Txt.enc) (fun _ => rfl) l
end Go.Am
