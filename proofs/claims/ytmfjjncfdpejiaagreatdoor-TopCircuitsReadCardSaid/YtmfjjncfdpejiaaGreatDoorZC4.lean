/- Lemmas and contracts for the proof of a statement of this seat. -/
import Derived.Test.YtmfjjncfdpejiaaGreatDoorZC3
set_option linter.unusedVariables false
set_option linter.unusedSimpArgs false
namespace Go.Am
open Go Go.Proofs Go.Pn
theorem Jzz (l : List Txt) : Pure Tryz.prog GL 248 [.p (.lst 1 (l.map Txt.enc))] (Jqg l) := by
 refine Pure.of_walk (N := 4) Tryz.func248 rfl rfl rfl (by simp) (by first | (simp; done) | simp [*]) ?_
 simp
 simp [Jaa]
theorem Jzy (l : List Txt) (h0 : l ≠ []) (hl : l.length <= 12) : Pure Tryz.prog GL 247 [Jqg l] (.p (.lst 1 ((Jdk l).map Txt.enc))) := by
 refine Pure.of_walk (N := 9) Tryz.func247 rfl rfl rfl (by simp) (by first | (simp; done) | simp [*]) ?_
 simp
 refine Jbz (J3f l _ _ h0 (by omega)) ?_
 simp
 refine Jbz (Jtv _ _ _ 0 none (by omega) (by simp [get]) hl) ?_
 simp [Jaa, Joy]
 rw [List.take_of_length_le (by simp [Joy])]
 rfl
theorem Jo0 {k : Nat} (h : k < 14) : Jdk (Ja7 k) = Ja7 k /\ Ja7 k ≠ [] /\ (Ja7 k).length <= 12 := (by decide : ∀ k, k < 14 -> Jdk (Ja7 k) = Ja7 k /\ Ja7 k ≠ [] /\ (Ja7 k).length <= 12) k h
theorem Jr7 (p : Part) (hk : 0 <= p.kind /\ p.kind < 14) : Pure Tryz.prog GL 180 [p.av] (.p (.lst 1 ((Jbg p).map Txt.enc))) := by
 refine Pure.of_walk (N := 14) Tryz.func180 rfl rfl rfl (by simp) (by first | (simp; done) | simp [*]) ?_
 have h4 : p.kind.toNat < 14 := by omega
 obtain ⟨h1, h2, h3⟩ := Jo0 h4
 simp
 refine Jab (J00 p.kind) ?_
 simp [Jfp.2 hk]
 refine Jab (Jzz (Ja7 p.kind.toNat)) ?_
 simp
 refine Jab (Jzy (Ja7 p.kind.toNat) h2 h3) ?_
 simp [Jaa, Jbg, h1]
def Kbw (c : Circuit) (p : Port) : Int := if p.part < 0 \/ (c.parts.length : Int) <= p.part then 2 else match c.parts[p.part.toNat]? with
 | some x => if p.name ∈ Jbg x then 0 else 6
 | none => 2
def Jbq (c : Circuit) (p : Port) : Int := if p.part < 0 \/ (c.parts.length : Int) <= p.part then 2 else 0
def Jb1 (c : Circuit) (p : Port) : Int := match c.parts[p.part.toNat]? with
 | some x => if p.name ∈ Jbg x then 0 else 6
 | none => 0
def Jar (f : Nat -> Int) : Nat -> Int
 | 0 => 0
 | n + 1 => if Jar f n ≠ 0 then Jar f n else f n
theorem Jgb {f : Nat -> Int} {k n : Nat} (h : Jar f k = 0) (hk : k < n) (hf : f k ≠ 0) : Jar f n = f k := by
 induction n with
 | zero => omega
 | succ n ih =>
   by_cases e : k = n
   . subst e; simp [Jar, h]
   . have := ih (by omega)
     simp [Jar, this, hf]
theorem Jdi {f : Nat -> Int} {k : Nat} (h : Jar f k = 0) (hf : f k = 0) : Jar f (k + 1) = 0 := by simp [Jar, h, hf]
theorem Jfn {f : Nat -> Int} : ∀ {n : Nat}, Jar f n = 0 -> ∀ {k : Nat}, k < n -> f k = 0
 | 0, _, k, hk => by omega
 | n + 1, h, k, hk => by
   simp only [Jar] at h
   split at h
   . rename_i h1; exact absurd h h1
   . rename_i h1
     by_cases e : k = n
     . subst e; exact h
     . exact Jfn (by simpa using h1) (by omega)
def Jer {α : Type} (xs : List α) (f : α -> Int) (k : Nat) : Int := match xs[k]? with | some x => f x | none => 0
def Je9 (c : Circuit) (l : List Port) : Int := Jar (Jer l (Jbq c)) l.length
def Jfr (c : Circuit) (l : List Port) : Int := Jar (Jer l (Jb1 c)) l.length
theorem Jz5 (c : Circuit) (l : List Port) (hc : Sized c) (hl : l.length < 1000000) : Pure Tryz.prog GL 104 [c.av, .p (.lst 2 (l.map Port.enc))] (.p (.int .i64 (Je9 c l))) := by
 refine Pure.of_walk (N := 25) Tryz.func104 rfl rfl rfl (by simp) (by first | (simp; done) | simp [*]) ?_
 simp
 refine Jai.go [2, 7, 8] [0] 0 [] (fun _ => []) (fun _ (k : Nat) => [(9, .p (.int .i64 k))]) (fun _ _ => []) (fun k => k <= l.length /\ Jar (Jer l (Jbq c)) k = 0) (fun k => l.length - k) 0 ⟨by omega, rfl⟩ ?_ ?_
 . simp
 . rintro k ⟨hk, hp⟩
   simp
   refine Jac (fun h => ?_) (fun h => ?_)
   . simp at h
     obtain ⟨x, e⟩ := Jag h
     have hx : Jer l (Jbq c) k = Jbq c x := by simp [Jer, e, -getElem?_pos]
     by_cases hb : x.part < 0 \/ (c.parts.length : Int) <= x.part
     . have h2 : Jbq c x = 2 := if_pos hb
       have h3 : Je9 c l = 2 := by rw [Je9, Jgb hp h (by rw [hx, h2]; decide), hx, h2]
       simp [h, e, -getElem?_pos, List.getElem?_cons_zero, List.getElem?_cons_succ]
       repeat' (first | (apply Jac <;> intro hq <;> (try simp at hq) <;> (try simp [hq])) | (apply Jfg <;> intro hq <;> (try simp at hq) <;> (try simp [hq])))
       all_goals (try simp [Jaa, h3])
       all_goals omega
     . have h2 : Jbq c x = 0 := if_neg hb
       have h4 : ¬ x.part < 0 := by omega
       have h5 : ¬ (c.parts.length : Int) <= x.part := by omega
       simp [h, e, h4, h5, -getElem?_pos, List.getElem?_cons_zero, List.getElem?_cons_succ]
       refine ⟨wrap_i64 (by omega) (by omega), k + 1, ⟨by omega, Jdi hp (by rw [hx, h2])⟩, by omega, ?_⟩
       simp
   . simp at h
     have hk2 : k = l.length := by omega
     subst hk2
     simp [Jaa, Je9, hp]
theorem Jz3 (c : Circuit) (l : List Port) (hc : Sized c) (hl : l.length < 1000000) (hk : ∀ p ∈ c.parts, 0 <= p.kind /\ p.kind < 14) (hr : ∀ p ∈ l, 0 <= p.part /\ p.part < c.parts.length) : Pure Tryz.prog GL 105 [c.av, .p (.lst 2 (l.map Port.enc))] (.p (.int .i64 (Jfr c l))) := by
 refine Pure.of_walk (N := 25) Tryz.func105 rfl rfl rfl (by simp) (by first | (simp; done) | simp [*]) ?_
 simp
 refine Jai.go [2, 7, 8] [0] 0 [] (fun _ => []) (fun _ (k : Nat) => [(9, .p (.int .i64 k))]) (fun _ _ => []) (fun k => k <= l.length /\ Jar (Jer l (Jb1 c)) k = 0) (fun k => l.length - k) 0 ⟨by omega, rfl⟩ ?_ ?_
 . simp
 . rintro k ⟨hk1, hp⟩
   simp
   refine Jac (fun h => ?_) (fun h => ?_)
   . simp at h
     obtain ⟨x, e⟩ := Jag h
     have hx : Jer l (Jb1 c) k = Jb1 c x := by simp [Jer, e, -getElem?_pos]
     obtain ⟨hr1, hr2⟩ := hr x (List.mem_of_getElem? e)
     obtain ⟨y, ey⟩ := Jag (xs := c.parts) (k := x.part.toNat) (by omega)
     simp [h, e, -getElem?_pos, List.getElem?_cons_zero, List.getElem?_cons_succ]
     refine Jak.intro (by kernel_rfl) ?_
     simp [hr1, hr2, ey, -getElem?_pos, List.getElem?_cons_zero, List.getElem?_cons_succ]
     refine Jab (Jr7 y (hk y (List.mem_of_getElem? ey))) ?_
     simp
     have hlen : (Jbg y).length < 1000000 := by
       have h5 := (hk y (List.mem_of_getElem? ey))
       have h6 := (Jo0 (k := y.kind.toNat) (by omega)).2.2
       simp only [Jbg]; omega
     refine Jab (Jr3 (Jbg y) x.name (by omega)) ?_
     simp
     refine ⟨.of (by kernel_rfl), ?_⟩
     have hn : Jb1 c x = if x.name ∈ Jbg y then 0 else 6 := by simp [Jb1, ey, -getElem?_pos]
     refine Jac (fun h2 => ?_) (fun h2 => ?_)
     . simp at h2
       have h3 : Jfr c l = 6 := by rw [Jfr, Jgb hp h (by rw [hx, hn, if_neg h2]; decide), hx, hn, if_neg h2]
       simp [Jaa, h3]
     . simp at h2
       simp
       refine ⟨wrap_i64 (by omega) (by omega), k + 1, ⟨by omega, Jdi hp (by rw [hx, hn, if_pos h2])⟩, by omega, ?_⟩
       simp
   . simp at h
     have hk2 : k = l.length := by omega
     subst hk2
     simp [Jaa, Jfr, hp]
end Go.Am
namespace Go.Am
open Go Go.Proofs Go.Pn
def partAt (c : Circuit) (k : Nat) : Int := match c.parts[k]? with
 | some p => if Jax p ≠ 0 then Jax p else if 0 < k /\ ¬ Op.bytesLess ((c.parts[k - 1]?.map (·.name)).getD []) p.name = true then 9 else 0
 | none => 0
def Jei (c : Circuit) (k : Nat) : Int := match c.parts[k]? with
 | some p => if p.kind = 6 /\ Jdz c p.name < 0 then 6 else 0
 | none => 0
def Jda (c : Circuit) (x : Pipe) : Int := if Je9 c [x.fr, x.to] ≠ 0 then Je9 c [x.fr, x.to] else if Jfr c [x.fr, x.to] ≠ 0 then Jfr c [x.fr, x.to] else if 0 <= Jcb x.fr x.to then 9 else 0
def Jcj (c : Circuit) (k : Nat) : Int := match c.pipes[k]? with
 | some x => if Jda c x ≠ 0 then Jda c x else match k, c.pipes[k - 1]? with
   | _ + 1, some y => if 0 <= Je3 y x then 9 else 0
   | _, _ => 0
 | none => 0
def Jad (c : Circuit) : Int :=
 if 64 < c.parts.length then 5 else
 if Jar (partAt c) c.parts.length ≠ 0 then Jar (partAt c) c.parts.length else
 if Jar (Jei c) c.parts.length ≠ 0 then Jar (Jei c) c.parts.length else
 if 256 < c.pipes.length then 5 else Jar (Jcj c) c.pipes.length
theorem J75 {c : Circuit} {a b : Port} (h : Je9 c [a, b] = 0) : ∀ p ∈ [a, b], 0 <= p.part /\ p.part < c.parts.length := by
 have h1 := Jfn (n := 2) h (k := 0) (by omega)
 have h2 := Jfn (n := 2) h (k := 1) (by omega)
 simp [Jer, Jbq] at h1 h2
 intro p hp
 simp at hp
 rcases hp with rfl | rfl <;> omega
theorem Jg2 (c : Circuit) (hc : Sized c) : Pure Tryz.prog GL 71 [c.av] (.p (.int .i64 (Jad c))) := by
 refine Pure.of_walk (N := 115) Tryz.func71 rfl rfl rfl (by simp) (by first | (simp; done) | simp [*]) ?_
 simp
 refine Jac (fun h => ?_) (fun h => ?_)
 . have h' : 64 < c.parts.length := by simp at h; omega
   have hP : Jad c = 5 := by unfold Jad; rw [if_pos h']
   simp [Jaa, hP]
 . have h0 : ¬ 64 < c.parts.length := by simp at h; omega
   simp
   refine Jai.go [1, 17, 18] [0] 0 [] (fun _ => []) (fun _ (k : Nat) => [(19, .p (.int .i64 k))]) (fun _ _ => []) (fun k => k <= c.parts.length /\ Jar (partAt c) k = 0) (fun k => c.parts.length - k) 0 ⟨by omega, rfl⟩ ?_ ?_
   . simp
   . rintro k ⟨hk, hp⟩
     simp
     refine Jac (fun h1 => ?_) (fun h1 => ?_)
     . simp at h1
       obtain ⟨x, e⟩ := Jag h1
       have hbad : ∀ m : Int, partAt c k = m -> m ≠ 0 -> Jad c = m := by
         intro m h2 h3
         have h4 : Jar (partAt c) c.parts.length = m := by rw [Jgb hp h1 (by rw [h2]; exact h3), h2]
         unfold Jad
         rw [if_neg h0, h4, if_pos h3]
       have hx : partAt c k = if Jax x ≠ 0 then Jax x else if 0 < k /\ ¬ Op.bytesLess ((c.parts[k - 1]?.map (·.name)).getD []) x.name = true then 9 else 0 := by simp only [partAt, e]
       simp [h1, e, -getElem?_pos, List.getElem?_cons_zero, List.getElem?_cons_succ]
       refine Jab (Jn5 x (by have := hc.names x (List.mem_of_getElem? e); omega)) ?_
       simp
       refine Jac (fun h2 => ?_) (fun h2 => ?_)
       . simp at h2
         have h3 := hbad (Jax x) (by rw [hx, if_pos h2]) h2
         simp [Jaa, h3]
       . simp at h2
         rw [if_neg (by simp [h2])] at hx
         cases k with
         | zero =>
           simp
           refine Jak.intro (by kernel_rfl) ?_
           simp
           refine ⟨.of (by kernel_rfl), 0 + 1, ⟨by omega, Jdi hp (by rw [hx]; simp)⟩, by omega, ?_⟩
           simp
         | succ k =>
           obtain ⟨y, ey⟩ := Jag (xs := c.parts) (k := k) (by omega)
           have e0 : (0 : Int) < (k : Int) + 1 := by omega
           have e1 : (k : Int) + 1 - 1 = k := by omega
           have e2 : k < c.parts.length := by omega
           simp
           refine Jak.intro (by kernel_rfl) ?_
           simp [e0, e1, e2, ey, -getElem?_pos, List.getElem?_cons_zero, List.getElem?_cons_succ]
           refine ⟨wrap_i64 (by omega) (by omega), .of (by kernel_rfl), ?_⟩
           have hk1 : k + 1 - 1 = k := by omega
           rw [hk1, ey] at hx
           simp at hx
           refine Jac (fun h3 => ?_) (fun h3 => ?_)
           . have h5 : Op.bytesLess y.name x.name = false := by rw [Jk7] at h3; simpa using h3
             have h4 := hbad 9 (by rw [hx]; simp [h5]) (by decide)
             simp [Jaa, h4]
           . have h5 : Op.bytesLess y.name x.name = true := by rw [Jk7] at h3; simpa using h3
             simp [h5] at hx
             simp
             refine ⟨wrap_i64 (by omega) (by omega), k + 1 + 1, ⟨by omega, Jdi hp hx⟩, by omega, ?_⟩
             simp
     . simp at h1
       have hk2 : k = c.parts.length := by omega
       subst hk2
       simp
       refine Jai.go [1, 45, 46] [0] 0 [] (fun _ => []) (fun _ (k : Nat) => [(47, .p (.int .i64 k))]) (fun _ _ => []) (fun k => k <= c.parts.length /\ Jar (Jei c) k = 0) (fun k => c.parts.length - k) 0 ⟨by omega, rfl⟩ ?_ ?_
       . simp
       . rintro k ⟨hk, hp2⟩
         simp
         refine Jac (fun h1 => ?_) (fun h1 => ?_)
         . simp at h1
           obtain ⟨x, e⟩ := Jag h1
           simp [h1, e, -getElem?_pos, List.getElem?_cons_zero, List.getElem?_cons_succ]
           have hx : Jei c k = if x.kind = 6 /\ Jdz c x.name < 0 then 6 else 0 := by simp only [Jei, e]
           refine Jac (fun h2 => ?_) (fun h2 => ?_)
           . simp at h2
             simp [h2]
             refine Jab (Jz7 c ⟨6, x.name, x.delay⟩ hc (hc.names x (List.mem_of_getElem? e))) ?_
             simp
             refine Jac (fun h3 => ?_) (fun h3 => ?_)
             . simp at h3
               rw [if_pos ⟨h2, h3⟩] at hx
               have hP : Jad c = 6 := by unfold Jad; rw [if_neg h0, hp, Jgb hp2 h1 (by rw [hx]; decide), hx]; simp
               simp [Jaa, hP]
             . simp at h3
               rw [if_neg (by omega)] at hx
               simp
               refine ⟨wrap_i64 (by omega) (by omega), k + 1, ⟨by omega, Jdi hp2 hx⟩, by omega, ?_⟩
               simp
           . simp at h2
             rw [if_neg (by simp [h2])] at hx
             simp [h2]
             refine ⟨wrap_i64 (by omega) (by omega), k + 1, ⟨by omega, Jdi hp2 hx⟩, by omega, ?_⟩
             simp
         . simp at h1
           have hk2 : k = c.parts.length := by omega
           subst hk2
           simp
           refine Jac (fun h3 => ?_) (fun h3 => ?_)
           . have h3' : 256 < c.pipes.length := by simp at h3; omega
             have hP : Jad c = 5 := by unfold Jad; rw [if_neg h0, hp, hp2]; simp [h3']
             simp [Jaa, hP]
           . have h3' : ¬ 256 < c.pipes.length := by simp at h3; omega
             simp
             refine Jai.go [1, 66, 67] [0] 0 [] (fun _ => []) (fun _ (k : Nat) => [(68, .p (.int .i64 k))]) (fun _ _ => []) (fun k => k <= c.pipes.length /\ Jar (Jcj c) k = 0) (fun k => c.pipes.length - k) 0 ⟨by omega, rfl⟩ ?_ ?_
             . simp
             . rintro k ⟨hk, hp3⟩
               simp
               refine Jac (fun h1 => ?_) (fun h1 => ?_)
               . simp at h1
                 obtain ⟨x, e⟩ := Jag h1
                 have hkinds : ∀ p ∈ c.parts, 0 <= p.kind /\ p.kind < 14 := by
                   intro p hpm
                   obtain ⟨j, hj, rfl⟩ := List.getElem_of_mem hpm
                   have h7 := Jfn hp hj
                   simp only [partAt, List.getElem?_eq_getElem hj] at h7
                   have h8 : Jbc c.parts[j].kind = 0 := by
                     by_cases h9 : Jbc c.parts[j].kind = 0
                     . exact h9
                     . exfalso
                       have h10 : Jax c.parts[j] ≠ 0 := by simp [Jax, h9]
                       rw [if_pos h10] at h7
                       exact h10 h7
                   exact Jfp.1 h8
                 have hbad : ∀ m : Int, Jcj c k = m -> m ≠ 0 -> Jad c = m := by
                   intro m h2 h3
                   have h4 : Jar (Jcj c) c.pipes.length = m := by rw [Jgb hp3 h1 (by rw [h2]; exact h3), h2]
                   unfold Jad
                   rw [if_neg h0, hp, hp2, h4]
                   simp [h3']
                 have hx : ∀ m, Jda c x = m -> m ≠ 0 -> Jcj c k = m := by
                   intro m h2 h3
                   simp only [Jcj, e]
                   rw [if_pos (by rw [h2]; exact h3), h2]
                 simp [h1, e, -getElem?_pos, List.getElem?_cons_zero, List.getElem?_cons_succ]
                 refine Jfz ?_
                 simp
                 refine ⟨_, Jz5 c [x.fr, x.to] hc (by simp), rfl, ?_⟩
                 simp
                 refine Jac (fun h4 => ?_) (fun h4 => ?_)
                 . simp at h4
                   have h5 := hbad _ (hx (Je9 c [x.fr, x.to]) (by simp [Jda, h4]) h4) h4
                   simp [Jaa, h5]
                 . simp at h4
                   simp
                   refine Jfz ?_
                   simp
                   refine ⟨_, Jz3 c [x.fr, x.to] hc (by simp) hkinds (J75 h4), rfl, ?_⟩
                   simp
                   refine Jac (fun h5 => ?_) (fun h5 => ?_)
                   . simp at h5
                     have h6 := hbad _ (hx (Jfr c [x.fr, x.to]) (by simp [Jda, h4, h5]) h5) h5
                     simp [Jaa, h6]
                   . simp at h5
                     have hp0 : Jda c x = if 0 <= Jcb x.fr x.to then 9 else 0 := by simp [Jda, h4, h5]
                     simp
                     refine Jak.intro (by kernel_rfl) ?_
                     simp
                     refine Jab (Jla x.fr x.to) ?_
                     simp
                     by_cases h6 : 0 <= Jcb x.fr x.to
                     . have h7 := hbad 9 (hx 9 (by rw [hp0, if_pos h6]) (by decide)) (by decide)
                       simp [h6]
                       refine ⟨.of (by kernel_rfl), ?_⟩
                       simp [Jaa, h7]
                     . rw [if_neg h6] at hp0
                       simp [h6]
                       cases k with
                       | zero =>
                         simp
                         refine ⟨.of (by kernel_rfl), 0 + 1, ⟨by omega, Jdi hp3 (by simp [Jcj, e, hp0, -getElem?_pos])⟩, by omega, ?_⟩
                         simp
                       | succ k =>
                         obtain ⟨y, ey⟩ := Jag (xs := c.pipes) (k := k) (by omega)
                         have e0 : (0 : Int) < (k : Int) + 1 := by omega
                         have e1 : (k : Int) + 1 - 1 = k := by omega
                         have e2 : k < c.pipes.length := by omega
                         have hq : Jcj c (k + 1) = if 0 <= Je3 y x then 9 else 0 := by
                           have hk1 : k + 1 - 1 = k := by omega
                           simp only [Jcj, e, hp0, hk1, ey]
                           simp
                         simp [e0, e1, e2, ey, -getElem?_pos, List.getElem?_cons_zero, List.getElem?_cons_succ]
                         refine ⟨wrap_i64 (by omega) (by omega), ?_⟩
                         refine Jab (Jz8 y x) ?_
                         simp
                         refine ⟨.of (by kernel_rfl), ?_⟩
                         refine Jac (fun h8 => ?_) (fun h8 => ?_)
                         . simp at h8
                           have h9 := hbad 9 (by rw [hq, if_pos h8]) (by decide)
                           simp [Jaa, h9]
                         . simp at h8
                           simp
                           refine ⟨wrap_i64 (by omega) (by omega), k + 1 + 1, ⟨by omega, Jdi hp3 (by rw [hq, if_neg (by omega)])⟩, by omega, ?_⟩
                           simp
               . simp at h1
                 have hk2 : k = c.pipes.length := by omega
                 subst hk2
                 have hP : Jad c = 0 := by unfold Jad; rw [if_neg h0, hp, hp2, hp3]; simp [h3']
                 simp [Jaa, hP]
end Go.Am
namespace Go.Am
open Go Go.Proofs Go.Pn
def Jb9 (c : Circuit) : Nat -> List Port
 | 0 => []
 | k + 1 => Jb9 c k ++ match c.parts[k]? with
   | some p => (Jbg p).map fun s => ⟨k, s⟩
   | none => []
def allP (c : Circuit) : List Port := Jb9 c c.parts.length
def Jb5 (c : Circuit) : Prop := ∀ p ∈ c.parts, 0 <= p.kind /\ p.kind < 14
theorem Jwl {p : Part} (h : 0 <= p.kind /\ p.kind < 14) : (Jbg p).length <= 12 := (Jo0 (k := p.kind.toNat) (by omega)).2.2
theorem Jk3 {c : Circuit} (h : Jb5 c) : ∀ {k : Nat}, (Jb9 c k).length <= 12 * k
 | 0 => by simp [Jb9]
 | k + 1 => by
   have := Jk3 h (k := k)
   simp only [Jb9]
   split
   . rename_i p hp
     have := Jwl (h p (List.mem_of_getElem? hp))
     simp; omega
   . simp; omega
def allIn (c : Circuit) (k : Nat) (l : List Txt) : List Port := Jb9 c k ++ l.map fun s => ⟨k, s⟩
theorem Jy4 {c : Circuit} {k : Nat} : allIn c k [] = Jb9 c k := by simp [allIn]
theorem Jy5 {c : Circuit} {k i : Nat} {l : List Txt} {y : Txt} (e : l[i]? = some y) : allIn c k (l.take (i + 1)) = allIn c k (l.take i) ++ [⟨k, y⟩] := by simp only [allIn]; rw [take_snoc e]; simp
theorem Jy3 {c : Circuit} {k i : Nat} {l : List Txt} : (allIn c k (l.take i)).length <= (Jb9 c k).length + l.length := by simp [allIn]; omega
theorem Jy2 {c : Circuit} {k : Nat} {p : Part} (e : c.parts[k]? = some p) : allIn c k (Jbg p) = Jb9 c (k + 1) := by simp only [allIn, Jb9, e]
theorem Jr6 (c : Circuit) (hk : Jb5 c) (hn : c.parts.length <= 100) : Pure Tryz.prog GL 118 [c.av] (.p (.lst 2 ((allP c).map Port.enc))) := by
 refine Pure.of_walk (N := 32) Tryz.func118 rfl rfl rfl (by simp) (by first | (simp; done) | simp [*]) ?_
 simp
 refine Jai.go [9, 10] [] 1 [1] (nms [3]) (fun nx (k : Nat) => [(3, .acc nx 2 (Jb9 c k).length), (11, .p (.int .i64 k))]) (fun nx k => [(nx, accB 2 ((Jb9 c k).map Port.row))]) (fun k => k <= c.parts.length) (fun k => c.parts.length - k) 0 (by omega) ?_ ?_
 . simp [Jb9]
 . intro k hk1
   have hb := Jk3 hk (k := k)
   simp
   refine Jac (fun h => ?_) (fun h => ?_)
   . simp at h
     obtain ⟨x, e⟩ := Jag h
     have hx := hk x (List.mem_of_getElem? e)
     have hpl := Jwl hx
     simp [h, e, -getElem?_pos, List.getElem?_cons_zero, List.getElem?_cons_succ]
     refine Jab (Jr7 x hx) ?_
     simp
     refine Jai.gor [4, 9, 10, 11, 17, 18] [] [0, 1, 2] (fun st => [0, nameOf (slot st.t 3), 2]) (fun (i : Nat) => [(3, .acc 1 2 (allIn c k ((Jbg x).take i)).length), (19, .p (.int .i64 i))]) (fun i => [(1, accB 2 ((allIn c k ((Jbg x).take i)).map Port.row))]) (fun i => i <= (Jbg x).length) (fun i => (Jbg x).length - i) 0 (by omega) ?_ ?_
     . simp [Jy4]
     . intro i hi
       have hil := Jy3 (c := c) (k := k) (l := Jbg x) (i := i)
       simp
       refine Jac (fun h2 => ?_) (fun h2 => ?_)
       . simp at h2
         obtain ⟨y, e2⟩ := Jag h2
         have hs := Jy5 (c := c) (k := k) e2
         simp [h2, e2, -getElem?_pos, List.getElem?_cons_zero, List.getElem?_cons_succ]
         refine ⟨by omega, wrap_i64 (by omega) (by omega), i + 1, by omega, by omega, ?_⟩
         simp [hs]
       . simp at h2
         have h3 : i = (Jbg x).length := by omega
         subst h3
         have ha := Jy2 e
         simp [ha]
         refine ⟨wrap_i64 (by omega) (by omega), k + 1, by omega, by omega, ?_⟩
         simp
   . simp at h
     have hk2 : k = c.parts.length := by omega
     subst hk2
     simp [Jaa, allP]
theorem Jz0 (c : Circuit) (s : Txt) (hc : Sized c) : Pure Tryz.prog GL 36 [c.av, .p (.str s)] (.tup [.p (.int .i64 (if Jad c ≠ 0 then 0 else if idxI c.parts (fun p => decide (p.name = s)) < 0 then 0 else idxI c.parts fun p => decide (p.name = s))), .p (.int .i64 (if Jad c ≠ 0 then Jad c else if idxI c.parts (fun p => decide (p.name = s)) < 0 then 6 else 0))]) := by
 refine Pure.of_walk (N := 19) Tryz.func36 rfl rfl rfl (by simp) (by first | (simp; done) | simp [*]) ?_
 simp
 refine Jab (Jg2 c hc) ?_
 by_cases h : Jad c = 0
 . simp [h]
   refine Jab (Jn2 c s hc) ?_
   generalize (idxI c.parts fun p => decide (p.name = s)) = m
   by_cases h2 : m < 0
   . simp [h2, Jaa, h]
   . simp [h2, Jaa, h]
 . simp [h, Jaa]
end Go.Am
namespace Go.Am
open Go Go.Proofs Go.Pn
theorem J1j (c : Circuit) (s : Txt) (hc : Sized c) : Pure Tryz.prog GL 50 [c.av, .p (.str s)] (.p (.int .i64 (idxI c.parts fun p => decide (p.name = s)))) := by
 refine Pure.of_walk (N := 22) Tryz.func50 rfl rfl rfl (by simp) (by first | (simp; done) | simp [*]) ?_
 simp
 refine Jai.go [1, 2] [0] 0 [] (fun _ => []) (fun _ (k : Nat) => [(5, .p (.int .i64 k))]) (fun _ _ => []) (fun k => k <= c.parts.length /\ ∀ (j : Nat) x, j < k -> c.parts[j]? = some x -> decide (x.name = s) = false) (fun k => c.parts.length - k) 0 ⟨by omega, fun j x h => by omega⟩ ?_ ?_
 . simp
 . rintro k ⟨hk, hp⟩
   have hc1 := hc.parts
   simp
   refine Jac (fun h => ?_) (fun h => ?_)
   . simp at h
     obtain ⟨x, e⟩ := Jag h
     simp [h, e, -getElem?_pos, List.getElem?_cons_zero, List.getElem?_cons_succ]
     refine Jac (fun h2 => ?_) (fun h2 => ?_)
     . simp [Jaa, Je6 (q := fun p => decide (p.name = s)) e h2 hp]
     . simp
       refine ⟨wrap_i64 (by omega) (by omega), k + 1, ⟨by omega, ?_⟩, by omega, ?_⟩
       . simpa using Jeo (P := fun p : Part => decide (p.name = s) = false) hp e h2
       . simp
   . simp at h
     have : k = c.parts.length := by omega
     subst this
     have hI : (idxI c.parts fun p => decide (p.name = s)) = -1 := Jgf (Je2 hp)
     simp [Jaa, hI]
def cylB (c : Circuit) (s : Txt) : Bool := match c.parts.findIdx? fun p => decide (p.name = s) with
 | none => false
 | some i => decide ((c.parts[i]?.map (·.kind)) = some 1)
theorem Jsp (c : Circuit) (s : Txt) (hc : Sized c) : Pure Tryz.prog GL 308 [c.av, .p (.str s)] (.p (.bool (cylB c s))) := by
 refine Pure.of_walk (N := 20) Tryz.func308 rfl rfl rfl (by simp) (by first | (simp; done) | simp [*]) ?_
 simp
 refine Jab (J1j c s hc) ?_
 rcases Jh8 c.parts (fun q => decide (q.name = s)) with ⟨h1, h2⟩ | ⟨i, x, h1, h2, h3, h4⟩
 . simp [h2, Jaa, cylB, h1]
 . obtain ⟨h5, h6⟩ := gsI.1 h3
   have h7 : (0 : Int) <= i := by omega
   simp [h2, h3, h5, h7, -getElem?_pos, List.getElem?_cons_zero, List.getElem?_cons_succ]
   simp [Jaa, cylB, h1, h3, -getElem?_pos]
def belB (c : Circuit) (s : Txt) : Bool := decide (1 < s.length) && (decide (s.getLast? = some 48) || decide (s.getLast? = some 49)) && cylB c s.dropLast
theorem J1l (c : Circuit) (s : Txt) (hc : Sized c) (hs : s.length < 4611686018427387900) : Pure Tryz.prog GL 239 [c.av, .p (.str s)] (.p (.bool (belB c s))) := by
 refine Pure.of_walk (N := 32) Tryz.func239 rfl rfl rfl (by simp) (by first | (simp; done) | simp [*]) ?_
 by_cases h : 1 < s.length
 . obtain ⟨x, e⟩ := Jag (xs := s) (k := s.length - 1) (by omega)
   have hl : s.getLast? = some x := by rw [List.getLast?_eq_getElem?]; exact e
   have h1 : (1 : Int) < s.length := by omega
   have h2 : (0 : Int) <= (s.length : Int) - 1 := by omega
   have h3 : ((s.length : Int) - 1).toNat = s.length - 1 := by omega
   have h4 : (s.length : Int) - 1 <= s.length := by omega
   have h5 : ((x.toNat : Int) = 48) ↔ x = 48 := by rw [<- UInt8.toNat_inj]; simp; omega
   have h6 : ((x.toNat : Int) = 49) ↔ x = 49 := by rw [<- UInt8.toNat_inj]; simp; omega
   simp
   refine Jak.intro (by kernel_rfl) ?_
   simp [h, h1, h2, h3, h4, e, -getElem?_pos, List.getElem?_cons_zero, List.getElem?_cons_succ]
   refine ⟨wrap_i64 (by omega) (by omega), by omega, ?_⟩
   have hd : s.take (s.length - 1) = s.dropLast := by rw [List.dropLast_eq_take]
   have h7 : (1 : Int) <= s.length := by omega
   have h8 : (s.length : Int) - 1 <= s.length := by omega
   have hcl : Sized c := hc
   by_cases e1 : x = 48
   . subst e1
     simp [h, h1]
     refine ⟨wrap_i64 (by omega) (by omega), ?_⟩
     rw [if_pos ⟨h7, h8⟩]
     simp [h3, hd]
     refine Jab (Jsp c s.dropLast hc) ?_
     simp
     refine ⟨.of (by kernel_rfl), ?_⟩
     simp [Jaa, belB, h, hl]
   . have e1' : ¬ (x.toNat : Int) = 48 := fun h => e1 (h5.1 h)
     simp [e1', h, h1, h2, h3, h4, e, -getElem?_pos, List.getElem?_cons_zero, List.getElem?_cons_succ]
     refine ⟨wrap_i64 (by omega) (by omega), by omega, ?_⟩
     by_cases e2 : x = 49
     . subst e2
       simp [h, h1]
       refine ⟨wrap_i64 (by omega) (by omega), ?_⟩
       rw [if_pos ⟨h7, h8⟩]
       simp [h3, hd]
       refine Jab (Jsp c s.dropLast hc) ?_
       simp
       refine ⟨.of (by kernel_rfl), ?_⟩
       simp [Jaa, belB, h, hl]
     . have e2' : ¬ (x.toNat : Int) = 49 := fun h => e2 (h6.1 h)
       simp [e2', h1]
       refine ⟨.of (by kernel_rfl), ?_⟩
       simp [Jaa, belB, h, hl, e1, e2]
 . have h1 : ¬ (1 : Int) < s.length := by omega
   simp
   refine Jak.intro (by kernel_rfl) ?_
   simp [h1]
   refine ⟨.of (by kernel_rfl), ?_⟩
   simp [Jaa, belB, h]
end Go.Am
namespace Go.Am
open Go Go.Proofs Go.Pn
theorem Jvv {c : Circuit} {s : Txt} (hn : ∀ p ∈ c.parts, p.name ≠ []) : (Jdz c s < 0) ↔ belB c s = false := by
 unfold Jdz belB stem cylB
 by_cases h1 : s.getLast? = some 48 \/ s.getLast? = some 49
 . rw [if_pos h1]
   have h2 : (decide (s.getLast? = some 48) || decide (s.getLast? = some 49)) = true := by simpa using h1
   rw [h2, Bool.and_true]
   cases hf : c.parts.findIdx? fun p => decide (p.name = s.dropLast) with
   | none => simp [hf]
   | some i =>
     obtain ⟨h3, h4, _⟩ := List.findIdx?_eq_some_iff_getElem.1 hf
     have h5 : 1 < s.length := by
       have h6 := hn _ (List.getElem_mem h3)
       have h7 : c.parts[i].name = s.dropLast := by simpa using h4
       rw [h7] at h6
       have : s.dropLast.length ≠ 0 := fun h => h6 (List.length_eq_zero_iff.1 h)
       rw [List.length_dropLast] at this
       omega
     simp only [hf, h5, decide_true, Bool.true_and]
     by_cases h8 : (c.parts[i]?.map (·.kind)) = some 1
     . simp [h8]
     . simp [h8]
 . rw [if_neg h1]
   have h2 : (decide (s.getLast? = some 48) || decide (s.getLast? = some 49)) = false := by simpa using h1
   simp [h2]
theorem J41 {c : Circuit} (h : Jar (partAt c) c.parts.length = 0) : ∀ p ∈ c.parts, p.name ≠ [] := by
 intro p hp he
 obtain ⟨j, hj, rfl⟩ := List.getElem_of_mem hp
 have h7 := Jfn h hj
 simp only [partAt, List.getElem?_eq_getElem hj] at h7
 have h9 : Jcu c.parts[j].name = 3 := by rw [he]; rfl
 by_cases h10 : Jbc c.parts[j].kind = 0
 . have h11 : Jax c.parts[j] = 3 := by simp [Jax, h10, h9]
   rw [h11] at h7; simp at h7
 . have h11 : Jax c.parts[j] ≠ 0 := by simp [Jax, h10]
   rw [if_pos h11] at h7; exact h11 h7
theorem Jul {c : Circuit} (h : Jar (partAt c) c.parts.length = 0) : Jb5 c := by
 intro p hp
 obtain ⟨j, hj, rfl⟩ := List.getElem_of_mem hp
 have h7 := Jfn h hj
 simp only [partAt, List.getElem?_eq_getElem hj] at h7
 have h8 : Jbc c.parts[j].kind = 0 := by
   by_cases h9 : Jbc c.parts[j].kind = 0
   . exact h9
   . exfalso
     have h10 : Jax c.parts[j] ≠ 0 := by simp [Jax, h9]
     rw [if_pos h10] at h7
     exact h10 h7
 exact Jfp.1 h8
theorem Jpm {k : Nat} {s : Txt} (hk : k < 14) : (Jdp k s < 0) ↔ ¬ s ∈ Ja7 k := by
 have h1 : (Jem k).map Jdx = Jbn k := (by decide : ∀ k, k < 14 -> (Jem k).map Jdx = Jbn k) k hk
 have h2 : ∀ t, (t ∈ (Jbn k).flatten) ↔ t ∈ Ja7 k := by
   intro t
   rcases (by omega : k = 0 \/ k = 1 \/ k = 2 \/ k = 3 \/ k = 4 \/ k = 5 \/ k = 6 \/ k = 7 \/ k = 8 \/ k = 9 \/ k = 10 \/ k = 11 \/ k = 12 \/ k = 13) with rfl|rfl|rfl|rfl|rfl|rfl|rfl|rfl|rfl|rfl|rfl|rfl|rfl|rfl <;> simp [Jbn, Ja7] <;> grind
 have h3 : (0 <= Jdp k s) ↔ s ∈ Ja7 k := by
   unfold Jdp
   rw [Jjw, <- h2, <- h1]
   simp only [List.any_eq_true, decide_eq_true_eq, List.mem_flatten, List.mem_map]
   grind
 exact ⟨fun h hm => by have := h3.2 hm; omega, fun h => Int.not_le.1 fun h' => h (h3.1 h')⟩
def Jdo (c : Circuit) : Int :=
 if 64 < c.parts.length then 5 else
 if Jar (partAt c) c.parts.length ≠ 0 then Jar (partAt c) c.parts.length else Jar (Jei c) c.parts.length
theorem J1m (c : Circuit) (hc : Sized c) : Pure Tryz.prog GL 164 [c.av] (.p (.int .i64 (Jdo c))) := by
 refine Pure.of_walk (N := 69) Tryz.func164 rfl rfl rfl (by simp) (by first | (simp; done) | simp [*]) ?_
 simp
 refine Jac (fun h => ?_) (fun h => ?_)
 . have h' : 64 < c.parts.length := by simp at h; omega
   have hP : Jdo c = 5 := by unfold Jdo; rw [if_pos h']
   simp [Jaa, hP]
 . have h0 : ¬ 64 < c.parts.length := by simp at h; omega
   simp
   refine Jai.go [1] [0] 0 [] (fun _ => []) (fun _ (k : Nat) => [(3, .p (.int .i64 k))]) (fun _ _ => []) (fun k => k <= c.parts.length /\ Jar (partAt c) k = 0) (fun k => c.parts.length - k) 0 ⟨by omega, rfl⟩ ?_ ?_
   . simp
   . rintro k ⟨hk, hp⟩
     simp
     refine Jac (fun h1 => ?_) (fun h1 => ?_)
     . simp at h1
       obtain ⟨x, e⟩ := Jag h1
       have hbad : ∀ m : Int, partAt c k = m -> m ≠ 0 -> Jdo c = m := by
         intro m h2 h3
         have h4 : Jar (partAt c) c.parts.length = m := by rw [Jgb hp h1 (by rw [h2]; exact h3), h2]
         unfold Jdo
         rw [if_neg h0, h4, if_pos h3]
       have hx : partAt c k = if Jax x ≠ 0 then Jax x else if 0 < k /\ ¬ Op.bytesLess ((c.parts[k - 1]?.map (·.name)).getD []) x.name = true then 9 else 0 := by simp only [partAt, e]
       simp [h1, e, -getElem?_pos, List.getElem?_cons_zero, List.getElem?_cons_succ]
       refine Jab (J09 x (by have := hc.names x (List.mem_of_getElem? e); omega)) ?_
       simp
       refine Jac (fun h2 => ?_) (fun h2 => ?_)
       . simp at h2
         have h3 := hbad (Jax x) (by rw [hx, if_pos h2]) h2
         simp [Jaa, h3]
       . simp at h2
         rw [if_neg (by simp [h2])] at hx
         cases k with
         | zero =>
           simp
           refine Jak.intro (by kernel_rfl) ?_
           simp
           refine ⟨.of (by kernel_rfl), 0 + 1, ⟨by omega, Jdi hp (by rw [hx]; simp)⟩, by omega, ?_⟩
           simp
         | succ k =>
           obtain ⟨y, ey⟩ := Jag (xs := c.parts) (k := k) (by omega)
           have e0 : (0 : Int) < (k : Int) + 1 := by omega
           have e0' : (0 : Int) <= (k : Int) + 1 := by omega
           have e1 : (k : Int) + 1 - 1 = k := by omega
           have e2 : k < c.parts.length := by omega
           have e3 : (k : Int) + 1 < c.parts.length := by omega
           have e4 : ((k : Int) + 1).toNat = k + 1 := by omega
           simp
           refine Jak.intro (by kernel_rfl) ?_
           simp [e0, e0', e1, e2, e3, e4, e, ey, -getElem?_pos, List.getElem?_cons_zero, List.getElem?_cons_succ]
           refine ⟨wrap_i64 (by omega) (by omega), .of (by kernel_rfl), ?_⟩
           have hk1 : k + 1 - 1 = k := by omega
           rw [hk1, ey] at hx
           simp at hx
           refine Jac (fun h3 => ?_) (fun h3 => ?_)
           . have h5 : Op.bytesLess y.name x.name = false := by rw [Jk7] at h3; simpa using h3
             have h4 := hbad 9 (by rw [hx]; simp [h5]) (by decide)
             simp [Jaa, h4]
           . have h5 : Op.bytesLess y.name x.name = true := by rw [Jk7] at h3; simpa using h3
             simp [h5] at hx
             simp
             refine ⟨wrap_i64 (by omega) (by omega), k + 1 + 1, ⟨by omega, Jdi hp hx⟩, by omega, ?_⟩
             simp
     . simp at h1
       have hk2 : k = c.parts.length := by omega
       subst hk2
       have hne := J41 hp
       simp
       refine Jai.go [1] [0] 0 [] (fun _ => []) (fun _ (k : Nat) => [(5, .p (.int .i64 k))]) (fun _ _ => []) (fun k => k <= c.parts.length /\ Jar (Jei c) k = 0) (fun k => c.parts.length - k) 0 ⟨by omega, rfl⟩ ?_ ?_
       . simp
       . rintro k ⟨hk, hp2⟩
         simp
         refine Jac (fun h1 => ?_) (fun h1 => ?_)
         . simp at h1
           obtain ⟨x, e⟩ := Jag h1
           have hx : Jei c k = if x.kind = 6 /\ Jdz c x.name < 0 then 6 else 0 := by simp only [Jei, e]
           simp
           refine Jak.intro (by kernel_rfl) ?_
           simp [h1, e, -getElem?_pos, List.getElem?_cons_zero, List.getElem?_cons_succ]
           refine Jac (fun h2 => ?_) (fun h2 => ?_)
           . simp at h2
             simp [h2, h1, e, -getElem?_pos, List.getElem?_cons_zero, List.getElem?_cons_succ]
             refine Jab (J1l c x.name hc (hc.names x (List.mem_of_getElem? e))) ?_
             simp
             refine ⟨.of (by kernel_rfl), ?_⟩
             refine Jac (fun h3 => ?_) (fun h3 => ?_)
             . have h3' : belB c x.name = false := by simpa using h3
               rw [if_pos ⟨h2, (Jvv hne).2 h3'⟩] at hx
               have hP : Jdo c = 6 := by unfold Jdo; rw [if_neg h0, hp, Jgb hp2 h1 (by rw [hx]; decide), hx]; simp
               simp [Jaa, hP]
             . have h3' : ¬ Jdz c x.name < 0 := fun h => by have := (Jvv hne).1 h; simp [this] at h3
               rw [if_neg (fun h => h3' h.2)] at hx
               simp
               refine ⟨wrap_i64 (by omega) (by omega), k + 1, ⟨by omega, Jdi hp2 hx⟩, by omega, ?_⟩
               simp
           . simp at h2
             rw [if_neg (by simp [h2])] at hx
             simp [h2]
             refine ⟨.of (by kernel_rfl), wrap_i64 (by omega) (by omega), k + 1, ⟨by omega, Jdi hp2 hx⟩, by omega, ?_⟩
             simp
         . simp at h1
           have hk2 : k = c.parts.length := by omega
           subst hk2
           have hP : Jdo c = 0 := by unfold Jdo; rw [if_neg h0, hp, hp2]; simp
           simp [Jaa, hP]
theorem Jsq (c : Circuit) (p : Port) (hk : Jb5 c) : Pure Tryz.prog GL 240 [c.av, p.av] (.tup [.p (.int .i64 (Jbq c p)), .p (.int .i64 (if Jbq c p = 0 then Jb1 c p else 0))]) := by
 refine Pure.of_walk (N := 28) Tryz.func240 rfl rfl rfl (by simp) (by first | (simp; done) | simp [*]) ?_
 by_cases hb : p.part < 0 \/ (c.parts.length : Int) <= p.part
 . have h2 : Jbq c p = 2 := if_pos hb
   simp
   repeat' (first | (apply Jac <;> intro hq <;> (try simp at hq) <;> (try simp [hq])) | (apply Jfg <;> intro hq <;> (try simp at hq) <;> (try simp [hq])))
   all_goals (try simp [Jaa, h2])
   all_goals omega
 . have h2 : Jbq c p = 0 := if_neg hb
   have h4 : ¬ p.part < 0 := by omega
   have h4' : 0 <= p.part := by omega
   have h5 : ¬ (c.parts.length : Int) <= p.part := by omega
   have h5' : p.part < (c.parts.length : Int) := by omega
   obtain ⟨x, e⟩ := Jag (xs := c.parts) (k := p.part.toNat) (by omega)
   have hx := hk x (List.mem_of_getElem? e)
   have hn : Jb1 c p = if p.name ∈ Jbg x then 0 else 6 := by simp only [Jb1, e]
   simp [h4, h5]
   refine Jak.intro (by kernel_rfl) ?_
   simp [h4', h5', e, -getElem?_pos, List.getElem?_cons_zero, List.getElem?_cons_succ]
   have hk3 : x.kind = (x.kind.toNat : Int) := by omega
   rw [hk3]
   refine Jab (J1b x.kind.toNat p.name (by omega)) ?_
   simp
   refine ⟨.of (by kernel_rfl), ?_⟩
   have hpl := Jpm (k := x.kind.toNat) (s := p.name) (by omega)
   refine Jac (fun h6 => ?_) (fun h6 => ?_)
   . simp at h6
     have h7 : ¬ p.name ∈ Jbg x := hpl.1 h6
     simp [Jaa, h2, hn, h7]
   . simp at h6
     have h7 : p.name ∈ Jbg x := by
       by_cases h8 : p.name ∈ Jbg x
       . exact h8
       . have := hpl.2 h8; omega
     simp [Jaa, h2, hn, h7]
end Go.Am
namespace Go.Am
open Go Go.Proofs Go.Pn
theorem Jg5 {a b : Port} : (Jcb a b < 0) ↔ Jav a b = true := by
 unfold Jcb Jav cmpI
 by_cases h : a.part = b.part
 . simp [orI, h]
   by_cases h2 : Lib.compareBytes a.name b.name = 0
   . have := Jd6.1 h2
     have h3 := (Jd6 (a := b.name) (b := b.name)).2 rfl
     simp [this, Jfi, h3]
   . simp [h2, Jle]
 . by_cases h2 : a.part < b.part
   . simp [orI, h, h2]
   . have h3 : b.part < a.part := by omega
     simp [orI, h, h2, h3]
theorem Jhy {a b : Port} : Jcb a b = 0 ↔ a = b := by
 unfold Jcb cmpI
 by_cases h : a.part = b.part
 . simp [orI, h]
   by_cases h2 : Lib.compareBytes a.name b.name = 0
   . have h3 := Jd6.1 h2
     cases a; cases b
     simp at h h3
     simp [h, h3, Jd6.2]
   . have h3 : a.name ≠ b.name := fun e => h2 (Jd6.2 e)
     have : a ≠ b := fun e => h3 (by rw [e])
     simp [h2, this]
 . have : a ≠ b := fun e => h (by rw [e])
   by_cases h2 : a.part < b.part
   . simp [orI, h2, this]
   . have h3 : b.part < a.part := by omega
     simp [orI, h2, h3, this]
theorem Joc {a b : Pipe} : (Je3 a b < 0) ↔ Jbu a b = true := by
 unfold Je3 Jbu
 by_cases h : a.fr = b.fr
 . have h1 : Jcb a.fr b.fr = 0 := Jhy.2 h
   have h0 : Jcb b.fr b.fr = 0 := Jhy.2 rfl
   simp only [orI, h, h0, if_true]
   by_cases h2 : Jcb a.to b.to = 0
   . have h3 := Jhy.1 h2
     have h4 : ¬ Jav a.to b.to = true := fun h => by have := Jg5.2 h; omega
     simp [h2, h4]
   . simp [h2, Jg5]
 . have h1 : Jcb a.fr b.fr ≠ 0 := fun e => h (Jhy.1 e)
   simp [orI, h1, h, Jg5]
theorem Jwv {c : Circuit} {a b : Port} : Je9 c [a, b] = if Jbq c a ≠ 0 then Jbq c a else Jbq c b := by
 simp [Je9, Jar, Jer]
theorem Ju4 {c : Circuit} {a b : Port} : Jfr c [a, b] = if Jb1 c a ≠ 0 then Jb1 c a else Jb1 c b := by
 simp [Jfr, Jar, Jer]
theorem Jir {c : Circuit} {a : Port} : Jbq c a = 0 \/ Jbq c a = 2 := by unfold Jbq; split <;> simp
theorem Jl9 {c : Circuit} {a : Port} : Jb1 c a = 0 \/ Jb1 c a = 6 := by unfold Jb1; split <;> (try split) <;> simp
theorem J1n (c : Circuit) (x : Pipe) (hk : Jb5 c) : Pure Tryz.prog GL 165 [c.av, x.av] (.p (.int .i64 (Jda c x))) := by
 refine Pure.of_walk (N := 41) Tryz.func165 rfl rfl rfl (by simp) (by first | (simp; done) | simp [*]) ?_
 simp
 refine Jab (Jsq c x.fr hk) ?_
 simp
 refine Jab (Jsq c x.to hk) ?_
 have hp : Jda c x = if Jbq c x.fr ≠ 0 \/ Jbq c x.to ≠ 0 then 2 else if Jb1 c x.fr ≠ 0 \/ Jb1 c x.to ≠ 0 then 6 else if Jav x.fr x.to = true then 0 else 9 := by
   have h1 := Jir (c := c) (a := x.fr)
   have h2 := Jir (c := c) (a := x.to)
   have h3 := Jl9 (c := c) (a := x.fr)
   have h4 := Jl9 (c := c) (a := x.to)
   have h5 := Jg5 (a := x.fr) (b := x.to)
   unfold Jda
   rw [Jwv, Ju4]
   grind
 have h1 := Jir (c := c) (a := x.fr)
 have h2 := Jir (c := c) (a := x.to)
 generalize Jbq c x.fr = r1 at *
 generalize Jbq c x.to = r2 at *
 generalize Jb1 c x.fr = n1 at *
 generalize Jb1 c x.to = n2 at *
 rcases h1 with rfl | rfl
 . rcases h2 with rfl | rfl
   . by_cases h3 : n1 = 0
     . by_cases h4 : n2 = 0
       . simp [h3, h4]
         refine Jab (Jn6 x.fr x.to) ?_
         simp
         cases h5 : Jav x.fr x.to with
         | true => simp [Jaa, hp, h3, h4, h5]
         | false => simp [Jaa, hp, h3, h4, h5]
       . simp [Jaa, h3, h4, hp]
     . simp [Jaa, h3, hp]
   . simp [Jaa, hp]
 . simp [Jaa, hp]
theorem J1g (c : Circuit) (hc : Sized c) : Pure Tryz.prog GL 75 [c.av] (.p (.int .i64 (Jad c))) := by
 refine Pure.of_walk (N := 49) Tryz.func75 rfl rfl rfl (by simp) (by first | (simp; done) | simp [*]) ?_
 simp
 refine Jab (J1m c hc) ?_
 simp
 refine Jac (fun h => ?_) (fun h => ?_)
 . have hP : Jad c = Jdo c := by
     simp at h
     unfold Jad Jdo at *
     grind
   simp [Jaa, hP]
 . have hn : Jdo c = 0 := by simpa using h
   have h0 : ¬ 64 < c.parts.length := by intro h0; unfold Jdo at hn; rw [if_pos h0] at hn; simp at hn
   have hp : Jar (partAt c) c.parts.length = 0 := by unfold Jdo at hn; grind
   have hp2 : Jar (Jei c) c.parts.length = 0 := by unfold Jdo at hn; grind
   have hkinds := Jul hp
   simp
   refine Jac (fun h3 => ?_) (fun h3 => ?_)
   . have h3' : 256 < c.pipes.length := by simp at h3; omega
     have hP : Jad c = 5 := by unfold Jad; rw [if_neg h0, hp, hp2]; simp [h3']
     simp [Jaa, hP]
   . have h3' : ¬ 256 < c.pipes.length := by simp at h3; omega
     simp
     refine Jai.go [1] [0] 0 [] (fun _ => []) (fun _ (k : Nat) => [(4, .p (.int .i64 k))]) (fun _ _ => []) (fun k => k <= c.pipes.length /\ Jar (Jcj c) k = 0) (fun k => c.pipes.length - k) 0 ⟨by omega, rfl⟩ ?_ ?_
     . simp
     . rintro k ⟨hk, hp3⟩
       simp
       refine Jac (fun h1 => ?_) (fun h1 => ?_)
       . simp at h1
         obtain ⟨x, e⟩ := Jag h1
         have hbad : ∀ m : Int, Jcj c k = m -> m ≠ 0 -> Jad c = m := by
           intro m h2 h3
           have h4 : Jar (Jcj c) c.pipes.length = m := by rw [Jgb hp3 h1 (by rw [h2]; exact h3), h2]
           unfold Jad
           rw [if_neg h0, hp, hp2, h4]
           simp [h3']
         have hx : ∀ m, Jda c x = m -> m ≠ 0 -> Jcj c k = m := by
           intro m h2 h3
           simp only [Jcj, e]
           rw [if_pos (by rw [h2]; exact h3), h2]
         simp
         refine Jak.intro (by kernel_rfl) ?_
         simp [h1, e, -getElem?_pos, List.getElem?_cons_zero, List.getElem?_cons_succ]
         refine Jab (J1n c x hkinds) ?_
         simp
         refine ⟨.of (by kernel_rfl), ?_⟩
         refine Jac (fun h4 => ?_) (fun h4 => ?_)
         . simp at h4
           have h5 := hbad _ (hx _ rfl h4) h4
           simp [Jaa, h5]
         . have hp0 : Jda c x = 0 := by simpa using h4
           cases k with
           | zero =>
             simp
             refine Jak.intro (by kernel_rfl) ?_
             simp
             refine ⟨.of (by kernel_rfl), 0 + 1, ⟨by omega, Jdi hp3 (by simp [Jcj, e, hp0, -getElem?_pos])⟩, by omega, ?_⟩
             simp
           | succ k =>
             obtain ⟨y, ey⟩ := Jag (xs := c.pipes) (k := k) (by omega)
             have e0 : (0 : Int) < (k : Int) + 1 := by omega
             have e0' : (0 : Int) <= (k : Int) + 1 := by omega
             have e1 : (k : Int) + 1 - 1 = k := by omega
             have e2 : k < c.pipes.length := by omega
             have e3 : (k : Int) + 1 < c.pipes.length := by omega
             have e4 : ((k : Int) + 1).toNat = k + 1 := by omega
             have hq : Jcj c (k + 1) = if 0 <= Je3 y x then 9 else 0 := by
               have hk1 : k + 1 - 1 = k := by omega
               simp only [Jcj, e, hp0, hk1, ey]
               simp
             simp
             refine Jak.intro (by kernel_rfl) ?_
             simp [e0, e0', e1, e2, e3, e4, e, ey, -getElem?_pos, List.getElem?_cons_zero, List.getElem?_cons_succ]
             refine ⟨wrap_i64 (by omega) (by omega), ?_⟩
             refine Jab (J1h y x) ?_
             simp
             refine ⟨.of (by kernel_rfl), ?_⟩
             refine Jac (fun h8 => ?_) (fun h8 => ?_)
             . have h8' : 0 <= Je3 y x := by
                 have := Joc (a := y) (b := x)
                 simp at h8
                 rw [h8] at this
                 simp at this
                 exact this
               have h9 := hbad 9 (by rw [hq, if_pos h8']) (by decide)
               simp [Jaa, h9]
             . have h8' : Je3 y x < 0 := Joc.2 (by simpa using h8)
               simp
               refine ⟨wrap_i64 (by omega) (by omega), k + 1 + 1, ⟨by omega, Jdi hp3 (by rw [hq, if_neg (by omega)])⟩, by omega, ?_⟩
               simp
       . simp at h1
         have hk2 : k = c.pipes.length := by omega
         subst hk2
         have hP : Jad c = 0 := by unfold Jad; rw [if_neg h0, hp, hp2, hp3]; simp [h3']
         simp [Jaa, hP]
theorem Jdv {c : Circuit} (h : Jad c = 0) : Jb5 c /\ c.parts.length <= 64 /\ c.pipes.length <= 256 := by
 have h0 : ¬ 64 < c.parts.length := by intro h0; unfold Jad at h; rw [if_pos h0] at h; simp at h
 have hp : Jar (partAt c) c.parts.length = 0 := by unfold Jad at h; grind
 have hp2 : ¬ 256 < c.pipes.length := by intro h1; unfold Jad at h; grind
 exact ⟨Jul hp, by omega, by omega⟩
end Go.Am
namespace Go.Am
open Go Go.Proofs Go.Pn
theorem Jz2 (c : Circuit) (hc : Sized c) : Pure Tryz.prog GL 46 [c.av] (.tup [.p (.lst 2 ((if Jad c ≠ 0 then [] else allP c).map Port.enc)), .p (.int .i64 (Jad c))]) := by
 refine Pure.of_walk (N := 12) Tryz.func46 rfl rfl rfl (by simp) (by first | (simp; done) | simp [*]) ?_
 simp
 refine Jab (Jg2 c hc) ?_
 by_cases h : Jad c = 0
 . simp [h]
   refine Jab (Jr6 c (Jdv h).1 (by have := (Jdv h).2.1; omega)) ?_
   simp [Jaa, h]
 . simp [h, Jaa]
@[simp] theorem Kbx {l : List Port} : Ports.enc l = [.lst 2 (l.map Port.enc)] := rfl
end Go.Am
namespace Go.Am
open Go Go.Proofs Go.Pn
def Jcl (a : List Port × Bool) (x : Pipe) : List Port × Bool :=
 let a := if x.fr ∈ a.1 /\ ¬ x.to ∈ a.1 then (a.1 ++ [x.to], true) else a
 if x.to ∈ a.1 /\ ¬ x.fr ∈ a.1 then (a.1 ++ [x.fr], true) else a
def Jd5 (c : Circuit) (l : List Port) : List Port × Bool := c.pipes.foldl Jcl (l, false)
def Jbb (c : Circuit) (l : List Port) : Nat -> List Port
 | 0 => l
 | n + 1 => (Jd5 c (Jbb c l n)).1
def closure (c : Circuit) (p : Port) : List Port := Jbb c [p] (2 * c.pipes.length + 2)
def around (c : Circuit) (p : Port) : List Port := (allP c).filter fun q => decide (q ∈ closure c p)
def Jog (c : Circuit) : List Port := c.pipes.flatMap fun x => [x.fr, x.to]
theorem Jrq {a : List Port × Bool} {x : Pipe} : ∃ e, (Jcl a x).1 = a.1 ++ e /\ (∀ q ∈ e, q = x.fr \/ q = x.to) /\ (a.1.Nodup -> (a.1 ++ e).Nodup) /\ ((Jcl a x).2 = false -> e = [] /\ a.2 = false) /\ ((Jcl a x).2 = true -> a.2 = true \/ e ≠ []) /\ (a.2 = true -> (Jcl a x).2 = true) := by
 obtain ⟨l, m⟩ := a
 unfold Jcl
 by_cases h1 : x.fr ∈ l /\ ¬ x.to ∈ l
 . simp only [h1, not_false_eq_true, and_self, if_true]
   have h2 : ¬ (x.to ∈ l ++ [x.to] /\ ¬ x.fr ∈ l ++ [x.to]) := fun h => h.2 (by simp [h1.1])
   rw [if_neg h2]
   refine ⟨[x.to], rfl, by simp, fun hn => ?_, by simp, by simp, by simp⟩
   rw [List.nodup_append]
   exact ⟨hn, by simp, fun a ha b hb => by simp at hb; subst hb; rintro rfl; exact h1.2 ha⟩
 . rw [if_neg h1]
   by_cases h2 : x.to ∈ l /\ ¬ x.fr ∈ l
   . rw [if_pos h2]
     refine ⟨[x.fr], rfl, by simp, fun hn => ?_, by simp, by simp, by simp⟩
     rw [List.nodup_append]
     exact ⟨hn, by simp, fun a ha b hb => by simp at hb; subst hb; rintro rfl; exact h2.2 ha⟩
   . rw [if_neg h2]
     exact ⟨[], by simp, by simp, by simp, by simp, by simp, by simp⟩
theorem Jjj : ∀ {ps : List Pipe} {a : List Port × Bool}, ∃ e, (ps.foldl Jcl a).1 = a.1 ++ e /\ (∀ q ∈ e, q ∈ ps.flatMap fun x => [x.fr, x.to]) /\ (a.1.Nodup -> (a.1 ++ e).Nodup) /\ ((ps.foldl Jcl a).2 = false -> e = [] /\ a.2 = false) /\ ((ps.foldl Jcl a).2 = true -> a.2 = true \/ e ≠ []) /\ (a.2 = true -> (ps.foldl Jcl a).2 = true)
 | [], a => ⟨[], by simp, by simp, by simp, by simp, by simp, by simp⟩
 | x :: ps, a => by
   obtain ⟨e1, h1, h2, h3, h4, h5, h6⟩ := Jrq (a := a) (x := x)
   obtain ⟨e2, k1, k2, k3, k4, k5, k6⟩ := Jjj (ps := ps) (a := Jcl a x)
   refine ⟨e1 ++ e2, by rw [List.foldl_cons, k1, h1, List.append_assoc], fun q hq => ?_, fun hn => ?_, fun h => ?_, fun h => ?_, fun h => ?_⟩
   . rcases List.mem_append.1 hq with hq | hq
     . have := h2 q hq; simp; grind
     . have := k2 q hq; simp at this ⊢; grind
   . rw [<- List.append_assoc, <- h1]; exact k3 (by rw [h1]; exact h3 hn)
   . obtain ⟨r1, r2⟩ := k4 h
     obtain ⟨r3, r4⟩ := h4 r2
     exact ⟨by rw [r1, r3]; rfl, r4⟩
   . rcases k5 h with r | r
     . rcases h5 r with r | r
       . exact .inl r
       . exact .inr (by simp [r])
     . exact .inr (by simp [r])
   . exact k6 (h6 h)
theorem J2s {c : Circuit} : (Jog c).length = 2 * c.pipes.length := by
 unfold Jog
 induction c.pipes with
 | nil => rfl
 | cons x xs ih => simp [List.flatMap_cons, ih]; omega
theorem Jj8 {α : Type} [DecidableEq α] : ∀ {l m : List α}, l.Nodup -> (∀ x ∈ l, x ∈ m) -> l.length <= m.length
 | [], m, _, _ => by simp
 | x :: l, m, hn, h => by
   have h1 := List.nodup_cons.1 hn
   have h2 := Jj8 (l := l) (m := m.erase x) h1.2 fun y hy => (List.mem_erase_of_ne (by rintro rfl; exact h1.1 hy)).2 (h y (by simp [hy]))
   have h3 := List.length_erase_of_mem (h x (by simp))
   have h4 := List.length_pos_of_mem (h x (by simp))
   simp only [List.length_cons]
   omega
structure ArInv (c : Circuit) (p : Port) (j : Nat) (l : List Port) : Prop where
 it : l = Jbb c [p] j
 nodup : l.Nodup
 sub : ∀ q ∈ l, q ∈ p :: Jog c
theorem ArInv.le {c : Circuit} {p : Port} {j : Nat} {l : List Port} (h : ArInv c p j l) : l.length <= 2 * c.pipes.length + 1 := by
 have := Jj8 h.nodup h.sub
 simp [J2s] at this
 exact this
theorem ArInv.next {c : Circuit} {p : Port} {j : Nat} {l : List Port} (h : ArInv c p j l) : ArInv c p (j + 1) (Jd5 c l).1 /\ ((Jd5 c l).2 = true -> l.length < (Jd5 c l).1.length) /\ ((Jd5 c l).2 = false -> (Jd5 c l).1 = l) := by
 obtain ⟨e, h1, h2, h3, h4, h5, _⟩ := Jjj (ps := c.pipes) (a := (l, false))
 have h1' : (Jd5 c l).1 = l ++ e := h1
 refine ⟨⟨by rw [Jbb, <- h.it], by rw [h1']; exact h3 h.nodup, fun q hq => ?_⟩, fun hm => ?_, fun hm => ?_⟩
 . rw [h1'] at hq
   rcases List.mem_append.1 hq with hq | hq
   . exact h.sub q hq
   . exact List.mem_cons_of_mem _ (h2 q hq)
 . rw [h1']
   rcases h5 hm with r | r
   . cases r
   . have := List.length_pos_iff.2 r
     simp; omega
 . rw [h1', (h4 hm).1]; simp
theorem Jy9 {c : Circuit} {l : List Port} {j : Nat} (h : (Jd5 c (Jbb c l j)).1 = Jbb c l j) : ∀ m, j <= m -> Jbb c l m = Jbb c l j := by
 intro m hm
 obtain ⟨d, rfl⟩ := Nat.exists_eq_add_of_le hm
 induction d with
 | zero => rfl
 | succ d ih => rw [<- Nat.add_assoc, Jbb, ih (by omega), h]
end Go.Am
