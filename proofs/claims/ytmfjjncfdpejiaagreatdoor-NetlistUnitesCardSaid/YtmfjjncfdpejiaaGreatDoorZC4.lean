/- Lemmas and contracts for the proof of a statement of this seat. -/
import Derived.Test.YtmfjjncfdpejiaaGreatDoorZC3
set_option linter.unusedVariables false
set_option linter.unusedSimpArgs false
namespace Go.Am
open Go Go.Proofs Go.Pn
theorem Jxh (l : List Txt) : Pure Tryz.prog GL 248 [.p (.lst 1 (l.map Txt.enc))] (Jol l) := by
 refine Pure.of_walk (N := 4) Tryz.func248 rfl rfl rfl (by simp) (by first | (simp; done) | simp [*]) ?_
 simp
 simp [Jaa]
theorem Jxe (l : List Txt) (h0 : l ≠ []) (hl : l.length <= 12) : Pure Tryz.prog GL 247 [Jol l] (.p (.lst 1 ((Jdb l).map Txt.enc))) := by
 refine Pure.of_walk (N := 9) Tryz.func247 rfl rfl rfl (by simp) (by first | (simp; done) | simp [*]) ?_
 simp
 refine Ja4 (Jz9 l _ _ h0 (by omega)) ?_
 simp
 refine Ja4 (Jrg _ _ _ 0 none (by omega) (by simp [get]) hl) ?_
 simp [Jaa, Jng]
 rw [List.take_of_length_le (by simp [Jng])]
 rfl
theorem Jr6 {k : Nat} (h : k < 14) : Jdb (Jbv k) = Jbv k /\ Jbv k ≠ [] /\ (Jbv k).length <= 12 := (by decide : ∀ k, k < 14 -> Jdb (Jbv k) = Jbv k /\ Jbv k ≠ [] /\ (Jbv k).length <= 12) k h
theorem Jxo (p : Part) (hk : 0 <= p.kind /\ p.kind < 14) : Pure Tryz.prog GL 180 [p.av] (.p (.lst 1 ((Jbp p).map Txt.enc))) := by
 refine Pure.of_walk (N := 14) Tryz.func180 rfl rfl rfl (by simp) (by first | (simp; done) | simp [*]) ?_
 have h4 : p.kind.toNat < 14 := by omega
 obtain ⟨h1, h2, h3⟩ := Jr6 h4
 simp
 refine Jab (Jx7 p.kind) ?_
 simp [Je5.2 hk]
 refine Jab (Jxh (Jbv p.kind.toNat)) ?_
 simp
 refine Jab (Jxe (Jbv p.kind.toNat) h2 h3) ?_
 simp [Jaa, Jbp, h1]
def J76 (c : Circuit) (p : Port) : Int := if p.part < 0 \/ (c.parts.length : Int) <= p.part then 2 else match c.parts[p.part.toNat]? with
 | some x => if p.name ∈ Jbp x then 0 else 6
 | none => 2
def Jbo (c : Circuit) (p : Port) : Int := if p.part < 0 \/ (c.parts.length : Int) <= p.part then 2 else 0
def Jbu (c : Circuit) (p : Port) : Int := match c.parts[p.part.toNat]? with
 | some x => if p.name ∈ Jbp x then 0 else 6
 | none => 0
def Jau (f : Nat -> Int) : Nat -> Int
 | 0 => 0
 | n + 1 => if Jau f n ≠ 0 then Jau f n else f n
theorem Jft {f : Nat -> Int} {k n : Nat} (h : Jau f k = 0) (hk : k < n) (hf : f k ≠ 0) : Jau f n = f k := by
 induction n with
 | zero => omega
 | succ n ih =>
   by_cases e : k = n
   . subst e; simp [Jau, h]
   . have := ih (by omega)
     simp [Jau, this, hf]
theorem Jda {f : Nat -> Int} {k : Nat} (h : Jau f k = 0) (hf : f k = 0) : Jau f (k + 1) = 0 := by simp [Jau, h, hf]
theorem Jeh {f : Nat -> Int} : ∀ {n : Nat}, Jau f n = 0 -> ∀ {k : Nat}, k < n -> f k = 0
 | 0, _, k, hk => by omega
 | n + 1, h, k, hk => by
   simp only [Jau] at h
   split at h
   . rename_i h1; exact absurd h h1
   . rename_i h1
     by_cases e : k = n
     . subst e; exact h
     . exact Jeh (by simpa using h1) (by omega)
def Jd6 {α : Type} (xs : List α) (f : α -> Int) (k : Nat) : Int := match xs[k]? with | some x => f x | none => 0
def Jeo (c : Circuit) (l : List Port) : Int := Jau (Jd6 l (Jbo c)) l.length
def Je9 (c : Circuit) (l : List Port) : Int := Jau (Jd6 l (Jbu c)) l.length
theorem Jxl (c : Circuit) (l : List Port) (hc : Sized c) (hl : l.length < 1000000) : Pure Tryz.prog GL 104 [c.av, .p (.lst 2 (l.map Port.enc))] (.p (.int .i64 (Jeo c l))) := by
 refine Pure.of_walk (N := 25) Tryz.func104 rfl rfl rfl (by simp) (by first | (simp; done) | simp [*]) ?_
 simp
 refine Jah.go [2, 7, 8] [0] 0 [] (fun _ => []) (fun _ (k : Nat) => [(9, .p (.int .i64 k))]) (fun _ _ => []) (fun k => k <= l.length /\ Jau (Jd6 l (Jbo c)) k = 0) (fun k => l.length - k) 0 ⟨by omega, rfl⟩ ?_ ?_
 . simp
 . rintro k ⟨hk, hp⟩
   simp
   refine Jac (fun h => ?_) (fun h => ?_)
   . simp at h
     obtain ⟨x, e⟩ := Jag h
     have hx : Jd6 l (Jbo c) k = Jbo c x := by simp [Jd6, e, -getElem?_pos]
     by_cases hb : x.part < 0 \/ (c.parts.length : Int) <= x.part
     . have h2 : Jbo c x = 2 := if_pos hb
       have h3 : Jeo c l = 2 := by rw [Jeo, Jft hp h (by rw [hx, h2]; decide), hx, h2]
       simp [h, e, -getElem?_pos, List.getElem?_cons_zero, List.getElem?_cons_succ]
       repeat' (first | (apply Jac <;> intro hq <;> (try simp at hq) <;> (try simp [hq])) | (apply Jcb <;> intro hq <;> (try simp at hq) <;> (try simp [hq])))
       all_goals (try simp [Jaa, h3])
       all_goals omega
     . have h2 : Jbo c x = 0 := if_neg hb
       have h4 : ¬ x.part < 0 := by omega
       have h5 : ¬ (c.parts.length : Int) <= x.part := by omega
       simp [h, e, h4, h5, -getElem?_pos, List.getElem?_cons_zero, List.getElem?_cons_succ]
       refine ⟨wrap_i64 (by omega) (by omega), k + 1, ⟨by omega, Jda hp (by rw [hx, h2])⟩, by omega, ?_⟩
       simp
   . simp at h
     have hk2 : k = l.length := by omega
     subst hk2
     simp [Jaa, Jeo, hp]
theorem Jxj (c : Circuit) (l : List Port) (hc : Sized c) (hl : l.length < 1000000) (hk : ∀ p ∈ c.parts, 0 <= p.kind /\ p.kind < 14) (hr : ∀ p ∈ l, 0 <= p.part /\ p.part < c.parts.length) : Pure Tryz.prog GL 105 [c.av, .p (.lst 2 (l.map Port.enc))] (.p (.int .i64 (Je9 c l))) := by
 refine Pure.of_walk (N := 25) Tryz.func105 rfl rfl rfl (by simp) (by first | (simp; done) | simp [*]) ?_
 simp
 refine Jah.go [2, 7, 8] [0] 0 [] (fun _ => []) (fun _ (k : Nat) => [(9, .p (.int .i64 k))]) (fun _ _ => []) (fun k => k <= l.length /\ Jau (Jd6 l (Jbu c)) k = 0) (fun k => l.length - k) 0 ⟨by omega, rfl⟩ ?_ ?_
 . simp
 . rintro k ⟨hk1, hp⟩
   simp
   refine Jac (fun h => ?_) (fun h => ?_)
   . simp at h
     obtain ⟨x, e⟩ := Jag h
     have hx : Jd6 l (Jbu c) k = Jbu c x := by simp [Jd6, e, -getElem?_pos]
     obtain ⟨hr1, hr2⟩ := hr x (List.mem_of_getElem? e)
     obtain ⟨y, ey⟩ := Jag (xs := c.parts) (k := x.part.toNat) (by omega)
     simp [h, e, -getElem?_pos, List.getElem?_cons_zero, List.getElem?_cons_succ]
     refine Jai.intro (by kernel_rfl) ?_
     simp [hr1, hr2, ey, -getElem?_pos, List.getElem?_cons_zero, List.getElem?_cons_succ]
     refine Jab (Jxo y (hk y (List.mem_of_getElem? ey))) ?_
     simp
     have hlen : (Jbp y).length < 1000000 := by
       have h5 := (hk y (List.mem_of_getElem? ey))
       have h6 := (Jr6 (k := y.kind.toNat) (by omega)).2.2
       simp only [Jbp]; omega
     refine Jab (Jpw (Jbp y) x.name (by omega)) ?_
     simp
     refine ⟨.of (by kernel_rfl), ?_⟩
     have hn : Jbu c x = if x.name ∈ Jbp y then 0 else 6 := by simp [Jbu, ey, -getElem?_pos]
     refine Jac (fun h2 => ?_) (fun h2 => ?_)
     . simp at h2
       have h3 : Je9 c l = 6 := by rw [Je9, Jft hp h (by rw [hx, hn, if_neg h2]; decide), hx, hn, if_neg h2]
       simp [Jaa, h3]
     . simp at h2
       simp
       refine ⟨wrap_i64 (by omega) (by omega), k + 1, ⟨by omega, Jda hp (by rw [hx, hn, if_pos h2])⟩, by omega, ?_⟩
       simp
   . simp at h
     have hk2 : k = l.length := by omega
     subst hk2
     simp [Jaa, Je9, hp]
end Go.Am
namespace Go.Am
open Go Go.Proofs Go.Pn
def partAt (c : Circuit) (k : Nat) : Int := match c.parts[k]? with
 | some p => if Ja7 p ≠ 0 then Ja7 p else if 0 < k /\ ¬ Op.bytesLess ((c.parts[k - 1]?.map (·.name)).getD []) p.name = true then 9 else 0
 | none => 0
def Jdk (c : Circuit) (k : Nat) : Int := match c.parts[k]? with
 | some p => if p.kind = 6 /\ Jcn c p.name < 0 then 6 else 0
 | none => 0
def Jc1 (c : Circuit) (x : Pipe) : Int := if Jeo c [x.fr, x.to] ≠ 0 then Jeo c [x.fr, x.to] else if Je9 c [x.fr, x.to] ≠ 0 then Je9 c [x.fr, x.to] else if 0 <= Jcj x.fr x.to then 9 else 0
def Jb9 (c : Circuit) (k : Nat) : Int := match c.pipes[k]? with
 | some x => if Jc1 c x ≠ 0 then Jc1 c x else match k, c.pipes[k - 1]? with
   | _ + 1, some y => if 0 <= Jef y x then 9 else 0
   | _, _ => 0
 | none => 0
def Jad (c : Circuit) : Int :=
 if 64 < c.parts.length then 5 else
 if Jau (partAt c) c.parts.length ≠ 0 then Jau (partAt c) c.parts.length else
 if Jau (Jdk c) c.parts.length ≠ 0 then Jau (Jdk c) c.parts.length else
 if 256 < c.pipes.length then 5 else Jau (Jb9 c) c.pipes.length
theorem J4h {c : Circuit} {a b : Port} (h : Jeo c [a, b] = 0) : ∀ p ∈ [a, b], 0 <= p.part /\ p.part < c.parts.length := by
 have h1 := Jeh (n := 2) h (k := 0) (by omega)
 have h2 := Jeh (n := 2) h (k := 1) (by omega)
 simp [Jd6, Jbo] at h1 h2
 intro p hp
 simp at hp
 rcases hp with rfl | rfl <;> omega
theorem Jex (c : Circuit) (hc : Sized c) : Pure Tryz.prog GL 71 [c.av] (.p (.int .i64 (Jad c))) := by
 refine Pure.of_walk (N := 115) Tryz.func71 rfl rfl rfl (by simp) (by first | (simp; done) | simp [*]) ?_
 simp
 refine Jac (fun h => ?_) (fun h => ?_)
 . have h' : 64 < c.parts.length := by simp at h; omega
   have hP : Jad c = 5 := by unfold Jad; rw [if_pos h']
   simp [Jaa, hP]
 . have h0 : ¬ 64 < c.parts.length := by simp at h; omega
   simp
   refine Jah.go [1, 17, 18] [0] 0 [] (fun _ => []) (fun _ (k : Nat) => [(19, .p (.int .i64 k))]) (fun _ _ => []) (fun k => k <= c.parts.length /\ Jau (partAt c) k = 0) (fun k => c.parts.length - k) 0 ⟨by omega, rfl⟩ ?_ ?_
   . simp
   . rintro k ⟨hk, hp⟩
     simp
     refine Jac (fun h1 => ?_) (fun h1 => ?_)
     . simp at h1
       obtain ⟨x, e⟩ := Jag h1
       have hbad : ∀ m : Int, partAt c k = m -> m ≠ 0 -> Jad c = m := by
         intro m h2 h3
         have h4 : Jau (partAt c) c.parts.length = m := by rw [Jft hp h1 (by rw [h2]; exact h3), h2]
         unfold Jad
         rw [if_neg h0, h4, if_pos h3]
       have hx : partAt c k = if Ja7 x ≠ 0 then Ja7 x else if 0 < k /\ ¬ Op.bytesLess ((c.parts[k - 1]?.map (·.name)).getD []) x.name = true then 9 else 0 := by simp only [partAt, e]
       simp [h1, e, -getElem?_pos, List.getElem?_cons_zero, List.getElem?_cons_succ]
       refine Jab (Jmq x (by have := hc.names x (List.mem_of_getElem? e); omega)) ?_
       simp
       refine Jac (fun h2 => ?_) (fun h2 => ?_)
       . simp at h2
         have h3 := hbad (Ja7 x) (by rw [hx, if_pos h2]) h2
         simp [Jaa, h3]
       . simp at h2
         rw [if_neg (by simp [h2])] at hx
         cases k with
         | zero =>
           simp
           refine Jai.intro (by kernel_rfl) ?_
           simp
           refine ⟨.of (by kernel_rfl), 0 + 1, ⟨by omega, Jda hp (by rw [hx]; simp)⟩, by omega, ?_⟩
           simp
         | succ k =>
           obtain ⟨y, ey⟩ := Jag (xs := c.parts) (k := k) (by omega)
           have e0 : (0 : Int) < (k : Int) + 1 := by omega
           have e1 : (k : Int) + 1 - 1 = k := by omega
           have e2 : k < c.parts.length := by omega
           simp
           refine Jai.intro (by kernel_rfl) ?_
           simp [e0, e1, e2, ey, -getElem?_pos, List.getElem?_cons_zero, List.getElem?_cons_succ]
           refine ⟨wrap_i64 (by omega) (by omega), .of (by kernel_rfl), ?_⟩
           have hk1 : k + 1 - 1 = k := by omega
           rw [hk1, ey] at hx
           simp at hx
           refine Jac (fun h3 => ?_) (fun h3 => ?_)
           . have h5 : Op.bytesLess y.name x.name = false := by rw [Jjt] at h3; simpa using h3
             have h4 := hbad 9 (by rw [hx]; simp [h5]) (by decide)
             simp [Jaa, h4]
           . have h5 : Op.bytesLess y.name x.name = true := by rw [Jjt] at h3; simpa using h3
             simp [h5] at hx
             simp
             refine ⟨wrap_i64 (by omega) (by omega), k + 1 + 1, ⟨by omega, Jda hp hx⟩, by omega, ?_⟩
             simp
     . simp at h1
       have hk2 : k = c.parts.length := by omega
       subst hk2
       simp
       refine Jah.go [1, 45, 46] [0] 0 [] (fun _ => []) (fun _ (k : Nat) => [(47, .p (.int .i64 k))]) (fun _ _ => []) (fun k => k <= c.parts.length /\ Jau (Jdk c) k = 0) (fun k => c.parts.length - k) 0 ⟨by omega, rfl⟩ ?_ ?_
       . simp
       . rintro k ⟨hk, hp2⟩
         simp
         refine Jac (fun h1 => ?_) (fun h1 => ?_)
         . simp at h1
           obtain ⟨x, e⟩ := Jag h1
           simp [h1, e, -getElem?_pos, List.getElem?_cons_zero, List.getElem?_cons_succ]
           have hx : Jdk c k = if x.kind = 6 /\ Jcn c x.name < 0 then 6 else 0 := by simp only [Jdk, e]
           refine Jac (fun h2 => ?_) (fun h2 => ?_)
           . simp at h2
             simp [h2]
             refine Jab (Jxm c ⟨6, x.name, x.delay⟩ hc (hc.names x (List.mem_of_getElem? e))) ?_
             simp
             refine Jac (fun h3 => ?_) (fun h3 => ?_)
             . simp at h3
               rw [if_pos ⟨h2, h3⟩] at hx
               have hP : Jad c = 6 := by unfold Jad; rw [if_neg h0, hp, Jft hp2 h1 (by rw [hx]; decide), hx]; simp
               simp [Jaa, hP]
             . simp at h3
               rw [if_neg (by omega)] at hx
               simp
               refine ⟨wrap_i64 (by omega) (by omega), k + 1, ⟨by omega, Jda hp2 hx⟩, by omega, ?_⟩
               simp
           . simp at h2
             rw [if_neg (by simp [h2])] at hx
             simp [h2]
             refine ⟨wrap_i64 (by omega) (by omega), k + 1, ⟨by omega, Jda hp2 hx⟩, by omega, ?_⟩
             simp
         . simp at h1
           have hk2 : k = c.parts.length := by omega
           subst hk2
           simp
           refine Jac (fun h3 => ?_) (fun h3 => ?_)
           . have h3' : 256 < c.pipes.length := by simp at h3; omega
             have hP : Jad c = 5 := by unfold Jad; rw [if_neg h0, hp, hp2]; simp [h3']
             simp [Jaa, hP]
           . have h3' : ¬ 256 < c.pipes.length := by simp at h3; omega
             simp
             refine Jah.go [1, 66, 67] [0] 0 [] (fun _ => []) (fun _ (k : Nat) => [(68, .p (.int .i64 k))]) (fun _ _ => []) (fun k => k <= c.pipes.length /\ Jau (Jb9 c) k = 0) (fun k => c.pipes.length - k) 0 ⟨by omega, rfl⟩ ?_ ?_
             . simp
             . rintro k ⟨hk, hp3⟩
               simp
               refine Jac (fun h1 => ?_) (fun h1 => ?_)
               . simp at h1
                 obtain ⟨x, e⟩ := Jag h1
                 have hkinds : ∀ p ∈ c.parts, 0 <= p.kind /\ p.kind < 14 := by
                   intro p hpm
                   obtain ⟨j, hj, rfl⟩ := List.getElem_of_mem hpm
                   have h7 := Jeh hp hj
                   simp only [partAt, List.getElem?_eq_getElem hj] at h7
                   have h8 : Jbf c.parts[j].kind = 0 := by
                     by_cases h9 : Jbf c.parts[j].kind = 0
                     . exact h9
                     . exfalso
                       have h10 : Ja7 c.parts[j] ≠ 0 := by simp [Ja7, h9]
                       rw [if_pos h10] at h7
                       exact h10 h7
                   exact Je5.1 h8
                 have hbad : ∀ m : Int, Jb9 c k = m -> m ≠ 0 -> Jad c = m := by
                   intro m h2 h3
                   have h4 : Jau (Jb9 c) c.pipes.length = m := by rw [Jft hp3 h1 (by rw [h2]; exact h3), h2]
                   unfold Jad
                   rw [if_neg h0, hp, hp2, h4]
                   simp [h3']
                 have hx : ∀ m, Jc1 c x = m -> m ≠ 0 -> Jb9 c k = m := by
                   intro m h2 h3
                   simp only [Jb9, e]
                   rw [if_pos (by rw [h2]; exact h3), h2]
                 simp [h1, e, -getElem?_pos, List.getElem?_cons_zero, List.getElem?_cons_succ]
                 refine Jcw ?_
                 simp
                 refine ⟨_, Jxl c [x.fr, x.to] hc (by simp), rfl, ?_⟩
                 simp
                 refine Jac (fun h4 => ?_) (fun h4 => ?_)
                 . simp at h4
                   have h5 := hbad _ (hx (Jeo c [x.fr, x.to]) (by simp [Jc1, h4]) h4) h4
                   simp [Jaa, h5]
                 . simp at h4
                   simp
                   refine Jcw ?_
                   simp
                   refine ⟨_, Jxj c [x.fr, x.to] hc (by simp) hkinds (J4h h4), rfl, ?_⟩
                   simp
                   refine Jac (fun h5 => ?_) (fun h5 => ?_)
                   . simp at h5
                     have h6 := hbad _ (hx (Je9 c [x.fr, x.to]) (by simp [Jc1, h4, h5]) h5) h5
                     simp [Jaa, h6]
                   . simp at h5
                     have hp0 : Jc1 c x = if 0 <= Jcj x.fr x.to then 9 else 0 := by simp [Jc1, h4, h5]
                     simp
                     refine Jai.intro (by kernel_rfl) ?_
                     simp
                     refine Jab (Jmn x.fr x.to) ?_
                     simp
                     by_cases h6 : 0 <= Jcj x.fr x.to
                     . have h7 := hbad 9 (hx 9 (by rw [hp0, if_pos h6]) (by decide)) (by decide)
                       simp [h6]
                       refine ⟨.of (by kernel_rfl), ?_⟩
                       simp [Jaa, h7]
                     . rw [if_neg h6] at hp0
                       simp [h6]
                       cases k with
                       | zero =>
                         simp
                         refine ⟨.of (by kernel_rfl), 0 + 1, ⟨by omega, Jda hp3 (by simp [Jb9, e, hp0, -getElem?_pos])⟩, by omega, ?_⟩
                         simp
                       | succ k =>
                         obtain ⟨y, ey⟩ := Jag (xs := c.pipes) (k := k) (by omega)
                         have e0 : (0 : Int) < (k : Int) + 1 := by omega
                         have e1 : (k : Int) + 1 - 1 = k := by omega
                         have e2 : k < c.pipes.length := by omega
                         have hq : Jb9 c (k + 1) = if 0 <= Jef y x then 9 else 0 := by
                           have hk1 : k + 1 - 1 = k := by omega
                           simp only [Jb9, e, hp0, hk1, ey]
                           simp
                         simp [e0, e1, e2, ey, -getElem?_pos, List.getElem?_cons_zero, List.getElem?_cons_succ]
                         refine ⟨wrap_i64 (by omega) (by omega), ?_⟩
                         refine Jab (Jxn y x) ?_
                         simp
                         refine ⟨.of (by kernel_rfl), ?_⟩
                         refine Jac (fun h8 => ?_) (fun h8 => ?_)
                         . simp at h8
                           have h9 := hbad 9 (by rw [hq, if_pos h8]) (by decide)
                           simp [Jaa, h9]
                         . simp at h8
                           simp
                           refine ⟨wrap_i64 (by omega) (by omega), k + 1 + 1, ⟨by omega, Jda hp3 (by rw [hq, if_neg (by omega)])⟩, by omega, ?_⟩
                           simp
               . simp at h1
                 have hk2 : k = c.pipes.length := by omega
                 subst hk2
                 have hP : Jad c = 0 := by unfold Jad; rw [if_neg h0, hp, hp2, hp3]; simp [h3']
                 simp [Jaa, hP]
end Go.Am
namespace Go.Am
open Go Go.Proofs Go.Pn
def Jh5 (c : Circuit) : Nat -> List Port
 | 0 => []
 | k + 1 => Jh5 c k ++ match c.parts[k]? with
   | some p => (Jbp p).map fun s => ⟨k, s⟩
   | none => []
def allP (c : Circuit) : List Port := Jh5 c c.parts.length
def Jko (c : Circuit) : Prop := ∀ p ∈ c.parts, 0 <= p.kind /\ p.kind < 14
theorem Jxi (c : Circuit) (s : Txt) (hc : Sized c) : Pure Tryz.prog GL 36 [c.av, .p (.str s)] (.tup [.p (.int .i64 (if Jad c ≠ 0 then 0 else if idxI c.parts (fun p => decide (p.name = s)) < 0 then 0 else idxI c.parts fun p => decide (p.name = s))), .p (.int .i64 (if Jad c ≠ 0 then Jad c else if idxI c.parts (fun p => decide (p.name = s)) < 0 then 6 else 0))]) := by
 refine Pure.of_walk (N := 19) Tryz.func36 rfl rfl rfl (by simp) (by first | (simp; done) | simp [*]) ?_
 simp
 refine Jab (Jex c hc) ?_
 by_cases h : Jad c = 0
 . simp [h]
   refine Jab (Jmo c s hc) ?_
   generalize (idxI c.parts fun p => decide (p.name = s)) = m
   by_cases h2 : m < 0
   . simp [h2, Jaa, h]
   . simp [h2, Jaa, h]
 . simp [h, Jaa]
end Go.Am
namespace Go.Am
open Go Go.Proofs Go.Pn
theorem Jmr (c : Circuit) (s : Txt) (hc : Sized c) : Pure Tryz.prog GL 50 [c.av, .p (.str s)] (.p (.int .i64 (idxI c.parts fun p => decide (p.name = s)))) := by
 refine Pure.of_walk (N := 22) Tryz.func50 rfl rfl rfl (by simp) (by first | (simp; done) | simp [*]) ?_
 simp
 refine Jah.go [1, 2] [0] 0 [] (fun _ => []) (fun _ (k : Nat) => [(5, .p (.int .i64 k))]) (fun _ _ => []) (fun k => k <= c.parts.length /\ ∀ (j : Nat) x, j < k -> c.parts[j]? = some x -> decide (x.name = s) = false) (fun k => c.parts.length - k) 0 ⟨by omega, fun j x h => by omega⟩ ?_ ?_
 . simp
 . rintro k ⟨hk, hp⟩
   have hc1 := hc.parts
   simp
   refine Jac (fun h => ?_) (fun h => ?_)
   . simp at h
     obtain ⟨x, e⟩ := Jag h
     simp [h, e, -getElem?_pos, List.getElem?_cons_zero, List.getElem?_cons_succ]
     refine Jac (fun h2 => ?_) (fun h2 => ?_)
     . simp [Jaa, Jd8 (q := fun p => decide (p.name = s)) e h2 hp]
     . simp
       refine ⟨wrap_i64 (by omega) (by omega), k + 1, ⟨by omega, ?_⟩, by omega, ?_⟩
       . simpa using Jdn (P := fun p : Part => decide (p.name = s) = false) hp e h2
       . simp
   . simp at h
     have : k = c.parts.length := by omega
     subst this
     have hI : (idxI c.parts fun p => decide (p.name = s)) = -1 := Jek (Jdx hp)
     simp [Jaa, hI]
def cylB (c : Circuit) (s : Txt) : Bool := match c.parts.findIdx? fun p => decide (p.name = s) with
 | none => false
 | some i => decide ((c.parts[i]?.map (·.kind)) = some 1)
theorem Jqb (c : Circuit) (s : Txt) (hc : Sized c) : Pure Tryz.prog GL 308 [c.av, .p (.str s)] (.p (.bool (cylB c s))) := by
 refine Pure.of_walk (N := 20) Tryz.func308 rfl rfl rfl (by simp) (by first | (simp; done) | simp [*]) ?_
 simp
 refine Jab (Jmr c s hc) ?_
 rcases Jil c.parts (fun q => decide (q.name = s)) with ⟨h1, h2⟩ | ⟨i, x, h1, h2, h3, h4⟩
 . simp [h2, Jaa, cylB, h1]
 . obtain ⟨h5, h6⟩ := gsI.1 h3
   have h7 : (0 : Int) <= i := by omega
   simp [h2, h3, h5, h7, -getElem?_pos, List.getElem?_cons_zero, List.getElem?_cons_succ]
   simp [Jaa, cylB, h1, h3, -getElem?_pos]
def belB (c : Circuit) (s : Txt) : Bool := decide (1 < s.length) && (decide (s.getLast? = some 48) || decide (s.getLast? = some 49)) && cylB c s.dropLast
theorem Jys (c : Circuit) (s : Txt) (hc : Sized c) (hs : s.length < 4611686018427387900) : Pure Tryz.prog GL 239 [c.av, .p (.str s)] (.p (.bool (belB c s))) := by
 refine Pure.of_walk (N := 32) Tryz.func239 rfl rfl rfl (by simp) (by first | (simp; done) | simp [*]) ?_
 by_cases h : 1 < s.length
 . obtain ⟨x, e⟩ := Jag (xs := s) (k := s.length - 1) (by omega)
   have hl : s.getLast? = some x := by rw [List.getLast?_eq_getElem?]; exact e
   have h1 : (1 : Int) < s.length := by omega
   have h2 : (0 : Int) <= (s.length : Int) - 1 := by omega
   have h3 : ((s.length : Int) - 1).toNat = s.length - 1 := by omega
   have h4 : (s.length : Int) - 1 <= s.length := by omega
   have h5 : ((x.toNat : Int) = 48) ↔ x = 48 := by rw [<- UInt8.toNat_inj]; simp; omega
   have h6 : ((x.toNat : Int) = 49) ↔ x = 49 := by rw [<- UInt8.toNat_inj]; simp; omega
   simp
   refine Jai.intro (by kernel_rfl) ?_
   simp [h, h1, h2, h3, h4, e, -getElem?_pos, List.getElem?_cons_zero, List.getElem?_cons_succ]
   refine ⟨wrap_i64 (by omega) (by omega), by omega, ?_⟩
   have hd : s.take (s.length - 1) = s.dropLast := by rw [List.dropLast_eq_take]
   have h7 : (1 : Int) <= s.length := by omega
   have h8 : (s.length : Int) - 1 <= s.length := by omega
   have hcl : Sized c := hc
   by_cases e1 : x = 48
   . subst e1
     simp [h, h1]
     refine ⟨wrap_i64 (by omega) (by omega), ?_⟩
     rw [if_pos ⟨h7, h8⟩]
     simp [h3, hd]
     refine Jab (Jqb c s.dropLast hc) ?_
     simp
     refine ⟨.of (by kernel_rfl), ?_⟩
     simp [Jaa, belB, h, hl]
   . have e1' : ¬ (x.toNat : Int) = 48 := fun h => e1 (h5.1 h)
     simp [e1', h, h1, h2, h3, h4, e, -getElem?_pos, List.getElem?_cons_zero, List.getElem?_cons_succ]
     refine ⟨wrap_i64 (by omega) (by omega), by omega, ?_⟩
     by_cases e2 : x = 49
     . subst e2
       simp [h, h1]
       refine ⟨wrap_i64 (by omega) (by omega), ?_⟩
       rw [if_pos ⟨h7, h8⟩]
       simp [h3, hd]
       refine Jab (Jqb c s.dropLast hc) ?_
       simp
       refine ⟨.of (by kernel_rfl), ?_⟩
       simp [Jaa, belB, h, hl]
     . have e2' : ¬ (x.toNat : Int) = 49 := fun h => e2 (h6.1 h)
       simp [e2', h1]
       refine ⟨.of (by kernel_rfl), ?_⟩
       simp [Jaa, belB, h, hl, e1, e2]
 . have h1 : ¬ (1 : Int) < s.length := by omega
   simp
   refine Jai.intro (by kernel_rfl) ?_
   simp [h1]
   refine ⟨.of (by kernel_rfl), ?_⟩
   simp [Jaa, belB, h]
end Go.Am
namespace Go.Am
open Go Go.Proofs Go.Pn
theorem Js8 {c : Circuit} {s : Txt} (hn : ∀ p ∈ c.parts, p.name ≠ []) : (Jcn c s < 0) ↔ belB c s = false := by
 unfold Jcn belB stem cylB
 by_cases h1 : s.getLast? = some 48 \/ s.getLast? = some 49
 . rw [if_pos h1]
   have h2 : (decide (s.getLast? = some 48) || decide (s.getLast? = some 49)) = true := by simpa using h1
   rw [h2, Bool.and_true]
   cases hf : c.parts.findIdx? fun p => decide (p.name = s.dropLast) with
   | none => simp [hf]
   | some i =>
     obtain ⟨h3, h4, _⟩ := List.findIdx?_eq_some_iff_getElem.1 hf
     have h5 : 1 < s.length := by
       have h6 := hn _ (List.getElem_mem h3)
       have h7 : c.parts[i].name = s.dropLast := by simpa using h4
       rw [h7] at h6
       have : s.dropLast.length ≠ 0 := fun h => h6 (List.length_eq_zero_iff.1 h)
       rw [List.length_dropLast] at this
       omega
     simp only [hf, h5, decide_true, Bool.true_and]
     by_cases h8 : (c.parts[i]?.map (·.kind)) = some 1
     . simp [h8]
     . simp [h8]
 . rw [if_neg h1]
   have h2 : (decide (s.getLast? = some 48) || decide (s.getLast? = some 49)) = false := by simpa using h1
   simp [h2]
theorem J1u {c : Circuit} (h : Jau (partAt c) c.parts.length = 0) : ∀ p ∈ c.parts, p.name ≠ [] := by
 intro p hp he
 obtain ⟨j, hj, rfl⟩ := List.getElem_of_mem hp
 have h7 := Jeh h hj
 simp only [partAt, List.getElem?_eq_getElem hj] at h7
 have h9 : Jcl c.parts[j].name = 3 := by rw [he]; rfl
 by_cases h10 : Jbf c.parts[j].kind = 0
 . have h11 : Ja7 c.parts[j] = 3 := by simp [Ja7, h10, h9]
   rw [h11] at h7; simp at h7
 . have h11 : Ja7 c.parts[j] ≠ 0 := by simp [Ja7, h10]
   rw [if_pos h11] at h7; exact h11 h7
theorem Jr7 {c : Circuit} (h : Jau (partAt c) c.parts.length = 0) : Jko c := by
 intro p hp
 obtain ⟨j, hj, rfl⟩ := List.getElem_of_mem hp
 have h7 := Jeh h hj
 simp only [partAt, List.getElem?_eq_getElem hj] at h7
 have h8 : Jbf c.parts[j].kind = 0 := by
   by_cases h9 : Jbf c.parts[j].kind = 0
   . exact h9
   . exfalso
     have h10 : Ja7 c.parts[j] ≠ 0 := by simp [Ja7, h9]
     rw [if_pos h10] at h7
     exact h10 h7
 exact Je5.1 h8
theorem Jtz {k : Nat} {s : Txt} (hk : k < 14) : (Jen k s < 0) ↔ ¬ s ∈ Jbv k := by
 have h1 : (Jd1 k).map Jdj = Jbn k := (by decide : ∀ k, k < 14 -> (Jd1 k).map Jdj = Jbn k) k hk
 have h2 : ∀ t, (t ∈ (Jbn k).flatten) ↔ t ∈ Jbv k := by
   intro t
   rcases (by omega : k = 0 \/ k = 1 \/ k = 2 \/ k = 3 \/ k = 4 \/ k = 5 \/ k = 6 \/ k = 7 \/ k = 8 \/ k = 9 \/ k = 10 \/ k = 11 \/ k = 12 \/ k = 13) with rfl|rfl|rfl|rfl|rfl|rfl|rfl|rfl|rfl|rfl|rfl|rfl|rfl|rfl <;> simp [Jbn, Jbv] <;> grind
 have h3 : (0 <= Jen k s) ↔ s ∈ Jbv k := by
   unfold Jen
   rw [Jki, <- h2, <- h1]
   simp only [List.any_eq_true, decide_eq_true_eq, List.mem_flatten, List.mem_map]
   grind
 exact ⟨fun h hm => by have := h3.2 hm; omega, fun h => Int.not_le.1 fun h' => h (h3.1 h')⟩
def Jdc (c : Circuit) : Int :=
 if 64 < c.parts.length then 5 else
 if Jau (partAt c) c.parts.length ≠ 0 then Jau (partAt c) c.parts.length else Jau (Jdk c) c.parts.length
theorem Jyt (c : Circuit) (hc : Sized c) : Pure Tryz.prog GL 164 [c.av] (.p (.int .i64 (Jdc c))) := by
 refine Pure.of_walk (N := 69) Tryz.func164 rfl rfl rfl (by simp) (by first | (simp; done) | simp [*]) ?_
 simp
 refine Jac (fun h => ?_) (fun h => ?_)
 . have h' : 64 < c.parts.length := by simp at h; omega
   have hP : Jdc c = 5 := by unfold Jdc; rw [if_pos h']
   simp [Jaa, hP]
 . have h0 : ¬ 64 < c.parts.length := by simp at h; omega
   simp
   refine Jah.go [1] [0] 0 [] (fun _ => []) (fun _ (k : Nat) => [(3, .p (.int .i64 k))]) (fun _ _ => []) (fun k => k <= c.parts.length /\ Jau (partAt c) k = 0) (fun k => c.parts.length - k) 0 ⟨by omega, rfl⟩ ?_ ?_
   . simp
   . rintro k ⟨hk, hp⟩
     simp
     refine Jac (fun h1 => ?_) (fun h1 => ?_)
     . simp at h1
       obtain ⟨x, e⟩ := Jag h1
       have hbad : ∀ m : Int, partAt c k = m -> m ≠ 0 -> Jdc c = m := by
         intro m h2 h3
         have h4 : Jau (partAt c) c.parts.length = m := by rw [Jft hp h1 (by rw [h2]; exact h3), h2]
         unfold Jdc
         rw [if_neg h0, h4, if_pos h3]
       have hx : partAt c k = if Ja7 x ≠ 0 then Ja7 x else if 0 < k /\ ¬ Op.bytesLess ((c.parts[k - 1]?.map (·.name)).getD []) x.name = true then 9 else 0 := by simp only [partAt, e]
       simp [h1, e, -getElem?_pos, List.getElem?_cons_zero, List.getElem?_cons_succ]
       refine Jab (Jyj x (by have := hc.names x (List.mem_of_getElem? e); omega)) ?_
       simp
       refine Jac (fun h2 => ?_) (fun h2 => ?_)
       . simp at h2
         have h3 := hbad (Ja7 x) (by rw [hx, if_pos h2]) h2
         simp [Jaa, h3]
       . simp at h2
         rw [if_neg (by simp [h2])] at hx
         cases k with
         | zero =>
           simp
           refine Jai.intro (by kernel_rfl) ?_
           simp
           refine ⟨.of (by kernel_rfl), 0 + 1, ⟨by omega, Jda hp (by rw [hx]; simp)⟩, by omega, ?_⟩
           simp
         | succ k =>
           obtain ⟨y, ey⟩ := Jag (xs := c.parts) (k := k) (by omega)
           have e0 : (0 : Int) < (k : Int) + 1 := by omega
           have e0' : (0 : Int) <= (k : Int) + 1 := by omega
           have e1 : (k : Int) + 1 - 1 = k := by omega
           have e2 : k < c.parts.length := by omega
           have e3 : (k : Int) + 1 < c.parts.length := by omega
           have e4 : ((k : Int) + 1).toNat = k + 1 := by omega
           simp
           refine Jai.intro (by kernel_rfl) ?_
           simp [e0, e0', e1, e2, e3, e4, e, ey, -getElem?_pos, List.getElem?_cons_zero, List.getElem?_cons_succ]
           refine ⟨wrap_i64 (by omega) (by omega), .of (by kernel_rfl), ?_⟩
           have hk1 : k + 1 - 1 = k := by omega
           rw [hk1, ey] at hx
           simp at hx
           refine Jac (fun h3 => ?_) (fun h3 => ?_)
           . have h5 : Op.bytesLess y.name x.name = false := by rw [Jjt] at h3; simpa using h3
             have h4 := hbad 9 (by rw [hx]; simp [h5]) (by decide)
             simp [Jaa, h4]
           . have h5 : Op.bytesLess y.name x.name = true := by rw [Jjt] at h3; simpa using h3
             simp [h5] at hx
             simp
             refine ⟨wrap_i64 (by omega) (by omega), k + 1 + 1, ⟨by omega, Jda hp hx⟩, by omega, ?_⟩
             simp
     . simp at h1
       have hk2 : k = c.parts.length := by omega
       subst hk2
       have hne := J1u hp
       simp
       refine Jah.go [1] [0] 0 [] (fun _ => []) (fun _ (k : Nat) => [(5, .p (.int .i64 k))]) (fun _ _ => []) (fun k => k <= c.parts.length /\ Jau (Jdk c) k = 0) (fun k => c.parts.length - k) 0 ⟨by omega, rfl⟩ ?_ ?_
       . simp
       . rintro k ⟨hk, hp2⟩
         simp
         refine Jac (fun h1 => ?_) (fun h1 => ?_)
         . simp at h1
           obtain ⟨x, e⟩ := Jag h1
           have hx : Jdk c k = if x.kind = 6 /\ Jcn c x.name < 0 then 6 else 0 := by simp only [Jdk, e]
           simp
           refine Jai.intro (by kernel_rfl) ?_
           simp [h1, e, -getElem?_pos, List.getElem?_cons_zero, List.getElem?_cons_succ]
           refine Jac (fun h2 => ?_) (fun h2 => ?_)
           . simp at h2
             simp [h2, h1, e, -getElem?_pos, List.getElem?_cons_zero, List.getElem?_cons_succ]
             refine Jab (Jys c x.name hc (hc.names x (List.mem_of_getElem? e))) ?_
             simp
             refine ⟨.of (by kernel_rfl), ?_⟩
             refine Jac (fun h3 => ?_) (fun h3 => ?_)
             . have h3' : belB c x.name = false := by simpa using h3
               rw [if_pos ⟨h2, (Js8 hne).2 h3'⟩] at hx
               have hP : Jdc c = 6 := by unfold Jdc; rw [if_neg h0, hp, Jft hp2 h1 (by rw [hx]; decide), hx]; simp
               simp [Jaa, hP]
             . have h3' : ¬ Jcn c x.name < 0 := fun h => by have := (Js8 hne).1 h; simp [this] at h3
               rw [if_neg (fun h => h3' h.2)] at hx
               simp
               refine ⟨wrap_i64 (by omega) (by omega), k + 1, ⟨by omega, Jda hp2 hx⟩, by omega, ?_⟩
               simp
           . simp at h2
             rw [if_neg (by simp [h2])] at hx
             simp [h2]
             refine ⟨.of (by kernel_rfl), wrap_i64 (by omega) (by omega), k + 1, ⟨by omega, Jda hp2 hx⟩, by omega, ?_⟩
             simp
         . simp at h1
           have hk2 : k = c.parts.length := by omega
           subst hk2
           have hP : Jdc c = 0 := by unfold Jdc; rw [if_neg h0, hp, hp2]; simp
           simp [Jaa, hP]
theorem Jqc (c : Circuit) (p : Port) (hk : Jko c) : Pure Tryz.prog GL 240 [c.av, p.av] (.tup [.p (.int .i64 (Jbo c p)), .p (.int .i64 (if Jbo c p = 0 then Jbu c p else 0))]) := by
 refine Pure.of_walk (N := 28) Tryz.func240 rfl rfl rfl (by simp) (by first | (simp; done) | simp [*]) ?_
 by_cases hb : p.part < 0 \/ (c.parts.length : Int) <= p.part
 . have h2 : Jbo c p = 2 := if_pos hb
   simp
   repeat' (first | (apply Jac <;> intro hq <;> (try simp at hq) <;> (try simp [hq])) | (apply Jcb <;> intro hq <;> (try simp at hq) <;> (try simp [hq])))
   all_goals (try simp [Jaa, h2])
   all_goals omega
 . have h2 : Jbo c p = 0 := if_neg hb
   have h4 : ¬ p.part < 0 := by omega
   have h4' : 0 <= p.part := by omega
   have h5 : ¬ (c.parts.length : Int) <= p.part := by omega
   have h5' : p.part < (c.parts.length : Int) := by omega
   obtain ⟨x, e⟩ := Jag (xs := c.parts) (k := p.part.toNat) (by omega)
   have hx := hk x (List.mem_of_getElem? e)
   have hn : Jbu c p = if p.name ∈ Jbp x then 0 else 6 := by simp only [Jbu, e]
   simp [h4, h5]
   refine Jai.intro (by kernel_rfl) ?_
   simp [h4', h5', e, -getElem?_pos, List.getElem?_cons_zero, List.getElem?_cons_succ]
   have hk3 : x.kind = (x.kind.toNat : Int) := by omega
   rw [hk3]
   refine Jab (Jyl x.kind.toNat p.name (by omega)) ?_
   simp
   refine ⟨.of (by kernel_rfl), ?_⟩
   have hpl := Jtz (k := x.kind.toNat) (s := p.name) (by omega)
   refine Jac (fun h6 => ?_) (fun h6 => ?_)
   . simp at h6
     have h7 : ¬ p.name ∈ Jbp x := hpl.1 h6
     simp [Jaa, h2, hn, h7]
   . simp at h6
     have h7 : p.name ∈ Jbp x := by
       by_cases h8 : p.name ∈ Jbp x
       . exact h8
       . have := hpl.2 h8; omega
     simp [Jaa, h2, hn, h7]
end Go.Am
namespace Go.Am
open Go Go.Proofs Go.Pn
theorem Jic {a b : Port} : (Jcj a b < 0) ↔ Jbi a b = true := by
 unfold Jcj Jbi cmpI
 by_cases h : a.part = b.part
 . simp [orI, h]
   by_cases h2 : Lib.compareBytes a.name b.name = 0
   . have := Jdo.1 h2
     have h3 := (Jdo (a := b.name) (b := b.name)).2 rfl
     simp [this, Jew, h3]
   . simp [h2, Jj1]
 . by_cases h2 : a.part < b.part
   . simp [orI, h, h2]
   . have h3 : b.part < a.part := by omega
     simp [orI, h, h2, h3]
theorem Jj4 {a b : Port} : Jcj a b = 0 ↔ a = b := by
 unfold Jcj cmpI
 by_cases h : a.part = b.part
 . simp [orI, h]
   by_cases h2 : Lib.compareBytes a.name b.name = 0
   . have h3 := Jdo.1 h2
     cases a; cases b
     simp at h h3
     simp [h, h3, Jdo.2]
   . have h3 : a.name ≠ b.name := fun e => h2 (Jdo.2 e)
     have : a ≠ b := fun e => h3 (by rw [e])
     simp [h2, this]
 . have : a ≠ b := fun e => h (by rw [e])
   by_cases h2 : a.part < b.part
   . simp [orI, h2, this]
   . have h3 : b.part < a.part := by omega
     simp [orI, h2, h3, this]
theorem Jmx {a b : Pipe} : (Jef a b < 0) ↔ Ja2 a b = true := by
 unfold Jef Ja2
 by_cases h : a.fr = b.fr
 . have h1 : Jcj a.fr b.fr = 0 := Jj4.2 h
   have h0 : Jcj b.fr b.fr = 0 := Jj4.2 rfl
   simp only [orI, h, h0, if_true]
   by_cases h2 : Jcj a.to b.to = 0
   . have h3 := Jj4.1 h2
     have h4 : ¬ Jbi a.to b.to = true := fun h => by have := Jic.2 h; omega
     simp [h2, h4]
   . simp [h2, Jic]
 . have h1 : Jcj a.fr b.fr ≠ 0 := fun e => h (Jj4.1 e)
   simp [orI, h1, h, Jic]
theorem Juf {c : Circuit} {a b : Port} : Jeo c [a, b] = if Jbo c a ≠ 0 then Jbo c a else Jbo c b := by
 simp [Jeo, Jau, Jd6]
theorem Jsn {c : Circuit} {a b : Port} : Je9 c [a, b] = if Jbu c a ≠ 0 then Jbu c a else Jbu c b := by
 simp [Je9, Jau, Jd6]
theorem Jhj {c : Circuit} {a : Port} : Jbo c a = 0 \/ Jbo c a = 2 := by unfold Jbo; split <;> simp
theorem Jk1 {c : Circuit} {a : Port} : Jbu c a = 0 \/ Jbu c a = 6 := by unfold Jbu; split <;> (try split) <;> simp
theorem Jyu (c : Circuit) (x : Pipe) (hk : Jko c) : Pure Tryz.prog GL 165 [c.av, x.av] (.p (.int .i64 (Jc1 c x))) := by
 refine Pure.of_walk (N := 41) Tryz.func165 rfl rfl rfl (by simp) (by first | (simp; done) | simp [*]) ?_
 simp
 refine Jab (Jqc c x.fr hk) ?_
 simp
 refine Jab (Jqc c x.to hk) ?_
 have hp : Jc1 c x = if Jbo c x.fr ≠ 0 \/ Jbo c x.to ≠ 0 then 2 else if Jbu c x.fr ≠ 0 \/ Jbu c x.to ≠ 0 then 6 else if Jbi x.fr x.to = true then 0 else 9 := by
   have h1 := Jhj (c := c) (a := x.fr)
   have h2 := Jhj (c := c) (a := x.to)
   have h3 := Jk1 (c := c) (a := x.fr)
   have h4 := Jk1 (c := c) (a := x.to)
   have h5 := Jic (a := x.fr) (b := x.to)
   unfold Jc1
   rw [Juf, Jsn]
   grind
 have h1 := Jhj (c := c) (a := x.fr)
 have h2 := Jhj (c := c) (a := x.to)
 generalize Jbo c x.fr = r1 at *
 generalize Jbo c x.to = r2 at *
 generalize Jbu c x.fr = n1 at *
 generalize Jbu c x.to = n2 at *
 rcases h1 with rfl | rfl
 . rcases h2 with rfl | rfl
   . by_cases h3 : n1 = 0
     . by_cases h4 : n2 = 0
       . simp [h3, h4]
         refine Jab (Jjz x.fr x.to) ?_
         simp
         cases h5 : Jbi x.fr x.to with
         | true => simp [Jaa, hp, h3, h4, h5]
         | false => simp [Jaa, hp, h3, h4, h5]
       . simp [Jaa, h3, h4, hp]
     . simp [Jaa, h3, hp]
   . simp [Jaa, hp]
 . simp [Jaa, hp]
theorem Jp9 (c : Circuit) (hc : Sized c) : Pure Tryz.prog GL 75 [c.av] (.p (.int .i64 (Jad c))) := by
 refine Pure.of_walk (N := 49) Tryz.func75 rfl rfl rfl (by simp) (by first | (simp; done) | simp [*]) ?_
 simp
 refine Jab (Jyt c hc) ?_
 simp
 refine Jac (fun h => ?_) (fun h => ?_)
 . have hP : Jad c = Jdc c := by
     simp at h
     unfold Jad Jdc at *
     grind
   simp [Jaa, hP]
 . have hn : Jdc c = 0 := by simpa using h
   have h0 : ¬ 64 < c.parts.length := by intro h0; unfold Jdc at hn; rw [if_pos h0] at hn; simp at hn
   have hp : Jau (partAt c) c.parts.length = 0 := by unfold Jdc at hn; grind
   have hp2 : Jau (Jdk c) c.parts.length = 0 := by unfold Jdc at hn; grind
   have hkinds := Jr7 hp
   simp
   refine Jac (fun h3 => ?_) (fun h3 => ?_)
   . have h3' : 256 < c.pipes.length := by simp at h3; omega
     have hP : Jad c = 5 := by unfold Jad; rw [if_neg h0, hp, hp2]; simp [h3']
     simp [Jaa, hP]
   . have h3' : ¬ 256 < c.pipes.length := by simp at h3; omega
     simp
     refine Jah.go [1] [0] 0 [] (fun _ => []) (fun _ (k : Nat) => [(4, .p (.int .i64 k))]) (fun _ _ => []) (fun k => k <= c.pipes.length /\ Jau (Jb9 c) k = 0) (fun k => c.pipes.length - k) 0 ⟨by omega, rfl⟩ ?_ ?_
     . simp
     . rintro k ⟨hk, hp3⟩
       simp
       refine Jac (fun h1 => ?_) (fun h1 => ?_)
       . simp at h1
         obtain ⟨x, e⟩ := Jag h1
         have hbad : ∀ m : Int, Jb9 c k = m -> m ≠ 0 -> Jad c = m := by
           intro m h2 h3
           have h4 : Jau (Jb9 c) c.pipes.length = m := by rw [Jft hp3 h1 (by rw [h2]; exact h3), h2]
           unfold Jad
           rw [if_neg h0, hp, hp2, h4]
           simp [h3']
         have hx : ∀ m, Jc1 c x = m -> m ≠ 0 -> Jb9 c k = m := by
           intro m h2 h3
           simp only [Jb9, e]
           rw [if_pos (by rw [h2]; exact h3), h2]
         simp
         refine Jai.intro (by kernel_rfl) ?_
         simp [h1, e, -getElem?_pos, List.getElem?_cons_zero, List.getElem?_cons_succ]
         refine Jab (Jyu c x hkinds) ?_
         simp
         refine ⟨.of (by kernel_rfl), ?_⟩
         refine Jac (fun h4 => ?_) (fun h4 => ?_)
         . simp at h4
           have h5 := hbad _ (hx _ rfl h4) h4
           simp [Jaa, h5]
         . have hp0 : Jc1 c x = 0 := by simpa using h4
           cases k with
           | zero =>
             simp
             refine Jai.intro (by kernel_rfl) ?_
             simp
             refine ⟨.of (by kernel_rfl), 0 + 1, ⟨by omega, Jda hp3 (by simp [Jb9, e, hp0, -getElem?_pos])⟩, by omega, ?_⟩
             simp
           | succ k =>
             obtain ⟨y, ey⟩ := Jag (xs := c.pipes) (k := k) (by omega)
             have e0 : (0 : Int) < (k : Int) + 1 := by omega
             have e0' : (0 : Int) <= (k : Int) + 1 := by omega
             have e1 : (k : Int) + 1 - 1 = k := by omega
             have e2 : k < c.pipes.length := by omega
             have e3 : (k : Int) + 1 < c.pipes.length := by omega
             have e4 : ((k : Int) + 1).toNat = k + 1 := by omega
             have hq : Jb9 c (k + 1) = if 0 <= Jef y x then 9 else 0 := by
               have hk1 : k + 1 - 1 = k := by omega
               simp only [Jb9, e, hp0, hk1, ey]
               simp
             simp
             refine Jai.intro (by kernel_rfl) ?_
             simp [e0, e0', e1, e2, e3, e4, e, ey, -getElem?_pos, List.getElem?_cons_zero, List.getElem?_cons_succ]
             refine ⟨wrap_i64 (by omega) (by omega), ?_⟩
             refine Jab (Jqa y x) ?_
             simp
             refine ⟨.of (by kernel_rfl), ?_⟩
             refine Jac (fun h8 => ?_) (fun h8 => ?_)
             . have h8' : 0 <= Jef y x := by
                 have := Jmx (a := y) (b := x)
                 simp at h8
                 rw [h8] at this
                 simp at this
                 exact this
               have h9 := hbad 9 (by rw [hq, if_pos h8']) (by decide)
               simp [Jaa, h9]
             . have h8' : Jef y x < 0 := Jmx.2 (by simpa using h8)
               simp
               refine ⟨wrap_i64 (by omega) (by omega), k + 1 + 1, ⟨by omega, Jda hp3 (by rw [hq, if_neg (by omega)])⟩, by omega, ?_⟩
               simp
       . simp at h1
         have hk2 : k = c.pipes.length := by omega
         subst hk2
         have hP : Jad c = 0 := by unfold Jad; rw [if_neg h0, hp, hp2, hp3]; simp [h3']
         simp [Jaa, hP]
theorem Jez {c : Circuit} (h : Jad c = 0) : Jko c /\ c.parts.length <= 64 /\ c.pipes.length <= 256 := by
 have h0 : ¬ 64 < c.parts.length := by intro h0; unfold Jad at h; rw [if_pos h0] at h; simp at h
 have hp : Jau (partAt c) c.parts.length = 0 := by unfold Jad at h; grind
 have hp2 : ¬ 256 < c.pipes.length := by intro h1; unfold Jad at h; grind
 exact ⟨Jr7 hp, by omega, by omega⟩
end Go.Am
namespace Go.Am
open Go Go.Proofs Go.Pn
@[simp] theorem J77 {l : List Port} : Ports.enc l = [.lst 2 (l.map Port.enc)] := rfl
end Go.Am
namespace Go.Am
open Go Go.Proofs Go.Pn
def Jwr (a : List Port × Bool) (x : Pipe) : List Port × Bool :=
 let a := if x.fr ∈ a.1 /\ ¬ x.to ∈ a.1 then (a.1 ++ [x.to], true) else a
 if x.to ∈ a.1 /\ ¬ x.fr ∈ a.1 then (a.1 ++ [x.fr], true) else a
def Jwq (c : Circuit) (l : List Port) : List Port × Bool := c.pipes.foldl Jwr (l, false)
def Jpn (c : Circuit) (l : List Port) : Nat -> List Port
 | 0 => l
 | n + 1 => (Jwq c (Jpn c l n)).1
def closure (c : Circuit) (p : Port) : List Port := Jpn c [p] (2 * c.pipes.length + 2)
def around (c : Circuit) (p : Port) : List Port := (allP c).filter fun q => decide (q ∈ closure c p)
theorem Jnr {α : Type} [DecidableEq α] : ∀ {l m : List α}, l.Nodup -> (∀ x ∈ l, x ∈ m) -> l.length <= m.length
 | [], m, _, _ => by simp
 | x :: l, m, hn, h => by
   have h1 := List.nodup_cons.1 hn
   have h2 := Jnr (l := l) (m := m.erase x) h1.2 fun y hy => (List.mem_erase_of_ne (by rintro rfl; exact h1.1 hy)).2 (h y (by simp [hy]))
   have h3 := List.length_erase_of_mem (h x (by simp))
   have h4 := List.length_pos_of_mem (h x (by simp))
   simp only [List.length_cons]
   omega
@[simp] theorem J9i {l : List Part} : unpR (l.map Part.row) = some (l.map Part.enc) := Jvq (f := Part.row) (g := Part.enc) (fun _ => rfl) l
end Go.Am
