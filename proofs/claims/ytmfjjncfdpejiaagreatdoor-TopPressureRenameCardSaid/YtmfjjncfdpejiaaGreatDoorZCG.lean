/- Lemmas and contracts for the proof of a statement of this seat. -/
import Derived.Test.YtmfjjncfdpejiaaGreatDoorZCF
set_option linter.unusedVariables false
set_option linter.unusedSimpArgs false
namespace Go.Am
open Go Go.Proofs Go.Pn
def Jhx (c : Circuit) (S : List Int) (i : Nat) : List Int := if Jal c i = 0 then S.set (netN c i t1) 2 else S
def supT (c : Circuit) (k : Nat) : List Int := (List.range k).foldl (Jhx c) (List.replicate (nets c).length 0)
theorem Jo9 {c : Circuit} {k : Nat} : supT c (k + 1) = Jhx c (supT c k) k := by simp [supT, List.range_succ]
theorem Kgf {c : Circuit} {S : List Int} {i : Nat} : (Jhx c S i).length = S.length := by unfold Jhx; split <;> simp
theorem Jtb {c : Circuit} {k : Nat} : (supT c k).length = (nets c).length := by
 induction k with
 | zero => simp [supT]
 | succ k ih => rw [Jo9, Kgf, ih]
def Jhk (S : List Int) (n : Nat) : List Int := if S[n]? = some 0 then S.set n 1 else S
theorem Kbg {S : List Int} {n : Nat} : (Jhk S n).length = S.length := by unfold Jhk; split <;> simp
def Jbz (S : List Int) (ns : List Nat) : List Int := ns.foldl Jhk S
theorem Jro {ns : List Nat} : ∀ {S : List Int}, (Jbz S ns).length = S.length := by
 induction ns with
 | nil => intro S; rfl
 | cons n ns ih => intro S; rw [Jbz, List.foldl_cons, <- Jbz, ih, Kbg]
def Jlj (c : Circuit) (l : List Int) (i : Nat) : List Nat := (opens c l i).map (netN c i)
def Jc9 (c : Circuit) (l : List Int) (k : Nat) : List Nat := (List.range k).flatMap (Jlj c l)
theorem Kd1 {c : Circuit} {l : List Int} {k : Nat} : Jc9 c l (k + 1) = Jc9 c l k ++ Jlj c l k := by simp [Jc9, List.range_succ]
theorem Jyq {S : List Int} {a b : List Nat} : Jbz S (a ++ b) = Jbz (Jbz S a) b := by simp [Jbz]
def markT (c : Circuit) (k : Nat) (S : List Int) (O : List Txt) (j : Nat) : List Int := Jbz S ((O.take j).map (netN c k))
def prsX (c : Circuit) (l : List Int) : List Int := Jeh (fun S => Jcr (isSt S 2)) 2 (psgs c l) (supT c c.parts.length)
def Jg4 (c : Circuit) (l : List Int) : List Int := Jbz (prsX c l) (Jc9 c l c.parts.length)
def Jeu (c : Circuit) (l : List Int) : List Int := Jeh venF 1 (psgs c l) (Jg4 c l)
theorem Joq {c : Circuit} {l : List Int} : (prsX c l).length = (nets c).length := by rw [prsX, Jwb, Jtb]
theorem J2h {c : Circuit} {l : List Int} : (Jg4 c l).length = (nets c).length := by rw [Jg4, Jro, Joq]
theorem Js9 {c : Circuit} {l : List Int} : (Jeu c l).length = (nets c).length := by rw [Jeu, Jwb, J2h]
theorem Jot {c : Circuit} {l : List Int} (h : Jam c l = 0) {y : Psg} (hy : y ∈ psgs c l) : y.to < (nets c).length /\ (∀ n ∈ y.fr, n < (nets c).length) /\ y.fr.length <= 1000 := by
 have hc := (Jeg h).1
 obtain ⟨i, z, hi, hz, rfl⟩ := Jhr.1 hy
 obtain ⟨h1, h2, _⟩ := Jjv h hi hz
 obtain ⟨q, e⟩ := Jae hi
 obtain ⟨a, F⟩ := Jhn h e
 refine ⟨(Jd7 hc h1).2, fun n hn => ?_, ?_⟩
 . obtain ⟨s, hs, rfl⟩ := List.mem_map.1 hn
   exact (Jd7 hc (h2 s hs)).2
 . have hyl : z.fr.length <= 2 := (by decide +kernel : ∀ k, k < 14 -> ∀ b, ∀ z ∈ Jeb k b, z.fr.length <= 2) q.kind.toNat (by have := F.kind; omega) (decide (a = 1)) z (by rw [<- F.pass]; exact hz)
   simp
   omega
theorem Jzs {c : Circuit} {l : List Int} {i : Nat} {q : Part} {a : Int} (F : PortFacts c l i q a) : Jd8 q.kind a (Jaq q.kind.toNat).length = opens c l i := by
 have hp := F.pos
 have hpo : Jdk l (i : Int) = a := by rw [Jdk, Int.toNat_natCast, hp]; rfl
 rw [Jd8, List.take_length, opens, F.kat, hpo, F.vents]
set_option maxRecDepth 20000 in
theorem Jxg (c : Circuit) (l : List Int) (h : Jam c l = 0) (b mb : Nat) (s : Store) (nx : Nat) (hb : b < nx) (hm : mb < nx) (hne : b ≠ mb) (hg : get s b = some (.cells 4 [Jbw c mb])) (hgm : get s mb = some (.map (prA (pairs c)))) :
   Gives Tryz.prog GL 125 [.ptr b 4 0 0, Ints.av l] s nx (.ref nx 1 0 (nets c).length none) [b, mb] [(nx, some (.cells 1 ((Jeu c l).map Int.row)))] (nx + 1) := by
 have hc := (Jeg h).1
 have h2 := Jbg hc
 have hnl := Jjn hc
 refine Gives.mk_walkK (N := 87) (args := [.ptr 0 4 0 0, Ints.av l]) [b, mb] [] [(0, some (.cells 4 [Jbw c 1])), (1, some (.map (prA (pairs c))))] [(2, some (.cells 1 ((Jeu c l).map Int.row)))] 2 1 (.ref 2 1 0 (nets c).length none) (fun _ => [2]) (up1 := [(nx, some (.cells 1 ((Jeu c l).map Int.row)))]) Tryz.func125 rfl rfl rfl (by simp) rfl (by simp [hg, hb, hm, hne, hgm, Jbs, Jbw]; intro q hq; match q, hq with | 0, _ => simp | 1, _ => simp) (by simp) (by simp) (by simp) (by simp) rfl ?_
 have hprs : supT c 0 = List.replicate (nets c).length 0 := by simp [supT]
 have hto : ∀ y ∈ psgs c l, y.to < (nets c).length := fun y hy => (Jot h hy).1
 have hfr : ∀ y ∈ psgs c l, ∀ n ∈ y.fr, n < (nets c).length := fun y hy => (Jot h hy).2.1
 have hfl : ∀ y ∈ psgs c l, y.fr.length < 4611686018427387904 := fun y hy => by have := (Jot h hy).2.2; omega
 have hpl : (psgs c l).length <= 64 := by
   have := @Jzy c l c.parts.length
   have e : pTs c l c.parts.length = psgs c l := rfl
   rw [e] at this; omega
 simp [Jbw]
 refine ⟨by omega, by omega, ?_⟩
 refine Jaw (J8w c l h 0 1 _ _ (by simp) (by simp) (by simp) (by simp [Jbw]) (by simp)) ?_
 simp
 refine Jag.goN [0, 1, 5, 26, 27] [0, 1, 3] 4 (fun (k : Nat) => [(6, .p (.lst 4 ((psgs c l).map Psg.enc))), (28, .p (.int .i64 k))]) (fun k => [(2, some (.cells 1 ((supT c k).map Int.row)))]) (fun k => k <= c.parts.length) (fun k => c.parts.length - k) 0 (by omega) ?_ ?_
 . refine Leads.frz_sub (B := [4]) (ρ := [0, 1, 2, 3]) [(6, .p (.lst 4 ((psgs c l).map Psg.enc)))] [(4, none)] (Freeze.of _ _ ?_ (by simp) (by simp [keys])) ?_
   . intro p hp
     simp only [List.mem_cons, List.not_mem_nil, or_false] at hp
     subst hp
     simp only [slot, if_pos]
     exact FrzK.accRows (rows := (psgs c l).map Psg.row) (by simp) (by simp [get]) (by simp) (by simp)
   . simp [hprs, Jbs]
     try decide
 . intro k hk
   have hsl := @Jtb c k
   have hss := @Jo9 c k
   have hend1 : k = c.parts.length -> supT c k = supT c c.parts.length := fun e => by rw [e]
   generalize supT c k = S at hsl hss hend1
   simp
   refine Jac (fun h3 => ?_) (fun h3 => ?_)
   . simp at h3
     obtain ⟨q, e⟩ := Jae h3
     obtain ⟨a, F⟩ := Jhn h e
     simp [h3, e, Part.enc, -getElem?_pos, List.getElem?_cons_zero, List.getElem?_cons_succ]
     have hkq := F.kat
     refine Jac (fun h4 => ?_) (fun h4 => ?_)
     . simp at h4
       have htp := F.mem t1 (by rw [h4]; decide +kernel)
       have hnt := (Jd7 hc htp).2
       obtain ⟨x, ex⟩ := Jae (xs := S) (k := netN c k t1) (by omega)
       have hst : Jhx c S k = S.set (netN c k t1) 2 := if_pos (by rw [hkq, h4])
       obtain ⟨S', hS'⟩ : ∃ S', S' = S.set (netN c k t1) 2 := ⟨_, rfl⟩
       have hms : (S.map Int.row).set (netN c k t1) [.p (.int .i64 2)] = S'.map Int.row := by rw [hS', List.map_set]
       rw [<- hS'] at hst
       simp
       refine Jaj.intro (by kernel_rfl) ?_
       simp
       refine Jaw (Jjd c hc k t1 htp 0 1 _ _ (by simp) (by simp) (by simp) (by simp [Jbw]) (by simp)) ?_
       simp [hnt, ex, -getElem?_pos, List.getElem?_cons_zero, List.getElem?_cons_succ]
       refine ⟨.of (by kernel_rfl), ?_⟩
       refine ⟨wrap_i64 (by omega) (by omega), k + 1, by omega, by omega, ?_⟩
       refine Leads.subx (ρ := [0, 1, 2, 3]) ?_
       simp [hss, hst, hms, Jbs]
       try decide
     . simp at h4
       have hst : Jhx c S k = S := if_neg (by rw [hkq]; exact h4)
       simp
       refine ⟨wrap_i64 (by omega) (by omega), k + 1, by omega, by omega, ?_⟩
       refine Leads.subx (ρ := [0, 1, 2, 3]) ?_
       simp [hss, hst, Jbs]
       try decide
   . simp at h3
     have hS := hend1 (by omega)
     have htk := Kgj (N := (nets c).length) (cp := some (nets c).length) (l := psgs c l) hfr hfl
     have hto2 := hto
     rw [<- hsl] at htk hto2
     simp
     have hgc := fun s nx => Jxd S (psgs c l) 2 (by omega) _ _ _ htk hto2 (by omega) s nx 2 3
     rw [hsl] at hgc
     refine Jaw (hgc _ _ (by simp) (by simp) (by simp) (by simp) (by simp)) ?_
     simp
     have hpr : Jeh (fun S => Jcr (isSt S 2)) 2 (psgs c l) S = prsX c l := by rw [hS]; rfl
     rw [hpr]
     have hR := @Joq c l
     have hm0 : Jbz (prsX c l) (Jc9 c l 0) = prsX c l := by simp [Jbz, Jc9]
     refine Jag.go [0, 1, 5, 6, 50, 51] [0, 1, 3] 0 [] (fun _ => []) (fun _ (k : Nat) => [(52, .p (.int .i64 k))]) (fun _ k => [(2, some (.cells 1 ((Jbz (prsX c l) (Jc9 c l k)).map Int.row)))]) (fun k => k <= c.parts.length) (fun k => c.parts.length - k) 0 (by omega) ?_ ?_
     . simp [hm0, Jbs]
       try decide
     . clear hgc hS hss hend1 htk hpr hto2 hsl
       intro k hk
       have hsl : (Jbz (prsX c l) (Jc9 c l k)).length = (nets c).length := by rw [Jro, hR]
       have hss : Jbz (prsX c l) (Jc9 c l (k + 1)) = Jbz (Jbz (prsX c l) (Jc9 c l k)) (Jlj c l k) := by rw [Kd1, Jyq]
       have hend1 : k = c.parts.length -> Jbz (prsX c l) (Jc9 c l k) = Jg4 c l := fun e => by rw [e]; rfl
       generalize Jbz (prsX c l) (Jc9 c l k) = S at hsl hss hend1
       simp
       refine Jac (fun h3 => ?_) (fun h3 => ?_)
       . simp at h3
         obtain ⟨q, e⟩ := Jae h3
         obtain ⟨a, F⟩ := Jhn h e
         have f2 := F.pos
         have f4 := F.ltl
         simp [h3, e, Part.enc, -getElem?_pos, List.getElem?_cons_zero, List.getElem?_cons_succ]
         refine Jaj.intro (by kernel_rfl) ?_
         simp [f2, f4, Int.enc, -getElem?_pos, List.getElem?_cons_zero, List.getElem?_cons_succ]
         refine Jab (J59 q a F.placed) ?_
         rw [Jzs F]
         simp
         refine ⟨.of (by kernel_rfl), ?_⟩
         have hol : (opens c l k).length <= 1000 := by rw [<- Jzs F]; exact Jzr F.placed
         have hops := Jrx h h3
         have hns : Jlj c l k = (opens c l k).map (netN c k) := rfl
         rw [hns] at hss
         generalize opens c l k = O at hol hops hss
         have hm1 : markT c k S O 0 = S := by simp [markT, Jbz]
         refine Jag.go [0, 1, 5, 6, 9, 50, 51, 52, 62, 63] [0, 1, 3] 0 [] (fun _ => []) (fun _ (j : Nat) => [(64, .p (.int .i64 j))]) (fun _ j => [(2, some (.cells 1 ((markT c k S O j).map Int.row)))]) (fun j => j <= O.length) (fun j => O.length - j) 0 (by omega) ?_ ?_
         . simp [hm1, Jbs]
           try decide
         . intro j hj
           have htl : (markT c k S O j).length = (nets c).length := by rw [markT, Jro, hsl]
           have hts : ∀ {t : Txt}, O[j]? = some t -> markT c k S O (j + 1) = Jhk (markT c k S O j) (netN c k t) := fun e => by rw [markT, take_snoc e, List.map_append, Jyq]; rfl
           have hte : j = O.length -> markT c k S O j = Jbz (prsX c l) (Jc9 c l (k + 1)) := fun e => by rw [markT, e, List.take_length, hss]
           generalize markT c k S O j = T at htl hts hte
           simp
           refine Jac (fun h5 => ?_) (fun h5 => ?_)
           . simp at h5
             obtain ⟨t, et⟩ := Jae h5
             have hsn := hts et
             have htp := hops t (List.mem_of_getElem? et)
             have hnt := (Jd7 hc htp).2
             obtain ⟨x, ex⟩ := Jae (xs := T) (k := netN c k t) (by omega)
             simp [h5, et, Txt.enc, -getElem?_pos, List.getElem?_cons_zero, List.getElem?_cons_succ]
             refine Jaw (Jjd c hc k t htp 0 1 _ _ (by simp) (by simp) (by simp) (by simp [Jbw]) (by simp)) ?_
             simp [hnt, ex, -getElem?_pos, List.getElem?_cons_zero, List.getElem?_cons_succ]
             refine Jac (fun h6 => ?_) (fun h6 => ?_)
             . simp at h6
               subst h6
               have hst : Jhk T (netN c k t) = T.set (netN c k t) 1 := if_pos ex
               rw [hst] at hsn
               obtain ⟨T', hT'⟩ : ∃ T', T' = T.set (netN c k t) 1 := ⟨_, rfl⟩
               have hms : (T.map Int.row).set (netN c k t) [.p (.int .i64 1)] = T'.map Int.row := by rw [hT', List.map_set]
               rw [<- hT'] at hsn
               simp [hnt, ex, -getElem?_pos, List.getElem?_cons_zero, List.getElem?_cons_succ]
               refine ⟨wrap_i64 (by omega) (by omega), j + 1, by omega, by omega, ?_⟩
               simp [hsn, hms, Jbs]
               try decide
             . simp at h6
               have hst : Jhk T (netN c k t) = T := if_neg (by rw [ex]; simp [h6])
               rw [hst] at hsn
               simp
               refine ⟨wrap_i64 (by omega) (by omega), j + 1, by omega, by omega, ?_⟩
               simp [hsn, Jbs]
               try decide
           . simp at h5
             have hT := hte (by omega)
             simp
             refine ⟨wrap_i64 (by omega) (by omega), k + 1, by omega, by omega, ?_⟩
             simp [hT, Jbs]
             try decide
       . simp at h3
         have hS := hend1 (by omega)
         have htk := Kgk (N := (nets c).length) (cp := some (nets c).length) (l := psgs c l) hfr hfl
         have hto2 := hto
         rw [<- hsl] at htk hto2
         simp
         have hgc := fun s nx => Jxd S (psgs c l) 1 (by omega) _ _ _ htk hto2 (by omega) s nx 2 3
         rw [hsl] at hgc
         refine Jaw (hgc _ _ (by simp) (by simp) (by simp) (by simp) (by simp)) ?_
         have hpr : Jeh venF 1 (psgs c l) S = Jeu c l := by rw [hS]; rfl
         rw [hpr]
         simp [Jbw, Jbs]
         try decide
end Go.Am
namespace Go.Am
open Go Go.Proofs Go.Pn
theorem CReach.ind {q : List Int -> Psg -> Bool} {v : Int} {l : List Psg} {S : List Int} (P : List Int -> Prop) (h0 : P S) (hs : ∀ (R : List Int) (y : Psg), P R -> y ∈ l -> R[y.to]? = some 0 -> q R y = true -> P (R.set y.to v)) {R : List Int} (h : CReach q v l S R) : P R := by
 induction h with
 | refl => exact h0
 | step _ hm h0 hq ih => exact hs _ _ ih hm h0 hq
def Vals (ok : Int -> Prop) (S : List Int) : Prop := ∀ (n : Nat) (x : Int), S[n]? = some x -> ok x
theorem Vals.set {ok : Int -> Prop} {S : List Int} {n : Nat} {v : Int} (h : Vals ok S) (hv : ok v) : Vals ok (S.set n v) := fun m x hx => by
 rw [List.getElem?_set] at hx
 split at hx
 . split at hx
   . cases hx; exact hv
   . cases hx
 . exact h m x hx
theorem Jd4 {S : List Int} {v : Int} {n : Nat} : isSt S v n = true ↔ S[n]? = some v := by simp [isSt, -getElem?_pos]
theorem Jji {S : List Int} {n m : Nat} {v w : Int} (hn : n < S.length) : isSt (S.set n v) w m = true ↔ (n = m /\ v = w) \/ (n ≠ m /\ isSt S w m = true) := by
 rw [Jd4, Jd4, List.getElem?_set]
 by_cases e : n = m
 . subst e
   rw [if_pos rfl, if_pos hn]; simp
 . rw [if_neg e]; simp [e]
theorem Jie {S : List Int} {n : Nat} {x : Int} (h : S[n]? = some x) : n < S.length := (gsI.1 h).1
theorem Kgg {c : Circuit} {k : Nat} : Vals (fun x => x = 0 \/ x = 2) (supT c k) := by
 induction k with
 | zero =>
   intro n x hx
   have : supT c 0 = List.replicate (nets c).length 0 := by simp [supT]
   rw [this, List.getElem?_replicate] at hx
   split at hx
   . cases hx; exact .inl rfl
   . cases hx
 | succ k ih =>
   rw [Jo9]
   unfold Jhx
   split
   . exact ih.set (.inr rfl)
   . exact ih
theorem J10 {c : Circuit} {l : List Int} (h : Jam c l = 0) {k : Nat} (hk : k <= c.parts.length) {n : Nat} : isSt (supT c k) 2 n = true ↔ ∃ i, i < k /\ Jal c (i : Nat) = 0 /\ n = netN c (i : Nat) t1 := by
 have hc := (Jeg h).1
 induction k with
 | zero =>
   have : supT c 0 = List.replicate (nets c).length 0 := by simp [supT]
   rw [this, Jd4, List.getElem?_replicate]
   constructor
   . intro h; split at h <;> simp at h
   . rintro ⟨i, hi, _⟩; omega
 | succ k ih =>
   have ih := ih (by omega)
   rw [Jo9]
   unfold Jhx
   split
   . rename_i hk0
     have hlt := (Jd7 hc (Jtc h (i := k) (by omega) hk0)).2
     refine (Jji (by rw [Jtb]; exact hlt)).trans ?_
     rw [show _ = _ from propext ih]
     constructor
     . rintro (⟨rfl, _⟩ | ⟨_, i, hi, h1, h2⟩)
       . exact ⟨k, by omega, hk0, rfl⟩
       . exact ⟨i, by omega, h1, h2⟩
     . rintro ⟨i, hi, h1, h2⟩
       by_cases e : netN c k t1 = n
       . exact .inl ⟨e, rfl⟩
       . refine .inr ⟨e, i, ?_, h1, h2⟩
         rcases (by omega : i = k \/ i < k) with rfl | hh
         . exact absurd h2.symm e
         . exact hh
   . rename_i hk0
     refine Iff.trans ih ?_
     constructor
     . rintro ⟨i, hi, h1, h2⟩; exact ⟨i, by omega, h1, h2⟩
     . rintro ⟨i, hi, h1, h2⟩
       refine ⟨i, ?_, h1, h2⟩
       rcases (by omega : i = k \/ i < k) with rfl | hh
       . exact absurd h1 hk0
       . exact hh
theorem J1z {q : List Int -> Psg -> Bool} {v : Int} (hv : v ≠ 0) {R : List Int} {y : Psg} (h : Jcb q v R y = R) (hq : q R y = true) : R[y.to]? ≠ some 0 := by
 intro h0
 rw [Ju7 h0 hq] at h
 have hl := Jie h0
 have : (R.set y.to v)[y.to]? = some v := by rw [List.getElem?_set, if_pos rfl, if_pos hl]
 rw [h, h0] at this
 simp at this
 exact hv this.symm
theorem Jor {c : Circuit} {l : List Int} : Vals (fun x => x = 0 \/ x = 2) (prsX c l) :=
 CReach.ind _ Kgg (fun R y hR _ _ _ => hR.set (.inr rfl)) Ji8
theorem Jsc {c : Circuit} {l : List Int} (h : Jam c l = 0) (n : Nat) : isSt (prsX c l) 2 n = (prs c l).contains n := by
 have hc := (Jeg h).1
 refine Jyl (J0o h) (S := isSt (prsX c l) 2) ?_ (fun n hn => ?_) n
 . intro y hy hf
   rcases List.mem_append.1 hy with hy | hy
   . obtain ⟨i, hi, hk, rfl⟩ := Jl1.1 hy
     have hb : isSt (supT c c.parts.length) 2 (netN c i t1) = true := (J10 h (Nat.le_refl _)).2 ⟨i, hi, hk, rfl⟩
     refine CReach.ind (fun R => isSt R 2 (netN c i t1) = true) hb (fun R y hR _ h0 _ => ?_) (Ji8 (q := fun S => Jcr (isSt S 2)) (v := 2) (l := psgs c l))
     rw [Jji (Jie h0)]
     by_cases e : y.to = netN c i t1
     . exact .inl ⟨e, rfl⟩
     . exact .inr ⟨e, hR⟩
   . have hst := Jwc (q := fun S => Jcr (isSt S 2)) (v := 2) (l := psgs c l) (S := supT c c.parts.length) (by omega) y hy
     have hne := J1z (by omega) hst hf
     obtain ⟨x, hx⟩ := Jae (xs := prsX c l) (k := y.to) (by rw [Joq]; exact (Jot h hy).1)
     rcases Jor y.to x hx with rfl | rfl
     . exact absurd hx hne
     . exact Jd4.2 hx
 . refine CReach.ind (fun R => ∀ n, isSt R 2 n = true -> n ∈ prs c l) (fun n hn => ?_) (fun R y hR hy h0 hq n hn => ?_) (Ji8 (q := fun S => Jcr (isSt S 2)) (v := 2) (l := psgs c l)) n hn
   . obtain ⟨i, hi, hk, rfl⟩ := (J10 h (Nat.le_refl _)).1 hn
     exact List.contains_iff_mem.1 (Jos h _ (List.mem_append.2 (.inl (Jl1.2 ⟨i, hi, hk, rfl⟩))) rfl)
   . rcases (Jji (Jie h0)).1 hn with ⟨rfl, _⟩ | ⟨_, hn⟩
     . exact List.contains_iff_mem.1 (Jos h y (List.mem_append.2 (.inr hy)) (Jq4 (fun n hn => List.contains_iff_mem.2 (hR n hn)) hq))
     . exact hR n hn
theorem Kbf {S : List Int} {n m : Nat} : (Jhk S n)[m]? = if S[m]? = some 0 /\ m = n then some 1 else S[m]? := by
 unfold Jhk
 split
 . rename_i h
   rw [List.getElem?_set]
   by_cases e : n = m
   . subst e
     rw [if_pos rfl, if_pos (Jie h), if_pos ⟨h, rfl⟩]
   . rw [if_neg e, if_neg (fun hh => e hh.2.symm)]
 . rename_i h
   rw [if_neg]
   rintro ⟨h1, rfl⟩
   exact h h1
theorem Jyr {ns : List Nat} : ∀ {S : List Int} {m : Nat}, (Jbz S ns)[m]? = if S[m]? = some 0 /\ m ∈ ns then some 1 else S[m]? := by
 induction ns with
 | nil => intro S m; simp [Jbz, -getElem?_pos]
 | cons n ns ih =>
   intro S m
   rw [Jbz, List.foldl_cons, <- Jbz, ih, Kbf]
   by_cases h0 : S[m]? = some 0
   . by_cases e : m = n
     . subst e; simp [h0, -getElem?_pos]
     . simp [h0, e, -getElem?_pos]
   . simp [h0, -getElem?_pos]
theorem Jzq {c : Circuit} {l : List Int} {n : Nat} : n ∈ Jc9 c l c.parts.length ↔ ∃ (i : Nat) (s : Txt), i < c.parts.length /\ s ∈ opens c l i /\ n = netN c i s := by
 simp only [Jc9, Jlj, List.mem_flatMap, List.mem_range, List.mem_map]
 constructor
 . rintro ⟨i, hi, s, hs, rfl⟩; exact ⟨i, s, hi, hs, rfl⟩
 . rintro ⟨i, s, hi, hs, rfl⟩; exact ⟨i, hi, s, hs, rfl⟩
structure VInv (c : Circuit) (l : List Int) (S : List Int) : Prop where
 len : S.length = (nets c).length
 vals : Vals (fun x => x = 0 \/ x = 1 \/ x = 2) S
 two : ∀ n, isSt S 2 n = (prs c l).contains n
 one : ∀ n, isSt S 1 n = true -> n ∈ vts c l
theorem Kh9 {c : Circuit} {l : List Int} (h : Jam c l = 0) : VInv c l (Jg4 c l) := by
 have hget : ∀ m, (Jg4 c l)[m]? = if (prsX c l)[m]? = some 0 /\ m ∈ Jc9 c l c.parts.length then some 1 else (prsX c l)[m]? := fun m => Jyr
 refine ⟨J2h, fun n x hx => ?_, fun n => ?_, fun n hn => ?_⟩
 . rw [hget] at hx
   split at hx
   . cases hx; exact .inr (.inl rfl)
   . rcases Jor n x hx with h | h
     . exact .inl h
     . exact .inr (.inr h)
 . rw [<- Jsc h, Bool.eq_iff_iff, Jd4, Jd4, hget]
   split
   . rename_i hh; rw [hh.1]; simp
   . exact Iff.rfl
 . rw [Jd4, hget] at hn
   split at hn
   . rename_i hh
     obtain ⟨i, s, hi, hs, rfl⟩ := Jzq.1 hh.2
     have hnp : netN c i s ∉ prs c l := fun hp => by
       have := List.contains_iff_mem.2 hp
       rw [<- Jsc h, Jd4, hh.1] at this
       simp at this
     exact List.contains_iff_mem.1 (Jpo h ⟨i, netN c i s, [], true⟩ (Jiv.2 ⟨.inl ⟨i, s, hi, hs, rfl⟩, hnp⟩) rfl)
   . rcases Jor n 1 hn with h | h <;> simp at h
theorem VInv.step {c : Circuit} {l : List Int} (h : Jam c l = 0) {S : List Int} {y : Psg} (hS : VInv c l S) (hy : y ∈ psgs c l) (h0 : S[y.to]? = some 0) (hq : venF S y = true) : VInv c l (S.set y.to 1) := by
 refine ⟨by simp [hS.len], hS.vals.set (.inr (.inl rfl)), fun n => ?_, fun n hn => ?_⟩
 . rw [<- hS.two n, Bool.eq_iff_iff, Jji (Jie h0)]
   constructor
   . rintro (⟨_, h⟩ | ⟨_, h⟩)
     . simp at h
     . exact h
   . intro hn
     refine .inr ⟨fun e => ?_, hn⟩
     subst e
     rw [Jd4, h0] at hn
     simp at hn
 . rcases (Jji (Jie h0)).1 hn with ⟨rfl, _⟩ | ⟨_, hn⟩
   . have hnp : y.to ∉ prs c l := fun hp => by
       have := List.contains_iff_mem.2 hp
       rw [<- hS.two, Jd4, h0] at this
       simp at this
     obtain ⟨i, z, hi, hz, rfl⟩ := Jhr.1 hy
     refine List.contains_iff_mem.1 (Jpo h ⟨i, netN c i z.to, z.fr.map (netN c i), false⟩ (Jiv.2 ⟨.inr ⟨i, z, hi, hz, rfl⟩, hnp⟩) ?_)
     refine Jq4 (S := isSt S 1) (fun n hn => List.contains_iff_mem.2 (hS.one n hn)) ?_
     simpa [Jcr, venF] using hq
   . exact hS.one n hn
theorem J1t {c : Circuit} {l : List Int} (h : Jam c l = 0) : VInv c l (Jeu c l) :=
 CReach.ind (VInv c l) (Kh9 h) (fun R y hR hy h0 hq => hR.step h hy h0 hq) Ji8
theorem Kgb {c : Circuit} {l : List Int} (h : Jam c l = 0) (n : Nat) : isSt (Jeu c l) 1 n = (vts c l).contains n := by
 have hi := J1t h
 refine Jyl (Jtw h) (S := isSt (Jeu c l) 1) ?_ hi.one n
 intro y hy hf
 have hlt := Jtw h y hy
 obtain ⟨hy, hnp⟩ := Jiv.1 hy
 obtain ⟨x, hx⟩ := Jae (xs := Jeu c l) (k := y.to) (by rw [Js9]; exact hlt)
 have hx2 : x ≠ 2 := fun e => by
   subst e
   have := Jd4.2 hx
   rw [hi.two, List.contains_iff_mem] at this
   exact hnp this
 rcases hy with ⟨i, s, hi', hs, rfl⟩ | ⟨i, z, hi', hz, rfl⟩
 . have hv0 : isSt (Jg4 c l) 1 (netN c i s) = true := by
     rw [Jd4]
     have : (Jg4 c l)[netN c i s]? = if (prsX c l)[netN c i s]? = some 0 /\ netN c i s ∈ Jc9 c l c.parts.length then some 1 else (prsX c l)[netN c i s]? := Jyr
     rw [this, if_pos]
     refine ⟨?_, Jzq.2 ⟨i, s, hi', hs, rfl⟩⟩
     obtain ⟨w, hw⟩ := Jae (xs := prsX c l) (k := netN c i s) (by rw [Joq]; exact hlt)
     rcases Jor _ w hw with rfl | rfl
     . exact hw
     . have := Jd4.2 hw
       rw [Jsc h, List.contains_iff_mem] at this
       exact absurd this hnp
   refine CReach.ind (fun R => isSt R 1 (netN c i s) = true) hv0 (fun R y hR _ h0 _ => ?_) (Ji8 (q := venF) (v := 1) (l := psgs c l))
   rw [Jji (Jie h0)]
   by_cases e : y.to = netN c i s
   . exact .inl ⟨e, rfl⟩
   . exact .inr ⟨e, hR⟩
 . have hm : (⟨i, netN c i z.to, z.fr.map (netN c i), z.all⟩ : Psg) ∈ psgs c l := Jhr.2 ⟨i, z, hi', hz, rfl⟩
   have hst := Jwc (q := venF) (v := 1) (l := psgs c l) (S := Jg4 c l) (by omega) _ hm
   have hne := J1z (by omega) hst (by simpa [Jcr, venF, Jeu] using hf)
   rcases hi.vals _ x hx with rfl | rfl | rfl
   . exact absurd hx hne
   . exact Jd4.2 hx
   . exact absurd rfl hx2
theorem J1s {c : Circuit} {l : List Int} (h : Jam c l = 0) : Jeu c l = states c l := by
 have hi := J1t h
 refine List.ext_getElem? fun n => ?_
 by_cases hn : n < (nets c).length
 . obtain ⟨x, hx⟩ := Jae (xs := Jeu c l) (k := n) (by rw [Js9]; exact hn)
   have hs : (states c l)[n]? = some (Jet c l n) := by simp [states, hn]
   rw [hx, hs]
   congr 1
   have h2 := hi.two n
   have h1 := Kgb h n
   rw [Jrd hx] at h1 h2
   unfold Jet
   rw [<- h1, <- h2]
   rcases hi.vals n x hx with rfl | rfl | rfl <;> simp
 . rw [List.getElem?_eq_none (by rw [Js9]; omega), List.getElem?_eq_none (by simp [states]; omega)]
end Go.Am
namespace Go.Am
open Go Go.Proofs Go.Pn
theorem J2a {c : Circuit} {l : List Int} (hc : Jad c = 0) {i : Int} {s : Txt} (hp : (⟨i, s⟩ : Port) ∈ allP c) : decide (Jet c l (netN c i s) = 2) = mkd (Jis c l) (netN c i s) := by
 have hn := (Jd7 hc hp).2
 unfold mkd Jet
 rw [Khx hn]
 cases h : (prs c l).contains (netN c i s)
 . cases h2 : (vts c l).contains (netN c i s) <;> simp
 . simp
set_option maxRecDepth 20000 in
theorem Jv0 (c : Circuit) (l : List Int) (p : Port) (hs : Sized c) (hl : l.length < 4611686018427387904) : Pure Tryz.prog GL 53 [c.av, Ints.av l, p.av] (.tup [.p (.int .i64 (Jg9 c l p)), .p (.int .i64 (Jgj c l p))]) := by
 refine Pure.of_walk (N := 35) Tryz.func53 rfl rfl rfl (by simp) (by first | (simp; done) | simp [*]) ?_
 simp
 by_cases h : Jam c l = 0
 . have hc := (Jeg h).1
   have he : Jgj c l p = Jbh c p := by simp [Jgj, h]
   refine Jaw (g_of c l hs hl h _ _) ?_
   simp
   refine Jab (Jvd c p hs) ?_
   by_cases hg : Jbh c p = 0
   . obtain ⟨n1, n2⟩ := J82 hc hg
     have hst := Jta (l := l) n2
     have hv : Jg9 c l p = Jet c l (netN c p.part p.name) := by simp [Jg9, he, hg]
     simp [hc, hg]
     refine Jaw (Jxg c l h 2 3 _ _ (by simp) (by simp) (by simp) (by simp) (by simp)) ?_
     rw [J1s h]
     rw [n1]
     simp [n2, hst, -getElem?_pos, List.getElem?_cons_zero, List.getElem?_cons_succ]
     simp [Jaa, hv, he, hg]
   . simp [hc, hg]
     simp [Jaa, Jg9, he, hg]
 . refine Jab (Jv4 c l hs hl h) ?_
   simp [h]
   simp [Jaa, Jg9, Jgj, h]
set_option maxRecDepth 20000 in
theorem Jv2 (c : Circuit) (l : List Int) (s : Txt) (hs : Sized c) (hl : l.length < 4611686018427387904) : Pure Tryz.prog GL 120 [c.av, Ints.av l, .p (.str s)] (.tup [.p (.int .i64 (Jhs c l s)), .p (.int .i64 (Jij c l s))]) := by
 refine Pure.of_walk (N := 70) Tryz.func120 rfl rfl rfl (by simp) (by first | (simp; done) | simp [*]) ?_
 simp
 by_cases h : Jam c l = 0
 . have hc := (Jeg h).1
   have he : Jij c l s = if Ja4 c s < 0 then 6 else if Jal c (Ja4 c s) ≠ 1 then 1 else 0 := by simp [Jij, h]
   refine Jaw (g_of c l hs hl h _ _) ?_
   simp
   refine Jab (Jva c s hs) ?_
   rw [<- Ja4]
   rcases Jgy c s with hk | ⟨i, x, hk, e, _⟩
   . rw [hk] at he
     simp [hk, hc]
     simp [Jaa, Jhs, he]
   . obtain ⟨a, F⟩ := Jhn h e
     have f3 := F.lt
     have hi0 : ¬ (i : Int) < 0 := by omega
     rw [hk, F.kat, if_neg hi0] at he
     simp [hk, hi0, hc]
     simp [f3, e, -getElem?_pos, List.getElem?_cons_zero, List.getElem?_cons_succ]
     by_cases hx : x.kind = 1
     . have hm4 : (⟨i, [52]⟩ : Port) ∈ allP c := F.mem _ (by rw [hx]; decide)
       have hm2 : (⟨i, [50]⟩ : Port) ∈ allP c := F.mem _ (by rw [hx]; decide)
       have n4 := (Jd7 hc hm4).2
       have n2 := (Jd7 hc hm2).2
       have s4 := Jta (l := l) n4
       have s2 := Jta (l := l) n2
       have u4 := J2a (l := l) hc hm4
       have u2 := J2a (l := l) hc hm2
       rw [hx] at he
       simp at he
       simp [hx]
       refine Jaw (Jxg c l h 1 2 _ _ (by simp) (by simp) (by simp) (by simp) (by simp)) ?_
       rw [J1s h]
       simp
       refine Jaj.intro (by kernel_rfl) ?_
       simp
       refine Jaw (Jjd c hc i [52] hm4 1 2 _ _ (by simp) (by simp) (by simp) (by simp [Jbw]) (by simp)) ?_
       simp [n4, s4, -getElem?_pos, List.getElem?_cons_zero, List.getElem?_cons_succ]
       refine Jaw (Jjd c hc i [50] hm2 1 2 _ _ (by simp) (by simp) (by simp) (by simp [Jbw]) (by simp)) ?_
       simp [n2, s2, -getElem?_pos, List.getElem?_cons_zero, List.getElem?_cons_succ]
       refine ⟨.of (by kernel_rfl), ?_⟩
       have hv : Jhs c l s = Jse (Jkx c (Jis c l) i [52]) (Jkx c (Jis c l) i [50]) := by simp [Jhs, he, hk, t4, t2]
       unfold Jkx at hv
       rw [<- u4, <- u2] at hv
       generalize decide (Jet c l (netN c i [52]) = 2) = o at hv
       generalize decide (Jet c l (netN c i [50]) = 2) = b at hv
       simp only [List.cons_ne_nil, if_false] at hv
       cases o <;> cases b <;> simp <;> simp [Jaa, hv, Jse, he]
     . simp [hx] at he
       simp [hx]
       simp [Jaa, Jhs, he]
 . refine Jab (Jv4 c l hs hl h) ?_
   simp [h]
   simp [Jaa, Jhs, Jij, h]
end Go.Am
namespace Go.Am
open Go Go.Proofs Go.Pn
end Go.Am
namespace Go.Am
open Go Go.Proofs Go.Pn
@[simp] theorem Kjt : (List.range 6)[0]? = some 0 := rfl
@[simp] theorem Kju : (List.range 6)[1]? = some 1 := rfl
@[simp] theorem Kjv : (List.range 6)[2]? = some 2 := rfl
@[simp] theorem Kjw : (List.range 6)[3]? = some 3 := rfl
@[simp] theorem Kjx : (List.range 6)[4]? = some 4 := rfl
@[simp] theorem Kjy : (List.range 6)[5]? = some 5 := rfl
@[simp] theorem Kjz : (List.range 6).Nodup := List.nodup_range
end Go.Am
