/- Lemmas and contracts for the proof of a statement of this seat. -/
import Derived.Test.YtmfjjncfdpejiaaGreatDoorZW1
import Derived.Test.YtmfjjncfdpejiaaGreatDoorZN1
import Derived.Test.YtmfjjncfdpejiaaGreatDoorZN8
import Derived.Test.YtmfjjncfdpejiaaGreatDoorZC5
import Derived.Test.YtmfjjncfdpejiaaGreatDoorZC6
set_option linter.unusedVariables false
set_option linter.unusedSimpArgs false
namespace Go.Am
open Go Go.Proofs Go.Pn
def Drf.row (d : Drf) : List PV := [.lst 3 (d.parts.map Part.enc), .lst 4 (d.pipes.map EndP.enc)]
theorem Jqd (d : Drf) (s : Txt) (hl : d.parts.length < 4611686018427387904) : Pure Tryz.prog GL 86 [.iptr 2 [d.row] 0 0, .p (.str s)] (.p (.int .i64 (idxI d.parts fun p => decide (p.name = s)))) := by
 refine Pure.of_walk (N := 26) Tryz.func86 rfl rfl rfl (by simp) (by first | (simp; done) | simp [*]) ?_
 simp
 refine Jah.go [0, 1] [] 0 [] (fun _ => []) (fun _ (k : Nat) => [(5, .p (.int .i64 k))]) (fun _ _ => []) (fun k => k <= d.parts.length /\ ∀ (j : Nat) x, j < k -> d.parts[j]? = some x -> decide (x.name = s) = false) (fun k => d.parts.length - k) 0 ⟨by omega, fun j b h => by omega⟩ ?_ ?_
 . simp
 . rintro k ⟨hk, hp⟩
   simp [Drf.row]
   refine Jac (fun h => ?_) (fun h => ?_)
   . simp at h
     obtain ⟨x, e⟩ := Jag h
     simp [h, e, Part.enc, Drf.row, -getElem?_pos, List.getElem?_cons_zero, List.getElem?_cons_succ]
     refine Jac (fun h2 => ?_) (fun h2 => ?_)
     . simp at h2
       simp [Jaa, Jd8 e (by simpa using h2) hp]
     . have hnx := Jdn hp e h2
       simp
       refine ⟨wrap_i64 (by omega) (by omega), k + 1, ⟨by omega, fun j y hj hy => by have := hnx j y hj hy; simpa using this⟩, by omega, ?_⟩
       simp [Drf.row]
   . simp at h
     have hk2 : k = d.parts.length := by omega
     subst hk2
     simp [Jaa, Jek (Jdx hp)]
def Jb3 (l : List Part) (k : Nat) : Int := if k = 0 then -1 else (Jam Ja1 l k : Nat)
theorem Jkr {α : Type} {lt : α -> α -> Bool} {l : List α} : ∀ {k : Nat}, Jam lt l k <= k - 1
 | 0 => Nat.le_refl _
 | k + 1 => by
   have ih := @Jkr α lt l k
   show Jam lt l (k + 1) <= k
   unfold Jam
   split
   . split
     . exact Nat.le_refl _
     . omega
   . omega
theorem Jw2 {l : List Part} {k : Nat} {x : Part} (hx : l[k]? = some x) (h0 : 1 <= k) {y : Part} (hy : l[Jam Ja1 l k]? = some y) : Jb3 l (k + 1) = if Op.bytesLess x.name y.name then (k : Int) else Jb3 l k := by
 have e1 : Jb3 l (k + 1) = (Jam Ja1 l (k + 1) : Nat) := by unfold Jb3; rw [if_neg (by omega)]
 have e2 : Jb3 l k = (Jam Ja1 l k : Nat) := by unfold Jb3; rw [if_neg (by omega)]
 rw [e1, e2, Jkt hx hy]
 show ((if Op.bytesLess x.name y.name then k else Jam Ja1 l k : Nat) : Int) = _
 split <;> rfl
set_option maxRecDepth 20000 in
theorem Jgz (l : List Part) (hl : l.length < 4611686018427387904) : Pure Tryz.prog GL 161 [.p (.lst 3 (l.map Part.enc))] (.p (.int .i64 (Jb3 l l.length))) := by
 refine Pure.of_walk (N := 28) Tryz.func161 rfl rfl rfl (by simp) (by first | (simp; done) | simp [*]) ?_
 simp
 refine Jah.go [0] [] 0 [] (fun _ => []) (fun _ (k : Nat) => [(3, .p (.int .i64 (Jb3 l k))), (4, .p (.int .i64 k))]) (fun _ _ => []) (fun k => k <= l.length) (fun k => l.length - k) 0 (by omega) ?_ ?_
 . simp [Jb3]
 . intro k hk
   simp
   refine Jac (fun h => ?_) (fun h => ?_)
   . simp at h
     obtain ⟨x, e⟩ := Jag h
     by_cases hk0 : k = 0
     . subst hk0
       have hb : Jb3 l 0 = -1 := rfl
       have hb1 : Jb3 l 1 = 0 := by
         have := @Jkr Part Ja1 l 1
         unfold Jb3; rw [if_neg (by decide)]; omega
       simp [hb]
       refine Jai.intro (by kernel_rfl) ?_
       simp [hb, h, e, Part.enc, -getElem?_pos, List.getElem?_cons_zero, List.getElem?_cons_succ]
       exact ⟨.of (by kernel_rfl), 1, by omega, by omega, hb1.symm, rfl⟩
     . have hlt : Jam Ja1 l k < k := by have := @Jkr Part Ja1 l k; omega
       obtain ⟨y, e2⟩ := Jag (show Jam Ja1 l k < l.length by omega)
       have hst := Jw2 e (by omega) e2
       have hb : Jb3 l k = (Jam Ja1 l k : Nat) := by unfold Jb3; rw [if_neg hk0]
       rw [hb]
       generalize Jam Ja1 l k = b at *
       have hb0 : ¬ ((b : Int) < 0) := by omega
       simp
       refine Jai.intro (by kernel_rfl) ?_
       simp [hb0, h, e, e2, Part.enc, -getElem?_pos, List.getElem?_cons_zero, List.getElem?_cons_succ]
       refine ⟨by omega, .of (by kernel_rfl), ?_⟩
       refine Jac (fun h2 => ?_) (fun h2 => ?_)
       . rw [h2, if_pos rfl] at hst
         simp
         refine ⟨wrap_i64 (by omega) (by omega), k + 1, by omega, by omega, hst.symm, rfl⟩
       . rw [h2, if_neg (by simp)] at hst
         simp
         refine ⟨wrap_i64 (by omega) (by omega), k + 1, by omega, by omega, by rw [hst, hb], rfl⟩
   . simp at h
     have hk2 : k = l.length := by omega
     subst hk2
     simp [Jaa]
end Go.Am
namespace Go.Am
open Go Go.Proofs Go.Pn
theorem J4x {l : List Part} {n : Nat} {x : Part} (e : l[Jam Ja1 l l.length]? = some x) : selN Ja1 (n + 1) l = x :: selN Ja1 n (l.take (Jam Ja1 l l.length) ++ l.drop (Jam Ja1 l l.length + 1)) := by
 simp only [selN, e]
theorem J4y {l : List Pipe} {n : Nat} {x : Pipe} (e : l[Jam Ja2 l l.length]? = some x) : selN Ja2 (n + 1) l = x :: selN Ja2 n (l.take (Jam Ja2 l l.length) ++ l.drop (Jam Ja2 l l.length + 1)) := by
 simp only [selN, e]
theorem J39 {l : List Pipe} {i : Nat} : ∀ r ∈ (l.map Pipe.row).take i, ∀ c ∈ r, AV.oneCell c = true := fun r hr c hc => by
 obtain ⟨q, _, rfl⟩ := List.mem_map.1 (List.mem_of_mem_take hr)
 simp at hc
 rcases hc with rfl | rfl | rfl | rfl <;> rfl
theorem J38 {l : List Part} {i : Nat} : ∀ r ∈ (l.map Part.row).take i, ∀ c ∈ r, AV.oneCell c = true := fun r hr c hc => by
 obtain ⟨q, _, rfl⟩ := List.mem_map.1 (List.mem_of_mem_take hr)
 simp at hc
 rcases hc with rfl | rfl | rfl <;> rfl
theorem Jpt : Jb3 [] 0 = -1 := rfl
theorem Pure.aggNils {P : Program} {G : Jae} {f k : Nat} {x : AV} {rest : List AV} {r : AV} (h : Pure P G f (.agg [x, .p (.lst k [])] :: rest) r) : Pure P G f (.agg [x, .nils] :: rest) r := by
 refine ⟨by have := h.pure; simpa [Ja9, Jan] using this, fun own w vs hg hs hl hv => h.run own w vs hg hs (by simpa using hl) fun j y v hy hvj => ?_⟩
 cases j with
 | succ j => exact hv (j + 1) y v (by simpa using hy) hvj
 | zero =>
   simp at hy
   subst hy
   obtain ⟨us, rfl, h1, h2⟩ := (hv 0 _ v rfl hvj).agg_inv
   refine .agg _ us (by simpa using h1) fun i c u hc hu => ?_
   match i with
   | 0 => cases hc; exact h2 0 _ u rfl hu
   | 1 =>
     cases hc
     obtain ⟨a, rfl⟩ := (h2 1 _ u rfl hu).nils_inv
     exact .p _ _ (.lst0 ..)
   | i + 2 => cases hc
theorem Leads.accRef {G : Jae} {N n0 : Nat} {t : Jao} {s : Store} {nx d b k n : Nat} (hn : 0 < n) (hs : slot t d = .acc b k n) : Leads G N n0 ⟨t, s, nx⟩ ⟨(d, .ref b k 0 n none) :: t, s, nx⟩ := .mk fun F φ a w hr => by
 refine ⟨φ, ⟨hr.sr, hr.fresh, hr.base, ⟨hr.tr.size, fun e => ?_⟩, hr.side⟩, fun _ _ => rfl, fun _ => Step.refl _ _⟩
 show VR φ _ w (if d = e then .ref b k 0 n none else slot t e) _
 split
 . rename_i he
   subst he
   have h := hr.tr.slots d
   rw [hs] at h
   generalize a.tmps.getD d undef = v at h
   cases h with
   | acc0 => omega
   | acc _ _ _ β δ cap h1 h2 h3 h4 =>
     have := VR.ref (φ := φ) (own := ownF F φ s) (w := w) b k 0 n none β δ cap h1 (fun _ h => by cases h) h3 (by simpa using h4)
     simpa using this
 . exact hr.tr.slots e
theorem Jah.accRef {P : Program} {G : Jae} {N n0 : Nat} {c : Cont Code} {t : Jao} {s : Store} {nx : Nat} {Q : Cont KQ} (d b k n : Nat) (hn : 0 < n) (hs : slot t d = .acc b k n) (h : @Jah P G N n0 c ⟨(d, .ref b k 0 n none) :: t, s, nx⟩ Q) : @Jah P G N n0 c ⟨t, s, nx⟩ Q := AEv.leads (Leads.accRef hn hs) h
def Je8 (d : Drf) (O : List Part) (k : Nat) : List Pipe := (d.pipes.take k).map (Jf3 ⟨O, []⟩)
theorem J1h {d : Drf} {O : List Part} {k : Nat} {x : EndP} (e : d.pipes[k]? = some x) : Je8 d O (k + 1) = Je8 d O k ++ [Jf3 ⟨O, []⟩ x] := by
 unfold Je8
 rw [take_snoc e, List.map_append]; rfl
theorem J1g {d : Drf} {O : List Part} {k : Nat} (hk : k <= d.pipes.length) : (Je8 d O k).length = k := by unfold Je8; rw [List.length_map, List.length_take]; omega
set_option maxRecDepth 20000 in
theorem Jyv (d : Drf) (hp : d.parts.length <= 1000) (hx : d.pipes.length <= 2000) (hz : Sized ⟨selS Ja1 d.parts, []⟩) (hne : d.parts ≠ []) : Pure Tryz.prog GL 74 [.iptr 2 [d.row] 0 0] ((Jap d).av) := by
 refine Pure.of_walk (N := 144) Tryz.func74 rfl rfl rfl (by simp) (by first | (simp; done) | simp [*]) ?_
 have hrowP : (fun x => List.map AV.p x) ∘ Part.enc = Part.row := rfl
 simp [Drf.row]
 refine ⟨by omega, ?_⟩
 refine Jcb (fun h0 => ?_) (fun h0 => ?_)
 . simp
   rw [hrowP]
   refine Jcw ?_
   simp
   refine ⟨_, Jgz d.parts (by omega), rfl, ?_⟩
   refine Jah.gor [0, 2, 3] [0] [0, 1, 3, 4] (fun st => [0, 1, nameOf (slot st.t 4), Jia 1 st]) (fun (g : List Part × List Part) => [(4, .ref 2 3 0 g.1.length none), (5, .p (.int .i64 (Jb3 g.1 g.1.length)))]) (fun g => [(2, some (.cells 3 (g.1.map Part.row))), (3, accB 3 (g.2.map Part.row)), (1, some (.cells 2 [[.acc 3 3 g.2.length, .nils]]))]) (fun g => g.2 ++ selN Ja1 g.1.length g.1 = selS Ja1 d.parts /\ g.1.length + g.2.length = d.parts.length) (fun g => g.1.length) (d.parts, []) ⟨rfl, rfl⟩ ?_ ?_
   . obtain ⟨P, hP⟩ : ∃ P, P = d.parts := ⟨_, rfl⟩
     rw [<- hP] at h0 ⊢
     cases P with
     | nil => simp at h0
     | cons p0 P => simp
   . rintro ⟨R, O⟩ ⟨hR, hl⟩
     simp only at hR hl
     simp
     refine Jac (fun h => ?_) (fun h => ?_)
     . simp at h
       have hm1 : Jb3 R R.length = (Jam Ja1 R R.length : Nat) := by
         unfold Jb3 at h ⊢
         split at h
         . omega
         . rename_i hne; rw [if_neg hne]
       have hne : R.length ≠ 0 := fun h9 => by unfold Jb3 at h; rw [if_pos h9] at h; omega
       have hlt := @Jkr Part Ja1 R R.length
       have hml : Jam Ja1 R R.length < R.length := by omega
       obtain ⟨x, e⟩ := Jag hml
       obtain ⟨r, hr⟩ : ∃ r, r + 1 = R.length := ⟨R.length - 1, by omega⟩
       have hsel : selN Ja1 R.length R = x :: selN Ja1 r (R.take (Jam Ja1 R R.length) ++ R.drop (Jam Ja1 R R.length + 1)) := by
         conv => lhs; rw [<- hr]
         rw [J4x e]
       rw [hm1]
       generalize Jam Ja1 R R.length = m at *
       simp
       refine Jai.intro (by kernel_rfl) ?_
       simp [hml, e, -getElem?_pos, List.getElem?_cons_zero, List.getElem?_cons_succ]
       refine ⟨by omega, .of (by kernel_rfl), ?_⟩
       have hmle : m <= R.length := by omega
       refine Jai.intro (by kernel_rfl) ?_
       simp [hmle, -getElem?_pos, List.getElem?_cons_zero, List.getElem?_cons_succ]
       have hq1 := @J38 R m
       simp at hq1
       rw [if_pos hq1]
       have hq2 := @J36 R (m + 1)
       simp at hq2
       have hmin : min m R.length = m := by omega
       have hwm : IntKind.i64.wrap ((m : Int) + 1) = (m : Int) + 1 := wrap_i64 (by omega) (by omega)
       have hle1 : (0 : Int) <= (m : Int) + 1 := by omega
       have hle2 : (m : Int) + 1 <= (R.length : Int) := by omega
       have hD : List.take (R.length - (m + 1)) (List.drop (m + 1) (List.map Part.row R)) = List.drop (m + 1) (List.map Part.row R) := List.take_of_length_le (by simp)
       obtain ⟨R', hR'⟩ : ∃ R', R' = R.take m ++ R.drop (m + 1) := ⟨_, rfl⟩
       have hl' : R'.length + 1 = R.length := by rw [hR', List.length_append, List.length_take, List.length_drop]; omega
       have hinv : (O ++ [x]) ++ selN Ja1 R'.length R' = selS Ja1 d.parts := by
         rw [<- hR, hsel, <- hR', show r = R'.length by omega]; simp
       have hlen2 : R'.length + (O ++ [x]).length = d.parts.length := by rw [List.length_append, List.length_singleton]; omega
       simp
       rw [hmin]
       refine ⟨fun r hr => Jiy r (List.mem_of_mem_take hr), by omega, ?_⟩
       refine Jcb (fun k1 => ?_) (fun k1 => ?_)
       . simp [hwm, hle1, hle2, hD]
         refine Jcb (fun k2 => ?_) (fun k2 => ?_)
         . have q1 : List.take (min m R.length) (List.take m (List.map Part.row R)) = R'.map Part.row := by rw [hR', hmin, List.drop_of_length_le (by omega)]; simp [List.map_take, List.take_take]
           have q2 : min m R.length = R'.length := by omega
           simp
           rw [q1, q2]
           refine ⟨by omega, fun r hr => Jiy r (List.mem_of_mem_take hr), .of (by kernel_rfl), ?_⟩
           refine Jcw ?_
           simp
           refine ⟨_, Jgz R' (by omega), rfl, ?_⟩
           refine ⟨R', O ++ [x], ⟨hinv, hlen2⟩, by omega, ?_⟩
           simp
         . simp [hD]
           rw [if_pos ⟨by omega, hq2⟩]
           have q1 : List.take (min m R.length) (List.take m (List.map Part.row R)) ++ List.drop (m + 1) (List.map Part.row R) = R'.map Part.row := by rw [hR', hmin]; simp [List.map_take, List.map_drop, List.take_take]
           have q2 : min m R.length + (R.length - (m + 1)) = R'.length := by omega
           simp
           rw [q1, q2]
           refine ⟨fun r hr => Jiy r (List.mem_of_mem_drop hr), by omega, fun r hr => Jiy r (List.mem_of_mem_take hr), .of (by kernel_rfl), ?_⟩
           refine Jcw ?_
           simp
           refine ⟨_, Jgz R' (by omega), rfl, ?_⟩
           refine ⟨R', O ++ [x], ⟨hinv, hlen2⟩, by omega, ?_⟩
           simp
       . have hm0 : m = 0 := by omega
         simp [hwm, hle1, hle2, hD]
         refine Jcb (fun _ => ?_) (fun h9 => absurd (.inl (by omega)) h9)
         simp [hwm, hle1, hle2, hD]
         refine Jcb (fun k2 => ?_) (fun k2 => ?_)
         . have hn' : R' = [] := List.length_eq_zero_iff.1 (by omega)
           simp
           refine ⟨.of (by kernel_rfl), ?_⟩
           have hz : Jb3 R' R'.length = -1 := by rw [hn']; rfl
           refine Jcw ?_
           simp
           have hL := Jgz [] (by simp)
           refine ⟨_, hL, rfl, ?_⟩
           refine ⟨R', O ++ [x], ⟨hinv, hlen2⟩, by omega, ?_⟩
           simp [hn', Jpt]
         . simp [hD]
           rw [if_pos ⟨by omega, hq2⟩]
           have q1 : List.drop (m + 1) (List.map Part.row R) = R'.map Part.row := by rw [hR', hm0]; simp [List.map_drop]
           have q2 : R.length - (m + 1) = R'.length := by omega
           simp
           refine ⟨fun r hr => Jiy r (List.mem_of_mem_drop hr), by omega, ?_⟩
           refine Jcb (fun _ => ?_) (fun h9 => absurd (by omega) h9)
           simp
           rw [q1, q2]
           refine ⟨.of (by kernel_rfl), ?_⟩
           refine Jcw ?_
           simp
           refine ⟨_, Jgz R' (by omega), rfl, ?_⟩
           refine ⟨R', O ++ [x], ⟨hinv, hlen2⟩, by omega, ?_⟩
           simp
     . simp at h
       have hn0 : R = [] := by
         apply List.length_eq_zero_iff.1
         apply Decidable.byContradiction
         intro h9
         unfold Jb3 at h
         rw [if_neg h9] at h
         omega
       subst hn0
       have hO : O = selS Ja1 d.parts := by rw [<- hR]; simp [selN]
       have hOs : O.length <= 1000 := by omega
       have hOz : Sized ⟨O, []⟩ := by rw [hO]; exact hz
       clear hR hl h h0
       simp
       refine Jah.go [0, 2, 3] [0, 1, 3] 1 [4] (nms [6]) (fun nx (k : Nat) => [(6, .acc nx 4 k), (7, .p (.int .i64 k))]) (fun nx k => [(nx, accB 4 ((Je8 d O k).map Pipe.row))]) (fun k => k <= d.pipes.length) (fun k => d.pipes.length - k) 0 (by omega) ?_ ?_
       . simp [Je8]
         try decide
       . intro k hk
         have hkl := @J1g d O k hk
         have hst := fun {x} => @J1h d O k x
         simp [Drf.row]
         refine Jac (fun h => ?_) (fun h => ?_)
         . simp at h
           obtain ⟨x, e⟩ := Jag h
           have hst := hst e
           have hI1 := (Jmr ⟨O, []⟩ x.1.part hOz).aggNils
           have hI2 := (Jmr ⟨O, []⟩ x.2.part hOz).aggNils
           have hBf := Jjz ⟨idxI O (fun p => decide (p.name = x.2.part)), x.2.port⟩ ⟨idxI O (fun p => decide (p.name = x.1.part)), x.1.port⟩
           simp
           refine Jai.intro (by kernel_rfl) ?_
           simp [h, e, EndP.enc, Drf.row, -getElem?_pos, List.getElem?_cons_zero, List.getElem?_cons_succ]
           refine Jcw ?_
           simp
           refine ⟨_, hI1, rfl, h, ?_⟩
           simp [h, e, EndP.enc, Drf.row, -getElem?_pos, List.getElem?_cons_zero, List.getElem?_cons_succ]
           refine ⟨.of (by kernel_rfl), ?_⟩
           refine Jai.intro (by kernel_rfl) ?_
           simp [h, e, EndP.enc, Drf.row, -getElem?_pos, List.getElem?_cons_zero, List.getElem?_cons_succ]
           refine Jcw ?_
           simp
           refine ⟨_, hI2, rfl, h, ?_⟩
           simp [h, e, EndP.enc, Drf.row, -getElem?_pos, List.getElem?_cons_zero, List.getElem?_cons_succ]
           refine ⟨.of (by kernel_rfl), ?_⟩
           refine Jab hBf ?_
           simp
           refine Jac (fun h3 => ?_) (fun h3 => ?_)
           . have ht : Jf3 ⟨O, []⟩ x = ⟨⟨idxI O (fun p => decide (p.name = x.2.part)), x.2.port⟩, ⟨idxI O (fun p => decide (p.name = x.1.part)), x.1.port⟩⟩ := if_pos h3
             simp
             refine ⟨by omega, hkl, wrap_i64 (by omega) (by omega), k + 1, by omega, by omega, by omega, ?_⟩
             rw [hst, ht]
             simp
             try decide
           . have ht : Jf3 ⟨O, []⟩ x = ⟨⟨idxI O (fun p => decide (p.name = x.1.part)), x.1.port⟩, ⟨idxI O (fun p => decide (p.name = x.2.part)), x.2.port⟩⟩ := if_neg (by rw [h3]; simp)
             simp
             refine ⟨by omega, hkl, wrap_i64 (by omega) (by omega), k + 1, by omega, by omega, by omega, ?_⟩
             rw [hst, ht]
             simp
             try decide
         . simp at h
           have hkn : k = d.pipes.length := by omega
           obtain ⟨L, hL⟩ : ∃ L, L = d.pipes.map (Jf3 ⟨O, []⟩) := ⟨_, rfl⟩
           have hLk : Je8 d O k = L := by rw [hL, hkn]; unfold Je8; rw [List.take_length]
           have hLl : L.length = k := by rw [hL, List.length_map, hkn]
           rw [hLk, <- hLl]
           simp
           by_cases hL0 : L = []
           . subst hL0
             have hsr : Jap d = ⟨O, []⟩ := by unfold Jap; rw [<- hO, <- hL]; rfl
             refine Jah.go [2, 3] [0, 1, 3] 0 [] (fun _ => []) (fun _ (k : Nat) => [(6, .acc 4 4 0)]) (fun _ _ => []) (fun _ => True) (fun _ => 0) 0 trivial ?_ ?_
             . simp
               try decide
             intro k _
             simp
             rw [hsr]
             simp [Jaa]
           obtain ⟨l0, L', hL1⟩ : ∃ l0 L', L = l0 :: L' := by
             cases L with
             | nil => exact absurd rfl hL0
             | cons a b => exact ⟨a, b, rfl⟩
           refine Jah.accRef 6 4 4 L.length (by rw [hL1]; simp) rfl ?_
           refine Jah.gor [2, 3] [0, 3] [0, 1, 4, 3, 5] (fun st => [0, 1, nameOf (slot st.t 6), 3, Jib 1 st]) (fun (g : List Pipe × List Pipe) => [(6, .ref 2 4 0 g.1.length none)]) (fun g => [(2, some (.cells 4 (g.1.map Pipe.row))), (4, accB 4 (g.2.map Pipe.row)), (1, some (.cells 2 [[.acc 3 3 O.length, .acc 4 4 g.2.length]]))]) (fun g => g.2 ++ selN Ja2 g.1.length g.1 = selS Ja2 L /\ g.1.length + g.2.length = L.length) (fun g => g.1.length) (L, []) ⟨rfl, rfl⟩ ?_ ?_
           . rw [hL1]
             try simp
           rintro ⟨R, W⟩ ⟨hR, hl⟩
           simp only at hR hl
           simp
           refine Jac (fun h => ?_) (fun h => ?_)
           . simp at h
             simp
             refine Jah.go [2, 3, 6] [0, 1, 2, 3, 4] 0 [] (fun _ => []) (fun _ (k : Nat) => [(10, .p (.int .i64 (Jam Ja2 R k : Nat))), (11, .p (.int .i64 k))]) (fun _ _ => []) (fun k => 1 <= k /\ k <= R.length) (fun k => R.length - k) 1 ⟨by omega, by omega⟩ ?_ ?_
             . simp [Jnm Joo]
               decide
             . rintro k ⟨hk1, hk⟩
               have hlt := Jks Joo hk1 hk
               simp
               refine Jac (fun h4 => ?_) (fun h4 => ?_)
               . simp at h4
                 obtain ⟨x, e⟩ := Jag h4
                 obtain ⟨y, e2⟩ := Jag (show Jam Ja2 R k < R.length by omega)
                 have hsn := Jkt e e2
                 have hEa := Jqa x y
                 have hb : Jam Ja2 R k < R.length := by omega
                 generalize Jam Ja2 R k = q at *
                 simp
                 refine Jai.intro (by kernel_rfl) ?_
                 simp [h4, e, e2, hb, -getElem?_pos, List.getElem?_cons_zero, List.getElem?_cons_succ]
                 refine Jab hEa ?_
                 simp
                 refine ⟨.of (by kernel_rfl), ?_⟩
                 refine Jac (fun h5 => ?_) (fun h5 => ?_)
                 . rw [h5, if_pos rfl] at hsn
                   simp
                   refine ⟨wrap_i64 (by omega) (by omega), k + 1, ⟨by omega, by omega⟩, by omega, ?_⟩
                   simp [hsn]
                   decide
                 . rw [h5, if_neg (by simp)] at hsn
                   simp
                   refine ⟨wrap_i64 (by omega) (by omega), k + 1, ⟨by omega, by omega⟩, by omega, ?_⟩
                   simp [hsn]
                   decide
               . simp at h4
                 have hkn : k = R.length := by omega
                 subst hkn
                 obtain ⟨x, e⟩ := Jag hlt
                 obtain ⟨r, hr⟩ : ∃ r, r + 1 = R.length := ⟨R.length - 1, by omega⟩
                 have hsel : selN Ja2 R.length R = x :: selN Ja2 r (R.take (Jam Ja2 R R.length) ++ R.drop (Jam Ja2 R R.length + 1)) := by
                   conv => lhs; rw [<- hr]
                   rw [J4y e]
                 generalize Jam Ja2 R R.length = m at *
                 have hmle : m <= R.length := by omega
                 obtain ⟨R', hR'⟩ : ∃ R', R' = R.take m ++ R.drop (m + 1) := ⟨_, rfl⟩
                 have hl' : R'.length + 1 = R.length := by rw [hR', List.length_append, List.length_take, List.length_drop]; omega
                 have hinv : (W ++ [x]) ++ selN Ja2 R'.length R' = selS Ja2 L := by
                   rw [<- hR, hsel, <- hR', show r = R'.length by omega]; simp
                 have hlen2 : R'.length + (W ++ [x]).length = L.length := by rw [List.length_append, List.length_singleton]; omega
                 have hLx : L.length <= 2000 := by omega
                 simp
                 refine Jai.intro (by kernel_rfl) ?_
                 simp [hlt, e, -getElem?_pos, List.getElem?_cons_zero, List.getElem?_cons_succ]
                 refine ⟨by omega, .of (by kernel_rfl), ?_⟩
                 have hq1 := @J39 R m
                 simp at hq1
                 have hq2 := @J37 R (m + 1)
                 simp at hq2
                 have hmin : min m R.length = m := by omega
                 have hwm : IntKind.i64.wrap ((m : Int) + 1) = (m : Int) + 1 := wrap_i64 (by omega) (by omega)
                 have hle1 : (0 : Int) <= (m : Int) + 1 := by omega
                 have hle2 : (m : Int) + 1 <= (R.length : Int) := by omega
                 have hD : List.take (R.length - (m + 1)) (List.drop (m + 1) (List.map Pipe.row R)) = List.drop (m + 1) (List.map Pipe.row R) := List.take_of_length_le (by simp)
                 refine Jai.intro (by kernel_rfl) ?_
                 simp [hmle, -getElem?_pos, List.getElem?_cons_zero, List.getElem?_cons_succ]
                 rw [if_pos hq1]
                 simp
                 rw [hmin]
                 refine ⟨fun r hr => Jiz r (List.mem_of_mem_take hr), by omega, ?_⟩
                 refine Jcb (fun k1 => ?_) (fun k1 => ?_)
                 . simp [hwm, hle1, hle2, hD]
                   refine Jcb (fun k2 => ?_) (fun k2 => ?_)
                   . have q1 : List.take (min m R.length) (List.take m (List.map Pipe.row R)) = R'.map Pipe.row := by rw [hR', hmin, List.drop_of_length_le (by omega)]; simp [List.map_take, List.take_take]
                     have q2 : min m R.length = R'.length := by omega
                     simp
                     rw [q1, q2]
                     refine ⟨by omega, fun r hr => Jiz r (List.mem_of_mem_take hr), .of (by kernel_rfl), ?_⟩
                     refine ⟨R', W ++ [x], ⟨hinv, hlen2⟩, by omega, ?_⟩
                     simp
                   . simp [hD]
                     rw [if_pos ⟨by omega, hq2⟩]
                     have q1 : List.take (min m R.length) (List.take m (List.map Pipe.row R)) ++ List.drop (m + 1) (List.map Pipe.row R) = R'.map Pipe.row := by rw [hR', hmin]; simp [List.map_take, List.map_drop, List.take_take]
                     have q2 : min m R.length + (R.length - (m + 1)) = R'.length := by omega
                     simp
                     rw [q1, q2]
                     refine ⟨fun r hr => Jiz r (List.mem_of_mem_drop hr), by omega, fun r hr => Jiz r (List.mem_of_mem_take hr), .of (by kernel_rfl), ?_⟩
                     refine ⟨R', W ++ [x], ⟨hinv, hlen2⟩, by omega, ?_⟩
                     simp
                 . have hm0 : m = 0 := by omega
                   simp [hwm, hle1, hle2, hD]
                   refine Jcb (fun _ => ?_) (fun h9 => absurd (.inl (by omega)) h9)
                   simp [hwm, hle1, hle2, hD]
                   refine Jcb (fun k2 => ?_) (fun k2 => ?_)
                   . have hn' : R' = [] := List.length_eq_zero_iff.1 (by omega)
                     simp
                     refine ⟨.of (by kernel_rfl), ?_⟩
                     refine ⟨R', W ++ [x], ⟨hinv, hlen2⟩, by omega, ?_⟩
                     simp [hn']
                   . simp [hD]
                     rw [if_pos ⟨by omega, hq2⟩]
                     have q1 : List.drop (m + 1) (List.map Pipe.row R) = R'.map Pipe.row := by rw [hR', hm0]; simp [List.map_drop]
                     have q2 : R.length - (m + 1) = R'.length := by omega
                     simp
                     refine ⟨fun r hr => Jiz r (List.mem_of_mem_drop hr), by omega, ?_⟩
                     refine Jcb (fun _ => ?_) (fun h9 => absurd (by omega) h9)
                     simp
                     rw [q1, q2]
                     refine ⟨.of (by kernel_rfl), ?_⟩
                     refine ⟨R', W ++ [x], ⟨hinv, hlen2⟩, by omega, ?_⟩
                     simp
           . simp at h
             have hn0 : R = [] := by first | exact h | exact List.length_eq_zero_iff.1 (by omega)
             subst hn0
             have hW : W = selS Ja2 L := by rw [<- hR]; simp [selN]
             have hsr : Jap d = ⟨O, W⟩ := by unfold Jap; rw [<- hO, <- hL, <- hW]
             rw [hsr]
             simp [Jaa]
 . exact absurd (List.length_eq_zero_iff.1 (by omega)) hne
set_option maxRecDepth 20000 in
theorem Jxg : Pure Tryz.prog GL 74 [.iptr 2 [[.lst 3 [], .lst 4 []]] 0 0] noC.av := by
 refine Pure.of_walk (N := 144) Tryz.func74 rfl rfl rfl (by simp) rfl ?_
 have hL := Jgz [] (by simp)
 simp
 refine Jcw ?_
 simp
 refine ⟨_, hL, rfl, ?_⟩
 refine Jah.go [0, 2, 3] [0, 1] 0 [] (fun _ => []) (fun _ (k : Nat) => [(5, .p (.int .i64 (-1)))]) (fun _ _ => []) (fun _ => True) (fun _ => 0) 0 trivial ?_ ?_
 . simp [Jpt]
   try decide
 intro k _
 simp
 refine Jah.go [0, 2, 3] [0, 1] 0 [] (fun _ => []) (fun _ (k : Nat) => [(6, .nils), (7, .p (.int .i64 0))]) (fun _ _ => []) (fun _ => True) (fun _ => 0) 0 trivial ?_ ?_
 . simp
   try decide
 intro k _
 simp
 refine Jah.go [2, 3] [0, 1] 0 [] (fun _ => []) (fun _ (k : Nat) => [(6, .nils)]) (fun _ _ => []) (fun _ => True) (fun _ => 0) 0 trivial ?_ ?_
 . simp
   try decide
 intro k _
 simp [Jaa, noC]
end Go.Am
namespace Go.Am
open Go Go.Proofs Go.Pn
def Ji3 (o n : List Txt) (s : Txt) : Txt := if idxI o (fun x => decide (x = s)) < 0 then s else (n[(idxI o (fun x => decide (x = s))).toNat]?).getD []
theorem Jyw (s : Txt) (o n : List Txt) (hl : o.length = n.length) (ho : o.length < 1000) : Pure Tryz.prog GL 169 [.p (.str s), .p (.lst 1 (o.map Txt.enc)), .p (.lst 1 (n.map Txt.enc))] (.p (.str (Ji3 o n s))) := by
 refine Pure.of_walk (N := 25) Tryz.func169 rfl rfl rfl (by simp) (by first | (simp; done) | simp [*]) ?_
 simp
 refine Jah.go [0, 1, 2] [] 0 [] (fun _ => []) (fun _ (k : Nat) => [(7, .p (.int .i64 k))]) (fun _ _ => []) (fun k => k <= o.length /\ ∀ (j : Nat) x, j < k -> o[j]? = some x -> decide (x = s) = false) (fun k => o.length - k) 0 ⟨by omega, fun j b h => by omega⟩ ?_ ?_
 . simp
 . rintro k ⟨hk, hp⟩
   simp
   refine Jac (fun h => ?_) (fun h => ?_)
   . simp at h
     obtain ⟨x, e⟩ := Jag h
     obtain ⟨y, e2⟩ := Jag (show k < n.length by omega)
     simp [h, e, Txt.enc, -getElem?_pos, List.getElem?_cons_zero, List.getElem?_cons_succ]
     refine Jac (fun h2 => ?_) (fun h2 => ?_)
     . have hi := Jd8 e h2 hp
       have hr : Ji3 o n s = y := by unfold Ji3; rw [hi, if_neg (by omega), Int.toNat_natCast, e2]; rfl
       have hkn : k < n.length := by omega
       simp [hkn, e2, Txt.enc, -getElem?_pos, List.getElem?_cons_zero, List.getElem?_cons_succ]
       simp [Jaa, hr]
     . have hnx := Jdn hp e h2
       simp
       refine ⟨wrap_i64 (by omega) (by omega), k + 1, ⟨by omega, fun j y hj hy => by have := hnx j y hj hy; simpa using this⟩, by omega, ?_⟩
       simp
   . simp at h
     have hk2 : k = o.length := by omega
     subst hk2
     have hr : Ji3 o n s = s := by unfold Ji3; rw [Jek (Jdx hp), if_pos (by decide)]
     simp [Jaa, hr]
def nmdP (c : Circuit) (f : Txt -> Txt) (k : Nat) : List Part := (c.parts.take k).map (Jbw f)
def nmdX (c : Circuit) (f : Txt -> Txt) (k : Nat) : List EndP := (c.pipes.take k).map fun x => (Jbz f (Jax c x.fr), Jbz f (Jax c x.to))
theorem J14 {c : Circuit} {f : Txt -> Txt} {k : Nat} {p : Part} (e : c.parts[k]? = some p) : nmdP c f (k + 1) = nmdP c f k ++ [Jbw f p] := by
 unfold nmdP; rw [take_snoc e, List.map_append]; rfl
theorem J17 {c : Circuit} {f : Txt -> Txt} {k : Nat} {x : Pipe} (e : c.pipes[k]? = some x) : nmdX c f (k + 1) = nmdX c f k ++ [(Jbz f (Jax c x.fr), Jbz f (Jax c x.to))] := by
 unfold nmdX; rw [take_snoc e, List.map_append]; rfl
theorem J13 {c : Circuit} {f : Txt -> Txt} {k : Nat} (h : k <= c.parts.length) : (nmdP c f k).length = k := by unfold nmdP; rw [List.length_map, List.length_take]; omega
theorem J16 {c : Circuit} {f : Txt -> Txt} {k : Nat} (h : k <= c.pipes.length) : (nmdX c f k).length = k := by unfold nmdX; rw [List.length_map, List.length_take]; omega
end Go.Am
namespace Go.Am
open Go Go.Proofs Go.Pn
end Go.Am
namespace Go.Am
open Go Go.Proofs Go.Pn
theorem Jms (s : Txt) : Pure Tryz.prog GL 169 [.p (.str s), .nils, .nils] (.p (.str s)) := by
 have h0 := Jyw s [] [] rfl (by decide)
 have h1 := Pure.nilsA (i := 1) (k := 1) h0 (by simp)
 exact Pure.nilsA (i := 2) (k := 1) h1 (by simp)
theorem J4n {ρ : List Nat} {p p' : Nat × Option ABlk} {q q' : Store} (h1 : renS ρ [p] = some [p']) (h2 : renS ρ q = some q') : renS ρ (p :: q) = some (p' :: q') := by
 obtain ⟨b, x⟩ := p
 cases hb : ρ[b]? with
 | none => simp [renS, hb] at h1
 | some b' =>
   cases x with
   | none => simp [renS, hb] at h1 ⊢; simp [h1, h2]
   | some y =>
     cases hy : renB ρ y with
     | none => simp only [renS, hb, hy, Option.bind_some, Option.map_none, Option.bind_none] at h1; cases h1
     | some y' =>
       simp only [renS, hb, hy, h2, Option.bind_some, Option.map_some, Option.some.injEq, List.cons.injEq, and_true] at h1 ⊢
       exact h1
set_option maxRecDepth 20000 in
theorem Jrf (c : Circuit) (h : Jad c = 0) (s : Store) (nx : Nat) :
   Gives Tryz.prog GL 85 [c.av, .nils, .nils] s nx (.agg [.acc nx 3 c.parts.length, .acc (nx + 1) 4 c.pipes.length]) [] [(nx, accB 3 ((nmdP c id c.parts.length).map Part.row)), (nx + 1, accB 4 ((nmdX c id c.pipes.length).map EndP.row))] (nx + 2) := by
 refine Gives.mk_walkK (N := 89) (args := [c.av, .nils, .nils]) [] [] [] [(0, accB 3 ((nmdP c id c.parts.length).map Part.row)), (1, accB 4 ((nmdX c id c.pipes.length).map EndP.row))] 0 2 (.agg [.acc 0 3 c.parts.length, .acc 1 4 c.pipes.length]) (fun st => [Jia 1 st, Jib 1 st]) (up1 := [(nx, accB 3 ((nmdP c id c.parts.length).map Part.row)), (nx + 1, accB 4 ((nmdX c id c.pipes.length).map EndP.row))]) Tryz.func85 rfl rfl rfl (by simp) rfl (by simp) (by simp) (by simp [Jbx]) (J4n (Juk rfl (Ji2 fun _ => rfl)) (Juk rfl (Ji2 fun _ => rfl))) (by simp) rfl ?_
 have h64 := (Jc0.1 h).1.few
 have h256 := (Jc0.1 h).2.1
 simp
 refine Jah.go [1, 2, 3, 6, 7] [0, 1] 1 [3] (fun st => [Jia 2 st]) (fun nx (k : Nat) => [(8, .p (.int .i64 k))]) (fun nx k => [(2, some (.cells 2 [[.acc nx 3 k, .nils]])), (nx, accB 3 ((nmdP c id k).map Part.row))]) (fun k => k <= c.parts.length) (fun k => c.parts.length - k) 0 (by omega) ?_ ?_
 . simp [nmdP]
   try decide
 intro k hk
 have hkl := @J13 c id k hk
 simp
 refine Jac (fun h3 => ?_) (fun h3 => ?_)
 . simp at h3
   obtain ⟨p, e⟩ := Jag h3
   have hst := @J14 c id k p e
   simp [h3, e, Part.enc, -getElem?_pos, List.getElem?_cons_zero, List.getElem?_cons_succ]
   refine Jab (Jms p.name) ?_
   simp
   refine ⟨by omega, hkl, wrap_i64 (by omega) (by omega), k + 1, by omega, by omega, by omega, ⟨rfl, ?_⟩, by decide⟩
   rw [hst]
   simp [Jbw]
 . simp at h3
   have hkn : k = c.parts.length := by omega
   subst hkn
   simp
   refine Jah.go [1, 2, 3, 6, 7] [0, 1, 3] 1 [4] (fun st => [Jib 2 st]) (fun nx (k : Nat) => [(10, .p (.int .i64 k))]) (fun nx k => [(2, some (.cells 2 [[.acc 3 3 c.parts.length, .acc nx 4 k]])), (nx, accB 4 ((nmdX c id k).map EndP.row))]) (fun k => k <= c.pipes.length) (fun k => c.pipes.length - k) 0 (by omega) ?_ ?_
   . simp [nmdX]
     try decide
   intro k hk2
   have hkl2 := @J16 c id k hk2
   simp
   refine Jac (fun h4 => ?_) (fun h4 => ?_)
   . simp at h4
     obtain ⟨x, e⟩ := Jag h4
     have hst := @J17 c id k x e
     obtain ⟨hA, hB⟩ := Jtw h (List.mem_of_getElem? e)
     obtain ⟨i1, q1, g1, g2, g3⟩ := Jla hA
     obtain ⟨i2, q2, l1, l2, l3⟩ := Jla hB
     have e1 : nameAt c x.fr.part = q1.name := by rw [g1]; exact Jk0 g2
     have e2 : nameAt c x.to.part = q2.name := by rw [l1]; exact Jk0 l2
     have hi1 := (gsI.1 g2).1
     have hi2 := (gsI.1 l2).1
     simp
     refine Jai.intro (by kernel_rfl) ?_
     simp [h4, e, Pipe.enc, -getElem?_pos, List.getElem?_cons_zero, List.getElem?_cons_succ]
     refine ⟨.of (by kernel_rfl), ?_⟩
     refine Jai.intro (by kernel_rfl) ?_
     simp [g1, g2, hi1, Part.enc, -getElem?_pos, List.getElem?_cons_zero, List.getElem?_cons_succ]
     refine Jab (Jms q1.name) ?_
     simp [l1, l2, hi2, Part.enc, -getElem?_pos, List.getElem?_cons_zero, List.getElem?_cons_succ]
     refine Jab (Jms q2.name) ?_
     simp
     refine ⟨by omega, hkl2, fun r a b _ e => by subst e; rfl, .of (by kernel_rfl), wrap_i64 (by omega) (by omega), k + 1, by omega, by omega, by omega, ⟨rfl, ?_⟩, by decide⟩
     rw [hst]
     simp [Jbz, Jax, e1, e2]
   . simp at h4
     have hkn : k = c.pipes.length := by omega
     subst hkn
     have hP : renR [3, 4] (List.map Part.row (nmdP c id c.parts.length)) = some (List.map Part.row (nmdP c id c.parts.length)) := Ji2 fun _ => rfl
     have hX : renR [3, 4] (List.map EndP.row (nmdX c id c.pipes.length)) = some (List.map EndP.row (nmdX c id c.pipes.length)) := Ji2 fun _ => rfl
     simp
     constructor
     . unfold accB
       by_cases hz : List.map Part.row (nmdP c id c.parts.length) = []
       . rw [if_pos hz]; trivial
       . rw [if_neg hz]; simp [hP]
     . unfold accB
       by_cases hz : List.map EndP.row (nmdX c id c.pipes.length) = []
       . rw [if_pos hz]; trivial
       . rw [if_neg hz]; simp [hX]
theorem J12 {c : Circuit} : nmdP c id c.parts.length = c.parts := by
 unfold nmdP; rw [List.take_length]; exact (List.map_congr_left fun p _ => rfl).trans (List.map_id _)
theorem J15 {c : Circuit} : nmdX c id c.pipes.length = (drfC c).pipes := by
 unfold nmdX drfC; rw [List.take_length]; rfl
theorem Jls {ps qs : List Part} : (uniP ps qs).length <= ps.length + qs.length := by
 unfold uniP
 rw [List.length_append]
 have := List.length_filter_le (fun q => decide (q.name ∉ ps.map (·.name))) qs
 omega
theorem J6l {ps qs : List Part} {k : Nat} {q : Part} (e : qs[k]? = some q) : uniP ps (qs.take (k + 1)) = if q.name ∈ ps.map (·.name) then uniP ps (qs.take k) else uniP ps (qs.take k) ++ [q] := by
 unfold uniP
 rw [take_snoc e, List.filter_append]
 by_cases h : q.name ∈ ps.map (·.name)
 . rw [if_pos h, List.filter_cons_of_neg (by simpa using h)]; simp
 . rw [if_neg h, List.filter_cons_of_pos (by simpa using h)]; simp
theorem J6k {ps qs : List Part} (hn : (qs.map (·.name)).Nodup) {k : Nat} {q p : Part} (e : qs[k]? = some q) (hp : p ∈ uniP ps (qs.take k)) (hpq : p.name = q.name) : p ∈ ps := by
 rcases List.mem_append.1 hp with h | h
 . exact h
 . obtain ⟨j, ej⟩ := List.mem_iff_getElem?.1 (List.mem_filter.1 h).1
   have hjk : j < k := by have := (gsI.1 ej).1; rw [List.length_take] at this; omega
   rw [List.getElem?_take_of_lt hjk] at ej
   have e1 : (qs.map (·.name))[j]? = (qs.map (·.name))[k]? := by rw [List.getElem?_map, List.getElem?_map, ej, e]; simp [hpq]
   have := (List.getElem?_inj (by rw [List.length_map]; exact (gsI.1 ej).1) hn).1 e1
   omega
theorem J6o {xs ys : List EndP} {k : Nat} {y : EndP} (e : ys[k]? = some y) : uniX xs (ys.take (k + 1)) = if ordX y ∈ xs.map ordX then uniX xs (ys.take k) else uniX xs (ys.take k) ++ [y] := by
 unfold uniX
 rw [take_snoc e, List.filter_append]
 by_cases h : ordX y ∈ xs.map ordX
 . rw [if_pos h, List.filter_cons_of_neg (by simpa using h)]; simp
 . rw [if_neg h, List.filter_cons_of_pos (by simpa using h)]; simp
theorem J6n {xs ys : List EndP} (hn : (ys.map ordX).Nodup) {k : Nat} {y : EndP} (e : ys[k]? = some y) : ordX y ∈ (uniX xs (ys.take k)).map ordX ↔ ordX y ∈ xs.map ordX := by
 constructor
 . intro h
   obtain ⟨z, hz, e2⟩ := List.mem_map.1 h
   rcases List.mem_append.1 hz with h1 | h1
   . exact List.mem_map.2 ⟨z, h1, e2⟩
   . obtain ⟨j, ej⟩ := List.mem_iff_getElem?.1 (List.mem_filter.1 h1).1
     have hjk : j < k := by have := (gsI.1 ej).1; rw [List.length_take] at this; omega
     rw [List.getElem?_take_of_lt hjk] at ej
     have e1 : (ys.map ordX)[j]? = (ys.map ordX)[k]? := by rw [List.getElem?_map, List.getElem?_map, ej, e]; simp [e2]
     have := (List.getElem?_inj (by rw [List.length_map]; exact (gsI.1 ej).1) hn).1 e1
     omega
 . intro h
   obtain ⟨z, hz, e2⟩ := List.mem_map.1 h
   exact List.mem_map.2 ⟨z, List.mem_append_left _ hz, e2⟩
theorem Jqt {s : Store} {d m q : Nat} {ps : List Part} {xs : List EndP} (g0 : get s d = some (.cells 2 [[.acc m 3 ps.length, .acc q 4 xs.length]])) (g1 : get s m = accB 3 (ps.map Part.row)) (g2 : get s q = accB 4 (xs.map EndP.row)) :
   FrzA s (· ∈ [d, m, q]) (.ptr d 2 0 0) (.iptr 2 [Drf.row ⟨ps, xs⟩] 0 0) := by
 have f0 : Frz s (· ∈ [d, m, q]) (.acc m 3 ps.length) (.lst 3 (ps.map Part.enc)) := .accRows (rows := ps.map Part.enc) (by simp) g1 (by rw [List.map_map]; rfl) (List.length_map ..)
 have f1 : Frz s (· ∈ [d, m, q]) (.acc q 4 xs.length) (.lst 4 (xs.map EndP.enc)) := .accRows (rows := xs.map EndP.enc) (by simp) g2 (by rw [List.map_map]; rfl) (List.length_map ..)
 refine .ptr d 2 0 0 _ _ (fun _ j => if j = 0 then .acc m 3 ps.length else .acc q 4 xs.length) (by simp) g0 (fun p j row x h1 h2 => ?_) (fun p j row x h1 h2 => ?_)
 . match p, h1 with
   | 0, h1 =>
     cases h1
     match j, h2 with
     | 0, h2 => exact ⟨_, rfl, rfl⟩
     | 1, h2 => exact ⟨_, rfl, rfl⟩
 . match p, h1 with
   | 0, h1 =>
     cases h1
     match j, h2 with
     | 0, h2 => cases h2; exact f0
     | 1, h2 => cases h2; exact f1
theorem J0m (ps : List Part) (xs : List EndP) (t : Txt) (hl : ps.length < 100000) (s : Store) (nx d m q : Nat)
   (g0 : get s d = some (.cells 2 [[.acc m 3 ps.length, .acc q 4 xs.length]])) (g1 : get s m = accB 3 (ps.map Part.row)) (g2 : get s q = accB 4 (xs.map EndP.row)) :
   Gives Tryz.prog GL 86 [.ptr d 2 0 0, .p (.str t)] s nx (.p (.int .i64 (idxI ps fun p => decide (p.name = t)))) [d, m, q] [] nx :=
 (Jqd ⟨ps, xs⟩ t (by show ps.length < _; omega)).lend rfl (fun i a x ha hx => by
   match i with
   | 0 => cases ha; cases hx; exact Jqt g0 g1 g2
   | 1 => cases ha; cases hx; exact .same _ rfl
   | i + 2 => cases hx) rfl
theorem Jxf (d : Drf) (hp : d.parts.length <= 1000) (hx : d.pipes.length <= 2000) (hz : Sized ⟨selS Ja1 d.parts, []⟩) (he : d.parts = [] -> d.pipes = []) : Pure Tryz.prog GL 74 [.iptr 2 [d.row] 0 0] (Jap d).av := by
 by_cases h : d.parts = []
 . have h2 := he h
   obtain ⟨ps, xs⟩ := d
   simp only at h h2
   subst h; subst h2
   exact Jxg
 . exact Jyv d hp hx hz h
def Jf2 (X : List EndP) (y : EndP) (j : Nat) : Bool := (X.take j).any fun z => decide (z = y) || decide (z = (y.2, y.1))
theorem J5l {X : List EndP} {y : EndP} {j : Nat} {z : EndP} (e : X[j]? = some z) : Jf2 X y (j + 1) = (Jf2 X y j || (decide (z = y) || decide (z = (y.2, y.1)))) := by
 unfold Jf2; rw [take_snoc e, List.any_append]; simp
theorem J5k {X : List EndP} {y : EndP} : Jf2 X y X.length = decide (ordX y ∈ X.map ordX) := by
 unfold Jf2
 rw [List.take_length, Bool.eq_iff_iff, decide_eq_true_eq]
 constructor
 . intro h
   obtain ⟨z, hz, h2⟩ := List.any_eq_true.1 h
   refine List.mem_map.2 ⟨z, hz, ?_⟩
   simp at h2
   rcases h2 with rfl | rfl
   . rfl
   . exact Js5
 . intro h
   obtain ⟨z, hz, h2⟩ := List.mem_map.1 h
   refine List.any_eq_true.2 ⟨z, hz, ?_⟩
   obtain ⟨z1, z2⟩ := z
   obtain ⟨y1, y2⟩ := y
   rcases Js6.1 h2 with ⟨rfl, rfl⟩ | ⟨rfl, rfl⟩ <;> simp
theorem Jzv {a0 b0 a1 b1 a2 b2 a3 b3 : List UInt8} : eqA Tryz.prog 8 162 (.agg [.p (.str a0), .p (.str a1), .p (.str a2), .p (.str a3)]) (.agg [.p (.str b0), .p (.str b1), .p (.str b2), .p (.str b3)]) = some ((decide (a0 = b0) && (decide (a1 = b1) && true)) && ((decide (a2 = b2) && (decide (a3 = b3) && true)) && true)) := by kernel_rfl
theorem Jpc {a0 b0 a1 b1 a2 b2 a3 b3 : List UInt8} {f : Cont (Bool -> Prop)} : @xEq Tryz.prog 162 [.p (.str a0), .p (.str a1), .p (.str a2), .p (.str a3)] [.p (.str b0), .p (.str b1), .p (.str b2), .p (.str b3)] f = f.k (decide (a0 = b0 /\ a1 = b1 /\ a2 = b2 /\ a3 = b3)) := by
 have h1 : (Tryz.prog).eqGuardType (Tryz.prog).depth 162 = false := by kernel_rfl
 have h2 : ((decide (a0 = b0) && (decide (a1 = b1) && true)) && ((decide (a2 = b2) && (decide (a3 = b3) && true)) && true)) = decide (a0 = b0 /\ a1 = b1 /\ a2 = b2 /\ a3 = b3) := by simp [Bool.decide_and, Bool.and_assoc]
 simp only [xEq, VEq, Jzv, h1, h2, Jjj, true_and]
theorem Jqs {y z : EndP} : decide (z.1.part = y.1.part /\ z.1.port = y.1.port /\ z.2.part = y.2.part /\ z.2.port = y.2.port) = decide (z = y) := by
 obtain ⟨⟨a, b⟩, ⟨c, d⟩⟩ := z
 obtain ⟨⟨e, f⟩, ⟨g, h⟩⟩ := y
 simp [and_assoc]
set_option maxRecDepth 20000 in
theorem J7n (a b : Circuit) (ha : Sized a) (hb : Sized b) : Pure Tryz.prog GL 29 [a.av, b.av] (.tup [(uniC a b).av, .p (.int .i64 (uniE a b))]) := by
 refine Pure.of_walk (N := 144) Tryz.func29 rfl rfl rfl (by simp) (by first | (simp; done) | simp [*]) ?_
 simp
 refine Jab (Jp9 a ha) ?_
 by_cases hca : Jad a = 0
 . simp [hca]
   refine Jab (Jp9 b hb) ?_
   by_cases hcb : Jad b = 0
   . have hga := fun s nx => Jrf a hca s nx
     have hgb := fun s nx => Jrf b hcb s nx
     rw [J12, J15] at hga hgb
     have hXa : (drfC a).pipes.length = a.pipes.length := List.length_map ..
     have hXb : (drfC b).pipes.length = b.pipes.length := List.length_map ..
     simp [hcb]
     refine Jai.intro (by kernel_rfl) ?_
     simp
     refine Ja4 (hga _ _) ?_
     simp
     refine Ja4 (hgb _ _) ?_
     simp
     refine ⟨.of (by kernel_rfl), ?_⟩
     have hna := (Jf9 hca).nd
     have hnb := (Jf9 hcb).nd
     change (a.parts.map (·.name)).Nodup at hna
     change (b.parts.map (·.name)).Nodup at hnb
     have la := (Jc0.1 hca).1.few
     have lb := (Jc0.1 hcb).1.few
     have xa := (Jc0.1 hca).2.1
     have xb := (Jc0.1 hcb).2.1
     refine Jah.gor [4, 8, 9] [2, 4, 5, 6, 8] [0, 1, 2, 3, 4, 5, 6, 7, 8] (fun st => [0, 1, 2, Jia 7 st, 4, 5, 6, 7, 8]) (fun (k : Nat) => [(10, .p (.int .i64 k))]) (fun k => [(3, accB 3 ((uniP a.parts (b.parts.take k)).map Part.row)), (7, some (.cells 2 [[.acc 3 3 (uniP a.parts (b.parts.take k)).length, .acc 4 4 a.pipes.length]]))]) (fun k => k <= b.parts.length /\ ∀ (j : Nat) q, j < k -> b.parts[j]? = some q -> ∀ p ∈ a.parts, p.name = q.name -> p = q) (fun k => b.parts.length - k) 0 ⟨by omega, fun j q hj => absurd hj (by omega)⟩ ?_ ?_
     . simp [uniP]
       try decide
     rintro k ⟨hk, hp⟩
     simp
     refine Jac (fun h3 => ?_) (fun h3 => ?_)
     . simp at h3
       obtain ⟨q, e⟩ := Jag h3
       have hbne : ¬ b.parts = [] := fun h9 => by rw [h9] at h3; simp at h3
       have hPl := Jqd ⟨uniP a.parts (b.parts.take k), (drfC a).pipes⟩ q.name (by show (uniP a.parts (b.parts.take k)).length < _; have := @Jls a.parts (b.parts.take k); rw [List.length_take] at this; omega)
       simp [h3, e, -getElem?_pos, List.getElem?_cons_zero, List.getElem?_cons_succ]
       refine ⟨fun h9 => by rw [h9] at h3; simp at h3, ?_⟩
       refine Ja4 (J0m (uniP a.parts (b.parts.take k)) (drfC a).pipes q.name (by have := @Jls a.parts (b.parts.take k); rw [List.length_take] at this; omega) _ _ 7 3 4 (by rw [hXa]; rfl) rfl rfl) ?_
       simp
       have hnx : ∀ (B : Prop), B -> (∀ p ∈ a.parts, p.name = q.name -> p = q) -> ∀ (j : Nat) q', j < k + 1 -> b.parts[j]? = some q' -> ∀ p ∈ a.parts, p.name = q'.name -> p = q' := fun _ _ h9 j q' hj hq' => by
         by_cases hjk : j = k
         . subst hjk; rw [e] at hq'; cases hq'; exact h9
         . exact hp j q' (by omega) hq'
       have hle := @Jls a.parts (b.parts.take k)
       rw [List.length_take] at hle
       have hst := @J6l a.parts b.parts k q e
       have hown := fun p hpp hpq => @J6k a.parts b.parts hnb k q p e hpp hpq
       have hsub : ∀ p ∈ a.parts, p ∈ uniP a.parts (b.parts.take k) := fun p hpa => List.mem_append_left _ hpa
       generalize uniP a.parts (b.parts.take k) = A at *
       rcases Jil A (fun p => decide (p.name = q.name)) with ⟨f1, f2⟩ | ⟨i, p, f1, f2, f3, f4⟩
       . have hno : ∀ p ∈ A, p.name ≠ q.name := fun p hpp => by
           have := (List.findIdx?_eq_none_iff.1 f1) p hpp
           simpa using this
         have hnq : q.name ∉ a.parts.map (·.name) := fun h9 => by
           obtain ⟨p, hpa, e9⟩ := List.mem_map.1 h9
           exact hno p (hsub p hpa) e9
         rw [if_neg hnq] at hst
         have hinv := hnx True trivial (fun p hpa h9 => absurd (List.mem_map.2 ⟨p, hpa, h9⟩) hnq)
         simp [f2]
         refine Jai.intro (by kernel_rfl) ?_
         simp [h3, e, -getElem?_pos, List.getElem?_cons_zero, List.getElem?_cons_succ]
         refine ⟨hbne, by omega, .of (by kernel_rfl), wrap_i64 (by omega) (by omega), k + 1, ⟨by omega, hinv⟩, by omega, by omega, ?_⟩
         rw [hst]
         simp
         try decide
       . have hi : i < A.length := (gsI.1 f3).1
         have hpn : p.name = q.name := by simpa using f4
         have hpa := hown p (List.mem_of_getElem? f3) hpn
         rw [if_pos (List.mem_map.2 ⟨p, hpa, hpn⟩)] at hst
         have hi0 : ¬ (i : Int) < 0 := by omega
         simp [f2, hi0]
         refine Jai.intro (by kernel_rfl) ?_
         simp [hi, f3, h3, e, -getElem?_pos, List.getElem?_cons_zero, List.getElem?_cons_succ]
         refine ⟨fun h9 => by rw [h9] at hi; simp at hi, hbne, .of (by kernel_rfl), ?_⟩
         by_cases hpq : p = q
         . have hinv := hnx True trivial (fun p' hpa' h9 => (J1o hca hpa' hpa (h9.trans hpn.symm)).trans hpq)
           simp [hpq]
           refine ⟨wrap_i64 (by omega) (by omega), k + 1, ⟨by omega, hinv⟩, by omega, by omega, ?_⟩
           rw [hst]
           simp
           try decide
         . have hcl : clash a b = true := List.any_eq_true.2 ⟨q, List.mem_of_getElem? e, List.any_eq_true.2 ⟨p, hpa, by simp [hpn, hpq]⟩⟩
           have hE : uniE a b = 16 := by unfold uniE; rw [hca, hcb, hcl]; rfl
           have hC : uniC a b = noC := by unfold uniC; rw [if_neg (by rw [hE]; decide)]
           simp [hpq, Jaa, hE, hC, noC]
     . simp at h3
       have hkn : k = b.parts.length := by omega
       subst hkn
       rw [List.take_length]
       have hcl : clash a b = false := by
         cases hc : clash a b with
         | false => rfl
         | true =>
           obtain ⟨q, hq, h9⟩ := List.any_eq_true.1 hc
           obtain ⟨p, hpa, h8⟩ := List.any_eq_true.1 h9
           obtain ⟨j, ej⟩ := List.mem_iff_getElem?.1 hq
           have := hp j q (gsI.1 ej).1 ej p hpa
           simp at h8
           exact absurd (this h8.1) h8.2
       have hle := @Jls a.parts b.parts
       have hDok := Jov hca hcb hcl
       obtain ⟨A, hA⟩ : ∃ A, A = uniP a.parts b.parts := ⟨_, rfl⟩
       rw [<- hA] at hle ⊢
       clear hp h3 hk
       have hnx := Jfs hcb
       simp
       refine Jah.gor [4, 8, 9] [2, 3, 5, 6, 8] [0, 1, 2, 3, 4, 5, 6, 7, 8] (fun st => [0, 1, 2, 3, Jib 7 st, 5, 6, 7, 8]) (fun (k : Nat) => [(12, .p (.int .i64 k))]) (fun k => [(4, accB 4 ((uniX (drfC a).pipes ((drfC b).pipes.take k)).map EndP.row)), (7, some (.cells 2 [[.acc 3 3 A.length, .acc 4 4 (uniX (drfC a).pipes ((drfC b).pipes.take k)).length]]))]) (fun k => k <= (drfC b).pipes.length) (fun k => (drfC b).pipes.length - k) 0 (by omega) ?_ ?_
       . simp [uniX, hXa]
         try decide
       intro k hk
       simp
       refine Jac (fun h3 => ?_) (fun h3 => ?_)
       . simp at h3
         obtain ⟨y, e⟩ := Jag (show k < (drfC b).pipes.length by omega)
         have hst := @J6o (drfC a).pipes (drfC b).pipes k y e
         have hox := @J6n (drfC a).pipes (drfC b).pipes hnx k y e
         have hXl : (uniX (drfC a).pipes ((drfC b).pipes.take k)).length <= 512 := by
           unfold uniX
           rw [List.length_append]
           have := List.length_filter_le (fun z => decide (ordX z ∉ (drfC a).pipes.map ordX)) ((drfC b).pipes.take k)
           rw [List.length_take] at this
           omega
         generalize uniX (drfC a).pipes ((drfC b).pipes.take k) = X at *
         simp
         refine Jai.intro (by kernel_rfl) ?_
         simp [h3, e, -getElem?_pos, List.getElem?_cons_zero, List.getElem?_cons_succ]
         have hbx : ¬ (drfC b).pipes = [] := fun h9 => by rw [h9] at e; simp at e
         refine ⟨hbx, .of (by kernel_rfl), ?_⟩
         refine Jah.go [4, 8, 9, 12, 13, 14] [2, 3, 4, 5, 6, 7, 8, 9, 10] 0 [] (fun _ => []) (fun _ (j : Nat) => [(15, .p (.bool (Jf2 X y j))), (16, .p (.int .i64 j))]) (fun _ _ => []) (fun j => j <= X.length) (fun j => X.length - j) 0 (by omega) ?_ ?_
         . simp [Jf2]
           try decide
         intro j hj
         simp
         refine Jac (fun h4 => ?_) (fun h4 => ?_)
         . simp at h4
           obtain ⟨z, e2⟩ := Jag h4
           have hXne : ¬ X = [] := fun h9 => by rw [h9] at h4; simp at h4
           have htk := @J5l X y j z e2
           cases ht : Jf2 X y j with
           | true =>
             rw [ht, Bool.true_or] at htk
             simp
             refine Jai.intro (by kernel_rfl) ?_
             simp
             exact ⟨.of (by kernel_rfl), wrap_i64 (by omega) (by omega), j + 1, by omega, by omega, ⟨htk, rfl⟩, by decide⟩
           | false =>
             rw [ht, Bool.false_or] at htk
             simp
             refine Jai.intro (by kernel_rfl) ?_
             simp [h4, e2, hXne, Jpc, -getElem?_pos, List.getElem?_cons_zero, List.getElem?_cons_succ]
             by_cases hzy : z = y
             . rw [decide_eq_true hzy, Bool.true_or] at htk
               have gF : (decide (z.1.part = y.1.part) && (decide (z.1.port = y.1.port) && (decide (z.2.part = y.2.part) && decide (z.2.port = y.2.port)))) = true := by rw [hzy]; simp
               have gT : (!decide (z.1.part = y.1.part) || (!decide (z.1.port = y.1.port) || (!decide (z.2.part = y.2.part) || !decide (z.2.port = y.2.port)))) = false := by rw [hzy]; simp
               simp [gF, gT, Jpc, h4, e2, hXne, -getElem?_pos, List.getElem?_cons_zero, List.getElem?_cons_succ]
               refine ⟨.of (by kernel_rfl), wrap_i64 (by omega) (by omega), j + 1, by omega, by omega, ?_⟩
               simp [htk]
               try decide
             . rw [decide_eq_false hzy, Bool.false_or] at htk
               have gF : (decide (z.1.part = y.1.part) && (decide (z.1.port = y.1.port) && (decide (z.2.part = y.2.part) && decide (z.2.port = y.2.port)))) = false := by rw [<- Bool.decide_and, <- Bool.decide_and, <- Bool.decide_and, Jqs]; exact decide_eq_false hzy
               have gT : (!decide (z.1.part = y.1.part) || (!decide (z.1.port = y.1.port) || (!decide (z.2.part = y.2.part) || !decide (z.2.port = y.2.port)))) = true := by rw [<- Bool.not_and, <- Bool.not_and, <- Bool.not_and, gF]; rfl
               have gS : (decide (z.1.part = y.2.part) && (decide (z.1.port = y.2.port) && (decide (z.2.part = y.1.part) && decide (z.2.port = y.1.port)))) = decide (z = (y.2, y.1)) := by rw [<- Bool.decide_and, <- Bool.decide_and, <- Bool.decide_and]; exact Jqs (y := (y.2, y.1))
               simp [gF, gT, Jpc, h4, e2, hXne, -getElem?_pos, List.getElem?_cons_zero, List.getElem?_cons_succ]
               refine ⟨.of (by kernel_rfl), wrap_i64 (by omega) (by omega), j + 1, by omega, by omega, ?_⟩
               rw [gS, htk]
               simp
               try decide
         . simp at h4
           have hjn : j = X.length := by omega
           subst hjn
           rw [J5k]
           by_cases hin : ordX y ∈ (drfC a).pipes.map ordX
           . rw [if_pos hin] at hst
             simp [hox.2 hin]
             refine ⟨wrap_i64 (by omega) (by omega), k + 1, by omega, by omega, by omega, ?_⟩
             rw [hst]
             simp
             try decide
           . have hnin : ¬ ordX y ∈ X.map ordX := fun h9 => hin (hox.1 h9)
             rw [if_neg hin] at hst
             simp only [hnin, decide_false]
             simp
             refine Jai.intro (by kernel_rfl) ?_
             simp [h3, e, -getElem?_pos, List.getElem?_cons_zero, List.getElem?_cons_succ]
             refine ⟨hbx, by omega, fun r a b _ e => by subst e; rfl, .of (by kernel_rfl), wrap_i64 (by omega) (by omega), k + 1, by omega, by omega, by omega, ?_⟩
             rw [hst]
             simp
             try decide
       . simp at h3
         have hkn : k = (drfC b).pipes.length := by omega
         subst hkn
         rw [List.take_length]
         obtain ⟨X, hX⟩ : ∃ X, X = uniX (drfC a).pipes (drfC b).pipes := ⟨_, rfl⟩
         rw [<- hX]
         have hU : uniD a b = ⟨A, X⟩ := by rw [hA, hX]; rfl
         have hXl : X.length <= 512 := by
           rw [hX]; unfold uniX
           rw [List.length_append]
           have := List.length_filter_le (fun z => decide (ordX z ∉ (drfC a).pipes.map ordX)) (drfC b).pipes
           omega
         simp
         by_cases hbig : 64 < A.length \/ 256 < X.length
         . have hE : uniE a b = 5 := by unfold uniE; rw [hca, hcb, hcl, hU, if_pos hbig]; rfl
           have hC : uniC a b = noC := by unfold uniC; rw [if_neg (by rw [hE]; decide)]
           by_cases hA64 : 64 < A.length
           . have : (64 : Int) < (A.length : Int) := by omega
             simp [this, Jaa, hE, hC, noC]
           . have h1 : ¬ (64 : Int) < (A.length : Int) := by omega
             have h2 : (256 : Int) < (X.length : Int) := by omega
             simp [h1, h2, Jaa, hE, hC, noC]
         . have hE : uniE a b = 0 := by unfold uniE; rw [hca, hcb, hcl, hU, if_neg hbig]; rfl
           have hC : uniC a b = Jap ⟨A, X⟩ := by unfold uniC; rw [if_pos hE, hU]
           have h1 : ¬ (64 : Int) < (A.length : Int) := by omega
           have h2 : ¬ (256 : Int) < (X.length : Int) := by omega
           have hsz := J46 (J6q hE)
           rw [hC] at hsz
           have hSo := Jxf ⟨A, X⟩ (by show A.length <= _; omega) (by show X.length <= _; omega) ⟨hsz.parts, by show (0 : Nat) < _; decide, hsz.names⟩ (fun h9 => by
             rw [hU] at hDok
             cases hXc : X with
             | nil => rfl
             | cons x0 X0 =>
               have := (hDok.ends x0 (by show x0 ∈ X; rw [hXc]; simp)).1
               rw [show (Drf.mk A X).parts = [] from h9] at this
               simp at this)
           simp [h1, h2]
           refine Ja4 (hSo.give (B := [7, 3, 4]) rfl (fun i a x ha hx => by
             match i with
             | 0 => cases ha; cases hx; exact Jqt rfl rfl rfl
             | i + 1 => cases hx)) ?_
           generalize Jap ⟨A, X⟩ = SR' at *
           simp [Jaa, hE, hC]
   . have hE : uniE a b = Jad b := by unfold uniE; rw [hca, if_neg (by simp), if_pos hcb]
     have hC : uniC a b = noC := by unfold uniC; rw [if_neg (by rw [hE]; exact hcb)]
     simp [hcb, Jaa, hE, hC, noC]
 . have hE : uniE a b = Jad a := by unfold uniE; rw [if_pos hca]
   have hC : uniC a b = noC := by unfold uniC; rw [if_neg (by rw [hE]; exact hca)]
   simp [hca, Jaa, hE, hC, noC]
end Go.Am
