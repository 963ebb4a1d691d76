/- Lemmas and contracts for the proof of a statement of this seat. -/
import Derived.Test.YtmfjjncfdpejiaaGreatDoorZW1
import Derived.Test.YtmfjjncfdpejiaaGreatDoorZN1
import Derived.Test.YtmfjjncfdpejiaaGreatDoorZN8
import Derived.Test.YtmfjjncfdpejiaaGreatDoorZC5
import Derived.Test.YtmfjjncfdpejiaaGreatDoorZC6
set_option linter.unusedVariables false
set_option linter.unusedSimpArgs false
namespace Go.Am
open Go Go.Proofs Go.Pn
def Drf.row (d : Drf) : List PV := [.lst 3 (d.parts.map Part.enc), .lst 4 (d.pipes.map EndP.enc)]
theorem Jj2 (d : Drf) (s : Txt) (hl : d.parts.length < 4611686018427387904) : Pure Tryz.prog GL 86 [.iptr 2 [d.row] 0 0, .p (.str s)] (.p (.int .i64 (idxI d.parts fun p => decide (p.name = s)))) := by
 refine Pure.of_walk (N := 26) Tryz.func86 rfl rfl rfl (by simp) (by first | (simp; done) | simp [*]) ?_
 simp
 refine Jah.go [0, 1] [] 0 [] (fun _ => []) (fun _ (k : Nat) => [(5, .p (.int .i64 k))]) (fun _ _ => []) (fun k => k <= d.parts.length /\ ∀ (j : Nat) x, j < k -> d.parts[j]? = some x -> decide (x.name = s) = false) (fun k => d.parts.length - k) 0 ⟨by omega, fun j b h => by omega⟩ ?_ ?_
 . simp
 . rintro k ⟨hk, hp⟩
   simp [Drf.row]
   refine Jac (fun h => ?_) (fun h => ?_)
   . simp at h
     obtain ⟨x, e⟩ := Jag h
     simp [h, e, Part.enc, Drf.row, -getElem?_pos, List.getElem?_cons_zero, List.getElem?_cons_succ]
     refine Jac (fun h2 => ?_) (fun h2 => ?_)
     . simp at h2
       simp [Jaa, Jd7 e (by simpa using h2) hp]
     . have hnx := Jdw hp e h2
       simp
       refine ⟨wrap_i64 (by omega) (by omega), k + 1, ⟨by omega, fun j y hj hy => by have := hnx j y hj hy; simpa using this⟩, by omega, ?_⟩
       simp [Drf.row]
   . simp at h
     have hk2 : k = d.parts.length := by omega
     subst hk2
     simp [Jaa, Jd8 (Jeg hp)]
def Jb7 (l : List Part) (k : Nat) : Int := if k = 0 then -1 else (Jan Ja3 l k : Nat)
theorem Jkz {α : Type} {lt : α -> α -> Bool} {l : List α} : ∀ {k : Nat}, Jan lt l k <= k - 1
 | 0 => Nat.le_refl _
 | k + 1 => by
   have ih := @Jkz α lt l k
   show Jan lt l (k + 1) <= k
   unfold Jan
   split
   . split
     . exact Nat.le_refl _
     . omega
   . omega
theorem Jw3 {l : List Part} {k : Nat} {x : Part} (hx : l[k]? = some x) (h0 : 1 <= k) {y : Part} (hy : l[Jan Ja3 l k]? = some y) : Jb7 l (k + 1) = if Op.bytesLess x.name y.name then (k : Int) else Jb7 l k := by
 have e1 : Jb7 l (k + 1) = (Jan Ja3 l (k + 1) : Nat) := by unfold Jb7; rw [if_neg (by omega)]
 have e2 : Jb7 l k = (Jan Ja3 l k : Nat) := by unfold Jb7; rw [if_neg (by omega)]
 rw [e1, e2, Jk1 hx hy]
 show ((if Op.bytesLess x.name y.name then k else Jan Ja3 l k : Nat) : Int) = _
 split <;> rfl
set_option maxRecDepth 20000 in
theorem Jgz (l : List Part) (hl : l.length < 4611686018427387904) : Pure Tryz.prog GL 161 [.p (.lst 3 (l.map Part.enc))] (.p (.int .i64 (Jb7 l l.length))) := by
 refine Pure.of_walk (N := 28) Tryz.func161 rfl rfl rfl (by simp) (by first | (simp; done) | simp [*]) ?_
 simp
 refine Jah.go [0] [] 0 [] (fun _ => []) (fun _ (k : Nat) => [(3, .p (.int .i64 (Jb7 l k))), (4, .p (.int .i64 k))]) (fun _ _ => []) (fun k => k <= l.length) (fun k => l.length - k) 0 (by omega) ?_ ?_
 . simp [Jb7]
 . intro k hk
   simp
   refine Jac (fun h => ?_) (fun h => ?_)
   . simp at h
     obtain ⟨x, e⟩ := Jag h
     by_cases hk0 : k = 0
     . subst hk0
       have hb : Jb7 l 0 = -1 := rfl
       have hb1 : Jb7 l 1 = 0 := by
         have := @Jkz Part Ja3 l 1
         unfold Jb7; rw [if_neg (by decide)]; omega
       simp [hb]
       refine Jaj.intro (by kernel_rfl) ?_
       simp [hb, h, e, Part.enc, -getElem?_pos, List.getElem?_cons_zero, List.getElem?_cons_succ]
       exact ⟨.of (by kernel_rfl), 1, by omega, by omega, hb1.symm, rfl⟩
     . have hlt : Jan Ja3 l k < k := by have := @Jkz Part Ja3 l k; omega
       obtain ⟨y, e2⟩ := Jag (show Jan Ja3 l k < l.length by omega)
       have hst := Jw3 e (by omega) e2
       have hb : Jb7 l k = (Jan Ja3 l k : Nat) := by unfold Jb7; rw [if_neg hk0]
       rw [hb]
       generalize Jan Ja3 l k = b at *
       have hb0 : ¬ ((b : Int) < 0) := by omega
       simp
       refine Jaj.intro (by kernel_rfl) ?_
       simp [hb0, h, e, e2, Part.enc, -getElem?_pos, List.getElem?_cons_zero, List.getElem?_cons_succ]
       refine ⟨by omega, .of (by kernel_rfl), ?_⟩
       refine Jac (fun h2 => ?_) (fun h2 => ?_)
       . rw [h2, if_pos rfl] at hst
         simp
         refine ⟨wrap_i64 (by omega) (by omega), k + 1, by omega, by omega, hst.symm, rfl⟩
       . rw [h2, if_neg (by simp)] at hst
         simp
         refine ⟨wrap_i64 (by omega) (by omega), k + 1, by omega, by omega, by rw [hst, hb], rfl⟩
   . simp at h
     have hk2 : k = l.length := by omega
     subst hk2
     simp [Jaa]
end Go.Am
namespace Go.Am
open Go Go.Proofs Go.Pn
theorem J5e {l : List Part} {n : Nat} {x : Part} (e : l[Jan Ja3 l l.length]? = some x) : selN Ja3 (n + 1) l = x :: selN Ja3 n (l.take (Jan Ja3 l l.length) ++ l.drop (Jan Ja3 l l.length + 1)) := by
 simp only [selN, e]
theorem J5f {l : List Pipe} {n : Nat} {x : Pipe} (e : l[Jan Ja6 l l.length]? = some x) : selN Ja6 (n + 1) l = x :: selN Ja6 n (l.take (Jan Ja6 l l.length) ++ l.drop (Jan Ja6 l l.length + 1)) := by
 simp only [selN, e]
theorem J4u {l : List Pipe} {i : Nat} : ∀ r ∈ (l.map Pipe.row).take i, ∀ c ∈ r, AV.oneCell c = true := fun r hr c hc => by
 obtain ⟨q, _, rfl⟩ := List.mem_map.1 (List.mem_of_mem_take hr)
 simp at hc
 rcases hc with rfl | rfl | rfl | rfl <;> rfl
theorem J4t {l : List Part} {i : Nat} : ∀ r ∈ (l.map Part.row).take i, ∀ c ∈ r, AV.oneCell c = true := fun r hr c hc => by
 obtain ⟨q, _, rfl⟩ := List.mem_map.1 (List.mem_of_mem_take hr)
 simp at hc
 rcases hc with rfl | rfl | rfl <;> rfl
theorem Jp2 : Jb7 [] 0 = -1 := rfl
theorem Pure.aggNils {P : Program} {G : Jad} {f k : Nat} {x : AV} {rest : List AV} {r : AV} (h : Pure P G f (.agg [x, .p (.lst k [])] :: rest) r) : Pure P G f (.agg [x, .nils] :: rest) r := by
 refine ⟨by have := h.pure; simpa [Jbl, Jao] using this, fun own w vs hg hs hl hv => h.run own w vs hg hs (by simpa using hl) fun j y v hy hvj => ?_⟩
 cases j with
 | succ j => exact hv (j + 1) y v (by simpa using hy) hvj
 | zero =>
   simp at hy
   subst hy
   obtain ⟨us, rfl, h1, h2⟩ := (hv 0 _ v rfl hvj).agg_inv
   refine .agg _ us (by simpa using h1) fun i c u hc hu => ?_
   match i with
   | 0 => cases hc; exact h2 0 _ u rfl hu
   | 1 =>
     cases hc
     obtain ⟨a, rfl⟩ := (h2 1 _ u rfl hu).nils_inv
     exact .p _ _ (.lst0 ..)
   | i + 2 => cases hc
theorem Leads.accRef {G : Jad} {N n0 : Nat} {t : Jap} {s : Store} {nx d b k n : Nat} (hn : 0 < n) (hs : slot t d = .acc b k n) : Leads G N n0 ⟨t, s, nx⟩ ⟨(d, .ref b k 0 n none) :: t, s, nx⟩ := .mk fun F φ a w hr => by
 refine ⟨φ, ⟨hr.sr, hr.fresh, hr.base, ⟨hr.tr.size, fun e => ?_⟩, hr.side⟩, fun _ _ => rfl, fun _ => Step.refl _ _⟩
 show VR φ _ w (if d = e then .ref b k 0 n none else slot t e) _
 split
 . rename_i he
   subst he
   have h := hr.tr.slots d
   rw [hs] at h
   generalize a.tmps.getD d undef = v at h
   cases h with
   | acc0 => omega
   | acc _ _ _ β δ cap h1 h2 h3 h4 =>
     have := VR.ref (φ := φ) (own := ownF F φ s) (w := w) b k 0 n none β δ cap h1 (fun _ h => by cases h) h3 (by simpa using h4)
     simpa using this
 . exact hr.tr.slots e
theorem Jah.accRef {P : Program} {G : Jad} {N n0 : Nat} {c : Cont Code} {t : Jap} {s : Store} {nx : Nat} {Q : Cont KQ} (d b k n : Nat) (hn : 0 < n) (hs : slot t d = .acc b k n) (h : @Jah P G N n0 c ⟨(d, .ref b k 0 n none) :: t, s, nx⟩ Q) : @Jah P G N n0 c ⟨t, s, nx⟩ Q := AEv.leads (Leads.accRef hn hs) h
def Je7 (d : Drf) (O : List Part) (k : Nat) : List Pipe := (d.pipes.take k).map (Jf0 ⟨O, []⟩)
theorem J1w {d : Drf} {O : List Part} {k : Nat} {x : EndP} (e : d.pipes[k]? = some x) : Je7 d O (k + 1) = Je7 d O k ++ [Jf0 ⟨O, []⟩ x] := by
 unfold Je7
 rw [take_snoc e, List.map_append]; rfl
theorem J1v {d : Drf} {O : List Part} {k : Nat} (hk : k <= d.pipes.length) : (Je7 d O k).length = k := by unfold Je7; rw [List.length_map, List.length_take]; omega
set_option maxRecDepth 20000 in
theorem Jyt (d : Drf) (hp : d.parts.length <= 1000) (hx : d.pipes.length <= 2000) (hz : Sized ⟨selS Ja3 d.parts, []⟩) (hne : d.parts ≠ []) : Pure Tryz.prog GL 74 [.iptr 2 [d.row] 0 0] ((Jbe d).av) := by
 refine Pure.of_walk (N := 144) Tryz.func74 rfl rfl rfl (by simp) (by first | (simp; done) | simp [*]) ?_
 have hrowP : (fun x => List.map AV.p x) ∘ Part.enc = Part.row := rfl
 simp [Drf.row]
 refine ⟨by omega, ?_⟩
 refine Jcb (fun h0 => ?_) (fun h0 => ?_)
 . simp
   rw [hrowP]
   refine Jc1 ?_
   simp
   refine ⟨_, Jgz d.parts (by omega), rfl, ?_⟩
   refine Jah.gor [0, 2, 3] [0] [0, 1, 3, 4] (fun st => [0, 1, nameOf (slot st.t 4), Jg0 1 st]) (fun (g : List Part × List Part) => [(4, .ref 2 3 0 g.1.length none), (5, .p (.int .i64 (Jb7 g.1 g.1.length)))]) (fun g => [(2, some (.cells 3 (g.1.map Part.row))), (3, accB 3 (g.2.map Part.row)), (1, some (.cells 2 [[.acc 3 3 g.2.length, .nils]]))]) (fun g => g.2 ++ selN Ja3 g.1.length g.1 = selS Ja3 d.parts /\ g.1.length + g.2.length = d.parts.length) (fun g => g.1.length) (d.parts, []) ⟨rfl, rfl⟩ ?_ ?_
   . obtain ⟨P, hP⟩ : ∃ P, P = d.parts := ⟨_, rfl⟩
     rw [<- hP] at h0 ⊢
     cases P with
     | nil => simp at h0
     | cons p0 P => simp
   . rintro ⟨R, O⟩ ⟨hR, hl⟩
     simp only at hR hl
     simp
     refine Jac (fun h => ?_) (fun h => ?_)
     . simp at h
       have hm1 : Jb7 R R.length = (Jan Ja3 R R.length : Nat) := by
         unfold Jb7 at h ⊢
         split at h
         . omega
         . rename_i hne; rw [if_neg hne]
       have hne : R.length ≠ 0 := fun h9 => by unfold Jb7 at h; rw [if_pos h9] at h; omega
       have hlt := @Jkz Part Ja3 R R.length
       have hml : Jan Ja3 R R.length < R.length := by omega
       obtain ⟨x, e⟩ := Jag hml
       obtain ⟨r, hr⟩ : ∃ r, r + 1 = R.length := ⟨R.length - 1, by omega⟩
       have hsel : selN Ja3 R.length R = x :: selN Ja3 r (R.take (Jan Ja3 R R.length) ++ R.drop (Jan Ja3 R R.length + 1)) := by
         conv => lhs; rw [<- hr]
         rw [J5e e]
       rw [hm1]
       generalize Jan Ja3 R R.length = m at *
       simp
       refine Jaj.intro (by kernel_rfl) ?_
       simp [hml, e, -getElem?_pos, List.getElem?_cons_zero, List.getElem?_cons_succ]
       refine ⟨by omega, .of (by kernel_rfl), ?_⟩
       have hmle : m <= R.length := by omega
       refine Jaj.intro (by kernel_rfl) ?_
       simp [hmle, -getElem?_pos, List.getElem?_cons_zero, List.getElem?_cons_succ]
       have hq1 := @J4t R m
       simp at hq1
       rw [if_pos hq1]
       have hq2 := @J4r R (m + 1)
       simp at hq2
       have hmin : min m R.length = m := by omega
       have hwm : IntKind.i64.wrap ((m : Int) + 1) = (m : Int) + 1 := wrap_i64 (by omega) (by omega)
       have hle1 : (0 : Int) <= (m : Int) + 1 := by omega
       have hle2 : (m : Int) + 1 <= (R.length : Int) := by omega
       have hD : List.take (R.length - (m + 1)) (List.drop (m + 1) (List.map Part.row R)) = List.drop (m + 1) (List.map Part.row R) := List.take_of_length_le (by simp)
       obtain ⟨R', hR'⟩ : ∃ R', R' = R.take m ++ R.drop (m + 1) := ⟨_, rfl⟩
       have hl' : R'.length + 1 = R.length := by rw [hR', List.length_append, List.length_take, List.length_drop]; omega
       have hinv : (O ++ [x]) ++ selN Ja3 R'.length R' = selS Ja3 d.parts := by
         rw [<- hR, hsel, <- hR', show r = R'.length by omega]; simp
       have hlen2 : R'.length + (O ++ [x]).length = d.parts.length := by rw [List.length_append, List.length_singleton]; omega
       simp
       rw [hmin]
       refine ⟨fun r hr => Jiz r (List.mem_of_mem_take hr), by omega, ?_⟩
       refine Jcb (fun k1 => ?_) (fun k1 => ?_)
       . simp [hwm, hle1, hle2, hD]
         refine Jcb (fun k2 => ?_) (fun k2 => ?_)
         . have q1 : List.take (min m R.length) (List.take m (List.map Part.row R)) = R'.map Part.row := by rw [hR', hmin, List.drop_of_length_le (by omega)]; simp [List.map_take, List.take_take]
           have q2 : min m R.length = R'.length := by omega
           simp
           rw [q1, q2]
           refine ⟨by omega, fun r hr => Jiz r (List.mem_of_mem_take hr), .of (by kernel_rfl), ?_⟩
           refine Jc1 ?_
           simp
           refine ⟨_, Jgz R' (by omega), rfl, ?_⟩
           refine ⟨R', O ++ [x], ⟨hinv, hlen2⟩, by omega, ?_⟩
           simp
         . simp [hD]
           rw [if_pos ⟨by omega, hq2⟩]
           have q1 : List.take (min m R.length) (List.take m (List.map Part.row R)) ++ List.drop (m + 1) (List.map Part.row R) = R'.map Part.row := by rw [hR', hmin]; simp [List.map_take, List.map_drop, List.take_take]
           have q2 : min m R.length + (R.length - (m + 1)) = R'.length := by omega
           simp
           rw [q1, q2]
           refine ⟨fun r hr => Jiz r (List.mem_of_mem_drop hr), by omega, fun r hr => Jiz r (List.mem_of_mem_take hr), .of (by kernel_rfl), ?_⟩
           refine Jc1 ?_
           simp
           refine ⟨_, Jgz R' (by omega), rfl, ?_⟩
           refine ⟨R', O ++ [x], ⟨hinv, hlen2⟩, by omega, ?_⟩
           simp
       . have hm0 : m = 0 := by omega
         simp [hwm, hle1, hle2, hD]
         refine Jcb (fun _ => ?_) (fun h9 => absurd (.inl (by omega)) h9)
         simp [hwm, hle1, hle2, hD]
         refine Jcb (fun k2 => ?_) (fun k2 => ?_)
         . have hn' : R' = [] := List.length_eq_zero_iff.1 (by omega)
           simp
           refine ⟨.of (by kernel_rfl), ?_⟩
           have hz : Jb7 R' R'.length = -1 := by rw [hn']; rfl
           refine Jc1 ?_
           simp
           have hL := Jgz [] (by simp)
           refine ⟨_, hL, rfl, ?_⟩
           refine ⟨R', O ++ [x], ⟨hinv, hlen2⟩, by omega, ?_⟩
           simp [hn', Jp2]
         . simp [hD]
           rw [if_pos ⟨by omega, hq2⟩]
           have q1 : List.drop (m + 1) (List.map Part.row R) = R'.map Part.row := by rw [hR', hm0]; simp [List.map_drop]
           have q2 : R.length - (m + 1) = R'.length := by omega
           simp
           refine ⟨fun r hr => Jiz r (List.mem_of_mem_drop hr), by omega, ?_⟩
           refine Jcb (fun _ => ?_) (fun h9 => absurd (by omega) h9)
           simp
           rw [q1, q2]
           refine ⟨.of (by kernel_rfl), ?_⟩
           refine Jc1 ?_
           simp
           refine ⟨_, Jgz R' (by omega), rfl, ?_⟩
           refine ⟨R', O ++ [x], ⟨hinv, hlen2⟩, by omega, ?_⟩
           simp
     . simp at h
       have hn0 : R = [] := by
         apply List.length_eq_zero_iff.1
         apply Decidable.byContradiction
         intro h9
         unfold Jb7 at h
         rw [if_neg h9] at h
         omega
       subst hn0
       have hO : O = selS Ja3 d.parts := by rw [<- hR]; simp [selN]
       have hOs : O.length <= 1000 := by omega
       have hOz : Sized ⟨O, []⟩ := by rw [hO]; exact hz
       clear hR hl h h0
       simp
       refine Jah.go [0, 2, 3] [0, 1, 3] 1 [4] (nms [6]) (fun nx (k : Nat) => [(6, .acc nx 4 k), (7, .p (.int .i64 k))]) (fun nx k => [(nx, accB 4 ((Je7 d O k).map Pipe.row))]) (fun k => k <= d.pipes.length) (fun k => d.pipes.length - k) 0 (by omega) ?_ ?_
       . simp [Je7]
         try decide
       . intro k hk
         have hkl := @J1v d O k hk
         have hst := fun {x} => @J1w d O k x
         simp [Drf.row]
         refine Jac (fun h => ?_) (fun h => ?_)
         . simp at h
           obtain ⟨x, e⟩ := Jag h
           have hst := hst e
           have hI1 := (Jm3 ⟨O, []⟩ x.1.part hOz).aggNils
           have hI2 := (Jm3 ⟨O, []⟩ x.2.part hOz).aggNils
           have hBf := Jj1 ⟨idxI O (fun p => decide (p.name = x.2.part)), x.2.port⟩ ⟨idxI O (fun p => decide (p.name = x.1.part)), x.1.port⟩
           simp
           refine Jaj.intro (by kernel_rfl) ?_
           simp [h, e, EndP.enc, Drf.row, -getElem?_pos, List.getElem?_cons_zero, List.getElem?_cons_succ]
           refine Jc1 ?_
           simp
           refine ⟨_, hI1, rfl, h, ?_⟩
           simp [h, e, EndP.enc, Drf.row, -getElem?_pos, List.getElem?_cons_zero, List.getElem?_cons_succ]
           refine ⟨.of (by kernel_rfl), ?_⟩
           refine Jaj.intro (by kernel_rfl) ?_
           simp [h, e, EndP.enc, Drf.row, -getElem?_pos, List.getElem?_cons_zero, List.getElem?_cons_succ]
           refine Jc1 ?_
           simp
           refine ⟨_, hI2, rfl, h, ?_⟩
           simp [h, e, EndP.enc, Drf.row, -getElem?_pos, List.getElem?_cons_zero, List.getElem?_cons_succ]
           refine ⟨.of (by kernel_rfl), ?_⟩
           refine Jab hBf ?_
           simp
           refine Jac (fun h3 => ?_) (fun h3 => ?_)
           . have ht : Jf0 ⟨O, []⟩ x = ⟨⟨idxI O (fun p => decide (p.name = x.2.part)), x.2.port⟩, ⟨idxI O (fun p => decide (p.name = x.1.part)), x.1.port⟩⟩ := if_pos h3
             simp
             refine ⟨by omega, hkl, wrap_i64 (by omega) (by omega), k + 1, by omega, by omega, by omega, ?_⟩
             rw [hst, ht]
             simp
             try decide
           . have ht : Jf0 ⟨O, []⟩ x = ⟨⟨idxI O (fun p => decide (p.name = x.1.part)), x.1.port⟩, ⟨idxI O (fun p => decide (p.name = x.2.part)), x.2.port⟩⟩ := if_neg (by rw [h3]; simp)
             simp
             refine ⟨by omega, hkl, wrap_i64 (by omega) (by omega), k + 1, by omega, by omega, by omega, ?_⟩
             rw [hst, ht]
             simp
             try decide
         . simp at h
           have hkn : k = d.pipes.length := by omega
           obtain ⟨L, hL⟩ : ∃ L, L = d.pipes.map (Jf0 ⟨O, []⟩) := ⟨_, rfl⟩
           have hLk : Je7 d O k = L := by rw [hL, hkn]; unfold Je7; rw [List.take_length]
           have hLl : L.length = k := by rw [hL, List.length_map, hkn]
           rw [hLk, <- hLl]
           simp
           by_cases hL0 : L = []
           . subst hL0
             have hsr : Jbe d = ⟨O, []⟩ := by unfold Jbe; rw [<- hO, <- hL]; rfl
             refine Jah.go [2, 3] [0, 1, 3] 0 [] (fun _ => []) (fun _ (k : Nat) => [(6, .acc 4 4 0)]) (fun _ _ => []) (fun _ => True) (fun _ => 0) 0 trivial ?_ ?_
             . simp
               try decide
             intro k _
             simp
             rw [hsr]
             simp [Jaa]
           obtain ⟨l0, L', hL1⟩ : ∃ l0 L', L = l0 :: L' := by
             cases L with
             | nil => exact absurd rfl hL0
             | cons a b => exact ⟨a, b, rfl⟩
           refine Jah.accRef 6 4 4 L.length (by rw [hL1]; simp) rfl ?_
           refine Jah.gor [2, 3] [0, 3] [0, 1, 4, 3, 5] (fun st => [0, 1, nameOf (slot st.t 6), 3, Jif 1 st]) (fun (g : List Pipe × List Pipe) => [(6, .ref 2 4 0 g.1.length none)]) (fun g => [(2, some (.cells 4 (g.1.map Pipe.row))), (4, accB 4 (g.2.map Pipe.row)), (1, some (.cells 2 [[.acc 3 3 O.length, .acc 4 4 g.2.length]]))]) (fun g => g.2 ++ selN Ja6 g.1.length g.1 = selS Ja6 L /\ g.1.length + g.2.length = L.length) (fun g => g.1.length) (L, []) ⟨rfl, rfl⟩ ?_ ?_
           . rw [hL1]
             try simp
           rintro ⟨R, W⟩ ⟨hR, hl⟩
           simp only at hR hl
           simp
           refine Jac (fun h => ?_) (fun h => ?_)
           . simp at h
             simp
             refine Jah.go [2, 3, 6] [0, 1, 2, 3, 4] 0 [] (fun _ => []) (fun _ (k : Nat) => [(10, .p (.int .i64 (Jan Ja6 R k : Nat))), (11, .p (.int .i64 k))]) (fun _ _ => []) (fun k => 1 <= k /\ k <= R.length) (fun k => R.length - k) 1 ⟨by omega, by omega⟩ ?_ ?_
             . simp [Jnw Jo1]
               decide
             . rintro k ⟨hk1, hk⟩
               have hlt := Jk0 Jo1 hk1 hk
               simp
               refine Jac (fun h4 => ?_) (fun h4 => ?_)
               . simp at h4
                 obtain ⟨x, e⟩ := Jag h4
                 obtain ⟨y, e2⟩ := Jag (show Jan Ja6 R k < R.length by omega)
                 have hsn := Jk1 e e2
                 have hEa := Jqm x y
                 have hb : Jan Ja6 R k < R.length := by omega
                 generalize Jan Ja6 R k = q at *
                 simp
                 refine Jaj.intro (by kernel_rfl) ?_
                 simp [h4, e, e2, hb, -getElem?_pos, List.getElem?_cons_zero, List.getElem?_cons_succ]
                 refine Jab hEa ?_
                 simp
                 refine ⟨.of (by kernel_rfl), ?_⟩
                 refine Jac (fun h5 => ?_) (fun h5 => ?_)
                 . rw [h5, if_pos rfl] at hsn
                   simp
                   refine ⟨wrap_i64 (by omega) (by omega), k + 1, ⟨by omega, by omega⟩, by omega, ?_⟩
                   simp [hsn]
                   decide
                 . rw [h5, if_neg (by simp)] at hsn
                   simp
                   refine ⟨wrap_i64 (by omega) (by omega), k + 1, ⟨by omega, by omega⟩, by omega, ?_⟩
                   simp [hsn]
                   decide
               . simp at h4
                 have hkn : k = R.length := by omega
                 subst hkn
                 obtain ⟨x, e⟩ := Jag hlt
                 obtain ⟨r, hr⟩ : ∃ r, r + 1 = R.length := ⟨R.length - 1, by omega⟩
                 have hsel : selN Ja6 R.length R = x :: selN Ja6 r (R.take (Jan Ja6 R R.length) ++ R.drop (Jan Ja6 R R.length + 1)) := by
                   conv => lhs; rw [<- hr]
                   rw [J5f e]
                 generalize Jan Ja6 R R.length = m at *
                 have hmle : m <= R.length := by omega
                 obtain ⟨R', hR'⟩ : ∃ R', R' = R.take m ++ R.drop (m + 1) := ⟨_, rfl⟩
                 have hl' : R'.length + 1 = R.length := by rw [hR', List.length_append, List.length_take, List.length_drop]; omega
                 have hinv : (W ++ [x]) ++ selN Ja6 R'.length R' = selS Ja6 L := by
                   rw [<- hR, hsel, <- hR', show r = R'.length by omega]; simp
                 have hlen2 : R'.length + (W ++ [x]).length = L.length := by rw [List.length_append, List.length_singleton]; omega
                 have hLx : L.length <= 2000 := by omega
                 simp
                 refine Jaj.intro (by kernel_rfl) ?_
                 simp [hlt, e, -getElem?_pos, List.getElem?_cons_zero, List.getElem?_cons_succ]
                 refine ⟨by omega, .of (by kernel_rfl), ?_⟩
                 have hq1 := @J4u R m
                 simp at hq1
                 have hq2 := @J4s R (m + 1)
                 simp at hq2
                 have hmin : min m R.length = m := by omega
                 have hwm : IntKind.i64.wrap ((m : Int) + 1) = (m : Int) + 1 := wrap_i64 (by omega) (by omega)
                 have hle1 : (0 : Int) <= (m : Int) + 1 := by omega
                 have hle2 : (m : Int) + 1 <= (R.length : Int) := by omega
                 have hD : List.take (R.length - (m + 1)) (List.drop (m + 1) (List.map Pipe.row R)) = List.drop (m + 1) (List.map Pipe.row R) := List.take_of_length_le (by simp)
                 refine Jaj.intro (by kernel_rfl) ?_
                 simp [hmle, -getElem?_pos, List.getElem?_cons_zero, List.getElem?_cons_succ]
                 rw [if_pos hq1]
                 simp
                 rw [hmin]
                 refine ⟨fun r hr => Ji0 r (List.mem_of_mem_take hr), by omega, ?_⟩
                 refine Jcb (fun k1 => ?_) (fun k1 => ?_)
                 . simp [hwm, hle1, hle2, hD]
                   refine Jcb (fun k2 => ?_) (fun k2 => ?_)
                   . have q1 : List.take (min m R.length) (List.take m (List.map Pipe.row R)) = R'.map Pipe.row := by rw [hR', hmin, List.drop_of_length_le (by omega)]; simp [List.map_take, List.take_take]
                     have q2 : min m R.length = R'.length := by omega
                     simp
                     rw [q1, q2]
                     refine ⟨by omega, fun r hr => Ji0 r (List.mem_of_mem_take hr), .of (by kernel_rfl), ?_⟩
                     refine ⟨R', W ++ [x], ⟨hinv, hlen2⟩, by omega, ?_⟩
                     simp
                   . simp [hD]
                     rw [if_pos ⟨by omega, hq2⟩]
                     have q1 : List.take (min m R.length) (List.take m (List.map Pipe.row R)) ++ List.drop (m + 1) (List.map Pipe.row R) = R'.map Pipe.row := by rw [hR', hmin]; simp [List.map_take, List.map_drop, List.take_take]
                     have q2 : min m R.length + (R.length - (m + 1)) = R'.length := by omega
                     simp
                     rw [q1, q2]
                     refine ⟨fun r hr => Ji0 r (List.mem_of_mem_drop hr), by omega, fun r hr => Ji0 r (List.mem_of_mem_take hr), .of (by kernel_rfl), ?_⟩
                     refine ⟨R', W ++ [x], ⟨hinv, hlen2⟩, by omega, ?_⟩
                     simp
                 . have hm0 : m = 0 := by omega
                   simp [hwm, hle1, hle2, hD]
                   refine Jcb (fun _ => ?_) (fun h9 => absurd (.inl (by omega)) h9)
                   simp [hwm, hle1, hle2, hD]
                   refine Jcb (fun k2 => ?_) (fun k2 => ?_)
                   . have hn' : R' = [] := List.length_eq_zero_iff.1 (by omega)
                     simp
                     refine ⟨.of (by kernel_rfl), ?_⟩
                     refine ⟨R', W ++ [x], ⟨hinv, hlen2⟩, by omega, ?_⟩
                     simp [hn']
                   . simp [hD]
                     rw [if_pos ⟨by omega, hq2⟩]
                     have q1 : List.drop (m + 1) (List.map Pipe.row R) = R'.map Pipe.row := by rw [hR', hm0]; simp [List.map_drop]
                     have q2 : R.length - (m + 1) = R'.length := by omega
                     simp
                     refine ⟨fun r hr => Ji0 r (List.mem_of_mem_drop hr), by omega, ?_⟩
                     refine Jcb (fun _ => ?_) (fun h9 => absurd (by omega) h9)
                     simp
                     rw [q1, q2]
                     refine ⟨.of (by kernel_rfl), ?_⟩
                     refine ⟨R', W ++ [x], ⟨hinv, hlen2⟩, by omega, ?_⟩
                     simp
           . simp at h
             have hn0 : R = [] := by first | exact h | exact List.length_eq_zero_iff.1 (by omega)
             subst hn0
             have hW : W = selS Ja6 L := by rw [<- hR]; simp [selN]
             have hsr : Jbe d = ⟨O, W⟩ := by unfold Jbe; rw [<- hO, <- hL, <- hW]
             rw [hsr]
             simp [Jaa]
 . exact absurd (List.length_eq_zero_iff.1 (by omega)) hne
set_option maxRecDepth 20000 in
theorem Jxe : Pure Tryz.prog GL 74 [.iptr 2 [[.lst 3 [], .lst 4 []]] 0 0] noC.av := by
 refine Pure.of_walk (N := 144) Tryz.func74 rfl rfl rfl (by simp) rfl ?_
 have hL := Jgz [] (by simp)
 simp
 refine Jc1 ?_
 simp
 refine ⟨_, hL, rfl, ?_⟩
 refine Jah.go [0, 2, 3] [0, 1] 0 [] (fun _ => []) (fun _ (k : Nat) => [(5, .p (.int .i64 (-1)))]) (fun _ _ => []) (fun _ => True) (fun _ => 0) 0 trivial ?_ ?_
 . simp [Jp2]
   try decide
 intro k _
 simp
 refine Jah.go [0, 2, 3] [0, 1] 0 [] (fun _ => []) (fun _ (k : Nat) => [(6, .nils), (7, .p (.int .i64 0))]) (fun _ _ => []) (fun _ => True) (fun _ => 0) 0 trivial ?_ ?_
 . simp
   try decide
 intro k _
 simp
 refine Jah.go [2, 3] [0, 1] 0 [] (fun _ => []) (fun _ (k : Nat) => [(6, .nils)]) (fun _ _ => []) (fun _ => True) (fun _ => 0) 0 trivial ?_ ?_
 . simp
   try decide
 intro k _
 simp [Jaa, noC]
end Go.Am
namespace Go.Am
open Go Go.Proofs Go.Pn
end Go.Am
namespace Go.Am
open Go Go.Proofs Go.Pn
end Go.Am
namespace Go.Am
open Go Go.Proofs Go.Pn
theorem Ji4 {ρ : List Nat} {p p' : Nat × Option ABlk} {q q' : Store} (h1 : renS ρ [p] = some [p']) (h2 : renS ρ q = some q') : renS ρ (p :: q) = some (p' :: q') := by
 obtain ⟨b, x⟩ := p
 cases hb : ρ[b]? with
 | none => simp [renS, hb] at h1
 | some b' =>
   cases x with
   | none => simp [renS, hb] at h1 ⊢; simp [h1, h2]
   | some y =>
     cases hy : renB ρ y with
     | none => simp only [renS, hb, hy, Option.bind_some, Option.map_none, Option.bind_none] at h1; cases h1
     | some y' =>
       simp only [renS, hb, hy, h2, Option.bind_some, Option.map_some, Option.some.injEq, List.cons.injEq, and_true] at h1 ⊢
       exact h1
theorem Jkb {s : Store} {d m q : Nat} {ps : List Part} {xs : List EndP} (g0 : get s d = some (.cells 2 [[.acc m 3 ps.length, .acc q 4 xs.length]])) (g1 : get s m = accB 3 (ps.map Part.row)) (g2 : get s q = accB 4 (xs.map EndP.row)) :
   FrzA s (· ∈ [d, m, q]) (.ptr d 2 0 0) (.iptr 2 [Drf.row ⟨ps, xs⟩] 0 0) := by
 have f0 : Frz s (· ∈ [d, m, q]) (.acc m 3 ps.length) (.lst 3 (ps.map Part.enc)) := .accRows (rows := ps.map Part.enc) (by simp) g1 (by rw [List.map_map]; rfl) (List.length_map ..)
 have f1 : Frz s (· ∈ [d, m, q]) (.acc q 4 xs.length) (.lst 4 (xs.map EndP.enc)) := .accRows (rows := xs.map EndP.enc) (by simp) g2 (by rw [List.map_map]; rfl) (List.length_map ..)
 refine .ptr d 2 0 0 _ _ (fun _ j => if j = 0 then .acc m 3 ps.length else .acc q 4 xs.length) (by simp) g0 (fun p j row x h1 h2 => ?_) (fun p j row x h1 h2 => ?_)
 . match p, h1 with
   | 0, h1 =>
     cases h1
     match j, h2 with
     | 0, h2 => exact ⟨_, rfl, rfl⟩
     | 1, h2 => exact ⟨_, rfl, rfl⟩
 . match p, h1 with
   | 0, h1 =>
     cases h1
     match j, h2 with
     | 0, h2 => cases h2; exact f0
     | 1, h2 => cases h2; exact f1
theorem Jrr (ps : List Part) (xs : List EndP) (t : Txt) (hl : ps.length < 100000) (s : Store) (nx d m q : Nat)
   (g0 : get s d = some (.cells 2 [[.acc m 3 ps.length, .acc q 4 xs.length]])) (g1 : get s m = accB 3 (ps.map Part.row)) (g2 : get s q = accB 4 (xs.map EndP.row)) :
   Gives Tryz.prog GL 86 [.ptr d 2 0 0, .p (.str t)] s nx (.p (.int .i64 (idxI ps fun p => decide (p.name = t)))) [d, m, q] [] nx :=
 (Jj2 ⟨ps, xs⟩ t (by show ps.length < _; omega)).lend rfl (fun i a x ha hx => by
   match i with
   | 0 => cases ha; cases hx; exact Jkb g0 g1 g2
   | 1 => cases ha; cases hx; exact .same _ rfl
   | i + 2 => cases hx) rfl
theorem Jxd (d : Drf) (hp : d.parts.length <= 1000) (hx : d.pipes.length <= 2000) (hz : Sized ⟨selS Ja3 d.parts, []⟩) (he : d.parts = [] -> d.pipes = []) : Pure Tryz.prog GL 74 [.iptr 2 [d.row] 0 0] (Jbe d).av := by
 by_cases h : d.parts = []
 . have h2 := he h
   obtain ⟨ps, xs⟩ := d
   simp only at h h2
   subst h; subst h2
   exact Jxe
 . exact Jyt d hp hx hz h
def Jgo (X : List EndP) (y : EndP) (j : Nat) : Bool := (X.take j).any fun z => decide (z = y) || decide (z = (y.2, y.1))
theorem J52 {X : List EndP} {y : EndP} {j : Nat} {z : EndP} (e : X[j]? = some z) : Jgo X y (j + 1) = (Jgo X y j || (decide (z = y) || decide (z = (y.2, y.1)))) := by
 unfold Jgo; rw [take_snoc e, List.any_append]; simp
theorem J50 {X : List EndP} {y : EndP} : Jgo X y X.length = decide (ordX y ∈ X.map ordX) := by
 unfold Jgo
 rw [List.take_length, Bool.eq_iff_iff, decide_eq_true_eq]
 constructor
 . intro h
   obtain ⟨z, hz, h2⟩ := List.any_eq_true.1 h
   refine List.mem_map.2 ⟨z, hz, ?_⟩
   simp at h2
   rcases h2 with rfl | rfl
   . rfl
   . exact Jlc
 . intro h
   obtain ⟨z, hz, h2⟩ := List.mem_map.1 h
   refine List.any_eq_true.2 ⟨z, hz, ?_⟩
   obtain ⟨z1, z2⟩ := z
   obtain ⟨y1, y2⟩ := y
   rcases Jtf.1 h2 with ⟨rfl, rfl⟩ | ⟨rfl, rfl⟩ <;> simp
theorem Jzy {a0 b0 a1 b1 a2 b2 a3 b3 : List UInt8} : eqA Tryz.prog 8 162 (.agg [.p (.str a0), .p (.str a1), .p (.str a2), .p (.str a3)]) (.agg [.p (.str b0), .p (.str b1), .p (.str b2), .p (.str b3)]) = some ((decide (a0 = b0) && (decide (a1 = b1) && true)) && ((decide (a2 = b2) && (decide (a3 = b3) && true)) && true)) := by kernel_rfl
theorem Jmf {a0 b0 a1 b1 a2 b2 a3 b3 : List UInt8} {f : Cont (Bool -> Prop)} : @xEq Tryz.prog 162 [.p (.str a0), .p (.str a1), .p (.str a2), .p (.str a3)] [.p (.str b0), .p (.str b1), .p (.str b2), .p (.str b3)] f = f.k (decide (a0 = b0 /\ a1 = b1 /\ a2 = b2 /\ a3 = b3)) := by
 have h1 : (Tryz.prog).eqGuardType (Tryz.prog).depth 162 = false := by kernel_rfl
 have h2 : ((decide (a0 = b0) && (decide (a1 = b1) && true)) && ((decide (a2 = b2) && (decide (a3 = b3) && true)) && true)) = decide (a0 = b0 /\ a1 = b1 /\ a2 = b2 /\ a3 = b3) := by simp [Bool.decide_and, Bool.and_assoc]
 simp only [xEq, VEq, Jzy, h1, h2, Jc6, true_and]
theorem Jzk {y z : EndP} : decide (z.1.part = y.1.part /\ z.1.port = y.1.port /\ z.2.part = y.2.part /\ z.2.port = y.2.port) = decide (z = y) := by
 obtain ⟨⟨a, b⟩, ⟨c, d⟩⟩ := z
 obtain ⟨⟨e, f⟩, ⟨g, h⟩⟩ := y
 simp [and_assoc]
end Go.Am
