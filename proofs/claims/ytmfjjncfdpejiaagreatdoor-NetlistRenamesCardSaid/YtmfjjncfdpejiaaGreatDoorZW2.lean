/- Lemmas and contracts for the proof of a statement of this seat. -/
import Derived.Test.YtmfjjncfdpejiaaGreatDoorZW1
import Derived.Test.YtmfjjncfdpejiaaGreatDoorZN1
import Derived.Test.YtmfjjncfdpejiaaGreatDoorZN8
import Derived.Test.YtmfjjncfdpejiaaGreatDoorZC5
import Derived.Test.YtmfjjncfdpejiaaGreatDoorZC6
set_option linter.unusedVariables false
set_option linter.unusedSimpArgs false
namespace Go.Am
open Go Go.Proofs Go.Pn
def Drf.row (d : Drf) : List PV := [.lst 3 (d.parts.map Part.enc), .lst 4 (d.pipes.map EndP.enc)]
theorem Jia (d : Drf) (s : Txt) (hl : d.parts.length < 4611686018427387904) : Pure Tryz.prog GL 86 [.iptr 2 [d.row] 0 0, .p (.str s)] (.p (.int .i64 (idxI d.parts fun p => decide (p.name = s)))) := by
 refine Pure.of_walk (N := 26) Tryz.func86 rfl rfl rfl (by simp) (by first | (simp; done) | simp [*]) ?_
 simp
 refine Jai.go [0, 1] [] 0 [] (fun _ => []) (fun _ (k : Nat) => [(5, .p (.int .i64 k))]) (fun _ _ => []) (fun k => k <= d.parts.length /\ ∀ (j : Nat) x, j < k -> d.parts[j]? = some x -> decide (x.name = s) = false) (fun k => d.parts.length - k) 0 ⟨by omega, fun j b h => by omega⟩ ?_ ?_
 . simp
 . rintro k ⟨hk, hp⟩
   simp [Drf.row]
   refine Jac (fun h => ?_) (fun h => ?_)
   . simp at h
     obtain ⟨x, e⟩ := Jag h
     simp [h, e, Part.enc, Drf.row, -getElem?_pos, List.getElem?_cons_zero, List.getElem?_cons_succ]
     refine Jac (fun h2 => ?_) (fun h2 => ?_)
     . simp at h2
       simp [Jaa, Jdp e (by simpa using h2) hp]
     . have hnx := Jdn hp e h2
       simp
       refine ⟨wrap_i64 (by omega) (by omega), k + 1, ⟨by omega, fun j y hj hy => by have := hnx j y hj hy; simpa using this⟩, by omega, ?_⟩
       simp [Drf.row]
   . simp at h
     have hk2 : k = d.parts.length := by omega
     subst hk2
     simp [Jaa, Jei (Jdu hp)]
def Jb5 (l : List Part) (k : Nat) : Int := if k = 0 then -1 else (Jao Jaz l k : Nat)
theorem Jkq {α : Type} {lt : α -> α -> Bool} {l : List α} : ∀ {k : Nat}, Jao lt l k <= k - 1
 | 0 => Nat.le_refl _
 | k + 1 => by
   have ih := @Jkq α lt l k
   show Jao lt l (k + 1) <= k
   unfold Jao
   split
   . split
     . exact Nat.le_refl _
     . omega
   . omega
theorem Jwh {l : List Part} {k : Nat} {x : Part} (hx : l[k]? = some x) (h0 : 1 <= k) {y : Part} (hy : l[Jao Jaz l k]? = some y) : Jb5 l (k + 1) = if Op.bytesLess x.name y.name then (k : Int) else Jb5 l k := by
 have e1 : Jb5 l (k + 1) = (Jao Jaz l (k + 1) : Nat) := by unfold Jb5; rw [if_neg (by omega)]
 have e2 : Jb5 l k = (Jao Jaz l k : Nat) := by unfold Jb5; rw [if_neg (by omega)]
 rw [e1, e2, Jks hx hy]
 show ((if Op.bytesLess x.name y.name then k else Jao Jaz l k : Nat) : Int) = _
 split <;> rfl
set_option maxRecDepth 20000 in
theorem Jic (l : List Part) (hl : l.length < 4611686018427387904) : Pure Tryz.prog GL 161 [.p (.lst 3 (l.map Part.enc))] (.p (.int .i64 (Jb5 l l.length))) := by
 refine Pure.of_walk (N := 28) Tryz.func161 rfl rfl rfl (by simp) (by first | (simp; done) | simp [*]) ?_
 simp
 refine Jai.go [0] [] 0 [] (fun _ => []) (fun _ (k : Nat) => [(3, .p (.int .i64 (Jb5 l k))), (4, .p (.int .i64 k))]) (fun _ _ => []) (fun k => k <= l.length) (fun k => l.length - k) 0 (by omega) ?_ ?_
 . simp [Jb5]
 . intro k hk
   simp
   refine Jac (fun h => ?_) (fun h => ?_)
   . simp at h
     obtain ⟨x, e⟩ := Jag h
     by_cases hk0 : k = 0
     . subst hk0
       have hb : Jb5 l 0 = -1 := rfl
       have hb1 : Jb5 l 1 = 0 := by
         have := @Jkq Part Jaz l 1
         unfold Jb5; rw [if_neg (by decide)]; omega
       simp [hb]
       refine Jaj.intro (by kernel_rfl) ?_
       simp [hb, h, e, Part.enc, -getElem?_pos, List.getElem?_cons_zero, List.getElem?_cons_succ]
       exact ⟨.of (by kernel_rfl), 1, by omega, by omega, hb1.symm, rfl⟩
     . have hlt : Jao Jaz l k < k := by have := @Jkq Part Jaz l k; omega
       obtain ⟨y, e2⟩ := Jag (show Jao Jaz l k < l.length by omega)
       have hst := Jwh e (by omega) e2
       have hb : Jb5 l k = (Jao Jaz l k : Nat) := by unfold Jb5; rw [if_neg hk0]
       rw [hb]
       generalize Jao Jaz l k = b at *
       have hb0 : ¬ ((b : Int) < 0) := by omega
       simp
       refine Jaj.intro (by kernel_rfl) ?_
       simp [hb0, h, e, e2, Part.enc, -getElem?_pos, List.getElem?_cons_zero, List.getElem?_cons_succ]
       refine ⟨by omega, .of (by kernel_rfl), ?_⟩
       refine Jac (fun h2 => ?_) (fun h2 => ?_)
       . rw [h2, if_pos rfl] at hst
         simp
         refine ⟨wrap_i64 (by omega) (by omega), k + 1, by omega, by omega, hst.symm, rfl⟩
       . rw [h2, if_neg (by simp)] at hst
         simp
         refine ⟨wrap_i64 (by omega) (by omega), k + 1, by omega, by omega, by rw [hst, hb], rfl⟩
   . simp at h
     have hk2 : k = l.length := by omega
     subst hk2
     simp [Jaa]
end Go.Am
namespace Go.Am
open Go Go.Proofs Go.Pn
theorem J4g {l : List Part} {n : Nat} {x : Part} (e : l[Jao Jaz l l.length]? = some x) : selN Jaz (n + 1) l = x :: selN Jaz n (l.take (Jao Jaz l l.length) ++ l.drop (Jao Jaz l l.length + 1)) := by
 simp only [selN, e]
theorem J4h {l : List Pipe} {n : Nat} {x : Pipe} (e : l[Jao Ja0 l l.length]? = some x) : selN Ja0 (n + 1) l = x :: selN Ja0 n (l.take (Jao Ja0 l l.length) ++ l.drop (Jao Ja0 l l.length + 1)) := by
 simp only [selN, e]
theorem J3s {l : List Pipe} {i : Nat} : ∀ r ∈ (l.map Pipe.row).take i, ∀ c ∈ r, AV.oneCell c = true := fun r hr c hc => by
 obtain ⟨q, _, rfl⟩ := List.mem_map.1 (List.mem_of_mem_take hr)
 simp at hc
 rcases hc with rfl | rfl | rfl | rfl <;> rfl
theorem J3r {l : List Part} {i : Nat} : ∀ r ∈ (l.map Part.row).take i, ∀ c ∈ r, AV.oneCell c = true := fun r hr c hc => by
 obtain ⟨q, _, rfl⟩ := List.mem_map.1 (List.mem_of_mem_take hr)
 simp at hc
 rcases hc with rfl | rfl | rfl <;> rfl
theorem Jwg : Jb5 [] 0 = -1 := rfl
theorem Pure.aggNils {P : Program} {G : Jae} {f k : Nat} {x : AV} {rest : List AV} {r : AV} (h : Pure P G f (.agg [x, .p (.lst k [])] :: rest) r) : Pure P G f (.agg [x, .nils] :: rest) r := by
 refine ⟨by have := h.pure; simpa [Jbe, Jap] using this, fun own w vs hg hs hl hv => h.run own w vs hg hs (by simpa using hl) fun j y v hy hvj => ?_⟩
 cases j with
 | succ j => exact hv (j + 1) y v (by simpa using hy) hvj
 | zero =>
   simp at hy
   subst hy
   obtain ⟨us, rfl, h1, h2⟩ := (hv 0 _ v rfl hvj).agg_inv
   refine .agg _ us (by simpa using h1) fun i c u hc hu => ?_
   match i with
   | 0 => cases hc; exact h2 0 _ u rfl hu
   | 1 =>
     cases hc
     obtain ⟨a, rfl⟩ := (h2 1 _ u rfl hu).nils_inv
     exact .p _ _ (.lst0 ..)
   | i + 2 => cases hc
theorem Leads.accRef {G : Jae} {N n0 : Nat} {t : Jaq} {s : Store} {nx d b k n : Nat} (hn : 0 < n) (hs : slot t d = .acc b k n) : Leads G N n0 ⟨t, s, nx⟩ ⟨(d, .ref b k 0 n none) :: t, s, nx⟩ := .mk fun F φ a w hr => by
 refine ⟨φ, ⟨hr.sr, hr.fresh, hr.base, ⟨hr.tr.size, fun e => ?_⟩, hr.side⟩, fun _ _ => rfl, fun _ => Step.refl _ _⟩
 show VR φ _ w (if d = e then .ref b k 0 n none else slot t e) _
 split
 . rename_i he
   subst he
   have h := hr.tr.slots d
   rw [hs] at h
   generalize a.tmps.getD d undef = v at h
   cases h with
   | acc0 => omega
   | acc _ _ _ β δ cap h1 h2 h3 h4 =>
     have := VR.ref (φ := φ) (own := ownF F φ s) (w := w) b k 0 n none β δ cap h1 (fun _ h => by cases h) h3 (by simpa using h4)
     simpa using this
 . exact hr.tr.slots e
theorem Jai.accRef {P : Program} {G : Jae} {N n0 : Nat} {c : Cont Code} {t : Jaq} {s : Store} {nx : Nat} {Q : Cont KQ} (d b k n : Nat) (hn : 0 < n) (hs : slot t d = .acc b k n) (h : @Jai P G N n0 c ⟨(d, .ref b k 0 n none) :: t, s, nx⟩ Q) : @Jai P G N n0 c ⟨t, s, nx⟩ Q := AEv.leads (Leads.accRef hn hs) h
def Je4 (d : Drf) (O : List Part) (k : Nat) : List Pipe := (d.pipes.take k).map (Jfy ⟨O, []⟩)
theorem J0x {d : Drf} {O : List Part} {k : Nat} {x : EndP} (e : d.pipes[k]? = some x) : Je4 d O (k + 1) = Je4 d O k ++ [Jfy ⟨O, []⟩ x] := by
 unfold Je4
 rw [take_snoc e, List.map_append]; rfl
theorem J0w {d : Drf} {O : List Part} {k : Nat} (hk : k <= d.pipes.length) : (Je4 d O k).length = k := by unfold Je4; rw [List.length_map, List.length_take]; omega
set_option maxRecDepth 20000 in
theorem Jh9 (d : Drf) (hp : d.parts.length <= 1000) (hx : d.pipes.length <= 2000) (hz : Sized ⟨selS Jaz d.parts, []⟩) (hne : d.parts ≠ []) : Pure Tryz.prog GL 74 [.iptr 2 [d.row] 0 0] ((Jal d).av) := by
 refine Pure.of_walk (N := 144) Tryz.func74 rfl rfl rfl (by simp) (by first | (simp; done) | simp [*]) ?_
 have hrowP : (fun x => List.map AV.p x) ∘ Part.enc = Part.row := rfl
 simp [Drf.row]
 refine ⟨by omega, ?_⟩
 refine Jcc (fun h0 => ?_) (fun h0 => ?_)
 . simp
   rw [hrowP]
   refine Jcb ?_
   simp
   refine ⟨_, Jic d.parts (by omega), rfl, ?_⟩
   refine Jai.gor [0, 2, 3] [0] [0, 1, 3, 4] (fun st => [0, 1, nameOf (slot st.t 4), Jmz 1 st]) (fun (g : List Part × List Part) => [(4, .ref 2 3 0 g.1.length none), (5, .p (.int .i64 (Jb5 g.1 g.1.length)))]) (fun g => [(2, some (.cells 3 (g.1.map Part.row))), (3, accB 3 (g.2.map Part.row)), (1, some (.cells 2 [[.acc 3 3 g.2.length, .nils]]))]) (fun g => g.2 ++ selN Jaz g.1.length g.1 = selS Jaz d.parts /\ g.1.length + g.2.length = d.parts.length) (fun g => g.1.length) (d.parts, []) ⟨rfl, rfl⟩ ?_ ?_
   . obtain ⟨P, hP⟩ : ∃ P, P = d.parts := ⟨_, rfl⟩
     rw [<- hP] at h0 ⊢
     cases P with
     | nil => simp at h0
     | cons p0 P => simp
   . rintro ⟨R, O⟩ ⟨hR, hl⟩
     simp only at hR hl
     simp
     refine Jac (fun h => ?_) (fun h => ?_)
     . simp at h
       have hm1 : Jb5 R R.length = (Jao Jaz R R.length : Nat) := by
         unfold Jb5 at h ⊢
         split at h
         . omega
         . rename_i hne; rw [if_neg hne]
       have hne : R.length ≠ 0 := fun h9 => by unfold Jb5 at h; rw [if_pos h9] at h; omega
       have hlt := @Jkq Part Jaz R R.length
       have hml : Jao Jaz R R.length < R.length := by omega
       obtain ⟨x, e⟩ := Jag hml
       obtain ⟨r, hr⟩ : ∃ r, r + 1 = R.length := ⟨R.length - 1, by omega⟩
       have hsel : selN Jaz R.length R = x :: selN Jaz r (R.take (Jao Jaz R R.length) ++ R.drop (Jao Jaz R R.length + 1)) := by
         conv => lhs; rw [<- hr]
         rw [J4g e]
       rw [hm1]
       generalize Jao Jaz R R.length = m at *
       simp
       refine Jaj.intro (by kernel_rfl) ?_
       simp [hml, e, -getElem?_pos, List.getElem?_cons_zero, List.getElem?_cons_succ]
       refine ⟨by omega, .of (by kernel_rfl), ?_⟩
       have hmle : m <= R.length := by omega
       refine Jaj.intro (by kernel_rfl) ?_
       simp [hmle, -getElem?_pos, List.getElem?_cons_zero, List.getElem?_cons_succ]
       have hq1 := @J3r R m
       simp at hq1
       rw [if_pos hq1]
       have hq2 := @J3p R (m + 1)
       simp at hq2
       have hmin : min m R.length = m := by omega
       have hwm : IntKind.i64.wrap ((m : Int) + 1) = (m : Int) + 1 := wrap_i64 (by omega) (by omega)
       have hle1 : (0 : Int) <= (m : Int) + 1 := by omega
       have hle2 : (m : Int) + 1 <= (R.length : Int) := by omega
       have hD : List.take (R.length - (m + 1)) (List.drop (m + 1) (List.map Part.row R)) = List.drop (m + 1) (List.map Part.row R) := List.take_of_length_le (by simp)
       obtain ⟨R', hR'⟩ : ∃ R', R' = R.take m ++ R.drop (m + 1) := ⟨_, rfl⟩
       have hl' : R'.length + 1 = R.length := by rw [hR', List.length_append, List.length_take, List.length_drop]; omega
       have hinv : (O ++ [x]) ++ selN Jaz R'.length R' = selS Jaz d.parts := by
         rw [<- hR, hsel, <- hR', show r = R'.length by omega]; simp
       have hlen2 : R'.length + (O ++ [x]).length = d.parts.length := by rw [List.length_append, List.length_singleton]; omega
       simp
       rw [hmin]
       refine ⟨fun r hr => Jiu r (List.mem_of_mem_take hr), by omega, ?_⟩
       refine Jcc (fun k1 => ?_) (fun k1 => ?_)
       . simp [hwm, hle1, hle2, hD]
         refine Jcc (fun k2 => ?_) (fun k2 => ?_)
         . have q1 : List.take (min m R.length) (List.take m (List.map Part.row R)) = R'.map Part.row := by rw [hR', hmin, List.drop_of_length_le (by omega)]; simp [List.map_take, List.take_take]
           have q2 : min m R.length = R'.length := by omega
           simp
           rw [q1, q2]
           refine ⟨by omega, fun r hr => Jiu r (List.mem_of_mem_take hr), .of (by kernel_rfl), ?_⟩
           refine Jcb ?_
           simp
           refine ⟨_, Jic R' (by omega), rfl, ?_⟩
           refine ⟨R', O ++ [x], ⟨hinv, hlen2⟩, by omega, ?_⟩
           simp
         . simp [hD]
           rw [if_pos ⟨by omega, hq2⟩]
           have q1 : List.take (min m R.length) (List.take m (List.map Part.row R)) ++ List.drop (m + 1) (List.map Part.row R) = R'.map Part.row := by rw [hR', hmin]; simp [List.map_take, List.map_drop, List.take_take]
           have q2 : min m R.length + (R.length - (m + 1)) = R'.length := by omega
           simp
           rw [q1, q2]
           refine ⟨fun r hr => Jiu r (List.mem_of_mem_drop hr), by omega, fun r hr => Jiu r (List.mem_of_mem_take hr), .of (by kernel_rfl), ?_⟩
           refine Jcb ?_
           simp
           refine ⟨_, Jic R' (by omega), rfl, ?_⟩
           refine ⟨R', O ++ [x], ⟨hinv, hlen2⟩, by omega, ?_⟩
           simp
       . have hm0 : m = 0 := by omega
         simp [hwm, hle1, hle2, hD]
         refine Jcc (fun _ => ?_) (fun h9 => absurd (.inl (by omega)) h9)
         simp [hwm, hle1, hle2, hD]
         refine Jcc (fun k2 => ?_) (fun k2 => ?_)
         . have hn' : R' = [] := List.length_eq_zero_iff.1 (by omega)
           simp
           refine ⟨.of (by kernel_rfl), ?_⟩
           have hz : Jb5 R' R'.length = -1 := by rw [hn']; rfl
           refine Jcb ?_
           simp
           have hL := Jic [] (by simp)
           refine ⟨_, hL, rfl, ?_⟩
           refine ⟨R', O ++ [x], ⟨hinv, hlen2⟩, by omega, ?_⟩
           simp [hn', Jwg]
         . simp [hD]
           rw [if_pos ⟨by omega, hq2⟩]
           have q1 : List.drop (m + 1) (List.map Part.row R) = R'.map Part.row := by rw [hR', hm0]; simp [List.map_drop]
           have q2 : R.length - (m + 1) = R'.length := by omega
           simp
           refine ⟨fun r hr => Jiu r (List.mem_of_mem_drop hr), by omega, ?_⟩
           refine Jcc (fun _ => ?_) (fun h9 => absurd (by omega) h9)
           simp
           rw [q1, q2]
           refine ⟨.of (by kernel_rfl), ?_⟩
           refine Jcb ?_
           simp
           refine ⟨_, Jic R' (by omega), rfl, ?_⟩
           refine ⟨R', O ++ [x], ⟨hinv, hlen2⟩, by omega, ?_⟩
           simp
     . simp at h
       have hn0 : R = [] := by
         apply List.length_eq_zero_iff.1
         apply Decidable.byContradiction
         intro h9
         unfold Jb5 at h
         rw [if_neg h9] at h
         omega
       subst hn0
       have hO : O = selS Jaz d.parts := by rw [<- hR]; simp [selN]
       have hOs : O.length <= 1000 := by omega
       have hOz : Sized ⟨O, []⟩ := by rw [hO]; exact hz
       clear hR hl h h0
       simp
       refine Jai.go [0, 2, 3] [0, 1, 3] 1 [4] (nms [6]) (fun nx (k : Nat) => [(6, .acc nx 4 k), (7, .p (.int .i64 k))]) (fun nx k => [(nx, accB 4 ((Je4 d O k).map Pipe.row))]) (fun k => k <= d.pipes.length) (fun k => d.pipes.length - k) 0 (by omega) ?_ ?_
       . simp [Je4]
         try decide
       . intro k hk
         have hkl := @J0w d O k hk
         have hst := fun {x} => @J0x d O k x
         simp [Drf.row]
         refine Jac (fun h => ?_) (fun h => ?_)
         . simp at h
           obtain ⟨x, e⟩ := Jag h
           have hst := hst e
           have hI1 := (Jf6 ⟨O, []⟩ x.1.part hOz).aggNils
           have hI2 := (Jf6 ⟨O, []⟩ x.2.part hOz).aggNils
           have hBf := Jjv ⟨idxI O (fun p => decide (p.name = x.2.part)), x.2.port⟩ ⟨idxI O (fun p => decide (p.name = x.1.part)), x.1.port⟩
           simp
           refine Jaj.intro (by kernel_rfl) ?_
           simp [h, e, EndP.enc, Drf.row, -getElem?_pos, List.getElem?_cons_zero, List.getElem?_cons_succ]
           refine Jcb ?_
           simp
           refine ⟨_, hI1, rfl, h, ?_⟩
           simp [h, e, EndP.enc, Drf.row, -getElem?_pos, List.getElem?_cons_zero, List.getElem?_cons_succ]
           refine ⟨.of (by kernel_rfl), ?_⟩
           refine Jaj.intro (by kernel_rfl) ?_
           simp [h, e, EndP.enc, Drf.row, -getElem?_pos, List.getElem?_cons_zero, List.getElem?_cons_succ]
           refine Jcb ?_
           simp
           refine ⟨_, hI2, rfl, h, ?_⟩
           simp [h, e, EndP.enc, Drf.row, -getElem?_pos, List.getElem?_cons_zero, List.getElem?_cons_succ]
           refine ⟨.of (by kernel_rfl), ?_⟩
           refine Jab hBf ?_
           simp
           refine Jac (fun h3 => ?_) (fun h3 => ?_)
           . have ht : Jfy ⟨O, []⟩ x = ⟨⟨idxI O (fun p => decide (p.name = x.2.part)), x.2.port⟩, ⟨idxI O (fun p => decide (p.name = x.1.part)), x.1.port⟩⟩ := if_pos h3
             simp
             refine ⟨by omega, hkl, wrap_i64 (by omega) (by omega), k + 1, by omega, by omega, by omega, ?_⟩
             rw [hst, ht]
             simp
             try decide
           . have ht : Jfy ⟨O, []⟩ x = ⟨⟨idxI O (fun p => decide (p.name = x.1.part)), x.1.port⟩, ⟨idxI O (fun p => decide (p.name = x.2.part)), x.2.port⟩⟩ := if_neg (by rw [h3]; simp)
             simp
             refine ⟨by omega, hkl, wrap_i64 (by omega) (by omega), k + 1, by omega, by omega, by omega, ?_⟩
             rw [hst, ht]
             simp
             try decide
         . simp at h
           have hkn : k = d.pipes.length := by omega
           obtain ⟨L, hL⟩ : ∃ L, L = d.pipes.map (Jfy ⟨O, []⟩) := ⟨_, rfl⟩
           have hLk : Je4 d O k = L := by rw [hL, hkn]; unfold Je4; rw [List.take_length]
           have hLl : L.length = k := by rw [hL, List.length_map, hkn]
           rw [hLk, <- hLl]
           simp
           by_cases hL0 : L = []
           . subst hL0
             have hsr : Jal d = ⟨O, []⟩ := by unfold Jal; rw [<- hO, <- hL]; rfl
             refine Jai.go [2, 3] [0, 1, 3] 0 [] (fun _ => []) (fun _ (k : Nat) => [(6, .acc 4 4 0)]) (fun _ _ => []) (fun _ => True) (fun _ => 0) 0 trivial ?_ ?_
             . simp
               try decide
             intro k _
             simp
             rw [hsr]
             simp [Jaa]
           obtain ⟨l0, L', hL1⟩ : ∃ l0 L', L = l0 :: L' := by
             cases L with
             | nil => exact absurd rfl hL0
             | cons a b => exact ⟨a, b, rfl⟩
           refine Jai.accRef 6 4 4 L.length (by rw [hL1]; simp) rfl ?_
           refine Jai.gor [2, 3] [0, 3] [0, 1, 4, 3, 5] (fun st => [0, 1, nameOf (slot st.t 6), 3, Jm0 1 st]) (fun (g : List Pipe × List Pipe) => [(6, .ref 2 4 0 g.1.length none)]) (fun g => [(2, some (.cells 4 (g.1.map Pipe.row))), (4, accB 4 (g.2.map Pipe.row)), (1, some (.cells 2 [[.acc 3 3 O.length, .acc 4 4 g.2.length]]))]) (fun g => g.2 ++ selN Ja0 g.1.length g.1 = selS Ja0 L /\ g.1.length + g.2.length = L.length) (fun g => g.1.length) (L, []) ⟨rfl, rfl⟩ ?_ ?_
           . rw [hL1]
             try simp
           rintro ⟨R, W⟩ ⟨hR, hl⟩
           simp only at hR hl
           simp
           refine Jac (fun h => ?_) (fun h => ?_)
           . simp at h
             simp
             refine Jai.go [2, 3, 6] [0, 1, 2, 3, 4] 0 [] (fun _ => []) (fun _ (k : Nat) => [(10, .p (.int .i64 (Jao Ja0 R k : Nat))), (11, .p (.int .i64 k))]) (fun _ _ => []) (fun k => 1 <= k /\ k <= R.length) (fun k => R.length - k) 1 ⟨by omega, by omega⟩ ?_ ?_
             . simp [Jnp Joo]
               decide
             . rintro k ⟨hk1, hk⟩
               have hlt := Jkr Joo hk1 hk
               simp
               refine Jac (fun h4 => ?_) (fun h4 => ?_)
               . simp at h4
                 obtain ⟨x, e⟩ := Jag h4
                 obtain ⟨y, e2⟩ := Jag (show Jao Ja0 R k < R.length by omega)
                 have hsn := Jks e e2
                 have hEa := Jp5 x y
                 have hb : Jao Ja0 R k < R.length := by omega
                 generalize Jao Ja0 R k = q at *
                 simp
                 refine Jaj.intro (by kernel_rfl) ?_
                 simp [h4, e, e2, hb, -getElem?_pos, List.getElem?_cons_zero, List.getElem?_cons_succ]
                 refine Jab hEa ?_
                 simp
                 refine ⟨.of (by kernel_rfl), ?_⟩
                 refine Jac (fun h5 => ?_) (fun h5 => ?_)
                 . rw [h5, if_pos rfl] at hsn
                   simp
                   refine ⟨wrap_i64 (by omega) (by omega), k + 1, ⟨by omega, by omega⟩, by omega, ?_⟩
                   simp [hsn]
                   decide
                 . rw [h5, if_neg (by simp)] at hsn
                   simp
                   refine ⟨wrap_i64 (by omega) (by omega), k + 1, ⟨by omega, by omega⟩, by omega, ?_⟩
                   simp [hsn]
                   decide
               . simp at h4
                 have hkn : k = R.length := by omega
                 subst hkn
                 obtain ⟨x, e⟩ := Jag hlt
                 obtain ⟨r, hr⟩ : ∃ r, r + 1 = R.length := ⟨R.length - 1, by omega⟩
                 have hsel : selN Ja0 R.length R = x :: selN Ja0 r (R.take (Jao Ja0 R R.length) ++ R.drop (Jao Ja0 R R.length + 1)) := by
                   conv => lhs; rw [<- hr]
                   rw [J4h e]
                 generalize Jao Ja0 R R.length = m at *
                 have hmle : m <= R.length := by omega
                 obtain ⟨R', hR'⟩ : ∃ R', R' = R.take m ++ R.drop (m + 1) := ⟨_, rfl⟩
                 have hl' : R'.length + 1 = R.length := by rw [hR', List.length_append, List.length_take, List.length_drop]; omega
                 have hinv : (W ++ [x]) ++ selN Ja0 R'.length R' = selS Ja0 L := by
                   rw [<- hR, hsel, <- hR', show r = R'.length by omega]; simp
                 have hlen2 : R'.length + (W ++ [x]).length = L.length := by rw [List.length_append, List.length_singleton]; omega
                 have hLx : L.length <= 2000 := by omega
                 simp
                 refine Jaj.intro (by kernel_rfl) ?_
                 simp [hlt, e, -getElem?_pos, List.getElem?_cons_zero, List.getElem?_cons_succ]
                 refine ⟨by omega, .of (by kernel_rfl), ?_⟩
                 have hq1 := @J3s R m
                 simp at hq1
                 have hq2 := @J3q R (m + 1)
                 simp at hq2
                 have hmin : min m R.length = m := by omega
                 have hwm : IntKind.i64.wrap ((m : Int) + 1) = (m : Int) + 1 := wrap_i64 (by omega) (by omega)
                 have hle1 : (0 : Int) <= (m : Int) + 1 := by omega
                 have hle2 : (m : Int) + 1 <= (R.length : Int) := by omega
                 have hD : List.take (R.length - (m + 1)) (List.drop (m + 1) (List.map Pipe.row R)) = List.drop (m + 1) (List.map Pipe.row R) := List.take_of_length_le (by simp)
                 refine Jaj.intro (by kernel_rfl) ?_
                 simp [hmle, -getElem?_pos, List.getElem?_cons_zero, List.getElem?_cons_succ]
                 rw [if_pos hq1]
                 simp
                 rw [hmin]
                 refine ⟨fun r hr => Jiv r (List.mem_of_mem_take hr), by omega, ?_⟩
                 refine Jcc (fun k1 => ?_) (fun k1 => ?_)
                 . simp [hwm, hle1, hle2, hD]
                   refine Jcc (fun k2 => ?_) (fun k2 => ?_)
                   . have q1 : List.take (min m R.length) (List.take m (List.map Pipe.row R)) = R'.map Pipe.row := by rw [hR', hmin, List.drop_of_length_le (by omega)]; simp [List.map_take, List.take_take]
                     have q2 : min m R.length = R'.length := by omega
                     simp
                     rw [q1, q2]
                     refine ⟨by omega, fun r hr => Jiv r (List.mem_of_mem_take hr), .of (by kernel_rfl), ?_⟩
                     refine ⟨R', W ++ [x], ⟨hinv, hlen2⟩, by omega, ?_⟩
                     simp
                   . simp [hD]
                     rw [if_pos ⟨by omega, hq2⟩]
                     have q1 : List.take (min m R.length) (List.take m (List.map Pipe.row R)) ++ List.drop (m + 1) (List.map Pipe.row R) = R'.map Pipe.row := by rw [hR', hmin]; simp [List.map_take, List.map_drop, List.take_take]
                     have q2 : min m R.length + (R.length - (m + 1)) = R'.length := by omega
                     simp
                     rw [q1, q2]
                     refine ⟨fun r hr => Jiv r (List.mem_of_mem_drop hr), by omega, fun r hr => Jiv r (List.mem_of_mem_take hr), .of (by kernel_rfl), ?_⟩
                     refine ⟨R', W ++ [x], ⟨hinv, hlen2⟩, by omega, ?_⟩
                     simp
                 . have hm0 : m = 0 := by omega
                   simp [hwm, hle1, hle2, hD]
                   refine Jcc (fun _ => ?_) (fun h9 => absurd (.inl (by omega)) h9)
                   simp [hwm, hle1, hle2, hD]
                   refine Jcc (fun k2 => ?_) (fun k2 => ?_)
                   . have hn' : R' = [] := List.length_eq_zero_iff.1 (by omega)
                     simp
                     refine ⟨.of (by kernel_rfl), ?_⟩
                     refine ⟨R', W ++ [x], ⟨hinv, hlen2⟩, by omega, ?_⟩
                     simp [hn']
                   . simp [hD]
                     rw [if_pos ⟨by omega, hq2⟩]
                     have q1 : List.drop (m + 1) (List.map Pipe.row R) = R'.map Pipe.row := by rw [hR', hm0]; simp [List.map_drop]
                     have q2 : R.length - (m + 1) = R'.length := by omega
                     simp
                     refine ⟨fun r hr => Jiv r (List.mem_of_mem_drop hr), by omega, ?_⟩
                     refine Jcc (fun _ => ?_) (fun h9 => absurd (by omega) h9)
                     simp
                     rw [q1, q2]
                     refine ⟨.of (by kernel_rfl), ?_⟩
                     refine ⟨R', W ++ [x], ⟨hinv, hlen2⟩, by omega, ?_⟩
                     simp
           . simp at h
             have hn0 : R = [] := by first | exact h | exact List.length_eq_zero_iff.1 (by omega)
             subst hn0
             have hW : W = selS Ja0 L := by rw [<- hR]; simp [selN]
             have hsr : Jal d = ⟨O, W⟩ := by unfold Jal; rw [<- hO, <- hL, <- hW]
             rw [hsr]
             simp [Jaa]
 . exact absurd (List.length_eq_zero_iff.1 (by omega)) hne
end Go.Am
namespace Go.Am
open Go Go.Proofs Go.Pn
def Jbb (o n : List Txt) (s : Txt) : Txt := if idxI o (fun x => decide (x = s)) < 0 then s else (n[(idxI o (fun x => decide (x = s))).toNat]?).getD []
theorem Jmu (s : Txt) (o n : List Txt) (hl : o.length = n.length) (ho : o.length < 1000) : Pure Tryz.prog GL 169 [.p (.str s), .p (.lst 1 (o.map Txt.enc)), .p (.lst 1 (n.map Txt.enc))] (.p (.str (Jbb o n s))) := by
 refine Pure.of_walk (N := 25) Tryz.func169 rfl rfl rfl (by simp) (by first | (simp; done) | simp [*]) ?_
 simp
 refine Jai.go [0, 1, 2] [] 0 [] (fun _ => []) (fun _ (k : Nat) => [(7, .p (.int .i64 k))]) (fun _ _ => []) (fun k => k <= o.length /\ ∀ (j : Nat) x, j < k -> o[j]? = some x -> decide (x = s) = false) (fun k => o.length - k) 0 ⟨by omega, fun j b h => by omega⟩ ?_ ?_
 . simp
 . rintro k ⟨hk, hp⟩
   simp
   refine Jac (fun h => ?_) (fun h => ?_)
   . simp at h
     obtain ⟨x, e⟩ := Jag h
     obtain ⟨y, e2⟩ := Jag (show k < n.length by omega)
     simp [h, e, Txt.enc, -getElem?_pos, List.getElem?_cons_zero, List.getElem?_cons_succ]
     refine Jac (fun h2 => ?_) (fun h2 => ?_)
     . have hi := Jdp e h2 hp
       have hr : Jbb o n s = y := by unfold Jbb; rw [hi, if_neg (by omega), Int.toNat_natCast, e2]; rfl
       have hkn : k < n.length := by omega
       simp [hkn, e2, Txt.enc, -getElem?_pos, List.getElem?_cons_zero, List.getElem?_cons_succ]
       simp [Jaa, hr]
     . have hnx := Jdn hp e h2
       simp
       refine ⟨wrap_i64 (by omega) (by omega), k + 1, ⟨by omega, fun j y hj hy => by have := hnx j y hj hy; simpa using this⟩, by omega, ?_⟩
       simp
   . simp at h
     have hk2 : k = o.length := by omega
     subst hk2
     have hr : Jbb o n s = s := by unfold Jbb; rw [Jei (Jdu hp), if_pos (by decide)]
     simp [Jaa, hr]
def Drf.av (d : Drf) : AV := .agg [.p (.lst 3 (d.parts.map Part.enc)), .p (.lst 4 (d.pipes.map EndP.enc))]
def nmdP (c : Circuit) (f : Txt -> Txt) (k : Nat) : List Part := (c.parts.take k).map (Jbr f)
def nmdX (c : Circuit) (f : Txt -> Txt) (k : Nat) : List EndP := (c.pipes.take k).map fun x => (Jb0 f (Ja7 c x.fr), Jb0 f (Ja7 c x.to))
theorem J1k {c : Circuit} {f : Txt -> Txt} {k : Nat} {p : Part} (e : c.parts[k]? = some p) : nmdP c f (k + 1) = nmdP c f k ++ [Jbr f p] := by
 unfold nmdP; rw [take_snoc e, List.map_append]; rfl
theorem J1m {c : Circuit} {f : Txt -> Txt} {k : Nat} {x : Pipe} (e : c.pipes[k]? = some x) : nmdX c f (k + 1) = nmdX c f k ++ [(Jb0 f (Ja7 c x.fr), Jb0 f (Ja7 c x.to))] := by
 unfold nmdX; rw [take_snoc e, List.map_append]; rfl
theorem J1j {c : Circuit} {f : Txt -> Txt} {k : Nat} (h : k <= c.parts.length) : (nmdP c f k).length = k := by unfold nmdP; rw [List.length_map, List.length_take]; omega
theorem J1l {c : Circuit} {f : Txt -> Txt} {k : Nat} (h : k <= c.pipes.length) : (nmdX c f k).length = k := by unfold nmdX; rw [List.length_map, List.length_take]; omega
theorem J1n {c : Circuit} {f : Txt -> Txt} : mapD f (drfC c) = ⟨nmdP c f c.parts.length, nmdX c f c.pipes.length⟩ := by
 unfold nmdP nmdX mapD drfC; rw [List.take_length, List.take_length, List.map_map]; rfl
set_option maxRecDepth 20000 in
theorem Jib (c : Circuit) (o n : List Txt) (h : Jad c = 0) (hl : o.length = n.length) (ho : o.length < 1000) : Pure Tryz.prog GL 85 [c.av, .p (.lst 1 (o.map Txt.enc)), .p (.lst 1 (n.map Txt.enc))] ((mapD (Jbb o n) (drfC c)).av) := by
 refine Pure.of_walk (N := 89) Tryz.func85 rfl rfl rfl (by simp) (by first | (simp; done) | simp [*]) ?_
 have h64 := (Jco.1 h).1.few
 have h256 := (Jco.1 h).2.1
 rw [J1n]
 simp
 refine Jai.go [1, 2, 3, 6, 7] [0, 1] 1 [3] (fun st => [Jmz 2 st]) (fun nx (k : Nat) => [(8, .p (.int .i64 k))]) (fun nx k => [(2, some (.cells 2 [[.acc nx 3 k, .nils]])), (nx, accB 3 ((nmdP c (Jbb o n) k).map Part.row))]) (fun k => k <= c.parts.length) (fun k => c.parts.length - k) 0 (by omega) ?_ ?_
 . simp [nmdP]
   try decide
 intro k hk
 have hkl := @J1j c (Jbb o n) k hk
 simp
 refine Jac (fun h3 => ?_) (fun h3 => ?_)
 . simp at h3
   obtain ⟨p, e⟩ := Jag h3
   have hst := @J1k c (Jbb o n) k p e
   simp [h3, e, Part.enc, -getElem?_pos, List.getElem?_cons_zero, List.getElem?_cons_succ]
   refine Jab (Jmu p.name o n hl ho) ?_
   simp
   refine ⟨by omega, hkl, wrap_i64 (by omega) (by omega), k + 1, by omega, by omega, by omega, ⟨rfl, ?_⟩, by decide⟩
   rw [hst]
   simp [Jbr]
 . simp at h3
   have hkn : k = c.parts.length := by omega
   subst hkn
   simp
   refine Jai.go [1, 2, 3, 6, 7] [0, 1, 3] 1 [4] (fun st => [Jm0 2 st]) (fun nx (k : Nat) => [(10, .p (.int .i64 k))]) (fun nx k => [(2, some (.cells 2 [[.acc 3 3 c.parts.length, .acc nx 4 k]])), (nx, accB 4 ((nmdX c (Jbb o n) k).map EndP.row))]) (fun k => k <= c.pipes.length) (fun k => c.pipes.length - k) 0 (by omega) ?_ ?_
   . simp [nmdX]
     try decide
   intro k hk2
   have hkl2 := @J1l c (Jbb o n) k hk2
   simp
   refine Jac (fun h4 => ?_) (fun h4 => ?_)
   . simp at h4
     obtain ⟨x, e⟩ := Jag h4
     have hst := @J1m c (Jbb o n) k x e
     obtain ⟨hA, hB⟩ := Jtf h (List.mem_of_getElem? e)
     obtain ⟨i1, q1, g1, g2, g3⟩ := Jlc hA
     obtain ⟨i2, q2, l1, l2, l3⟩ := Jlc hB
     have e1 : nameAt c x.fr.part = q1.name := by rw [g1]; exact Jk0 g2
     have e2 : nameAt c x.to.part = q2.name := by rw [l1]; exact Jk0 l2
     have hi1 := (gsI.1 g2).1
     have hi2 := (gsI.1 l2).1
     simp
     refine Jaj.intro (by kernel_rfl) ?_
     simp [h4, e, Pipe.enc, -getElem?_pos, List.getElem?_cons_zero, List.getElem?_cons_succ]
     refine ⟨.of (by kernel_rfl), ?_⟩
     refine Jaj.intro (by kernel_rfl) ?_
     simp [g1, g2, hi1, Part.enc, -getElem?_pos, List.getElem?_cons_zero, List.getElem?_cons_succ]
     refine Jab (Jmu q1.name o n hl ho) ?_
     simp [l1, l2, hi2, Part.enc, -getElem?_pos, List.getElem?_cons_zero, List.getElem?_cons_succ]
     refine Jab (Jmu q2.name o n hl ho) ?_
     simp
     refine ⟨by omega, hkl2, fun r a b _ e => by subst e; rfl, .of (by kernel_rfl), wrap_i64 (by omega) (by omega), k + 1, by omega, by omega, by omega, ⟨rfl, ?_⟩, by decide⟩
     rw [hst]
     simp [Jb0, Ja7, e1, e2]
   . simp at h4
     have hkn : k = c.pipes.length := by omega
     subst hkn
     simp [Jaa, Drf.av]
     exact ⟨hkl, hkl2⟩
end Go.Am
namespace Go.Am
open Go Go.Proofs Go.Pn
theorem Jhj {c : Circuit} {old new : Txt} (h : Jad c = 0) (hnn : ((renD c old new).parts.map (·.name)).Nodup) : DrfOk (renD c old new) := by
 refine ⟨hnn, fun x hx => ?_⟩
 obtain ⟨y, hy, rfl⟩ := List.mem_map.1 hx
 obtain ⟨g1, g2⟩ := (Jif h).ends y hy
 obtain ⟨p1, hp1, e1⟩ := List.mem_map.1 g1
 obtain ⟨p2, hp2, e2⟩ := List.mem_map.1 g2
 refine ⟨List.mem_map.2 ⟨Jbr (Jan c old new) p1, List.mem_map_of_mem hp1, ?_⟩, List.mem_map.2 ⟨Jbr (Jan c old new) p2, List.mem_map_of_mem hp2, ?_⟩⟩
 . show Jan c old new p1.name = Jan c old new y.1.part
   rw [e1]
 . show Jan c old new p2.name = Jan c old new y.2.part
   rw [e2]
theorem Jix {c : Circuit} {old new : Txt} (h : Jad c = 0) (hnn : ((renD c old new).parts.map (·.name)).Nodup) (hn : new.length < 1000000000000000000) : Sized (Jal (renD c old new)) /\ Sized ⟨selS Jaz (renD c old new).parts, []⟩ := by
 have hDo := Jhj h hnn
 have hpl := (Jf8 h).2.1
 have hxl := (Jf8 h).2.2
 have hrpl : (renD c old new).parts.length = c.parts.length := List.length_map ..
 have hrxl : (renD c old new).pipes.length = c.pipes.length := by unfold renD mapD drfC; simp
 have hdr : Jd4 ⟨(renD c old new).parts, (renD c old new).pipes.map ordX⟩ = Jal (renD c old new) := Jm4 hDo rfl rfl
 have hnm : ∀ p ∈ (Jal (renD c old new)).parts, p.name.length < 4611686018427387900 := fun p hp => by
   have hp2 := (Jfx hDo).mem_iff.1 hp
   obtain ⟨q, hq, rfl⟩ := List.mem_map.1 hp2
   show (Jan c old new q.name).length < _
   have h24 := (Jes (Jdk (Jdz h hq)).2.1).2.2
   unfold Jan
   split
   . omega
   . split
     . simp; omega
     . split
       . simp; omega
       . omega
 have hpn : (Jal (renD c old new)).parts.length < 4611686018427387904 := by rw [(Jfx hDo).length_eq, hrpl]; omega
 refine ⟨⟨hpn, ?_, hnm⟩, ⟨hpn, by show (0 : Nat) < _; decide, hnm⟩⟩
 rw [<- hdr]; show ((Jau Ja9 _).map _).length < _; rw [List.length_map, Jd8]; show ((renD c old new).pipes.map ordX).length < _; rw [List.length_map]; omega
theorem J37 {s : Txt} : Jbb [] [] s = s := rfl
theorem J36 {a b : Txt} {o n : List Txt} {s : Txt} : Jbb (a :: o) (b :: n) s = if a = s then b else Jbb o n s := by
 unfold Jbb
 by_cases h : a = s
 . have : idxI (a :: o) (fun x => decide (x = s)) = (0 : Nat) := Jdp (k := 0) (x := a) rfl (by simpa using h) (fun j y hj => absurd hj (by omega))
   rw [this, if_neg (by decide), if_pos h]; rfl
 . rw [if_neg h]
   rcases Jik o (fun x => decide (x = s)) with ⟨h1, h2⟩ | ⟨i, x, h1, h2, h3, h4⟩
   . have e : List.findIdx? (fun x => decide (x = s)) (a :: o) = none := by rw [List.findIdx?_cons, h1]; simp [h]
     have e2 : idxI (a :: o) (fun x => decide (x = s)) = -1 := by unfold idxI; rw [e]
     rw [e2, h2]; rfl
   . have e : List.findIdx? (fun x => decide (x = s)) (a :: o) = some (i + 1) := by rw [List.findIdx?_cons, h1]; simp [h]
     have e2 : idxI (a :: o) (fun x => decide (x = s)) = ((i + 1 : Nat) : Int) := by unfold idxI; rw [e]
     rw [e2, h2, if_neg (by omega), if_neg (by omega), Int.toNat_natCast, Int.toNat_natCast, List.getElem?_cons_succ]
theorem Jii {ps : List Part} : ((ps.map (·.name)).Nodup) ↔ ∀ (j : Nat) x, ps[j]? = some x -> idxI ps (fun p => decide (p.name = x.name)) = j := by
 constructor
 . intro hn j x e
   refine Jdp e (by simp) fun i y hij hy => ?_
   rw [decide_eq_false_iff_not]
   intro h9
   have e1 : (ps.map (·.name))[i]? = (ps.map (·.name))[j]? := by rw [List.getElem?_map, List.getElem?_map, hy, e]; simp [h9]
   have := (List.getElem?_inj (by rw [List.length_map]; exact (gsI.1 hy).1) hn).1 e1
   omega
 . intro h
   refine List.pairwise_iff_getElem.2 fun i j hi hj hij e => ?_
   rw [List.length_map] at hi hj
   simp only [List.getElem_map] at e
   have h1 := h i _ (List.getElem?_eq_getElem hi)
   have h2 := h j _ (List.getElem?_eq_getElem hj)
   rw [e, h2] at h1
   omega
theorem Jiz {c : Circuit} {old new : Txt} {s : Txt} : (Jbp c (Jbs c old) = 1 -> 0 <= swAt c (old ++ [48]) -> 0 <= swAt c (old ++ [49]) -> Jbb [old, old ++ [48], old ++ [49]] [new, new ++ [48], new ++ [49]] s = Jan c old new s) /\
   (Jbp c (Jbs c old) = 1 -> 0 <= swAt c (old ++ [48]) -> ¬ 0 <= swAt c (old ++ [49]) -> Jbb [old, old ++ [48]] [new, new ++ [48]] s = Jan c old new s) /\
   (Jbp c (Jbs c old) = 1 -> ¬ 0 <= swAt c (old ++ [48]) -> 0 <= swAt c (old ++ [49]) -> Jbb [old, old ++ [49]] [new, new ++ [49]] s = Jan c old new s) /\
   (¬ (Jbp c (Jbs c old) = 1 /\ (0 <= swAt c (old ++ [48]) \/ 0 <= swAt c (old ++ [49]))) -> Jbb [old] [new] s = Jan c old new s) := by
 simp only [J36, J37, Jan]
 by_cases a1 : s = old
 . subst a1; simp
 by_cases a2 : s = old ++ [48]
 . subst a2
   have := Jpj old
   refine ⟨fun k a b => ?_, fun k a b => ?_, fun k a b => ?_, fun k => ?_⟩
   . simp_all
   . simp_all
   . simp_all
     intro h9; omega
   . simp_all
     intro k1 h9; have := k.1 k1; omega
 by_cases a3 : s = old ++ [49]
 . subst a3
   have := Jpj old
   refine ⟨fun k a b => ?_, fun k a b => ?_, fun k a b => ?_, fun k => ?_⟩
   . simp_all
   . simp_all
     intro h9; omega
   . simp_all
   . simp_all
     intro k1 h9; have := k.2 k1; omega
 have b1 : ¬ old = s := fun h => a1 h.symm
 have b2 : ¬ old ++ [48] = s := fun h => a2 h.symm
 have b3 : ¬ old ++ [49] = s := fun h => a3 h.symm
 simp [a1, a2, a3, b1, b2, b3]
set_option maxRecDepth 20000 in
theorem J6t (c : Circuit) (old new : Txt) (hs : Sized c) (ho : old.length < 1000000000000000000) (hn : new.length < 1000000000000000000) : Pure Tryz.prog GL 22 [c.av, .p (.str old), .p (.str new)] (.tup [(rnmC c old new).av, .p (.int .i64 (rnmE c old new))]) := by
 refine Pure.of_walk (N := 102) Tryz.func22 rfl rfl rfl (by simp) (by first | (simp; done) | simp [*]) ?_
 simp
 refine Jab (Jf5 c hs) ?_
 by_cases h : Jad c = 0
 . simp [h]
   refine Jab (Jf6 c old hs) ?_
   rw [<- Jbs]
   rcases Jhf c old with e0 | ⟨i, q0, e0, e1, e2⟩
   . have hE : rnmE c old new = 6 := by unfold rnmE; rw [h, e0]; rfl
     have hC : rnmC c old new = noC := by unfold rnmC; rw [if_neg (by rw [hE]; decide)]
     simp [h, e0, Jaa, hE, hC, noC]
   have hi : i < c.parts.length := (gsI.1 e1).1
   have hka : Jbp c (Jbs c old) = q0.kind := by unfold Jbp; rw [e0, Int.toNat_natCast, e1]; rfl
   have hi0 : ¬ (i : Int) < 0 := by omega
   simp [h, e0, hi0]
   simp [hi, e1, Part.enc, -getElem?_pos, List.getElem?_cons_zero, List.getElem?_cons_succ]
   by_cases hk : q0.kind = 1
   . have hLe : Jfq c old = 0 := by unfold Jfq; rw [h, if_neg (by simp), e0, if_neg hi0, <- e0, hka, if_neg (by simpa using hk)]
     have hLi := Jx5 c old hs (by omega)
     rw [hLe, show Jej c old 48 = swAt c (old ++ [48]) by unfold Jej; rw [hLe, if_neg (by simp)], show Jej c old 49 = swAt c (old ++ [49]) by unfold Jej; rw [hLe, if_neg (by simp)]] at hLi
     simp [hk]
     refine Jab hLi ?_
     obtain ⟨r1, r2, r3, r4⟩ : (∀ s, 0 <= swAt c (old ++ [48]) -> 0 <= swAt c (old ++ [49]) -> Jbb [old, old ++ [48], old ++ [49]] [new, new ++ [48], new ++ [49]] s = Jan c old new s) /\ (∀ s, 0 <= swAt c (old ++ [48]) -> ¬ 0 <= swAt c (old ++ [49]) -> Jbb [old, old ++ [48]] [new, new ++ [48]] s = Jan c old new s) /\
       (∀ s, ¬ 0 <= swAt c (old ++ [48]) -> 0 <= swAt c (old ++ [49]) -> Jbb [old, old ++ [49]] [new, new ++ [49]] s = Jan c old new s) /\ (∀ s, ¬ 0 <= swAt c (old ++ [48]) -> ¬ 0 <= swAt c (old ++ [49]) -> Jbb [old] [new] s = Jan c old new s) :=
       ⟨fun s a b => (Jiz (s := s)).1 (hka.trans hk) a b, fun s a b => (Jiz (s := s)).2.1 (hka.trans hk) a b, fun s a b => (Jiz (s := s)).2.2.1 (hka.trans hk) a b, fun s a b => (Jiz (s := s)).2.2.2 fun ⟨_, h9⟩ => h9.elim a b⟩
     generalize swAt c (old ++ [48]) = S0 at *
     generalize swAt c (old ++ [49]) = S1 at *
     by_cases s0 : 0 <= S0
     . by_cases s1 : 0 <= S1
       . have hren := fun s => r1 s s0 s1
         simp [s0, s1]
         refine ⟨by omega, by omega, by omega, by omega, ?_⟩
         have hD : mapD (Jbb [old, old ++ [48], old ++ [49]] [new, new ++ [48], new ++ [49]]) (drfC c) = renD c old new := by unfold renD; rw [show Jbb [old, old ++ [48], old ++ [49]] [new, new ++ [48], new ++ [49]] = Jan c old new from funext hren]
         have hNm := Jib c [old, old ++ [48], old ++ [49]] [new, new ++ [48], new ++ [49]] h rfl (by simp)
         rw [hD] at hNm
         refine Jeu ?_
         simp
         refine ⟨_, hNm, ?_⟩
         simp [Drf.av]
         have hDl : (renD c old new).parts.length = c.parts.length := List.length_map ..
         have hDx : (renD c old new).pipes.length = c.pipes.length := by unfold renD mapD drfC; simp
         have h64 := (Jco.1 h).1.few
         have h256 := (Jco.1 h).2.1
         have hfirst := @Jii (renD c old new).parts
         have hrok := fun hnn => @Jhj c old new h hnn
         have hrsz := fun hnn => @Jix c old new h hnn hn
         have hE7 : ¬ ((renD c old new).parts.map (·.name)).Nodup -> rnmE c old new = 7 := fun hnn => by unfold rnmE; rw [h, if_neg (by simp), if_neg (by omega), if_pos hnn]
         have hEs : ((renD c old new).parts.map (·.name)).Nodup -> rnmE c old new = Jad (Jal (renD c old new)) := fun hnn => by unfold rnmE; rw [h, if_neg (by simp), if_neg (by omega), if_neg (by simpa using hnn)]
         have hCs : rnmE c old new = 0 -> rnmC c old new = Jal (renD c old new) := fun h0 => by unfold rnmC; rw [if_pos h0]
         have hCn : rnmE c old new ≠ 0 -> rnmC c old new = noC := fun h0 => by unfold rnmC; rw [if_neg h0]
         generalize renD c old new = D at *
         refine Jai.go [6, 15] [1, 12] 0 [] (fun _ => []) (fun _ (k : Nat) => [(16, .p (.int .i64 k))]) (fun _ _ => []) (fun k => k <= D.parts.length /\ ∀ (j : Nat) x, j < k -> D.parts[j]? = some x -> idxI D.parts (fun p => decide (p.name = x.name)) = j) (fun k => D.parts.length - k) 0 ⟨by omega, fun j x hj => absurd hj (by omega)⟩ ?_ ?_
         . simp
           try decide
         rintro k ⟨hk, hp⟩
         simp
         refine Jac (fun h5 => ?_) (fun h5 => ?_)
         . simp at h5
           obtain ⟨x, e⟩ := Jag h5
           have hPl := Jia D x.name (by omega)
           simp [h5, e, Part.enc, -getElem?_pos, List.getElem?_cons_zero, List.getElem?_cons_succ]
           refine Jcb ?_
           simp
           refine ⟨_, hPl, rfl, ?_⟩
           by_cases h6 : idxI D.parts (fun p => decide (p.name = x.name)) = k
           . simp [h6]
             refine ⟨wrap_i64 (by omega) (by omega), k + 1, ⟨by omega, fun j y hj hy => ?_⟩, by omega, ?_⟩
             . by_cases hjk : j = k
               . subst hjk; rw [e] at hy; cases hy; exact h6
               . exact hp j y (by omega) hy
             . simp
               decide
           . have hnn : ¬ (D.parts.map (·.name)).Nodup := fun h9 => h6 (hfirst.1 h9 k x e)
             have hE := hE7 hnn
             have hC := hCn (by rw [hE]; decide)
             simp [h6, Jaa, hE, hC, noC]
         . simp at h5
           have hkn : k = D.parts.length := by omega
           have hnn : (D.parts.map (·.name)).Nodup := hfirst.2 fun j x e => hp j x (by have := (gsI.1 e).1; omega) e
           have hSo := Jh9 D (by omega) (by omega) (hrsz hnn).2 (fun h9 => by rw [h9] at hDl; simp at hDl; omega)
           have hCk := Jf5 (Jal D) (hrsz hnn).1
           have hE := hEs hnn
           generalize Jal D = SR' at *
           simp
           refine Jeu ?_
           simp
           refine ⟨_, hSo, ?_⟩
           simp
           refine Jab hCk ?_
           by_cases hcs : Jad SR' = 0
           . have hC := hCs (hE.trans hcs)
             simp [hcs, Jaa, hE, hC]
           . have hC := hCn (by rw [hE]; exact hcs)
             simp [hcs, Jaa, hE, hC, noC]
       . have hren := fun s => r2 s s0 s1
         simp [s0, s1]
         refine ⟨by omega, by omega, ?_⟩
         have hD : mapD (Jbb [old, old ++ [48]] [new, new ++ [48]]) (drfC c) = renD c old new := by unfold renD; rw [show Jbb [old, old ++ [48]] [new, new ++ [48]] = Jan c old new from funext hren]
         have hNm := Jib c [old, old ++ [48]] [new, new ++ [48]] h rfl (by simp)
         rw [hD] at hNm
         refine Jeu ?_
         simp
         refine ⟨_, hNm, ?_⟩
         simp [Drf.av]
         have hDl : (renD c old new).parts.length = c.parts.length := List.length_map ..
         have hDx : (renD c old new).pipes.length = c.pipes.length := by unfold renD mapD drfC; simp
         have h64 := (Jco.1 h).1.few
         have h256 := (Jco.1 h).2.1
         have hfirst := @Jii (renD c old new).parts
         have hrok := fun hnn => @Jhj c old new h hnn
         have hrsz := fun hnn => @Jix c old new h hnn hn
         have hE7 : ¬ ((renD c old new).parts.map (·.name)).Nodup -> rnmE c old new = 7 := fun hnn => by unfold rnmE; rw [h, if_neg (by simp), if_neg (by omega), if_pos hnn]
         have hEs : ((renD c old new).parts.map (·.name)).Nodup -> rnmE c old new = Jad (Jal (renD c old new)) := fun hnn => by unfold rnmE; rw [h, if_neg (by simp), if_neg (by omega), if_neg (by simpa using hnn)]
         have hCs : rnmE c old new = 0 -> rnmC c old new = Jal (renD c old new) := fun h0 => by unfold rnmC; rw [if_pos h0]
         have hCn : rnmE c old new ≠ 0 -> rnmC c old new = noC := fun h0 => by unfold rnmC; rw [if_neg h0]
         generalize renD c old new = D at *
         refine Jai.go [6, 15] [1, 8] 0 [] (fun _ => []) (fun _ (k : Nat) => [(16, .p (.int .i64 k))]) (fun _ _ => []) (fun k => k <= D.parts.length /\ ∀ (j : Nat) x, j < k -> D.parts[j]? = some x -> idxI D.parts (fun p => decide (p.name = x.name)) = j) (fun k => D.parts.length - k) 0 ⟨by omega, fun j x hj => absurd hj (by omega)⟩ ?_ ?_
         . simp
           try decide
         rintro k ⟨hk, hp⟩
         simp
         refine Jac (fun h5 => ?_) (fun h5 => ?_)
         . simp at h5
           obtain ⟨x, e⟩ := Jag h5
           have hPl := Jia D x.name (by omega)
           simp [h5, e, Part.enc, -getElem?_pos, List.getElem?_cons_zero, List.getElem?_cons_succ]
           refine Jcb ?_
           simp
           refine ⟨_, hPl, rfl, ?_⟩
           by_cases h6 : idxI D.parts (fun p => decide (p.name = x.name)) = k
           . simp [h6]
             refine ⟨wrap_i64 (by omega) (by omega), k + 1, ⟨by omega, fun j y hj hy => ?_⟩, by omega, ?_⟩
             . by_cases hjk : j = k
               . subst hjk; rw [e] at hy; cases hy; exact h6
               . exact hp j y (by omega) hy
             . simp
               decide
           . have hnn : ¬ (D.parts.map (·.name)).Nodup := fun h9 => h6 (hfirst.1 h9 k x e)
             have hE := hE7 hnn
             have hC := hCn (by rw [hE]; decide)
             simp [h6, Jaa, hE, hC, noC]
         . simp at h5
           have hkn : k = D.parts.length := by omega
           have hnn : (D.parts.map (·.name)).Nodup := hfirst.2 fun j x e => hp j x (by have := (gsI.1 e).1; omega) e
           have hSo := Jh9 D (by omega) (by omega) (hrsz hnn).2 (fun h9 => by rw [h9] at hDl; simp at hDl; omega)
           have hCk := Jf5 (Jal D) (hrsz hnn).1
           have hE := hEs hnn
           generalize Jal D = SR' at *
           simp
           refine Jeu ?_
           simp
           refine ⟨_, hSo, ?_⟩
           simp
           refine Jab hCk ?_
           by_cases hcs : Jad SR' = 0
           . have hC := hCs (hE.trans hcs)
             simp [hcs, Jaa, hE, hC]
           . have hC := hCn (by rw [hE]; exact hcs)
             simp [hcs, Jaa, hE, hC, noC]
     . by_cases s1 : 0 <= S1
       . have hren := fun s => r3 s s0 s1
         simp [s0, s1]
         refine ⟨by omega, by omega, ?_⟩
         have hD : mapD (Jbb [old, old ++ [49]] [new, new ++ [49]]) (drfC c) = renD c old new := by unfold renD; rw [show Jbb [old, old ++ [49]] [new, new ++ [49]] = Jan c old new from funext hren]
         have hNm := Jib c [old, old ++ [49]] [new, new ++ [49]] h rfl (by simp)
         rw [hD] at hNm
         refine Jeu ?_
         simp
         refine ⟨_, hNm, ?_⟩
         simp [Drf.av]
         have hDl : (renD c old new).parts.length = c.parts.length := List.length_map ..
         have hDx : (renD c old new).pipes.length = c.pipes.length := by unfold renD mapD drfC; simp
         have h64 := (Jco.1 h).1.few
         have h256 := (Jco.1 h).2.1
         have hfirst := @Jii (renD c old new).parts
         have hrok := fun hnn => @Jhj c old new h hnn
         have hrsz := fun hnn => @Jix c old new h hnn hn
         have hE7 : ¬ ((renD c old new).parts.map (·.name)).Nodup -> rnmE c old new = 7 := fun hnn => by unfold rnmE; rw [h, if_neg (by simp), if_neg (by omega), if_pos hnn]
         have hEs : ((renD c old new).parts.map (·.name)).Nodup -> rnmE c old new = Jad (Jal (renD c old new)) := fun hnn => by unfold rnmE; rw [h, if_neg (by simp), if_neg (by omega), if_neg (by simpa using hnn)]
         have hCs : rnmE c old new = 0 -> rnmC c old new = Jal (renD c old new) := fun h0 => by unfold rnmC; rw [if_pos h0]
         have hCn : rnmE c old new ≠ 0 -> rnmC c old new = noC := fun h0 => by unfold rnmC; rw [if_neg h0]
         generalize renD c old new = D at *
         refine Jai.go [6, 15] [1, 8] 0 [] (fun _ => []) (fun _ (k : Nat) => [(16, .p (.int .i64 k))]) (fun _ _ => []) (fun k => k <= D.parts.length /\ ∀ (j : Nat) x, j < k -> D.parts[j]? = some x -> idxI D.parts (fun p => decide (p.name = x.name)) = j) (fun k => D.parts.length - k) 0 ⟨by omega, fun j x hj => absurd hj (by omega)⟩ ?_ ?_
         . simp
           try decide
         rintro k ⟨hk, hp⟩
         simp
         refine Jac (fun h5 => ?_) (fun h5 => ?_)
         . simp at h5
           obtain ⟨x, e⟩ := Jag h5
           have hPl := Jia D x.name (by omega)
           simp [h5, e, Part.enc, -getElem?_pos, List.getElem?_cons_zero, List.getElem?_cons_succ]
           refine Jcb ?_
           simp
           refine ⟨_, hPl, rfl, ?_⟩
           by_cases h6 : idxI D.parts (fun p => decide (p.name = x.name)) = k
           . simp [h6]
             refine ⟨wrap_i64 (by omega) (by omega), k + 1, ⟨by omega, fun j y hj hy => ?_⟩, by omega, ?_⟩
             . by_cases hjk : j = k
               . subst hjk; rw [e] at hy; cases hy; exact h6
               . exact hp j y (by omega) hy
             . simp
               decide
           . have hnn : ¬ (D.parts.map (·.name)).Nodup := fun h9 => h6 (hfirst.1 h9 k x e)
             have hE := hE7 hnn
             have hC := hCn (by rw [hE]; decide)
             simp [h6, Jaa, hE, hC, noC]
         . simp at h5
           have hkn : k = D.parts.length := by omega
           have hnn : (D.parts.map (·.name)).Nodup := hfirst.2 fun j x e => hp j x (by have := (gsI.1 e).1; omega) e
           have hSo := Jh9 D (by omega) (by omega) (hrsz hnn).2 (fun h9 => by rw [h9] at hDl; simp at hDl; omega)
           have hCk := Jf5 (Jal D) (hrsz hnn).1
           have hE := hEs hnn
           generalize Jal D = SR' at *
           simp
           refine Jeu ?_
           simp
           refine ⟨_, hSo, ?_⟩
           simp
           refine Jab hCk ?_
           by_cases hcs : Jad SR' = 0
           . have hC := hCs (hE.trans hcs)
             simp [hcs, Jaa, hE, hC]
           . have hC := hCn (by rw [hE]; exact hcs)
             simp [hcs, Jaa, hE, hC, noC]
       . have hren := fun s => r4 s s0 s1
         simp [s0, s1]
         have hD : mapD (Jbb [old] [new]) (drfC c) = renD c old new := by unfold renD; rw [show Jbb [old] [new] = Jan c old new from funext hren]
         have hNm := Jib c [old] [new] h rfl (by simp)
         rw [hD] at hNm
         refine Jeu ?_
         simp
         refine ⟨_, hNm, ?_⟩
         simp [Drf.av]
         have hDl : (renD c old new).parts.length = c.parts.length := List.length_map ..
         have hDx : (renD c old new).pipes.length = c.pipes.length := by unfold renD mapD drfC; simp
         have h64 := (Jco.1 h).1.few
         have h256 := (Jco.1 h).2.1
         have hfirst := @Jii (renD c old new).parts
         have hrok := fun hnn => @Jhj c old new h hnn
         have hrsz := fun hnn => @Jix c old new h hnn hn
         have hE7 : ¬ ((renD c old new).parts.map (·.name)).Nodup -> rnmE c old new = 7 := fun hnn => by unfold rnmE; rw [h, if_neg (by simp), if_neg (by omega), if_pos hnn]
         have hEs : ((renD c old new).parts.map (·.name)).Nodup -> rnmE c old new = Jad (Jal (renD c old new)) := fun hnn => by unfold rnmE; rw [h, if_neg (by simp), if_neg (by omega), if_neg (by simpa using hnn)]
         have hCs : rnmE c old new = 0 -> rnmC c old new = Jal (renD c old new) := fun h0 => by unfold rnmC; rw [if_pos h0]
         have hCn : rnmE c old new ≠ 0 -> rnmC c old new = noC := fun h0 => by unfold rnmC; rw [if_neg h0]
         generalize renD c old new = D at *
         refine Jai.go [6, 15] [1, 4] 0 [] (fun _ => []) (fun _ (k : Nat) => [(16, .p (.int .i64 k))]) (fun _ _ => []) (fun k => k <= D.parts.length /\ ∀ (j : Nat) x, j < k -> D.parts[j]? = some x -> idxI D.parts (fun p => decide (p.name = x.name)) = j) (fun k => D.parts.length - k) 0 ⟨by omega, fun j x hj => absurd hj (by omega)⟩ ?_ ?_
         . simp
           try decide
         rintro k ⟨hk, hp⟩
         simp
         refine Jac (fun h5 => ?_) (fun h5 => ?_)
         . simp at h5
           obtain ⟨x, e⟩ := Jag h5
           have hPl := Jia D x.name (by omega)
           simp [h5, e, Part.enc, -getElem?_pos, List.getElem?_cons_zero, List.getElem?_cons_succ]
           refine Jcb ?_
           simp
           refine ⟨_, hPl, rfl, ?_⟩
           by_cases h6 : idxI D.parts (fun p => decide (p.name = x.name)) = k
           . simp [h6]
             refine ⟨wrap_i64 (by omega) (by omega), k + 1, ⟨by omega, fun j y hj hy => ?_⟩, by omega, ?_⟩
             . by_cases hjk : j = k
               . subst hjk; rw [e] at hy; cases hy; exact h6
               . exact hp j y (by omega) hy
             . simp
               decide
           . have hnn : ¬ (D.parts.map (·.name)).Nodup := fun h9 => h6 (hfirst.1 h9 k x e)
             have hE := hE7 hnn
             have hC := hCn (by rw [hE]; decide)
             simp [h6, Jaa, hE, hC, noC]
         . simp at h5
           have hkn : k = D.parts.length := by omega
           have hnn : (D.parts.map (·.name)).Nodup := hfirst.2 fun j x e => hp j x (by have := (gsI.1 e).1; omega) e
           have hSo := Jh9 D (by omega) (by omega) (hrsz hnn).2 (fun h9 => by rw [h9] at hDl; simp at hDl; omega)
           have hCk := Jf5 (Jal D) (hrsz hnn).1
           have hE := hEs hnn
           generalize Jal D = SR' at *
           simp
           refine Jeu ?_
           simp
           refine ⟨_, hSo, ?_⟩
           simp
           refine Jab hCk ?_
           by_cases hcs : Jad SR' = 0
           . have hC := hCs (hE.trans hcs)
             simp [hcs, Jaa, hE, hC]
           . have hC := hCn (by rw [hE]; exact hcs)
             simp [hcs, Jaa, hE, hC, noC]
   . simp [hk]
     have hren := fun s => (Jiz (c := c) (old := old) (new := new) (s := s)).2.2.2 fun h9 => hk (hka.symm.trans h9.1)
     have hD : mapD (Jbb [old] [new]) (drfC c) = renD c old new := by unfold renD; rw [show Jbb [old] [new] = Jan c old new from funext hren]
     have hNm := Jib c [old] [new] h rfl (by simp)
     rw [hD] at hNm
     refine Jeu ?_
     simp
     refine ⟨_, hNm, ?_⟩
     simp [Drf.av]
     have hDl : (renD c old new).parts.length = c.parts.length := List.length_map ..
     have hDx : (renD c old new).pipes.length = c.pipes.length := by unfold renD mapD drfC; simp
     have h64 := (Jco.1 h).1.few
     have h256 := (Jco.1 h).2.1
     have hfirst := @Jii (renD c old new).parts
     have hrok := fun hnn => @Jhj c old new h hnn
     have hrsz := fun hnn => @Jix c old new h hnn hn
     have hE7 : ¬ ((renD c old new).parts.map (·.name)).Nodup -> rnmE c old new = 7 := fun hnn => by unfold rnmE; rw [h, if_neg (by simp), if_neg (by omega), if_pos hnn]
     have hEs : ((renD c old new).parts.map (·.name)).Nodup -> rnmE c old new = Jad (Jal (renD c old new)) := fun hnn => by unfold rnmE; rw [h, if_neg (by simp), if_neg (by omega), if_neg (by simpa using hnn)]
     have hCs : rnmE c old new = 0 -> rnmC c old new = Jal (renD c old new) := fun h0 => by unfold rnmC; rw [if_pos h0]
     have hCn : rnmE c old new ≠ 0 -> rnmC c old new = noC := fun h0 => by unfold rnmC; rw [if_neg h0]
     generalize renD c old new = D at *
     refine Jai.go [6, 15] [1, 4] 0 [] (fun _ => []) (fun _ (k : Nat) => [(16, .p (.int .i64 k))]) (fun _ _ => []) (fun k => k <= D.parts.length /\ ∀ (j : Nat) x, j < k -> D.parts[j]? = some x -> idxI D.parts (fun p => decide (p.name = x.name)) = j) (fun k => D.parts.length - k) 0 ⟨by omega, fun j x hj => absurd hj (by omega)⟩ ?_ ?_
     . simp
       try decide
     rintro k ⟨hk, hp⟩
     simp
     refine Jac (fun h5 => ?_) (fun h5 => ?_)
     . simp at h5
       obtain ⟨x, e⟩ := Jag h5
       have hPl := Jia D x.name (by omega)
       simp [h5, e, Part.enc, -getElem?_pos, List.getElem?_cons_zero, List.getElem?_cons_succ]
       refine Jcb ?_
       simp
       refine ⟨_, hPl, rfl, ?_⟩
       by_cases h6 : idxI D.parts (fun p => decide (p.name = x.name)) = k
       . simp [h6]
         refine ⟨wrap_i64 (by omega) (by omega), k + 1, ⟨by omega, fun j y hj hy => ?_⟩, by omega, ?_⟩
         . by_cases hjk : j = k
           . subst hjk; rw [e] at hy; cases hy; exact h6
           . exact hp j y (by omega) hy
         . simp
           decide
       . have hnn : ¬ (D.parts.map (·.name)).Nodup := fun h9 => h6 (hfirst.1 h9 k x e)
         have hE := hE7 hnn
         have hC := hCn (by rw [hE]; decide)
         simp [h6, Jaa, hE, hC, noC]
     . simp at h5
       have hkn : k = D.parts.length := by omega
       have hnn : (D.parts.map (·.name)).Nodup := hfirst.2 fun j x e => hp j x (by have := (gsI.1 e).1; omega) e
       have hSo := Jh9 D (by omega) (by omega) (hrsz hnn).2 (fun h9 => by rw [h9] at hDl; simp at hDl; omega)
       have hCk := Jf5 (Jal D) (hrsz hnn).1
       have hE := hEs hnn
       generalize Jal D = SR' at *
       simp
       refine Jeu ?_
       simp
       refine ⟨_, hSo, ?_⟩
       simp
       refine Jab hCk ?_
       by_cases hcs : Jad SR' = 0
       . have hC := hCs (hE.trans hcs)
         simp [hcs, Jaa, hE, hC]
       . have hC := hCn (by rw [hE]; exact hcs)
         simp [hcs, Jaa, hE, hC, noC]
 . have hE : rnmE c old new = Jad c := if_pos h
   have hC : rnmC c old new = noC := by unfold rnmC; rw [if_neg (by rw [hE]; exact h)]
   simp [h, Jaa, hE, hC, noC]
end Go.Am
