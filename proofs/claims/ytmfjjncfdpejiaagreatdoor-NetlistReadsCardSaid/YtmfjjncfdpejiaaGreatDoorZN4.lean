/- Lemmas and contracts for the proof of a statement of this seat. -/
import Derived.Test.YtmfjjncfdpejiaaGreatDoorZN1
import Derived.Test.YtmfjjncfdpejiaaGreatDoorZC6
import Derived.Test.YtmfjjncfdpejiaaGreatDoorZF1
import Derived.Test.YtmfjjncfdpejiaaGreatDoorZA7
import Derived.Test.YtmfjjncfdpejiaaGreatDoorZCA
set_option linter.unusedVariables false
set_option linter.unusedSimpArgs false
namespace Go.Am
open Go Go.Proofs Go.Pn
theorem Jyr (a b : End) : Pure Tryz.prog GL 155 [a.av, b.av] (.p (.int .i64 (Jce a b))) := by
 refine Pure.of_walk (N := 17) Tryz.func155 rfl rfl rfl (by simp) (by first | (simp; done) | simp [*]) ?_
 simp
 refine Jaj.intro (by kernel_rfl) ?_
 simp
 refine Jab (Jmz a.part b.part) ?_
 simp
 refine Jab (Jmz a.port b.port) ?_
 simp
 refine Jeo ?_
 simp
 refine ⟨_, Jmw [Lib.compareBytes a.part b.part, Lib.compareBytes a.port b.port] (by simp), rfl, ?_⟩
 simp [Jaa, Jce]
 exact .of (by kernel_rfl)
theorem Jj3 (a b : End) : Pure Tryz.prog GL 83 [a.av, b.av] ((ordE a b).av) := by
 refine Pure.of_walk (N := 14) Tryz.func83 rfl rfl rfl (by simp) (by first | (simp; done) | simp [*]) ?_
 simp
 refine Jab (Jyr a b) ?_
 by_cases h : 0 < Jce a b
 . have e : ordE a b = (b, a) := if_pos h
   simp [h, Jaa, e]
 . have e : ordE a b = (a, b) := if_neg h
   simp [h, Jaa, e]
theorem Jg2 (c : Circuit) (p : Port) (h0 : 0 <= p.part) (h1 : p.part.toNat < c.parts.length) : Pure Tryz.prog GL 82 [c.av, p.av] ((Jak c p).av) := by
 refine Pure.of_walk (N := 15) Tryz.func82 rfl rfl rfl (by simp) (by first | (simp; done) | simp [*]) ?_
 obtain ⟨i, s⟩ := p
 simp only at h0 h1
 obtain ⟨k, rfl⟩ := Int.eq_ofNat_of_zero_le h0
 simp only [Int.toNat_natCast] at h1
 obtain ⟨q, e⟩ := Jah h1
 simp
 refine Jaj.intro (by kernel_rfl) ?_
 simp [h1, e, -getElem?_pos, List.getElem?_cons_zero, List.getElem?_cons_succ]
 have hn : nameAt c (k : Int) = q.name := by unfold nameAt; rw [Int.toNat_natCast, e]
 simp [Jaa, Jak, hn]
 exact .of (by kernel_rfl)
end Go.Am
namespace Go.Am
open Go Go.Proofs Go.Pn
theorem J0p (a b c d a' b' c' d' : Txt) : eqA Tryz.prog 8 139 (.agg [.p (.str a), .p (.str b), .p (.str c), .p (.str d)]) (.agg [.p (.str a'), .p (.str b'), .p (.str c'), .p (.str d')]) = some (decide ((a = a' /\ b = b') /\ (c = c' /\ d = d'))) := by
 have : eqA Tryz.prog 8 139 (.agg [.p (.str a), .p (.str b), .p (.str c), .p (.str d)]) (.agg [.p (.str a'), .p (.str b'), .p (.str c'), .p (.str d')]) = some ((decide (a = a') && (decide (b = b') && true)) && ((decide (c = c') && (decide (d = d') && true)) && true)) := by kernel_rfl
 rw [this]; simp [Bool.decide_and]
theorem J2h : KeyOk Tryz.prog 139 IsS4 := J2i (by kernel_rfl) (fun w em a b c d => by kernel_rfl) J0p
theorem Jhc : KeyOk Tryz.prog 9 IsS := keyS (by kernel_rfl) (fun w em n => by kernel_rfl)
def Jap (ps : List Part) : List (AV × AV) := ps.map fun p => (.p (.str p.name), p.av)
def Jau (xs : List EndP) : List (AV × AV) := xs.map fun x => (x.av, .p (.bool true))
def putN : List Part -> Part -> List Part
 | [], p => [p]
 | q :: ps, p => if q.name = p.name then p :: ps else q :: putN ps p
def insX (xs : List EndP) (x : EndP) : List EndP := if x ∈ xs then xs else xs ++ [x]
theorem Jm8 {x y : EndP} (h : x.av = y.av) : x = y := by
 obtain ⟨⟨a, b⟩, ⟨c, d⟩⟩ := x; obtain ⟨⟨e, f⟩, ⟨g, h⟩⟩ := y
 simp at h
 obtain ⟨rfl, rfl, rfl, rfl⟩ := h
 rfl
theorem Jxk {ps : List Part} {s : Txt} : Jao (Jap ps) (.p (.str s)) = (ps.find? fun p => decide (p.name = s)).map Part.av := by
 induction ps with
 | nil => rfl
 | cons p ps ih =>
   show Jao ((.p (.str p.name), p.av) :: Jap ps) _ = _
   rw [Jd4, ih]
   by_cases h : p.name = s
   . subst h; simp
   . rw [if_neg (by simpa using h), List.find?_cons_of_neg (by simpa using h)]
theorem Ji9 {ps : List Part} {p : Part} : setA (Jap ps) (.p (.str p.name)) p.av = Jap (putN ps p) := by
 induction ps with
 | nil => rfl
 | cons q ps ih =>
   show setA ((.p (.str q.name), q.av) :: Jap ps) _ _ = _
   rw [setA, putN]
   by_cases h : q.name = p.name
   . rw [if_pos (by rw [h]), if_pos h]; rfl
   . rw [if_neg (by simpa using h), if_neg h, ih]; rfl
theorem J6b {xs : List EndP} {x : EndP} : setA (Jau xs) x.av (.p (.bool true)) = Jau (insX xs x) := by
 induction xs with
 | nil => rfl
 | cons y xs ih =>
   show setA ((y.av, .p (.bool true)) :: Jau xs) _ _ = _
   rw [setA]
   by_cases h : y = x
   . subst h
     rw [if_pos rfl]
     unfold insX
     rw [if_pos (by simp)]; rfl
   . rw [if_neg (fun e => h (Jm8 e)), ih]
     unfold insX
     by_cases h2 : x ∈ xs
     . rw [if_pos h2, if_pos (by simp [h2])]; rfl
     . rw [if_neg h2, if_neg (by simp [h2]; exact fun e => h e.symm)]; rfl
theorem Jxl {xs : List EndP} {x : EndP} : Jao (Jau xs) x.av = if x ∈ xs then some (.p (.bool true)) else none := by
 induction xs with
 | nil => rfl
 | cons y xs ih =>
   show Jao ((y.av, .p (.bool true)) :: Jau xs) _ = _
   rw [Jd4, ih]
   by_cases h : y = x
   . subst h; simp
   . rw [if_neg (fun e => h (Jm8 e))]
     by_cases h2 : x ∈ xs
     . simp [h2]
     . rw [if_neg h2, if_neg (by simp [h2]; exact fun e => h e.symm)]
@[simp] theorem J9c {ps : List Part} {s : Txt} : Jao (Jap ps) (.p (.str s)) = (ps.find? fun p => decide (p.name = s)).map Part.av := Jxk
@[simp] theorem J9n {ps : List Part} {p : Part} : setA (Jap ps) (.p (.str p.name)) (.agg [.p (.int .i64 p.kind), .p (.str p.name), .p (.int .i64 p.delay)]) = Jap (putN ps p) := Ji9
@[simp] theorem J9o {xs : List EndP} {x : EndP} : setA (Jau xs) (.agg [.p (.str x.1.part), .p (.str x.1.port), .p (.str x.2.part), .p (.str x.2.port)]) (.p (.bool true)) = Jau (insX xs x) := J6b
@[simp] theorem J9d {xs : List EndP} {x : EndP} : Jao (Jau xs) (.agg [.p (.str x.1.part), .p (.str x.1.port), .p (.str x.2.part), .p (.str x.2.port)]) = if x ∈ xs then some (.p (.bool true)) else none := Jxl
@[simp] theorem J87 {ps : List Part} {s : Txt} : Jc2 Tryz.prog 9 (Jap ps) (.p (.str s)) = True :=
 eq_true ⟨_, Jhc, ⟨_, rfl⟩, fun e he => by obtain ⟨p, _, rfl⟩ := List.mem_map.1 he; exact ⟨_, rfl⟩⟩
@[simp] theorem J88 {xs : List EndP} {a b c d : Txt} : Jc2 Tryz.prog 139 (Jau xs) (.agg [.p (.str a), .p (.str b), .p (.str c), .p (.str d)]) = True :=
 eq_true ⟨_, J2h, ⟨_, _, _, _, rfl⟩, fun e he => by obtain ⟨p, _, rfl⟩ := List.mem_map.1 he; exact ⟨_, _, _, _, rfl⟩⟩
@[simp] theorem J97 {ps : List Part} {ρ : List Nat} : renE ρ (Jap ps) = some (Jap ps) :=
 Ji5 fun e he => by obtain ⟨p, _, rfl⟩ := List.mem_map.1 he; exact ⟨rfl, rfl⟩
@[simp] theorem J98 {xs : List EndP} {ρ : List Nat} : renE ρ (Jau xs) = some (Jau xs) :=
 Ji5 fun e he => by obtain ⟨p, _, rfl⟩ := List.mem_map.1 he; exact ⟨rfl, rfl⟩
@[simp] theorem J9a {ps : List Part} : (Jap ps).length = ps.length := List.length_map ..
@[simp] theorem J9b {xs : List EndP} : (Jau xs).length = xs.length := List.length_map ..
theorem Jip (s : Store) (nx : Nat) : Gives Tryz.prog GL 65 [] s nx (.ptr (nx + 2) 2 0 0) [] [(nx, some (.map [])), (nx + 1, some (.map [])), (nx + 2, some (.cells 2 [[.map nx, .map (nx + 1)]]))] (nx + 3) := by
 refine Gives.mk_walkK (N := 5) (args := []) [] [] [] [(0, some (.map [])), (1, some (.map [])), (2, some (.cells 2 [[.map 0, .map 1]]))] 0 3 (.ptr 2 2 0 0) (nms [1, 2, 4]) (up1 := [(nx, some (.map [])), (nx + 1, some (.map [])), (nx + 2, some (.cells 2 [[.map nx, .map (nx + 1)]]))]) Tryz.func65 rfl rfl rfl (by simp) rfl (by simp) (by simp) (by simp) rfl (by simp) rfl ?_
 simp
def Jgi (c : Circuit) : List EndP := c.pipes.map fun x => ordX (Jak c x.fr, Jak c x.to)
def addN (ps l : List Part) : List Part := l.foldl putN ps
def addX (xs l : List EndP) : List EndP := l.foldl insX xs
theorem Jw7 {ps l : List Part} {k : Nat} {p : Part} (e : l[k]? = some p) : addN ps (l.take (k + 1)) = putN (addN ps (l.take k)) p := by
 unfold addN; rw [take_snoc e, List.foldl_append]; rfl
theorem Jw8 {xs l : List EndP} {k : Nat} {p : EndP} (e : l[k]? = some p) : addX xs (l.take (k + 1)) = insX (addX xs (l.take k)) p := by
 unfold addX; rw [take_snoc e, List.foldl_append]; rfl
set_option maxRecDepth 20000 in
theorem J1o (c : Circuit) (ps : List Part) (xs : List EndP) (h : Jad c = 0) (s : Store) (nx d m q : Nat) (hnd : [d, m, q].Nodup) (hlt : ∀ b ∈ [d, m, q], b < nx)
   (g0 : get s d = some (.cells 2 [[.map m, .map q]])) (g1 : get s m = some (.map (Jap ps))) (g2 : get s q = some (.map (Jau xs))) :
   Gives Tryz.prog GL 94 [.ptr d 2 0 0, c.av] s nx (.tup []) [d, m, q] [(m, some (.map (Jap (addN ps c.parts)))), (q, some (.map (Jau (addX xs (Jgi c)))))] nx := by
 have hpl := (Jd5 h).2.1
 have hxl := (Jeh.1 h).2.1
 refine Gives.mk_walkK (N := 44) (args := [.ptr 0 2 0 0, c.av]) [d, m, q] [] [(0, some (.cells 2 [[.map 1, .map 2]])), (1, some (.map (Jap ps))), (2, some (.map (Jau xs)))]
   [(1, some (.map (Jap (addN ps c.parts)))), (2, some (.map (Jau (addX xs (Jgi c)))))] 3 0 (.tup []) (fun _ => []) (up1 := [(m, some (.map (Jap (addN ps c.parts)))), (q, some (.map (Jau (addX xs (Jgi c)))))]) Tryz.func94 rfl rfl rfl (by simp) rfl ?_ (by simp) rfl (by simp) (by simp) rfl ?_
 . refine ⟨?_, rfl, hnd, hlt, rfl⟩
   simp [g0, g1, g2]
 simp
 refine Jam.go [0, 3, 9, 10] [0, 3] 0 [] (fun _ => []) (fun _ (k : Nat) => [(11, .p (.int .i64 k))]) (fun _ k => [(1, some (.map (Jap (addN ps (c.parts.take k))))), (2, some (.map (Jau xs)))]) (fun k => k <= c.parts.length) (fun k => c.parts.length - k) 0 (by omega) ?_ ?_
 . simp [addN]
   decide
 intro k hk
 simp
 refine Jac (fun h3 => ?_) (fun h3 => ?_)
 . simp at h3
   obtain ⟨p, e⟩ := Jah h3
   simp [h3, e, -getElem?_pos, List.getElem?_cons_zero, List.getElem?_cons_succ]
   refine Jaj.intro (by kernel_rfl) ?_
   simp
   refine ⟨.of (by kernel_rfl), wrap_i64 (by omega) (by omega), k + 1, by omega, by omega, ?_⟩
   rw [Jw7 e]
   simp
   decide
 simp at h3
 have hkl : k = c.parts.length := by omega
 subst hkl
 simp
 refine Jam.go [0, 3, 24, 25] [0, 3] 0 [] (fun _ => []) (fun _ (k : Nat) => [(26, .p (.int .i64 k))]) (fun _ k => [(1, some (.map (Jap (addN ps c.parts)))), (2, some (.map (Jau (addX xs ((Jgi c).take k)))))]) (fun k => k <= c.pipes.length) (fun k => c.pipes.length - k) 0 (by omega) ?_ ?_
 . simp [addX]
   decide
 intro k hk
 simp
 refine Jac (fun h3 => ?_) (fun h3 => ?_)
 . simp at h3
   obtain ⟨x, e⟩ := Jah h3
   have hxm := List.mem_of_getElem? e
   obtain ⟨g1, g2, _⟩ := Jdt h hxm
   obtain ⟨y1, f1, z1, _⟩ := Jdq.1 g1
   obtain ⟨y2, f2, z2, _⟩ := Jdq.1 g2
   have l1 := (gsI.1 f1).1
   have l2 := (gsI.1 f2).1
   have ee : (Jgi c)[k]? = some (ordX (Jak c x.fr, Jak c x.to)) := by unfold Jgi; rw [List.getElem?_map, e]; rfl
   simp [h3, e, -getElem?_pos, List.getElem?_cons_zero, List.getElem?_cons_succ]
   refine Jaj.intro (by kernel_rfl) ?_
   simp
   refine Jab (Jg2 c x.fr z1 l1) ?_
   simp
   refine Jab (Jg2 c x.to z2 l2) ?_
   simp
   refine Jab (Jj3 (Jak c x.fr) (Jak c x.to)) ?_
   simp
   refine ⟨.of (by kernel_rfl), wrap_i64 (by omega) (by omega), k + 1, by omega, by omega, ?_⟩
   rw [Jw8 ee]
   simp [ordX]
   decide
 simp at h3
 have hkl : k = c.pipes.length := by omega
 subst hkl
 have hel : (Jgi c).length = c.pipes.length := List.length_map ..
 rw [<- hel]
 simp
end Go.Am
namespace Go.Am
open Go Go.Proofs Go.Pn
theorem J7n (b : UInt8) : ((b.toNat : Int)).toNat.toUInt8 = b := by rw [Int.toNat_natCast]; exact UInt8.ofNat_toNat
theorem Jyj (s : Txt) (b : UInt8) : Pure Tryz.prog GL 252 [.p (.str s), .p (.str [b])] (.p (.int .i64 (Lib.indexByte s b))) := by
 refine Pure.of_walk (N := 143) Tryz.func252 rfl rfl rfl (by simp) (by first | (simp; done) | simp [*]) ?_
 simp
 by_cases h : [b] = s
 . subst h
   simp [Jaa, Lib.indexByte]
 simp [h]
 refine Jab (Jqe s b.toNat) ?_
 simp [Jaa, J7n]
theorem Jnn {s : Txt} {b : UInt8} : Lib.indexByte s b = idxI s fun x => decide (x = b) := by
 induction s with
 | nil => rfl
 | cons x s ih =>
   unfold Lib.indexByte
   rw [ih]
   unfold idxI
   rw [List.findIdx?_cons]
   by_cases h : x = b
   . subst h; simp
   . simp only [beq_iff_eq, h, if_false, decide_false]
     cases s.findIdx? fun x => decide (x = b) with
     | none => simp
     | some i =>
       simp
       try omega
theorem J1w (s : Txt) (b : UInt8) : Lib.indexByte s b = -1 \/ ∃ k : Nat, Lib.indexByte s b = k /\ k < s.length := by
 rw [Jnn]; unfold idxI
 cases e : s.findIdx? fun x => decide (x = b) with
 | none => exact .inl rfl
 | some k => exact .inr ⟨k, rfl, (List.findIdx?_eq_some_iff_findIdx_eq.1 e).1⟩
def cutB (s : Txt) (b : UInt8) : Txt × Txt × Bool := if Lib.indexByte s b < 0 then (s, [], false) else (s.take (Lib.indexByte s b).toNat, s.drop ((Lib.indexByte s b).toNat + 1), true)
theorem Jyg (s : Txt) (b : UInt8) (hl : s.length < 4611686018427387904) : Pure Tryz.prog GL 230 [.p (.str s), .p (.str [b])] (.tup [.p (.str (cutB s b).1), .p (.str (cutB s b).2.1), .p (.bool (cutB s b).2.2)]) := by
 refine Pure.of_walk (N := 23) Tryz.func230 rfl rfl rfl (by simp) (by first | (simp; done) | simp [*]) ?_
 simp
 refine Jab (Jyj s b) ?_
 rcases J1w s b with h | ⟨k, h, hk⟩
 . simp [h, Jaa, cutB]
 . have e1 : (0 : Int) <= k /\ (k : Int) <= s.length := by omega
   have e2 : (0 : Int) <= k + 1 /\ (k : Int) + 1 <= s.length := by omega
   rw [h]
   simp
   refine Jaj.intro (by kernel_rfl) ?_
   have ht : List.take (s.length - (k + 1)) (s.drop (k + 1)) = s.drop (k + 1) := List.take_of_length_le (by simp)
   simp [e1, e2]
   refine ⟨wrap_i64 (by omega) (by omega), .of (by kernel_rfl), ?_⟩
   have hn : ¬ (k : Int) < 0 := by omega
   simp [Jaa, cutB, h, ht, hn]
theorem Jqq (s : Txt) (b : UInt8) (hl : s.length < 4611686018427387904) : Pure Tryz.prog GL 148 [.p (.str s), .p (.str [b])] (.tup [.p (.str (cutB s b).1), .p (.str (cutB s b).2.1), .p (.bool (cutB s b).2.2)]) := by
 refine Pure.of_walk (N := 13) Tryz.func148 rfl rfl rfl (by simp) (by first | (simp; done) | simp [*]) ?_
 simp
 refine Jab (Jyg s b hl) ?_
 simp [Jaa]
theorem Jz8 {s : Txt} : cutB s 46 = if dotI s < 0 then (s, [], false) else (befD s, aftD s, true) := by
 unfold cutB befD aftD dotI; rw [Jnn]
theorem J1y {α : Type} {xs : List α} {q : α -> Bool} : idxI xs q < 0 ↔ ∀ x ∈ xs, q x = false := by
 unfold idxI
 cases e : xs.findIdx? q with
 | none => simpa using List.findIdx?_eq_none_iff.1 e
 | some k =>
   refine ⟨fun h => by simp only at h; omega, fun h => ?_⟩
   obtain ⟨h3, h4, _⟩ := List.findIdx?_eq_some_iff_getElem.1 e
   have h5 := h _ (List.getElem_mem h3)
   rw [h5] at h4
   cases h4
@[simp] theorem Kg4 : Jd3 Tryz.prog 72 = some true := by kernel_rfl
theorem Ju4 {k : Int} {s : Txt} (h : 0 <= k /\ k < 14) : Jgn k s = decide (0 <= Jdm k.toNat s) := by
 have hk : k.toNat < 14 := by omega
 have a := (by decide +kernel : ∀ k, k < 14 -> (∀ l ∈ Jbo k, ∀ t ∈ l, t ∈ Jbr k) /\ ∀ t ∈ Jbr k, ∃ l ∈ Jbo k, t ∈ l) k.toNat hk
 have b := Jof (k := k.toNat) (s := s) hk
 have c : Jdm k.toNat s < 0 ↔ ¬ s ∈ Jbr k.toNat := by
   unfold Jdm
   rw [J1y]
   constructor
   . intro h2 h3
     obtain ⟨l, hl, hs⟩ := a.2 s h3
     simpa [hs] using h2 l hl
   . intro h2 l hl
     rw [decide_eq_false_iff_not]
     exact fun hs => h2 (a.1 l hl s hs)
 unfold Jgn
 rw [decide_eq_decide]
 constructor
 . intro h2
   have : ¬ Jea k.toNat s < 0 := by omega
   have h3 : ¬ Jdm k.toNat s < 0 := fun h4 => this (b.2 (c.1 h4))
   omega
 . intro h2
   have : ¬ Jdm k.toNat s < 0 := by omega
   have h3 : ¬ Jea k.toNat s < 0 := fun h4 => this (c.2 (b.1 h4))
   omega
set_option maxRecDepth 20000 in
theorem Jnm (ps : List Part) (xs : List EndP) (t : Txt) (hk : ∀ p ∈ ps, 0 <= p.kind /\ p.kind < 14) (hl : t.length < 4611686018427387904) (s : Store) (nx d m q : Nat) (hnd : [d, m, q].Nodup) (hlt : ∀ b ∈ [d, m, q], b < nx)
   (g0 : get s d = some (.cells 2 [[.map m, .map q]])) (g1 : get s m = some (.map (Jap ps))) (g2 : get s q = some (.map (Jau xs))) :
   Gives Tryz.prog GL 98 [.ptr d 2 0 0, .p (.str t)] s nx (.tup [(Jby ps t).av, .p (.int .i64 (Jbp ps t))]) [d, m, q] [] nx := by
 refine Gives.mk_walkK (N := 46) (args := [.ptr 0 2 0 0, .p (.str t)]) [d, m, q] [] [(0, some (.cells 2 [[.map 1, .map 2]])), (1, some (.map (Jap ps))), (2, some (.map (Jau xs)))]
   [] 3 0 (.tup [(Jby ps t).av, .p (.int .i64 (Jbp ps t))]) (fun _ => []) (up1 := []) Tryz.func98 rfl rfl rfl (by simp) rfl ?_ (by simp) (by simp) (by simp) (by simp) rfl ?_
 . refine ⟨?_, rfl, hnd, hlt, rfl⟩
   simp [g0, g1, g2]
 simp
 refine Jab (Jqq t 46 hl) ?_
 rw [Jz8]
 by_cases h : dotI t < 0
 . have e1 : Jbp ps t = 4 := by unfold Jbp; rw [if_pos h]
   have e2 : Jby ps t = ⟨[], []⟩ := by unfold Jby; rw [if_neg (by rw [e1]; decide)]
   simp [h, e1, e2]
 simp [h]
 have hk14 : ∀ p ∈ ps, p.kind.toNat < 14 := fun p hp => by have := hk p hp; omega
 cases e : ps.find? fun p => decide (p.name = befD t) with
 | none =>
   have e0 : Je0 ps (befD t) = none := by unfold Je0; rw [e]; rfl
   have e1 : Jbp ps t = 6 := by unfold Jbp; rw [if_neg h, e0]
   have e2 : Jby ps t = ⟨[], []⟩ := by unfold Jby; rw [if_neg (by rw [e1]; decide)]
   simp [hit, e1, e2, zeroV]
 | some p =>
   have hp := List.mem_of_find?_eq_some e
   have hn : p.name = befD t := by simpa using List.find?_some e
   have e0 : Je0 ps (befD t) = some p.kind := by unfold Je0; rw [e]; rfl
   simp [hit]
   refine Jab (Jql p.kind (aftD t) (hk p hp)) ?_
   have hr := Ju4 (s := aftD t) (hk p hp)
   by_cases h2 : Jdm p.kind.toNat (aftD t) < 0
   . have e1 : Jbp ps t = 6 := by unfold Jbp; rw [if_neg h, e0]; simp only; rw [hr, if_neg (by simpa using h2)]
     have e2 : Jby ps t = ⟨[], []⟩ := by unfold Jby; rw [if_neg (by rw [e1]; decide)]
     simp [h2, e1, e2]
   . have e1 : Jbp ps t = 0 := by unfold Jbp; rw [if_neg h, e0]; simp only; rw [hr, if_pos (by simpa using h2)]
     have e2 : Jby ps t = ⟨befD t, aftD t⟩ := by unfold Jby; rw [if_pos e1]
     simp [h2, e1, e2]
end Go.Am
namespace Go.Am
open Go Go.Proofs Go.Pn
def cntK (c : Circuit) (k : Nat) : List Int := (List.range 14).map fun (j : Nat) => (((c.parts.take k).countP fun p => decide (p.kind = (j : Int)) : Nat) : Int)
theorem Jik {c : Circuit} {k : Nat} : (cntK c k).length = 14 := by simp [cntK]
theorem Jka {c : Circuit} {k j : Nat} (hj : j < 14) : (cntK c k)[j]? = some (((c.parts.take k).countP fun p => decide (p.kind = (j : Int)) : Nat) : Int) := by
 simp [cntK, hj]
theorem Jz6 {c : Circuit} {k : Nat} {p : Part} (e : c.parts[k]? = some p) (hp : 0 <= p.kind /\ p.kind < 14) :
   (cntK c k).set p.kind.toNat ((((c.parts.take k).countP fun q => decide (q.kind = ((p.kind.toNat : Nat) : Int)) : Nat) : Int) + 1) = cntK c (k + 1) := by
 refine List.ext_getElem? fun j => ?_
 by_cases hj : j < 14
 . rw [Jka hj, take_snoc e, List.countP_append]
   by_cases h : p.kind.toNat = j
   . subst h
     rw [List.getElem?_set_self (by rw [Jik]; exact hj)]
     have : p.kind = ((p.kind.toNat : Nat) : Int) := by omega
     simp [<- this]
   . rw [List.getElem?_set_ne h, Jka hj]
     have : ¬ p.kind = (j : Int) := by omega
     simp [this]
 . rw [List.getElem?_eq_none (by rw [List.length_set, Jik]; omega), List.getElem?_eq_none (by rw [Jik]; omega)]
theorem Jz7 {c : Circuit} : cntK c 0 = List.replicate 14 0 := by
 refine List.ext_getElem? fun j => ?_
 by_cases hj : j < 14
 . rw [Jka hj, List.getElem?_replicate, if_pos hj]; simp
 . rw [List.getElem?_eq_none (by rw [Jik]; omega), List.getElem?_eq_none (by simp; omega)]
theorem Jz5 {c : Circuit} : cntK c c.parts.length = cntC c := by unfold cntK cntC; rw [List.take_length]
set_option maxRecDepth 20000 in
theorem Jyo (c : Circuit) (hs : Sized c) : Pure Tryz.prog GL 25 [c.av] (.tup [.p (.lst 1 ((cntR c).map Int.enc)), .p (.int .i64 (Jad c))]) := by
 refine Pure.of_walk (N := 30) Tryz.func25 rfl rfl rfl (by simp) (by first | (simp; done) | simp [*]) ?_
 simp
 refine Jab (Jeu c hs) ?_
 by_cases h : Jad c = 0
 . have hR : cntR c = cntC c := if_pos h
   have hpl := (Jd5 h).2.1
   simp [h, hR]
   refine Jam.go [5, 15, 16] [] 0 [] (fun _ => []) (fun _ (k : Nat) => [(17, .p (.int .i64 k))]) (fun _ k => [(1, some (.cells 1 ((cntK c k).map Int.row)))]) (fun k => k <= c.parts.length) (fun k => c.parts.length - k) 0 (by omega) ?_ ?_
   . simp [Jz7, List.replicate]
     try decide
   intro k hk
   have hcl := @Jik c k
   simp
   refine Jac (fun h3 => ?_) (fun h3 => ?_)
   . simp at h3
     obtain ⟨p, e⟩ := Jah h3
     have hp := (Jd5 h).1 p (List.mem_of_getElem? e)
     obtain ⟨j, hj⟩ := Int.eq_ofNat_of_zero_le hp.1
     have hj14 : j < 14 := by omega
     have hat := Jka (c := c) (k := k) hj14
     have hsn := Jz6 e hp
     rw [hj, Int.toNat_natCast] at hsn
     have hcn : ((c.parts.take k).countP fun q => decide (q.kind = (j : Int))) <= k := by
       have := List.countP_le_length (p := fun q : Part => decide (q.kind = (j : Int))) (l := c.parts.take k)
       rw [List.length_take] at this
       omega
     simp [h3, e, hj, hj14, hcl, hat, -getElem?_pos, List.getElem?_cons_zero, List.getElem?_cons_succ]
     refine ⟨by omega, wrap_i64 (by omega) (by omega), by omega, wrap_i64 (by omega) (by omega), k + 1, by omega, by omega, by omega, ?_⟩
     rw [<- hsn, List.map_set]
     simp
   simp at h3
   have hkl : k = c.parts.length := by omega
   subst hkl
   rw [Jz5] at *
   have ht : List.take 14 ((cntC c).map Int.row) = (cntC c).map Int.row := List.take_of_length_le (by simp [hcl])
   simp [Jaa, hR, hcl, h, ht]
   try rfl
 . have hR : cntR c = [] := if_neg h
   simp [h, hR, Jaa]
set_option maxRecDepth 20000 in
theorem J8o (c : Circuit) (p : Port) (hs : Sized c) : Pure Tryz.prog GL 30 [c.av, p.av] (.tup [.p (.str (ptT c p)), .p (.int .i64 (ptE c p))]) := by
 refine Pure.of_walk (N := 51) Tryz.func30 rfl rfl rfl (by simp) (by first | (simp; done) | simp [*]) ?_
 simp
 refine Jab (Jeu c hs) ?_
 by_cases h : Jad c = 0
 . have hpE : ptE c p = Jbq c p := if_neg (by simpa using h)
   have h2 := Jd5 h
   simp [h]
   by_cases hr : p.part < 0 \/ (c.parts.length : Int) <= p.part
   . have hre : Jbk c p = 2 := if_pos hr
     have hg : Jbq c p = 2 := by simp [Jbq, hre]
     have hT : ptT c p = [] := by unfold ptT; rw [if_neg (by rw [hpE, hg]; decide)]
     rw [hpE, hg, hT]
     by_cases h1 : p.part < 0
     . simp [h1, Jaa]
     . have h3 : (c.parts.length : Int) <= p.part := by omega
       simp [h1, h3, Jaa]
   . have hre : Jbk c p = 0 := if_neg hr
     have h1 : ¬ p.part < 0 := by omega
     have h3 : ¬ (c.parts.length : Int) <= p.part := by omega
     have hpo : Jpx c p := ⟨by omega, by omega⟩
     obtain ⟨i, q, e1, e2, e3, e4⟩ := J4t hpo
     have hq := h2.1 q (List.mem_of_getElem? e3)
     have e5 : p.part.toNat = i := by omega
     have hpl := Jof (k := q.kind.toNat) (s := p.name) (by omega)
     have hrp := Ju4 (s := p.name) hq
     have hg : Jbq c p = if Jdm q.kind.toNat p.name < 0 then 6 else 0 := by
       rw [Jbq, hre, if_neg (by simp), Jbx, e5, e3]
       simp only
       unfold Jgn at hrp
       rw [decide_eq_decide] at hrp
       by_cases hm : p.name ∈ Jbg q
       . have : ¬ Jea q.kind.toNat p.name < 0 := fun hh => (hpl.1 hh) hm
         rw [if_pos hm, if_neg (by have := hrp.1 (by omega); omega)]
       . have : Jea q.kind.toNat p.name < 0 := hpl.2 hm
         rw [if_neg hm, if_pos (by by_cases h6 : Jdm q.kind.toNat p.name < 0; exact h6; exact absurd (hrp.2 (by omega)) (by omega))]
     have hnm : nameAt c p.part = q.name := by unfold nameAt; rw [e5, e3]
     have hro := Jql q.kind p.name hq
     obtain ⟨pi, pn⟩ := p
     simp only at *
     subst e1
     simp [h1, h3]
     refine Jaj.intro (by kernel_rfl) ?_
     simp [h1, h3, e2, e3, -getElem?_pos, List.getElem?_cons_zero, List.getElem?_cons_succ]
     refine Jab hro ?_
     simp
     refine ⟨.of (by kernel_rfl), ?_⟩
     refine Jac (fun h6 => ?_) (fun h6 => ?_)
     . simp at h6
       have hg2 : Jbq c ⟨(i : Int), pn⟩ = 6 := by rw [hg, if_pos h6]
       have hT : ptT c ⟨(i : Int), pn⟩ = [] := by unfold ptT; rw [if_neg (by rw [hpE, hg2]; decide)]
       simp [Jaa, hpE, hg2, hT]
     . simp at h6
       have h7 : ¬ Jdm q.kind.toNat pn < 0 := by omega
       have hg2 : Jbq c ⟨(i : Int), pn⟩ = 0 := by rw [hg, if_neg h7]
       have hT : ptT c ⟨(i : Int), pn⟩ = endX (Jak c ⟨(i : Int), pn⟩) := if_pos (by rw [hpE, hg2])
       simp
       refine Jaj.intro (by kernel_rfl) ?_
       simp [h1, h3, e2, e3, -getElem?_pos, List.getElem?_cons_zero, List.getElem?_cons_succ]
       simp [Jaa, hpE, hg2, hT, endX, Jak, hnm]
       have hm : pn ∈ Jbg q := by
         unfold Jgn at hrp
         rw [decide_eq_decide] at hrp
         have := hrp.2 h6
         by_cases h8 : pn ∈ Jbr q.kind.toNat
         . exact h8
         . have := hpl.2 h8; omega
       have h8 := (Ji1 hq hm).2.2
       have h9 := hs.names q (List.mem_of_getElem? e3)
       exact ⟨by omega, by omega, .of (by kernel_rfl)⟩
 . have hE : ptE c p = Jad c := if_pos h
   have hT : ptT c p = [] := by unfold ptT; rw [if_neg (by rw [hE]; exact h)]
   simp [h, hE, hT, Jaa]
theorem Jyq (p : Part) (s t : Txt) : Pure Tryz.prog GL 100 [p.av, .iptr 2 [[.str s, .str t]] 0 0] (.p (.bool (decide (p.name = s)))) := by
 refine Pure.of_walk (N := 9) Tryz.func100 rfl rfl rfl (by simp) (by first | (simp; done) | simp [*]) ?_
 simp [Jaa]
theorem Jun {ps : List Part} {p : Part} (h : p.name ∉ ps.map (·.name)) : putN ps p = ps ++ [p] := by
 induction ps with
 | nil => rfl
 | cons q ps ih =>
   rw [List.map_cons, List.mem_cons, not_or] at h
   rw [putN, if_neg (fun e => h.1 e.symm), ih h.2]; rfl
theorem Jmn {l : List Part} : ∀ {ps : List Part}, ((ps ++ l).map (·.name)).Nodup -> addN ps l = ps ++ l := by
 induction l with
 | nil => intro ps _; simp [addN]
 | cons p l ih =>
   intro ps h
   have hp : p.name ∉ ps.map (·.name) := by
     rw [List.map_append, List.nodup_append] at h
     intro hm
     exact h.2.2 _ hm p.name (by simp) rfl
   show addN (putN ps p) l = _
   rw [Jun hp, ih (by simpa using h)]
   simp
theorem Jw6 {c : Circuit} (h : Jad c = 0) : addN [] c.parts = c.parts := Jmn (by simpa using Je1 h)
set_option maxRecDepth 20000 in
theorem J8p (c : Circuit) (t : Txt) (hs : Sized c) (hl : t.length < 4611686018427387904) : Pure Tryz.prog GL 32 [c.av, .p (.str t)] (.tup [(rpP c t).av, .p (.int .i64 (rpE c t))]) := by
 refine Pure.of_walk (N := 39) Tryz.func32 rfl rfl rfl (by simp) (by first | (simp; done) | simp [*]) ?_
 simp
 refine Jab (Jeu c hs) ?_
 by_cases h : Jad c = 0
 . have h2 := Jd5 h
   have hE : rpE c t = Jbp c.parts t := if_neg (by simpa using h)
   simp [h]
   refine Ja7 (Jip _ _) ?_
   simp
   refine Ja7 (J1o c [] [] h _ _ _ _ _ (by simp) (by simp) rfl rfl rfl) ?_
   simp
   rw [Jw6 h]
   refine Ja7 (Jnm c.parts _ t h2.1 hl _ _ _ _ _ (by simp) (by simp) rfl rfl rfl) ?_
   simp
   by_cases h3 : Jbp c.parts t = 0
   . have hP : rpP c t = ⟨Jc8 c (befD t), aftD t⟩ := if_pos (hE.trans h3)
     have hR : Jby c.parts t = ⟨befD t, aftD t⟩ := if_pos h3
     simp [h3, hR]
     refine Jeo ?_
     simp
     refine ⟨_, Jp9 c.parts (fun p => decide (p.name = befD t)) 100 [.iptr 2 [[.str (befD t), .str (aftD t)]] 0 0] rfl hs.parts (fun p _ => Jyq p (befD t) (aftD t)), rfl, ?_⟩
     simp [Jaa, hE, hP, h3, Jc8]
   . have hP : rpP c t = ⟨0, []⟩ := by unfold rpP; rw [if_neg (by rw [hE]; exact h3)]
     simp [h3, Jaa, hE, hP]
 . have hE : rpE c t = Jad c := if_pos h
   have hP : rpP c t = ⟨0, []⟩ := by unfold rpP; rw [if_neg (by rw [hE]; exact h)]
   simp [h, hE, hP, Jaa]
end Go.Am
