/- Lemmas and contracts for the proof of a statement of this seat. -/
import Derived.Test.YtmfjjncfdpejiaaGreatDoorZN1
import Derived.Test.YtmfjjncfdpejiaaGreatDoorZC6
import Derived.Test.YtmfjjncfdpejiaaGreatDoorZF1
import Derived.Test.YtmfjjncfdpejiaaGreatDoorZA7
import Derived.Test.YtmfjjncfdpejiaaGreatDoorZCA
set_option linter.unusedVariables false
set_option linter.unusedSimpArgs false
namespace Go.Am
open Go Go.Proofs Go.Pn
theorem Jx4 (a b : End) : Pure Tryz.prog GL 155 [a.av, b.av] (.p (.int .i64 (Jb4 a b))) := by
 refine Pure.of_walk (N := 17) Tryz.func155 rfl rfl rfl (by simp) (by first | (simp; done) | simp [*]) ?_
 simp
 refine Jai.intro (by kernel_rfl) ?_
 simp
 refine Jab (Jmt a.part b.part) ?_
 simp
 refine Jab (Jmt a.port b.port) ?_
 simp
 refine Jcw ?_
 simp
 refine ⟨_, Jmp [Lib.compareBytes a.part b.part, Lib.compareBytes a.port b.port] (by simp), rfl, ?_⟩
 simp [Jaa, Jb4]
 exact .of (by kernel_rfl)
theorem Jjx (a b : End) : Pure Tryz.prog GL 83 [a.av, b.av] ((ordE a b).av) := by
 refine Pure.of_walk (N := 14) Tryz.func83 rfl rfl rfl (by simp) (by first | (simp; done) | simp [*]) ?_
 simp
 refine Jab (Jx4 a b) ?_
 by_cases h : 0 < Jb4 a b
 . have e : ordE a b = (b, a) := if_pos h
   simp [h, Jaa, e]
 . have e : ordE a b = (a, b) := if_neg h
   simp [h, Jaa, e]
theorem Jgy (c : Circuit) (p : Port) (h0 : 0 <= p.part) (h1 : p.part.toNat < c.parts.length) : Pure Tryz.prog GL 82 [c.av, p.av] ((Jax c p).av) := by
 refine Pure.of_walk (N := 15) Tryz.func82 rfl rfl rfl (by simp) (by first | (simp; done) | simp [*]) ?_
 obtain ⟨i, s⟩ := p
 simp only at h0 h1
 obtain ⟨k, rfl⟩ := Int.eq_ofNat_of_zero_le h0
 simp only [Int.toNat_natCast] at h1
 obtain ⟨q, e⟩ := Jag h1
 simp
 refine Jai.intro (by kernel_rfl) ?_
 simp [h1, e, -getElem?_pos, List.getElem?_cons_zero, List.getElem?_cons_succ]
 have hn : nameAt c (k : Int) = q.name := by unfold nameAt; rw [Int.toNat_natCast, e]
 simp [Jaa, Jax, hn]
 exact .of (by kernel_rfl)
end Go.Am
namespace Go.Am
open Go Go.Proofs Go.Pn
theorem Jzu (a b c d a' b' c' d' : Txt) : eqA Tryz.prog 8 139 (.agg [.p (.str a), .p (.str b), .p (.str c), .p (.str d)]) (.agg [.p (.str a'), .p (.str b'), .p (.str c'), .p (.str d')]) = some (decide ((a = a' /\ b = b') /\ (c = c' /\ d = d'))) := by
 have : eqA Tryz.prog 8 139 (.agg [.p (.str a), .p (.str b), .p (.str c), .p (.str d)]) (.agg [.p (.str a'), .p (.str b'), .p (.str c'), .p (.str d')]) = some ((decide (a = a') && (decide (b = b') && true)) && ((decide (c = c') && (decide (d = d') && true)) && true)) := by kernel_rfl
 rw [this]; simp [Bool.decide_and]
theorem J1a : KeyOk Tryz.prog 139 IsS4 := J1b (by kernel_rfl) (fun w em a b c d => by kernel_rfl) Jzu
theorem Jg7 : KeyOk Tryz.prog 9 IsS := keyS (by kernel_rfl) (fun w em n => by kernel_rfl)
def Jas (ps : List Part) : List (AV × AV) := ps.map fun p => (.p (.str p.name), p.av)
def Jaw (xs : List EndP) : List (AV × AV) := xs.map fun x => (x.av, .p (.bool true))
def putN : List Part -> Part -> List Part
 | [], p => [p]
 | q :: ps, p => if q.name = p.name then p :: ps else q :: putN ps p
def insX (xs : List EndP) (x : EndP) : List EndP := if x ∈ xs then xs else xs ++ [x]
theorem Jm2 {x y : EndP} (h : x.av = y.av) : x = y := by
 obtain ⟨⟨a, b⟩, ⟨c, d⟩⟩ := x; obtain ⟨⟨e, f⟩, ⟨g, h⟩⟩ := y
 simp at h
 obtain ⟨rfl, rfl, rfl, rfl⟩ := h
 rfl
theorem Jwv {ps : List Part} {s : Txt} : Jaq (Jas ps) (.p (.str s)) = (ps.find? fun p => decide (p.name = s)).map Part.av := by
 induction ps with
 | nil => rfl
 | cons p ps ih =>
   show Jaq ((.p (.str p.name), p.av) :: Jas ps) _ = _
   rw [Jdw, ih]
   by_cases h : p.name = s
   . subst h; simp
   . rw [if_neg (by simpa using h), List.find?_cons_of_neg (by simpa using h)]
theorem Ji7 {ps : List Part} {p : Part} : setA (Jas ps) (.p (.str p.name)) p.av = Jas (putN ps p) := by
 induction ps with
 | nil => rfl
 | cons q ps ih =>
   show setA ((.p (.str q.name), q.av) :: Jas ps) _ _ = _
   rw [setA, putN]
   by_cases h : q.name = p.name
   . rw [if_pos (by rw [h]), if_pos h]; rfl
   . rw [if_neg (by simpa using h), if_neg h, ih]; rfl
theorem J44 {xs : List EndP} {x : EndP} : setA (Jaw xs) x.av (.p (.bool true)) = Jaw (insX xs x) := by
 induction xs with
 | nil => rfl
 | cons y xs ih =>
   show setA ((y.av, .p (.bool true)) :: Jaw xs) _ _ = _
   rw [setA]
   by_cases h : y = x
   . subst h
     rw [if_pos rfl]
     unfold insX
     rw [if_pos (by simp)]; rfl
   . rw [if_neg (fun e => h (Jm2 e)), ih]
     unfold insX
     by_cases h2 : x ∈ xs
     . rw [if_pos h2, if_pos (by simp [h2])]; rfl
     . rw [if_neg h2, if_neg (by simp [h2]; exact fun e => h e.symm)]; rfl
theorem Jww {xs : List EndP} {x : EndP} : Jaq (Jaw xs) x.av = if x ∈ xs then some (.p (.bool true)) else none := by
 induction xs with
 | nil => rfl
 | cons y xs ih =>
   show Jaq ((y.av, .p (.bool true)) :: Jaw xs) _ = _
   rw [Jdw, ih]
   by_cases h : y = x
   . subst h; simp
   . rw [if_neg (fun e => h (Jm2 e))]
     by_cases h2 : x ∈ xs
     . simp [h2]
     . rw [if_neg h2, if_neg (by simp [h2]; exact fun e => h e.symm)]
@[simp] theorem J71 {ps : List Part} {s : Txt} : Jaq (Jas ps) (.p (.str s)) = (ps.find? fun p => decide (p.name = s)).map Part.av := Jwv
@[simp] theorem J79 {ps : List Part} {p : Part} : setA (Jas ps) (.p (.str p.name)) (.agg [.p (.int .i64 p.kind), .p (.str p.name), .p (.int .i64 p.delay)]) = Jas (putN ps p) := Ji7
@[simp] theorem J8a {xs : List EndP} {x : EndP} : setA (Jaw xs) (.agg [.p (.str x.1.part), .p (.str x.1.port), .p (.str x.2.part), .p (.str x.2.port)]) (.p (.bool true)) = Jaw (insX xs x) := J44
@[simp] theorem J72 {xs : List EndP} {x : EndP} : Jaq (Jaw xs) (.agg [.p (.str x.1.part), .p (.str x.1.port), .p (.str x.2.part), .p (.str x.2.port)]) = if x ∈ xs then some (.p (.bool true)) else none := Jww
@[simp] theorem J7w {ps : List Part} {s : Txt} : Jcy Tryz.prog 9 (Jas ps) (.p (.str s)) = True :=
 eq_true ⟨_, Jg7, ⟨_, rfl⟩, fun e he => by obtain ⟨p, _, rfl⟩ := List.mem_map.1 he; exact ⟨_, rfl⟩⟩
@[simp] theorem J7x {xs : List EndP} {a b c d : Txt} : Jcy Tryz.prog 139 (Jaw xs) (.agg [.p (.str a), .p (.str b), .p (.str c), .p (.str d)]) = True :=
 eq_true ⟨_, J1a, ⟨_, _, _, _, rfl⟩, fun e he => by obtain ⟨p, _, rfl⟩ := List.mem_map.1 he; exact ⟨_, _, _, _, rfl⟩⟩
@[simp] theorem J8t {ps : List Part} {ρ : List Nat} : renE ρ (Jas ps) = some (Jas ps) :=
 Ji1 fun e he => by obtain ⟨p, _, rfl⟩ := List.mem_map.1 he; exact ⟨rfl, rfl⟩
@[simp] theorem J8u {xs : List EndP} {ρ : List Nat} : renE ρ (Jaw xs) = some (Jaw xs) :=
 Ji1 fun e he => by obtain ⟨p, _, rfl⟩ := List.mem_map.1 he; exact ⟨rfl, rfl⟩
@[simp] theorem J7z {ps : List Part} : (Jas ps).length = ps.length := List.length_map ..
@[simp] theorem J70 {xs : List EndP} : (Jaw xs).length = xs.length := List.length_map ..
theorem Jij (s : Store) (nx : Nat) : Gives Tryz.prog GL 65 [] s nx (.ptr (nx + 2) 2 0 0) [] [(nx, some (.map [])), (nx + 1, some (.map [])), (nx + 2, some (.cells 2 [[.map nx, .map (nx + 1)]]))] (nx + 3) := by
 refine Gives.mk_walkK (N := 5) (args := []) [] [] [] [(0, some (.map [])), (1, some (.map [])), (2, some (.cells 2 [[.map 0, .map 1]]))] 0 3 (.ptr 2 2 0 0) (nms [1, 2, 4]) (up1 := [(nx, some (.map [])), (nx + 1, some (.map [])), (nx + 2, some (.cells 2 [[.map nx, .map (nx + 1)]]))]) Tryz.func65 rfl rfl rfl (by simp) rfl (by simp) (by simp) (by simp) rfl (by simp) rfl ?_
 simp
def Jcs (c : Circuit) : List EndP := c.pipes.map fun x => ordX (Jax c x.fr, Jax c x.to)
def addN (ps l : List Part) : List Part := l.foldl putN ps
def addX (xs l : List EndP) : List EndP := l.foldl insX xs
theorem Jwl {ps l : List Part} {k : Nat} {p : Part} (e : l[k]? = some p) : addN ps (l.take (k + 1)) = putN (addN ps (l.take k)) p := by
 unfold addN; rw [take_snoc e, List.foldl_append]; rfl
theorem Jwn {xs l : List EndP} {k : Nat} {p : EndP} (e : l[k]? = some p) : addX xs (l.take (k + 1)) = insX (addX xs (l.take k)) p := by
 unfold addX; rw [take_snoc e, List.foldl_append]; rfl
set_option maxRecDepth 20000 in
theorem Jrh (c : Circuit) (ps : List Part) (xs : List EndP) (h : Jad c = 0) (s : Store) (nx d m q : Nat) (hnd : [d, m, q].Nodup) (hlt : ∀ b ∈ [d, m, q], b < nx)
   (g0 : get s d = some (.cells 2 [[.map m, .map q]])) (g1 : get s m = some (.map (Jas ps))) (g2 : get s q = some (.map (Jaw xs))) :
   Gives Tryz.prog GL 94 [.ptr d 2 0 0, c.av] s nx (.tup []) [d, m, q] [(m, some (.map (Jas (addN ps c.parts)))), (q, some (.map (Jaw (addX xs (Jcs c)))))] nx := by
 have hpl := (Jez h).2.1
 have hxl := (Jc0.1 h).2.1
 refine Gives.mk_walkK (N := 44) (args := [.ptr 0 2 0 0, c.av]) [d, m, q] [] [(0, some (.cells 2 [[.map 1, .map 2]])), (1, some (.map (Jas ps))), (2, some (.map (Jaw xs)))]
   [(1, some (.map (Jas (addN ps c.parts)))), (2, some (.map (Jaw (addX xs (Jcs c)))))] 3 0 (.tup []) (fun _ => []) (up1 := [(m, some (.map (Jas (addN ps c.parts)))), (q, some (.map (Jaw (addX xs (Jcs c)))))]) Tryz.func94 rfl rfl rfl (by simp) rfl ?_ (by simp) rfl (by simp) (by simp) rfl ?_
 . refine ⟨?_, rfl, hnd, hlt, rfl⟩
   simp [g0, g1, g2]
 simp
 refine Jah.go [0, 3, 9, 10] [0, 3] 0 [] (fun _ => []) (fun _ (k : Nat) => [(11, .p (.int .i64 k))]) (fun _ k => [(1, some (.map (Jas (addN ps (c.parts.take k))))), (2, some (.map (Jaw xs)))]) (fun k => k <= c.parts.length) (fun k => c.parts.length - k) 0 (by omega) ?_ ?_
 . simp [addN]
   decide
 intro k hk
 simp
 refine Jac (fun h3 => ?_) (fun h3 => ?_)
 . simp at h3
   obtain ⟨p, e⟩ := Jag h3
   simp [h3, e, -getElem?_pos, List.getElem?_cons_zero, List.getElem?_cons_succ]
   refine Jai.intro (by kernel_rfl) ?_
   simp
   refine ⟨.of (by kernel_rfl), wrap_i64 (by omega) (by omega), k + 1, by omega, by omega, ?_⟩
   rw [Jwl e]
   simp
   decide
 simp at h3
 have hkl : k = c.parts.length := by omega
 subst hkl
 simp
 refine Jah.go [0, 3, 24, 25] [0, 3] 0 [] (fun _ => []) (fun _ (k : Nat) => [(26, .p (.int .i64 k))]) (fun _ k => [(1, some (.map (Jas (addN ps c.parts)))), (2, some (.map (Jaw (addX xs ((Jcs c).take k)))))]) (fun k => k <= c.pipes.length) (fun k => c.pipes.length - k) 0 (by omega) ?_ ?_
 . simp [addX]
   decide
 intro k hk
 simp
 refine Jac (fun h3 => ?_) (fun h3 => ?_)
 . simp at h3
   obtain ⟨x, e⟩ := Jag h3
   have hxm := List.mem_of_getElem? e
   obtain ⟨g1, g2, _⟩ := Jem h hxm
   obtain ⟨y1, f1, z1, _⟩ := Jdh.1 g1
   obtain ⟨y2, f2, z2, _⟩ := Jdh.1 g2
   have l1 := (gsI.1 f1).1
   have l2 := (gsI.1 f2).1
   have ee : (Jcs c)[k]? = some (ordX (Jax c x.fr, Jax c x.to)) := by unfold Jcs; rw [List.getElem?_map, e]; rfl
   simp [h3, e, -getElem?_pos, List.getElem?_cons_zero, List.getElem?_cons_succ]
   refine Jai.intro (by kernel_rfl) ?_
   simp
   refine Jab (Jgy c x.fr z1 l1) ?_
   simp
   refine Jab (Jgy c x.to z2 l2) ?_
   simp
   refine Jab (Jjx (Jax c x.fr) (Jax c x.to)) ?_
   simp
   refine ⟨.of (by kernel_rfl), wrap_i64 (by omega) (by omega), k + 1, by omega, by omega, ?_⟩
   rw [Jwn ee]
   simp [ordX]
   decide
 simp at h3
 have hkl : k = c.pipes.length := by omega
 subst hkl
 have hel : (Jcs c).length = c.pipes.length := List.length_map ..
 rw [<- hel]
 simp
end Go.Am
namespace Go.Am
open Go Go.Proofs Go.Pn
theorem J6h (b : UInt8) : ((b.toNat : Int)).toNat.toUInt8 = b := by rw [Int.toNat_natCast]; exact UInt8.ofNat_toNat
theorem Jxx (s : Txt) (b : UInt8) : Pure Tryz.prog GL 252 [.p (.str s), .p (.str [b])] (.p (.int .i64 (Lib.indexByte s b))) := by
 refine Pure.of_walk (N := 143) Tryz.func252 rfl rfl rfl (by simp) (by first | (simp; done) | simp [*]) ?_
 simp
 by_cases h : [b] = s
 . subst h
   simp [Jaa, Lib.indexByte]
 simp [h]
 refine Jab (Jp0 s b.toNat) ?_
 simp [Jaa, J6h]
theorem Jne {s : Txt} {b : UInt8} : Lib.indexByte s b = idxI s fun x => decide (x = b) := by
 induction s with
 | nil => rfl
 | cons x s ih =>
   unfold Lib.indexByte
   rw [ih]
   unfold idxI
   rw [List.findIdx?_cons]
   by_cases h : x = b
   . subst h; simp
   . simp only [beq_iff_eq, h, if_false, decide_false]
     cases s.findIdx? fun x => decide (x = b) with
     | none => simp
     | some i =>
       simp
       try omega
theorem J0t (s : Txt) (b : UInt8) : Lib.indexByte s b = -1 \/ ∃ k : Nat, Lib.indexByte s b = k /\ k < s.length := by
 rw [Jne]; unfold idxI
 cases e : s.findIdx? fun x => decide (x = b) with
 | none => exact .inl rfl
 | some k => exact .inr ⟨k, rfl, (List.findIdx?_eq_some_iff_findIdx_eq.1 e).1⟩
def cutB (s : Txt) (b : UInt8) : Txt × Txt × Bool := if Lib.indexByte s b < 0 then (s, [], false) else (s.take (Lib.indexByte s b).toNat, s.drop ((Lib.indexByte s b).toNat + 1), true)
theorem Jxu (s : Txt) (b : UInt8) (hl : s.length < 4611686018427387904) : Pure Tryz.prog GL 230 [.p (.str s), .p (.str [b])] (.tup [.p (.str (cutB s b).1), .p (.str (cutB s b).2.1), .p (.bool (cutB s b).2.2)]) := by
 refine Pure.of_walk (N := 23) Tryz.func230 rfl rfl rfl (by simp) (by first | (simp; done) | simp [*]) ?_
 simp
 refine Jab (Jxx s b) ?_
 rcases J0t s b with h | ⟨k, h, hk⟩
 . simp [h, Jaa, cutB]
 . have e1 : (0 : Int) <= k /\ (k : Int) <= s.length := by omega
   have e2 : (0 : Int) <= k + 1 /\ (k : Int) + 1 <= s.length := by omega
   rw [h]
   simp
   refine Jai.intro (by kernel_rfl) ?_
   have ht : List.take (s.length - (k + 1)) (s.drop (k + 1)) = s.drop (k + 1) := List.take_of_length_le (by simp)
   simp [e1, e2]
   refine ⟨wrap_i64 (by omega) (by omega), .of (by kernel_rfl), ?_⟩
   have hn : ¬ (k : Int) < 0 := by omega
   simp [Jaa, cutB, h, ht, hn]
theorem Jqe (s : Txt) (b : UInt8) (hl : s.length < 4611686018427387904) : Pure Tryz.prog GL 148 [.p (.str s), .p (.str [b])] (.tup [.p (.str (cutB s b).1), .p (.str (cutB s b).2.1), .p (.bool (cutB s b).2.2)]) := by
 refine Pure.of_walk (N := 13) Tryz.func148 rfl rfl rfl (by simp) (by first | (simp; done) | simp [*]) ?_
 simp
 refine Jab (Jxu s b hl) ?_
 simp [Jaa]
theorem Jzi {s : Txt} : cutB s 46 = if dotI s < 0 then (s, [], false) else (befD s, aftD s, true) := by
 unfold cutB befD aftD dotI; rw [Jne]
theorem J0v {α : Type} {xs : List α} {q : α -> Bool} : idxI xs q < 0 ↔ ∀ x ∈ xs, q x = false := by
 unfold idxI
 cases e : xs.findIdx? q with
 | none => simpa using List.findIdx?_eq_none_iff.1 e
 | some k =>
   refine ⟨fun h => by simp only at h; omega, fun h => ?_⟩
   obtain ⟨h3, h4, _⟩ := List.findIdx?_eq_some_iff_getElem.1 e
   have h5 := h _ (List.getElem_mem h3)
   rw [h5] at h4
   cases h4
@[simp] theorem Ke7 : Jdv Tryz.prog 72 = some true := by kernel_rfl
theorem J4r {k : Int} {s : Txt} (h : 0 <= k /\ k < 14) : Jiu k s = decide (0 <= Jd2 k.toNat s) := by
 have hk : k.toNat < 14 := by omega
 have a := (by decide +kernel : ∀ k, k < 14 -> (∀ l ∈ Jbn k, ∀ t ∈ l, t ∈ Jbv k) /\ ∀ t ∈ Jbv k, ∃ l ∈ Jbn k, t ∈ l) k.toNat hk
 have b := Jtz (k := k.toNat) (s := s) hk
 have c : Jd2 k.toNat s < 0 ↔ ¬ s ∈ Jbv k.toNat := by
   unfold Jd2
   rw [J0v]
   constructor
   . intro h2 h3
     obtain ⟨l, hl, hs⟩ := a.2 s h3
     simpa [hs] using h2 l hl
   . intro h2 l hl
     rw [decide_eq_false_iff_not]
     exact fun hs => h2 (a.1 l hl s hs)
 unfold Jiu
 rw [decide_eq_decide]
 constructor
 . intro h2
   have : ¬ Jen k.toNat s < 0 := by omega
   have h3 : ¬ Jd2 k.toNat s < 0 := fun h4 => this (b.2 (c.1 h4))
   omega
 . intro h2
   have : ¬ Jd2 k.toNat s < 0 := by omega
   have h3 : ¬ Jen k.toNat s < 0 := fun h4 => this (c.2 (b.1 h4))
   omega
set_option maxRecDepth 20000 in
theorem Jrm (ps : List Part) (xs : List EndP) (t : Txt) (hk : ∀ p ∈ ps, 0 <= p.kind /\ p.kind < 14) (hl : t.length < 4611686018427387904) (s : Store) (nx d m q : Nat) (hnd : [d, m, q].Nodup) (hlt : ∀ b ∈ [d, m, q], b < nx)
   (g0 : get s d = some (.cells 2 [[.map m, .map q]])) (g1 : get s m = some (.map (Jas ps))) (g2 : get s q = some (.map (Jaw xs))) :
   Gives Tryz.prog GL 98 [.ptr d 2 0 0, .p (.str t)] s nx (.tup [(Jb1 ps t).av, .p (.int .i64 (Jca ps t))]) [d, m, q] [] nx := by
 refine Gives.mk_walkK (N := 46) (args := [.ptr 0 2 0 0, .p (.str t)]) [d, m, q] [] [(0, some (.cells 2 [[.map 1, .map 2]])), (1, some (.map (Jas ps))), (2, some (.map (Jaw xs)))]
   [] 3 0 (.tup [(Jb1 ps t).av, .p (.int .i64 (Jca ps t))]) (fun _ => []) (up1 := []) Tryz.func98 rfl rfl rfl (by simp) rfl ?_ (by simp) (by simp) (by simp) (by simp) rfl ?_
 . refine ⟨?_, rfl, hnd, hlt, rfl⟩
   simp [g0, g1, g2]
 simp
 refine Jab (Jqe t 46 hl) ?_
 rw [Jzi]
 by_cases h : dotI t < 0
 . have e1 : Jca ps t = 4 := by unfold Jca; rw [if_pos h]
   have e2 : Jb1 ps t = ⟨[], []⟩ := by unfold Jb1; rw [if_neg (by rw [e1]; decide)]
   simp [h, e1, e2]
 simp [h]
 have hk14 : ∀ p ∈ ps, p.kind.toNat < 14 := fun p hp => by have := hk p hp; omega
 cases e : ps.find? fun p => decide (p.name = befD t) with
 | none =>
   have e0 : Jgc ps (befD t) = none := by unfold Jgc; rw [e]; rfl
   have e1 : Jca ps t = 6 := by unfold Jca; rw [if_neg h, e0]
   have e2 : Jb1 ps t = ⟨[], []⟩ := by unfold Jb1; rw [if_neg (by rw [e1]; decide)]
   simp [hit, e1, e2, zeroV]
 | some p =>
   have hp := List.mem_of_find?_eq_some e
   have hn : p.name = befD t := by simpa using List.find?_some e
   have e0 : Jgc ps (befD t) = some p.kind := by unfold Jgc; rw [e]; rfl
   simp [hit]
   refine Jab (Jx8 p.kind (aftD t) (hk p hp)) ?_
   have hr := J4r (s := aftD t) (hk p hp)
   by_cases h2 : Jd2 p.kind.toNat (aftD t) < 0
   . have e1 : Jca ps t = 6 := by unfold Jca; rw [if_neg h, e0]; simp only; rw [hr, if_neg (by simpa using h2)]
     have e2 : Jb1 ps t = ⟨[], []⟩ := by unfold Jb1; rw [if_neg (by rw [e1]; decide)]
     simp [h2, e1, e2]
   . have e1 : Jca ps t = 0 := by unfold Jca; rw [if_neg h, e0]; simp only; rw [hr, if_pos (by simpa using h2)]
     have e2 : Jb1 ps t = ⟨befD t, aftD t⟩ := by unfold Jb1; rw [if_pos e1]
     simp [h2, e1, e2]
end Go.Am
namespace Go.Am
open Go Go.Proofs Go.Pn
def cntK (c : Circuit) (k : Nat) : List Int := (List.range 14).map fun (j : Nat) => (((c.parts.take k).countP fun p => decide (p.kind = (j : Int)) : Nat) : Int)
theorem Jid {c : Circuit} {k : Nat} : (cntK c k).length = 14 := by simp [cntK]
theorem Jj5 {c : Circuit} {k j : Nat} (hj : j < 14) : (cntK c k)[j]? = some (((c.parts.take k).countP fun p => decide (p.kind = (j : Int)) : Nat) : Int) := by
 simp [cntK, hj]
theorem Jzg {c : Circuit} {k : Nat} {p : Part} (e : c.parts[k]? = some p) (hp : 0 <= p.kind /\ p.kind < 14) :
   (cntK c k).set p.kind.toNat ((((c.parts.take k).countP fun q => decide (q.kind = ((p.kind.toNat : Nat) : Int)) : Nat) : Int) + 1) = cntK c (k + 1) := by
 refine List.ext_getElem? fun j => ?_
 by_cases hj : j < 14
 . rw [Jj5 hj, take_snoc e, List.countP_append]
   by_cases h : p.kind.toNat = j
   . subst h
     rw [List.getElem?_set_self (by rw [Jid]; exact hj)]
     have : p.kind = ((p.kind.toNat : Nat) : Int) := by omega
     simp [<- this]
   . rw [List.getElem?_set_ne h, Jj5 hj]
     have : ¬ p.kind = (j : Int) := by omega
     simp [this]
 . rw [List.getElem?_eq_none (by rw [List.length_set, Jid]; omega), List.getElem?_eq_none (by rw [Jid]; omega)]
theorem Jzh {c : Circuit} : cntK c 0 = List.replicate 14 0 := by
 refine List.ext_getElem? fun j => ?_
 by_cases hj : j < 14
 . rw [Jj5 hj, List.getElem?_replicate, if_pos hj]; simp
 . rw [List.getElem?_eq_none (by rw [Jid]; omega), List.getElem?_eq_none (by simp; omega)]
theorem Jzf {c : Circuit} : cntK c c.parts.length = cntC c := by unfold cntK cntC; rw [List.take_length]
set_option maxRecDepth 20000 in
theorem Jx2 (c : Circuit) (hs : Sized c) : Pure Tryz.prog GL 25 [c.av] (.tup [.p (.lst 1 ((cntR c).map Int.enc)), .p (.int .i64 (Jad c))]) := by
 refine Pure.of_walk (N := 30) Tryz.func25 rfl rfl rfl (by simp) (by first | (simp; done) | simp [*]) ?_
 simp
 refine Jab (Jex c hs) ?_
 by_cases h : Jad c = 0
 . have hR : cntR c = cntC c := if_pos h
   have hpl := (Jez h).2.1
   simp [h, hR]
   refine Jah.go [5, 15, 16] [] 0 [] (fun _ => []) (fun _ (k : Nat) => [(17, .p (.int .i64 k))]) (fun _ k => [(1, some (.cells 1 ((cntK c k).map Int.row)))]) (fun k => k <= c.parts.length) (fun k => c.parts.length - k) 0 (by omega) ?_ ?_
   . simp [Jzh, List.replicate]
     try decide
   intro k hk
   have hcl := @Jid c k
   simp
   refine Jac (fun h3 => ?_) (fun h3 => ?_)
   . simp at h3
     obtain ⟨p, e⟩ := Jag h3
     have hp := (Jez h).1 p (List.mem_of_getElem? e)
     obtain ⟨j, hj⟩ := Int.eq_ofNat_of_zero_le hp.1
     have hj14 : j < 14 := by omega
     have hat := Jj5 (c := c) (k := k) hj14
     have hsn := Jzg e hp
     rw [hj, Int.toNat_natCast] at hsn
     have hcn : ((c.parts.take k).countP fun q => decide (q.kind = (j : Int))) <= k := by
       have := List.countP_le_length (p := fun q : Part => decide (q.kind = (j : Int))) (l := c.parts.take k)
       rw [List.length_take] at this
       omega
     simp [h3, e, hj, hj14, hcl, hat, -getElem?_pos, List.getElem?_cons_zero, List.getElem?_cons_succ]
     refine ⟨by omega, wrap_i64 (by omega) (by omega), by omega, wrap_i64 (by omega) (by omega), k + 1, by omega, by omega, by omega, ?_⟩
     rw [<- hsn, List.map_set]
     simp
   simp at h3
   have hkl : k = c.parts.length := by omega
   subst hkl
   rw [Jzf] at *
   have ht : List.take 14 ((cntC c).map Int.row) = (cntC c).map Int.row := List.take_of_length_le (by simp [hcl])
   simp [Jaa, hR, hcl, h, ht]
   try rfl
 . have hR : cntR c = [] := if_neg h
   simp [h, hR, Jaa]
theorem Jn2 {ps : List Part} {p : Part} (h : p.name ∉ ps.map (·.name)) : putN ps p = ps ++ [p] := by
 induction ps with
 | nil => rfl
 | cons q ps ih =>
   rw [List.map_cons, List.mem_cons, not_or] at h
   rw [putN, if_neg (fun e => h.1 e.symm), ih h.2]; rfl
theorem Jmf {l : List Part} : ∀ {ps : List Part}, ((ps ++ l).map (·.name)).Nodup -> addN ps l = ps ++ l := by
 induction l with
 | nil => intro ps _; simp [addN]
 | cons p l ih =>
   intro ps h
   have hp : p.name ∉ ps.map (·.name) := by
     rw [List.map_append, List.nodup_append] at h
     intro hm
     exact h.2.2 _ hm p.name (by simp) rfl
   show addN (putN ps p) l = _
   rw [Jn2 hp, ih (by simpa using h)]
   simp
theorem Jwk {c : Circuit} (h : Jad c = 0) : addN [] c.parts = c.parts := Jmf (by simpa using Jdz h)
end Go.Am
