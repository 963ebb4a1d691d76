/- Lemmas and contracts for the proof of a statement of this seat. -/
import Derived.Test.YtmfjjncfdpejiaaGreatDoorZN1
import Derived.Test.YtmfjjncfdpejiaaGreatDoorZC6
import Derived.Test.YtmfjjncfdpejiaaGreatDoorZF1
import Derived.Test.YtmfjjncfdpejiaaGreatDoorZA7
import Derived.Test.YtmfjjncfdpejiaaGreatDoorZCA
set_option linter.unusedVariables false
set_option linter.unusedSimpArgs false
namespace Go.Am
open Go Go.Proofs Go.Pn
theorem J1q (a b : End) : Pure Tryz.prog GL 155 [a.av, b.av] (.p (.int .i64 (Jcg a b))) := by
 refine Pure.of_walk (N := 17) Tryz.func155 rfl rfl rfl (by simp) (by first | (simp; done) | simp [*]) ?_
 simp
 refine Jah.intro (by kernel_rfl) ?_
 simp
 refine Jab (Joq a.part b.part) ?_
 simp
 refine Jab (Joq a.port b.port) ?_
 simp
 refine Jde ?_
 simp
 refine ⟨_, Joj [Lib.compareBytes a.part b.part, Lib.compareBytes a.port b.port] (by simp), rfl, ?_⟩
 simp [Jaa, Jcg]
 exact .of (by kernel_rfl)
theorem Jll (a b : End) : Pure Tryz.prog GL 83 [a.av, b.av] ((ordE a b).av) := by
 refine Pure.of_walk (N := 14) Tryz.func83 rfl rfl rfl (by simp) (by first | (simp; done) | simp [*]) ?_
 simp
 refine Jab (J1q a b) ?_
 by_cases h : 0 < Jcg a b
 . have e : ordE a b = (b, a) := if_pos h
   simp [h, Jaa, e]
 . have e : ordE a b = (a, b) := if_neg h
   simp [h, Jaa, e]
theorem Jhz (c : Circuit) (p : Port) (h0 : 0 <= p.part) (h1 : p.part.toNat < c.parts.length) : Pure Tryz.prog GL 82 [c.av, p.av] ((Jam c p).av) := by
 refine Pure.of_walk (N := 15) Tryz.func82 rfl rfl rfl (by simp) (by first | (simp; done) | simp [*]) ?_
 obtain ⟨i, s⟩ := p
 simp only at h0 h1
 obtain ⟨k, rfl⟩ := Int.eq_ofNat_of_zero_le h0
 simp only [Int.toNat_natCast] at h1
 obtain ⟨q, e⟩ := Jag h1
 simp
 refine Jah.intro (by kernel_rfl) ?_
 simp [h1, e, -getElem?_pos, List.getElem?_cons_zero, List.getElem?_cons_succ]
 have hn : nameAt c (k : Int) = q.name := by unfold nameAt; rw [Int.toNat_natCast, e]
 simp [Jaa, Jam, hn]
 exact .of (by kernel_rfl)
end Go.Am
namespace Go.Am
open Go Go.Proofs Go.Pn
theorem J3v (a b c d a' b' c' d' : Txt) : eqA Tryz.prog 8 139 (.agg [.p (.str a), .p (.str b), .p (.str c), .p (.str d)]) (.agg [.p (.str a'), .p (.str b'), .p (.str c'), .p (.str d')]) = some (decide ((a = a' /\ b = b') /\ (c = c' /\ d = d'))) := by
 have : eqA Tryz.prog 8 139 (.agg [.p (.str a), .p (.str b), .p (.str c), .p (.str d)]) (.agg [.p (.str a'), .p (.str b'), .p (.str c'), .p (.str d')]) = some ((decide (a = a') && (decide (b = b') && true)) && ((decide (c = c') && (decide (d = d') && true)) && true)) := by kernel_rfl
 rw [this]; simp [Bool.decide_and]
theorem J5h : KeyOk Tryz.prog 139 IsS4 := J5j (by kernel_rfl) (fun w em a b c d => by kernel_rfl) J3v
theorem Jie : KeyOk Tryz.prog 9 IsS := keyS (by kernel_rfl) (fun w em n => by kernel_rfl)
def Jav (ps : List Part) : List (AV × AV) := ps.map fun p => (.p (.str p.name), p.av)
def Jay (xs : List EndP) : List (AV × AV) := xs.map fun x => (x.av, .p (.bool true))
def putN : List Part -> Part -> List Part
 | [], p => [p]
 | q :: ps, p => if q.name = p.name then p :: ps else q :: putN ps p
def insX (xs : List EndP) (x : EndP) : List EndP := if x ∈ xs then xs else xs ++ [x]
theorem Jox {x y : EndP} (h : x.av = y.av) : x = y := by
 obtain ⟨⟨a, b⟩, ⟨c, d⟩⟩ := x; obtain ⟨⟨e, f⟩, ⟨g, h⟩⟩ := y
 simp at h
 obtain ⟨rfl, rfl, rfl, rfl⟩ := h
 rfl
theorem J0g {ps : List Part} {s : Txt} : Jap (Jav ps) (.p (.str s)) = (ps.find? fun p => decide (p.name = s)).map Part.av := by
 induction ps with
 | nil => rfl
 | cons p ps ih =>
   show Jap ((.p (.str p.name), p.av) :: Jav ps) _ = _
   rw [Jen, ih]
   by_cases h : p.name = s
   . subst h; simp
   . rw [if_neg (by simpa using h), List.find?_cons_of_neg (by simpa using h)]
theorem Jkm {ps : List Part} {p : Part} : setA (Jav ps) (.p (.str p.name)) p.av = Jav (putN ps p) := by
 induction ps with
 | nil => rfl
 | cons q ps ih =>
   show setA ((.p (.str q.name), q.av) :: Jav ps) _ _ = _
   rw [setA, putN]
   by_cases h : q.name = p.name
   . rw [if_pos (by rw [h]), if_pos h]; rfl
   . rw [if_neg (by simpa using h), if_neg h, ih]; rfl
theorem J9j {xs : List EndP} {x : EndP} : setA (Jay xs) x.av (.p (.bool true)) = Jay (insX xs x) := by
 induction xs with
 | nil => rfl
 | cons y xs ih =>
   show setA ((y.av, .p (.bool true)) :: Jay xs) _ _ = _
   rw [setA]
   by_cases h : y = x
   . subst h
     rw [if_pos rfl]
     unfold insX
     rw [if_pos (by simp)]; rfl
   . rw [if_neg (fun e => h (Jox e)), ih]
     unfold insX
     by_cases h2 : x ∈ xs
     . rw [if_pos h2, if_pos (by simp [h2])]; rfl
     . rw [if_neg h2, if_neg (by simp [h2]; exact fun e => h e.symm)]; rfl
theorem J0h {xs : List EndP} {x : EndP} : Jap (Jay xs) x.av = if x ∈ xs then some (.p (.bool true)) else none := by
 induction xs with
 | nil => rfl
 | cons y xs ih =>
   show Jap ((y.av, .p (.bool true)) :: Jay xs) _ = _
   rw [Jen, ih]
   by_cases h : y = x
   . subst h; simp
   . rw [if_neg (fun e => h (Jox e))]
     by_cases h2 : x ∈ xs
     . simp [h2]
     . rw [if_neg h2, if_neg (by simp [h2]; exact fun e => h e.symm)]
@[simp] theorem Kch {ps : List Part} {s : Txt} : Jap (Jav ps) (.p (.str s)) = (ps.find? fun p => decide (p.name = s)).map Part.av := J0g
@[simp] theorem Kcq {ps : List Part} {p : Part} : setA (Jav ps) (.p (.str p.name)) (.agg [.p (.int .i64 p.kind), .p (.str p.name), .p (.int .i64 p.delay)]) = Jav (putN ps p) := Jkm
@[simp] theorem Kcr {xs : List EndP} {x : EndP} : setA (Jay xs) (.agg [.p (.str x.1.part), .p (.str x.1.port), .p (.str x.2.part), .p (.str x.2.port)]) (.p (.bool true)) = Jay (insX xs x) := J9j
@[simp] theorem Kci {xs : List EndP} {x : EndP} : Jap (Jay xs) (.agg [.p (.str x.1.part), .p (.str x.1.port), .p (.str x.2.part), .p (.str x.2.port)]) = if x ∈ xs then some (.p (.bool true)) else none := J0h
@[simp] theorem Kca {ps : List Part} {s : Txt} : Jcl Tryz.prog 9 (Jav ps) (.p (.str s)) = True :=
 eq_true ⟨_, Jie, ⟨_, rfl⟩, fun e he => by obtain ⟨p, _, rfl⟩ := List.mem_map.1 he; exact ⟨_, rfl⟩⟩
@[simp] theorem Kcb {xs : List EndP} {a b c d : Txt} : Jcl Tryz.prog 139 (Jay xs) (.agg [.p (.str a), .p (.str b), .p (.str c), .p (.str d)]) = True :=
 eq_true ⟨_, J5h, ⟨_, _, _, _, rfl⟩, fun e he => by obtain ⟨p, _, rfl⟩ := List.mem_map.1 he; exact ⟨_, _, _, _, rfl⟩⟩
@[simp] theorem Kdb {ps : List Part} {ρ : List Nat} : renE ρ (Jav ps) = some (Jav ps) :=
 Jke fun e he => by obtain ⟨p, _, rfl⟩ := List.mem_map.1 he; exact ⟨rfl, rfl⟩
@[simp] theorem Kdc {xs : List EndP} {ρ : List Nat} : renE ρ (Jay xs) = some (Jay xs) :=
 Jke fun e he => by obtain ⟨p, _, rfl⟩ := List.mem_map.1 he; exact ⟨rfl, rfl⟩
@[simp] theorem Kce {ps : List Part} : (Jav ps).length = ps.length := List.length_map ..
@[simp] theorem Kcf {xs : List EndP} : (Jay xs).length = xs.length := List.length_map ..
theorem Jh6 (s : Store) (nx : Nat) : Gives Tryz.prog GL 65 [] s nx (.ptr (nx + 2) 2 0 0) [] [(nx, some (.map [])), (nx + 1, some (.map [])), (nx + 2, some (.cells 2 [[.map nx, .map (nx + 1)]]))] (nx + 3) := by
 refine Gives.mk_walkK (N := 5) (args := []) [] [] [] [(0, some (.map [])), (1, some (.map [])), (2, some (.cells 2 [[.map 0, .map 1]]))] 0 3 (.ptr 2 2 0 0) (nms [1, 2, 4]) (up1 := [(nx, some (.map [])), (nx + 1, some (.map [])), (nx + 2, some (.cells 2 [[.map nx, .map (nx + 1)]]))]) Tryz.func65 rfl rfl rfl (by simp) rfl (by simp) (by simp) (by simp) rfl (by simp) rfl ?_
 simp
def Jc7 (c : Circuit) : List EndP := c.pipes.map fun x => ordX (Jam c x.fr, Jam c x.to)
def addN (ps l : List Part) : List Part := l.foldl putN ps
def addX (xs l : List EndP) : List EndP := l.foldl insX xs
theorem Jzx {ps l : List Part} {k : Nat} {p : Part} (e : l[k]? = some p) : addN ps (l.take (k + 1)) = putN (addN ps (l.take k)) p := by
 unfold addN; rw [take_snoc e, List.foldl_append]; rfl
theorem Jzz {xs l : List EndP} {k : Nat} {p : EndP} (e : l[k]? = some p) : addX xs (l.take (k + 1)) = insX (addX xs (l.take k)) p := by
 unfold addX; rw [take_snoc e, List.foldl_append]; rfl
set_option maxRecDepth 20000 in
theorem Jpa (c : Circuit) (ps : List Part) (xs : List EndP) (h : Jac c = 0) (s : Store) (nx d m q : Nat) (hnd : [d, m, q].Nodup) (hlt : ∀ b ∈ [d, m, q], b < nx)
   (g0 : get s d = some (.cells 2 [[.map m, .map q]])) (g1 : get s m = some (.map (Jav ps))) (g2 : get s q = some (.map (Jay xs))) :
   Gives Tryz.prog GL 94 [.ptr d 2 0 0, c.av] s nx (.tup []) [d, m, q] [(m, some (.map (Jav (addN ps c.parts)))), (q, some (.map (Jay (addX xs (Jc7 c)))))] nx := by
 have hpl := (Jb1 h).2.1
 have hxl := (Jdz.1 h).2.1
 refine Gives.mk_walkK (N := 44) (args := [.ptr 0 2 0 0, c.av]) [d, m, q] [] [(0, some (.cells 2 [[.map 1, .map 2]])), (1, some (.map (Jav ps))), (2, some (.map (Jay xs)))]
   [(1, some (.map (Jav (addN ps c.parts)))), (2, some (.map (Jay (addX xs (Jc7 c)))))] 3 0 (.tup []) (fun _ => []) (up1 := [(m, some (.map (Jav (addN ps c.parts)))), (q, some (.map (Jay (addX xs (Jc7 c)))))]) Tryz.func94 rfl rfl rfl (by simp) rfl ?_ (by simp) rfl (by simp) (by simp) rfl ?_
 . refine ⟨?_, rfl, hnd, hlt, rfl⟩
   simp [g0, g1, g2]
 simp
 refine Jai.go [0, 3, 9, 10] [0, 3] 0 [] (fun _ => []) (fun _ (k : Nat) => [(11, .p (.int .i64 k))]) (fun _ k => [(1, some (.map (Jav (addN ps (c.parts.take k))))), (2, some (.map (Jay xs)))]) (fun k => k <= c.parts.length) (fun k => c.parts.length - k) 0 (by omega) ?_ ?_
 . simp [addN]
   decide
 intro k hk
 simp
 refine Jad (fun h3 => ?_) (fun h3 => ?_)
 . simp at h3
   obtain ⟨p, e⟩ := Jag h3
   simp [h3, e, -getElem?_pos, List.getElem?_cons_zero, List.getElem?_cons_succ]
   refine Jah.intro (by kernel_rfl) ?_
   simp
   refine ⟨.of (by kernel_rfl), wrap_i64 (by omega) (by omega), k + 1, by omega, by omega, ?_⟩
   rw [Jzx e]
   simp
   decide
 simp at h3
 have hkl : k = c.parts.length := by omega
 subst hkl
 simp
 refine Jai.go [0, 3, 24, 25] [0, 3] 0 [] (fun _ => []) (fun _ (k : Nat) => [(26, .p (.int .i64 k))]) (fun _ k => [(1, some (.map (Jav (addN ps c.parts)))), (2, some (.map (Jay (addX xs ((Jc7 c).take k)))))]) (fun k => k <= c.pipes.length) (fun k => c.pipes.length - k) 0 (by omega) ?_ ?_
 . simp [addX]
   decide
 intro k hk
 simp
 refine Jad (fun h3 => ?_) (fun h3 => ?_)
 . simp at h3
   obtain ⟨x, e⟩ := Jag h3
   have hxm := List.mem_of_getElem? e
   obtain ⟨g1, g2, _⟩ := Jeh h hxm
   obtain ⟨y1, f1, z1, _⟩ := Jc8.1 g1
   obtain ⟨y2, f2, z2, _⟩ := Jc8.1 g2
   have l1 := (gsI.1 f1).1
   have l2 := (gsI.1 f2).1
   have ee : (Jc7 c)[k]? = some (ordX (Jam c x.fr, Jam c x.to)) := by unfold Jc7; rw [List.getElem?_map, e]; rfl
   simp [h3, e, -getElem?_pos, List.getElem?_cons_zero, List.getElem?_cons_succ]
   refine Jah.intro (by kernel_rfl) ?_
   simp
   refine Jab (Jhz c x.fr z1 l1) ?_
   simp
   refine Jab (Jhz c x.to z2 l2) ?_
   simp
   refine Jab (Jll (Jam c x.fr) (Jam c x.to)) ?_
   simp
   refine ⟨.of (by kernel_rfl), wrap_i64 (by omega) (by omega), k + 1, by omega, by omega, ?_⟩
   rw [Jzz ee]
   simp [ordX]
   decide
 simp at h3
 have hkl : k = c.pipes.length := by omega
 subst hkl
 have hel : (Jc7 c).length = c.pipes.length := List.length_map ..
 rw [<- hel]
 simp
end Go.Am
namespace Go.Am
open Go Go.Proofs Go.Pn
theorem Kar (b : UInt8) : ((b.toNat : Int)).toNat.toUInt8 = b := by rw [Int.toNat_natCast]; exact UInt8.ofNat_toNat
theorem J1i (s : Txt) (b : UInt8) : Pure Tryz.prog GL 252 [.p (.str s), .p (.str [b])] (.p (.int .i64 (Lib.indexByte s b))) := by
 refine Pure.of_walk (N := 143) Tryz.func252 rfl rfl rfl (by simp) (by first | (simp; done) | simp [*]) ?_
 simp
 by_cases h : [b] = s
 . subst h
   simp [Jaa, Lib.indexByte]
 simp [h]
 refine Jab (Js4 s b.toNat) ?_
 simp [Jaa, Kar]
theorem Jpd {s : Txt} {b : UInt8} : Lib.indexByte s b = idxI s fun x => decide (x = b) := by
 induction s with
 | nil => rfl
 | cons x s ih =>
   unfold Lib.indexByte
   rw [ih]
   unfold idxI
   rw [List.findIdx?_cons]
   by_cases h : x = b
   . subst h; simp
   . simp only [beq_iff_eq, h, if_false, decide_false]
     cases s.findIdx? fun x => decide (x = b) with
     | none => simp
     | some i =>
       simp
       try omega
theorem J4z (s : Txt) (b : UInt8) : Lib.indexByte s b = -1 \/ ∃ k : Nat, Lib.indexByte s b = k /\ k < s.length := by
 rw [Jpd]; unfold idxI
 cases e : s.findIdx? fun x => decide (x = b) with
 | none => exact .inl rfl
 | some k => exact .inr ⟨k, rfl, (List.findIdx?_eq_some_iff_findIdx_eq.1 e).1⟩
def cutB (s : Txt) (b : UInt8) : Txt × Txt × Bool := if Lib.indexByte s b < 0 then (s, [], false) else (s.take (Lib.indexByte s b).toNat, s.drop ((Lib.indexByte s b).toNat + 1), true)
theorem J1f (s : Txt) (b : UInt8) (hl : s.length < 4611686018427387904) : Pure Tryz.prog GL 230 [.p (.str s), .p (.str [b])] (.tup [.p (.str (cutB s b).1), .p (.str (cutB s b).2.1), .p (.bool (cutB s b).2.2)]) := by
 refine Pure.of_walk (N := 23) Tryz.func230 rfl rfl rfl (by simp) (by first | (simp; done) | simp [*]) ?_
 simp
 refine Jab (J1i s b) ?_
 rcases J4z s b with h | ⟨k, h, hk⟩
 . simp [h, Jaa, cutB]
 . have e1 : (0 : Int) <= k /\ (k : Int) <= s.length := by omega
   have e2 : (0 : Int) <= k + 1 /\ (k : Int) + 1 <= s.length := by omega
   rw [h]
   simp
   refine Jah.intro (by kernel_rfl) ?_
   have ht : List.take (s.length - (k + 1)) (s.drop (k + 1)) = s.drop (k + 1) := List.take_of_length_le (by simp)
   simp [e1, e2]
   refine ⟨wrap_i64 (by omega) (by omega), .of (by kernel_rfl), ?_⟩
   have hn : ¬ (k : Int) < 0 := by omega
   simp [Jaa, cutB, h, ht, hn]
theorem Jtj (s : Txt) (b : UInt8) (hl : s.length < 4611686018427387904) : Pure Tryz.prog GL 148 [.p (.str s), .p (.str [b])] (.tup [.p (.str (cutB s b).1), .p (.str (cutB s b).2.1), .p (.bool (cutB s b).2.2)]) := by
 refine Pure.of_walk (N := 13) Tryz.func148 rfl rfl rfl (by simp) (by first | (simp; done) | simp [*]) ?_
 simp
 refine Jab (J1f s b hl) ?_
 simp [Jaa]
theorem J3d {s : Txt} : cutB s 46 = if dotI s < 0 then (s, [], false) else (befD s, aftD s, true) := by
 unfold cutB befD aftD dotI; rw [Jpd]
theorem J42 {α : Type} {xs : List α} {q : α -> Bool} : idxI xs q < 0 ↔ ∀ x ∈ xs, q x = false := by
 unfold idxI
 cases e : xs.findIdx? q with
 | none => simpa using List.findIdx?_eq_none_iff.1 e
 | some k =>
   refine ⟨fun h => by simp only at h; omega, fun h => ?_⟩
   obtain ⟨h3, h4, _⟩ := List.findIdx?_eq_some_iff_getElem.1 e
   have h5 := h _ (List.getElem_mem h3)
   rw [h5] at h4
   cases h4
@[simp] theorem Kjq : Jd8 Tryz.prog 72 = some true := by kernel_rfl
theorem Jxz {k : Int} {s : Txt} (h : 0 <= k /\ k < 14) : Jf7 k s = decide (0 <= Jdv k.toNat s) := by
 have hk : k.toNat < 14 := by omega
 have a := (by decide +kernel : ∀ k, k < 14 -> (∀ l ∈ Jbs k, ∀ t ∈ l, t ∈ Jbw k) /\ ∀ t ∈ Jbw k, ∃ l ∈ Jbs k, t ∈ l) k.toNat hk
 have b := Jm0 (k := k.toNat) (s := s) hk
 have c : Jdv k.toNat s < 0 ↔ ¬ s ∈ Jbw k.toNat := by
   unfold Jdv
   rw [J42]
   constructor
   . intro h2 h3
     obtain ⟨l, hl, hs⟩ := a.2 s h3
     simpa [hs] using h2 l hl
   . intro h2 l hl
     rw [decide_eq_false_iff_not]
     exact fun hs => h2 (a.1 l hl s hs)
 unfold Jf7
 rw [decide_eq_decide]
 constructor
 . intro h2
   have : ¬ Jdj k.toNat s < 0 := by omega
   have h3 : ¬ Jdv k.toNat s < 0 := fun h4 => this (b.2 (c.1 h4))
   omega
 . intro h2
   have : ¬ Jdv k.toNat s < 0 := by omega
   have h3 : ¬ Jdj k.toNat s < 0 := fun h4 => this (c.2 (b.1 h4))
   omega
set_option maxRecDepth 20000 in
theorem Jpb (ps : List Part) (xs : List EndP) (t : Txt) (hk : ∀ p ∈ ps, 0 <= p.kind /\ p.kind < 14) (hl : t.length < 4611686018427387904) (s : Store) (nx d m q : Nat) (hnd : [d, m, q].Nodup) (hlt : ∀ b ∈ [d, m, q], b < nx)
   (g0 : get s d = some (.cells 2 [[.map m, .map q]])) (g1 : get s m = some (.map (Jav ps))) (g2 : get s q = some (.map (Jay xs))) :
   Gives Tryz.prog GL 98 [.ptr d 2 0 0, .p (.str t)] s nx (.tup [(Jb8 ps t).av, .p (.int .i64 (Jbf ps t))]) [d, m, q] [] nx := by
 refine Gives.mk_walkK (N := 46) (args := [.ptr 0 2 0 0, .p (.str t)]) [d, m, q] [] [(0, some (.cells 2 [[.map 1, .map 2]])), (1, some (.map (Jav ps))), (2, some (.map (Jay xs)))]
   [] 3 0 (.tup [(Jb8 ps t).av, .p (.int .i64 (Jbf ps t))]) (fun _ => []) (up1 := []) Tryz.func98 rfl rfl rfl (by simp) rfl ?_ (by simp) (by simp) (by simp) (by simp) rfl ?_
 . refine ⟨?_, rfl, hnd, hlt, rfl⟩
   simp [g0, g1, g2]
 simp
 refine Jab (Jtj t 46 hl) ?_
 rw [J3d]
 by_cases h : dotI t < 0
 . have e1 : Jbf ps t = 4 := by unfold Jbf; rw [if_pos h]
   have e2 : Jb8 ps t = ⟨[], []⟩ := by unfold Jb8; rw [if_neg (by rw [e1]; decide)]
   simp [h, e1, e2]
 simp [h]
 have hk14 : ∀ p ∈ ps, p.kind.toNat < 14 := fun p hp => by have := hk p hp; omega
 cases e : ps.find? fun p => decide (p.name = befD t) with
 | none =>
   have e0 : Jes ps (befD t) = none := by unfold Jes; rw [e]; rfl
   have e1 : Jbf ps t = 6 := by unfold Jbf; rw [if_neg h, e0]
   have e2 : Jb8 ps t = ⟨[], []⟩ := by unfold Jb8; rw [if_neg (by rw [e1]; decide)]
   simp [hit, e1, e2, zeroV]
 | some p =>
   have hp := List.mem_of_find?_eq_some e
   have hn : p.name = befD t := by simpa using List.find?_some e
   have e0 : Jes ps (befD t) = some p.kind := by unfold Jes; rw [e]; rfl
   simp [hit]
   refine Jab (Jtb p.kind (aftD t) (hk p hp)) ?_
   have hr := Jxz (s := aftD t) (hk p hp)
   by_cases h2 : Jdv p.kind.toNat (aftD t) < 0
   . have e1 : Jbf ps t = 6 := by unfold Jbf; rw [if_neg h, e0]; simp only; rw [hr, if_neg (by simpa using h2)]
     have e2 : Jb8 ps t = ⟨[], []⟩ := by unfold Jb8; rw [if_neg (by rw [e1]; decide)]
     simp [h2, e1, e2]
   . have e1 : Jbf ps t = 0 := by unfold Jbf; rw [if_neg h, e0]; simp only; rw [hr, if_pos (by simpa using h2)]
     have e2 : Jb8 ps t = ⟨befD t, aftD t⟩ := by unfold Jb8; rw [if_pos e1]
     simp [h2, e1, e2]
end Go.Am
namespace Go.Am
open Go Go.Proofs Go.Pn
def cntK (c : Circuit) (k : Nat) : List Int := (List.range 14).map fun (j : Nat) => (((c.parts.take k).countP fun p => decide (p.kind = (j : Int)) : Nat) : Int)
theorem Jh2 {c : Circuit} {k : Nat} : (cntK c k).length = 14 := by simp [cntK]
theorem Jjq {c : Circuit} {k j : Nat} (hj : j < 14) : (cntK c k)[j]? = some (((c.parts.take k).countP fun p => decide (p.kind = (j : Int)) : Nat) : Int) := by
 simp [cntK, hj]
theorem Jtx {c : Circuit} {k : Nat} {p : Part} (e : c.parts[k]? = some p) (hp : 0 <= p.kind /\ p.kind < 14) :
   (cntK c k).set p.kind.toNat ((((c.parts.take k).countP fun q => decide (q.kind = ((p.kind.toNat : Nat) : Int)) : Nat) : Int) + 1) = cntK c (k + 1) := by
 refine List.ext_getElem? fun j => ?_
 by_cases hj : j < 14
 . rw [Jjq hj, take_snoc e, List.countP_append]
   by_cases h : p.kind.toNat = j
   . subst h
     rw [List.getElem?_set_self (by rw [Jh2]; exact hj)]
     have : p.kind = ((p.kind.toNat : Nat) : Int) := by omega
     simp [<- this]
   . rw [List.getElem?_set_ne h, Jjq hj]
     have : ¬ p.kind = (j : Int) := by omega
     simp [this]
 . rw [List.getElem?_eq_none (by rw [List.length_set, Jh2]; omega), List.getElem?_eq_none (by rw [Jh2]; omega)]
theorem Jty {c : Circuit} : cntK c 0 = List.replicate 14 0 := by
 refine List.ext_getElem? fun j => ?_
 by_cases hj : j < 14
 . rw [Jjq hj, List.getElem?_replicate, if_pos hj]; simp
 . rw [List.getElem?_eq_none (by rw [Jh2]; omega), List.getElem?_eq_none (by simp; omega)]
theorem Jtw {c : Circuit} : cntK c c.parts.length = cntC c := by unfold cntK cntC; rw [List.take_length]
set_option maxRecDepth 20000 in
theorem Jlj (c : Circuit) (hs : Sized c) : Pure Tryz.prog GL 25 [c.av] (.tup [.p (.lst 1 ((cntR c).map Int.enc)), .p (.int .i64 (Jac c))]) := by
 refine Pure.of_walk (N := 30) Tryz.func25 rfl rfl rfl (by simp) (by first | (simp; done) | simp [*]) ?_
 simp
 refine Jab (Jea c hs) ?_
 by_cases h : Jac c = 0
 . have hR : cntR c = cntC c := if_pos h
   have hpl := (Jb1 h).2.1
   simp [h, hR]
   refine Jai.go [5, 15, 16] [] 0 [] (fun _ => []) (fun _ (k : Nat) => [(17, .p (.int .i64 k))]) (fun _ k => [(1, some (.cells 1 ((cntK c k).map Int.row)))]) (fun k => k <= c.parts.length) (fun k => c.parts.length - k) 0 (by omega) ?_ ?_
   . simp [Jty, List.replicate]
     try decide
   intro k hk
   have hcl := @Jh2 c k
   simp
   refine Jad (fun h3 => ?_) (fun h3 => ?_)
   . simp at h3
     obtain ⟨p, e⟩ := Jag h3
     have hp := (Jb1 h).1 p (List.mem_of_getElem? e)
     obtain ⟨j, hj⟩ := Int.eq_ofNat_of_zero_le hp.1
     have hj14 : j < 14 := by omega
     have hat := Jjq (c := c) (k := k) hj14
     have hsn := Jtx e hp
     rw [hj, Int.toNat_natCast] at hsn
     have hcn : ((c.parts.take k).countP fun q => decide (q.kind = (j : Int))) <= k := by
       have := List.countP_le_length (p := fun q : Part => decide (q.kind = (j : Int))) (l := c.parts.take k)
       rw [List.length_take] at this
       omega
     simp [h3, e, hj, hj14, hcl, hat, -getElem?_pos, List.getElem?_cons_zero, List.getElem?_cons_succ]
     refine ⟨by omega, wrap_i64 (by omega) (by omega), by omega, wrap_i64 (by omega) (by omega), k + 1, by omega, by omega, by omega, ?_⟩
     rw [<- hsn, List.map_set]
     simp
   simp at h3
   have hkl : k = c.parts.length := by omega
   subst hkl
   rw [Jtw] at *
   have ht : List.take 14 ((cntC c).map Int.row) = (cntC c).map Int.row := List.take_of_length_le (by simp [hcl])
   simp [Jaa, hR, hcl, h, ht]
   try rfl
 . have hR : cntR c = [] := if_neg h
   simp [h, hR, Jaa]
set_option maxRecDepth 20000 in
theorem J1n (c : Circuit) (p : Port) (hs : Sized c) : Pure Tryz.prog GL 30 [c.av, p.av] (.tup [.p (.str (ptT c p)), .p (.int .i64 (ptE c p))]) := by
 refine Pure.of_walk (N := 51) Tryz.func30 rfl rfl rfl (by simp) (by first | (simp; done) | simp [*]) ?_
 simp
 refine Jab (Jea c hs) ?_
 by_cases h : Jac c = 0
 . have hpE : ptE c p = Ja5 c p := if_neg (by simpa using h)
   have h2 := Jb1 h
   simp [h]
   by_cases hr : p.part < 0 \/ (c.parts.length : Int) <= p.part
   . have hre : Jbg c p = 2 := if_pos hr
     have hg : Ja5 c p = 2 := by simp [Ja5, hre]
     have hT : ptT c p = [] := by unfold ptT; rw [if_neg (by rw [hpE, hg]; decide)]
     rw [hpE, hg, hT]
     by_cases h1 : p.part < 0
     . simp [h1, Jaa]
     . have h3 : (c.parts.length : Int) <= p.part := by omega
       simp [h1, h3, Jaa]
   . have hre : Jbg c p = 0 := if_neg hr
     have h1 : ¬ p.part < 0 := by omega
     have h3 : ¬ (c.parts.length : Int) <= p.part := by omega
     have hpo : Jk4 c p := ⟨by omega, by omega⟩
     obtain ⟨i, q, e1, e2, e3, e4⟩ := Jp2 hpo
     have hq := h2.1 q (List.mem_of_getElem? e3)
     have e5 : p.part.toNat = i := by omega
     have hpl := Jm0 (k := q.kind.toNat) (s := p.name) (by omega)
     have hrp := Jxz (s := p.name) hq
     have hg : Ja5 c p = if Jdv q.kind.toNat p.name < 0 then 6 else 0 := by
       rw [Ja5, hre, if_neg (by simp), Jbq, e5, e3]
       simp only
       unfold Jf7 at hrp
       rw [decide_eq_decide] at hrp
       by_cases hm : p.name ∈ Jbb q
       . have : ¬ Jdj q.kind.toNat p.name < 0 := fun hh => (hpl.1 hh) hm
         rw [if_pos hm, if_neg (by have := hrp.1 (by omega); omega)]
       . have : Jdj q.kind.toNat p.name < 0 := hpl.2 hm
         rw [if_neg hm, if_pos (by by_cases h6 : Jdv q.kind.toNat p.name < 0; exact h6; exact absurd (hrp.2 (by omega)) (by omega))]
     have hnm : nameAt c p.part = q.name := by unfold nameAt; rw [e5, e3]
     have hro := Jtb q.kind p.name hq
     obtain ⟨pi, pn⟩ := p
     simp only at *
     subst e1
     simp [h1, h3]
     refine Jah.intro (by kernel_rfl) ?_
     simp [h1, h3, e2, e3, -getElem?_pos, List.getElem?_cons_zero, List.getElem?_cons_succ]
     refine Jab hro ?_
     simp
     refine ⟨.of (by kernel_rfl), ?_⟩
     refine Jad (fun h6 => ?_) (fun h6 => ?_)
     . simp at h6
       have hg2 : Ja5 c ⟨(i : Int), pn⟩ = 6 := by rw [hg, if_pos h6]
       have hT : ptT c ⟨(i : Int), pn⟩ = [] := by unfold ptT; rw [if_neg (by rw [hpE, hg2]; decide)]
       simp [Jaa, hpE, hg2, hT]
     . simp at h6
       have h7 : ¬ Jdv q.kind.toNat pn < 0 := by omega
       have hg2 : Ja5 c ⟨(i : Int), pn⟩ = 0 := by rw [hg, if_neg h7]
       have hT : ptT c ⟨(i : Int), pn⟩ = endX (Jam c ⟨(i : Int), pn⟩) := if_pos (by rw [hpE, hg2])
       simp
       refine Jah.intro (by kernel_rfl) ?_
       simp [h1, h3, e2, e3, -getElem?_pos, List.getElem?_cons_zero, List.getElem?_cons_succ]
       simp [Jaa, hpE, hg2, hT, endX, Jam, hnm]
       have hm : pn ∈ Jbb q := by
         unfold Jf7 at hrp
         rw [decide_eq_decide] at hrp
         have := hrp.2 h6
         by_cases h8 : pn ∈ Jbw q.kind.toNat
         . exact h8
         . have := hpl.2 h8; omega
       have h8 := (Jka hq hm).2.2
       have h9 := hs.names q (List.mem_of_getElem? e3)
       exact ⟨by omega, by omega, .of (by kernel_rfl)⟩
 . have hE : ptE c p = Jac c := if_pos h
   have hT : ptT c p = [] := by unfold ptT; rw [if_neg (by rw [hE]; exact h)]
   simp [h, hE, hT, Jaa]
theorem J1p (p : Part) (s t : Txt) : Pure Tryz.prog GL 100 [p.av, .iptr 2 [[.str s, .str t]] 0 0] (.p (.bool (decide (p.name = s)))) := by
 refine Pure.of_walk (N := 9) Tryz.func100 rfl rfl rfl (by simp) (by first | (simp; done) | simp [*]) ?_
 simp [Jaa]
theorem Jqd {ps : List Part} {p : Part} (h : p.name ∉ ps.map (·.name)) : putN ps p = ps ++ [p] := by
 induction ps with
 | nil => rfl
 | cons q ps ih =>
   rw [List.map_cons, List.mem_cons, not_or] at h
   rw [putN, if_neg (fun e => h.1 e.symm), ih h.2]; rfl
theorem Jn8 {l : List Part} : ∀ {ps : List Part}, ((ps ++ l).map (·.name)).Nodup -> addN ps l = ps ++ l := by
 induction l with
 | nil => intro ps _; simp [addN]
 | cons p l ih =>
   intro ps h
   have hp : p.name ∉ ps.map (·.name) := by
     rw [List.map_append, List.nodup_append] at h
     intro hm
     exact h.2.2 _ hm p.name (by simp) rfl
   show addN (putN ps p) l = _
   rw [Jqd hp, ih (by simpa using h)]
   simp
theorem Jr7 {c : Circuit} (h : Jac c = 0) : addN [] c.parts = c.parts := Jn8 (by simpa using Jc9 h)
set_option maxRecDepth 20000 in
theorem J1o (c : Circuit) (t : Txt) (hs : Sized c) (hl : t.length < 4611686018427387904) : Pure Tryz.prog GL 32 [c.av, .p (.str t)] (.tup [(rpP c t).av, .p (.int .i64 (rpE c t))]) := by
 refine Pure.of_walk (N := 39) Tryz.func32 rfl rfl rfl (by simp) (by first | (simp; done) | simp [*]) ?_
 simp
 refine Jab (Jea c hs) ?_
 by_cases h : Jac c = 0
 . have h2 := Jb1 h
   have hE : rpE c t = Jbf c.parts t := if_neg (by simpa using h)
   simp [h]
   refine Ja4 (Jh6 _ _) ?_
   simp
   refine Ja4 (Jpa c [] [] h _ _ _ _ _ (by simp) (by simp) rfl rfl rfl) ?_
   simp
   rw [Jr7 h]
   refine Ja4 (Jpb c.parts _ t h2.1 hl _ _ _ _ _ (by simp) (by simp) rfl rfl rfl) ?_
   simp
   by_cases h3 : Jbf c.parts t = 0
   . have hP : rpP c t = ⟨Jbx c (befD t), aftD t⟩ := if_pos (hE.trans h3)
     have hR : Jb8 c.parts t = ⟨befD t, aftD t⟩ := if_pos h3
     simp [h3, hR]
     refine Jde ?_
     simp
     refine ⟨_, Jst c.parts (fun p => decide (p.name = befD t)) 100 [.iptr 2 [[.str (befD t), .str (aftD t)]] 0 0] rfl hs.parts (fun p _ => J1p p (befD t) (aftD t)), rfl, ?_⟩
     simp [Jaa, hE, hP, h3, Jbx]
   . have hP : rpP c t = ⟨0, []⟩ := by unfold rpP; rw [if_neg (by rw [hE]; exact h3)]
     simp [h3, Jaa, hE, hP]
 . have hE : rpE c t = Jac c := if_pos h
   have hP : rpP c t = ⟨0, []⟩ := by unfold rpP; rw [if_neg (by rw [hE]; exact h)]
   simp [h, hE, hP, Jaa]
end Go.Am
