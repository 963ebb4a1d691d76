/- Lemmas and contracts for the proof of a statement of this seat. -/
import Derived.Test.YtmfjjncfdpejiaaGreatDoorZN1
import Derived.Test.YtmfjjncfdpejiaaGreatDoorZC6
import Derived.Test.YtmfjjncfdpejiaaGreatDoorZF1
import Derived.Test.YtmfjjncfdpejiaaGreatDoorZA7
import Derived.Test.YtmfjjncfdpejiaaGreatDoorZCA
set_option linter.unusedVariables false
set_option linter.unusedSimpArgs false
namespace Go.Am
open Go Go.Proofs Go.Pn
theorem J06 (a b : End) : Pure Tryz.prog GL 155 [a.av, b.av] (.p (.int .i64 (Jcp a b))) := by
 refine Pure.of_walk (N := 17) Tryz.func155 rfl rfl rfl (by simp) (by first | (simp; done) | simp [*]) ?_
 simp
 refine Jag.intro (by kernel_rfl) ?_
 simp
 refine Jab (Joi a.part b.part) ?_
 simp
 refine Jab (Joi a.port b.port) ?_
 simp
 refine Jf0 ?_
 simp
 refine ⟨_, Joc [Lib.compareBytes a.part b.part, Lib.compareBytes a.port b.port] (by simp), rfl, ?_⟩
 simp [Jaa, Jcp]
 exact .of (by kernel_rfl)
theorem Joe (a b : End) : Pure Tryz.prog GL 83 [a.av, b.av] ((ordE a b).av) := by
 refine Pure.of_walk (N := 14) Tryz.func83 rfl rfl rfl (by simp) (by first | (simp; done) | simp [*]) ?_
 simp
 refine Jab (J06 a b) ?_
 by_cases h : 0 < Jcp a b
 . have e : ordE a b = (b, a) := if_pos h
   simp [h, Jaa, e]
 . have e : ordE a b = (a, b) := if_neg h
   simp [h, Jaa, e]
theorem Jlc (c : Circuit) (p : Port) (h0 : 0 <= p.part) (h1 : p.part.toNat < c.parts.length) : Pure Tryz.prog GL 82 [c.av, p.av] ((Jbn c p).av) := by
 refine Pure.of_walk (N := 15) Tryz.func82 rfl rfl rfl (by simp) (by first | (simp; done) | simp [*]) ?_
 obtain ⟨i, s⟩ := p
 simp only at h0 h1
 obtain ⟨k, rfl⟩ := Int.eq_ofNat_of_zero_le h0
 simp only [Int.toNat_natCast] at h1
 obtain ⟨q, e⟩ := Jah h1
 simp
 refine Jag.intro (by kernel_rfl) ?_
 simp [h1, e, -getElem?_pos, List.getElem?_cons_zero, List.getElem?_cons_succ]
 have hn : nameAt c (k : Int) = q.name := by unfold nameAt; rw [Int.toNat_natCast, e]
 simp [Jaa, Jbn, hn]
 exact .of (by kernel_rfl)
end Go.Am
namespace Go.Am
open Go Go.Proofs Go.Pn
theorem J22 (a b c d a' b' c' d' : Txt) : eqA Tryz.prog 8 139 (.agg [.p (.str a), .p (.str b), .p (.str c), .p (.str d)]) (.agg [.p (.str a'), .p (.str b'), .p (.str c'), .p (.str d')]) = some (decide ((a = a' /\ b = b') /\ (c = c' /\ d = d'))) := by
 have : eqA Tryz.prog 8 139 (.agg [.p (.str a), .p (.str b), .p (.str c), .p (.str d)]) (.agg [.p (.str a'), .p (.str b'), .p (.str c'), .p (.str d')]) = some ((decide (a = a') && (decide (b = b') && true)) && ((decide (c = c') && (decide (d = d') && true)) && true)) := by kernel_rfl
 rw [this]; simp [Bool.decide_and]
theorem J4j : KeyOk Tryz.prog 139 IsS4 := J4l (by kernel_rfl) (fun w em a b c d => by kernel_rfl) J22
theorem Jh8 : KeyOk Tryz.prog 9 IsS := keyS (by kernel_rfl) (fun w em n => by kernel_rfl)
def Ja2 (ps : List Part) : List (AV × AV) := ps.map fun p => (.p (.str p.name), p.av)
def Ja3 (xs : List EndP) : List (AV × AV) := xs.map fun x => (x.av, .p (.bool true))
def putN : List Part -> Part -> List Part
 | [], p => [p]
 | q :: ps, p => if q.name = p.name then p :: ps else q :: putN ps p
def insX (xs : List EndP) (x : EndP) : List EndP := if x ∈ xs then xs else xs ++ [x]
theorem Jop {x y : EndP} (h : x.av = y.av) : x = y := by
 obtain ⟨⟨a, b⟩, ⟨c, d⟩⟩ := x; obtain ⟨⟨e, f⟩, ⟨g, h⟩⟩ := y
 simp at h
 obtain ⟨rfl, rfl, rfl, rfl⟩ := h
 rfl
theorem Jzr {ps : List Part} {s : Txt} : Jal (Ja2 ps) (.p (.str s)) = (ps.find? fun p => decide (p.name = s)).map Part.av := by
 induction ps with
 | nil => rfl
 | cons p ps ih =>
   show Jal ((.p (.str p.name), p.av) :: Ja2 ps) _ = _
   rw [Jeh, ih]
   by_cases h : p.name = s
   . subst h; simp
   . rw [if_neg (by simpa using h), List.find?_cons_of_neg (by simpa using h)]
theorem Jm6 {ps : List Part} {p : Part} : setA (Ja2 ps) (.p (.str p.name)) p.av = Ja2 (putN ps p) := by
 induction ps with
 | nil => rfl
 | cons q ps ih =>
   show setA ((.p (.str q.name), q.av) :: Ja2 ps) _ _ = _
   rw [setA, putN]
   by_cases h : q.name = p.name
   . rw [if_pos (by rw [h]), if_pos h]; rfl
   . rw [if_neg (by simpa using h), if_neg h, ih]; rfl
theorem J8h {xs : List EndP} {x : EndP} : setA (Ja3 xs) x.av (.p (.bool true)) = Ja3 (insX xs x) := by
 induction xs with
 | nil => rfl
 | cons y xs ih =>
   show setA ((y.av, .p (.bool true)) :: Ja3 xs) _ _ = _
   rw [setA]
   by_cases h : y = x
   . subst h
     rw [if_pos rfl]
     unfold insX
     rw [if_pos (by simp)]; rfl
   . rw [if_neg (fun e => h (Jop e)), ih]
     unfold insX
     by_cases h2 : x ∈ xs
     . rw [if_pos h2, if_pos (by simp [h2])]; rfl
     . rw [if_neg h2, if_neg (by simp [h2]; exact fun e => h e.symm)]; rfl
theorem Jzs {xs : List EndP} {x : EndP} : Jal (Ja3 xs) x.av = if x ∈ xs then some (.p (.bool true)) else none := by
 induction xs with
 | nil => rfl
 | cons y xs ih =>
   show Jal ((y.av, .p (.bool true)) :: Ja3 xs) _ = _
   rw [Jeh, ih]
   by_cases h : y = x
   . subst h; simp
   . rw [if_neg (fun e => h (Jop e))]
     by_cases h2 : x ∈ xs
     . simp [h2]
     . rw [if_neg h2, if_neg (by simp [h2]; exact fun e => h e.symm)]
@[simp] theorem Kbj {ps : List Part} {s : Txt} : Jal (Ja2 ps) (.p (.str s)) = (ps.find? fun p => decide (p.name = s)).map Part.av := Jzr
@[simp] theorem Kbs {xs : List EndP} {x : EndP} : setA (Ja3 xs) (.agg [.p (.str x.1.part), .p (.str x.1.port), .p (.str x.2.part), .p (.str x.2.port)]) (.p (.bool true)) = Ja3 (insX xs x) := J8h
@[simp] theorem Kbk {xs : List EndP} {x : EndP} : Jal (Ja3 xs) (.agg [.p (.str x.1.part), .p (.str x.1.port), .p (.str x.2.part), .p (.str x.2.port)]) = if x ∈ xs then some (.p (.bool true)) else none := Jzs
@[simp] theorem Kba {ps : List Part} {s : Txt} : Jb9 Tryz.prog 9 (Ja2 ps) (.p (.str s)) = True :=
 eq_true ⟨_, Jh8, ⟨_, rfl⟩, fun e he => by obtain ⟨p, _, rfl⟩ := List.mem_map.1 he; exact ⟨_, rfl⟩⟩
@[simp] theorem Kbb {xs : List EndP} {a b c d : Txt} : Jb9 Tryz.prog 139 (Ja3 xs) (.agg [.p (.str a), .p (.str b), .p (.str c), .p (.str d)]) = True :=
 eq_true ⟨_, J4j, ⟨_, _, _, _, rfl⟩, fun e he => by obtain ⟨p, _, rfl⟩ := List.mem_map.1 he; exact ⟨_, _, _, _, rfl⟩⟩
@[simp] theorem Kcf {ps : List Part} {ρ : List Nat} : renE ρ (Ja2 ps) = some (Ja2 ps) :=
 Jj8 fun e he => by obtain ⟨p, _, rfl⟩ := List.mem_map.1 he; exact ⟨rfl, rfl⟩
@[simp] theorem Kcg {xs : List EndP} {ρ : List Nat} : renE ρ (Ja3 xs) = some (Ja3 xs) :=
 Jj8 fun e he => by obtain ⟨p, _, rfl⟩ := List.mem_map.1 he; exact ⟨rfl, rfl⟩
@[simp] theorem Kbg {ps : List Part} : (Ja2 ps).length = ps.length := List.length_map ..
@[simp] theorem Kbh {xs : List EndP} : (Ja3 xs).length = xs.length := List.length_map ..
theorem Jlt (s : Store) (nx : Nat) : Gives Tryz.prog GL 65 [] s nx (.ptr (nx + 2) 2 0 0) [] [(nx, some (.map [])), (nx + 1, some (.map [])), (nx + 2, some (.cells 2 [[.map nx, .map (nx + 1)]]))] (nx + 3) := by
 refine Gives.mk_walkK (N := 5) (args := []) [] [] [] [(0, some (.map [])), (1, some (.map [])), (2, some (.cells 2 [[.map 0, .map 1]]))] 0 3 (.ptr 2 2 0 0) (nms [1, 2, 4]) (up1 := [(nx, some (.map [])), (nx + 1, some (.map [])), (nx + 2, some (.cells 2 [[.map nx, .map (nx + 1)]]))]) Tryz.func65 rfl rfl rfl (by simp) rfl (by simp) (by simp) (by simp) rfl (by simp) rfl ?_
 simp
def addN (ps l : List Part) : List Part := l.foldl putN ps
def addX (xs l : List EndP) : List EndP := l.foldl insX xs
end Go.Am
namespace Go.Am
open Go Go.Proofs Go.Pn
theorem J9w (b : UInt8) : ((b.toNat : Int)).toNat.toUInt8 = b := by rw [Int.toNat_natCast]; exact UInt8.ofNat_toNat
theorem J01 (s : Txt) (b : UInt8) : Pure Tryz.prog GL 252 [.p (.str s), .p (.str [b])] (.p (.int .i64 (Lib.indexByte s b))) := by
 refine Pure.of_walk (N := 143) Tryz.func252 rfl rfl rfl (by simp) (by first | (simp; done) | simp [*]) ?_
 simp
 by_cases h : [b] = s
 . subst h
   simp [Jaa, Lib.indexByte]
 simp [h]
 refine Jab (Jss s b.toNat) ?_
 simp [Jaa, J9w]
theorem Jo8 {s : Txt} {b : UInt8} : Lib.indexByte s b = idxI s fun x => decide (x = b) := by
 induction s with
 | nil => rfl
 | cons x s ih =>
   unfold Lib.indexByte
   rw [ih]
   unfold idxI
   rw [List.findIdx?_cons]
   by_cases h : x = b
   . subst h; simp
   . simp only [beq_iff_eq, h, if_false, decide_false]
     cases s.findIdx? fun x => decide (x = b) with
     | none => simp
     | some i =>
       simp
       try omega
theorem J36 (s : Txt) (b : UInt8) : Lib.indexByte s b = -1 \/ ∃ k : Nat, Lib.indexByte s b = k /\ k < s.length := by
 rw [Jo8]; unfold idxI
 cases e : s.findIdx? fun x => decide (x = b) with
 | none => exact .inl rfl
 | some k => exact .inr ⟨k, rfl, (List.findIdx?_eq_some_iff_findIdx_eq.1 e).1⟩
def cutB (s : Txt) (b : UInt8) : Txt × Txt × Bool := if Lib.indexByte s b < 0 then (s, [], false) else (s.take (Lib.indexByte s b).toNat, s.drop ((Lib.indexByte s b).toNat + 1), true)
theorem J0y (s : Txt) (b : UInt8) (hl : s.length < 4611686018427387904) : Pure Tryz.prog GL 230 [.p (.str s), .p (.str [b])] (.tup [.p (.str (cutB s b).1), .p (.str (cutB s b).2.1), .p (.bool (cutB s b).2.2)]) := by
 refine Pure.of_walk (N := 23) Tryz.func230 rfl rfl rfl (by simp) (by first | (simp; done) | simp [*]) ?_
 simp
 refine Jab (J01 s b) ?_
 rcases J36 s b with h | ⟨k, h, hk⟩
 . simp [h, Jaa, cutB]
 . have e1 : (0 : Int) <= k /\ (k : Int) <= s.length := by omega
   have e2 : (0 : Int) <= k + 1 /\ (k : Int) + 1 <= s.length := by omega
   rw [h]
   simp
   refine Jag.intro (by kernel_rfl) ?_
   have ht : List.take (s.length - (k + 1)) (s.drop (k + 1)) = s.drop (k + 1) := List.take_of_length_le (by simp)
   simp [e1, e2]
   refine ⟨wrap_i64 (by omega) (by omega), .of (by kernel_rfl), ?_⟩
   have hn : ¬ (k : Int) < 0 := by omega
   simp [Jaa, cutB, h, ht, hn]
theorem Js4 (s : Txt) (b : UInt8) (hl : s.length < 4611686018427387904) : Pure Tryz.prog GL 148 [.p (.str s), .p (.str [b])] (.tup [.p (.str (cutB s b).1), .p (.str (cutB s b).2.1), .p (.bool (cutB s b).2.2)]) := by
 refine Pure.of_walk (N := 13) Tryz.func148 rfl rfl rfl (by simp) (by first | (simp; done) | simp [*]) ?_
 simp
 refine Jab (J0y s b hl) ?_
 simp [Jaa]
theorem J2l {s : Txt} : cutB s 46 = if dotI s < 0 then (s, [], false) else (befD s, aftD s, true) := by
 unfold cutB befD aftD dotI; rw [Jo8]
theorem J38 {α : Type} {xs : List α} {q : α -> Bool} : idxI xs q < 0 ↔ ∀ x ∈ xs, q x = false := by
 unfold idxI
 cases e : xs.findIdx? q with
 | none => simpa using List.findIdx?_eq_none_iff.1 e
 | some k =>
   refine ⟨fun h => by simp only at h; omega, fun h => ?_⟩
   obtain ⟨h3, h4, _⟩ := List.findIdx?_eq_some_iff_getElem.1 e
   have h5 := h _ (List.getElem_mem h3)
   rw [h5] at h4
   cases h4
@[simp] theorem Ki6 : Jdz Tryz.prog 72 = some true := by kernel_rfl
theorem J71 {k : Int} {s : Txt} (h : 0 <= k /\ k < 14) : Jpz k s = decide (0 <= Jdv k.toNat s) := by
 have hk : k.toNat < 14 := by omega
 have a := (by decide +kernel : ∀ k, k < 14 -> (∀ l ∈ Jbt k, ∀ t ∈ l, t ∈ Jbb k) /\ ∀ t ∈ Jbb k, ∃ l ∈ Jbt k, t ∈ l) k.toNat hk
 have b := Jp0 (k := k.toNat) (s := s) hk
 have c : Jdv k.toNat s < 0 ↔ ¬ s ∈ Jbb k.toNat := by
   unfold Jdv
   rw [J38]
   constructor
   . intro h2 h3
     obtain ⟨l, hl, hs⟩ := a.2 s h3
     simpa [hs] using h2 l hl
   . intro h2 l hl
     rw [decide_eq_false_iff_not]
     exact fun hs => h2 (a.1 l hl s hs)
 unfold Jpz
 rw [decide_eq_decide]
 constructor
 . intro h2
   have : ¬ Jd5 k.toNat s < 0 := by omega
   have h3 : ¬ Jdv k.toNat s < 0 := fun h4 => this (b.2 (c.1 h4))
   omega
 . intro h2
   have : ¬ Jdv k.toNat s < 0 := by omega
   have h3 : ¬ Jd5 k.toNat s < 0 := fun h4 => this (c.2 (b.1 h4))
   omega
set_option maxRecDepth 20000 in
theorem Jua (ps : List Part) (xs : List EndP) (t : Txt) (hk : ∀ p ∈ ps, 0 <= p.kind /\ p.kind < 14) (hl : t.length < 4611686018427387904) (s : Store) (nx d m q : Nat) (hnd : [d, m, q].Nodup) (hlt : ∀ b ∈ [d, m, q], b < nx)
   (g0 : get s d = some (.cells 2 [[.map m, .map q]])) (g1 : get s m = some (.map (Ja2 ps))) (g2 : get s q = some (.map (Ja3 xs))) :
   Gives Tryz.prog GL 98 [.ptr d 2 0 0, .p (.str t)] s nx (.tup [(Jcg ps t).av, .p (.int .i64 (Jcn ps t))]) [d, m, q] [] nx := by
 refine Gives.mk_walkK (N := 46) (args := [.ptr 0 2 0 0, .p (.str t)]) [d, m, q] [] [(0, some (.cells 2 [[.map 1, .map 2]])), (1, some (.map (Ja2 ps))), (2, some (.map (Ja3 xs)))]
   [] 3 0 (.tup [(Jcg ps t).av, .p (.int .i64 (Jcn ps t))]) (fun _ => []) (up1 := []) Tryz.func98 rfl rfl rfl (by simp) rfl ?_ (by simp) (by simp) (by simp) (by simp) rfl ?_
 . refine ⟨?_, rfl, hnd, hlt, rfl⟩
   simp [g0, g1, g2]
 simp
 refine Jab (Js4 t 46 hl) ?_
 rw [J2l]
 by_cases h : dotI t < 0
 . have e1 : Jcn ps t = 4 := by unfold Jcn; rw [if_pos h]
   have e2 : Jcg ps t = ⟨[], []⟩ := by unfold Jcg; rw [if_neg (by rw [e1]; decide)]
   simp [h, e1, e2]
 simp [h]
 have hk14 : ∀ p ∈ ps, p.kind.toNat < 14 := fun p hp => by have := hk p hp; omega
 cases e : ps.find? fun p => decide (p.name = befD t) with
 | none =>
   have e0 : Jg6 ps (befD t) = none := by unfold Jg6; rw [e]; rfl
   have e1 : Jcn ps t = 6 := by unfold Jcn; rw [if_neg h, e0]
   have e2 : Jcg ps t = ⟨[], []⟩ := by unfold Jcg; rw [if_neg (by rw [e1]; decide)]
   simp [hit, e1, e2, zeroV]
 | some p =>
   have hp := List.mem_of_find?_eq_some e
   have hn : p.name = befD t := by simpa using List.find?_some e
   have e0 : Jg6 ps (befD t) = some p.kind := by unfold Jg6; rw [e]; rfl
   simp [hit]
   refine Jab (Jsy p.kind (aftD t) (hk p hp)) ?_
   have hr := J71 (s := aftD t) (hk p hp)
   by_cases h2 : Jdv p.kind.toNat (aftD t) < 0
   . have e1 : Jcn ps t = 6 := by unfold Jcn; rw [if_neg h, e0]; simp only; rw [hr, if_neg (by simpa using h2)]
     have e2 : Jcg ps t = ⟨[], []⟩ := by unfold Jcg; rw [if_neg (by rw [e1]; decide)]
     simp [h2, e1, e2]
   . have e1 : Jcn ps t = 0 := by unfold Jcn; rw [if_neg h, e0]; simp only; rw [hr, if_pos (by simpa using h2)]
     have e2 : Jcg ps t = ⟨befD t, aftD t⟩ := by unfold Jcg; rw [if_pos e1]
     simp [h2, e1, e2]
end Go.Am
namespace Go.Am
open Go Go.Proofs Go.Pn
theorem Jw0 {ps : List Part} {p : Part} (h : p.name ∉ ps.map (·.name)) : putN ps p = ps ++ [p] := by
 induction ps with
 | nil => rfl
 | cons q ps ih =>
   rw [List.map_cons, List.mem_cons, not_or] at h
   rw [putN, if_neg (fun e => h.1 e.symm), ih h.2]; rfl
theorem Jrt {l : List Part} : ∀ {ps : List Part}, ((ps ++ l).map (·.name)).Nodup -> addN ps l = ps ++ l := by
 induction l with
 | nil => intro ps _; simp [addN]
 | cons p l ih =>
   intro ps h
   have hp : p.name ∉ ps.map (·.name) := by
     rw [List.map_append, List.nodup_append] at h
     intro hm
     exact h.2.2 _ hm p.name (by simp) rfl
   show addN (putN ps p) l = _
   rw [Jw0 hp, ih (by simpa using h)]
   simp
end Go.Am
