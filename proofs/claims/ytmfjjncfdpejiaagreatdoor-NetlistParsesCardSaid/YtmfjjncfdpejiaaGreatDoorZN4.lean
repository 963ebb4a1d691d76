/- Lemmas and contracts for the proof of a statement of this seat. -/
import Derived.Test.YtmfjjncfdpejiaaGreatDoorZN1
import Derived.Test.YtmfjjncfdpejiaaGreatDoorZC6
import Derived.Test.YtmfjjncfdpejiaaGreatDoorZF1
import Derived.Test.YtmfjjncfdpejiaaGreatDoorZA7
import Derived.Test.YtmfjjncfdpejiaaGreatDoorZCA
set_option linter.unusedVariables false
set_option linter.unusedSimpArgs false
namespace Go.Am
open Go Go.Proofs Go.Pn
theorem Jx2 (a b : End) : Pure Tryz.prog GL 155 [a.av, b.av] (.p (.int .i64 (Jce a b))) := by
 refine Pure.of_walk (N := 17) Tryz.func155 rfl rfl rfl (by simp) (by first | (simp; done) | simp [*]) ?_
 simp
 refine Jaj.intro (by kernel_rfl) ?_
 simp
 refine Jab (Jm5 a.part b.part) ?_
 simp
 refine Jab (Jm5 a.port b.port) ?_
 simp
 refine Jc1 ?_
 simp
 refine ⟨_, Jmw [Lib.compareBytes a.part b.part, Lib.compareBytes a.port b.port] (by simp), rfl, ?_⟩
 simp [Jaa, Jce]
 exact .of (by kernel_rfl)
theorem Jmx (a b : End) : Pure Tryz.prog GL 83 [a.av, b.av] ((ordE a b).av) := by
 refine Pure.of_walk (N := 14) Tryz.func83 rfl rfl rfl (by simp) (by first | (simp; done) | simp [*]) ?_
 simp
 refine Jab (Jx2 a b) ?_
 by_cases h : 0 < Jce a b
 . have e : ordE a b = (b, a) := if_pos h
   simp [h, Jaa, e]
 . have e : ordE a b = (a, b) := if_neg h
   simp [h, Jaa, e]
theorem Jjy (c : Circuit) (p : Port) (h0 : 0 <= p.part) (h1 : p.part.toNat < c.parts.length) : Pure Tryz.prog GL 82 [c.av, p.av] ((Jbn c p).av) := by
 refine Pure.of_walk (N := 15) Tryz.func82 rfl rfl rfl (by simp) (by first | (simp; done) | simp [*]) ?_
 obtain ⟨i, s⟩ := p
 simp only at h0 h1
 obtain ⟨k, rfl⟩ := Int.eq_ofNat_of_zero_le h0
 simp only [Int.toNat_natCast] at h1
 obtain ⟨q, e⟩ := Jag h1
 simp
 refine Jaj.intro (by kernel_rfl) ?_
 simp [h1, e, -getElem?_pos, List.getElem?_cons_zero, List.getElem?_cons_succ]
 have hn : nameAt c (k : Int) = q.name := by unfold nameAt; rw [Int.toNat_natCast, e]
 simp [Jaa, Jbn, hn]
 exact .of (by kernel_rfl)
end Go.Am
namespace Go.Am
open Go Go.Proofs Go.Pn
theorem Jzx (a b c d a' b' c' d' : Txt) : eqA Tryz.prog 8 139 (.agg [.p (.str a), .p (.str b), .p (.str c), .p (.str d)]) (.agg [.p (.str a'), .p (.str b'), .p (.str c'), .p (.str d')]) = some (decide ((a = a' /\ b = b') /\ (c = c' /\ d = d'))) := by
 have : eqA Tryz.prog 8 139 (.agg [.p (.str a), .p (.str b), .p (.str c), .p (.str d)]) (.agg [.p (.str a'), .p (.str b'), .p (.str c'), .p (.str d')]) = some ((decide (a = a') && (decide (b = b') && true)) && ((decide (c = c') && (decide (d = d') && true)) && true)) := by kernel_rfl
 rw [this]; simp [Bool.decide_and]
theorem J1o : KeyOk Tryz.prog 139 IsS4 := J1p (by kernel_rfl) (fun w em a b c d => by kernel_rfl) Jzx
theorem Jha : KeyOk Tryz.prog 9 IsS := keyS (by kernel_rfl) (fun w em n => by kernel_rfl)
def Ja8 (ps : List Part) : List (AV × AV) := ps.map fun p => (.p (.str p.name), p.av)
def Ja9 (xs : List EndP) : List (AV × AV) := xs.map fun x => (x.av, .p (.bool true))
def putN : List Part -> Part -> List Part
 | [], p => [p]
 | q :: ps, p => if q.name = p.name then p :: ps else q :: putN ps p
def insX (xs : List EndP) (x : EndP) : List EndP := if x ∈ xs then xs else xs ++ [x]
theorem Jne {x y : EndP} (h : x.av = y.av) : x = y := by
 obtain ⟨⟨a, b⟩, ⟨c, d⟩⟩ := x; obtain ⟨⟨e, f⟩, ⟨g, h⟩⟩ := y
 simp at h
 obtain ⟨rfl, rfl, rfl, rfl⟩ := h
 rfl
theorem Jww {ps : List Part} {s : Txt} : Jat (Ja8 ps) (.p (.str s)) = (ps.find? fun p => decide (p.name = s)).map Part.av := by
 induction ps with
 | nil => rfl
 | cons p ps ih =>
   show Jat ((.p (.str p.name), p.av) :: Ja8 ps) _ = _
   rw [Jdv, ih]
   by_cases h : p.name = s
   . subst h; simp
   . rw [if_neg (by simpa using h), List.find?_cons_of_neg (by simpa using h)]
theorem Jlp {ps : List Part} {p : Part} : setA (Ja8 ps) (.p (.str p.name)) p.av = Ja8 (putN ps p) := by
 induction ps with
 | nil => rfl
 | cons q ps ih =>
   show setA ((.p (.str q.name), q.av) :: Ja8 ps) _ _ = _
   rw [setA, putN]
   by_cases h : q.name = p.name
   . rw [if_pos (by rw [h]), if_pos h]; rfl
   . rw [if_neg (by simpa using h), if_neg h, ih]; rfl
theorem J5l {xs : List EndP} {x : EndP} : setA (Ja9 xs) x.av (.p (.bool true)) = Ja9 (insX xs x) := by
 induction xs with
 | nil => rfl
 | cons y xs ih =>
   show setA ((y.av, .p (.bool true)) :: Ja9 xs) _ _ = _
   rw [setA]
   by_cases h : y = x
   . subst h
     rw [if_pos rfl]
     unfold insX
     rw [if_pos (by simp)]; rfl
   . rw [if_neg (fun e => h (Jne e)), ih]
     unfold insX
     by_cases h2 : x ∈ xs
     . rw [if_pos h2, if_pos (by simp [h2])]; rfl
     . rw [if_neg h2, if_neg (by simp [h2]; exact fun e => h e.symm)]; rfl
theorem Jwx {xs : List EndP} {x : EndP} : Jat (Ja9 xs) x.av = if x ∈ xs then some (.p (.bool true)) else none := by
 induction xs with
 | nil => rfl
 | cons y xs ih =>
   show Jat ((y.av, .p (.bool true)) :: Ja9 xs) _ = _
   rw [Jdv, ih]
   by_cases h : y = x
   . subst h; simp
   . rw [if_neg (fun e => h (Jne e))]
     by_cases h2 : x ∈ xs
     . simp [h2]
     . rw [if_neg h2, if_neg (by simp [h2]; exact fun e => h e.symm)]
@[simp] theorem J79 {ps : List Part} {s : Txt} : Jat (Ja8 ps) (.p (.str s)) = (ps.find? fun p => decide (p.name = s)).map Part.av := Jww
@[simp] theorem J8h {xs : List EndP} {x : EndP} : setA (Ja9 xs) (.agg [.p (.str x.1.part), .p (.str x.1.port), .p (.str x.2.part), .p (.str x.2.port)]) (.p (.bool true)) = Ja9 (insX xs x) := J5l
@[simp] theorem J8a {xs : List EndP} {x : EndP} : Jat (Ja9 xs) (.agg [.p (.str x.1.part), .p (.str x.1.port), .p (.str x.2.part), .p (.str x.2.port)]) = if x ∈ xs then some (.p (.bool true)) else none := Jwx
@[simp] theorem J74 {ps : List Part} {s : Txt} : Jc3 Tryz.prog 9 (Ja8 ps) (.p (.str s)) = True :=
 eq_true ⟨_, Jha, ⟨_, rfl⟩, fun e he => by obtain ⟨p, _, rfl⟩ := List.mem_map.1 he; exact ⟨_, rfl⟩⟩
@[simp] theorem J75 {xs : List EndP} {a b c d : Txt} : Jc3 Tryz.prog 139 (Ja9 xs) (.agg [.p (.str a), .p (.str b), .p (.str c), .p (.str d)]) = True :=
 eq_true ⟨_, J1o, ⟨_, _, _, _, rfl⟩, fun e he => by obtain ⟨p, _, rfl⟩ := List.mem_map.1 he; exact ⟨_, _, _, _, rfl⟩⟩
@[simp] theorem J80 {ps : List Part} {ρ : List Nat} : renE ρ (Ja8 ps) = some (Ja8 ps) :=
 Ji2 fun e he => by obtain ⟨p, _, rfl⟩ := List.mem_map.1 he; exact ⟨rfl, rfl⟩
@[simp] theorem J81 {xs : List EndP} {ρ : List Nat} : renE ρ (Ja9 xs) = some (Ja9 xs) :=
 Ji2 fun e he => by obtain ⟨p, _, rfl⟩ := List.mem_map.1 he; exact ⟨rfl, rfl⟩
@[simp] theorem J77 {ps : List Part} : (Ja8 ps).length = ps.length := List.length_map ..
@[simp] theorem J78 {xs : List EndP} : (Ja9 xs).length = xs.length := List.length_map ..
theorem Jkn (s : Store) (nx : Nat) : Gives Tryz.prog GL 65 [] s nx (.ptr (nx + 2) 2 0 0) [] [(nx, some (.map [])), (nx + 1, some (.map [])), (nx + 2, some (.cells 2 [[.map nx, .map (nx + 1)]]))] (nx + 3) := by
 refine Gives.mk_walkK (N := 5) (args := []) [] [] [] [(0, some (.map [])), (1, some (.map [])), (2, some (.cells 2 [[.map 0, .map 1]]))] 0 3 (.ptr 2 2 0 0) (nms [1, 2, 4]) (up1 := [(nx, some (.map [])), (nx + 1, some (.map [])), (nx + 2, some (.cells 2 [[.map nx, .map (nx + 1)]]))]) Tryz.func65 rfl rfl rfl (by simp) rfl (by simp) (by simp) (by simp) rfl (by simp) rfl ?_
 simp
def addN (ps l : List Part) : List Part := l.foldl putN ps
def addX (xs l : List EndP) : List EndP := l.foldl insX xs
end Go.Am
namespace Go.Am
open Go Go.Proofs Go.Pn
theorem J6y (b : UInt8) : ((b.toNat : Int)).toNat.toUInt8 = b := by rw [Int.toNat_natCast]; exact UInt8.ofNat_toNat
theorem Jxv (s : Txt) (b : UInt8) : Pure Tryz.prog GL 252 [.p (.str s), .p (.str [b])] (.p (.int .i64 (Lib.indexByte s b))) := by
 refine Pure.of_walk (N := 143) Tryz.func252 rfl rfl rfl (by simp) (by first | (simp; done) | simp [*]) ?_
 simp
 by_cases h : [b] = s
 . subst h
   simp [Jaa, Lib.indexByte]
 simp [h]
 refine Jab (Jqa s b.toNat) ?_
 simp [Jaa, J6y]
theorem Jno {s : Txt} {b : UInt8} : Lib.indexByte s b = idxI s fun x => decide (x = b) := by
 induction s with
 | nil => rfl
 | cons x s ih =>
   unfold Lib.indexByte
   rw [ih]
   unfold idxI
   rw [List.findIdx?_cons]
   by_cases h : x = b
   . subst h; simp
   . simp only [beq_iff_eq, h, if_false, decide_false]
     cases s.findIdx? fun x => decide (x = b) with
     | none => simp
     | some i =>
       simp
       try omega
theorem J06 (s : Txt) (b : UInt8) : Lib.indexByte s b = -1 \/ ∃ k : Nat, Lib.indexByte s b = k /\ k < s.length := by
 rw [Jno]; unfold idxI
 cases e : s.findIdx? fun x => decide (x = b) with
 | none => exact .inl rfl
 | some k => exact .inr ⟨k, rfl, (List.findIdx?_eq_some_iff_findIdx_eq.1 e).1⟩
def cutB (s : Txt) (b : UInt8) : Txt × Txt × Bool := if Lib.indexByte s b < 0 then (s, [], false) else (s.take (Lib.indexByte s b).toNat, s.drop ((Lib.indexByte s b).toNat + 1), true)
theorem Jxs (s : Txt) (b : UInt8) (hl : s.length < 4611686018427387904) : Pure Tryz.prog GL 230 [.p (.str s), .p (.str [b])] (.tup [.p (.str (cutB s b).1), .p (.str (cutB s b).2.1), .p (.bool (cutB s b).2.2)]) := by
 refine Pure.of_walk (N := 23) Tryz.func230 rfl rfl rfl (by simp) (by first | (simp; done) | simp [*]) ?_
 simp
 refine Jab (Jxv s b) ?_
 rcases J06 s b with h | ⟨k, h, hk⟩
 . simp [h, Jaa, cutB]
 . have e1 : (0 : Int) <= k /\ (k : Int) <= s.length := by omega
   have e2 : (0 : Int) <= k + 1 /\ (k : Int) + 1 <= s.length := by omega
   rw [h]
   simp
   refine Jaj.intro (by kernel_rfl) ?_
   have ht : List.take (s.length - (k + 1)) (s.drop (k + 1)) = s.drop (k + 1) := List.take_of_length_le (by simp)
   simp [e1, e2]
   refine ⟨wrap_i64 (by omega) (by omega), .of (by kernel_rfl), ?_⟩
   have hn : ¬ (k : Int) < 0 := by omega
   simp [Jaa, cutB, h, ht, hn]
theorem Jqp (s : Txt) (b : UInt8) (hl : s.length < 4611686018427387904) : Pure Tryz.prog GL 148 [.p (.str s), .p (.str [b])] (.tup [.p (.str (cutB s b).1), .p (.str (cutB s b).2.1), .p (.bool (cutB s b).2.2)]) := by
 refine Pure.of_walk (N := 13) Tryz.func148 rfl rfl rfl (by simp) (by first | (simp; done) | simp [*]) ?_
 simp
 refine Jab (Jxs s b hl) ?_
 simp [Jaa]
theorem Jzh {s : Txt} : cutB s 46 = if dotI s < 0 then (s, [], false) else (befD s, aftD s, true) := by
 unfold cutB befD aftD dotI; rw [Jno]
theorem J09 {α : Type} {xs : List α} {q : α -> Bool} : idxI xs q < 0 ↔ ∀ x ∈ xs, q x = false := by
 unfold idxI
 cases e : xs.findIdx? q with
 | none => simpa using List.findIdx?_eq_none_iff.1 e
 | some k =>
   refine ⟨fun h => by simp only at h; omega, fun h => ?_⟩
   obtain ⟨h3, h4, _⟩ := List.findIdx?_eq_some_iff_getElem.1 e
   have h5 := h _ (List.getElem_mem h3)
   rw [h5] at h4
   cases h4
@[simp] theorem Kfh : Jdu Tryz.prog 72 = some true := by kernel_rfl
theorem J47 {k : Int} {s : Txt} (h : 0 <= k /\ k < 14) : Jge k s = decide (0 <= Jd2 k.toNat s) := by
 have hk : k.toNat < 14 := by omega
 have a := (by decide +kernel : ∀ k, k < 14 -> (∀ l ∈ Jbv k, ∀ t ∈ l, t ∈ Jb4 k) /\ ∀ t ∈ Jb4 k, ∃ l ∈ Jbv k, t ∈ l) k.toNat hk
 have b := Jt5 (k := k.toNat) (s := s) hk
 have c : Jd2 k.toNat s < 0 ↔ ¬ s ∈ Jb4 k.toNat := by
   unfold Jd2
   rw [J09]
   constructor
   . intro h2 h3
     obtain ⟨l, hl, hs⟩ := a.2 s h3
     simpa [hs] using h2 l hl
   . intro h2 l hl
     rw [decide_eq_false_iff_not]
     exact fun hs => h2 (a.1 l hl s hs)
 unfold Jge
 rw [decide_eq_decide]
 constructor
 . intro h2
   have : ¬ Jeb k.toNat s < 0 := by omega
   have h3 : ¬ Jd2 k.toNat s < 0 := fun h4 => this (b.2 (c.1 h4))
   omega
 . intro h2
   have : ¬ Jd2 k.toNat s < 0 := by omega
   have h3 : ¬ Jeb k.toNat s < 0 := fun h4 => this (c.2 (b.1 h4))
   omega
set_option maxRecDepth 20000 in
theorem Jrt (ps : List Part) (xs : List EndP) (t : Txt) (hk : ∀ p ∈ ps, 0 <= p.kind /\ p.kind < 14) (hl : t.length < 4611686018427387904) (s : Store) (nx d m q : Nat) (hnd : [d, m, q].Nodup) (hlt : ∀ b ∈ [d, m, q], b < nx)
   (g0 : get s d = some (.cells 2 [[.map m, .map q]])) (g1 : get s m = some (.map (Ja8 ps))) (g2 : get s q = some (.map (Ja9 xs))) :
   Gives Tryz.prog GL 98 [.ptr d 2 0 0, .p (.str t)] s nx (.tup [(Jas ps t).av, .p (.int .i64 (Jbc ps t))]) [d, m, q] [] nx := by
 refine Gives.mk_walkK (N := 46) (args := [.ptr 0 2 0 0, .p (.str t)]) [d, m, q] [] [(0, some (.cells 2 [[.map 1, .map 2]])), (1, some (.map (Ja8 ps))), (2, some (.map (Ja9 xs)))]
   [] 3 0 (.tup [(Jas ps t).av, .p (.int .i64 (Jbc ps t))]) (fun _ => []) (up1 := []) Tryz.func98 rfl rfl rfl (by simp) rfl ?_ (by simp) (by simp) (by simp) (by simp) rfl ?_
 . refine ⟨?_, rfl, hnd, hlt, rfl⟩
   simp [g0, g1, g2]
 simp
 refine Jab (Jqp t 46 hl) ?_
 rw [Jzh]
 by_cases h : dotI t < 0
 . have e1 : Jbc ps t = 4 := by unfold Jbc; rw [if_pos h]
   have e2 : Jas ps t = ⟨[], []⟩ := by unfold Jas; rw [if_neg (by rw [e1]; decide)]
   simp [h, e1, e2]
 simp [h]
 have hk14 : ∀ p ∈ ps, p.kind.toNat < 14 := fun p hp => by have := hk p hp; omega
 cases e : ps.find? fun p => decide (p.name = befD t) with
 | none =>
   have e0 : Jdy ps (befD t) = none := by unfold Jdy; rw [e]; rfl
   have e1 : Jbc ps t = 6 := by unfold Jbc; rw [if_neg h, e0]
   have e2 : Jas ps t = ⟨[], []⟩ := by unfold Jas; rw [if_neg (by rw [e1]; decide)]
   simp [hit, e1, e2, zeroV]
 | some p =>
   have hp := List.mem_of_find?_eq_some e
   have hn : p.name = befD t := by simpa using List.find?_some e
   have e0 : Jdy ps (befD t) = some p.kind := by unfold Jdy; rw [e]; rfl
   simp [hit]
   refine Jab (Jx6 p.kind (aftD t) (hk p hp)) ?_
   have hr := J47 (s := aftD t) (hk p hp)
   by_cases h2 : Jd2 p.kind.toNat (aftD t) < 0
   . have e1 : Jbc ps t = 6 := by unfold Jbc; rw [if_neg h, e0]; simp only; rw [hr, if_neg (by simpa using h2)]
     have e2 : Jas ps t = ⟨[], []⟩ := by unfold Jas; rw [if_neg (by rw [e1]; decide)]
     simp [h2, e1, e2]
   . have e1 : Jbc ps t = 0 := by unfold Jbc; rw [if_neg h, e0]; simp only; rw [hr, if_pos (by simpa using h2)]
     have e2 : Jas ps t = ⟨befD t, aftD t⟩ := by unfold Jas; rw [if_pos e1]
     simp [h2, e1, e2]
end Go.Am
namespace Go.Am
open Go Go.Proofs Go.Pn
def cntK (c : Circuit) (k : Nat) : List Int := (List.range 14).map fun (j : Nat) => (((c.parts.take k).countP fun p => decide (p.kind = (j : Int)) : Nat) : Int)
theorem Jih {c : Circuit} {k : Nat} : (cntK c k).length = 14 := by simp [cntK]
theorem Jj9 {c : Circuit} {k j : Nat} (hj : j < 14) : (cntK c k)[j]? = some (((c.parts.take k).countP fun p => decide (p.kind = (j : Int)) : Nat) : Int) := by
 simp [cntK, hj]
theorem Jzf {c : Circuit} {k : Nat} {p : Part} (e : c.parts[k]? = some p) (hp : 0 <= p.kind /\ p.kind < 14) :
   (cntK c k).set p.kind.toNat ((((c.parts.take k).countP fun q => decide (q.kind = ((p.kind.toNat : Nat) : Int)) : Nat) : Int) + 1) = cntK c (k + 1) := by
 refine List.ext_getElem? fun j => ?_
 by_cases hj : j < 14
 . rw [Jj9 hj, take_snoc e, List.countP_append]
   by_cases h : p.kind.toNat = j
   . subst h
     rw [List.getElem?_set_self (by rw [Jih]; exact hj)]
     have : p.kind = ((p.kind.toNat : Nat) : Int) := by omega
     simp [<- this]
   . rw [List.getElem?_set_ne h, Jj9 hj]
     have : ¬ p.kind = (j : Int) := by omega
     simp [this]
 . rw [List.getElem?_eq_none (by rw [List.length_set, Jih]; omega), List.getElem?_eq_none (by rw [Jih]; omega)]
theorem Jzg {c : Circuit} : cntK c 0 = List.replicate 14 0 := by
 refine List.ext_getElem? fun j => ?_
 by_cases hj : j < 14
 . rw [Jj9 hj, List.getElem?_replicate, if_pos hj]; simp
 . rw [List.getElem?_eq_none (by rw [Jih]; omega), List.getElem?_eq_none (by simp; omega)]
theorem Jze {c : Circuit} : cntK c c.parts.length = cntC c := by unfold cntK cntC; rw [List.take_length]
set_option maxRecDepth 20000 in
theorem Jx0 (c : Circuit) (hs : Sized c) : Pure Tryz.prog GL 25 [c.av] (.tup [.p (.lst 1 ((cntR c).map Int.enc)), .p (.int .i64 (Jaf c))]) := by
 refine Pure.of_walk (N := 30) Tryz.func25 rfl rfl rfl (by simp) (by first | (simp; done) | simp [*]) ?_
 simp
 refine Jab (Jf7 c hs) ?_
 by_cases h : Jaf c = 0
 . have hR : cntR c = cntC c := if_pos h
   have hpl := (Jj4 h).2.1
   simp [h, hR]
   refine Jah.go [5, 15, 16] [] 0 [] (fun _ => []) (fun _ (k : Nat) => [(17, .p (.int .i64 k))]) (fun _ k => [(1, some (.cells 1 ((cntK c k).map Int.row)))]) (fun k => k <= c.parts.length) (fun k => c.parts.length - k) 0 (by omega) ?_ ?_
   . simp [Jzg, List.replicate]
     try decide
   intro k hk
   have hcl := @Jih c k
   simp
   refine Jac (fun h3 => ?_) (fun h3 => ?_)
   . simp at h3
     obtain ⟨p, e⟩ := Jag h3
     have hp := (Jj4 h).1 p (List.mem_of_getElem? e)
     obtain ⟨j, hj⟩ := Int.eq_ofNat_of_zero_le hp.1
     have hj14 : j < 14 := by omega
     have hat := Jj9 (c := c) (k := k) hj14
     have hsn := Jzf e hp
     rw [hj, Int.toNat_natCast] at hsn
     have hcn : ((c.parts.take k).countP fun q => decide (q.kind = (j : Int))) <= k := by
       have := List.countP_le_length (p := fun q : Part => decide (q.kind = (j : Int))) (l := c.parts.take k)
       rw [List.length_take] at this
       omega
     simp [h3, e, hj, hj14, hcl, hat, -getElem?_pos, List.getElem?_cons_zero, List.getElem?_cons_succ]
     refine ⟨by omega, wrap_i64 (by omega) (by omega), by omega, wrap_i64 (by omega) (by omega), k + 1, by omega, by omega, by omega, ?_⟩
     rw [<- hsn, List.map_set]
     simp
   simp at h3
   have hkl : k = c.parts.length := by omega
   subst hkl
   rw [Jze] at *
   have ht : List.take 14 ((cntC c).map Int.row) = (cntC c).map Int.row := List.take_of_length_le (by simp [hcl])
   simp [Jaa, hR, hcl, h, ht]
   try rfl
 . have hR : cntR c = [] := if_neg h
   simp [h, hR, Jaa]
theorem Jug {ps : List Part} {p : Part} (h : p.name ∉ ps.map (·.name)) : putN ps p = ps ++ [p] := by
 induction ps with
 | nil => rfl
 | cons q ps ih =>
   rw [List.map_cons, List.mem_cons, not_or] at h
   rw [putN, if_neg (fun e => h.1 e.symm), ih h.2]; rfl
theorem Jpu {l : List Part} : ∀ {ps : List Part}, ((ps ++ l).map (·.name)).Nodup -> addN ps l = ps ++ l := by
 induction l with
 | nil => intro ps _; simp [addN]
 | cons p l ih =>
   intro ps h
   have hp : p.name ∉ ps.map (·.name) := by
     rw [List.map_append, List.nodup_append] at h
     intro hm
     exact h.2.2 _ hm p.name (by simp) rfl
   show addN (putN ps p) l = _
   rw [Jug hp, ih (by simpa using h)]
   simp
end Go.Am
