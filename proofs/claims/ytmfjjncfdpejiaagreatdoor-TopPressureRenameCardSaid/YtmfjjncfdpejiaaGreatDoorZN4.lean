/- Lemmas and contracts for the proof of a statement of this seat. -/
import Derived.Test.YtmfjjncfdpejiaaGreatDoorZN1
import Derived.Test.YtmfjjncfdpejiaaGreatDoorZC6
import Derived.Test.YtmfjjncfdpejiaaGreatDoorZF5
import Derived.Test.YtmfjjncfdpejiaaGreatDoorZA8
import Derived.Test.YtmfjjncfdpejiaaGreatDoorZCA
set_option linter.unusedVariables false
set_option linter.unusedSimpArgs false
namespace Go.Am
open Go Go.Proofs Go.Pn
theorem J5b (a b : End) : Pure Tryz.prog GL 155 [a.av, b.av] (.p (.int .i64 (Jch a b))) := by
 refine Pure.of_walk (N := 17) Tryz.func155 rfl rfl rfl (by simp) (by first | (simp; done) | simp [*]) ?_
 simp
 refine Jaj.intro (by kernel_rfl) ?_
 simp
 refine Jab (Jqi a.part b.part) ?_
 simp
 refine Jab (Jqi a.port b.port) ?_
 simp
 refine Jcv ?_
 simp
 refine ⟨_, Jmx [Lib.compareBytes a.part b.part, Lib.compareBytes a.port b.port] (by simp), rfl, ?_⟩
 simp [Jaa, Jch]
 exact .of (by kernel_rfl)
theorem Jvo (a b : End) : Pure Tryz.prog GL 83 [a.av, b.av] ((ordE a b).av) := by
 refine Pure.of_walk (N := 14) Tryz.func83 rfl rfl rfl (by simp) (by first | (simp; done) | simp [*]) ?_
 simp
 refine Jab (J5b a b) ?_
 by_cases h : 0 < Jch a b
 . have e : ordE a b = (b, a) := if_pos h
   simp [h, Jaa, e]
 . have e : ordE a b = (a, b) := if_neg h
   simp [h, Jaa, e]
theorem Jmy (c : Circuit) (p : Port) (h0 : 0 <= p.part) (h1 : p.part.toNat < c.parts.length) : Pure Tryz.prog GL 82 [c.av, p.av] ((Jbj c p).av) := by
 refine Pure.of_walk (N := 15) Tryz.func82 rfl rfl rfl (by simp) (by first | (simp; done) | simp [*]) ?_
 obtain ⟨i, s⟩ := p
 simp only at h0 h1
 obtain ⟨k, rfl⟩ := Int.eq_ofNat_of_zero_le h0
 simp only [Int.toNat_natCast] at h1
 obtain ⟨q, e⟩ := Jae h1
 simp
 refine Jaj.intro (by kernel_rfl) ?_
 simp [h1, e, -getElem?_pos, List.getElem?_cons_zero, List.getElem?_cons_succ]
 have hn : nameAt c (k : Int) = q.name := by unfold nameAt; rw [Int.toNat_natCast, e]
 simp [Jaa, Jbj, hn]
 exact .of (by kernel_rfl)
end Go.Am
namespace Go.Am
open Go Go.Proofs Go.Pn
theorem J7m (a b c d a' b' c' d' : Txt) : eqA Tryz.prog 8 139 (.agg [.p (.str a), .p (.str b), .p (.str c), .p (.str d)]) (.agg [.p (.str a'), .p (.str b'), .p (.str c'), .p (.str d')]) = some (decide ((a = a' /\ b = b') /\ (c = c' /\ d = d'))) := by
 have : eqA Tryz.prog 8 139 (.agg [.p (.str a), .p (.str b), .p (.str c), .p (.str d)]) (.agg [.p (.str a'), .p (.str b'), .p (.str c'), .p (.str d')]) = some ((decide (a = a') && (decide (b = b') && true)) && ((decide (c = c') && (decide (d = d') && true)) && true)) := by kernel_rfl
 rw [this]; simp [Bool.decide_and]
theorem J99 : KeyOk Tryz.prog 139 IsS4 := Kac (by kernel_rfl) (fun w em a b c d => by kernel_rfl) J7m
theorem Jrg : KeyOk Tryz.prog 9 IsS := keyS (by kernel_rfl) (fun w em n => by kernel_rfl)
def Jb7 (ps : List Part) : List (AV × AV) := ps.map fun p => (.p (.str p.name), p.av)
def Jcl (xs : List EndP) : List (AV × AV) := xs.map fun x => (x.av, .p (.bool true))
def putN : List Part -> Part -> List Part
 | [], p => [p]
 | q :: ps, p => if q.name = p.name then p :: ps else q :: putN ps p
def insX (xs : List EndP) (x : EndP) : List EndP := if x ∈ xs then xs else xs ++ [x]
theorem Jwq {x y : EndP} (h : x.av = y.av) : x = y := by
 obtain ⟨⟨a, b⟩, ⟨c, d⟩⟩ := x; obtain ⟨⟨e, f⟩, ⟨g, h⟩⟩ := y
 simp at h
 obtain ⟨rfl, rfl, rfl, rfl⟩ := h
 rfl
theorem J3y {ps : List Part} {s : Txt} : Jak (Jb7 ps) (.p (.str s)) = (ps.find? fun p => decide (p.name = s)).map Part.av := by
 induction ps with
 | nil => rfl
 | cons p ps ih =>
   show Jak ((.p (.str p.name), p.av) :: Jb7 ps) _ = _
   rw [Jd0, ih]
   by_cases h : p.name = s
   . subst h; simp
   . rw [if_neg (by simpa using h), List.find?_cons_of_neg (by simpa using h)]
theorem J1i {ps : List Part} {p : Part} : setA (Jb7 ps) (.p (.str p.name)) p.av = Jb7 (putN ps p) := by
 induction ps with
 | nil => rfl
 | cons q ps ih =>
   show setA ((.p (.str q.name), q.av) :: Jb7 ps) _ _ = _
   rw [setA, putN]
   by_cases h : q.name = p.name
   . rw [if_pos (by rw [h]), if_pos h]; rfl
   . rw [if_neg (by simpa using h), if_neg h, ih]; rfl
theorem Kfz {xs : List EndP} {x : EndP} : setA (Jcl xs) x.av (.p (.bool true)) = Jcl (insX xs x) := by
 induction xs with
 | nil => rfl
 | cons y xs ih =>
   show setA ((y.av, .p (.bool true)) :: Jcl xs) _ _ = _
   rw [setA]
   by_cases h : y = x
   . subst h
     rw [if_pos rfl]
     unfold insX
     rw [if_pos (by simp)]; rfl
   . rw [if_neg (fun e => h (Jwq e)), ih]
     unfold insX
     by_cases h2 : x ∈ xs
     . rw [if_pos h2, if_pos (by simp [h2])]; rfl
     . rw [if_neg h2, if_neg (by simp [h2]; exact fun e => h e.symm)]; rfl
@[simp] theorem Kjd {ps : List Part} {s : Txt} : Jak (Jb7 ps) (.p (.str s)) = (ps.find? fun p => decide (p.name = s)).map Part.av := J3y
@[simp] theorem Kjl {xs : List EndP} {x : EndP} : setA (Jcl xs) (.agg [.p (.str x.1.part), .p (.str x.1.port), .p (.str x.2.part), .p (.str x.2.port)]) (.p (.bool true)) = Jcl (insX xs x) := Kfz
@[simp] theorem Ki5 {ps : List Part} {s : Txt} : Jb0 Tryz.prog 9 (Jb7 ps) (.p (.str s)) = True :=
 eq_true ⟨_, Jrg, ⟨_, rfl⟩, fun e he => by obtain ⟨p, _, rfl⟩ := List.mem_map.1 he; exact ⟨_, rfl⟩⟩
@[simp] theorem Ki6 {xs : List EndP} {a b c d : Txt} : Jb0 Tryz.prog 139 (Jcl xs) (.agg [.p (.str a), .p (.str b), .p (.str c), .p (.str d)]) = True :=
 eq_true ⟨_, J99, ⟨_, _, _, _, rfl⟩, fun e he => by obtain ⟨p, _, rfl⟩ := List.mem_map.1 he; exact ⟨_, _, _, _, rfl⟩⟩
@[simp] theorem Kj4 {ps : List Part} {ρ : List Nat} : renE ρ (Jb7 ps) = some (Jb7 ps) :=
 Jj6 fun e he => by obtain ⟨p, _, rfl⟩ := List.mem_map.1 he; exact ⟨rfl, rfl⟩
@[simp] theorem Kj5 {xs : List EndP} {ρ : List Nat} : renE ρ (Jcl xs) = some (Jcl xs) :=
 Jj6 fun e he => by obtain ⟨p, _, rfl⟩ := List.mem_map.1 he; exact ⟨rfl, rfl⟩
@[simp] theorem Kjb {ps : List Part} : (Jb7 ps).length = ps.length := List.length_map ..
theorem Jxe (s : Store) (nx : Nat) : Gives Tryz.prog GL 65 [] s nx (.ptr (nx + 2) 2 0 0) [] [(nx, some (.map [])), (nx + 1, some (.map [])), (nx + 2, some (.cells 2 [[.map nx, .map (nx + 1)]]))] (nx + 3) := by
 refine Gives.mk_walkK (N := 5) (args := []) [] [] [] [(0, some (.map [])), (1, some (.map [])), (2, some (.cells 2 [[.map 0, .map 1]]))] 0 3 (.ptr 2 2 0 0) (nms [1, 2, 4]) (up1 := [(nx, some (.map [])), (nx + 1, some (.map [])), (nx + 2, some (.cells 2 [[.map nx, .map (nx + 1)]]))]) Tryz.func65 rfl rfl rfl (by simp) rfl (by simp) (by simp) (by simp) rfl (by simp) rfl ?_
 simp
def addN (ps l : List Part) : List Part := l.foldl putN ps
def addX (xs l : List EndP) : List EndP := l.foldl insX xs
end Go.Am
namespace Go.Am
open Go Go.Proofs Go.Pn
@[simp] theorem Kq2 : Jdy Tryz.prog 72 = some true := by kernel_rfl
end Go.Am
namespace Go.Am
open Go Go.Proofs Go.Pn
theorem J0s {ps : List Part} {p : Part} (h : p.name ∉ ps.map (·.name)) : putN ps p = ps ++ [p] := by
 induction ps with
 | nil => rfl
 | cons q ps ih =>
   rw [List.map_cons, List.mem_cons, not_or] at h
   rw [putN, if_neg (fun e => h.1 e.symm), ih h.2]; rfl
theorem Juf {l : List Part} : ∀ {ps : List Part}, ((ps ++ l).map (·.name)).Nodup -> addN ps l = ps ++ l := by
 induction l with
 | nil => intro ps _; simp [addN]
 | cons p l ih =>
   intro ps h
   have hp : p.name ∉ ps.map (·.name) := by
     rw [List.map_append, List.nodup_append] at h
     intro hm
     exact h.2.2 _ hm p.name (by simp) rfl
   show addN (putN ps p) l = _
   rw [J0s hp, ih (by simpa using h)]
   simp
end Go.Am
