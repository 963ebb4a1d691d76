/- Lemmas and contracts for the proof of a statement of this seat. -/
import Derived.Test.YtmfjjncfdpejiaaGreatDoorZC5
import Derived.Test.YtmfjjncfdpejiaaGreatDoorZA5
set_option linter.unusedVariables false
set_option linter.unusedSimpArgs false
namespace Go.Am
open Go Go.Proofs Go.Pn
theorem Jt1 (c : Circuit) (s : Txt) (hs : Sized c) : Pure Tryz.prog GL 334 [.p (.str s), .iptr 2 [[.lst 3 (c.parts.map Part.enc), .lst 4 (c.pipes.map Pipe.enc)]] 0 0] (.p (.int .i64 (swAt c s))) := by
 refine Pure.of_walk (N := 20) Tryz.func334 rfl rfl rfl (by simp) (by first | (simp; done) | simp [*]) ?_
 simp
 refine Jab (Jik c s hs) ?_
 rw [<- Jb8, swAt]
 have h0 := Jgb c s
 generalize Jb8 c s = k at *
 rcases h0 with hk | ⟨j, x, hk, e, _⟩
 . simp [hk]
   simp [swK, Jaa]
 . obtain ⟨hj, _⟩ := gsI.1 e
   have hka : Jal c (j : Int) = x.kind := by rw [Jal, Int.toNat_natCast, e]; rfl
   have hk0 : 0 <= (j : Int) := by omega
   simp [hk, hk0]
   simp [hj, e, -getElem?_pos, List.getElem?_cons_zero, List.getElem?_cons_succ]
   by_cases h1 : x.kind = 6
   . simp [h1]
     simp [Jaa, swK, hk, hka, h1]
   . simp [h1]
     simp [Jaa, swK, hk, hka, h1, hk0]
theorem J2x (c : Circuit) (s : Txt) (hs : Sized c) (hl : s.length < 4611686018427387900) : Pure Tryz.prog GL 270 [c.av, .p (.str s)] (.tup [.p (.int .i64 (Jcu c s 48)), .p (.int .i64 (Jcu c s 49)), .p (.int .i64 (Jfb c s))]) := by
 refine Pure.of_walk (N := 38) Tryz.func270 rfl rfl rfl (by simp) (by first | (simp; done) | simp [*]) ?_
 simp
 refine Jab (Jhc c hs) ?_
 by_cases hc : Jad c = 0
 . simp [hc]
   refine Jab (Jik c s hs) ?_
   rw [<- Jb8]
   rcases Jgb c s with hk | ⟨j, x, hk, e, _⟩
   . simp [hk]
     simp [Jfb, Jcu, hc, hk, Jaa]
   . obtain ⟨hj, _⟩ := gsI.1 e
     have hka : Jal c (j : Int) = x.kind := by rw [Jal, Int.toNat_natCast, e]; rfl
     have hk0 : ¬ (j : Int) < 0 := by omega
     simp [hk, hk0]
     simp [hj, e, -getElem?_pos, List.getElem?_cons_zero, List.getElem?_cons_succ]
     by_cases h1 : x.kind = 1
     . simp [h1]
       refine ⟨by omega, ?_⟩
       refine Jef ?_
       simp
       refine ⟨_, Jt1 c (s ++ [48]) hs, rfl, ?_⟩
       refine ⟨by omega, ?_⟩
       refine Jef ?_
       simp
       refine ⟨_, Jt1 c (s ++ [49]) hs, rfl, ?_⟩
       simp [Jfb, Jcu, hc, hk, hka, h1, Jaa, hk0]
     . simp [h1]
       simp [Jfb, Jcu, hc, hk, hka, h1, Jaa, hk0]
 . simp [hc, Jaa, Jfb, Jcu]
end Go.Am
namespace Go.Am
open Go Go.Proofs Go.Pn
def Jne (g : Int -> Int) (x : Pipe) : Pipe := ⟨⟨g x.fr.part, x.fr.name⟩, ⟨g x.to.part, x.to.name⟩⟩
def Jdi (g : Int -> Int) (l : List Pipe) : List Pipe := l.map (Jne g)
theorem J8h {g : Int -> Int} {l : List Pipe} {k : Nat} {x : Pipe} (e : l[k]? = some x) : Jdi g (l.take (k + 1)) = Jdi g (l.take k) ++ [Jne g x] := by simp only [Jdi]; rw [take_snoc e]; simp
theorem J8g {g : Int -> Int} {l : List Pipe} : (Jdi g l).length = l.length := by simp [Jdi]
theorem Jt4 (l : List Pipe) (g : Int -> Int) (m : Nat) (cap : List AV) (hcap : Ja2 cap = true) (hl : l.length <= 1000) (hg : ∀ x ∈ l, Pure Tryz.prog GL m ((.p (.int .i64 x.fr.part)) :: cap) (.p (.int .i64 (g x.fr.part))) /\ Pure Tryz.prog GL m ((.p (.int .i64 x.to.part)) :: cap) (.p (.int .i64 (g x.to.part)))) : Pure Tryz.prog GL 137 [.p (.lst 4 (l.map Pipe.enc)), .fn (.func m) cap] (.p (.lst 4 ((Jdi g l).map Pipe.enc))) := by
 refine Pure.of_walk (N := 34) Tryz.func137 rfl rfl rfl (by simp) (by first | (simp; done) | simp [*]) ?_
 have hren := fun ρ => (Jec (ρ := ρ)).2 cap hcap
 simp
 refine Jaj.go [1, 8, 9] [] 1 [0] (nms [5]) (fun nx (i : Nat) => [(5, .acc nx 4 (Jdi g (l.take i)).length), (10, .p (.int .i64 i))]) (fun nx i => [(nx, accB 4 ((Jdi g (l.take i)).map Pipe.row))]) (fun i => i <= l.length) (fun i => l.length - i) 0 (by omega) ?_ ?_
 . simp [Jdi, hren]
 . intro i hi
   have hf := fun (x : Pipe) (e : l[i]? = some x) => J8h (g := g) e
   have hli := @J8g g (l.take i)
   have hA : i = l.length -> Jdi g (l.take i) = Jdi g l := fun h => by rw [h, List.take_length]
   generalize Jdi g (l.take i) = A at hf hA hli
   simp at hli
   simp
   refine Jac (fun h => ?_) (fun h => ?_)
   . simp at h
     obtain ⟨x, e⟩ := Jah h
     have hf := hf x e
     obtain ⟨g1, g2⟩ := hg x (List.mem_of_getElem? e)
     simp [h, e, -getElem?_pos, List.getElem?_cons_zero, List.getElem?_cons_succ]
     refine Jak.intro (by kernel_rfl) ?_
     simp
     refine Jab g1 ?_
     simp
     refine Jab g2 ?_
     simp
     refine ⟨.of (by kernel_rfl), ?_⟩
     refine ⟨by omega, wrap_i64 (by omega) (by omega), i + 1, by omega, by omega, ?_⟩
     simp [hf, Jne, hren]
   . simp at h
     have h3 : i = l.length := by omega
     rw [hA h3]
     simp [Jaa]
end Go.Am
namespace Go.Am
open Go Go.Proofs Go.Pn
def Jf4 (i k : Int) : Int := if i < k then k - 1 else k
theorem Jt2 (i k : Int) (hk : -1000 <= k /\ k <= 1000) : Pure Tryz.prog GL 138 [.p (.int .i64 k), .iptr 1 [[.int .i64 i]] 0 0] (.p (.int .i64 (Jf4 i k))) := by
 refine Pure.of_walk (N := 10) Tryz.func138 rfl rfl rfl (by simp) (by first | (simp; done) | simp [*]) ?_
 simp
 by_cases h : i < k
 . simp [h]
   refine ⟨wrap_i64 (by omega) (by omega), ?_⟩
   simp [Jaa, Jf4, h]
 . simp [h]
   simp [Jaa, Jf4, h]
theorem J21 (i : Int) (x : Pipe) : Pure Tryz.prog GL 134 [x.av, .iptr 1 [[.int .i64 i]] 0 0] (.p (.bool (decide (x.fr.part = i) || decide (x.to.part = i)))) := by
 refine Pure.of_walk (N := 16) Tryz.func134 rfl rfl rfl (by simp) (by first | (simp; done) | simp [*]) ?_
 simp
 by_cases h : x.fr.part = i
 . simp [h]
   simp [Jaa]
 . simp [h]
   simp [Jaa]
end Go.Am
namespace Go.Am
open Go Go.Proofs Go.Pn
end Go.Am
namespace Go.Am
open Go Go.Proofs Go.Pn
end Go.Am
namespace Go.Am
open Go Go.Proofs Go.Pn
theorem Jzd {ρ : List Nat} {b b' k : Nat} {rows : List (List AV)} (hb : ρ[b]? = some b') (h : renR ρ rows = some rows) : renS ρ [(b, accB k rows)] = some [(b', accB k rows)] := by
 unfold accB
 by_cases e : rows = []
 . simp [renS, e, hb]
 . simp [renS, e, hb, renB, h]
theorem J6q (l : List Pipe) (s : Store) (nx : Nat) (hn : l.length < 1000000) :
   Gives Tryz.prog GL 133 [.p (.lst 4 (l.map Pipe.enc))] s nx (.acc nx 4 l.length) [] [(nx, accB 4 (l.map Pipe.row))] (nx + 1) := by
 refine Gives.mk_walkK (N := 8) (args := [.p (.lst 4 (l.map Pipe.enc))]) [] [] [] [(0, accB 4 (l.map Pipe.row))] 0 1 (.acc 0 4 l.length) (nms [2]) (up1 := [(nx, accB 4 (l.map Pipe.row))]) Tryz.func133 rfl rfl rfl (by simp) rfl (by simp) (by simp) (by simp) (Jzd rfl (Jk2 fun _ => rfl)) (by simp) rfl ?_
 simp
 refine Je2 (fun h => ?_) (fun h => ?_)
 . subst h
   simp
 . have h0 : 0 < l.length := List.length_pos_iff.2 h
   have hrow : (fun x => List.map AV.p x) ∘ Pipe.enc = Pipe.row := rfl
   simp [h, h0, hrow, accB, Nat.pos_iff_ne_zero]
   omega
theorem Jvw (l : List Part) (s : Store) (nx : Nat) (hn : l.length < 1000000) :
   Gives Tryz.prog GL 136 [.p (.lst 3 (l.map Part.enc))] s nx (.acc nx 3 l.length) [] [(nx, accB 3 (l.map Part.row))] (nx + 1) := by
 refine Gives.mk_walkK (N := 8) (args := [.p (.lst 3 (l.map Part.enc))]) [] [] [] [(0, accB 3 (l.map Part.row))] 0 1 (.acc 0 3 l.length) (nms [2]) (up1 := [(nx, accB 3 (l.map Part.row))]) Tryz.func136 rfl rfl rfl (by simp) rfl (by simp) (by simp) (by simp) (Jzd rfl (Jk2 fun _ => rfl)) (by simp) rfl ?_
 simp
 refine Je2 (fun h => ?_) (fun h => ?_)
 . subst h
   simp
 . have h0 : 0 < l.length := List.length_pos_iff.2 h
   have hrow : (fun x => List.map AV.p x) ∘ Part.enc = Part.row := rfl
   simp [h, h0, hrow, accB, Nat.pos_iff_ne_zero]
   omega
end Go.Am
namespace Go.Am
open Go Go.Proofs Go.Pn
theorem Jyw {l : List Part} : ∀ r ∈ l.map Part.row, r.length = 3 := fun r hr => by
 obtain ⟨q, _, rfl⟩ := List.mem_map.1 hr
 rfl
theorem Kbl {l : List Part} {i : Nat} : ∀ r ∈ (l.map Part.row).drop i, ∀ c ∈ r, AV.oneCell c = true := fun r hr c hc => by
 obtain ⟨q, _, rfl⟩ := List.mem_map.1 (List.mem_of_mem_drop hr)
 simp at hc
 rcases hc with rfl | rfl | rfl <;> rfl
theorem Kbk {l : List Part} {i : Nat} : ∀ r ∈ (l.map Part.row).drop i, r.length = 3 := fun r hr => Jyw r (List.mem_of_mem_drop hr)
end Go.Am
namespace Go.Am
open Go Go.Proofs Go.Pn
end Go.Am
namespace Go.Am
open Go Go.Proofs Go.Pn
theorem J5p {R : List (List AV)} {i n : Nat} (hn : R.length = n) (hi : i < n) (hR : ∀ x ∈ R, x.length = 3) :
   ∃ M, Jda R i (R.drop (i + 1)) = M /\ M.length = n /\ (∀ x ∈ M, x.length = 3) /\ M.take (n - 1) = R.take i ++ R.drop (i + 1) := by
 refine ⟨_, rfl, ?_, ?_, ?_⟩
 . simp [Jda]; omega
 . intro x hx
   rcases List.mem_append.1 hx with hx | hx
   . exact hR x (List.mem_of_mem_take hx)
   . rcases List.mem_append.1 hx with hx | hx
     . exact hR x (List.mem_of_mem_drop hx)
     . exact hR x (List.mem_of_mem_drop hx)
 . rw [Jda, <- List.append_assoc, List.take_append_of_le_length (by simp; omega), List.take_of_length_le (by simp; omega)]
theorem J5q (l : List Part) (i : Nat) (b cp : Nat) (s : Store) (nx : Nat) (hb : b < nx) (hi : i < l.length) (hl : l.length < 100000) (hcp : l.length <= cp) (hg : get s b = some (.cells 3 (l.map Part.row))) :
   Gives Tryz.prog GL 135 [.ref b 3 0 l.length (some cp), .p (.int .i64 i), .p (.int .i64 (i + 1))] s nx (.p (.lst 3 ((l.take i ++ l.drop (i + 1)).map Part.enc))) [b] [(b, none)] nx := by
 refine Gives.of_walkF (N := 33) (args := [.ref 0 3 0 l.length (some cp), .p (.int .i64 i), .p (.int .i64 (i + 1))]) (σ := [b]) (s0 := [(0, some (.cells 3 (l.map Part.row)))]) (m := 1) Tryz.func135 rfl rfl rfl (by simp) rfl (by simp [hg, hb]) (by simp) rfl ?_
 have e1 : i <= l.length := by omega
 have e2 : (i : Int) + 1 <= l.length := by omega
 have e3 : ¬ ((i : Int) = i + 1) := by omega
 have e4 : (0 : Int) <= i + 1 := by omega
 have e5 : (i : Int) <= i + 1 := by omega
 have e9 : ¬ l.length < i := by omega
 simp [e1, e2, e3, e4, e5, hi]
 refine ⟨by omega, Jak.intro (by kernel_rfl) ?_⟩
 by_cases hil : i + 1 = l.length
 . have e6 : ¬ cp < i := by omega
   have e10 : l ≠ [] := by rintro rfl; simp at hi
   have e7 : (i : Int) < l.length := by omega
   have e8 : (l.length : Int) <= cp := by omega
   simp [e1, e2, e3, e4, e5, hi, hil, e6, e7, e8, e9, e10]
   refine ⟨by omega, .of (by kernel_rfl), by omega, ?_⟩
   simp [Jaa, Jda]
   refine ⟨by omega, ?_⟩
   rw [List.take_append_of_le_length (by simp; omega), List.take_of_length_le (by simp; omega)]
   rfl
 . have hq := @Kbl l (i + 1)
   simp at hq
   have hD1 : List.take (l.length - (i + 1)) (List.drop (i + 1) (List.map Part.row l)) = List.drop (i + 1) (List.map Part.row l) := List.take_of_length_le (by simp)
   have hne : List.drop (i + 1) (List.map Part.row l) ≠ [] := fun h => by
     have := congrArg List.length h
     simp at this
     omega
   simp [e1, e2, e3, e4, e5, hi, hil, hD1, e9]
   rw [if_pos ⟨by omega, hq⟩]
   simp [hne]
   refine ⟨Kbk, by omega, e1, ?_⟩
   have e11 : i + (l.length - (i + 1)) = l.length - 1 := by omega
   have e12 : ¬ cp < l.length - 1 := by omega
   have e13 : l.length - 1 < l.length := by omega
   have e14 : (l.length : Int) <= cp := by omega
   have e15 : ((l.length - 1 : Nat) : Int) < l.length := by omega
   obtain ⟨M, hM, m1, m2, m3⟩ := J5p (R := l.map Part.row) (n := l.length) (i := i) (by simp) hi Jyw
   simp [e11, e12, e13, e14, e15, hne]
   rw [hM]
   simp [m1]
   refine ⟨.of (by kernel_rfl), by omega, by first | exact m2 | omega, ?_⟩
   have m4 : (Jda M (l.length - 1) (List.replicate (l.length - (l.length - 1)) [AV.p (PV.int IntKind.i64 0), AV.p (PV.str []), AV.p (PV.int IntKind.i64 0)])).take (l.length - 1) = M.take (l.length - 1) := by
     rw [Jda, List.take_append_of_le_length (by simp; omega), List.take_take]
     congr 1
     omega
   simp [Jaa, m3, m4]
   exact ⟨by omega, rfl⟩
theorem Jvx (l : List Part) (i : Nat) (b : Nat) (s : Store) (nx : Nat) (hb : b < nx) (hi : i < l.length) (hl : l.length < 100000) (hg : get s b = accB 3 (l.map Part.row)) :
   Gives Tryz.prog GL 135 [.acc b 3 l.length, .p (.int .i64 i), .p (.int .i64 (i + 1))] s nx (.p (.lst 3 ((l.take i ++ l.drop (i + 1)).map Part.enc))) [b] [(b, none)] nx := by
 refine Gives.of_acc (fun h => by omega) (fun h => ?_)
 have hg2 : get s b = some (.cells 3 (l.map Part.row)) := by
   rw [hg, accB, if_neg]
   simp
   rintro rfl
   simp at h
 refine Gives.capped (j := 0) rfl (fun cp hcp => ?_)
 exact J5q l i b cp s nx hb hi hl hcp hg2
def Jcf (f : Pipe -> Bool) (l : List Pipe) : List Pipe := l.filter fun x => !f x
theorem Jwl {f : Pipe -> Bool} {l : List Pipe} {i : Nat} {x : Pipe} (e : l[i]? = some x) : Jcf f (l.take (i + 1)) = Jcf f (l.take i) ++ (if f x then [] else [x]) := by
 unfold Jcf
 rw [Jqc e]
 cases f x <;> simp
theorem J7l {α : Type} {xs : List α} {q : α -> Bool} (h : idxI xs q = -1) : ∀ x ∈ xs, q x = false := by
 unfold idxI at h
 cases hf : xs.findIdx? q with
 | none => exact List.findIdx?_eq_none_iff.1 hf
 | some i => rw [hf] at h; simp at h
theorem J7n {α : Type} {xs : List α} {q : α -> Bool} (h : ¬ idxI xs q = -1) : ∃ (k : Nat) (x : α), idxI xs q = k /\ xs[k]? = some x /\ q x = true /\ ∀ (j : Nat) y, j < k -> xs[j]? = some y -> q y = false := by
 cases hf : xs.findIdx? q with
 | none => rw [idxI, hf] at h; exact (h rfl).elim
 | some i =>
   obtain ⟨h1, h2, h3⟩ := List.findIdx?_eq_some_iff_getElem.1 hf
   refine ⟨i, xs[i], by rw [idxI, hf], List.getElem?_eq_getElem h1, h2, fun j y hj hy => ?_⟩
   have := h3 j hj
   obtain ⟨hj1, rfl⟩ := gsI.1 hy
   simpa using this
def Kep : Pipe := ⟨⟨0, []⟩, ⟨0, []⟩⟩
def Jf7 (f : Pipe -> Bool) (l : List Pipe) : List Pipe := Jcf f l ++ List.replicate (l.length - (Jcf f l).length) Kep
theorem J5s (l : List Pipe) (f : Pipe -> Bool) (m : Nat) (i0 : Int) (hf : ∀ x ∈ l, Pure Tryz.prog GL m (x.av :: [.iptr 1 [[.int .i64 i0]] 0 0]) (.p (.bool (f x)))) (b qb : Nat) (s : Store) (nx : Nat) (hb : b < nx) (hqb : qb < nx) (hne : b ≠ qb) (h0 : 0 < l.length) (hl : l.length < 100000)
   (hg : get s b = some (.cells 4 (l.map Pipe.row))) (hgq : get s qb = some (.cells 1 [[.p (.int .i64 i0)]])) :
   Gives Tryz.prog GL 132 [.ref b 4 0 l.length none, .fn (.func m) [.ptr qb 1 0 0]] s nx (.ref b 4 0 (Jcf f l).length none) [b, qb] [(b, some (.cells 4 ((Jf7 f l).map Pipe.row))), (qb, some (.cells 1 [[.p (.int .i64 i0)]]))] nx := by
 refine Gives.mk_walkK (N := 42) (args := [.ref 0 4 0 l.length none, .fn (.func m) [.ptr 1 1 0 0]]) [b, qb] [] [(0, some (.cells 4 (l.map Pipe.row))), (1, some (.cells 1 [[.p (.int .i64 i0)]]))] [(0, some (.cells 4 ((Jf7 f l).map Pipe.row))), (1, some (.cells 1 [[.p (.int .i64 i0)]]))] 2 0 (.ref 0 4 0 (Jcf f l).length none) (fun _ => []) (up1 := [(b, some (.cells 4 ((Jf7 f l).map Pipe.row))), (qb, some (.cells 1 [[.p (.int .i64 i0)]]))]) Tryz.func132 rfl rfl rfl (by simp) rfl (by simp [hg, hb, hgq, hqb, hne]; intro q hq; match q, hq with | 0, _ => simp | 1, _ => simp) (by simp) (by simp) (by simp) (by simp) rfl ?_
 simp
 refine Jef ?_
 simp
 refine ⟨_, Jtz l f m [.iptr 1 [[.int .i64 i0]] 0 0] rfl (by omega) hf, rfl, ?_⟩
 simp
 refine Jac (fun h => ?_) (fun h => ?_)
 . simp at h
   have hk : Jcf f l = l := by
     unfold Jcf
     rw [List.filter_eq_self]
     intro x hx
     have := J7l h x hx
     simp [this]
   simp [Jf7, hk]
   decide
 . simp at h
   obtain ⟨k, x0, hk1, hk2, hk3, hk4⟩ := J7n h
   have hk0 : k < l.length := (gsI.1 hk2).1
   have hkt : Jcf f (l.take (k + 1)) = l.take k := by
     rw [Jwl hk2, hk3]
     simp [Jcf]
     intro x hx
     obtain ⟨j, hj, e⟩ := List.getElem_of_mem hx
     rw [List.length_take] at hj
     rw [List.getElem_take] at e
     exact hk4 j x (by omega) (by rw [List.getElem?_eq_getElem (by omega), e])
   rw [hk1]
   simp
   refine ⟨wrap_i64 (by omega) (by omega), ?_⟩
   refine Jaj.go [0, 1] [1] 0 [] (fun _ => []) (fun _ (g : List Pipe × Nat) => [(5, .p (.int .i64 (Jcf f (l.take g.2)).length)), (6, .p (.int .i64 g.2))]) (fun _ g => [(0, some (.cells 4 (g.1.map Pipe.row)))]) (fun g => g.1.length = l.length /\ g.2 <= l.length /\ (Jcf f (l.take g.2)).length < g.2 /\ g.1.take (Jcf f (l.take g.2)).length = Jcf f (l.take g.2) /\ g.1.drop g.2 = l.drop g.2) (fun g => l.length - g.2) (l, k + 1) ⟨rfl, by simp; omega, by simp [hkt]; omega, by simp [hkt], rfl⟩ ?_ ?_
   . simp [hkt]
     exact ⟨by omega, by decide⟩
   . rintro ⟨Q, j⟩ ⟨h1, h2, h3, h4, h5⟩
     simp at h1 h2 h3 h4 h5
     have hks := fun (x : Pipe) (e : l[j]? = some x) => Jwl (f := f) e
     have hkend : j = l.length -> Jcf f (l.take j) = Jcf f l := fun e => by rw [e, List.take_length]
     generalize hA : Jcf f (l.take j) = A at *
     simp
     refine Jac (fun h => ?_) (fun h => ?_)
     . simp at h
       obtain ⟨x, e⟩ := Jah h
       have eQ : Q[j]? = some x := by
         have := congrArg (·[0]?) h5
         simpa [e] using this
       have hks := hks x e
       simp [h, eQ, h1, -getElem?_pos, List.getElem?_cons_zero, List.getElem?_cons_succ]
       refine Jef ?_
       simp
       refine ⟨_, hf x (List.mem_of_getElem? e), rfl, ?_⟩
       simp
       have hkA : A.length < l.length := by omega
       have hf9 : (0 : Int) <= A.length := by omega
       refine Jac (fun h6 => ?_) (fun h6 => ?_)
       . simp at h6
         simp [h1, hkA]
         have t1 : (Q.set A.length x).take A.length = A := by rw [List.take_set, List.set_eq_of_length_le (by simp; omega), h4]
         have t2 : (Q.set A.length x)[A.length]? = some x := by rw [List.getElem?_set_self (by omega)]
         have t3 := take_snoc t2
         rw [t1] at t3
         have t4 : (Q.set A.length x).drop (j + 1) = l.drop (j + 1) := by
           rw [List.drop_set, if_pos (by omega)]
           have := congrArg (List.drop 1) h5
           simpa [List.drop_drop] using this
         have t5 : Jcf f (l.take (j + 1)) = A ++ [x] := by rw [hks, h6]; rfl
         refine ⟨wrap_i64 (by omega) (by omega), wrap_i64 (by omega) (by omega), Q.set A.length x, j + 1, ⟨by simp [h1], by omega, by rw [t5]; simp; omega, by rw [t5]; simpa using t3, t4⟩, by omega, ⟨by rw [t5]; simp, by simp⟩, ?_⟩
         rw [List.map_set]
         exact ⟨Jjx _, by decide⟩
       . simp at h6
         simp
         have t4 : Q.drop (j + 1) = l.drop (j + 1) := by
           have := congrArg (List.drop 1) h5
           simpa [List.drop_drop] using this
         have t5 : Jcf f (l.take (j + 1)) = A := by rw [hks, h6]; simp
         exact ⟨wrap_i64 (by omega) (by omega), Q, j + 1, ⟨h1, by omega, by rw [t5]; omega, by rw [t5]; exact h4, t4⟩, by omega, ⟨by rw [t5], by simp⟩, Jjx _, by decide⟩
     . simp at h
       have hj : j = l.length := by omega
       have hA2 := hkend hj
       have h8 : ¬ (¬ A = [] /\ A.length = l.length) := by omega
       have h9 : A.length <= l.length := by omega
       simp [h1, h8, h9]
       refine ⟨by omega, ?_⟩
       simp [Jf7, <- hA2]
       refine ⟨?_, by decide⟩
       rw [Jda, <- List.map_take, h4, List.drop_of_length_le (by simp; omega), List.append_nil]
       rfl
theorem VR.nils_lst {φ : Places} {own : Nat -> Prop} {w : World} {k : Nat} {v : Value} (h : VR φ own w .nils v) : VR φ own w (.p (.lst k [])) v := by
 obtain ⟨a, rfl⟩ := h.nils_inv
 exact .p _ _ (.lst0 ..)
theorem Pure.nils_first {P : Program} {G : Jae} {f k : Nat} {rest : List AV} {r : AV} (h : Pure P G f (.p (.lst k []) :: rest) r) : Pure P G f (.nils :: rest) r := by
 refine ⟨h.pure, fun own w vs a b hl hv => h.run own w vs a b hl fun i x v hx hv' => ?_⟩
 cases i with
 | zero => simp at hx; subst hx; exact (hv 0 _ v rfl hv').nils_lst
 | succ i => exact hv (i + 1) x v (by simpa using hx) hv'
theorem J5r (m : Nat) (f : Pipe -> Bool) (i0 : Int) (hf : ∀ x ∈ ([] : List Pipe), Pure Tryz.prog GL m (x.av :: [.iptr 1 [[.int .i64 i0]] 0 0]) (.p (.bool (f x)))) (qb : Nat) (s : Store) (nx : Nat) (hqb : qb < nx) (hgq : get s qb = some (.cells 1 [[.p (.int .i64 i0)]])) :
   Gives Tryz.prog GL 132 [.nils, .fn (.func m) [.ptr qb 1 0 0]] s nx .nils [qb] [(qb, some (.cells 1 [[.p (.int .i64 i0)]]))] nx := by
 refine Gives.mk_walkK (N := 42) (args := [.nils, .fn (.func m) [.ptr 0 1 0 0]]) [qb] [] [(0, some (.cells 1 [[.p (.int .i64 i0)]]))] [(0, some (.cells 1 [[.p (.int .i64 i0)]]))] 1 0 .nils (fun _ => []) (up1 := [(qb, some (.cells 1 [[.p (.int .i64 i0)]]))]) Tryz.func132 rfl rfl rfl (by simp) rfl (by simp [hqb, hgq]) (by simp) (by simp) (by simp) (by simp) rfl ?_
 simp
 refine Jef ?_
 simp
 refine ⟨_, (Jtz [] f m [.iptr 1 [[.int .i64 i0]] 0 0] rfl (by simp) hf).nils_first, rfl, ?_⟩
 simp [idxI]
end Go.Am
namespace Go.Am
open Go Go.Proofs Go.Pn
theorem Jyi {c : Circuit} (h : Jad c = 0) {k : Nat} {x y : Part} (hx : c.parts[k]? = some x) (hy : c.parts[k + 1]? = some y) : Op.bytesLess x.name y.name = true := by
 have hp : Jar (partAt c) c.parts.length = 0 := by unfold Jad at h; grind
 have hk : k + 1 < c.parts.length := (gsI.1 hy).1
 have h2 := Jer hp hk
 unfold partAt at h2
 rw [hy] at h2
 simp only [Nat.add_sub_cancel, hx, Option.map_some, Option.getD_some] at h2
 split at h2
 . rename_i h3; exact (h3 h2).elim
 . split at h2
   . cases h2
   . rename_i h3
     have : ¬ ¬ Op.bytesLess x.name y.name = true := fun h4 => h3 ⟨by omega, h4⟩
     exact Decidable.not_not.1 this
theorem Jyh {c : Circuit} (h : Jad c = 0) : ∀ {d k : Nat} {x y : Part}, c.parts[k]? = some x -> c.parts[k + d + 1]? = some y -> Op.bytesLess x.name y.name = true
 | 0, k, x, y, hx, hy => Jyi h hx hy
 | d + 1, k, x, y, hx, hy => by
   have hlt : k + d + 1 < c.parts.length := by
     have := (gsI.1 hy).1
     omega
   obtain ⟨z, hz⟩ := Jah hlt
   exact Jij (Jyh h hx hz) (Jyi h hz hy)
theorem Jnu {c : Circuit} (h : Jad c = 0) {i j : Nat} {x y : Part} (hij : i < j) (hx : c.parts[i]? = some x) (hy : c.parts[j]? = some y) : Op.bytesLess x.name y.name = true := by
 obtain ⟨d, rfl⟩ := Nat.exists_eq_add_of_lt hij
 exact Jyh h hx hy
end Go.Am
namespace Go.Am
open Go Go.Proofs Go.Pn
theorem Jyg {c : Circuit} (h : Jad c = 0) {i j : Nat} {x y : Part} (hx : c.parts[i]? = some x) (hy : c.parts[j]? = some y) (hn : x.name = y.name) : i = j := by
 rcases Nat.lt_trichotomy i j with hl | hl | hl
 . have := Jnu h hl hx hy
   rw [hn, Je4] at this; cases this
 . exact hl
 . have := Jnu h hl hy hx
   rw [hn, Je4] at this; cases this
theorem Jvi {c : Circuit} {s : Txt} {i : Nat} (h : Jb8 c s = i) : c.parts.findIdx? (fun p => decide (p.name = s)) = some i := by
 unfold Jb8 idxI at h
 cases hf : c.parts.findIdx? fun p => decide (p.name = s) with
 | none => rw [hf] at h; simp at h
 | some k => rw [hf] at h; simp at h; rw [show k = i by omega]
theorem Kb3 {c : Circuit} (h : Jad c = 0) {s : Txt} {i : Nat} {x : Part} (hi : Jb8 c s = i) (e : c.parts[i]? = some x) :
   (∃ p ∈ c.parts, p.kind = 6 /\ Jby c p.name = i) ↔ (Jal c (i : Int) = 1 /\ (0 <= swAt c (s ++ [48]) \/ 0 <= swAt c (s ++ [49]))) := by
 have hka : Jal c (i : Int) = x.kind := by rw [Jal, Int.toNat_natCast, e]; rfl
 constructor
 . rintro ⟨p, hp, hk, ho⟩
   unfold Jby at ho
   cases hst : stem p.name with
   | none => rw [hst] at ho; simp at ho
   | some nm =>
     rw [hst] at ho
     simp only at ho
     cases hf : c.parts.findIdx? fun p => decide (p.name = nm) with
     | none => rw [hf] at ho; simp at ho
     | some k =>
       rw [hf] at ho
       simp only at ho
       split at ho
       . rename_i hk1
         have hki : k = i := by omega
         subst hki
         obtain ⟨h1, h2, _⟩ := List.findIdx?_eq_some_iff_getElem.1 hf
         have h3 := Jvi hi
         obtain ⟨h4, h5, _⟩ := List.findIdx?_eq_some_iff_getElem.1 h3
         have hnm : nm = s := by
           simp at h2 h5
           rw [<- h2, <- h5]
         subst hnm
         rw [e] at hk1
         simp at hk1
         refine ⟨by rw [hka]; exact hk1, ?_⟩
         obtain ⟨j, hj, ej⟩ := List.getElem_of_mem hp
         have ej2 : c.parts[j]? = some p := by rw [List.getElem?_eq_getElem hj, ej]
         have hsw : ∀ t, p.name = t -> 0 <= swAt c t := by
           rintro t rfl
           unfold swAt
           rcases Jgb c p.name with h6 | ⟨j2, y, h6, h7, h8⟩
           . exfalso
             unfold Jb8 idxI at h6
             cases hf2 : c.parts.findIdx? fun q => decide (q.name = p.name) with
             | none =>
               have := List.findIdx?_eq_none_iff.1 hf2 p hp
               simp at this
             | some k2 => rw [hf2] at h6; simp at h6
           . have hjj : j2 = j := Jyg h h7 ej2 h8
             subst hjj
             rw [ej2] at h7; cases h7
             rw [h6]
             unfold swK
             have : Jal c (j2 : Int) = 6 := by rw [Jal, Int.toNat_natCast, ej2]; exact hk
             simp [this]
         unfold stem at hst
         split at hst
         . rename_i hl
           have hd := Option.some.inj hst
           rcases hl with hl | hl
           . left
             apply hsw
             rw [<- hd]
             obtain ⟨ys, hys⟩ := List.getLast?_eq_some_iff.1 hl
             rw [hys]; simp
           . right
             apply hsw
             rw [<- hd]
             obtain ⟨ys, hys⟩ := List.getLast?_eq_some_iff.1 hl
             rw [hys]; simp
         . cases hst
       . omega
 . rintro ⟨h1, h2⟩
   have key : ∀ d : UInt8, (d = 48 \/ d = 49) -> 0 <= swAt c (s ++ [d]) -> ∃ p ∈ c.parts, p.kind = 6 /\ Jby c p.name = i := by
     intro d hd hsw
     unfold swAt swK at hsw
     rcases Jgb c (s ++ [d]) with h6 | ⟨j, y, h6, h7, h8⟩
     . rw [h6] at hsw; simp at hsw
     . rw [h6] at hsw
       have hky : Jal c (j : Int) = y.kind := by rw [Jal, Int.toNat_natCast, h7]; rfl
       rw [hky] at hsw
       refine ⟨y, List.mem_of_getElem? h7, ?_, ?_⟩
       . apply Decidable.byContradiction
         intro h9
         rw [if_pos ⟨by omega, h9⟩] at hsw
         omega
       . have hst : stem y.name = some s := by
           rw [h8, stem, if_pos]
           . simp
           . simp; exact hd
         rw [Jby, hst]
         simp only
         rw [Jvi hi]
         simp only
         rw [e]
         rw [hka] at h1
         simp [h1]
   rcases h2 with h2 | h2
   . exact key 48 (.inl rfl) h2
   . exact key 49 (.inr rfl) h2
theorem Jxb {k : Nat} {l : List Pipe} : Jdi (Jf4 k) (Jc5 k l) = Jq1 k (-1) (Jc5 k l) := by
 unfold Jdi Jq1
 apply List.map_congr_left
 intro x hx
 have := (List.mem_filter.1 hx).2
 simp at this
 obtain ⟨⟨a, s⟩, ⟨b, t⟩⟩ := x
 simp only at this
 simp only [Jne, Jkq, Jbx, Jf4]
 congr 1
 . by_cases h : (k : Int) < a
   . rw [if_pos h, if_pos (by omega)]; rfl
   . rw [if_neg h, if_neg (by omega)]
 . by_cases h : (k : Int) < b
   . rw [if_pos h, if_pos (by omega)]; rfl
   . rw [if_neg h, if_neg (by omega)]
theorem J20 (c : Circuit) (s : Txt) (hs : Sized c) (hl : s.length < 4611686018427387900) : Pure Tryz.prog GL 59 [c.av, .p (.str s)] (.tup [(remP c s).av, .p (.int .i64 (Jfr c s))]) := by
 refine Pure.of_walk (N := 61) Tryz.func59 rfl rfl rfl (by simp) (by first | (simp; done) | simp [*]) ?_
 simp
 refine Jab (Jhc c hs) ?_
 by_cases hc : Jad c = 0
 . have h2 := Jcx hc
   have hmx := J8n hc
   simp [hc]
   refine Jab (Jik c s hs) ?_
   rw [<- Jb8]
   rcases Jgb c s with hk | ⟨i, x, hk, e, _⟩
   . simp [hk]
     simp [remP, Jfr, hc, hk, Jaa]
   . obtain ⟨hj, _⟩ := gsI.1 e
     have hk0 : ¬ (i : Int) < 0 := by omega
     have hcond := Kb3 hc hk e
     simp [hk, hk0]
     refine Jaj.go [2, 4, 7, 25, 26] [0, 1, 2] 0 [] (fun _ => []) (fun _ (k : Nat) => [(27, .p (.int .i64 k))]) (fun _ _ => []) (fun k => k <= c.parts.length /\ ∀ (j : Nat) y, j < k -> c.parts[j]? = some y -> ¬ (y.kind = 6 /\ Jby c y.name = i)) (fun k => c.parts.length - k) 0 ⟨by omega, fun j x h => by omega⟩ ?_ ?_
     . simp
       try decide
     . rintro k ⟨hk1, hb⟩
       simp
       refine Jac (fun h => ?_) (fun h => ?_)
       . simp at h
         obtain ⟨y, ey⟩ := Jah h
         simp [h, ey, -getElem?_pos, List.getElem?_cons_zero, List.getElem?_cons_succ]
         refine Jak.intro (by kernel_rfl) ?_
         by_cases h6 : y.kind = 6
         . simp [h6]
           have ho := Jt5 c ⟨6, y.name, y.delay⟩ hs (hs.names y (List.mem_of_getElem? ey))
           refine Jab ho ?_
           by_cases h7 : Jby c y.name = i
           . simp [h7]
             refine ⟨.of (by kernel_rfl), ?_⟩
             have hre : Jfr c s = 14 := by
               have h8 := hcond.1 ⟨y, List.mem_of_getElem? ey, h6, h7⟩
               rw [Jfr, if_neg (by simpa using hc), hk, if_neg hk0, if_pos h8]
             simp [Jaa, remP, hre]
           . simp [h7]
             refine ⟨.of (by kernel_rfl), wrap_i64 (by omega) (by omega), k + 1, ⟨by omega, fun j y2 a1 a2 a3 a4 => Jdg (P := fun y => ¬ (y.kind = 6 /\ Jby c y.name = i)) hb ey (fun q => h7 q.2) j y2 a1 a2 ⟨a3, a4⟩⟩, by omega, ?_⟩
             simp
             decide
         . simp [h6]
           refine ⟨.of (by kernel_rfl), wrap_i64 (by omega) (by omega), k + 1, ⟨by omega, fun j y2 a1 a2 a3 a4 => Jdg (P := fun y => ¬ (y.kind = 6 /\ Jby c y.name = i)) hb ey (fun q => h6 q.1) j y2 a1 a2 ⟨a3, a4⟩⟩, by omega, ?_⟩
           simp
           decide
       . simp at h
         have hkl : k = c.parts.length := by omega
         have hre : Jfr c s = 0 := by
           rw [Jfr, if_neg (by simpa using hc), hk, if_neg hk0, if_neg]
           intro h8
           obtain ⟨y, hy, h9⟩ := hcond.2 h8
           obtain ⟨q, hq, eq⟩ := List.getElem_of_mem hy
           exact hb q y (by omega) (by rw [List.getElem?_eq_getElem hq, eq]) h9
         simp
         refine Jbg (J6q c.pipes _ _ (by omega)) ?_
         simp
         have hkp : Jcf (fun x => decide (x.fr.part = i) || decide (x.to.part = i)) c.pipes = Jc5 i c.pipes := by
           unfold Jcf Jc5
           simp [Bool.not_or]
         have hrl := @Kb5 i c.pipes
         by_cases hp0 : c.pipes = []
         . refine Jbg (Gives.of_acc (fun _ => J5r 134 (fun x => decide (x.fr.part = i) || decide (x.to.part = i)) i (fun x hx => by cases hx) 2 _ _ (by omega) (by simp [get])) (fun h9 => by rw [hp0] at h9; simp at h9)) ?_
           simp [hp0]
           have hr0 : Jc5 i c.pipes = [] := by rw [hp0]; rfl
           have hO : (c.parts.take i ++ c.parts.drop (i + 1)) = (Jag c i).parts := rfl
           have hO2 : Jdi (Jf4 i) (Jc5 i c.pipes) = (Jag c i).pipes := Jxb
           have hrp : remP c s = Jag c i := by rw [remP, if_neg (by simpa using hre), hk]; rfl
           refine Jak.intro (by kernel_rfl) ?_
           simp
           refine Jbg (Jvw c.parts _ _ (by omega)) ?_
           simp
           refine ⟨wrap_i64 (by omega) (by omega), ?_⟩
           refine Jbg (Jvx c.parts i 4 _ _ (by omega) hj (by omega) (by simp [get])) ?_
           rw [hO]
           simp
           refine ⟨.of (by kernel_rfl), ?_⟩
           refine J01 ?_
           simp
           refine ⟨_, (Jt4 [] (Jf4 i) 138 [.iptr 1 [[.int .i64 i]] 0 0] rfl (by simp) (fun x hx => by cases hx)).nils_first, ?_⟩
           rw [hr0] at hO2
           rw [hO2]
           have hO4 : (⟨(Jag c i).parts, (Jag c i).pipes⟩ : Circuit) = Jag c i := rfl
           simp
           simp [Jaa, hrp, hre]
         . refine Jbg (Gives.of_acc (fun h9 => (hp0 (List.length_eq_zero_iff.1 h9)).elim) (fun h9 => J5s c.pipes (fun x => decide (x.fr.part = i) || decide (x.to.part = i)) 134 i (fun x _ => J21 i x) 3 2 _ _ (by omega) (by omega) (by decide) h9 (by omega) (by simp [get, accB, hp0]) (by simp [get]))) ?_
           rw [hkp]
           simp
           have hO : (c.parts.take i ++ c.parts.drop (i + 1)) = (Jag c i).parts := rfl
           have hO2 : Jdi (Jf4 i) (Jc5 i c.pipes) = (Jag c i).pipes := Jxb
           have hrp : remP c s = Jag c i := by rw [remP, if_neg (by simpa using hre), hk]; rfl
           refine Jak.intro (by kernel_rfl) ?_
           simp
           refine Jbg (Jvw c.parts _ _ (by omega)) ?_
           simp
           refine ⟨wrap_i64 (by omega) (by omega), ?_⟩
           refine Jbg (Jvx c.parts i 4 _ _ (by omega) hj (by omega) (by simp [get])) ?_
           rw [hO]
           simp
           refine ⟨.of (by kernel_rfl), ?_⟩
           refine J01 ?_
           have hkt : List.take (Jc5 i c.pipes).length (List.map Pipe.row (Jf7 (fun x => decide (x.fr.part = i) || decide (x.to.part = i)) c.pipes)) = (Jc5 i c.pipes).map Pipe.row := by
             rw [Jf7, hkp, List.map_append, List.take_left' (by simp)]
           have hkn : (Jc5 i c.pipes).length <= (Jf7 (fun x => decide (x.fr.part = i) || decide (x.to.part = i)) c.pipes).length := by
             rw [Jf7, hkp]; simp
           simp [hkt, hkn]
           refine ⟨_, Jt4 (Jc5 i c.pipes) (Jf4 i) 138 [.iptr 1 [[.int .i64 i]] 0 0] rfl (by omega) (fun x hx => ⟨Jt2 i x.fr.part (by have := hmx x (Jzf hx); omega), Jt2 i x.to.part (by have := hmx x (Jzf hx); omega)⟩), ?_⟩
           rw [hO2]
           have hO4 : (⟨(Jag c i).parts, (Jag c i).pipes⟩ : Circuit) = Jag c i := rfl
           simp
           simp [Jaa, hrp, hre]
 . simp [hc, Jaa, remP, Jfr]
end Go.Am
