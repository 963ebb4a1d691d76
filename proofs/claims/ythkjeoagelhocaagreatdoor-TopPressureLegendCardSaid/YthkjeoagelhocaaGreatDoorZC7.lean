/- Lemmas and contracts for the proof of a statement of this seat. -/
import Derived.Test.YthkjeoagelhocaaGreatDoorZC6
import Derived.Test.YthkjeoagelhocaaGreatDoorZS2
import Derived.Test.YthkjeoagelhocaaGreatDoorZA5
set_option linter.unusedVariables false
set_option linter.unusedSimpArgs false
namespace Go.Am
open Go Go.Proofs Go.Pn
theorem J3p {ps : List Pipe} {p : Port} {x : Pipe} (hx : x ∈ ps) {a : List Port × Bool} (h : ∀ q ∈ a.1, Conn ps p q) : ∀ q ∈ (Jcb a x).1, Conn ps p q := by
 obtain ⟨l, m⟩ := a
 intro q hq
 unfold Jcb at hq
 by_cases h1 : x.fr ∈ l /\ ¬ x.to ∈ l
 . simp only [h1, not_false_eq_true, and_self, if_true] at hq
   have h2 : ¬ (x.to ∈ l ++ [x.to] /\ ¬ x.fr ∈ l ++ [x.to]) := fun h => h.2 (by simp [h1.1])
   rw [if_neg h2] at hq
   rcases List.mem_append.1 hq with hq | hq
   . exact h q hq
   . simp at hq; subst hq; exact .fwd _ x (h _ h1.1) hx
 . rw [if_neg h1] at hq
   by_cases h2 : x.to ∈ l /\ ¬ x.fr ∈ l
   . rw [if_pos h2] at hq
     rcases List.mem_append.1 hq with hq | hq
     . exact h q hq
     . simp at hq; subst hq; exact .bwd _ x (h _ h2.1) hx
   . rw [if_neg h2] at hq
     exact h q hq
theorem Jtr {ps : List Pipe} {p : Port} : ∀ {qs : List Pipe} {a : List Port × Bool}, (∀ x ∈ qs, x ∈ ps) -> (∀ q ∈ a.1, Conn ps p q) -> ∀ q ∈ (qs.foldl Jcb a).1, Conn ps p q
 | [], a, _, h => h
 | x :: qs, a, hs, h => Jtr (qs := qs) (fun y hy => hs y (List.mem_cons_of_mem _ hy)) (J3p (hs x (List.mem_cons_self ..)) h)
theorem Jtt {c : Circuit} {p : Port} : ∀ {n : Nat}, ∀ q ∈ Jbc c [p] n, Conn c.pipes p q
 | 0, q, h => by simp [Jbc] at h; subst h; exact .refl _
 | n + 1, q, h => Jtr (fun _ h => h) (fun q hq => Jtt q hq) q h
theorem J3q {a : List Port × Bool} {x : Pipe} (h : (Jcb a x).1 = a.1) : (x.fr ∈ a.1 -> x.to ∈ a.1) /\ (x.to ∈ a.1 -> x.fr ∈ a.1) := by
 obtain ⟨l, m⟩ := a
 unfold Jcb at h
 by_cases h1 : x.fr ∈ l /\ ¬ x.to ∈ l
 . simp only [h1, not_false_eq_true, and_self, if_true] at h
   have h2 : ¬ (x.to ∈ l ++ [x.to] /\ ¬ x.fr ∈ l ++ [x.to]) := fun h => h.2 (by simp [h1.1])
   rw [if_neg h2] at h
   have := congrArg List.length h
   simp at this
 . rw [if_neg h1] at h
   by_cases h2 : x.to ∈ l /\ ¬ x.fr ∈ l
   . rw [if_pos h2] at h
     have := congrArg List.length h
     simp at this
   . exact ⟨fun h3 => Decidable.byContradiction fun h4 => h1 ⟨h3, h4⟩, fun h3 => Decidable.byContradiction fun h4 => h2 ⟨h3, h4⟩⟩
theorem Jts : ∀ {qs : List Pipe} {a : List Port × Bool}, (qs.foldl Jcb a).1 = a.1 -> ∀ x ∈ qs, (x.fr ∈ a.1 -> x.to ∈ a.1) /\ (x.to ∈ a.1 -> x.fr ∈ a.1)
 | [], a, _, x, h => by cases h
 | y :: qs, a, he, x, h => by
   obtain ⟨e1, k1, _⟩ := Jtv (a := a) (x := y)
   obtain ⟨e2, k2, _⟩ := Jkg (ps := qs) (a := Jcb a y)
   rw [List.foldl_cons, k2, k1] at he
   have hl := congrArg List.length he
   rw [List.length_append, List.length_append] at hl
   have e10 : e1 = [] := List.length_eq_zero_iff.1 (by omega)
   have e20 : e2 = [] := List.length_eq_zero_iff.1 (by omega)
   subst e10; subst e20
   rw [List.append_nil] at k1 k2
   rcases List.mem_cons.1 h with rfl | h
   . exact J3q k1
   . have := Jts (qs := qs) (a := Jcb a y) k2 x h
     rwa [k1] at this
theorem Jl9 {c : Circuit} {p : Port} : ∀ {n : Nat}, ArInv c p n (Jbc c [p] n)
 | 0 => ⟨rfl, by simp [Jbc], by simp [Jbc]⟩
 | n + 1 => (Jl9 (n := n)).next.1
theorem J6u {c : Circuit} {p : Port} : (Jec c (closure c p)).1 = closure c p := by
 have key : ∀ n, (∃ i, i <= n /\ (Jec c (Jbc c [p] i)).1 = Jbc c [p] i) \/ n + 2 <= (Jbc c [p] (n + 1)).length := by
   intro n
   induction n with
   | zero =>
     have h := (Jl9 (c := c) (p := p) (n := 0)).next
     cases hf : (Jec c (Jbc c [p] 0)).2 with
     | false => exact .inl ⟨0, by omega, h.2.2 hf⟩
     | true =>
       have := h.2.1 hf
       have e : (Jbc c [p] 0).length = 1 := rfl
       exact .inr (by rw [e] at this; exact this)
   | succ n ih =>
     rcases ih with ⟨i, hi, h⟩ | ih
     . exact .inl ⟨i, by omega, h⟩
     . have h := (Jl9 (c := c) (p := p) (n := n + 1)).next
       cases hf : (Jec c (Jbc c [p] (n + 1))).2 with
       | false => exact .inl ⟨n + 1, by omega, h.2.2 hf⟩
       | true =>
         have := h.2.1 hf
         exact .inr (by rw [Jbc]; omega)
 rcases key (2 * c.pipes.length) with ⟨i, hi, h⟩ | h
 . have e : closure c p = Jbc c [p] i := J3o h _ (by omega)
   rw [e]; exact h
 . have := (Jl9 (c := c) (p := p) (n := 2 * c.pipes.length + 1)).le
   omega
theorem Jvv {c : Circuit} {p q : Port} : q ∈ closure c p ↔ Conn c.pipes p q := by
 constructor
 . exact Jtt q
 . intro h
   have hs := Jts (a := (closure c p, false)) J6u
   induction h with
   | refl =>
     have h0 : ∀ n, p ∈ Jbc c [p] n := by
       intro n
       induction n with
       | zero => simp [Jbc]
       | succ n ih =>
         obtain ⟨e, k, _⟩ := Jkg (ps := c.pipes) (a := (Jbc c [p] n, false))
         rw [Jbc]
         show p ∈ (c.pipes.foldl Jcb (Jbc c [p] n, false)).1
         rw [k]
         exact List.mem_append.2 (.inl ih)
     exact h0 _
   | fwd x _ hm ih => exact (hs x hm).1 ih
   | bwd x _ hm ih => exact (hs x hm).2 ih
theorem Jza {c : Circuit} (hn : (allP c).Nodup) : groups (rootOf (Jbo c.pipes)) (allP c) = nets c := by
 obtain ⟨ok, hsp⟩ := Jsz c.pipes
 rw [J9l hn]
 have ha : ∀ p, (allP c).filter (fun q => decide (rootOf (Jbo c.pipes) q = rootOf (Jbo c.pipes) p)) = around c p := by
   intro p
   unfold around
   apply List.filter_congr
   intro q _
   rw [decide_eq_decide, hsp, Jvv]
   exact ⟨Conn.symm, Conn.symm⟩
 simp only [ha]
 rfl
theorem Kaz {k : Nat} (h : k < 14) : (Jao k).Nodup := (by decide : ∀ k, k < 14 -> (Jao k).Nodup) k h
theorem Jtq {c : Circuit} : ∀ {k : Nat} {q : Port}, q ∈ Jbz c k -> 0 <= q.part /\ q.part < k
 | 0, q, h => by simp [Jbz] at h
 | k + 1, q, h => by
   simp only [Jbz] at h
   rcases List.mem_append.1 h with h | h
   . have := Jtq h; omega
   . split at h
     . obtain ⟨s, _, rfl⟩ := List.mem_map.1 h
       simp; omega
     . cases h
theorem Jtp {c : Circuit} (hk : Jdf c) : ∀ {k : Nat}, (Jbz c k).Nodup
 | 0 => by simp [Jbz]
 | k + 1 => by
   simp only [Jbz]
   rw [List.nodup_append]
   refine ⟨Jtp hk, ?_, fun a ha b hb => ?_⟩
   . split
     . rename_i p hp
       have := hk p (List.mem_of_getElem? hp)
       have hn := Kaz (k := p.kind.toNat) (by omega)
       rw [List.nodup_iff_pairwise_ne, List.pairwise_map]
       refine (List.nodup_iff_pairwise_ne.1 hn).imp fun {a b} hab h => hab ?_
       exact (Port.mk.inj h).2
     . exact List.nodup_nil
   . have h1 := Jtq ha
     split at hb
     . obtain ⟨s, _, rfl⟩ := List.mem_map.1 hb
       rintro rfl
       simp at h1
     . cases hb
theorem Jph {c : Circuit} (hk : Jdf c) : (allP c).Nodup := Jtp hk
theorem J3j {c : Circuit} (hk : Jdf c) (hn : c.parts.length <= 64) : (allP c).length <= 768 := by
 have := Jl7 hk (k := c.parts.length)
 unfold allP
 omega
end Go.Am
namespace Go.Am
open Go Go.Proofs Go.Pn
def upsA (es : Ups) : List (AV × AV) := es.map fun e => (e.1.av, e.2.av)
theorem Jgm {p q : Port} (h : p.av = q.av) : p = q := by
 simp at h
 cases p; cases q; simp_all
theorem Jx0 : KeyOk Tryz.prog 105 IsIS := Kao (by kernel_rfl) (fun w em n s => by kernel_rfl) (fun n m s t => by rw [Jwe]; simp [Bool.decide_and])
theorem Jnc (p : Port) : IsIS p.av := ⟨p.part, p.name, rfl⟩
theorem Jq4 {α : Type} {l : List α} {f : α -> Port} {g : α -> AV} (p : Port) : Jca Tryz.prog 105 (l.map fun e => ((f e).av, g e)) p.av :=
 ⟨_, Jx0, Jnc p, fun e he => by
   obtain ⟨a, _, rfl⟩ := List.mem_map.1 he
   exact Jnc _⟩
theorem Kas (es : Ups) (p : Port) : Jca Tryz.prog 105 (upsA es) p.av := Jq4 p
theorem J3z {es : Ups} {p : Port} : Jal (upsA es) p.av = (upOf es p).map Port.av := by
 induction es with
 | nil => simp [upsA, Jal, upOf]
 | cons e es ih =>
   obtain ⟨a, b⟩ := e
   simp only [upsA, List.map_cons, upOf] at ih ⊢
   by_cases h : a = p
   . subst h
     simp [Jal]
   . have hne : a.av ≠ p.av := fun h2 => h (Jgm h2)
     rw [if_neg h, <- ih]
     unfold Jal
     rw [List.find?_cons_of_neg (by simpa using hne)]
@[simp] theorem Kjz {es : Ups} {p : Port} : (Jal (upsA es) (.agg [.p (.int .i64 p.part), .p (.str p.name)])) = (upOf es p).map Port.av := J3z
@[simp] theorem Kju {es : Ups} {p : Port} : Jca Tryz.prog 105 (upsA es) (.agg [.p (.int .i64 p.part), .p (.str p.name)]) = True := eq_true (Kas es p)
def Jti : Port := ⟨0, []⟩
theorem J9t {es : Ups} {p : Port} : hit true (.agg [.p (.int .i64 0), .p (.str [])]) ((upOf es p).map Port.av) = .tup [((upOf es p).getD Jti).av, .p (.bool (upOf es p).isSome)] := by
 cases upOf es p <;> rfl
@[simp] theorem zs56 : Jeb Tryz.prog 105 = some true := by kernel_rfl
@[simp] theorem Kjo {es : Ups} {p : Port} : hit true (zeroV ⟨true, 2, 24, [.p (.int .i64 0), .p (.str [])], TD.struct [(0, 1, false), (1, 1, false)]⟩) ((upOf es p).map Port.av) = .tup [((upOf es p).getD Jti).av, .p (.bool (upOf es p).isSome)] := J9t
theorem Jf4 {es : Ups} {ρ : List Nat} : renE ρ (upsA es) = some (upsA es) := by
 unfold upsA
 induction es with
 | nil => rfl
 | cons e es ih => simp only [List.map_cons, renE, ih]; rfl
theorem Jqv (es : Ups) (ok : UpsOk es) (p : Port) (b mb : Nat) (s : Store) (nx : Nat) (hb : b < nx) (hm : mb < nx) (hne : b ≠ mb) (hg : get s b = some (.cells 1 [[.map mb]])) (hgm : get s mb = some (.map (upsA es))) :
   Gives Tryz.prog GL 203 [p.av, .ptr b 1 0 0] s nx (rootOf es p).av [b, mb] [] nx := by
 refine Gives.mk_walkK (N := 22) (args := [p.av, .ptr 0 1 0 0]) [b, mb] [] [(0, some (.cells 1 [[.map 1]])), (1, some (.map (upsA es)))] [] 2 0 (rootOf es p).av (fun _ => []) (up1 := []) Tryz.func203 rfl rfl rfl (by simp) rfl (by simp [hg, hb, hm, hne, hgm, Jf4]; intro q hq; match q, hq with | 0, _ => simp | 1, _ => simp) (by simp) (by simp) (by simp) (by simp) rfl ?_
 simp
 refine Jag.gor [1, 2, 3] [0, 1, 3] [0, 1, 2, 3, 4] (fun st => [0, 1, 2, 3] ++ nms [4] st) (fun (q : Port) => [(4, .ptr 4 2 0 0), (5, .p (.bool (upOf es q).isSome))]) (fun q => [(2, some (.cells 2 [q.row])), (4, some (.cells 2 [((upOf es q).getD Jti).row]))]) (fun q => rootOf es q = rootOf es p) (fun q => Jid es q) p rfl ?_ ?_
 . simp [Jf4]
   try decide
 . intro q hq
   simp
   cases hu : upOf es q with
   | none =>
     simp
     exact ⟨by rw [<- hq, Jh4 hu], by simp [Jf4], by decide⟩
   | some r =>
     simp
     exact ⟨r, by rw [<- Jld ok hu]; exact hq, Jlp ok hu, rfl, ⟨rfl, rfl, by simp [Jf4]⟩, by decide⟩
end Go.Am
namespace Go.Am
open Go Go.Proofs Go.Pn
theorem J1d {es : Ups} {a b : Port} (h : upOf es b = none) : setA (upsA es) (.agg [.p (.int .i64 b.part), .p (.str b.name)]) (.agg [.p (.int .i64 a.part), .p (.str a.name)]) = upsA (es ++ [(b, a)]) := by
 rw [Jh6]
 . simp [upsA]
 . intro e he
   obtain ⟨q, hq, rfl⟩ := List.mem_map.1 he
   intro h2
   have : q.1 = b := Jgm h2
   exact J19 h q.2 (by rw [<- this]; exact hq)
theorem Kil {l : List Pipe} {k : Nat} {x : Pipe} (e : l[k]? = some x) : Jbo (l.take (k + 1)) = Jgy (Jbo (l.take k)) x := by
 rw [take_snoc e, Jbo, List.foldl_append]; rfl
theorem Jv1 {a b : Port} : 0 < Jcd a b ↔ Ja3 b a = true := by
 constructor
 . intro h
   cases h2 : Ja3 b a with
   | true => rfl
   | false =>
     exfalso
     cases h3 : Ja3 a b with
     | true => have := Jiq.2 h3; omega
     | false =>
       have := J0r h3 h2
       have := Jip.2 this
       omega
 . intro h
   have h1 : ¬ Jcd a b < 0 := fun h2 => by
     have := Kfg (Jiq.1 h2)
     rw [h] at this; cases this
   have h3 : Jcd a b ≠ 0 := fun h2 => by
     have := Jip.1 h2
     subst this
     rw [Jk5] at h; cases h
   omega
def Jcr : List Port -> Port -> Option Nat
 | [], _ => none
 | k :: ks, r => if k = r then some 0 else (Jcr ks r).map (· + 1)
def Jb0 : Nat -> List Port -> List (AV × AV)
 | _, [] => []
 | n, k :: ks => (k.av, .p (.int .i64 n)) :: Jb0 (n + 1) ks
theorem Jrv : ∀ {ks : List Port} {r : Port}, Jcr ks r = none ↔ r ∉ ks
 | [], r => by simp [Jcr]
 | k :: ks, r => by
   have ih := Jrv (ks := ks) (r := r)
   by_cases h : k = r
   . simp [Jcr, h]
   . simp [Jcr, h, ih, Ne.symm h]
theorem Jrw : ∀ {ks : List Port} {r : Port} {j : Nat}, Jcr ks r = some j -> ks[j]? = some r
 | [], r, j, h => by simp [Jcr] at h
 | k :: ks, r, j, h => by
   simp only [Jcr] at h
   by_cases e : k = r
   . rw [if_pos e] at h; cases h; simp [e]
   . rw [if_neg e] at h
     obtain ⟨i, hi, rfl⟩ := Option.map_eq_some_iff.1 h
     simpa using Jrw hi
theorem Kfh {ks : List Port} {r : Port} (h : r ∉ ks) : Jcr (ks ++ [r]) r = some ks.length := by
 induction ks with
 | nil => simp [Jcr]
 | cons k ks ih =>
   simp at h
   simp [Jcr, Ne.symm h.1, ih h.2]
theorem Jt2 : ∀ {ks : List Port} {n : Nat} {r : Port}, Jal (Jb0 n ks) r.av = (Jcr ks r).map fun j => AV.p (.int .i64 ((n + j : Nat) : Int))
 | [], n, r => by simp [Jb0, Jal, Jcr]
 | k :: ks, n, r => by
   have ih := Jt2 (ks := ks) (n := n + 1) (r := r)
   simp only [Jb0, Jcr]
   by_cases h : k = r
   . subst h
     simp [Jal]
   . have hne : k.av ≠ r.av := fun h2 => h (Jgm h2)
     rw [if_neg h]
     unfold Jal at ih ⊢
     rw [List.find?_cons_of_neg (by simpa using hne), ih]
     cases Jcr ks r with
     | none => rfl
     | some j => simp; omega
theorem J1c : ∀ {ks : List Port} {n : Nat} {r : Port}, r ∉ ks -> setA (Jb0 n ks) r.av (.p (.int .i64 ((n + ks.length : Nat) : Int))) = Jb0 n (ks ++ [r])
 | [], n, r, _ => by simp [Jb0, setA]
 | k :: ks, n, r, h => by
   simp at h
   have ih := J1c (ks := ks) (n := n + 1) (r := r) h.2
   have hne : k.av ≠ r.av := fun h2 => h.1 (Jgm h2).symm
   have e : n + (k :: ks).length = n + 1 + ks.length := by simp; omega
   rw [e]
   simp only [List.cons_append, Jb0, setA, if_neg hne]
   rw [<- ih]
theorem Jt4 {ρ : List Nat} : ∀ {ks : List Port} {n : Nat}, renE ρ (Jb0 n ks) = some (Jb0 n ks)
 | [], n => rfl
 | k :: ks, n => by simp only [Jb0, renE, Jt4]; rfl
theorem Jt3 : ∀ {ks : List Port} {n : Nat}, ∀ e ∈ Jb0 n ks, IsIS e.1
 | [], n, e, h => by simp [Jb0] at h
 | k :: ks, n, e, h => by
   simp only [Jb0, List.mem_cons] at h
   rcases h with rfl | h
   . exact Jnc k
   . exact Jt3 e h
def Jbm : Nat -> List (List Port) -> List (List AV)
 | _, [] => []
 | n, g :: gs => [.acc n 2 g.length] :: Jbm (n + 1) gs
def Jd2 : Nat -> List (List Port) -> Store
 | _, [] => []
 | n, g :: gs => (n, accB 2 (g.map Port.row)) :: Jd2 (n + 1) gs
theorem Jcy : ∀ {gs : List (List Port)} {n : Nat}, (Jbm n gs).length = gs.length
 | [], n => rfl
 | g :: gs, n => by simp [Jbm, Jcy]
theorem Jz1 : ∀ {gs : List (List Port)} {n : Nat}, ∀ r ∈ Jbm n gs, r.length = 1
 | [], n, r, h => by simp [Jbm] at h
 | g :: gs, n, r, h => by
   simp only [Jbm, List.mem_cons] at h
   rcases h with rfl | h
   . rfl
   . exact Jz1 r h
theorem Jjb : ∀ {gs : List (List Port)} {n k : Nat} {g : List Port}, gs[k]? = some g -> (Jbm n gs)[k]? = some [.acc (n + k) 2 g.length]
 | [], n, k, g, h => by simp at h
 | x :: gs, n, 0, g, h => by simp at h; subst h; simp [Jbm]
 | x :: gs, n, k + 1, g, h => by
   have := Jjb (gs := gs) (n := n + 1) (k := k) (g := g) (by simpa using h)
   simp [Jbm, this]; omega
theorem Jky : ∀ {gs : List (List Port)} {n k : Nat} {g : List Port} {s : Store}, gs[k]? = some g -> get (Jd2 n gs ++ s) (n + k) = accB 2 (g.map Port.row)
 | [], n, k, g, s, h => by simp at h
 | x :: gs, n, 0, g, s, h => by simp at h; subst h; simp [Jd2, get]
 | x :: gs, n, k + 1, g, s, h => by
   have := Jky (gs := gs) (n := n + 1) (k := k) (g := g) (s := s) (by simpa using h)
   simp only [Jd2, List.cons_append, get]
   rw [if_neg (by omega), <- this]
   congr 1
   omega
theorem Jnu : ∀ {gs : List (List Port)} {n b : Nat} {s : Store}, b < n -> get (Jd2 n gs ++ s) b = get s b
 | [], n, b, s, h => rfl
 | x :: gs, n, b, s, h => by
   simp only [Jd2, List.cons_append, get]
   rw [if_neg (by omega)]
   exact Jnu (by omega)
def Jl6 (f : Port -> Port) (ks : List Port) (gs : List (List Port)) (p : Port) : List (List Port) := match Jcr ks (f p) with
 | none => gs ++ [[p]]
 | some k => gs.set k ((gs[k]?).getD [] ++ [p])
theorem J9m {f : Port -> Port} {l : List Port} : (groups f l).length = (Jbe f l).length := by simp [groups]
theorem J9o {f : Port -> Port} {l : List Port} {p : Port} : groups f (l ++ [p]) = Jl6 f (Jbe f l) (groups f l) p := by
 unfold Jl6
 have hnd := @Jsb f l
 cases h : Jcr (Jbe f l) (f p) with
 | none =>
   have h1 := Jrv.1 h
   simp only
   rw [groups, Jjo, if_neg h1, List.map_append, groups]
   congr 1
   . apply List.map_congr_left
     intro r hr
     have : f p ≠ r := by rintro rfl; exact h1 hr
     rw [List.filter_append]
     simp [this]
   . rw [List.map_cons, List.map_nil, List.filter_append]
     have : l.filter (fun q => decide (f q = f p)) = [] := by
       rw [List.filter_eq_nil_iff]
       intro q hq
       simp
       intro e
       exact h1 (Jle.2 ⟨q, hq, e⟩)
     rw [this]
     simp
 | some k =>
   have h1 := Jrw h
   simp only
   rw [groups, Jjo, if_pos (List.mem_of_getElem? h1), groups]
   apply List.ext_getElem?
   intro i
   rw [List.getElem?_map, List.getElem?_set]
   by_cases hik : k = i
   . subst hik
     have hk : k < (Jbe f l).length := (gsI.1 h1).1
     rw [if_pos rfl, h1]
     have hk2 := (gsI.1 h1).2
     simp [hk, h1, List.filter_append, hk2]
   . rw [if_neg hik, List.getElem?_map]
     cases hi : (Jbe f l)[i]? with
     | none => rfl
     | some r =>
       simp only [Option.map_some]
       congr 1
       rw [List.filter_append]
       have : f p ≠ r := by
         rintro rfl
         obtain ⟨a1, e1⟩ := gsI.1 h1
         obtain ⟨a2, e2⟩ := gsI.1 hi
         exact hik ((List.getElem_inj hnd).1 (e1.trans e2.symm))
       simp [this]
theorem Jua {ρ : List Nat} {s' : Store} : ∀ {gs : List (List Port)} {n : Nat}, (∀ (j : Nat) g, gs[j]? = some g -> Jgc ρ s' (n + j) (accB 2 (g.map Port.row))) -> Jgd ρ s' (Jd2 n gs)
 | [], n, _ => trivial
 | g :: gs, n, h => ⟨h 0 g rfl, Jua fun j g hj => by
     have := h (j + 1) g (by simpa using hj)
     rwa [<- Nat.add_assoc, Nat.add_right_comm] at this⟩
theorem Jpp {ρ : List Nat} {s' : Store} {b b' : Nat} {x y z : ABlk} (h1 : ρ[b]? = some b') (h2 : renB ρ x = some z) (h3 : get s' b' = some y) (h4 : wknB y z) : Jgc ρ s' b (some x) := by
 rw [J34, h1, Jj5, h2, Jj5, h3, Jj5]
 exact h4
theorem Jz0 {gs : List (List Port)} {n k : Nat} {row : List AV} (h : (Jbm n gs)[k]? = some row) : ∃ g, gs[k]? = some g /\ row = [.acc (n + k) 2 g.length] := by
 have hk : k < gs.length := by
   have := (gsI.1 h).1
   rwa [Jcy] at this
 obtain ⟨g, hg⟩ := Jae hk
 rw [Jjb hg] at h
 cases h
 exact ⟨g, hg, rfl⟩
theorem Jy8 {t' t : Jam} {s' rest : Store} {nx' O N k : Nat} {gs : List (List Port)} {ks : List Port} (hO : O = 4 \/ 1000 < O) (hN : 1000 < N) (hON : O ≠ N) (hm : gs.length <= 900) (hsl : Jlj (Jdn O N k gs.length) t' t)
   (h3 : get s' 3 = some (.map (Jb0 0 ks))) (h4 : Jgc (Jdn O N k gs.length) s' 4 (accB 1 (Jbm 5 gs))) (hn : ∀ (j : Nat) g, gs[j]? = some g -> Jgc (Jdn O N k gs.length) s' (5 + j) (accB 2 (g.map Port.row)))
   (hr : Jgd (Jdn O N k gs.length) s' rest) :
   SubX (Jdn O N k gs.length) 0 ⟨t', s', nx'⟩ ⟨t, (3, some (.map (Jb0 0 ks))) :: (4, accB 1 (Jbm 5 gs)) :: (Jd2 5 gs ++ rest), 1004⟩ := by
 refine ⟨hsl, ⟨?_, h4, Jt8 (Jua hn) hr⟩, Kcp hO hN hON hm, by show _ <= 1004; rw [Kco]; omega, rfl⟩
 exact Jpp (Jkz (by omega)) (by simp [renB, Jt4]) h3 (.inl rfl)
@[simp] theorem Kjx {ks : List Port} {r : Port} : Jal (Jb0 0 ks) (.agg [.p (.int .i64 r.part), .p (.str r.name)]) = (Jcr ks r).map fun (j : Nat) => AV.p (.int .i64 (j : Int)) := by
 have h := @Jt2 ks 0 r
 simp only [Nat.zero_add] at h
 exact h
@[simp] theorem Kjp {ks : List Port} {r : Port} : Jca Tryz.prog 105 (Jb0 0 ks) (.agg [.p (.int .i64 r.part), .p (.str r.name)]) = True := eq_true ⟨_, Jx0, Jnc r, Jt3⟩
@[simp] theorem zs3 : Jeb Tryz.prog 3 = some false := by kernel_rfl
@[simp] theorem Kjn {z v : AV} : hit true z (some v) = .tup [v, .p (.bool true)] := (rfl)
@[simp] theorem Kjm {z : AV} : hit true z none = .tup [z, .p (.bool false)] := (rfl)
@[simp] theorem Kjl {z v : AV} : hit false z (some v) = v := (rfl)
@[simp] theorem Kq5 {b s : Nat} {td : TD} {x : AV} : zeroV ⟨false, s, b, [x], td⟩ = x := (rfl)
theorem Kf9 {f : Port -> Port} {l : List Port} : (Jbe f l).length <= l.length := by
 have := Jnx (l := Jbe f l) (m := l.map f) Jsb fun x hx => by
   obtain ⟨p, hp, rfl⟩ := Jle.1 hx
   exact List.mem_map_of_mem hp
 simpa using this
theorem Jur (c : Circuit) (hc : Jac c = 0) : Pure Tryz.prog GL 159 [c.av] (.p (.lst 1 ((nets c).map Ports.enc))) := by
 have hp := Ja8 hc
 refine Pure.of_walkZ (N := 88) Tryz.func159 rfl rfl rfl (by simp) rfl ?_
 simp
 refine Jag.go [1, 3, 4, 19, 20] [0, 2] 0 [] (fun _ => []) (fun _ (j : Nat) => [(21, .p (.int .i64 j))]) (fun _ j => [(1, some (.map (upsA (Jbo (c.pipes.take j)))))]) (fun j => j <= c.pipes.length) (fun j => c.pipes.length - j) 0 (by omega) ?_ ?_
 . simp [Jbo, upsA]
   decide
 . intro j hj
   have hsn := fun (x : Pipe) (e : c.pipes[j]? = some x) => Kil e
   obtain ⟨ok, _⟩ := Jsz (c.pipes.take j)
   have hend : j = c.pipes.length -> Jbo (c.pipes.take j) = Jbo c.pipes := fun h => by rw [h, List.take_length]
   generalize Jbo (c.pipes.take j) = es at hsn ok hend
   simp
   refine Jad (fun h => ?_) (fun h => ?_)
   . simp at h
     obtain ⟨x, e⟩ := Jae h
     have hsn := hsn x e
     simp [h, e, -getElem?_pos, List.getElem?_cons_zero, List.getElem?_cons_succ]
     refine Jak.intro (by kernel_rfl) ?_
     simp
     refine Ja6 (Jqv es ok x.fr 2 1 _ _ (by omega) (by omega) (by decide) (by simp [get]) (by simp [get])) ?_
     simp
     refine Ja6 (Jqv es ok x.to 2 1 _ _ (by omega) (by omega) (by decide) (by simp [get]) (by simp [get])) ?_
     have hra := Jok ok x.fr
     have hrb := Jok ok x.to
     have hju : Jgy es x = if rootOf es x.fr = rootOf es x.to then es else if Ja3 (rootOf es x.to) (rootOf es x.fr) then es ++ [(rootOf es x.fr, rootOf es x.to)] else es ++ [(rootOf es x.to, rootOf es x.fr)] := rfl
     generalize rootOf es x.fr = a at *
     generalize rootOf es x.to = b at *
     simp
     refine ⟨.of (by kernel_rfl), ?_⟩
     refine Jab (Jmf a b) ?_
     simp
     refine Jad (fun h2 => ?_) (fun h2 => ?_)
     . simp at h2
       simp
       have h3 := Jv1.1 h2
       have h4 : a ≠ b := by rintro rfl; rw [Jk5] at h3; cases h3
       rw [if_neg h4, if_pos h3] at hju
       simp [Ne.symm h4]
       rw [J1d hra]
       refine ⟨wrap_i64 (by omega) (by omega), j + 1, by omega, by omega, by simp, ?_⟩
       rw [hsn, hju]
       simp [Jf4]
       decide
     . simp at h2
       simp
       have h3 : Ja3 b a = false := by
         cases h5 : Ja3 b a with
         | false => rfl
         | true => have := Jv1.2 h5; omega
       by_cases h4 : a = b
       . rw [if_pos h4] at hju
         simp [h4]
         refine ⟨wrap_i64 (by omega) (by omega), j + 1, by omega, by omega, by simp, ?_⟩
         rw [hsn, hju]
         simp [Jf4]
         decide
       . rw [if_neg h4, h3] at hju
         simp at hju
         simp [h4]
         rw [J1d hrb]
         refine ⟨wrap_i64 (by omega) (by omega), j + 1, by omega, by omega, by simp, ?_⟩
         rw [hsn, hju]
         simp [Jf4]
         decide
   . simp at h
     have hj2 : j = c.pipes.length := by omega
     have hes := hend hj2
     subst hes
     simp
     refine Jab (Juo c hp.1 (by omega)) ?_
     obtain ⟨f, hf⟩ : ∃ f, f = rootOf (Jbo c.pipes) := ⟨_, rfl⟩
     obtain ⟨l, hl⟩ : ∃ l, l = allP c := ⟨_, rfl⟩
     have hll : l.length <= 768 := by rw [hl]; exact J3j hp.1 hp.2.1
     rw [<- hl]
     simp
     refine Jag.goe [4, 10, 48, 49] [0, 1, 2] 1000 (fun _ (i : Nat) => [(9, .acc 4 1 (groups f (l.take i)).length), (50, .p (.int .i64 i))]) (fun _ i => (3, some (.map (Jb0 0 (Jbe f (l.take i))))) :: (4, accB 1 (Jbm 5 (groups f (l.take i)))) :: Jd2 5 (groups f (l.take i))) (fun i => i <= l.length) (fun i => l.length - i) 0 (by omega) ⟨[0, 1, 2, 3, 4], ?_⟩ ?_
     . simp [groups, Jbe, Jbm, Jd2, Jb0, Jf4]
     . intro i hi
       have hsn := fun (p : Port) (e : l[i]? = some p) => @J9o f (l.take i) p
       have hrn := fun (p : Port) (e : l[i]? = some p) => @Jjo f (l.take i) p
       have htk := fun (p : Port) (e : l[i]? = some p) => take_snoc e
       have hgl := @J9m f (l.take i)
       have hrl : (Jbe f (l.take i)).length <= i := by
         have := @Kf9 f (l.take i)
         simp at this
         omega
       have hgm : ∀ g ∈ groups f (l.take i), g.length <= l.length := by
         intro g hg
         obtain ⟨r, _, rfl⟩ := List.mem_map.1 hg
         have := List.length_filter_le (fun p => decide (f p = r)) (l.take i)
         simp only [List.length_take] at this
         omega
       have hend : i = l.length -> groups f (l.take i) = groups f l := fun h => by rw [h, List.take_length]
       generalize groups f (l.take i) = gs at hsn hgl hend hgm
       generalize Jbe f (l.take i) = ks at hsn hrn hgl hrl
       have lo0 : ∀ s, get (Jd2 5 gs ++ s) 0 = get s 0 := fun s => Jnu (by omega)
       have lo1 : ∀ s, get (Jd2 5 gs ++ s) 1 = get s 1 := fun s => Jnu (by omega)
       have lo2 : ∀ s, get (Jd2 5 gs ++ s) 2 = get s 2 := fun s => Jnu (by omega)
       simp
       refine Jad (fun h2 => ?_) (fun h2 => ?_)
       . simp at h2
         obtain ⟨x, e⟩ := Jae h2
         have hsn := hsn x e
         have hrn := hrn x e
         have htk := htk x e
         simp [h2, e, -getElem?_pos, List.getElem?_cons_zero, List.getElem?_cons_succ]
         refine Ja6 (Jqv (Jbo c.pipes) ok x 2 1 _ _ (by omega) (by omega) (by decide) (by simp [get, lo2]) (by simp [get, lo1])) ?_
         rw [<- hf]
         simp
         cases hpos : Jcr ks (f x) with
         | some k =>
           have hks := Jrw hpos
           have hk1 : k < ks.length := (gsI.1 hks).1
           obtain ⟨g, hg⟩ := Jae (xs := gs) (k := k) (by omega)
           have hog := Jjb (n := 5) hg
           have hng : ∀ s, get (Jd2 5 gs ++ s) (5 + k) = accB 2 (g.map Port.row) := fun s => Jky hg
           have hol := @Jcy gs 5
           have n1 : k < gs.length := by omega
           have n2 : gs ≠ [] := by rintro rfl; simp at n1
           have n3 : ¬ 1004 = 5 + k := by omega
           have n4 : ¬ 1005 = 5 + k := by omega
           have n5 : ¬ 1006 = 5 + k := by omega
           have n6 : ¬ 1007 = 5 + k := by omega
           have n7 : ¬ 3 = 5 + k := by omega
           have n8 : ¬ 4 = 5 + k := by omega
           simp [hpos]
           refine Jak.intro (by kernel_rfl) ?_
           have n9 : ¬ Jbm 5 gs = [] := fun h => by
             rw [h] at hol
             simp at hol
             omega
           have n13 : ¬ 5 + k = 4 := by omega
           have n14 : ¬ 5 + k = 3 := by omega
           have n15 : ¬ 5 + k = 2 := by omega
           have n16 : ¬ 5 + k = 1 := by omega
           have n17 : ¬ 5 + k = 0 := by omega
           have n10 : 5 + k < 1007 := by omega
           have n11 : ¬ 5 + k = 1006 := by omega
           have hgle : g.length <= l.length := hgm g (List.mem_of_getElem? hg)
           have n12 : (g.length + 1) * 24 <= 35184372088832 := by omega
           simp [hpos, hog, hng, hol, n1, n3, n4, n5, n6, n7, n8, n9, n10, n11, n12, n13, -getElem?_pos, List.getElem?_cons_zero, List.getElem?_cons_succ, -SubX]
           refine ⟨Bears.swap 999999 (5 + k) (fps' := [([], []), ([], []), ([1005], []), ([3], []), ([], []), ([], []), ([1005], []), ([3], []), ([], []), ([4], []), ([1004], []), ([], [1006]), ([999999, 1006], [1007, 999999]), ([], []), ([4], [4])]) (by simp [renF, swp, n3, n4, n5, n6, n7, n8]) (by kernel_rfl), wrap_i64 (by omega) (by omega), i + 1, by omega, by omega, Jdn 4 1007 k gs.length, ?_⟩
           have hga : groups f (l.take (i + 1)) = gs.set k (g ++ [x]) := by rw [htk, hsn, Jl6, hpos]; simp [hg]
           have hra : Jbe f (l.take (i + 1)) = ks := by rw [htk, hrn, if_pos (List.mem_of_getElem? hks)]
           have hgsl : (gs.set k (g ++ [x])).length = gs.length := by simp
           rw [hga, hra, <- hgsl]
           refine Jy8 (.inl rfl) (by omega) (by decide) (by rw [hgsl]; omega) ?_ ?_ ?_ ?_ ?_
           . simp [Jkz, Jnv]
           . simp [n14]
           . have hrow : Jbm 5 (gs.set k (g ++ [x])) ≠ [] := fun h => by
               have h9 := @Jcy (gs.set k (g ++ [x])) 5
               rw [h] at h9
               simp at h9
               omega
             rw [show accB 1 (Jbm 5 (gs.set k (g ++ [x]))) = some (.cells 1 (Jbm 5 (gs.set k (g ++ [x])))) from if_neg hrow]
             refine Jpp Jnv (z := .cells 1 ((Jbm 5 gs).set k [AV.acc 1007 2 (g.length + 1)])) ?_ (by simp [get]) (.inl rfl)
             simp only [renB, Option.map_eq_some_iff]
             refine ⟨_, Jr5 ?_ ?_, rfl⟩
             . simp [Jcy]
             . intro m row hrow
               obtain ⟨q, hq, rfl⟩ := Jz0 hrow
               have hm : m < gs.length := by have := (gsI.1 hq).1; rwa [hgsl] at this
               by_cases hmk : k = m
               . subst hmk
                 rw [List.getElem?_set_self (by omega)] at hq
                 cases hq
                 refine ⟨[AV.acc 1007 2 (g.length + 1)], by rw [List.getElem?_set_self (by rw [hol]; omega)], ?_⟩
                 simp [renL, renA, Ji7 hm]
               . rw [List.getElem?_set_ne hmk] at hq
                 refine ⟨[AV.acc (5 + m) 2 q.length], by rw [List.getElem?_set_ne hmk]; exact Jjb hq, ?_⟩
                 simp [renL, renA, Ji7 hm, Ne.symm hmk]
           . intro m q hq
             have hm : m < gs.length := by have := (gsI.1 hq).1; rwa [hgsl] at this
             refine of_eq_true (Jim ?_ (Jla fun _ => rfl))
             rw [hgsl, Ji7 hm]
             by_cases hmk : k = m
             . subst hmk
               rw [List.getElem?_set_self (by omega)] at hq
               cases hq
               simp
             . rw [List.getElem?_set_ne hmk] at hq
               have m1 : ¬ 1004 = 5 + m := by omega
               have m2 : ¬ 1005 = 5 + m := by omega
               have m3 : ¬ 1006 = 5 + m := by omega
               have m4 : ¬ 1007 = 5 + m := by omega
               have m5 : ¬ 3 = 5 + m := by omega
               have m6 : ¬ 4 = 5 + m := by omega
               have m7 : ¬ 5 + k = 5 + m := by omega
               simp [Ne.symm hmk, m1, m2, m3, m4, m5, m6, hmk, Jky hq]
           . simp [Jkz, lo0, lo1, lo2, Jf4, n15, n16, n17]
         | none =>
           have hkn := Jrv.1 hpos
           have hol := @Jcy gs 5
           have hpos2 := Kfh hkn
           have hset : setA (Jb0 0 ks) (.agg [.p (.int .i64 (f x).part), .p (.str (f x).name)]) (.p (.int .i64 gs.length)) = Jb0 0 (ks ++ [f x]) := by
             have := J1c (n := 0) hkn
             rw [Nat.zero_add, <- hgl] at this
             exact this
           have hone := @Jz1 gs 5
           have hlast : (Jbm 5 gs ++ [[AV.nils]])[gs.length]? = some [AV.nils] := by
             rw [List.getElem?_append_right (by omega), hol]; simp
           simp [hpos, hset]
           refine ⟨by omega, hol, hone, Jak.intro (by kernel_rfl) ?_⟩
           rw [hgl] at hlast hol
           simp [hpos2, hol, hlast, hgl, -getElem?_pos, List.getElem?_cons_zero, List.getElem?_cons_succ, -SubX]
           have hga : groups f (l.take (i + 1)) = gs ++ [[x]] := by rw [htk, hsn, Jl6, hpos]
           have hra : Jbe f (l.take (i + 1)) = ks ++ [f x] := by rw [htk, hrn, if_neg hkn]
           have hgsl : (gs ++ [[x]]).length = gs.length + 1 := by simp
           refine ⟨by omega, .of (by kernel_rfl), wrap_i64 (by omega) (by omega), i + 1, by omega, by omega, Jdn 1007 1009 gs.length (gs ++ [[x]]).length, ?_⟩
           rw [hga, hra]
           refine Jy8 (.inr (by omega)) (by omega) (by decide) (by rw [hgsl]; omega) ?_ ?_ ?_ ?_ ?_
           . simp [Jkz, Jnv, hgl]
           . simp
           . rw [hgsl]
             have hrow : Jbm 5 (gs ++ [[x]]) ≠ [] := fun h => by
               have h9 := @Jcy (gs ++ [[x]]) 5
               rw [h] at h9
               simp at h9
             rw [show accB 1 (Jbm 5 (gs ++ [[x]])) = some (.cells 1 (Jbm 5 (gs ++ [[x]]))) from if_neg hrow]
             refine Jpp Jnv (z := .cells 1 (Jbm 5 gs ++ [[AV.acc 1009 2 1]])) (y := .cells 1 (Jbm 5 gs ++ [[AV.ref 1009 2 0 1 none]])) ?_ (by simp [get]) (.inr ⟨1, _, _, rfl, rfl, ?_⟩)
             . simp only [renB, Option.map_eq_some_iff]
               refine ⟨_, Jr5 ?_ ?_, rfl⟩
               . simp [Jcy]
               . intro m row hrow
                 obtain ⟨q, hq, rfl⟩ := Jz0 hrow
                 have hm : m < (gs ++ [[x]]).length := (gsI.1 hq).1
                 rw [hgsl] at hm
                 by_cases hmk : m < gs.length
                 . rw [List.getElem?_append_left hmk] at hq
                   refine ⟨[AV.acc (5 + m) 2 q.length], by rw [List.getElem?_append_left (by rw [Jcy]; exact hmk)]; exact Jjb hq, ?_⟩
                   have m9 : m ≠ gs.length := by omega
                   simp [renL, renA, Ji7 hm, m9]
                 . have m9 : m = gs.length := by omega
                   subst m9
                   rw [List.getElem?_append_right (by omega)] at hq
                   simp at hq
                   subst hq
                   refine ⟨[AV.acc 1009 2 1], by rw [List.getElem?_append_right (by rw [Jcy]; omega)]; simp [Jcy], ?_⟩
                   simp [renL, renA, Ji7 hm]
             . refine J2l (by simp) fun m row hrow => ?_
               by_cases hmk : m < gs.length
               . rw [List.getElem?_append_left (by rw [Jcy]; exact hmk)] at hrow ⊢
                 exact ⟨row, hrow, Jcn _⟩
               . have hm : m < (Jbm 5 gs ++ [[AV.ref 1009 2 0 1 none]]).length := (gsI.1 hrow).1
                 simp [Jcy] at hm
                 have m9 : m = gs.length := by omega
                 subst m9
                 rw [List.getElem?_append_right (by rw [Jcy]; omega)] at hrow
                 simp [Jcy] at hrow
                 subst hrow
                 refine ⟨[AV.acc 1009 2 1], by rw [List.getElem?_append_right (by rw [Jcy]; omega)]; simp [Jcy], ?_⟩
                 simp [wknL]
           . intro m q hq
             have hm : m < (gs ++ [[x]]).length := (gsI.1 hq).1
             refine of_eq_true (Jim ?_ (Jla fun _ => rfl))
             rw [Ji7 hm]
             by_cases hmk : m < gs.length
             . rw [List.getElem?_append_left hmk] at hq
               have m0 : m ≠ gs.length := by omega
               have m1 : ¬ 1004 = 5 + m := by omega
               have m2 : ¬ 1005 = 5 + m := by omega
               have m3 : ¬ 1006 = 5 + m := by omega
               have m4 : ¬ 1007 = 5 + m := by omega
               have m5 : ¬ 3 = 5 + m := by omega
               have m6 : ¬ 4 = 5 + m := by omega
               have m7 : ¬ 1008 = 5 + m := by omega
               have m8 : ¬ 1009 = 5 + m := by omega
               simp [m0, m1, m2, m3, m4, m5, m6, m7, m8, Jky hq]
             . have m9 : m = gs.length := by simp at hm; omega
               subst m9
               rw [List.getElem?_append_right (by omega)] at hq
               simp at hq
               subst hq
               simp
           . simp [Jkz, lo0, lo1, lo2, Jf4]
       . simp at h2
         have hil : i = l.length := by omega
         have hge : gs = nets c := by rw [hend hil, hf, hl]; exact Jza (Jph hp.1)
         simp
         refine ⟨.inl rfl, [.acc 4 1 gs.length], by simp, ?_⟩
         rw [<- hge]
         refine .one _ _ (.acc 4 1 gs.length (Jbm 5 gs) (gs.map Ports.enc) (fun p _ => .acc (5 + p) 2 ((gs[p]?).getD []).length) trivial (by simp [get]) Jcy (by simp) ?_ ?_)
         . intro p j row x h1 h3
           simp only [List.getElem?_map, Option.map_eq_some_iff] at h1
           obtain ⟨g, hg, rfl⟩ := h1
           refine ⟨_, Jjb hg, ?_⟩
           match j with
           | 0 => simp [hg]
           | j + 1 => simp [Ports.enc] at h3
         . intro p j row x h1 h3
           simp only [List.getElem?_map, Option.map_eq_some_iff] at h1
           obtain ⟨g, hg, rfl⟩ := h1
           match j with
           | 0 =>
             simp [Ports.enc] at h3
             subst h3
             simp only [hg, Option.getD_some]
             have hng := Jky (n := 5) (s := [(0, some (ABlk.cells 2 [[AV.p (PV.lst 3 (List.map Part.enc c.parts)), AV.p (PV.lst 4 (List.map Pipe.enc c.pipes))]])), (1, some (ABlk.map (upsA (Jbo c.pipes)))), (2, some (ABlk.cells 1 [[AV.map 1]]))]) hg
             have k1 : ¬ 3 = 5 + p := by omega
             have k2 : ¬ 4 = 5 + p := by omega
             refine Frz.accRows (arows := g.map Port.row) trivial ?_ (by rw [List.map_map]; rfl) (by simp)
             simp [k1, k2, hng]
           | j + 1 => simp [Ports.enc] at h3
end Go.Am
namespace Go.Am
open Go Go.Proofs Go.Pn
theorem Jum (c : Circuit) (hs : Sized c) : Pure Tryz.prog GL 99 [c.av] (.tup [.p (.lst 1 ((if Jac c ≠ 0 then [] else nets c).map Ports.enc)), .p (.int .i64 (Jac c))]) := by
 refine Pure.of_walk (N := 12) Tryz.func99 rfl rfl rfl (by simp) (by first | (simp; done) | simp [*]) ?_
 simp
 refine Jab (Jgr c hs) ?_
 by_cases hc : Jac c = 0
 . simp [hc]
   refine Jab (Jur c hc) ?_
   simp [Jaa, hc]
 . simp [hc, Jaa]
theorem J4c (xs : List (List Port)) (q : List Port -> Bool) (m : Nat) (cap : List AV) (hcap : Jay cap = true) (hl : xs.length < 4611686018427387904) (hq : ∀ x ∈ xs, Pure Tryz.prog GL m ((Ports.av x) :: cap) (.p (.bool (q x)))) : Pure Tryz.prog GL 227 [.p (.lst 1 (xs.map Ports.enc)), .fn (.func m) cap] (.p (.int .i64 (idxI xs q))) := by
 refine Pure.of_walk (N := 19) Tryz.func227 rfl rfl rfl (by simp) (by first | (simp; done) | simp [*]) ?_
 have hren := fun ρ => (Jg9 (ρ := ρ)).2 cap hcap
 simp
 refine Jag.go [0, 1, 7] [] 0 [] (fun _ => []) (fun _ (k : Nat) => [(8, .p (.int .i64 k))]) (fun _ _ => []) (fun k => k <= xs.length /\ ∀ (j : Nat) x, j < k -> xs[j]? = some x -> q x = false) (fun k => xs.length - k) 0 ⟨by omega, fun j b h => by omega⟩ ?_ ?_
 . simp [hren]
 . rintro k ⟨hk, hp⟩
   simp
   refine Jad (fun h => ?_) (fun h => ?_)
   . simp at h
     obtain ⟨x, e⟩ := Jae h
     simp [h, e, Ports.enc, -getElem?_pos, List.getElem?_cons_zero, List.getElem?_cons_succ]
     refine Jab (hq x (List.mem_of_getElem? e)) ?_
     simp
     refine Jad (fun h2 => ?_) (fun h2 => ?_)
     . simp [Jaa, Jej e h2 hp]
     . simp [hren]
       refine ⟨wrap_i64 (by omega) (by omega), k + 1, ⟨by omega, Jdt hp e h2⟩, by omega, ?_⟩
       simp [hren]
   . simp at h
     have hk2 : k = xs.length := by omega
     subst hk2
     simp [Jaa, Jfd (Jed hp)]
theorem Jgs (i : Int) (s : Txt) : Pure Tryz.prog GL 55 [.p (.int .i64 i), .p (.str s)] ((⟨i, s⟩ : Port).av) := by
 refine Pure.of_walk (N := 8) Tryz.func55 rfl rfl rfl (by simp) (by first | (simp; done) | simp [*]) ?_
 simp
 simp [Jaa]
def Jeh : Circuit := ⟨[⟨1, [65], 0⟩, ⟨6, [65, 48], 0⟩, ⟨0, [83], 0⟩, ⟨3, [86], 0⟩], [⟨⟨0, [50]⟩, ⟨3, [50]⟩⟩, ⟨⟨0, [52]⟩, ⟨3, [52]⟩⟩, ⟨⟨1, [49]⟩, ⟨2, [49]⟩⟩, ⟨⟨2, [49]⟩, ⟨3, [49]⟩⟩]⟩
theorem J5s : Pure Tryz.prog GL 20 [] Jeh.av := by
 refine Pure.of_walk (N := 29) Tryz.func20 rfl rfl rfl (by simp) rfl ?_
 simp
 refine Jab (Jgs 0 [50]) ?_
 simp
 refine Jab (Jgs 3 [50]) ?_
 simp
 refine Jab (Jgs 0 [52]) ?_
 simp
 refine Jab (Jgs 3 [52]) ?_
 simp
 refine Jab (Jgs 1 [49]) ?_
 simp
 refine Jab (Jgs 2 [49]) ?_
 simp
 refine Jab (Jgs 2 [49]) ?_
 simp
 refine Jab (Jgs 3 [49]) ?_
 simp
 simp [Jaa, Jeh]
end Go.Am
namespace Go.Am
open Go Go.Proofs Go.Pn
def J8m : Circuit := Kf2 Jeh 3
theorem J8n : Sized Jeh /\ Sized J8m := by
 refine ⟨⟨by decide +kernel, by decide +kernel, by decide +kernel⟩, ⟨by decide +kernel, by decide +kernel, by decide +kernel⟩⟩
end Go.Am
namespace Go.Am
open Go Go.Proofs Go.Pn
end Go.Am
namespace Go.Am
open Go Go.Proofs Go.Pn
theorem Kfu {c : Circuit} {a : Port} : Je6 c [a] = Jbi c a := by simp [Je6, Jaq, Jef]
theorem Kcc {c : Circuit} {a : Port} : Jff c [a] = Jbw c a := by simp [Jff, Jaq, Jef]
theorem Kft {c : Circuit} {a : Port} (h : Jbi c a = 0) : ∀ p ∈ [a], 0 <= p.part /\ p.part < c.parts.length := by
 intro p hp
 simp at hp; subst hp
 unfold Jbi at h
 split at h
 . cases h
 . omega
theorem J4n (c : Circuit) (p : Port) (hs : Sized c) : Pure Tryz.prog GL 197 [c.av, p.av] (.tup [.p (.int .i64 (if Jac c ≠ 0 then 0 else if Jdl c p ≠ 0 then 0 else netP c p)), .p (.int .i64 (if Jac c ≠ 0 then Jac c else Jdl c p))]) := by
 refine Pure.of_walk (N := 32) Tryz.func197 rfl rfl rfl (by simp) (by first | (simp; done) | simp [*]) ?_
 simp
 refine Jab (Jgr c hs) ?_
 by_cases h : Jac c = 0
 . have h2 := Ja8 h
   simp [h]
   refine Jcs ?_
   simp
   refine ⟨_, Juq c [p] hs (by simp), rfl, ?_⟩
   rw [Kfu]
   by_cases hr : Jbi c p = 0
   . simp [hr]
     refine Jcs ?_
     simp
     refine ⟨_, Jup c [p] hs (by simp) h2.1 (Kft hr), rfl, ?_⟩
     rw [Kcc]
     by_cases hn : Jbw c p = 0
     . simp [hn]
       refine Jab (Jur c h) ?_
       simp
       refine Jcs ?_
       simp
       refine ⟨_, J4c (nets c) (fun l => decide (p ∈ l)) 228 [.iptr 2 [[.int .i64 p.part, .str p.name]] 0 0] rfl (by have := (Ji8 h).1; omega) (fun l hl => J4o p l (by have := (Ji8 h).2 l hl; omega)), rfl, ?_⟩
       rw [<- netP]
       simp [Jaa, h, Jdl, hr, hn]
     . simp [hn]
       simp [Jaa, h, Jdl, hr, hn]
   . simp [hr]
     simp [Jaa, h, Jdl, hr]
 . simp [h, Jaa]
end Go.Am
