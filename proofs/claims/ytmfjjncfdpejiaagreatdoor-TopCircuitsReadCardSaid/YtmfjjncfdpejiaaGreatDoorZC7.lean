/- Lemmas and contracts for the proof of a statement of this seat. -/
import Derived.Test.YtmfjjncfdpejiaaGreatDoorZC6
import Derived.Test.YtmfjjncfdpejiaaGreatDoorZS2
import Derived.Test.YtmfjjncfdpejiaaGreatDoorZA5
set_option linter.unusedVariables false
set_option linter.unusedSimpArgs false
namespace Go.Am
open Go Go.Proofs Go.Pn
theorem Jza {ps : List Pipe} {p : Port} {x : Pipe} (hx : x ∈ ps) {a : List Port × Bool} (h : ∀ q ∈ a.1, Conn ps p q) : ∀ q ∈ (Jcl a x).1, Conn ps p q := by
 obtain ⟨l, m⟩ := a
 intro q hq
 unfold Jcl at hq
 by_cases h1 : x.fr ∈ l /\ ¬ x.to ∈ l
 . simp only [h1, not_false_eq_true, and_self, if_true] at hq
   have h2 : ¬ (x.to ∈ l ++ [x.to] /\ ¬ x.fr ∈ l ++ [x.to]) := fun h => h.2 (by simp [h1.1])
   rw [if_neg h2] at hq
   rcases List.mem_append.1 hq with hq | hq
   . exact h q hq
   . simp at hq; subst hq; exact .fwd _ x (h _ h1.1) hx
 . rw [if_neg h1] at hq
   by_cases h2 : x.to ∈ l /\ ¬ x.fr ∈ l
   . rw [if_pos h2] at hq
     rcases List.mem_append.1 hq with hq | hq
     . exact h q hq
     . simp at hq; subst hq; exact .bwd _ x (h _ h2.1) hx
   . rw [if_neg h2] at hq
     exact h q hq
theorem Jrm {ps : List Pipe} {p : Port} : ∀ {qs : List Pipe} {a : List Port × Bool}, (∀ x ∈ qs, x ∈ ps) -> (∀ q ∈ a.1, Conn ps p q) -> ∀ q ∈ (qs.foldl Jcl a).1, Conn ps p q
 | [], a, _, h => h
 | x :: qs, a, hs, h => Jrm (qs := qs) (fun y hy => hs y (List.mem_cons_of_mem _ hy)) (Jza (hs x (List.mem_cons_self ..)) h)
theorem Jro {c : Circuit} {p : Port} : ∀ {n : Nat}, ∀ q ∈ Jbb c [p] n, Conn c.pipes p q
 | 0, q, h => by simp [Jbb] at h; subst h; exact .refl _
 | n + 1, q, h => Jrm (fun _ h => h) (fun q hq => Jro q hq) q h
theorem Jzb {a : List Port × Bool} {x : Pipe} (h : (Jcl a x).1 = a.1) : (x.fr ∈ a.1 -> x.to ∈ a.1) /\ (x.to ∈ a.1 -> x.fr ∈ a.1) := by
 obtain ⟨l, m⟩ := a
 unfold Jcl at h
 by_cases h1 : x.fr ∈ l /\ ¬ x.to ∈ l
 . simp only [h1, not_false_eq_true, and_self, if_true] at h
   have h2 : ¬ (x.to ∈ l ++ [x.to] /\ ¬ x.fr ∈ l ++ [x.to]) := fun h => h.2 (by simp [h1.1])
   rw [if_neg h2] at h
   have := congrArg List.length h
   simp at this
 . rw [if_neg h1] at h
   by_cases h2 : x.to ∈ l /\ ¬ x.fr ∈ l
   . rw [if_pos h2] at h
     have := congrArg List.length h
     simp at this
   . exact ⟨fun h3 => Decidable.byContradiction fun h4 => h1 ⟨h3, h4⟩, fun h3 => Decidable.byContradiction fun h4 => h2 ⟨h3, h4⟩⟩
theorem Jrn : ∀ {qs : List Pipe} {a : List Port × Bool}, (qs.foldl Jcl a).1 = a.1 -> ∀ x ∈ qs, (x.fr ∈ a.1 -> x.to ∈ a.1) /\ (x.to ∈ a.1 -> x.fr ∈ a.1)
 | [], a, _, x, h => by cases h
 | y :: qs, a, he, x, h => by
   obtain ⟨e1, k1, _⟩ := Jrq (a := a) (x := y)
   obtain ⟨e2, k2, _⟩ := Jjj (ps := qs) (a := Jcl a y)
   rw [List.foldl_cons, k2, k1] at he
   have hl := congrArg List.length he
   rw [List.length_append, List.length_append] at hl
   have e10 : e1 = [] := List.length_eq_zero_iff.1 (by omega)
   have e20 : e2 = [] := List.length_eq_zero_iff.1 (by omega)
   subst e10; subst e20
   rw [List.append_nil] at k1 k2
   rcases List.mem_cons.1 h with rfl | h
   . exact Jzb k1
   . have := Jrn (qs := qs) (a := Jcl a y) k2 x h
     rwa [k1] at this
theorem Jk4 {c : Circuit} {p : Port} : ∀ {n : Nat}, ArInv c p n (Jbb c [p] n)
 | 0 => ⟨rfl, by simp [Jbb], by simp [Jbb]⟩
 | n + 1 => (Jk4 (n := n)).next.1
theorem J14 {c : Circuit} {p : Port} : (Jd5 c (closure c p)).1 = closure c p := by
 have key : ∀ n, (∃ i, i <= n /\ (Jd5 c (Jbb c [p] i)).1 = Jbb c [p] i) \/ n + 2 <= (Jbb c [p] (n + 1)).length := by
   intro n
   induction n with
   | zero =>
     have h := (Jk4 (c := c) (p := p) (n := 0)).next
     cases hf : (Jd5 c (Jbb c [p] 0)).2 with
     | false => exact .inl ⟨0, by omega, h.2.2 hf⟩
     | true =>
       have := h.2.1 hf
       have e : (Jbb c [p] 0).length = 1 := rfl
       exact .inr (by rw [e] at this; exact this)
   | succ n ih =>
     rcases ih with ⟨i, hi, h⟩ | ih
     . exact .inl ⟨i, by omega, h⟩
     . have h := (Jk4 (c := c) (p := p) (n := n + 1)).next
       cases hf : (Jd5 c (Jbb c [p] (n + 1))).2 with
       | false => exact .inl ⟨n + 1, by omega, h.2.2 hf⟩
       | true =>
         have := h.2.1 hf
         exact .inr (by rw [Jbb]; omega)
 rcases key (2 * c.pipes.length) with ⟨i, hi, h⟩ | h
 . have e : closure c p = Jbb c [p] i := Jy9 h _ (by omega)
   rw [e]; exact h
 . have := (Jk4 (c := c) (p := p) (n := 2 * c.pipes.length + 1)).le
   omega
theorem Js0 {c : Circuit} {p q : Port} : q ∈ closure c p ↔ Conn c.pipes p q := by
 constructor
 . exact Jro q
 . intro h
   have hs := Jrn (a := (closure c p, false)) J14
   induction h with
   | refl =>
     have h0 : ∀ n, p ∈ Jbb c [p] n := by
       intro n
       induction n with
       | zero => simp [Jbb]
       | succ n ih =>
         obtain ⟨e, k, _⟩ := Jjj (ps := c.pipes) (a := (Jbb c [p] n, false))
         rw [Jbb]
         show p ∈ (c.pipes.foldl Jcl (Jbb c [p] n, false)).1
         rw [k]
         exact List.mem_append.2 (.inl ih)
     exact h0 _
   | fwd x _ hm ih => exact (hs x hm).1 ih
   | bwd x _ hm ih => exact (hs x hm).2 ih
theorem Jvb {c : Circuit} (hn : (allP c).Nodup) : groups (rootOf (Jbr c.pipes)) (allP c) = nets c := by
 obtain ⟨ok, hsp⟩ := Jqv c.pipes
 rw [J3v hn]
 have ha : ∀ p, (allP c).filter (fun q => decide (rootOf (Jbr c.pipes) q = rootOf (Jbr c.pipes) p)) = around c p := by
   intro p
   unfold around
   apply List.filter_congr
   intro q _
   rw [decide_eq_decide, hsp, Js0]
   exact ⟨Conn.symm, Conn.symm⟩
 simp only [ha]
 rfl
theorem J4n {k : Nat} (h : k < 14) : (Ja7 k).Nodup := (by decide : ∀ k, k < 14 -> (Ja7 k).Nodup) k h
theorem Jrl {c : Circuit} : ∀ {k : Nat} {q : Port}, q ∈ Jb9 c k -> 0 <= q.part /\ q.part < k
 | 0, q, h => by simp [Jb9] at h
 | k + 1, q, h => by
   simp only [Jb9] at h
   rcases List.mem_append.1 h with h | h
   . have := Jrl h; omega
   . split at h
     . obtain ⟨s, _, rfl⟩ := List.mem_map.1 h
       simp; omega
     . cases h
theorem Jrk {c : Circuit} (hk : Jb5 c) : ∀ {k : Nat}, (Jb9 c k).Nodup
 | 0 => by simp [Jb9]
 | k + 1 => by
   simp only [Jb9]
   rw [List.nodup_append]
   refine ⟨Jrk hk, ?_, fun a ha b hb => ?_⟩
   . split
     . rename_i p hp
       have := hk p (List.mem_of_getElem? hp)
       have hn := J4n (k := p.kind.toNat) (by omega)
       rw [List.nodup_iff_pairwise_ne, List.pairwise_map]
       refine (List.nodup_iff_pairwise_ne.1 hn).imp fun {a b} hab h => hab ?_
       exact (Port.mk.inj h).2
     . exact List.nodup_nil
   . have h1 := Jrl ha
     split at hb
     . obtain ⟨s, _, rfl⟩ := List.mem_map.1 hb
       rintro rfl
       simp at h1
     . cases hb
theorem Jns {c : Circuit} (hk : Jb5 c) : (allP c).Nodup := Jrk hk
theorem Jy6 {c : Circuit} (hk : Jb5 c) (hn : c.parts.length <= 64) : (allP c).length <= 768 := by
 have := Jk3 hk (k := c.parts.length)
 unfold allP
 omega
end Go.Am
namespace Go.Am
open Go Go.Proofs Go.Pn
def upsA (es : Ups) : List (AV × AV) := es.map fun e => (e.1.av, e.2.av)
theorem Jhd {p q : Port} (h : p.av = q.av) : p = q := by
 simp at h
 cases p; cases q; simp_all
theorem Jug : KeyOk Tryz.prog 55 IsIS := J4g (by kernel_rfl) (fun w em n s => by kernel_rfl) (fun n m s t => by rw [eq55]; simp [Bool.decide_and])
theorem Jly (p : Port) : IsIS p.av := ⟨p.part, p.name, rfl⟩
theorem Juh {α : Type} {l : List α} {f : α -> Port} {g : α -> AV} (p : Port) : Jck Tryz.prog 55 (l.map fun e => ((f e).av, g e)) p.av :=
 ⟨_, Jug, Jly p, fun e he => by
   obtain ⟨a, _, rfl⟩ := List.mem_map.1 he
   exact Jly _⟩
theorem J4i (es : Ups) (p : Port) : Jck Tryz.prog 55 (upsA es) p.av := Juh p
theorem Jzj {es : Ups} {p : Port} : Jal (upsA es) p.av = (upOf es p).map Port.av := by
 induction es with
 | nil => simp [upsA, Jal, upOf]
 | cons e es ih =>
   obtain ⟨a, b⟩ := e
   simp only [upsA, List.map_cons, upOf] at ih ⊢
   by_cases h : a = p
   . subst h
     simp [Jal]
   . have hne : a.av ≠ p.av := fun h2 => h (Jhd h2)
     rw [if_neg h, <- ih]
     unfold Jal
     rw [List.find?_cons_of_neg (by simpa using hne)]
@[simp] theorem Kbs {es : Ups} {p : Port} : (Jal (upsA es) (.agg [.p (.int .i64 p.part), .p (.str p.name)])) = (upOf es p).map Port.av := Jzj
@[simp] theorem Kbk {es : Ups} {p : Port} : Jck Tryz.prog 55 (upsA es) (.agg [.p (.int .i64 p.part), .p (.str p.name)]) = True := eq_true (J4i es p)
def Jre : Port := ⟨0, []⟩
theorem J31 {es : Ups} {p : Port} : hit true (.agg [.p (.int .i64 0), .p (.str [])]) ((upOf es p).map Port.av) = .tup [((upOf es p).getD Jre).av, .p (.bool (upOf es p).isSome)] := by
 cases upOf es p <;> rfl
@[simp] theorem zs56 : Jd4 Tryz.prog 55 = some true := by kernel_rfl
@[simp] theorem Kbc {es : Ups} {p : Port} : hit true (zeroV ⟨true, 2, 24, [.p (.int .i64 0), .p (.str [])], TD.struct [(0, 1, false), (1, 1, false)]⟩) ((upOf es p).map Port.av) = .tup [((upOf es p).getD Jre).av, .p (.bool (upOf es p).isSome)] := J31
theorem Jfe {es : Ups} {ρ : List Nat} : renE ρ (upsA es) = some (upsA es) := by
 unfold upsA
 induction es with
 | nil => rfl
 | cons e es ih => simp only [List.map_cons, renE, ih]; rfl
theorem Jou (es : Ups) (ok : UpsOk es) (p : Port) (b mb : Nat) (s : Store) (nx : Nat) (hb : b < nx) (hm : mb < nx) (hne : b ≠ mb) (hg : get s b = some (.cells 1 [[.map mb]])) (hgm : get s mb = some (.map (upsA es))) :
   Gives Tryz.prog GL 178 [p.av, .ptr b 1 0 0] s nx (rootOf es p).av [b, mb] [] nx := by
 refine Gives.mk_walkK (N := 22) (args := [p.av, .ptr 0 1 0 0]) [b, mb] [] [(0, some (.cells 1 [[.map 1]])), (1, some (.map (upsA es)))] [] 2 0 (rootOf es p).av (fun _ => []) (up1 := []) Tryz.func178 rfl rfl rfl (by simp) rfl (by simp [hg, hb, hm, hne, hgm, Jfe]; intro q hq; match q, hq with | 0, _ => simp | 1, _ => simp) (by simp) (by simp) (by simp) (by simp) rfl ?_
 simp
 refine Jai.gor [1, 2, 3] [0, 1, 3] [0, 1, 2, 3, 4] (fun st => [0, 1, 2, 3] ++ nms [4] st) (fun (q : Port) => [(4, .ptr 4 2 0 0), (5, .p (.bool (upOf es q).isSome))]) (fun q => [(2, some (.cells 2 [q.row])), (4, some (.cells 2 [((upOf es q).getD Jre).row]))]) (fun q => rootOf es q = rootOf es p) (fun q => Jhn es q) p rfl ?_ ?_
 . simp [Jfe]
   try decide
 . intro q hq
   simp
   cases hu : upOf es q with
   | none =>
     simp
     exact ⟨by rw [<- hq, Jhe hu], by simp [Jfe], by decide⟩
   | some r =>
     simp
     exact ⟨r, by rw [<- Jke ok hu]; exact hq, Jkr ok hu, rfl, ⟨rfl, rfl, by simp [Jfe]⟩, by decide⟩
end Go.Am
namespace Go.Am
open Go Go.Proofs Go.Pn
theorem Jxc {es : Ups} {a b : Port} (h : upOf es b = none) : setA (upsA es) (.agg [.p (.int .i64 b.part), .p (.str b.name)]) (.agg [.p (.int .i64 a.part), .p (.str a.name)]) = upsA (es ++ [(b, a)]) := by
 rw [Jmy]
 . simp [upsA]
 . intro e he
   obtain ⟨q, hq, rfl⟩ := List.mem_map.1 he
   intro h2
   have : q.1 = b := Jhd h2
   exact Jx7 h q.2 (by rw [<- this]; exact hq)
theorem J94 {l : List Pipe} {k : Nat} {x : Pipe} (e : l[k]? = some x) : Jbr (l.take (k + 1)) = Jgj (Jbr (l.take k)) x := by
 rw [take_snoc e, Jbr, List.foldl_append]; rfl
theorem Js2 {a b : Port} : 0 < Jcb a b ↔ Jav b a = true := by
 constructor
 . intro h
   cases h2 : Jav b a with
   | true => rfl
   | false =>
     exfalso
     cases h3 : Jav a b with
     | true => have := Jg5.2 h3; omega
     | false =>
       have := Jmk h3 h2
       have := Jhy.2 this
       omega
 . intro h
   have h1 : ¬ Jcb a b < 0 := fun h2 => by
     have := Jwi (Jg5.1 h2)
     rw [h] at this; cases this
   have h3 : Jcb a b ≠ 0 := fun h2 => by
     have := Jhy.1 h2
     subst this
     rw [Jin] at h; cases h
   omega
def Jcx : List Port -> Port -> Option Nat
 | [], _ => none
 | k :: ks, r => if k = r then some 0 else (Jcx ks r).map (· + 1)
def Jca : Nat -> List Port -> List (AV × AV)
 | _, [] => []
 | n, k :: ks => (k.av, .p (.int .i64 n)) :: Jca (n + 1) ks
theorem Jpo : ∀ {ks : List Port} {r : Port}, Jcx ks r = none ↔ r ∉ ks
 | [], r => by simp [Jcx]
 | k :: ks, r => by
   have ih := Jpo (ks := ks) (r := r)
   by_cases h : k = r
   . simp [Jcx, h]
   . simp [Jcx, h, ih, Ne.symm h]
theorem Jpp : ∀ {ks : List Port} {r : Port} {j : Nat}, Jcx ks r = some j -> ks[j]? = some r
 | [], r, j, h => by simp [Jcx] at h
 | k :: ks, r, j, h => by
   simp only [Jcx] at h
   by_cases e : k = r
   . rw [if_pos e] at h; cases h; simp [e]
   . rw [if_neg e] at h
     obtain ⟨i, hi, rfl⟩ := Option.map_eq_some_iff.1 h
     simpa using Jpp hi
theorem J7x {ks : List Port} {r : Port} (h : r ∉ ks) : Jcx (ks ++ [r]) r = some ks.length := by
 induction ks with
 | nil => simp [Jcx]
 | cons k ks ih =>
   simp at h
   simp [Jcx, Ne.symm h.1, ih h.2]
theorem Jrv : ∀ {ks : List Port} {n : Nat} {r : Port}, Jal (Jca n ks) r.av = (Jcx ks r).map fun j => AV.p (.int .i64 ((n + j : Nat) : Int))
 | [], n, r => by simp [Jca, Jal, Jcx]
 | k :: ks, n, r => by
   have ih := Jrv (ks := ks) (n := n + 1) (r := r)
   simp only [Jca, Jcx]
   by_cases h : k = r
   . subst h
     simp [Jal]
   . have hne : k.av ≠ r.av := fun h2 => h (Jhd h2)
     rw [if_neg h]
     unfold Jal at ih ⊢
     rw [List.find?_cons_of_neg (by simpa using hne), ih]
     cases Jcx ks r with
     | none => rfl
     | some j => simp; omega
theorem Jw8 : ∀ {ks : List Port} {n : Nat} {r : Port}, r ∉ ks -> setA (Jca n ks) r.av (.p (.int .i64 ((n + ks.length : Nat) : Int))) = Jca n (ks ++ [r])
 | [], n, r, _ => by simp [Jca, setA]
 | k :: ks, n, r, h => by
   simp at h
   have ih := Jw8 (ks := ks) (n := n + 1) (r := r) h.2
   have hne : k.av ≠ r.av := fun h2 => h.1 (Jhd h2).symm
   have e : n + (k :: ks).length = n + 1 + ks.length := by simp; omega
   rw [e]
   simp only [List.cons_append, Jca, setA, if_neg hne]
   rw [<- ih]
theorem Jry {ρ : List Nat} : ∀ {ks : List Port} {n : Nat}, renE ρ (Jca n ks) = some (Jca n ks)
 | [], n => rfl
 | k :: ks, n => by simp only [Jca, renE, Jry]; rfl
theorem Jrx : ∀ {ks : List Port} {n : Nat}, ∀ e ∈ Jca n ks, IsIS e.1
 | [], n, e, h => by simp [Jca] at h
 | k :: ks, n, e, h => by
   simp only [Jca, List.mem_cons] at h
   rcases h with rfl | h
   . exact Jly k
   . exact Jrx e h
def Jbp : Nat -> List (List Port) -> List (List AV)
 | _, [] => []
 | n, g :: gs => [.acc n 2 g.length] :: Jbp (n + 1) gs
def Jdy : Nat -> List (List Port) -> Store
 | _, [] => []
 | n, g :: gs => (n, accB 2 (g.map Port.row)) :: Jdy (n + 1) gs
theorem Jc1 : ∀ {gs : List (List Port)} {n : Nat}, (Jbp n gs).length = gs.length
 | [], n => rfl
 | g :: gs, n => by simp [Jbp, Jc1]
theorem Jvu : ∀ {gs : List (List Port)} {n : Nat}, ∀ r ∈ Jbp n gs, r.length = 1
 | [], n, r, h => by simp [Jbp] at h
 | g :: gs, n, r, h => by
   simp only [Jbp, List.mem_cons] at h
   rcases h with rfl | h
   . rfl
   . exact Jvu r h
theorem Jik : ∀ {gs : List (List Port)} {n k : Nat} {g : List Port}, gs[k]? = some g -> (Jbp n gs)[k]? = some [.acc (n + k) 2 g.length]
 | [], n, k, g, h => by simp at h
 | x :: gs, n, 0, g, h => by simp at h; subst h; simp [Jbp]
 | x :: gs, n, k + 1, g, h => by
   have := Jik (gs := gs) (n := n + 1) (k := k) (g := g) (by simpa using h)
   simp [Jbp, this]; omega
theorem Jj4 : ∀ {gs : List (List Port)} {n k : Nat} {g : List Port} {s : Store}, gs[k]? = some g -> get (Jdy n gs ++ s) (n + k) = accB 2 (g.map Port.row)
 | [], n, k, g, s, h => by simp at h
 | x :: gs, n, 0, g, s, h => by simp at h; subst h; simp [Jdy, get]
 | x :: gs, n, k + 1, g, s, h => by
   have := Jj4 (gs := gs) (n := n + 1) (k := k) (g := g) (s := s) (by simpa using h)
   simp only [Jdy, List.cons_append, get]
   rw [if_neg (by omega), <- this]
   congr 1
   omega
theorem Jma : ∀ {gs : List (List Port)} {n b : Nat} {s : Store}, b < n -> get (Jdy n gs ++ s) b = get s b
 | [], n, b, s, h => rfl
 | x :: gs, n, b, s, h => by
   simp only [Jdy, List.cons_append, get]
   rw [if_neg (by omega)]
   exact Jma (by omega)
def Jk2 (f : Port -> Port) (ks : List Port) (gs : List (List Port)) (p : Port) : List (List Port) := match Jcx ks (f p) with
 | none => gs ++ [[p]]
 | some k => gs.set k ((gs[k]?).getD [] ++ [p])
theorem J3w {f : Port -> Port} {l : List Port} : (groups f l).length = (Jbd f l).length := by simp [groups]
theorem J3x {f : Port -> Port} {l : List Port} {p : Port} : groups f (l ++ [p]) = Jk2 f (Jbd f l) (groups f l) p := by
 unfold Jk2
 have hnd := @Jp2 f l
 cases h : Jcx (Jbd f l) (f p) with
 | none =>
   have h1 := Jpo.1 h
   simp only
   rw [groups, Jis, if_neg h1, List.map_append, groups]
   congr 1
   . apply List.map_congr_left
     intro r hr
     have : f p ≠ r := by rintro rfl; exact h1 hr
     rw [List.filter_append]
     simp [this]
   . rw [List.map_cons, List.map_nil, List.filter_append]
     have : l.filter (fun q => decide (f q = f p)) = [] := by
       rw [List.filter_eq_nil_iff]
       intro q hq
       simp
       intro e
       exact h1 (Jkf.2 ⟨q, hq, e⟩)
     rw [this]
     simp
 | some k =>
   have h1 := Jpp h
   simp only
   rw [groups, Jis, if_pos (List.mem_of_getElem? h1), groups]
   apply List.ext_getElem?
   intro i
   rw [List.getElem?_map, List.getElem?_set]
   by_cases hik : k = i
   . subst hik
     have hk : k < (Jbd f l).length := (gsI.1 h1).1
     rw [if_pos rfl, h1]
     have hk2 := (gsI.1 h1).2
     simp [hk, h1, List.filter_append, hk2]
   . rw [if_neg hik, List.getElem?_map]
     cases hi : (Jbd f l)[i]? with
     | none => rfl
     | some r =>
       simp only [Option.map_some]
       congr 1
       rw [List.filter_append]
       have : f p ≠ r := by
         rintro rfl
         obtain ⟨a1, e1⟩ := gsI.1 h1
         obtain ⟨a2, e2⟩ := gsI.1 hi
         exact hik ((List.getElem_inj hnd).1 (e1.trans e2.symm))
       simp [this]
theorem Jr2 {ρ : List Nat} {s' : Store} : ∀ {gs : List (List Port)} {n : Nat}, (∀ (j : Nat) g, gs[j]? = some g -> Jfj ρ s' (n + j) (accB 2 (g.map Port.row))) -> Jfk ρ s' (Jdy n gs)
 | [], n, _ => trivial
 | g :: gs, n, h => ⟨h 0 g rfl, Jr2 fun j g hj => by
     have := h (j + 1) g (by simpa using hj)
     rwa [<- Nat.add_assoc, Nat.add_right_comm] at this⟩
theorem Jn0 {ρ : List Nat} {s' : Store} {b b' : Nat} {x y z : ABlk} (h1 : ρ[b]? = some b') (h2 : renB ρ x = some z) (h3 : get s' b' = some y) (h4 : wknB y z) : Jfj ρ s' b (some x) := by
 rw [Jzp, h1, Jgw, h2, Jgw, h3, Jgw]
 exact h4
theorem Jvt {gs : List (List Port)} {n k : Nat} {row : List AV} (h : (Jbp n gs)[k]? = some row) : ∃ g, gs[k]? = some g /\ row = [.acc (n + k) 2 g.length] := by
 have hk : k < gs.length := by
   have := (gsI.1 h).1
   rwa [Jc1] at this
 obtain ⟨g, hg⟩ := Jag hk
 rw [Jik hg] at h
 cases h
 exact ⟨g, hg, rfl⟩
theorem Ju8 {t' t : Jao} {s' rest : Store} {nx' O N k : Nat} {gs : List (List Port)} {ks : List Port} (hO : O = 4 \/ 1000 < O) (hN : 1000 < N) (hON : O ≠ N) (hm : gs.length <= 900) (hsl : Jkk (Jdm O N k gs.length) t' t)
   (h3 : get s' 3 = some (.map (Jca 0 ks))) (h4 : Jfj (Jdm O N k gs.length) s' 4 (accB 1 (Jbp 5 gs))) (hn : ∀ (j : Nat) g, gs[j]? = some g -> Jfj (Jdm O N k gs.length) s' (5 + j) (accB 2 (g.map Port.row)))
   (hr : Jfk (Jdm O N k gs.length) s' rest) :
   SubX (Jdm O N k gs.length) 0 ⟨t', s', nx'⟩ ⟨t, (3, some (.map (Jca 0 ks))) :: (4, accB 1 (Jbp 5 gs)) :: (Jdy 5 gs ++ rest), 1004⟩ := by
 refine ⟨hsl, ⟨?_, h4, Jr0 (Jr2 hn) hr⟩, J45 hO hN hON hm, by show _ <= 1004; rw [J44]; omega, rfl⟩
 exact Jn0 (Jj5 (by omega)) (by simp [renB, Jry]) h3 (.inl rfl)
@[simp] theorem Kbp {ks : List Port} {r : Port} : Jal (Jca 0 ks) (.agg [.p (.int .i64 r.part), .p (.str r.name)]) = (Jcx ks r).map fun (j : Nat) => AV.p (.int .i64 (j : Int)) := by
 have h := @Jrv ks 0 r
 simp only [Nat.zero_add] at h
 exact h
@[simp] theorem Kbf {ks : List Port} {r : Port} : Jck Tryz.prog 55 (Jca 0 ks) (.agg [.p (.int .i64 r.part), .p (.str r.name)]) = True := eq_true ⟨_, Jug, Jly r, Jrx⟩
@[simp] theorem zs3 : Jd4 Tryz.prog 3 = some false := by kernel_rfl
@[simp] theorem Kbb {z v : AV} : hit true z (some v) = .tup [v, .p (.bool true)] := (rfl)
@[simp] theorem Kba {z : AV} : hit true z none = .tup [z, .p (.bool false)] := (rfl)
@[simp] theorem Ka9 {z v : AV} : hit false z (some v) = v := (rfl)
@[simp] theorem Ka7 {z : AV} : hit false z none = z := (rfl)
@[simp] theorem Ki5 {b s : Nat} {td : TD} {x : AV} : zeroV ⟨false, s, b, [x], td⟩ = x := (rfl)
theorem J8c {f : Port -> Port} {l : List Port} : (Jbd f l).length <= l.length := by
 have := Jj8 (l := Jbd f l) (m := l.map f) Jp2 fun x hx => by
   obtain ⟨p, hp, rfl⟩ := Jkf.1 hx
   exact List.mem_map_of_mem hp
 simpa using this
theorem Jz6 (c : Circuit) (hc : Jad c = 0) : Pure Tryz.prog GL 102 [c.av] (.p (.lst 1 ((nets c).map Ports.enc))) := by
 have hp := Jdv hc
 refine Pure.of_walkZ (N := 88) Tryz.func102 rfl rfl rfl (by simp) rfl ?_
 simp
 refine Jai.go [1, 3, 4, 19, 20] [0, 2] 0 [] (fun _ => []) (fun _ (j : Nat) => [(21, .p (.int .i64 j))]) (fun _ j => [(1, some (.map (upsA (Jbr (c.pipes.take j)))))]) (fun j => j <= c.pipes.length) (fun j => c.pipes.length - j) 0 (by omega) ?_ ?_
 . simp [Jbr, upsA]
   decide
 . intro j hj
   have hsn := fun (x : Pipe) (e : c.pipes[j]? = some x) => J94 e
   obtain ⟨ok, _⟩ := Jqv (c.pipes.take j)
   have hend : j = c.pipes.length -> Jbr (c.pipes.take j) = Jbr c.pipes := fun h => by rw [h, List.take_length]
   generalize Jbr (c.pipes.take j) = es at hsn ok hend
   simp
   refine Jac (fun h => ?_) (fun h => ?_)
   . simp at h
     obtain ⟨x, e⟩ := Jag h
     have hsn := hsn x e
     simp [h, e, -getElem?_pos, List.getElem?_cons_zero, List.getElem?_cons_succ]
     refine Jak.intro (by kernel_rfl) ?_
     simp
     refine Jbz (Jou es ok x.fr 2 1 _ _ (by omega) (by omega) (by decide) (by simp [get]) (by simp [get])) ?_
     simp
     refine Jbz (Jou es ok x.to 2 1 _ _ (by omega) (by omega) (by decide) (by simp [get]) (by simp [get])) ?_
     have hra := Jmv ok x.fr
     have hrb := Jmv ok x.to
     have hju : Jgj es x = if rootOf es x.fr = rootOf es x.to then es else if Jav (rootOf es x.to) (rootOf es x.fr) then es ++ [(rootOf es x.fr, rootOf es x.to)] else es ++ [(rootOf es x.to, rootOf es x.fr)] := rfl
     generalize rootOf es x.fr = a at *
     generalize rootOf es x.to = b at *
     simp
     refine ⟨.of (by kernel_rfl), ?_⟩
     refine Jab (Jla a b) ?_
     simp
     refine Jac (fun h2 => ?_) (fun h2 => ?_)
     . simp at h2
       simp
       have h3 := Js2.1 h2
       have h4 : a ≠ b := by rintro rfl; rw [Jin] at h3; cases h3
       rw [if_neg h4, if_pos h3] at hju
       simp [Ne.symm h4]
       rw [Jxc hra]
       refine ⟨wrap_i64 (by omega) (by omega), j + 1, by omega, by omega, by simp, ?_⟩
       rw [hsn, hju]
       simp [Jfe]
       decide
     . simp at h2
       simp
       have h3 : Jav b a = false := by
         cases h5 : Jav b a with
         | false => rfl
         | true => have := Js2.2 h5; omega
       by_cases h4 : a = b
       . rw [if_pos h4] at hju
         simp [h4]
         refine ⟨wrap_i64 (by omega) (by omega), j + 1, by omega, by omega, by simp, ?_⟩
         rw [hsn, hju]
         simp [Jfe]
         decide
       . rw [if_neg h4, h3] at hju
         simp at hju
         simp [h4]
         rw [Jxc hrb]
         refine ⟨wrap_i64 (by omega) (by omega), j + 1, by omega, by omega, by simp, ?_⟩
         rw [hsn, hju]
         simp [Jfe]
         decide
   . simp at h
     have hj2 : j = c.pipes.length := by omega
     have hes := hend hj2
     subst hes
     simp
     refine Jab (Jr6 c hp.1 (by omega)) ?_
     obtain ⟨f, hf⟩ : ∃ f, f = rootOf (Jbr c.pipes) := ⟨_, rfl⟩
     obtain ⟨l, hl⟩ : ∃ l, l = allP c := ⟨_, rfl⟩
     have hll : l.length <= 768 := by rw [hl]; exact Jy6 hp.1 hp.2.1
     rw [<- hl]
     simp
     refine Jai.goe [4, 10, 48, 49] [0, 1, 2] 1000 (fun _ (i : Nat) => [(9, .acc 4 1 (groups f (l.take i)).length), (50, .p (.int .i64 i))]) (fun _ i => (3, some (.map (Jca 0 (Jbd f (l.take i))))) :: (4, accB 1 (Jbp 5 (groups f (l.take i)))) :: Jdy 5 (groups f (l.take i))) (fun i => i <= l.length) (fun i => l.length - i) 0 (by omega) ⟨[0, 1, 2, 3, 4], ?_⟩ ?_
     . simp [groups, Jbd, Jbp, Jdy, Jca, Jfe]
     . intro i hi
       have hsn := fun (p : Port) (e : l[i]? = some p) => @J3x f (l.take i) p
       have hrn := fun (p : Port) (e : l[i]? = some p) => @Jis f (l.take i) p
       have htk := fun (p : Port) (e : l[i]? = some p) => take_snoc e
       have hgl := @J3w f (l.take i)
       have hrl : (Jbd f (l.take i)).length <= i := by
         have := @J8c f (l.take i)
         simp at this
         omega
       have hgm : ∀ g ∈ groups f (l.take i), g.length <= l.length := by
         intro g hg
         obtain ⟨r, _, rfl⟩ := List.mem_map.1 hg
         have := List.length_filter_le (fun p => decide (f p = r)) (l.take i)
         simp only [List.length_take] at this
         omega
       have hend : i = l.length -> groups f (l.take i) = groups f l := fun h => by rw [h, List.take_length]
       generalize groups f (l.take i) = gs at hsn hgl hend hgm
       generalize Jbd f (l.take i) = ks at hsn hrn hgl hrl
       have lo0 : ∀ s, get (Jdy 5 gs ++ s) 0 = get s 0 := fun s => Jma (by omega)
       have lo1 : ∀ s, get (Jdy 5 gs ++ s) 1 = get s 1 := fun s => Jma (by omega)
       have lo2 : ∀ s, get (Jdy 5 gs ++ s) 2 = get s 2 := fun s => Jma (by omega)
       simp
       refine Jac (fun h2 => ?_) (fun h2 => ?_)
       . simp at h2
         obtain ⟨x, e⟩ := Jag h2
         have hsn := hsn x e
         have hrn := hrn x e
         have htk := htk x e
         simp [h2, e, -getElem?_pos, List.getElem?_cons_zero, List.getElem?_cons_succ]
         refine Jbz (Jou (Jbr c.pipes) ok x 2 1 _ _ (by omega) (by omega) (by decide) (by simp [get, lo2]) (by simp [get, lo1])) ?_
         rw [<- hf]
         simp
         cases hpos : Jcx ks (f x) with
         | some k =>
           have hks := Jpp hpos
           have hk1 : k < ks.length := (gsI.1 hks).1
           obtain ⟨g, hg⟩ := Jag (xs := gs) (k := k) (by omega)
           have hog := Jik (n := 5) hg
           have hng : ∀ s, get (Jdy 5 gs ++ s) (5 + k) = accB 2 (g.map Port.row) := fun s => Jj4 hg
           have hol := @Jc1 gs 5
           have n1 : k < gs.length := by omega
           have n2 : gs ≠ [] := by rintro rfl; simp at n1
           have n3 : ¬ 1004 = 5 + k := by omega
           have n4 : ¬ 1005 = 5 + k := by omega
           have n5 : ¬ 1006 = 5 + k := by omega
           have n6 : ¬ 1007 = 5 + k := by omega
           have n7 : ¬ 3 = 5 + k := by omega
           have n8 : ¬ 4 = 5 + k := by omega
           simp [hpos]
           refine Jak.intro (by kernel_rfl) ?_
           have n9 : ¬ Jbp 5 gs = [] := fun h => by
             rw [h] at hol
             simp at hol
             omega
           have n13 : ¬ 5 + k = 4 := by omega
           have n14 : ¬ 5 + k = 3 := by omega
           have n15 : ¬ 5 + k = 2 := by omega
           have n16 : ¬ 5 + k = 1 := by omega
           have n17 : ¬ 5 + k = 0 := by omega
           have n10 : 5 + k < 1007 := by omega
           have n11 : ¬ 5 + k = 1006 := by omega
           have hgle : g.length <= l.length := hgm g (List.mem_of_getElem? hg)
           have n12 : (g.length + 1) * 24 <= 35184372088832 := by omega
           simp [hpos, hog, hng, hol, n1, n3, n4, n5, n6, n7, n8, n9, n10, n11, n12, n13, -getElem?_pos, List.getElem?_cons_zero, List.getElem?_cons_succ, -SubX]
           refine ⟨Bears.swap 999999 (5 + k) (fps' := [([], []), ([], []), ([1005], []), ([3], []), ([], []), ([], []), ([1005], []), ([3], []), ([], []), ([4], []), ([1004], []), ([], [1006]), ([999999, 1006], [1007, 999999]), ([], []), ([4], [4])]) (by simp [renF, swp, n3, n4, n5, n6, n7, n8]) (by kernel_rfl), wrap_i64 (by omega) (by omega), i + 1, by omega, by omega, Jdm 4 1007 k gs.length, ?_⟩
           have hga : groups f (l.take (i + 1)) = gs.set k (g ++ [x]) := by rw [htk, hsn, Jk2, hpos]; simp [hg]
           have hra : Jbd f (l.take (i + 1)) = ks := by rw [htk, hrn, if_pos (List.mem_of_getElem? hks)]
           have hgsl : (gs.set k (g ++ [x])).length = gs.length := by simp
           rw [hga, hra, <- hgsl]
           refine Ju8 (.inl rfl) (by omega) (by decide) (by rw [hgsl]; omega) ?_ ?_ ?_ ?_ ?_
           . simp [Jj5, Jmb]
           . simp [n14]
           . have hrow : Jbp 5 (gs.set k (g ++ [x])) ≠ [] := fun h => by
               have h9 := @Jc1 (gs.set k (g ++ [x])) 5
               rw [h] at h9
               simp at h9
               omega
             rw [show accB 1 (Jbp 5 (gs.set k (g ++ [x]))) = some (.cells 1 (Jbp 5 (gs.set k (g ++ [x])))) from if_neg hrow]
             refine Jn0 Jmb (z := .cells 1 ((Jbp 5 gs).set k [AV.acc 1007 2 (g.length + 1)])) ?_ (by simp [get]) (.inl rfl)
             simp only [renB, Option.map_eq_some_iff]
             refine ⟨_, Jpz ?_ ?_, rfl⟩
             . simp [Jc1]
             . intro m row hrow
               obtain ⟨q, hq, rfl⟩ := Jvt hrow
               have hm : m < gs.length := by have := (gsI.1 hq).1; rwa [hgsl] at this
               by_cases hmk : k = m
               . subst hmk
                 rw [List.getElem?_set_self (by omega)] at hq
                 cases hq
                 refine ⟨[AV.acc 1007 2 (g.length + 1)], by rw [List.getElem?_set_self (by rw [hol]; omega)], ?_⟩
                 simp [renL, renA, Jif hm]
               . rw [List.getElem?_set_ne hmk] at hq
                 refine ⟨[AV.acc (5 + m) 2 q.length], by rw [List.getElem?_set_ne hmk]; exact Jik hq, ?_⟩
                 simp [renL, renA, Jif hm, Ne.symm hmk]
           . intro m q hq
             have hm : m < gs.length := by have := (gsI.1 hq).1; rwa [hgsl] at this
             refine of_eq_true (Jnz ?_ (Jpy fun _ => rfl))
             rw [hgsl, Jif hm]
             by_cases hmk : k = m
             . subst hmk
               rw [List.getElem?_set_self (by omega)] at hq
               cases hq
               simp
             . rw [List.getElem?_set_ne hmk] at hq
               have m1 : ¬ 1004 = 5 + m := by omega
               have m2 : ¬ 1005 = 5 + m := by omega
               have m3 : ¬ 1006 = 5 + m := by omega
               have m4 : ¬ 1007 = 5 + m := by omega
               have m5 : ¬ 3 = 5 + m := by omega
               have m6 : ¬ 4 = 5 + m := by omega
               have m7 : ¬ 5 + k = 5 + m := by omega
               simp [Ne.symm hmk, m1, m2, m3, m4, m5, m6, hmk, Jj4 hq]
           . simp [Jj5, lo0, lo1, lo2, Jfe, n15, n16, n17]
         | none =>
           have hkn := Jpo.1 hpos
           have hol := @Jc1 gs 5
           have hpos2 := J7x hkn
           have hset : setA (Jca 0 ks) (.agg [.p (.int .i64 (f x).part), .p (.str (f x).name)]) (.p (.int .i64 gs.length)) = Jca 0 (ks ++ [f x]) := by
             have := Jw8 (n := 0) hkn
             rw [Nat.zero_add, <- hgl] at this
             exact this
           have hone := @Jvu gs 5
           have hlast : (Jbp 5 gs ++ [[AV.nils]])[gs.length]? = some [AV.nils] := by
             rw [List.getElem?_append_right (by omega), hol]; simp
           simp [hpos, hset]
           refine ⟨by omega, hol, hone, Jak.intro (by kernel_rfl) ?_⟩
           rw [hgl] at hlast hol
           simp [hpos2, hol, hlast, hgl, -getElem?_pos, List.getElem?_cons_zero, List.getElem?_cons_succ, -SubX]
           have hga : groups f (l.take (i + 1)) = gs ++ [[x]] := by rw [htk, hsn, Jk2, hpos]
           have hra : Jbd f (l.take (i + 1)) = ks ++ [f x] := by rw [htk, hrn, if_neg hkn]
           have hgsl : (gs ++ [[x]]).length = gs.length + 1 := by simp
           refine ⟨by omega, .of (by kernel_rfl), wrap_i64 (by omega) (by omega), i + 1, by omega, by omega, Jdm 1007 1009 gs.length (gs ++ [[x]]).length, ?_⟩
           rw [hga, hra]
           refine Ju8 (.inr (by omega)) (by omega) (by decide) (by rw [hgsl]; omega) ?_ ?_ ?_ ?_ ?_
           . simp [Jj5, Jmb, hgl]
           . simp
           . rw [hgsl]
             have hrow : Jbp 5 (gs ++ [[x]]) ≠ [] := fun h => by
               have h9 := @Jc1 (gs ++ [[x]]) 5
               rw [h] at h9
               simp at h9
             rw [show accB 1 (Jbp 5 (gs ++ [[x]])) = some (.cells 1 (Jbp 5 (gs ++ [[x]]))) from if_neg hrow]
             refine Jn0 Jmb (z := .cells 1 (Jbp 5 gs ++ [[AV.acc 1009 2 1]])) (y := .cells 1 (Jbp 5 gs ++ [[AV.ref 1009 2 0 1 none]])) ?_ (by simp [get]) (.inr ⟨1, _, _, rfl, rfl, ?_⟩)
             . simp only [renB, Option.map_eq_some_iff]
               refine ⟨_, Jpz ?_ ?_, rfl⟩
               . simp [Jc1]
               . intro m row hrow
                 obtain ⟨q, hq, rfl⟩ := Jvt hrow
                 have hm : m < (gs ++ [[x]]).length := (gsI.1 hq).1
                 rw [hgsl] at hm
                 by_cases hmk : m < gs.length
                 . rw [List.getElem?_append_left hmk] at hq
                   refine ⟨[AV.acc (5 + m) 2 q.length], by rw [List.getElem?_append_left (by rw [Jc1]; exact hmk)]; exact Jik hq, ?_⟩
                   have m9 : m ≠ gs.length := by omega
                   simp [renL, renA, Jif hm, m9]
                 . have m9 : m = gs.length := by omega
                   subst m9
                   rw [List.getElem?_append_right (by omega)] at hq
                   simp at hq
                   subst hq
                   refine ⟨[AV.acc 1009 2 1], by rw [List.getElem?_append_right (by rw [Jc1]; omega)]; simp [Jc1], ?_⟩
                   simp [renL, renA, Jif hm]
             . refine Jyd (by simp) fun m row hrow => ?_
               by_cases hmk : m < gs.length
               . rw [List.getElem?_append_left (by rw [Jc1]; exact hmk)] at hrow ⊢
                 exact ⟨row, hrow, Ji8 _⟩
               . have hm : m < (Jbp 5 gs ++ [[AV.ref 1009 2 0 1 none]]).length := (gsI.1 hrow).1
                 simp [Jc1] at hm
                 have m9 : m = gs.length := by omega
                 subst m9
                 rw [List.getElem?_append_right (by rw [Jc1]; omega)] at hrow
                 simp [Jc1] at hrow
                 subst hrow
                 refine ⟨[AV.acc 1009 2 1], by rw [List.getElem?_append_right (by rw [Jc1]; omega)]; simp [Jc1], ?_⟩
                 simp [wknL]
           . intro m q hq
             have hm : m < (gs ++ [[x]]).length := (gsI.1 hq).1
             refine of_eq_true (Jnz ?_ (Jpy fun _ => rfl))
             rw [Jif hm]
             by_cases hmk : m < gs.length
             . rw [List.getElem?_append_left hmk] at hq
               have m0 : m ≠ gs.length := by omega
               have m1 : ¬ 1004 = 5 + m := by omega
               have m2 : ¬ 1005 = 5 + m := by omega
               have m3 : ¬ 1006 = 5 + m := by omega
               have m4 : ¬ 1007 = 5 + m := by omega
               have m5 : ¬ 3 = 5 + m := by omega
               have m6 : ¬ 4 = 5 + m := by omega
               have m7 : ¬ 1008 = 5 + m := by omega
               have m8 : ¬ 1009 = 5 + m := by omega
               simp [m0, m1, m2, m3, m4, m5, m6, m7, m8, Jj4 hq]
             . have m9 : m = gs.length := by simp at hm; omega
               subst m9
               rw [List.getElem?_append_right (by omega)] at hq
               simp at hq
               subst hq
               simp
           . simp [Jj5, lo0, lo1, lo2, Jfe]
       . simp at h2
         have hil : i = l.length := by omega
         have hge : gs = nets c := by rw [hend hil, hf, hl]; exact Jvb (Jns hp.1)
         simp
         refine ⟨.inl rfl, [.acc 4 1 gs.length], by simp, ?_⟩
         rw [<- hge]
         refine .one _ _ (.acc 4 1 gs.length (Jbp 5 gs) (gs.map Ports.enc) (fun p _ => .acc (5 + p) 2 ((gs[p]?).getD []).length) trivial (by simp [get]) Jc1 (by simp) ?_ ?_)
         . intro p j row x h1 h3
           simp only [List.getElem?_map, Option.map_eq_some_iff] at h1
           obtain ⟨g, hg, rfl⟩ := h1
           refine ⟨_, Jik hg, ?_⟩
           match j with
           | 0 => simp [hg]
           | j + 1 => simp [Ports.enc] at h3
         . intro p j row x h1 h3
           simp only [List.getElem?_map, Option.map_eq_some_iff] at h1
           obtain ⟨g, hg, rfl⟩ := h1
           match j with
           | 0 =>
             simp [Ports.enc] at h3
             subst h3
             simp only [hg, Option.getD_some]
             have hng := Jj4 (n := 5) (s := [(0, some (ABlk.cells 2 [[AV.p (PV.lst 3 (List.map Part.enc c.parts)), AV.p (PV.lst 4 (List.map Pipe.enc c.pipes))]])), (1, some (ABlk.map (upsA (Jbr c.pipes)))), (2, some (ABlk.cells 1 [[AV.map 1]]))]) hg
             have k1 : ¬ 3 = 5 + p := by omega
             have k2 : ¬ 4 = 5 + p := by omega
             refine Frz.accRows (arows := g.map Port.row) trivial ?_ (by rw [List.map_map]; rfl) (by simp)
             simp [k1, k2, hng]
           | j + 1 => simp [Ports.enc] at h3
end Go.Am
namespace Go.Am
open Go Go.Proofs Go.Pn
theorem Jz1 (c : Circuit) (hs : Sized c) : Pure Tryz.prog GL 35 [c.av] (.tup [.p (.lst 1 ((if Jad c ≠ 0 then [] else nets c).map Ports.enc)), .p (.int .i64 (Jad c))]) := by
 refine Pure.of_walk (N := 12) Tryz.func35 rfl rfl rfl (by simp) (by first | (simp; done) | simp [*]) ?_
 simp
 refine Jab (Jg2 c hs) ?_
 by_cases hc : Jad c = 0
 . simp [hc]
   refine Jab (Jz6 c hc) ?_
   simp [Jaa, hc]
 . simp [hc, Jaa]
theorem Jf6 (i : Int) (s : Txt) : Pure Tryz.prog GL 142 [.p (.int .i64 i), .p (.str s)] ((⟨i, s⟩ : Port).av) := by
 refine Pure.of_walk (N := 8) Tryz.func142 rfl rfl rfl (by simp) (by first | (simp; done) | simp [*]) ?_
 simp
 simp [Jaa]
def Jeg : Circuit := ⟨[⟨1, [65], 0⟩, ⟨6, [65, 48], 0⟩, ⟨0, [83], 0⟩, ⟨3, [86], 0⟩], [⟨⟨0, [50]⟩, ⟨3, [50]⟩⟩, ⟨⟨0, [52]⟩, ⟨3, [52]⟩⟩, ⟨⟨1, [49]⟩, ⟨2, [49]⟩⟩, ⟨⟨2, [49]⟩, ⟨3, [49]⟩⟩]⟩
theorem J05 : Pure Tryz.prog GL 63 [] Jeg.av := by
 refine Pure.of_walk (N := 29) Tryz.func63 rfl rfl rfl (by simp) rfl ?_
 simp
 refine Jab (Jf6 0 [50]) ?_
 simp
 refine Jab (Jf6 3 [50]) ?_
 simp
 refine Jab (Jf6 0 [52]) ?_
 simp
 refine Jab (Jf6 3 [52]) ?_
 simp
 refine Jab (Jf6 1 [49]) ?_
 simp
 refine Jab (Jf6 2 [49]) ?_
 simp
 refine Jab (Jf6 2 [49]) ?_
 simp
 refine Jab (Jf6 3 [49]) ?_
 simp
 simp [Jaa, Jeg]
end Go.Am
namespace Go.Am
open Go Go.Proofs Go.Pn
end Go.Am
namespace Go.Am
open Go Go.Proofs Go.Pn
end Go.Am
namespace Go.Am
open Go Go.Proofs Go.Pn
end Go.Am
