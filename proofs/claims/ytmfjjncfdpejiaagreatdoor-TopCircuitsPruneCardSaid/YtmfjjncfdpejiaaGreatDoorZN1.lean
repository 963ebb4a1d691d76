/- Lemmas and contracts for the proof of a statement of this seat. -/
import Derived.Test.YtmfjjncfdpejiaaGreatDoorZCP
import Derived.Test.YtmfjjncfdpejiaaGreatDoorZE3
import Derived.Lib.FieldsP
import Derived.Lib.TrimUEq
import Derived.Test.YtmfjjncfdpejiaaGreatDoorZF1
import Derived.Test.YtmfjjncfdpejiaaGreatDoorZCA
import Derived.Test.YtmfjjncfdpejiaaGreatDoorZC6
import Derived.Test.YtmfjjncfdpejiaaGreatDoorZCQ
set_option linter.unusedVariables false
set_option linter.unusedSimpArgs false
namespace Go.Am
open Go Go.Proofs Go.Pn
structure STO {α : Type} (lt : α -> α -> Bool) : Prop where
 irrefl : ∀ a, lt a a = false
 trans : ∀ {a b c}, lt a b = true -> lt b c = true -> lt a c = true
 total : ∀ {a b}, lt a b = false -> lt b a = false -> a = b
theorem STO.asymm {α : Type} {lt : α -> α -> Bool} (h : STO lt) {a b : α} (k : lt a b = true) : lt b a = false := by
 cases e : lt b a with
 | false => rfl
 | true => have := h.trans k e; rw [h.irrefl] at this; cases this
def insB {α : Type} (lt : α -> α -> Bool) (x : α) : List α -> List α
 | [] => [x]
 | y :: ys => if lt y x then y :: insB lt x ys else x :: y :: ys
def Jax {α : Type} (lt : α -> α -> Bool) (l : List α) : List α := l.foldr (insB lt) []
def AscB {α : Type} (lt : α -> α -> Bool) (l : List α) : Prop := l.Pairwise fun a b => lt b a = false
section
variable {α : Type} {lt : α -> α -> Bool}
theorem Jqr {x : α} : ∀ {l : List α}, (insB lt x l).Perm (x :: l)
 | [] => List.Perm.refl _
 | y :: ys => by
   unfold insB
   split
   . exact (List.Perm.cons y Jqr).trans (List.Perm.swap x y ys)
   . exact List.Perm.refl _
theorem Jgu : ∀ {l : List α}, (Jax lt l).Perm l
 | [] => List.Perm.refl _
 | x :: l => by
   show (insB lt x (Jax lt l)).Perm (x :: l)
   exact Jqr.trans (List.Perm.cons x Jgu)
theorem Jgt {l : List α} : (Jax lt l).length = l.length := Jgu.length_eq
theorem Jwj {l : List α} {x : α} : x ∈ Jax lt l ↔ x ∈ l := Jgu.mem_iff
theorem Jwd (h : STO lt) {x : α} : ∀ {l : List α}, AscB lt l -> AscB lt (insB lt x l)
 | [], _ => List.pairwise_singleton _ _
 | y :: ys, hl => by
   have hy := List.pairwise_cons.1 hl
   unfold insB
   cases e : lt y x with
   | true =>
     simp only [if_true]
     refine List.pairwise_cons.2 ⟨fun z hz => ?_, Jwd h hy.2⟩
     rcases List.mem_cons.1 (Jqr.mem_iff.1 hz) with rfl | hz
     . exact h.asymm e
     . exact hy.1 z hz
   | false =>
     simp only [Bool.false_eq_true, if_false]
     refine List.pairwise_cons.2 ⟨fun z hz => ?_, hl⟩
     rcases List.mem_cons.1 hz with rfl | hz
     . exact e
     . have h1 := hy.1 z hz
       cases e2 : lt z x with
       | false => rfl
       | true =>
         cases e3 : lt x y with
         | true => rw [h.trans e2 e3] at h1; cases h1
         | false =>
           have := h.total e e3
           subst this
           rw [e2] at h1; cases h1
theorem Jm5 (h : STO lt) : ∀ {l : List α}, AscB lt (Jax lt l)
 | [] => List.Pairwise.nil
 | _ :: _ => Jwd h (Jm5 h)
theorem Jtl (h : STO lt) : ∀ {l m : List α}, AscB lt l -> AscB lt m -> l.Perm m -> l = m
 | [], m, _, _, p => (List.Perm.nil_eq p)
 | x :: l, [], _, _, p => absurd (p.length_eq) (by simp)
 | x :: l, y :: m, hl, hm, p => by
   have hx := List.pairwise_cons.1 hl
   have hy := List.pairwise_cons.1 hm
   have e : x = y := by
     have h1 : x ∈ y :: m := p.mem_iff.1 (by simp)
     have h2 : y ∈ x :: l := p.mem_iff.2 (by simp)
     rcases List.mem_cons.1 h1 with h1 | h1
     . exact h1
     . rcases List.mem_cons.1 h2 with h2 | h2
       . exact h2.symm
       . exact h.total (hy.1 x h1) (hx.1 y h2)
   subst e
   rw [Jtl h hx.2 hy.2 ((List.perm_cons x).1 p)]
theorem Jqs (h : STO lt) {l m : List α} (hm : AscB lt m) (p : m.Perm l) : m = Jax lt l := Jtl h hm (Jm5 h) (p.trans Jgu.symm)
theorem Jwh (h : STO lt) {l m : List α} (p : l.Perm m) : Jax lt l = Jax lt m := Jqs h (Jm5 h) (Jgu.trans p)
theorem Jwk (h : STO lt) {l : List α} : (l.mergeSort fun x y => !lt y x) = Jax lt l := by
 refine Jqs h ?_ (List.mergeSort_perm _ _)
 have := List.pairwise_mergeSort (le := fun x y => !lt y x) (fun a b c h1 h2 => ?_) (fun a b => ?_) l
 . exact this.imp fun h1 => by simpa using h1
 . simp only [Bool.not_eq_true'] at h1 h2 ⊢
   cases e : lt c a with
   | false => rfl
   | true =>
     cases e2 : lt a b with
     | true => rw [h.trans e e2] at h2; cases h2
     | false =>
       have := h.total e2 h1
       subst this
       rw [e] at h2; cases h2
 . simp only [Bool.or_eq_true, Bool.not_eq_true']
   cases e : lt a b with
   | true => exact .inl (h.asymm e)
   | false => exact .inr rfl
theorem Jwe {β : Type} {lt' : β -> β -> Bool} {f : α -> β} {x : α} : ∀ {l : List α}, (∀ y ∈ l, lt' (f y) (f x) = lt y x) -> (insB lt x l).map f = insB lt' (f x) (l.map f)
 | [], _ => rfl
 | y :: ys, h => by
   simp only [insB, List.map_cons, h y (by simp)]
   have ih := Jwe (l := ys) (fun z hz => h z (List.mem_cons_of_mem _ hz))
   split
   . simp only [List.map_cons, ih]
   . rfl
theorem Jwi {β : Type} {lt' : β -> β -> Bool} {f : α -> β} : ∀ {l : List α}, (∀ x ∈ l, ∀ y ∈ l, lt' (f y) (f x) = lt y x) -> (Jax lt l).map f = Jax lt' (l.map f)
 | [], _ => rfl
 | x :: l, h => by
   show (insB lt x (Jax lt l)).map f = insB lt' (f x) (Jax lt' (l.map f))
   rw [Jwe (fun y hy => h x (by simp) y (by simp [Jwj.1 hy])), Jwi (fun a ha b hb => h a (by simp [ha]) b (by simp [hb]))]
def Jb7 (lt : α -> α -> Bool) (l : List α) : Nat -> Nat
 | 0 => 0
 | k + 1 => match l[k]?, l[Jb7 lt l k]? with
   | some x, some y => if lt x y then k else Jb7 lt l k
   | _, _ => Jb7 lt l k
theorem Jwx {l : List α} {k : Nat} {x y : α} (h1 : l[k]? = some x) (h2 : l[Jb7 lt l k]? = some y) : Jb7 lt l (k + 1) = if lt x y then k else Jb7 lt l k := by
 simp only [Jb7, h1, h2]
theorem Jww (h : STO lt) {l : List α} : Jb7 lt l 1 = 0 := by
 unfold Jb7
 split
 . split
   . rfl
   . rfl
 . rfl
theorem Jqy (h : STO lt) {l : List α} : ∀ {k : Nat}, 1 <= k -> k <= l.length -> Jb7 lt l k < k
 | 1, _, _ => by rw [Jww h]; omega
 | k + 2, _, hk => by
   have ih := Jqy h (l := l) (k := k + 1) (by omega) (by omega)
   obtain ⟨x, ex⟩ := Jah (xs := l) (k := k + 1) (by omega)
   obtain ⟨y, ey⟩ := Jah (xs := l) (k := Jb7 lt l (k + 1)) (by omega)
   rw [Jwx ex ey]
   split <;> omega
theorem Jwu (h : STO lt) {l : List α} : ∀ {k : Nat}, 1 <= k -> k <= l.length -> ∀ y, l[Jb7 lt l k]? = some y -> ∀ (j : Nat) x, j < k -> l[j]? = some x -> lt x y = false
 | 1, _, _, y, hy, j, x, hj, hx => by
   have e : j = 0 := by omega
   subst e
   rw [Jww h, hx] at hy
   cases hy
   exact h.irrefl _
 | k + 2, _, hk, y, hy, j, x, hj, hx => by
   have h1 := Jqy h (l := l) (k := k + 1) (by omega) (by omega)
   obtain ⟨a, ea⟩ := Jah (xs := l) (k := k + 1) (by omega)
   obtain ⟨b, eb⟩ := Jah (xs := l) (k := Jb7 lt l (k + 1)) (by omega)
   have ih := Jwu h (l := l) (k := k + 1) (by omega) (by omega) b eb
   rw [Jwx ea eb] at hy
   by_cases e : j = k + 1
   . subst e
     rw [ea] at hx; cases hx
     split at hy
     . rw [ea] at hy; cases hy; exact h.irrefl _
     . rename_i hn
       rw [eb] at hy; cases hy
       simpa using hn
   . have h2 := ih j x (by omega) hx
     split at hy
     . rename_i hlt
       rw [ea] at hy
       have hya : a = y := by simpa using hy
       subst hya
       cases e2 : lt x a with
       | false => rfl
       | true => rw [h.trans e2 hlt] at h2; cases h2
     . rw [eb] at hy; cases hy
       exact h2
def selN (lt : α -> α -> Bool) : Nat -> List α -> List α
 | 0, _ => []
 | n + 1, l => match l[Jb7 lt l l.length]? with
   | some x => x :: selN lt n (l.take (Jb7 lt l l.length) ++ l.drop (Jb7 lt l l.length + 1))
   | none => []
def selS (lt : α -> α -> Bool) (l : List α) : List α := selN lt l.length l
theorem Jof {l : List α} {i : Nat} {x : α} (e : l[i]? = some x) : (x :: (l.take i ++ l.drop (i + 1))).Perm l := by
 obtain ⟨hi, hx⟩ := gsI.1 e
 have : l = l.take i ++ x :: l.drop (i + 1) := by rw [<- hx, <- List.drop_eq_getElem_cons hi, List.take_append_drop]
 conv => rhs; rw [this]
 exact List.perm_middle.symm
theorem Jsb (h : STO lt) : ∀ {n : Nat} {l : List α}, l.length = n -> (selN lt n l).Perm l /\ AscB lt (selN lt n l)
 | 0, l, e => by
   have : l = [] := List.length_eq_zero_iff.1 e
   subst this
   exact ⟨List.Perm.refl _, List.Pairwise.nil⟩
 | n + 1, l, e => by
   have h1 := Jqy h (l := l) (k := l.length) (by omega) (Nat.le_refl _)
   obtain ⟨x, ex⟩ := Jah h1
   have hst := Jof ex
   have hl2 : (l.take (Jb7 lt l l.length) ++ l.drop (Jb7 lt l l.length + 1)).length = n := by
     have := hst.length_eq
     simp only [List.length_cons] at this
     omega
   obtain ⟨p, a⟩ := Jsb h hl2
   simp only [selN, ex]
   refine ⟨(List.Perm.cons x p).trans hst, List.pairwise_cons.2 ⟨fun z hz => ?_, a⟩⟩
   have hz2 : z ∈ l := hst.mem_iff.1 (List.mem_cons_of_mem _ (p.mem_iff.1 hz))
   obtain ⟨j, hj⟩ := List.getElem?_of_mem hz2
   exact Jwu h (by omega) (Nat.le_refl _) x ex j z (gsI.1 hj).1 hj
theorem Jzk (h : STO lt) {l : List α} : selS lt l = Jax lt l := Jqs h (Jsb h rfl).2 (Jsb h rfl).1
theorem Jwv {β : Type} {lt' : β -> β -> Bool} {f : α -> β} {l : List α} (hf : ∀ x ∈ l, ∀ y ∈ l, lt' (f y) (f x) = lt y x) : ∀ {k : Nat}, Jb7 lt' (l.map f) k = Jb7 lt l k
 | 0 => rfl
 | k + 1 => by
   simp only [Jb7, Jwv hf (k := k), List.getElem?_map]
   cases e1 : l[k]? with
   | none => rfl
   | some x =>
     cases e2 : l[Jb7 lt l k]? with
     | none => rfl
     | some y => simp only [Option.map_some, hf y (List.mem_of_getElem? e2) x (List.mem_of_getElem? e1)]
theorem Jzj {β : Type} {lt' : β -> β -> Bool} {f : α -> β} : ∀ {n : Nat} {l : List α}, (∀ x ∈ l, ∀ y ∈ l, lt' (f y) (f x) = lt y x) -> (selN lt n l).map f = selN lt' n (l.map f)
 | 0, _, _ => rfl
 | n + 1, l, hf => by
   simp only [selN, Jwv hf, List.length_map, List.getElem?_map]
   cases e : l[Jb7 lt l l.length]? with
   | none => rfl
   | some x =>
     simp only [Option.map_some, List.map_cons, List.cons.injEq, true_and]
     rw [Jzj (fun a ha b hb => hf a ?_ b ?_)]
     . simp [List.map_take, List.map_drop]
     . exact (Jof e).mem_iff.1 (List.mem_cons_of_mem _ ha)
     . exact (Jof e).mem_iff.1 (List.mem_cons_of_mem _ hb)
end
theorem Joe : STO Op.bytesLess := ⟨Je4, fun h k => Jij h k, fun h k => Jhb h k⟩
theorem Kcy : STO Jca := ⟨Ka4, fun h k => Jyp h k, fun h k => Ka5 h k⟩
structure End where
 part : Txt
 port : Txt
 deriving DecidableEq
@[simp] def End.enc (a : End) : List PV := [.str a.part, .str a.port]
@[simp] def End.row (a : End) : List AV := [.p (.str a.part), .p (.str a.port)]
@[simp] def End.av (a : End) : AV := .agg [.p (.str a.part), .p (.str a.port)]
def Jc9 (a b : End) : Int := orI [Lib.compareBytes a.part b.part, Lib.compareBytes a.port b.port]
def Jd7 (a b : End) : Bool := if a.part = b.part then Op.bytesLess a.port b.port else Op.bytesLess a.part b.part
theorem Jmm {a b : End} : Jc9 a b < 0 ↔ Jd7 a b = true := by
 unfold Jc9 Jd7
 simp only [orI]
 by_cases e : a.part = b.part
 . rw [if_pos (Jei.2 e), if_pos e, <- Jmk]
   by_cases h0 : Lib.compareBytes a.port b.port = 0
   . rw [if_pos h0]; omega
   . rw [if_neg h0]
 . rw [if_neg (fun h => e (Jei.1 h)), if_neg e, Jmk]
theorem Jml {a b : End} : Jc9 a b = 0 ↔ a = b := by
 unfold Jc9
 simp only [orI]
 by_cases e : a.part = b.part
 . rw [if_pos (Jei.2 e)]
   by_cases h0 : Lib.compareBytes a.port b.port = 0
   . rw [if_pos h0]
     have := Jei.1 h0
     obtain ⟨x, y⟩ := a
     obtain ⟨u, v⟩ := b
     simp_all
   . rw [if_neg h0]
     constructor
     . intro h; exact absurd h h0
     . rintro rfl; exact absurd (Jei.2 rfl) h0
 . rw [if_neg (fun h => e (Jei.1 h))]
   constructor
   . intro h; exact absurd (Jei.1 h) e
   . rintro rfl; exact absurd rfl e
theorem Jge : STO Jd7 := by
 refine ⟨fun a => by simp [Jd7, Je4], fun {a b c} h k => ?_, fun {a b} h k => ?_⟩
 . unfold Jd7 at h k ⊢
   by_cases e1 : a.part = b.part <;> by_cases e2 : b.part = c.part
   . rw [if_pos e1] at h; rw [if_pos e2] at k; rw [if_pos (e1.trans e2)]; exact Jij h k
   . rw [if_neg e2] at k; rw [if_neg (e1 ▸ e2), e1]; exact k
   . rw [if_neg e1] at h; rw [if_neg (e2 ▸ e1), <- e2]; exact h
   . rw [if_neg e1] at h; rw [if_neg e2] at k
     have := Jij h k
     rw [if_neg (fun e => by rw [e, Je4] at this; cases this)]
     exact this
 . unfold Jd7 at h k
   by_cases e : a.part = b.part
   . rw [if_pos e] at h; rw [if_pos e.symm] at k
     obtain ⟨x, y⟩ := a
     obtain ⟨u, v⟩ := b
     simp only at e h k
     rw [e, Jhb h k]
   . rw [if_neg e] at h; rw [if_neg (Ne.symm e)] at k
     exact absurd (Jhb h k) e
theorem Juz {a b : End} : 0 < Jc9 a b ↔ Jd7 b a = true := by
 constructor
 . intro h
   cases e : Jd7 b a with
   | true => rfl
   | false =>
     cases e2 : Jd7 a b with
     | true => have := Jmm.2 e2; omega
     | false =>
       have := Jge.total e e2
       have := Jml.2 this.symm
       omega
 . intro h
   have h1 : ¬ Jc9 a b < 0 := fun h2 => by have := Jge.asymm h; rw [Jmm.1 h2] at this; cases this
   have h2 : Jc9 a b ≠ 0 := fun h2 => by have := Jml.1 h2; subst this; rw [Jge.irrefl] at h; cases h
   omega
abbrev EndP := End × End
@[simp] def EndP.enc (x : EndP) : List PV := [.str x.1.part, .str x.1.port, .str x.2.part, .str x.2.port]
@[simp] def EndP.row (x : EndP) : List AV := [.p (.str x.1.part), .p (.str x.1.port), .p (.str x.2.part), .p (.str x.2.port)]
@[simp] def EndP.av (x : EndP) : AV := .agg [.p (.str x.1.part), .p (.str x.1.port), .p (.str x.2.part), .p (.str x.2.port)]
def Je6 (a b : EndP) : Int := orI [Jc9 a.1 b.1, Jc9 a.2 b.2]
def Jbi (a b : EndP) : Bool := if a.1 = b.1 then Jd7 a.2 b.2 else Jd7 a.1 b.1
theorem J5a {a b : EndP} : Je6 a b < 0 ↔ Jbi a b = true := by
 unfold Je6 Jbi
 simp only [orI]
 by_cases e : a.1 = b.1
 . rw [if_pos (Jml.2 e), if_pos e, <- Jmm]
   by_cases h0 : Jc9 a.2 b.2 = 0
   . rw [if_pos h0]; omega
   . rw [if_neg h0]
 . rw [if_neg (fun h => e (Jml.1 h)), if_neg e, Jmm]
theorem Jh3 : STO Jbi := by
 refine ⟨fun a => by simp [Jbi, Jge.irrefl], fun {a b c} h k => ?_, fun {a b} h k => ?_⟩
 . unfold Jbi at h k ⊢
   by_cases e1 : a.1 = b.1 <;> by_cases e2 : b.1 = c.1
   . rw [if_pos e1] at h; rw [if_pos e2] at k; rw [if_pos (e1.trans e2)]; exact Jge.trans h k
   . rw [if_neg e2] at k; rw [if_neg (e1 ▸ e2), e1]; exact k
   . rw [if_neg e1] at h; rw [if_neg (e2 ▸ e1), <- e2]; exact h
   . rw [if_neg e1] at h; rw [if_neg e2] at k
     have := Jge.trans h k
     rw [if_neg (fun e => by rw [e, Jge.irrefl] at this; cases this)]
     exact this
 . unfold Jbi at h k
   by_cases e : a.1 = b.1
   . rw [if_pos e] at h; rw [if_pos e.symm] at k
     exact Prod.ext e (Jge.total h k)
   . rw [if_neg e] at h; rw [if_neg (Ne.symm e)] at k
     exact absurd (Jge.total h k) e
def ordE (a b : End) : EndP := if 0 < Jc9 a b then (b, a) else (a, b)
structure Drf where
 parts : List Part
 pipes : List EndP
 deriving DecidableEq
def Jaz (ps : List Part) : List Txt := Jax Op.bytesLess (ps.map (·.name))
def Jew (ps : List Part) (s : Txt) : Part := (ps.find? fun p => decide (p.name = s)).getD ⟨0, [], 0⟩
def atNm (nms : List Txt) (s : Txt) : Int := match nms.findIdx? fun n => decide (n = s) with | some i => i | none => 0
def Jeo (nms : List Txt) (x : EndP) : Pipe := ⟨⟨atNm nms x.1.part, x.1.port⟩, ⟨atNm nms x.2.part, x.2.port⟩⟩
def Jhj (d : Drf) : Circuit := ⟨(Jaz d.parts).map (Jew d.parts), (Jax Jbi d.pipes).map (Jeo (Jaz d.parts))⟩
def Jfd (p q : Part) : Bool := Op.bytesLess p.name q.name
def Jsq (c : Circuit) (x : EndP) : Pipe :=
 let a : Port := ⟨idxI c.parts fun p => decide (p.name = x.1.part), x.1.port⟩
 let b : Port := ⟨idxI c.parts fun p => decide (p.name = x.2.part), x.2.port⟩
 if Jat b a then ⟨b, a⟩ else ⟨a, b⟩
def Jdb (d : Drf) : Circuit := ⟨selS Jfd d.parts, selS Jca (d.pipes.map (Jsq ⟨selS Jfd d.parts, []⟩))⟩
structure DrfOk (d : Drf) : Prop where
 nd : (d.parts.map (·.name)).Nodup
 ends : ∀ x ∈ d.pipes, x.1.part ∈ d.parts.map (·.name) /\ x.2.part ∈ d.parts.map (·.name)
theorem Jir {ps : List Part} (h : (ps.map (·.name)).Nodup) {p : Part} (hp : p ∈ ps) : Jew ps p.name = p := by
 unfold Jew
 have : ps.find? (fun q => decide (q.name = p.name)) = some p := by
   induction ps with
   | nil => cases hp
   | cons q ps ih =>
     rw [List.map_cons, List.nodup_cons] at h
     rcases List.mem_cons.1 hp with rfl | hp
     . simp
     . have hne : q.name ≠ p.name := fun e => h.1 (e ▸ List.mem_map_of_mem hp)
       rw [List.find?_cons_of_neg (by simpa using hne)]
       exact ih h.2 hp
 rw [this]; rfl
theorem Jsd {ps : List Part} : (selS Jfd ps).map (·.name) = Jaz ps := by
 unfold selS Jaz
 rw [Jzj (lt := Jfd) (lt' := Op.bytesLess) (f := fun p : Part => p.name) (fun x _ y _ => rfl), <- Jzk Joe]
 unfold selS
 rw [List.length_map]
theorem Jxf {α : Type} {lt : α -> α -> Bool} : ∀ {n : Nat} {l : List α} {x : α}, x ∈ selN lt n l -> x ∈ l
 | 0, _, _, h => by cases h
 | n + 1, l, x, h => by
   simp only [selN] at h
   split at h
   . rename_i y e
     rcases List.mem_cons.1 h with rfl | h
     . exact List.mem_of_getElem? e
     . exact (Jof e).mem_iff.1 (List.mem_cons_of_mem _ (Jxf h))
   . cases h
theorem Jsc {ps : List Part} (h : (ps.map (·.name)).Nodup) : selS Jfd ps = (Jaz ps).map (Jew ps) := by
 rw [<- Jsd, List.map_map]
 conv => lhs; rw [<- List.map_id (selS Jfd ps)]
 refine List.map_congr_left fun p hp => ?_
 exact (Jir h (Jxf hp)).symm
theorem Jnf {ps : List Part} {s : Txt} : s ∈ Jaz ps ↔ s ∈ ps.map (·.name) := Jwj
theorem J8q {ps : List Part} (h : (ps.map (·.name)).Nodup) : (Jaz ps).Nodup := Jgu.nodup_iff.2 h
theorem Jwc {ps : List Part} (h : (ps.map (·.name)).Nodup) {s : Txt} (hs : s ∈ ps.map (·.name)) : idxI (selS Jfd ps) (fun p => decide (p.name = s)) = atNm (Jaz ps) s := by
 rw [<- Jsd]
 unfold idxI atNm
 rw [List.findIdx?_map]
 have e : ((fun n => decide (n = s)) ∘ fun p : Part => p.name) = fun p : Part => decide (p.name = s) := rfl
 rw [e]
 have hm : s ∈ (selS Jfd ps).map (·.name) := by rw [Jsd]; exact Jnf.2 hs
 cases e2 : (selS Jfd ps).findIdx? fun p => decide (p.name = s) with
 | some i => rfl
 | none =>
   rw [List.findIdx?_eq_none_iff] at e2
   obtain ⟨p, hp, rfl⟩ := List.mem_map.1 hm
   have := e2 p hp
   simp at this
theorem Jmc {nms : List Txt} (hn : nms.Nodup) {i : Nat} {s : Txt} (e : nms[i]? = some s) : atNm nms s = i := by
 have hi := (gsI.1 e).1
 have : nms.findIdx? (fun n => decide (n = s)) = some i := by
   rw [List.findIdx?_eq_some_iff_getElem]
   refine ⟨hi, by rw [(gsI.1 e).2]; simp, fun j hj => ?_⟩
   have h1 := List.pairwise_iff_getElem.1 hn j i (by omega) hi hj
   rw [(gsI.1 e).2] at h1
   simpa using h1
 unfold atNm; rw [this]
theorem Jtq {ps : List Part} (h : (ps.map (·.name)).Nodup) {s t : Txt} (hs : s ∈ ps.map (·.name)) (ht : t ∈ ps.map (·.name)) : (atNm (Jaz ps) s < atNm (Jaz ps) t ↔ Op.bytesLess s t = true) /\ (atNm (Jaz ps) s = atNm (Jaz ps) t ↔ s = t) := by
 obtain ⟨i, ei⟩ := List.getElem?_of_mem (Jnf.2 hs)
 obtain ⟨j, ej⟩ := List.getElem?_of_mem (Jnf.2 ht)
 have hn := J8q h
 rw [Jmc hn ei, Jmc hn ej]
 obtain ⟨hi, ei'⟩ := gsI.1 ei
 obtain ⟨hj, ej'⟩ := gsI.1 ej
 have hasc : AscB Op.bytesLess (Jaz ps) := Jm5 Joe
 have hp := List.pairwise_iff_getElem.1 hasc
 have hinj : i = j ↔ s = t := by
   constructor
   . rintro rfl; rw [ei] at ej; cases ej; rfl
   . rintro rfl
     have h1 := Jmc hn ei
     rw [Jmc hn ej] at h1
     omega
 constructor
 . constructor
   . intro hlt
     have h1 := hp i j hi hj (by omega)
     rw [ei', ej'] at h1
     cases e : Op.bytesLess s t with
     | true => rfl
     | false => have := hinj.2 (Jhb e h1); omega
   . intro hb
     rcases Nat.lt_trichotomy i j with h1 | h1 | h1
     . omega
     . have := hinj.1 h1; subst this; rw [Je4] at hb; cases hb
     . have h2 := hp j i hj hi h1
       rw [ei', ej', hb] at h2; cases h2
 . rw [<- hinj]; omega
theorem Jrl {ps : List Part} (h : (ps.map (·.name)).Nodup) {a b : End} (ha : a.part ∈ ps.map (·.name)) (hb : b.part ∈ ps.map (·.name)) : Jat ⟨atNm (Jaz ps) a.part, a.port⟩ ⟨atNm (Jaz ps) b.part, b.port⟩ = Jd7 a b := by
 obtain ⟨h1, h2⟩ := Jtq h ha hb
 unfold Jat Jd7
 simp only [h2]
 split
 . rfl
 . rw [Bool.eq_iff_iff, decide_eq_true_eq]; exact h1
theorem Ka6 {ps : List Part} (h : (ps.map (·.name)).Nodup) {x y : EndP} (hx : x.1.part ∈ ps.map (·.name) /\ x.2.part ∈ ps.map (·.name)) (hy : y.1.part ∈ ps.map (·.name) /\ y.2.part ∈ ps.map (·.name)) : Jca (Jeo (Jaz ps) x) (Jeo (Jaz ps) y) = Jbi x y := by
 have e : (Jeo (Jaz ps) x).fr = (Jeo (Jaz ps) y).fr ↔ x.1 = y.1 := by
   obtain ⟨⟨a, b⟩, _⟩ := x
   obtain ⟨⟨c, d⟩, _⟩ := y
   simp only [Jeo, Port.mk.injEq, End.mk.injEq, (Jtq h hx.1 hy.1).2]
 unfold Jca Jbi
 simp only [e]
 split
 . exact Jrl h hx.2 hy.2
 . exact Jrl h hx.1 hy.1
theorem Kc4 {ps : List Part} (h : (ps.map (·.name)).Nodup) {x : EndP} (hx : x.1.part ∈ ps.map (·.name) /\ x.2.part ∈ ps.map (·.name)) : Jsq ⟨selS Jfd ps, []⟩ x = Jeo (Jaz ps) (ordE x.1 x.2) := by
 unfold Jsq
 simp only [Jwc h hx.1, Jwc h hx.2, Jrl h hx.2 hx.1]
 unfold ordE
 by_cases e : Jd7 x.2 x.1 = true
 . rw [if_pos e, if_pos (Juz.2 e)]; rfl
 . rw [if_neg e, if_neg (fun h => e (Juz.1 h))]; rfl
theorem Jx4 {ps : List Part} {x : EndP} (hx : x.1.part ∈ ps.map (·.name) /\ x.2.part ∈ ps.map (·.name)) : (ordE x.1 x.2).1.part ∈ ps.map (·.name) /\ (ordE x.1 x.2).2.part ∈ ps.map (·.name) := by
 unfold ordE
 split
 . exact ⟨hx.2, hx.1⟩
 . exact hx
theorem Jp0 {d : Drf} (h : DrfOk d) : Jhj ⟨d.parts, d.pipes.map fun x => ordE x.1 x.2⟩ = Jdb d := by
 unfold Jhj Jdb
 rw [Jsc h.nd, Jzk Kcy]
 congr 1
 rw [Jwi (lt' := Jca) (f := Jeo (Jaz d.parts)), List.map_map]
 . congr 1
   refine List.map_congr_left fun x hx => ?_
   rw [<- Jsc h.nd, Kc4 h.nd (h.ends x hx)]; rfl
 . intro x hx y hy
   obtain ⟨x', hx', rfl⟩ := List.mem_map.1 hx
   obtain ⟨y', hy', rfl⟩ := List.mem_map.1 hy
   exact Ka6 h.nd (Jx4 (h.ends y' hy')) (Jx4 (h.ends x' hx'))
end Go.Am
namespace Go.Am
open Go Go.Proofs Go.Pn
def fldG : Txt -> Txt -> List Txt
 | cur, [] => if cur = [] then [] else [cur]
 | cur, b :: t => if b = 32 then (if cur = [] then fldG [] t else cur :: fldG [] t) else fldG (cur ++ [b]) t
theorem Jvn {s : Txt} : ∀ {k : Nat}, k <= s.length -> (fldK s k).1 ++ fldG (fldK s k).2 (s.drop k) = fldG [] s
 | 0, _ => by simp [fldK]
 | k + 1, h => by
   have ih := Jvn (s := s) (k := k) (by omega)
   rw [<- ih]
   have hk : k < s.length := by omega
   obtain ⟨b, e⟩ := Jah hk
   have hd : s.drop k = b :: s.drop (k + 1) := by rw [List.drop_eq_getElem_cons hk]; rw [List.getElem?_eq_getElem hk] at e; cases e; rfl
   rw [hd]
   simp only [fldK, e, fldG]
   by_cases hb : b = 32
   . rw [if_neg (by simpa using hb), if_pos hb]
     by_cases hc : (fldK s k).2 = []
     . simp [hc]
     . simp [hc]
   . rw [if_pos hb, if_neg hb]
theorem Jql {s : Txt} : fldR s = fldG [] s := by
 have h := Jvn (s := s) (k := s.length) (Nat.le_refl _)
 rw [List.drop_length] at h
 rw [<- h]
 unfold fldR
 have hn : s[s.length]? = none := by simp
 simp only [fldK, hn, fldG]
 split <;> simp
theorem Jvm : ∀ {u : Txt} {cur t : Txt}, (∀ b ∈ u, b ≠ 32) -> fldG cur (u ++ t) = fldG (cur ++ u) t
 | [], cur, t, _ => by simp
 | b :: u, cur, t, h => by
   have hb := h b (by simp)
   rw [List.cons_append, fldG, if_neg hb, Jvm (fun x hx => h x (by simp [hx]))]
   simp
theorem J5n (n b0 b1 b2 b3 : Nat) : ((Lib.decodeN n b0 b1 b2 b3).1 = 32 -> b0 = 32 /\ (Lib.decodeN n b0 b1 b2 b3).2 = 1) /\
   ((Lib.decodeN n b0 b1 b2 b3).1 ≠ 32 -> b0 ≠ 32 /\ (1 < (Lib.decodeN n b0 b1 b2 b3).2 -> b1 ≠ 32) /\ (2 < (Lib.decodeN n b0 b1 b2 b3).2 -> b2 ≠ 32) /\ (3 < (Lib.decodeN n b0 b1 b2 b3).2 -> b3 ≠ 32) /\ (Lib.decodeN n b0 b1 b2 b3).2 <= 4) := by
 unfold Lib.decodeN
 repeat' split
 all_goals (refine ⟨fun h => ⟨?_, ?_⟩, fun h => ⟨?_, fun h2 => ?_, fun h2 => ?_, fun h2 => ?_, ?_⟩⟩ <;> dsimp only at * <;> omega)
theorem J5o {s : Txt} {pos : Nat} (h : pos < s.length) : ((Utf8.decode ⟨⟨s⟩⟩ pos).1 = 32 -> s[pos]? = some 32 /\ (Utf8.decode ⟨⟨s⟩⟩ pos).2 = 1) /\ ((Utf8.decode ⟨⟨s⟩⟩ pos).1 ≠ 32 -> ∀ b ∈ (s.drop pos).take (Utf8.decode ⟨⟨s⟩⟩ pos).2, b ≠ 32) := by
 have e := Lib.decode_N ⟨⟨s⟩⟩ pos
 have hf := J5n (s.length - pos) (s.getD pos 0).toNat (s.getD (pos + 1) 0).toNat (s.getD (pos + 2) 0).toNat (s.getD (pos + 3) 0).toNat
 have e2 : (⟨⟨s⟩⟩ : ByteArray).data.toList = s := rfl
 rw [e2] at e
 rw [<- e] at hf
 obtain ⟨f1, f2⟩ := hf
 have hget : ∀ j b, s[pos + j]? = some b -> s.getD (pos + j) 0 = b := fun j b hj => by rw [List.getD_eq_getElem?_getD, hj]; rfl
 refine ⟨fun h1 => ?_, fun h1 b hb => ?_⟩
 . obtain ⟨g1, g2⟩ := f1 h1
   obtain ⟨b, eb⟩ := Jah h
   have := hget 0 b (by simpa using eb)
   simp only [Nat.add_zero] at this
   rw [this] at g1
   have hb : b = 32 := UInt8.toNat_inj.1 (by simpa using g1)
   exact ⟨by rw [eb, hb], g2⟩
 . obtain ⟨g0, g1, g2, g3, g4⟩ := f2 h1
   obtain ⟨j, hj⟩ := List.getElem?_of_mem hb
   have hjw : j < (Utf8.decode ⟨⟨s⟩⟩ pos).2 := by
     have := (gsI.1 hj).1
     rw [List.length_take] at this; omega
   rw [List.getElem?_take_of_lt hjw, List.getElem?_drop] at hj
   rintro rfl
   have hv := hget j 32 hj
   rcases (by omega : j = 0 \/ j = 1 \/ j = 2 \/ j = 3) with rfl | rfl | rfl | rfl
   . rw [Nat.add_zero] at hv; rw [hv] at g0; exact g0 rfl
   . rw [hv] at g1; exact g1 (by omega) rfl
   . rw [hv] at g2; exact g2 (by omega) rfl
   . rw [hv] at g3; exact g3 (by omega) rfl
theorem Kcr (s : Txt) : ∀ (f pos : Nat) (st : Option Nat) (acc : List (Nat × Nat)), s.length <= pos + f -> pos <= s.length -> (∀ a, st = some a -> a < pos) ->
   acc.map (fun p => Lib.pieceU s p.1 p.2) ++ fldG (Lib.openPiece s st pos) (s.drop pos) = (Lib.closeSpans ⟨⟨s⟩⟩ (Lib.spansFromP (fun x => x == 32) ⟨⟨s⟩⟩ f pos st acc)).map (fun p => Lib.pieceU s p.1 p.2) := by
 have hsz : (⟨⟨s⟩⟩ : ByteArray).size = s.length := rfl
 have hend : ∀ (f : Nat) (st : Option Nat) (acc : List (Nat × Nat)), (∀ a, st = some a -> a < s.length) ->
     acc.map (fun p => Lib.pieceU s p.1 p.2) ++ fldG (Lib.openPiece s st s.length) (s.drop s.length) = (Lib.closeSpans ⟨⟨s⟩⟩ (Lib.spansFromP (fun x => x == 32) ⟨⟨s⟩⟩ f s.length st acc)).map (fun p => Lib.pieceU s p.1 p.2) := fun f st acc hst => by
   rw [Lib.spansFromP_end _ _ _ _ _ _ (by rw [hsz]; omega), List.drop_length]
   cases st with
   | none => simp [Lib.closeSpans, Lib.openPiece, fldG]
   | some a =>
     have := Lib.pieceU_ne s a s.length (hst a rfl) (Nat.le_refl _)
     simp [Lib.closeSpans, Lib.openPiece, fldG, this, hsz]
 intro f
 induction f with
 | zero =>
   intro pos st acc h hp hst
   obtain rfl : pos = s.length := by omega
   exact hend 0 st acc hst
 | succ f ih =>
   intro pos st acc h hp hst
   by_cases hlt : pos < s.length
   . have hw := Lib.width_pos ⟨⟨s⟩⟩ pos
     have hwn : pos + (Utf8.decode ⟨⟨s⟩⟩ pos).2 <= s.length := by
       have := Lib.decodeN_le_n' ((⟨⟨s⟩⟩ : ByteArray).size - pos) ((⟨⟨s⟩⟩ : ByteArray).get! pos).toNat ((⟨⟨s⟩⟩ : ByteArray).get! (pos + 1)).toNat ((⟨⟨s⟩⟩ : ByteArray).get! (pos + 2)).toNat ((⟨⟨s⟩⟩ : ByteArray).get! (pos + 3)).toNat (by rw [hsz]; omega)
       rw [<- Lib.decode_at, hsz] at this
       omega
     obtain ⟨c1, c2⟩ := J5o hlt
     have hsp : s.drop pos = (s.drop pos).take (Utf8.decode ⟨⟨s⟩⟩ pos).2 ++ s.drop (pos + (Utf8.decode ⟨⟨s⟩⟩ pos).2) := by rw [<- List.drop_drop, List.take_append_drop]
     simp only [Lib.spansFromP, hsz, if_pos hlt]
     by_cases hb : (Utf8.decode ⟨⟨s⟩⟩ pos).1 = 32
     . obtain ⟨d1, d2⟩ := c1 hb
       have hd : s.drop pos = 32 :: s.drop (pos + 1) := by rw [List.drop_eq_getElem_cons hlt]; rw [List.getElem?_eq_getElem hlt, Option.some.injEq] at d1; rw [d1]
       simp only [hb, beq_self_eq_true, if_true, d2, hd, fldG]
       cases st with
       | none =>
         have := ih (pos + 1) none acc (by omega) (by omega) (fun a h => by cases h)
         simpa [Lib.openPiece] using this
       | some a =>
         have hpn := Lib.pieceU_ne s a pos (hst a rfl) (by omega)
         have := ih (pos + 1) none (acc ++ [(a, pos)]) (by omega) (by omega) (fun a h => by cases h)
         simpa [Lib.openPiece, hpn] using this
     . have hb2 : ((Utf8.decode ⟨⟨s⟩⟩ pos).1 == 32) = false := by simpa using hb
       rw [hsp, Jvm (c2 hb)]
       simp only [hb2, Bool.false_eq_true, if_false]
       cases st with
       | none =>
         have := ih (pos + (Utf8.decode ⟨⟨s⟩⟩ pos).2) (some pos) acc (by omega) hwn (fun a h => by cases h; omega)
         have e : Lib.openPiece s none pos ++ (s.drop pos).take (Utf8.decode ⟨⟨s⟩⟩ pos).2 = Lib.openPiece s (some pos) (pos + (Utf8.decode ⟨⟨s⟩⟩ pos).2) := by
           simp only [Lib.openPiece]
           unfold Lib.pieceU
           rw [List.nil_append, Nat.add_sub_cancel_left]
         rw [e]; exact this
       | some a =>
         have := ih (pos + (Utf8.decode ⟨⟨s⟩⟩ pos).2) (some a) acc (by omega) hwn (fun b h => by cases h; have := hst a rfl; omega)
         have e : Lib.openPiece s (some a) pos ++ (s.drop pos).take (Utf8.decode ⟨⟨s⟩⟩ pos).2 = Lib.openPiece s (some a) (pos + (Utf8.decode ⟨⟨s⟩⟩ pos).2) := by
           simp only [Lib.openPiece]
           rw [Lib.pieceU_grow _ _ _ _ (Nat.le_of_lt (hst a rfl))]
         rw [e]; exact this
   . obtain rfl : pos = s.length := by omega
     exact hend (f + 1) st acc hst
theorem J68 (s : Txt) : (Lib.goFieldsP (fun x => x == 32) ⟨⟨s⟩⟩).map (fun x => x.data.toList) = fldR s := by
 have h := Kcr s s.length 0 none [] (by omega) (by omega) (fun a h => by cases h)
 rw [Jql]
 have e : fldG [] s = fldG (Lib.openPiece s none 0) (s.drop 0) := rfl
 rw [e]
 rw [List.map_nil, List.nil_append] at h
 rw [h]
 unfold Lib.goFieldsP Lib.spansOfP
 have hsz : (⟨⟨s⟩⟩ : ByteArray).size = s.length := rfl
 rw [List.map_map, hsz]
 refine List.map_congr_left fun p _ => ?_
 simp only [Function.comp, Lib.pieceU, Lib.extract_data]
def linS : Txt -> Txt -> List Txt × Txt
 | [], cur => ([], cur)
 | b :: t, cur => if b = 10 then (cur :: (linS t []).1, (linS t []).2) else linS t (cur ++ [b])
def Jay (s : Txt) : List Txt := (linS s []).1
theorem Jna : ∀ {s cur : Txt}, (linS s cur).1.length <= s.length
 | [], cur => by simp [linS]
 | b :: t, cur => by
   unfold linS
   split
   . simp only [List.length_cons]
     have := @Jna t []
     omega
   . have := @Jna t (cur ++ [b])
     simp only [List.length_cons]
     omega
theorem Jnb : ∀ {s cur : Txt} {l : Txt}, l ∈ (linS s cur).1 -> l.length <= cur.length + s.length
 | [], cur, l, h => by simp [linS] at h
 | b :: t, cur, l, h => by
   unfold linS at h
   split at h
   . rcases List.mem_cons.1 h with rfl | h
     . simp
     . have := @Jnb t [] l h
       simp only [List.length_cons, List.length_nil] at this ⊢
       omega
   . have := @Jnb t (cur ++ [b]) l h
     simp only [List.length_cons, List.length_append, List.length_nil] at this ⊢
     omega
theorem Jkn : ∀ {s cur : Txt}, s ≠ [] -> ((linS s cur).2 = [] ↔ s.getLast? = some 10)
 | [], _, h => absurd rfl h
 | [b], cur, _ => by
   unfold linS
   by_cases hb : b = 10
   . subst hb; simp [linS]
   . simp [hb, linS]
 | b :: c :: t, cur, _ => by
   unfold linS
   rw [List.getLast?_cons_cons]
   split
   . exact Jkn (s := c :: t) (by simp)
   . exact Jkn (s := c :: t) (by simp)
end Go.Am
namespace Go.Am
open Go Go.Proofs Go.Pn
def dotI (s : Txt) : Int := idxI s fun b => decide (b = 46)
def befD (s : Txt) : Txt := s.take (dotI s).toNat
def aftD (s : Txt) : Txt := s.drop ((dotI s).toNat + 1)
def Jhr (ps : List Part) (s : Txt) : Option Int := (ps.find? fun p => decide (p.name = s)).map (·.kind)
def Jri (k : Int) (s : Txt) : Bool := decide (0 <= Jdl k.toNat s)
def Jcn (ps : List Part) (s : Txt) : Int := if dotI s < 0 then 4 else match Jhr ps (befD s) with
 | none => 6
 | some k => if Jri k (aftD s) then 0 else 6
def Jci (ps : List Part) (s : Txt) : End := if Jcn ps s = 0 then ⟨befD s, aftD s⟩ else ⟨[], []⟩
def Jb5 (w : Txt) : Int := idxI (List.range 14) fun k => decide (Jjy k = w)
def partOf (a b : Txt) (o : Option Txt) : Part := ⟨Jb5 b, a, match o with | some c => valOf c | none => 0⟩
def Jkv (o : Option Txt) : Int := match o with | some c => Jdd c | none => 0
def Jbl (ps : List Part) (a b : Txt) (o : Option Txt) : Int :=
 if Jb5 b < 0 then 6 else if Jkv o ≠ 0 then Jkv o else if Ja5 (partOf a b o) ≠ 0 then Ja5 (partOf a b o) else if a ∈ ps.map (·.name) then 7 else if ps.length = 64 then 5 else 0
def Ja9 (ps : List Part) (a b : Txt) (o : Option Txt) : List Part := if Jbl ps a b o = 0 then ps ++ [partOf a b o] else ps
def Jc2 (ps : List Part) : List Txt -> Int
 | [a, b] => Jbl ps a b none
 | [a, b, c] => Jbl ps a b (some c)
 | _ => 4
def Jbd (ps : List Part) : List Txt -> List Part
 | [a, b] => Ja9 ps a b none
 | [a, b, c] => Ja9 ps a b (some c)
 | _ => ps
def ordX (x : EndP) : EndP := ordE x.1 x.2
def Jc4 (d : Drf) (a b : Txt) : Int :=
 if Jcn d.parts a ≠ 0 then Jcn d.parts a else if Jcn d.parts b ≠ 0 then Jcn d.parts b else
 if Jci d.parts a = Jci d.parts b \/ ordE (Jci d.parts a) (Jci d.parts b) ∈ d.pipes.map ordX then 7 else if d.pipes.length = 256 then 5 else 0
def Jch (d : Drf) (a b : Txt) : List EndP := if Jc4 d a b = 0 then d.pipes ++ [(Jci d.parts a, Jci d.parts b)] else d.pipes
def Jdk (d : Drf) : List Txt -> Int
 | [a, b] => Jc4 d a b
 | _ => 4
def Jbo (d : Drf) : List Txt -> List EndP
 | [a, b] => Jch d a b
 | _ => d.pipes
def Jde : Txt := [112, 97, 114, 116]
def Jd1 : Txt := [112, 105, 112, 101]
def J0w (d : Drf) : List Txt -> Int
 | [] => 0
 | h :: t => if h.head? = some 35 then 0 else if h = Jde then Jc2 d.parts t else if h = Jd1 then Jdk d t else 4
def Jg7 (d : Drf) : List Txt -> Drf
 | [] => d
 | h :: t => if h.head? = some 35 then d else if h = Jde then ⟨Jbd d.parts t, d.pipes⟩ else if h = Jd1 then ⟨d.parts, Jbo d t⟩ else d
def linE (d : Drf) (s : Txt) : Int := J0w d (fldR s)
def Jb2 (d : Drf) (s : Txt) : Drf := Jg7 d (fldR s)
def runD (d : Drf) : List Txt -> Drf
 | [] => d
 | l :: ls => if linE d l = 0 then runD (Jb2 d l) ls else Jb2 d l
def Jhz (d : Drf) : List Txt -> Nat
 | [] => 0
 | l :: ls => if linE d l = 0 then Jhz (Jb2 d l) ls + 1 else 0
def runE (d : Drf) : List Txt -> Int
 | [] => 0
 | l :: ls => if linE d l = 0 then runE (Jb2 d l) ls else linE d l
def noD : Drf := ⟨[], []⟩
def noC : Circuit := ⟨[], []⟩
def prsE (s : Txt) : Int := if 16384 < s.length then 17 else if (linS s []).2 ≠ [] then 18 else
 if runE noD (Jay s) ≠ 0 then runE noD (Jay s) else Jad (Jdb (runD noD (Jay s)))
def prsI (s : Txt) : Int := if 16384 < s.length then 0 else if (linS s []).2 ≠ [] then 0 else
 if runE noD (Jay s) ≠ 0 then Jhz noD (Jay s) else if Jad (Jdb (runD noD (Jay s))) ≠ 0 then (Jay s).length else 0
def prsC (s : Txt) : Circuit := if prsE s = 0 then Jdb (runD noD (Jay s)) else noC
theorem J74 {ps : List Part} {s : Txt} {k : Int} (h : Jhr ps s = some k) : s ∈ ps.map (·.name) := by
 unfold Jhr at h
 obtain ⟨p, hp, _⟩ := Option.map_eq_some_iff.1 h
 have h2 := List.find?_some hp
 exact List.mem_map.2 ⟨p, List.mem_of_find?_eq_some hp, by simpa using h2⟩
theorem Jys {ps : List Part} {s : Txt} (h : Jcn ps s = 0) : (Jci ps s).part ∈ ps.map (·.name) := by
 unfold Jci
 rw [if_pos h]
 unfold Jcn at h
 split at h
 . cases h
 . split at h
   . cases h
   . rename_i k e
     exact J74 e
theorem Jyd {ps : List Part} {a b : Txt} {o : Option Txt} : ∀ p ∈ ps, p ∈ Ja9 ps a b o := fun p hp => by
 unfold Ja9; split
 . exact List.mem_append_left _ hp
 . exact hp
theorem Jyf {ps : List Part} {w : List Txt} : ∀ p ∈ ps, p ∈ Jbd ps w := fun p hp => by
 unfold Jbd; split
 . exact Jyd p hp
 . exact Jyd p hp
 . exact hp
theorem Jyc {ps : List Part} {a b : Txt} {o : Option Txt} (h : (ps.map (·.name)).Nodup) : ((Ja9 ps a b o).map (·.name)).Nodup := by
 unfold Ja9
 split
 . rename_i e
   rw [List.map_append, List.nodup_append]
   refine ⟨h, by simp, fun x hx y hy => ?_⟩
   simp [partOf] at hy
   subst hy
   intro e2
   subst e2
   unfold Jbl at e
   split at e
   . cases e
   . split at e
     . contradiction
     . split at e
       . contradiction
       . first | (rw [if_pos hx] at e; cases e) | cases e
 . exact h
theorem Kax {ps : List Part} {w : List Txt} (h : (ps.map (·.name)).Nodup) : ((Jbd ps w).map (·.name)).Nodup := by
 unfold Jbd; split
 . exact Jyc h
 . exact Jyc h
 . exact h
theorem Ka7 {d : Drf} (h : DrfOk d) {w : List Txt} : ∀ x ∈ Jbo d w, x.1.part ∈ d.parts.map (·.name) /\ x.2.part ∈ d.parts.map (·.name) := fun x hx => by
 unfold Jbo at hx
 split at hx
 . unfold Jch at hx
   split at hx
   . rename_i a b _ e
     rcases List.mem_append.1 hx with hx | hx
     . exact h.ends x hx
     . simp at hx
       subst hx
       unfold Jc4 at e
       split at e
       . contradiction
       . rename_i h1
         split at e
         . contradiction
         . rename_i h2
           exact ⟨Jys (by simpa using h1), Jys (by simpa using h2)⟩
   . exact h.ends x hx
 . exact h.ends x hx
theorem Js0 {d : Drf} (h : DrfOk d) {w : List Txt} : DrfOk (Jg7 d w) := by
 unfold Jg7
 split
 . exact h
 . split
   . exact h
   . split
     . refine ⟨Kax h.nd, fun x hx => ?_⟩
       obtain ⟨h1, h2⟩ := h.ends x hx
       obtain ⟨p, hp, e1⟩ := List.mem_map.1 h1
       obtain ⟨q, hq, e2⟩ := List.mem_map.1 h2
       exact ⟨List.mem_map.2 ⟨p, Jyf p hp, e1⟩, List.mem_map.2 ⟨q, Jyf q hq, e2⟩⟩
     . split
       . exact ⟨h.nd, Ka7 h⟩
       . exact h
theorem Jr5 : ∀ {ls : List Txt} {d : Drf}, DrfOk d -> DrfOk (runD d ls)
 | [], _, h => h
 | l :: ls, d, h => by
   unfold runD
   split
   . exact Jr5 (Js0 h)
   . exact Js0 h
theorem Jnl : DrfOk noD := ⟨List.nodup_nil, by simp [noD]⟩
structure DrfSz (d : Drf) : Prop where
 parts : d.parts.length <= 64
 pipes : d.pipes.length <= 256
theorem Js1 {d : Drf} (h : DrfSz d) {w : List Txt} : DrfSz (Jg7 d w) := by
 have hp : ∀ {a b : Txt} {o : Option Txt}, (Ja9 d.parts a b o).length <= 64 := fun {a b o} => by
   unfold Ja9
   split
   . rename_i e
     have h1 := h.parts
     have : d.parts.length ≠ 64 := fun e2 => by
       unfold Jbl at e
       split at e
       . cases e
       . split at e
         . contradiction
         . split at e
           . contradiction
           . split at e
             . cases e
             . first | (rw [if_pos e2] at e; cases e) | cases e
     simp only [List.length_append, List.length_cons, List.length_nil]; omega
   . exact h.parts
 have hq : ∀ {a b : Txt}, (Jch d a b).length <= 256 := fun {a b} => by
   unfold Jch
   split
   . rename_i e
     have h1 := h.pipes
     have : d.pipes.length ≠ 256 := fun e2 => by
       unfold Jc4 at e
       split at e
       . contradiction
       . split at e
         . contradiction
         . split at e
           . cases e
           . first | (rw [if_pos e2] at e; cases e) | cases e
     simp only [List.length_append, List.length_cons, List.length_nil]; omega
   . exact h.pipes
 unfold Jg7
 split
 . exact h
 . split
   . exact h
   . split
     . refine ⟨?_, h.pipes⟩
       simp only [Jbd]
       split
       . exact hp
       . exact hp
       . exact h.parts
     . split
       . refine ⟨h.parts, ?_⟩
         simp only [Jbo]
         split
         . exact hq
         . exact h.pipes
       . exact h
theorem Jr6 : ∀ {ls : List Txt} {d : Drf}, DrfSz d -> DrfSz (runD d ls)
 | [], _, h => h
 | l :: ls, d, h => by
   unfold runD
   split
   . exact Jr6 (Js1 h)
   . exact Js1 h
theorem Jnm : DrfSz noD := ⟨by simp [noD], by simp [noD]⟩
end Go.Am
namespace Go.Am
open Go Go.Proofs Go.Pn
theorem Jq5 {c : Circuit} (h : Jad c = 0) : (c.parts.map (·.name)).Nodup := by
 refine List.pairwise_map.2 (List.pairwise_iff_getElem.2 fun i j hi hj hij => ?_)
 intro e
 have := Jnu h hij (List.getElem?_eq_getElem hi) (List.getElem?_eq_getElem hj)
 rw [e, Je4] at this
 cases this
theorem Kba {c : Circuit} (h : Jad c = 0) {x : Pipe} (hx : x ∈ c.pipes) : Jd8 c x.fr = 0 /\ Jd8 c x.to = 0 /\ Jat x.fr x.to = true := Jrg.1 ((Jkd.1 h).2.2.1 x hx)
theorem Jzz {d : Drf} (h : DrfOk d) : (Jdb d).parts.Perm d.parts := by
 show (selS Jfd d.parts).Perm d.parts
 rw [Jsc h.nd]
 have h1 : (Jaz d.parts).Perm (d.parts.map (·.name)) := Jgu
 refine (h1.map (Jew d.parts)).trans ?_
 rw [List.map_map]
 have : d.parts.map (Jew d.parts ∘ fun p => p.name) = d.parts := by
   conv => rhs; rw [<- List.map_id d.parts]
   exact List.map_congr_left fun p hp => Jir h.nd hp
 rw [this]
end Go.Am
namespace Go.Am
open Go Go.Proofs Go.Pn
theorem J0v {s : Txt} (h : Jc6 s = 0) : s ≠ [] /\ (∀ b ∈ s, Jc0 b = true) /\ s.length <= 24 := by
 cases s with
 | nil => simp [Jc6] at h
 | cons b r =>
   unfold Jc6 at h
   simp only at h
   split at h
   . cases h
   . split at h
     . cases h
     . rename_i h2
       split at h
       . cases h
       . rename_i h3
         refine ⟨by simp, fun x hx => ?_, by omega⟩
         simp only [Bool.not_eq_true', Bool.not_eq_false] at h2
         exact List.all_eq_true.1 h2 x hx
theorem Jns {p : Part} (h : Ja5 p = 0) : (0 <= p.kind /\ p.kind < 14) /\ Jc6 p.name = 0 /\ (p.kind = 12 -> 1 <= p.delay /\ p.delay <= 1000000) /\ (p.kind ≠ 12 -> p.delay = 0) := by
 unfold Ja5 at h
 by_cases h1 : Jbw p.kind = 0
 . rw [if_neg (by simpa using h1)] at h
   by_cases h2 : Jc6 p.name = 0
   . rw [if_neg (by simpa using h2)] at h
     refine ⟨Jhq.1 h1, h2, ?_, ?_⟩ <;> intro h3 <;> split at h <;> (try cases h) <;> omega
   . rw [if_pos h2] at h; exact absurd h h2
 . rw [if_pos h1] at h; exact absurd h h1
theorem Kaz {c : Circuit} (h : Jad c = 0) {p : Part} (hp : p ∈ c.parts) : Ja5 p = 0 := by
 have hf := (Jkd.1 h).1.each
 obtain ⟨j, hj, e⟩ := List.getElem_of_mem hp
 have h2 := Jer hf hj
 unfold partAt at h2
 rw [List.getElem?_eq_getElem hj, e] at h2
 simp only at h2
 apply Decidable.byContradiction
 intro hne
 rw [if_pos hne] at h2
 exact hne h2
end Go.Am
namespace Go.Am
open Go Go.Proofs Go.Pn
section
variable {c d : Circuit} {g : Int -> Int}
end
end Go.Am
namespace Go.Am
open Go Go.Proofs Go.Pn
theorem Kao {c : Circuit} (h : Jad c = 0) {p : Part} (hp : p ∈ c.parts) (hk : p.kind = 6) : ∃ nm q, stem p.name = some nm /\ q ∈ c.parts /\ q.name = nm /\ q.kind = 1 := by
 obtain ⟨j, hj, e⟩ := List.getElem_of_mem hp
 have h2 := Jer (Jkd.1 h).1.owned hj
 unfold Jeb at h2
 rw [List.getElem?_eq_getElem hj, e] at h2
 simp only [hk, true_and] at h2
 have h3 : ¬ Jby c p.name < 0 := fun h3 => by rw [if_pos h3] at h2; cases h2
 unfold Jby at h3
 cases hs : stem p.name with
 | none => rw [hs] at h3; simp at h3
 | some nm =>
   rw [hs] at h3
   simp only at h3
   cases hf : c.parts.findIdx? fun p => decide (p.name = nm) with
   | none => rw [hf] at h3; simp at h3
   | some i =>
     rw [hf] at h3
     simp only at h3
     obtain ⟨h4, h5, _⟩ := List.findIdx?_eq_some_iff_getElem.1 hf
     split at h3
     . rename_i h6
       rw [List.getElem?_eq_getElem h4] at h6
       exact ⟨nm, c.parts[i], rfl, List.getElem_mem h4, by simpa using h5, by simpa using h6⟩
     . omega
theorem Kap {c : Circuit} (hn : (c.parts.map (·.name)).Nodup) {p q : Part} {nm : Txt} (hs : stem p.name = some nm) (hq : q ∈ c.parts) (e : q.name = nm) (hk : q.kind = 1) : ¬ Jby c p.name < 0 := by
 unfold Jby
 rw [hs]
 simp only
 cases hf : c.parts.findIdx? fun p => decide (p.name = nm) with
 | none =>
   rw [List.findIdx?_eq_none_iff] at hf
   have := hf q hq
   simp [e] at this
 | some i =>
   simp only
   obtain ⟨h4, h5, _⟩ := List.findIdx?_eq_some_iff_getElem.1 hf
   have : c.parts[i] = q := by
     have h6 : c.parts[i].name = nm := by simpa using h5
     have h7 := Jir hn (List.getElem_mem h4)
     have h8 := Jir hn hq
     rw [h6] at h7
     rw [e] at h8
     rw [<- h7, h8]
   rw [if_pos (by rw [List.getElem?_eq_getElem h4, this]; simpa using hk)]
   omega
theorem Kau {c : Circuit} {s : Txt} (h : 0 <= Jb8 c s) : ∃ q ∈ c.parts, q.name = s /\ Jal c (Jb8 c s) = q.kind := by
 rcases Jgb c s with h1 | ⟨i, x, h1, h2, h3⟩
 . omega
 . exact ⟨x, List.mem_of_getElem? h2, h3, by rw [h1, Jal, Int.toNat_natCast, h2]; rfl⟩
theorem Kav {c : Circuit} (h : Jad c = 0) {q : Part} (hq : q ∈ c.parts) : 0 <= Jb8 c q.name /\ Jal c (Jb8 c q.name) = q.kind := by
 obtain ⟨i, hi, e⟩ := List.getElem_of_mem hq
 have e2 : c.parts[i]? = some q := by rw [List.getElem?_eq_getElem hi, e]
 rw [Jht h e2]
 exact ⟨by omega, by rw [Jal, Int.toNat_natCast, e2]; rfl⟩
theorem Kc0 {c : Circuit} (h : Jad c = 0) {s : Txt} : 0 <= swAt c s ↔ ∃ q ∈ c.parts, q.name = s /\ q.kind = 6 := by
 unfold swAt swK
 constructor
 . intro h1
   split at h1
   . omega
   . rename_i h2
     obtain ⟨q, a, b, e⟩ := Kau h1
     refine ⟨q, a, b, ?_⟩
     rw [<- e]
     exact Decidable.byContradiction fun h3 => h2 ⟨h1, h3⟩
 . rintro ⟨q, a, rfl, e⟩
   obtain ⟨h1, h2⟩ := Kav h a
   rw [if_neg (by rw [h2, e]; simp)]
   exact h1
theorem J8p {c : Circuit} (h : Jad c = 0) {p q : Part} (hp : p ∈ c.parts) (hq : q ∈ c.parts) (e : p.name = q.name) : p = q := by
 have a := Jir (Jq5 h) hp
 have b := Jir (Jq5 h) hq
 rw [e] at a
 rw [<- a, b]
theorem J8o {c : Circuit} {i : Nat} {q : Part} (e : c.parts[i]? = some q) : nameAt c (i : Int) = q.name := by unfold nameAt; rw [Int.toNat_natCast, e]
theorem Kbh {c : Circuit} {p : Port} (hp : p ∈ allP c) : ∃ (i : Nat) (q : Part), p.part = i /\ c.parts[i]? = some q /\ p.name ∈ Jbm q := by
 obtain ⟨q, e, h0, hm⟩ := Jf5.1 (Jfy.1 hp)
 exact ⟨p.part.toNat, q, by omega, e, hm⟩
theorem Kbg {c : Circuit} {i : Nat} {q : Part} (e : c.parts[i]? = some q) {s : Txt} (hs : s ∈ Jbm q) : (⟨(i : Int), s⟩ : Port) ∈ allP c := Jfy.2 (Jf5.2 ⟨q, by simpa using e, by simp, hs⟩)
end Go.Am
namespace Go.Am
open Go Go.Proofs Go.Pn
theorem Joj {α : Type} {l : List α} (h : ∀ b, l ≠ [b]) : l = [] \/ ∃ x y t, l = x :: y :: t := by
 match l, h with
 | [], _ => exact .inl rfl
 | [b], h => exact absurd rfl (h b)
 | x :: y :: t, _ => exact .inr ⟨x, y, t, rfl⟩
section
variable {c d : Circuit} {g : Int -> Int}
theorem Ka2 {α : Type} {l : List α} {a : α} (h : l.Perm [a]) : l = [a] := List.perm_singleton.1 h
end
end Go.Am
