/- Lemmas and contracts for the proof of a statement of this seat. -/
import Derived.Test.YtmfjjncfdpejiaaGreatDoorZCP
import Derived.Test.YtmfjjncfdpejiaaGreatDoorZE3
import Derived.Lib.FieldsP
import Derived.Lib.TrimUEq
import Derived.Test.YtmfjjncfdpejiaaGreatDoorZF1
import Derived.Test.YtmfjjncfdpejiaaGreatDoorZCA
import Derived.Test.YtmfjjncfdpejiaaGreatDoorZC6
import Derived.Test.YtmfjjncfdpejiaaGreatDoorZCQ
set_option linter.unusedVariables false
set_option linter.unusedSimpArgs false
namespace Go.Am
open Go Go.Proofs Go.Pn
structure STO {α : Type} (lt : α -> α -> Bool) : Prop where
 irrefl : ∀ a, lt a a = false
 trans : ∀ {a b c}, lt a b = true -> lt b c = true -> lt a c = true
 total : ∀ {a b}, lt a b = false -> lt b a = false -> a = b
theorem STO.asymm {α : Type} {lt : α -> α -> Bool} (h : STO lt) {a b : α} (k : lt a b = true) : lt b a = false := by
 cases e : lt b a with
 | false => rfl
 | true => have := h.trans k e; rw [h.irrefl] at this; cases this
def insB {α : Type} (lt : α -> α -> Bool) (x : α) : List α -> List α
 | [] => [x]
 | y :: ys => if lt y x then y :: insB lt x ys else x :: y :: ys
def Jar {α : Type} (lt : α -> α -> Bool) (l : List α) : List α := l.foldr (insB lt) []
def AscB {α : Type} (lt : α -> α -> Bool) (l : List α) : Prop := l.Pairwise fun a b => lt b a = false
section
variable {α : Type} {lt : α -> α -> Bool}
theorem Jpe {x : α} : ∀ {l : List α}, (insB lt x l).Perm (x :: l)
 | [] => List.Perm.refl _
 | y :: ys => by
   unfold insB
   split
   . exact (List.Perm.cons y Jpe).trans (List.Perm.swap x y ys)
   . exact List.Perm.refl _
theorem Jfh : ∀ {l : List α}, (Jar lt l).Perm l
 | [] => List.Perm.refl _
 | x :: l => by
   show (insB lt x (Jar lt l)).Perm (x :: l)
   exact Jpe.trans (List.Perm.cons x Jfh)
theorem Je4 {l : List α} : (Jar lt l).length = l.length := Jfh.length_eq
theorem Jid {l : List α} {x : α} : x ∈ Jar lt l ↔ x ∈ l := Jfh.mem_iff
theorem Ju0 (h : STO lt) {x : α} : ∀ {l : List α}, AscB lt l -> AscB lt (insB lt x l)
 | [], _ => List.pairwise_singleton _ _
 | y :: ys, hl => by
   have hy := List.pairwise_cons.1 hl
   unfold insB
   cases e : lt y x with
   | true =>
     simp only [if_true]
     refine List.pairwise_cons.2 ⟨fun z hz => ?_, Ju0 h hy.2⟩
     rcases List.mem_cons.1 (Jpe.mem_iff.1 hz) with rfl | hz
     . exact h.asymm e
     . exact hy.1 z hz
   | false =>
     simp only [Bool.false_eq_true, if_false]
     refine List.pairwise_cons.2 ⟨fun z hz => ?_, hl⟩
     rcases List.mem_cons.1 hz with rfl | hz
     . exact e
     . have h1 := hy.1 z hz
       cases e2 : lt z x with
       | false => rfl
       | true =>
         cases e3 : lt x y with
         | true => rw [h.trans e2 e3] at h1; cases h1
         | false =>
           have := h.total e e3
           subst this
           rw [e2] at h1; cases h1
theorem Jic (h : STO lt) : ∀ {l : List α}, AscB lt (Jar lt l)
 | [] => List.Pairwise.nil
 | _ :: _ => Ju0 h (Jic h)
theorem Jsf (h : STO lt) : ∀ {l m : List α}, AscB lt l -> AscB lt m -> l.Perm m -> l = m
 | [], m, _, _, p => (List.Perm.nil_eq p)
 | x :: l, [], _, _, p => absurd (p.length_eq) (by simp)
 | x :: l, y :: m, hl, hm, p => by
   have hx := List.pairwise_cons.1 hl
   have hy := List.pairwise_cons.1 hm
   have e : x = y := by
     have h1 : x ∈ y :: m := p.mem_iff.1 (by simp)
     have h2 : y ∈ x :: l := p.mem_iff.2 (by simp)
     rcases List.mem_cons.1 h1 with h1 | h1
     . exact h1
     . rcases List.mem_cons.1 h2 with h2 | h2
       . exact h2.symm
       . exact h.total (hy.1 x h1) (hx.1 y h2)
   subst e
   rw [Jsf h hx.2 hy.2 ((List.perm_cons x).1 p)]
theorem Jmb (h : STO lt) {l m : List α} (hm : AscB lt m) (p : m.Perm l) : m = Jar lt l := Jsf h hm (Jic h) (p.trans Jfh.symm)
theorem Jma (h : STO lt) {l m : List α} (p : l.Perm m) : Jar lt l = Jar lt m := Jmb h (Jic h) (Jfh.trans p)
theorem Ju6 (h : STO lt) {l : List α} : (l.mergeSort fun x y => !lt y x) = Jar lt l := by
 refine Jmb h ?_ (List.mergeSort_perm _ _)
 have := List.pairwise_mergeSort (le := fun x y => !lt y x) (fun a b c h1 h2 => ?_) (fun a b => ?_) l
 . exact this.imp fun h1 => by simpa using h1
 . simp only [Bool.not_eq_true'] at h1 h2 ⊢
   cases e : lt c a with
   | false => rfl
   | true =>
     cases e2 : lt a b with
     | true => rw [h.trans e e2] at h2; cases h2
     | false =>
       have := h.total e2 h1
       subst this
       rw [e] at h2; cases h2
 . simp only [Bool.or_eq_true, Bool.not_eq_true']
   cases e : lt a b with
   | true => exact .inl (h.asymm e)
   | false => exact .inr rfl
theorem Ju1 {β : Type} {lt' : β -> β -> Bool} {f : α -> β} {x : α} : ∀ {l : List α}, (∀ y ∈ l, lt' (f y) (f x) = lt y x) -> (insB lt x l).map f = insB lt' (f x) (l.map f)
 | [], _ => rfl
 | y :: ys, h => by
   simp only [insB, List.map_cons, h y (by simp)]
   have ih := Ju1 (l := ys) (fun z hz => h z (List.mem_cons_of_mem _ hz))
   split
   . simp only [List.map_cons, ih]
   . rfl
theorem Jpf {β : Type} {lt' : β -> β -> Bool} {f : α -> β} : ∀ {l : List α}, (∀ x ∈ l, ∀ y ∈ l, lt' (f y) (f x) = lt y x) -> (Jar lt l).map f = Jar lt' (l.map f)
 | [], _ => rfl
 | x :: l, h => by
   show (insB lt x (Jar lt l)).map f = insB lt' (f x) (Jar lt' (l.map f))
   rw [Ju1 (fun y hy => h x (by simp) y (by simp [Jid.1 hy])), Jpf (fun a ha b hb => h a (by simp [ha]) b (by simp [hb]))]
theorem Ju5 (h : STO lt) {l : List α} (hl : AscB lt l) : Jar lt l = l := (Jmb h hl (List.Perm.refl _)).symm
def Jb6 (lt : α -> α -> Bool) (l : List α) : Nat -> Nat
 | 0 => 0
 | k + 1 => match l[k]?, l[Jb6 lt l k]? with
   | some x, some y => if lt x y then k else Jb6 lt l k
   | _, _ => Jb6 lt l k
theorem Jvi {l : List α} {k : Nat} {x y : α} (h1 : l[k]? = some x) (h2 : l[Jb6 lt l k]? = some y) : Jb6 lt l (k + 1) = if lt x y then k else Jb6 lt l k := by
 simp only [Jb6, h1, h2]
theorem Jvh (h : STO lt) {l : List α} : Jb6 lt l 1 = 0 := by
 unfold Jb6
 split
 . split
   . rfl
   . rfl
 . rfl
theorem Jpn (h : STO lt) {l : List α} : ∀ {k : Nat}, 1 <= k -> k <= l.length -> Jb6 lt l k < k
 | 1, _, _ => by rw [Jvh h]; omega
 | k + 2, _, hk => by
   have ih := Jpn h (l := l) (k := k + 1) (by omega) (by omega)
   obtain ⟨x, ex⟩ := Jag (xs := l) (k := k + 1) (by omega)
   obtain ⟨y, ey⟩ := Jag (xs := l) (k := Jb6 lt l (k + 1)) (by omega)
   rw [Jvi ex ey]
   split <;> omega
theorem Jvf (h : STO lt) {l : List α} : ∀ {k : Nat}, 1 <= k -> k <= l.length -> ∀ y, l[Jb6 lt l k]? = some y -> ∀ (j : Nat) x, j < k -> l[j]? = some x -> lt x y = false
 | 1, _, _, y, hy, j, x, hj, hx => by
   have e : j = 0 := by omega
   subst e
   rw [Jvh h, hx] at hy
   cases hy
   exact h.irrefl _
 | k + 2, _, hk, y, hy, j, x, hj, hx => by
   have h1 := Jpn h (l := l) (k := k + 1) (by omega) (by omega)
   obtain ⟨a, ea⟩ := Jag (xs := l) (k := k + 1) (by omega)
   obtain ⟨b, eb⟩ := Jag (xs := l) (k := Jb6 lt l (k + 1)) (by omega)
   have ih := Jvf h (l := l) (k := k + 1) (by omega) (by omega) b eb
   rw [Jvi ea eb] at hy
   by_cases e : j = k + 1
   . subst e
     rw [ea] at hx; cases hx
     split at hy
     . rw [ea] at hy; cases hy; exact h.irrefl _
     . rename_i hn
       rw [eb] at hy; cases hy
       simpa using hn
   . have h2 := ih j x (by omega) hx
     split at hy
     . rename_i hlt
       rw [ea] at hy
       have hya : a = y := by simpa using hy
       subst hya
       cases e2 : lt x a with
       | false => rfl
       | true => rw [h.trans e2 hlt] at h2; cases h2
     . rw [eb] at hy; cases hy
       exact h2
def selN (lt : α -> α -> Bool) : Nat -> List α -> List α
 | 0, _ => []
 | n + 1, l => match l[Jb6 lt l l.length]? with
   | some x => x :: selN lt n (l.take (Jb6 lt l l.length) ++ l.drop (Jb6 lt l l.length + 1))
   | none => []
def selS (lt : α -> α -> Bool) (l : List α) : List α := selN lt l.length l
theorem Jng {l : List α} {i : Nat} {x : α} (e : l[i]? = some x) : (x :: (l.take i ++ l.drop (i + 1))).Perm l := by
 obtain ⟨hi, hx⟩ := gsI.1 e
 have : l = l.take i ++ x :: l.drop (i + 1) := by rw [<- hx, <- List.drop_eq_getElem_cons hi, List.take_append_drop]
 conv => rhs; rw [this]
 exact List.perm_middle.symm
theorem Jqx (h : STO lt) : ∀ {n : Nat} {l : List α}, l.length = n -> (selN lt n l).Perm l /\ AscB lt (selN lt n l)
 | 0, l, e => by
   have : l = [] := List.length_eq_zero_iff.1 e
   subst this
   exact ⟨List.Perm.refl _, List.Pairwise.nil⟩
 | n + 1, l, e => by
   have h1 := Jpn h (l := l) (k := l.length) (by omega) (Nat.le_refl _)
   obtain ⟨x, ex⟩ := Jag h1
   have hst := Jng ex
   have hl2 : (l.take (Jb6 lt l l.length) ++ l.drop (Jb6 lt l l.length + 1)).length = n := by
     have := hst.length_eq
     simp only [List.length_cons] at this
     omega
   obtain ⟨p, a⟩ := Jqx h hl2
   simp only [selN, ex]
   refine ⟨(List.Perm.cons x p).trans hst, List.pairwise_cons.2 ⟨fun z hz => ?_, a⟩⟩
   have hz2 : z ∈ l := hst.mem_iff.1 (List.mem_cons_of_mem _ (p.mem_iff.1 hz))
   obtain ⟨j, hj⟩ := List.getElem?_of_mem hz2
   exact Jvf h (by omega) (Nat.le_refl _) x ex j z (gsI.1 hj).1 hj
theorem Jx3 (h : STO lt) {l : List α} : selS lt l = Jar lt l := Jmb h (Jqx h rfl).2 (Jqx h rfl).1
theorem Jvg {β : Type} {lt' : β -> β -> Bool} {f : α -> β} {l : List α} (hf : ∀ x ∈ l, ∀ y ∈ l, lt' (f y) (f x) = lt y x) : ∀ {k : Nat}, Jb6 lt' (l.map f) k = Jb6 lt l k
 | 0 => rfl
 | k + 1 => by
   simp only [Jb6, Jvg hf (k := k), List.getElem?_map]
   cases e1 : l[k]? with
   | none => rfl
   | some x =>
     cases e2 : l[Jb6 lt l k]? with
     | none => rfl
     | some y => simp only [Option.map_some, hf y (List.mem_of_getElem? e2) x (List.mem_of_getElem? e1)]
theorem Jx2 {β : Type} {lt' : β -> β -> Bool} {f : α -> β} : ∀ {n : Nat} {l : List α}, (∀ x ∈ l, ∀ y ∈ l, lt' (f y) (f x) = lt y x) -> (selN lt n l).map f = selN lt' n (l.map f)
 | 0, _, _ => rfl
 | n + 1, l, hf => by
   simp only [selN, Jvg hf, List.length_map, List.getElem?_map]
   cases e : l[Jb6 lt l l.length]? with
   | none => rfl
   | some x =>
     simp only [Option.map_some, List.map_cons, List.cons.injEq, true_and]
     rw [Jx2 (fun a ha b hb => hf a ?_ b ?_)]
     . simp [List.map_take, List.map_drop]
     . exact (Jng e).mem_iff.1 (List.mem_cons_of_mem _ ha)
     . exact (Jng e).mem_iff.1 (List.mem_cons_of_mem _ hb)
end
theorem Jhi : STO Op.bytesLess := ⟨Je0, fun h k => Jhy h k, fun h k => Jgj h k⟩
theorem Jyq : STO Jby := ⟨Jp5, fun h k => Jp6 h k, fun h k => J8a h k⟩
structure End where
 part : Txt
 port : Txt
 deriving DecidableEq
@[simp] def End.enc (a : End) : List PV := [.str a.part, .str a.port]
@[simp] def End.row (a : End) : List AV := [.p (.str a.part), .p (.str a.port)]
@[simp] def End.av (a : End) : AV := .agg [.p (.str a.part), .p (.str a.port)]
def Jcg (a b : End) : Int := orI [Lib.compareBytes a.part b.part, Lib.compareBytes a.port b.port]
def Jco (a b : End) : Bool := if a.part = b.part then Op.bytesLess a.port b.port else Op.bytesLess a.part b.part
theorem Jlr {a b : End} : Jcg a b < 0 ↔ Jco a b = true := by
 unfold Jcg Jco
 simp only [orI]
 by_cases e : a.part = b.part
 . rw [if_pos (Jeb.2 e), if_pos e, <- Jlp]
   by_cases h0 : Lib.compareBytes a.port b.port = 0
   . rw [if_pos h0]; omega
   . rw [if_neg h0]
 . rw [if_neg (fun h => e (Jeb.1 h)), if_neg e, Jlp]
theorem Jlq {a b : End} : Jcg a b = 0 ↔ a = b := by
 unfold Jcg
 simp only [orI]
 by_cases e : a.part = b.part
 . rw [if_pos (Jeb.2 e)]
   by_cases h0 : Lib.compareBytes a.port b.port = 0
   . rw [if_pos h0]
     have := Jeb.1 h0
     obtain ⟨x, y⟩ := a
     obtain ⟨u, v⟩ := b
     simp_all
   . rw [if_neg h0]
     constructor
     . intro h; exact absurd h h0
     . rintro rfl; exact absurd (Jeb.2 rfl) h0
 . rw [if_neg (fun h => e (Jeb.1 h))]
   constructor
   . intro h; exact absurd (Jeb.1 h) e
   . rintro rfl; exact absurd rfl e
theorem Jej : STO Jco := by
 refine ⟨fun a => by simp [Jco, Je0], fun {a b c} h k => ?_, fun {a b} h k => ?_⟩
 . unfold Jco at h k ⊢
   by_cases e1 : a.part = b.part <;> by_cases e2 : b.part = c.part
   . rw [if_pos e1] at h; rw [if_pos e2] at k; rw [if_pos (e1.trans e2)]; exact Jhy h k
   . rw [if_neg e2] at k; rw [if_neg (e1 ▸ e2), e1]; exact k
   . rw [if_neg e1] at h; rw [if_neg (e2 ▸ e1), <- e2]; exact h
   . rw [if_neg e1] at h; rw [if_neg e2] at k
     have := Jhy h k
     rw [if_neg (fun e => by rw [e, Je0] at this; cases this)]
     exact this
 . unfold Jco at h k
   by_cases e : a.part = b.part
   . rw [if_pos e] at h; rw [if_pos e.symm] at k
     obtain ⟨x, y⟩ := a
     obtain ⟨u, v⟩ := b
     simp only at e h k
     rw [e, Jgj h k]
   . rw [if_neg e] at h; rw [if_neg (Ne.symm e)] at k
     exact absurd (Jgj h k) e
theorem Jfw {a b : End} : 0 < Jcg a b ↔ Jco b a = true := by
 constructor
 . intro h
   cases e : Jco b a with
   | true => rfl
   | false =>
     cases e2 : Jco a b with
     | true => have := Jlr.2 e2; omega
     | false =>
       have := Jej.total e e2
       have := Jlq.2 this.symm
       omega
 . intro h
   have h1 : ¬ Jcg a b < 0 := fun h2 => by have := Jej.asymm h; rw [Jlr.1 h2] at this; cases this
   have h2 : Jcg a b ≠ 0 := fun h2 => by have := Jlq.1 h2; subst this; rw [Jej.irrefl] at h; cases h
   omega
abbrev EndP := End × End
@[simp] def EndP.enc (x : EndP) : List PV := [.str x.1.part, .str x.1.port, .str x.2.part, .str x.2.port]
@[simp] def EndP.row (x : EndP) : List AV := [.p (.str x.1.part), .p (.str x.1.port), .p (.str x.2.part), .p (.str x.2.port)]
@[simp] def EndP.av (x : EndP) : AV := .agg [.p (.str x.1.part), .p (.str x.1.port), .p (.str x.2.part), .p (.str x.2.port)]
def Je1 (a b : EndP) : Int := orI [Jcg a.1 b.1, Jcg a.2 b.2]
def Ja2 (a b : EndP) : Bool := if a.1 = b.1 then Jco a.2 b.2 else Jco a.1 b.1
theorem J28 {a b : EndP} : Je1 a b < 0 ↔ Ja2 a b = true := by
 unfold Je1 Ja2
 simp only [orI]
 by_cases e : a.1 = b.1
 . rw [if_pos (Jlq.2 e), if_pos e, <- Jlr]
   by_cases h0 : Jcg a.2 b.2 = 0
   . rw [if_pos h0]; omega
   . rw [if_neg h0]
 . rw [if_neg (fun h => e (Jlq.1 h)), if_neg e, Jlr]
theorem Jfl : STO Ja2 := by
 refine ⟨fun a => by simp [Ja2, Jej.irrefl], fun {a b c} h k => ?_, fun {a b} h k => ?_⟩
 . unfold Ja2 at h k ⊢
   by_cases e1 : a.1 = b.1 <;> by_cases e2 : b.1 = c.1
   . rw [if_pos e1] at h; rw [if_pos e2] at k; rw [if_pos (e1.trans e2)]; exact Jej.trans h k
   . rw [if_neg e2] at k; rw [if_neg (e1 ▸ e2), e1]; exact k
   . rw [if_neg e1] at h; rw [if_neg (e2 ▸ e1), <- e2]; exact h
   . rw [if_neg e1] at h; rw [if_neg e2] at k
     have := Jej.trans h k
     rw [if_neg (fun e => by rw [e, Jej.irrefl] at this; cases this)]
     exact this
 . unfold Ja2 at h k
   by_cases e : a.1 = b.1
   . rw [if_pos e] at h; rw [if_pos e.symm] at k
     exact Prod.ext e (Jej.total h k)
   . rw [if_neg e] at h; rw [if_neg (Ne.symm e)] at k
     exact absurd (Jej.total h k) e
def ordE (a b : End) : EndP := if 0 < Jcg a b then (b, a) else (a, b)
theorem J7x {a b : End} : ordE a b = ordE b a := by
 unfold ordE
 by_cases h : 0 < Jcg a b
 . have h2 : ¬ 0 < Jcg b a := fun h2 => by
     have := Jej.asymm (Jfw.1 h); rw [Jfw.1 h2] at this; cases this
   rw [if_pos h, if_neg h2]
 . by_cases h2 : 0 < Jcg b a
   . rw [if_neg h, if_pos h2]
   . rw [if_neg h, if_neg h2]
     have e : a = b := by
       refine Jej.total ?_ ?_
       . cases e : Jco a b with
         | false => rfl
         | true => exact absurd (Jfw.2 e) h2
       . cases e : Jco b a with
         | false => rfl
         | true => exact absurd (Jfw.2 e) h
     rw [e]
theorem Jin {a b c d : End} : ordE a b = ordE c d ↔ (a = c /\ b = d) \/ (a = d /\ b = c) := by
 constructor
 . intro h
   unfold ordE at h
   split at h <;> split at h <;> simp only [Prod.mk.injEq] at h
   . exact .inl ⟨h.2, h.1⟩
   . exact .inr ⟨h.2, h.1⟩
   . exact .inr ⟨h.1, h.2⟩
   . exact .inl h
 . rintro (⟨rfl, rfl⟩ | ⟨rfl, rfl⟩)
   . rfl
   . exact J7x
structure Drf where
 parts : List Part
 pipes : List EndP
 deriving DecidableEq
def Jao (ps : List Part) : List Txt := Jar Op.bytesLess (ps.map (·.name))
def Jd4 (ps : List Part) (s : Txt) : Part := (ps.find? fun p => decide (p.name = s)).getD ⟨0, [], 0⟩
def atNm (nms : List Txt) (s : Txt) : Int := match nms.findIdx? fun n => decide (n = s) with | some i => i | none => 0
def Jb7 (nms : List Txt) (x : EndP) : Pipe := ⟨⟨atNm nms x.1.part, x.1.port⟩, ⟨atNm nms x.2.part, x.2.port⟩⟩
def Jdo (d : Drf) : Circuit := ⟨(Jao d.parts).map (Jd4 d.parts), (Jar Ja2 d.pipes).map (Jb7 (Jao d.parts))⟩
def Je8 (p q : Part) : Bool := Op.bytesLess p.name q.name
def Jra (c : Circuit) (x : EndP) : Pipe :=
 let a : Port := ⟨idxI c.parts fun p => decide (p.name = x.1.part), x.1.port⟩
 let b : Port := ⟨idxI c.parts fun p => decide (p.name = x.2.part), x.2.port⟩
 if Jaz b a then ⟨b, a⟩ else ⟨a, b⟩
def Jan (d : Drf) : Circuit := ⟨selS Je8 d.parts, selS Jby (d.pipes.map (Jra ⟨selS Je8 d.parts, []⟩))⟩
structure DrfOk (d : Drf) : Prop where
 nd : (d.parts.map (·.name)).Nodup
 ends : ∀ x ∈ d.pipes, x.1.part ∈ d.parts.map (·.name) /\ x.2.part ∈ d.parts.map (·.name)
theorem Jed {ps : List Part} (h : (ps.map (·.name)).Nodup) {p : Part} (hp : p ∈ ps) : Jd4 ps p.name = p := by
 unfold Jd4
 have : ps.find? (fun q => decide (q.name = p.name)) = some p := by
   induction ps with
   | nil => cases hp
   | cons q ps ih =>
     rw [List.map_cons, List.nodup_cons] at h
     rcases List.mem_cons.1 hp with rfl | hp
     . simp
     . have hne : q.name ≠ p.name := fun e => h.1 (e ▸ List.mem_map_of_mem hp)
       rw [List.find?_cons_of_neg (by simpa using hne)]
       exact ih h.2 hp
 rw [this]; rfl
theorem Jkl {ps : List Part} : (selS Je8 ps).map (·.name) = Jao ps := by
 unfold selS Jao
 rw [Jx2 (lt := Je8) (lt' := Op.bytesLess) (f := fun p : Part => p.name) (fun x _ y _ => rfl), <- Jx3 Jhi]
 unfold selS
 rw [List.length_map]
theorem Jvu {α : Type} {lt : α -> α -> Bool} : ∀ {n : Nat} {l : List α} {x : α}, x ∈ selN lt n l -> x ∈ l
 | 0, _, _, h => by cases h
 | n + 1, l, x, h => by
   simp only [selN] at h
   split at h
   . rename_i y e
     rcases List.mem_cons.1 h with rfl | h
     . exact List.mem_of_getElem? e
     . exact (Jng e).mem_iff.1 (List.mem_cons_of_mem _ (Jvu h))
   . cases h
theorem Jqy {ps : List Part} (h : (ps.map (·.name)).Nodup) : selS Je8 ps = (Jao ps).map (Jd4 ps) := by
 rw [<- Jkl, List.map_map]
 conv => lhs; rw [<- List.map_id (selS Je8 ps)]
 refine List.map_congr_left fun p hp => ?_
 exact (Jed h (Jvu hp)).symm
theorem Jhd {ps : List Part} {s : Txt} : s ∈ Jao ps ↔ s ∈ ps.map (·.name) := Jid
theorem Jml {ps : List Part} (h : (ps.map (·.name)).Nodup) : (Jao ps).Nodup := Jfh.nodup_iff.2 h
theorem Juz {ps : List Part} (h : (ps.map (·.name)).Nodup) {s : Txt} (hs : s ∈ ps.map (·.name)) : idxI (selS Je8 ps) (fun p => decide (p.name = s)) = atNm (Jao ps) s := by
 rw [<- Jkl]
 unfold idxI atNm
 rw [List.findIdx?_map]
 have e : ((fun n => decide (n = s)) ∘ fun p : Part => p.name) = fun p : Part => decide (p.name = s) := rfl
 rw [e]
 have hm : s ∈ (selS Je8 ps).map (·.name) := by rw [Jkl]; exact Jhd.2 hs
 cases e2 : (selS Je8 ps).findIdx? fun p => decide (p.name = s) with
 | some i => rfl
 | none =>
   rw [List.findIdx?_eq_none_iff] at e2
   obtain ⟨p, hp, rfl⟩ := List.mem_map.1 hm
   have := e2 p hp
   simp at this
theorem Jg6 {nms : List Txt} (hn : nms.Nodup) {i : Nat} {s : Txt} (e : nms[i]? = some s) : atNm nms s = i := by
 have hi := (gsI.1 e).1
 have : nms.findIdx? (fun n => decide (n = s)) = some i := by
   rw [List.findIdx?_eq_some_iff_getElem]
   refine ⟨hi, by rw [(gsI.1 e).2]; simp, fun j hj => ?_⟩
   have h1 := List.pairwise_iff_getElem.1 hn j i (by omega) hi hj
   rw [(gsI.1 e).2] at h1
   simpa using h1
 unfold atNm; rw [this]
theorem Jsk {ps : List Part} (h : (ps.map (·.name)).Nodup) {s t : Txt} (hs : s ∈ ps.map (·.name)) (ht : t ∈ ps.map (·.name)) : (atNm (Jao ps) s < atNm (Jao ps) t ↔ Op.bytesLess s t = true) /\ (atNm (Jao ps) s = atNm (Jao ps) t ↔ s = t) := by
 obtain ⟨i, ei⟩ := List.getElem?_of_mem (Jhd.2 hs)
 obtain ⟨j, ej⟩ := List.getElem?_of_mem (Jhd.2 ht)
 have hn := Jml h
 rw [Jg6 hn ei, Jg6 hn ej]
 obtain ⟨hi, ei'⟩ := gsI.1 ei
 obtain ⟨hj, ej'⟩ := gsI.1 ej
 have hasc : AscB Op.bytesLess (Jao ps) := Jic Jhi
 have hp := List.pairwise_iff_getElem.1 hasc
 have hinj : i = j ↔ s = t := by
   constructor
   . rintro rfl; rw [ei] at ej; cases ej; rfl
   . rintro rfl
     have h1 := Jg6 hn ei
     rw [Jg6 hn ej] at h1
     omega
 constructor
 . constructor
   . intro hlt
     have h1 := hp i j hi hj (by omega)
     rw [ei', ej'] at h1
     cases e : Op.bytesLess s t with
     | true => rfl
     | false => have := hinj.2 (Jgj e h1); omega
   . intro hb
     rcases Nat.lt_trichotomy i j with h1 | h1 | h1
     . omega
     . have := hinj.1 h1; subst this; rw [Je0] at hb; cases hb
     . have h2 := hp j i hj hi h1
       rw [ei', ej', hb] at h2; cases h2
 . rw [<- hinj]; omega
theorem Jj9 {ps : List Part} (h : (ps.map (·.name)).Nodup) {a b : End} (ha : a.part ∈ ps.map (·.name)) (hb : b.part ∈ ps.map (·.name)) : Jaz ⟨atNm (Jao ps) a.part, a.port⟩ ⟨atNm (Jao ps) b.part, b.port⟩ = Jco a b := by
 obtain ⟨h1, h2⟩ := Jsk h ha hb
 unfold Jaz Jco
 simp only [h2]
 split
 . rfl
 . rw [Bool.eq_iff_iff, decide_eq_true_eq]; exact h1
theorem Jp7 {ps : List Part} (h : (ps.map (·.name)).Nodup) {x y : EndP} (hx : x.1.part ∈ ps.map (·.name) /\ x.2.part ∈ ps.map (·.name)) (hy : y.1.part ∈ ps.map (·.name) /\ y.2.part ∈ ps.map (·.name)) : Jby (Jb7 (Jao ps) x) (Jb7 (Jao ps) y) = Ja2 x y := by
 have e : (Jb7 (Jao ps) x).fr = (Jb7 (Jao ps) y).fr ↔ x.1 = y.1 := by
   obtain ⟨⟨a, b⟩, _⟩ := x
   obtain ⟨⟨c, d⟩, _⟩ := y
   simp only [Jb7, Port.mk.injEq, End.mk.injEq, (Jsk h hx.1 hy.1).2]
 unfold Jby Ja2
 simp only [e]
 split
 . exact Jj9 h hx.2 hy.2
 . exact Jj9 h hx.1 hy.1
theorem J92 {ps : List Part} (h : (ps.map (·.name)).Nodup) {x : EndP} (hx : x.1.part ∈ ps.map (·.name) /\ x.2.part ∈ ps.map (·.name)) : Jra ⟨selS Je8 ps, []⟩ x = Jb7 (Jao ps) (ordE x.1 x.2) := by
 unfold Jra
 simp only [Juz h hx.1, Juz h hx.2, Jj9 h hx.2 hx.1]
 unfold ordE
 by_cases e : Jco x.2 x.1 = true
 . rw [if_pos e, if_pos (Jfw.2 e)]; rfl
 . rw [if_neg e, if_neg (fun h => e (Jfw.1 h))]; rfl
theorem Jmt {ps : List Part} {x : EndP} (hx : x.1.part ∈ ps.map (·.name) /\ x.2.part ∈ ps.map (·.name)) : (ordE x.1 x.2).1.part ∈ ps.map (·.name) /\ (ordE x.1 x.2).2.part ∈ ps.map (·.name) := by
 unfold ordE
 split
 . exact ⟨hx.2, hx.1⟩
 . exact hx
theorem Jfx {d : Drf} (h : DrfOk d) : Jdo ⟨d.parts, d.pipes.map fun x => ordE x.1 x.2⟩ = Jan d := by
 unfold Jdo Jan
 rw [Jqy h.nd, Jx3 Jyq]
 congr 1
 rw [Jpf (lt' := Jby) (f := Jb7 (Jao d.parts)), List.map_map]
 . congr 1
   refine List.map_congr_left fun x hx => ?_
   rw [<- Jqy h.nd, J92 h.nd (h.ends x hx)]; rfl
 . intro x hx y hy
   obtain ⟨x', hx', rfl⟩ := List.mem_map.1 hx
   obtain ⟨y', hy', rfl⟩ := List.mem_map.1 hy
   exact Jp7 h.nd (Jmt (h.ends y' hy')) (Jmt (h.ends x' hx'))
end Go.Am
namespace Go.Am
open Go Go.Proofs Go.Pn
def fldG : Txt -> Txt -> List Txt
 | cur, [] => if cur = [] then [] else [cur]
 | cur, b :: t => if b = 32 then (if cur = [] then fldG [] t else cur :: fldG [] t) else fldG (cur ++ [b]) t
theorem Juh {s : Txt} : ∀ {k : Nat}, k <= s.length -> (fldK s k).1 ++ fldG (fldK s k).2 (s.drop k) = fldG [] s
 | 0, _ => by simp [fldK]
 | k + 1, h => by
   have ih := Juh (s := s) (k := k) (by omega)
   rw [<- ih]
   have hk : k < s.length := by omega
   obtain ⟨b, e⟩ := Jag hk
   have hd : s.drop k = b :: s.drop (k + 1) := by rw [List.drop_eq_getElem_cons hk]; rw [List.getElem?_eq_getElem hk] at e; cases e; rfl
   rw [hd]
   simp only [fldK, e, fldG]
   by_cases hb : b = 32
   . rw [if_neg (by simpa using hb), if_pos hb]
     by_cases hc : (fldK s k).2 = []
     . simp [hc]
     . simp [hc]
   . rw [if_pos hb, if_neg hb]
theorem Jo7 {s : Txt} : fldR s = fldG [] s := by
 have h := Juh (s := s) (k := s.length) (Nat.le_refl _)
 rw [List.drop_length] at h
 rw [<- h]
 unfold fldR
 have hn : s[s.length]? = none := by simp
 simp only [fldK, hn, fldG]
 split <;> simp
theorem Jug : ∀ {u : Txt} {cur t : Txt}, (∀ b ∈ u, b ≠ 32) -> fldG cur (u ++ t) = fldG (cur ++ u) t
 | [], cur, t, _ => by simp
 | b :: u, cur, t, h => by
   have hb := h b (by simp)
   rw [List.cons_append, fldG, if_neg hb, Jug (fun x hx => h x (by simp [hx]))]
   simp
theorem J3g (n b0 b1 b2 b3 : Nat) : ((Lib.decodeN n b0 b1 b2 b3).1 = 32 -> b0 = 32 /\ (Lib.decodeN n b0 b1 b2 b3).2 = 1) /\
   ((Lib.decodeN n b0 b1 b2 b3).1 ≠ 32 -> b0 ≠ 32 /\ (1 < (Lib.decodeN n b0 b1 b2 b3).2 -> b1 ≠ 32) /\ (2 < (Lib.decodeN n b0 b1 b2 b3).2 -> b2 ≠ 32) /\ (3 < (Lib.decodeN n b0 b1 b2 b3).2 -> b3 ≠ 32) /\ (Lib.decodeN n b0 b1 b2 b3).2 <= 4) := by
 unfold Lib.decodeN
 repeat' split
 all_goals (refine ⟨fun h => ⟨?_, ?_⟩, fun h => ⟨?_, fun h2 => ?_, fun h2 => ?_, fun h2 => ?_, ?_⟩⟩ <;> dsimp only at * <;> omega)
theorem J3h {s : Txt} {pos : Nat} (h : pos < s.length) : ((Utf8.decode ⟨⟨s⟩⟩ pos).1 = 32 -> s[pos]? = some 32 /\ (Utf8.decode ⟨⟨s⟩⟩ pos).2 = 1) /\ ((Utf8.decode ⟨⟨s⟩⟩ pos).1 ≠ 32 -> ∀ b ∈ (s.drop pos).take (Utf8.decode ⟨⟨s⟩⟩ pos).2, b ≠ 32) := by
 have e := Lib.decode_N ⟨⟨s⟩⟩ pos
 have hf := J3g (s.length - pos) (s.getD pos 0).toNat (s.getD (pos + 1) 0).toNat (s.getD (pos + 2) 0).toNat (s.getD (pos + 3) 0).toNat
 have e2 : (⟨⟨s⟩⟩ : ByteArray).data.toList = s := rfl
 rw [e2] at e
 rw [<- e] at hf
 obtain ⟨f1, f2⟩ := hf
 have hget : ∀ j b, s[pos + j]? = some b -> s.getD (pos + j) 0 = b := fun j b hj => by rw [List.getD_eq_getElem?_getD, hj]; rfl
 refine ⟨fun h1 => ?_, fun h1 b hb => ?_⟩
 . obtain ⟨g1, g2⟩ := f1 h1
   obtain ⟨b, eb⟩ := Jag h
   have := hget 0 b (by simpa using eb)
   simp only [Nat.add_zero] at this
   rw [this] at g1
   have hb : b = 32 := UInt8.toNat_inj.1 (by simpa using g1)
   exact ⟨by rw [eb, hb], g2⟩
 . obtain ⟨g0, g1, g2, g3, g4⟩ := f2 h1
   obtain ⟨j, hj⟩ := List.getElem?_of_mem hb
   have hjw : j < (Utf8.decode ⟨⟨s⟩⟩ pos).2 := by
     have := (gsI.1 hj).1
     rw [List.length_take] at this; omega
   rw [List.getElem?_take_of_lt hjw, List.getElem?_drop] at hj
   rintro rfl
   have hv := hget j 32 hj
   rcases (by omega : j = 0 \/ j = 1 \/ j = 2 \/ j = 3) with rfl | rfl | rfl | rfl
   . rw [Nat.add_zero] at hv; rw [hv] at g0; exact g0 rfl
   . rw [hv] at g1; exact g1 (by omega) rfl
   . rw [hv] at g2; exact g2 (by omega) rfl
   . rw [hv] at g3; exact g3 (by omega) rfl
theorem J9m (s : Txt) : ∀ (f pos : Nat) (st : Option Nat) (acc : List (Nat × Nat)), s.length <= pos + f -> pos <= s.length -> (∀ a, st = some a -> a < pos) ->
   acc.map (fun p => Lib.pieceU s p.1 p.2) ++ fldG (Lib.openPiece s st pos) (s.drop pos) = (Lib.closeSpans ⟨⟨s⟩⟩ (Lib.spansFromP (fun x => x == 32) ⟨⟨s⟩⟩ f pos st acc)).map (fun p => Lib.pieceU s p.1 p.2) := by
 have hsz : (⟨⟨s⟩⟩ : ByteArray).size = s.length := rfl
 have hend : ∀ (f : Nat) (st : Option Nat) (acc : List (Nat × Nat)), (∀ a, st = some a -> a < s.length) ->
     acc.map (fun p => Lib.pieceU s p.1 p.2) ++ fldG (Lib.openPiece s st s.length) (s.drop s.length) = (Lib.closeSpans ⟨⟨s⟩⟩ (Lib.spansFromP (fun x => x == 32) ⟨⟨s⟩⟩ f s.length st acc)).map (fun p => Lib.pieceU s p.1 p.2) := fun f st acc hst => by
   rw [Lib.spansFromP_end _ _ _ _ _ _ (by rw [hsz]; omega), List.drop_length]
   cases st with
   | none => simp [Lib.closeSpans, Lib.openPiece, fldG]
   | some a =>
     have := Lib.pieceU_ne s a s.length (hst a rfl) (Nat.le_refl _)
     simp [Lib.closeSpans, Lib.openPiece, fldG, this, hsz]
 intro f
 induction f with
 | zero =>
   intro pos st acc h hp hst
   obtain rfl : pos = s.length := by omega
   exact hend 0 st acc hst
 | succ f ih =>
   intro pos st acc h hp hst
   by_cases hlt : pos < s.length
   . have hw := Lib.width_pos ⟨⟨s⟩⟩ pos
     have hwn : pos + (Utf8.decode ⟨⟨s⟩⟩ pos).2 <= s.length := by
       have := Lib.decodeN_le_n' ((⟨⟨s⟩⟩ : ByteArray).size - pos) ((⟨⟨s⟩⟩ : ByteArray).get! pos).toNat ((⟨⟨s⟩⟩ : ByteArray).get! (pos + 1)).toNat ((⟨⟨s⟩⟩ : ByteArray).get! (pos + 2)).toNat ((⟨⟨s⟩⟩ : ByteArray).get! (pos + 3)).toNat (by rw [hsz]; omega)
       rw [<- Lib.decode_at, hsz] at this
       omega
     obtain ⟨c1, c2⟩ := J3h hlt
     have hsp : s.drop pos = (s.drop pos).take (Utf8.decode ⟨⟨s⟩⟩ pos).2 ++ s.drop (pos + (Utf8.decode ⟨⟨s⟩⟩ pos).2) := by rw [<- List.drop_drop, List.take_append_drop]
     simp only [Lib.spansFromP, hsz, if_pos hlt]
     by_cases hb : (Utf8.decode ⟨⟨s⟩⟩ pos).1 = 32
     . obtain ⟨d1, d2⟩ := c1 hb
       have hd : s.drop pos = 32 :: s.drop (pos + 1) := by rw [List.drop_eq_getElem_cons hlt]; rw [List.getElem?_eq_getElem hlt, Option.some.injEq] at d1; rw [d1]
       simp only [hb, beq_self_eq_true, if_true, d2, hd, fldG]
       cases st with
       | none =>
         have := ih (pos + 1) none acc (by omega) (by omega) (fun a h => by cases h)
         simpa [Lib.openPiece] using this
       | some a =>
         have hpn := Lib.pieceU_ne s a pos (hst a rfl) (by omega)
         have := ih (pos + 1) none (acc ++ [(a, pos)]) (by omega) (by omega) (fun a h => by cases h)
         simpa [Lib.openPiece, hpn] using this
     . have hb2 : ((Utf8.decode ⟨⟨s⟩⟩ pos).1 == 32) = false := by simpa using hb
       rw [hsp, Jug (c2 hb)]
       simp only [hb2, Bool.false_eq_true, if_false]
       cases st with
       | none =>
         have := ih (pos + (Utf8.decode ⟨⟨s⟩⟩ pos).2) (some pos) acc (by omega) hwn (fun a h => by cases h; omega)
         have e : Lib.openPiece s none pos ++ (s.drop pos).take (Utf8.decode ⟨⟨s⟩⟩ pos).2 = Lib.openPiece s (some pos) (pos + (Utf8.decode ⟨⟨s⟩⟩ pos).2) := by
           simp only [Lib.openPiece]
           unfold Lib.pieceU
           rw [List.nil_append, Nat.add_sub_cancel_left]
         rw [e]; exact this
       | some a =>
         have := ih (pos + (Utf8.decode ⟨⟨s⟩⟩ pos).2) (some a) acc (by omega) hwn (fun b h => by cases h; have := hst a rfl; omega)
         have e : Lib.openPiece s (some a) pos ++ (s.drop pos).take (Utf8.decode ⟨⟨s⟩⟩ pos).2 = Lib.openPiece s (some a) (pos + (Utf8.decode ⟨⟨s⟩⟩ pos).2) := by
           simp only [Lib.openPiece]
           rw [Lib.pieceU_grow _ _ _ _ (Nat.le_of_lt (hst a rfl))]
         rw [e]; exact this
   . obtain rfl : pos = s.length := by omega
     exact hend (f + 1) st acc hst
theorem J4r (s : Txt) : (Lib.goFieldsP (fun x => x == 32) ⟨⟨s⟩⟩).map (fun x => x.data.toList) = fldR s := by
 have h := J9m s s.length 0 none [] (by omega) (by omega) (fun a h => by cases h)
 rw [Jo7]
 have e : fldG [] s = fldG (Lib.openPiece s none 0) (s.drop 0) := rfl
 rw [e]
 rw [List.map_nil, List.nil_append] at h
 rw [h]
 unfold Lib.goFieldsP Lib.spansOfP
 have hsz : (⟨⟨s⟩⟩ : ByteArray).size = s.length := rfl
 rw [List.map_map, hsz]
 refine List.map_congr_left fun p _ => ?_
 simp only [Function.comp, Lib.pieceU, Lib.extract_data]
def linS : Txt -> Txt -> List Txt × Txt
 | [], cur => ([], cur)
 | b :: t, cur => if b = 10 then (cur :: (linS t []).1, (linS t []).2) else linS t (cur ++ [b])
def Ja3 (s : Txt) : List Txt := (linS s []).1
theorem Jmf : ∀ {s cur : Txt}, (linS s cur).1.length <= s.length
 | [], cur => by simp [linS]
 | b :: t, cur => by
   unfold linS
   split
   . simp only [List.length_cons]
     have := @Jmf t []
     omega
   . have := @Jmf t (cur ++ [b])
     simp only [List.length_cons]
     omega
theorem Jmg : ∀ {s cur : Txt} {l : Txt}, l ∈ (linS s cur).1 -> l.length <= cur.length + s.length
 | [], cur, l, h => by simp [linS] at h
 | b :: t, cur, l, h => by
   unfold linS at h
   split at h
   . rcases List.mem_cons.1 h with rfl | h
     . simp
     . have := @Jmg t [] l h
       simp only [List.length_cons, List.length_nil] at this ⊢
       omega
   . have := @Jmg t (cur ++ [b]) l h
     simp only [List.length_cons, List.length_append, List.length_nil] at this ⊢
     omega
theorem Jj1 : ∀ {s cur : Txt}, s ≠ [] -> ((linS s cur).2 = [] ↔ s.getLast? = some 10)
 | [], _, h => absurd rfl h
 | [b], cur, _ => by
   unfold linS
   by_cases hb : b = 10
   . subst hb; simp [linS]
   . simp [hb, linS]
 | b :: c :: t, cur, _ => by
   unfold linS
   rw [List.getLast?_cons_cons]
   split
   . exact Jj1 (s := c :: t) (by simp)
   . exact Jj1 (s := c :: t) (by simp)
end Go.Am
namespace Go.Am
open Go Go.Proofs Go.Pn
def dotI (s : Txt) : Int := idxI s fun b => decide (b = 46)
def befD (s : Txt) : Txt := s.take (dotI s).toNat
def aftD (s : Txt) : Txt := s.drop ((dotI s).toNat + 1)
def Jes (ps : List Part) (s : Txt) : Option Int := (ps.find? fun p => decide (p.name = s)).map (·.kind)
def Jf7 (k : Int) (s : Txt) : Bool := decide (0 <= Jdj k.toNat s)
def Jbf (ps : List Part) (s : Txt) : Int := if dotI s < 0 then 4 else match Jes ps (befD s) with
 | none => 6
 | some k => if Jf7 k (aftD s) then 0 else 6
def Jb8 (ps : List Part) (s : Txt) : End := if Jbf ps s = 0 then ⟨befD s, aftD s⟩ else ⟨[], []⟩
def Jb4 (w : Txt) : Int := idxI (List.range 14) fun k => decide (Jc4 k = w)
def partOf (a b : Txt) (o : Option Txt) : Part := ⟨Jb4 b, a, match o with | some c => valOf c | none => 0⟩
def Jj8 (o : Option Txt) : Int := match o with | some c => Jdc c | none => 0
def Jbm (ps : List Part) (a b : Txt) (o : Option Txt) : Int :=
 if Jb4 b < 0 then 6 else if Jj8 o ≠ 0 then Jj8 o else if Ja8 (partOf a b o) ≠ 0 then Ja8 (partOf a b o) else if a ∈ ps.map (·.name) then 7 else if ps.length = 64 then 5 else 0
def Jbh (ps : List Part) (a b : Txt) (o : Option Txt) : List Part := if Jbm ps a b o = 0 then ps ++ [partOf a b o] else ps
def Jc1 (ps : List Part) : List Txt -> Int
 | [a, b] => Jbm ps a b none
 | [a, b, c] => Jbm ps a b (some c)
 | _ => 4
def Jbj (ps : List Part) : List Txt -> List Part
 | [a, b] => Jbh ps a b none
 | [a, b, c] => Jbh ps a b (some c)
 | _ => ps
def ordX (x : EndP) : EndP := ordE x.1 x.2
def Jc2 (d : Drf) (a b : Txt) : Int :=
 if Jbf d.parts a ≠ 0 then Jbf d.parts a else if Jbf d.parts b ≠ 0 then Jbf d.parts b else
 if Jb8 d.parts a = Jb8 d.parts b \/ ordE (Jb8 d.parts a) (Jb8 d.parts b) ∈ d.pipes.map ordX then 7 else if d.pipes.length = 256 then 5 else 0
def Jce (d : Drf) (a b : Txt) : List EndP := if Jc2 d a b = 0 then d.pipes ++ [(Jb8 d.parts a, Jb8 d.parts b)] else d.pipes
def Jdi (d : Drf) : List Txt -> Int
 | [a, b] => Jc2 d a b
 | _ => 4
def Jbn (d : Drf) : List Txt -> List EndP
 | [a, b] => Jce d a b
 | _ => d.pipes
def Jdd : Txt := [112, 97, 114, 116]
def Jdw : Txt := [112, 105, 112, 101]
def Jzc (d : Drf) : List Txt -> Int
 | [] => 0
 | h :: t => if h.head? = some 35 then 0 else if h = Jdd then Jc1 d.parts t else if h = Jdw then Jdi d t else 4
def Jg3 (d : Drf) : List Txt -> Drf
 | [] => d
 | h :: t => if h.head? = some 35 then d else if h = Jdd then ⟨Jbj d.parts t, d.pipes⟩ else if h = Jdw then ⟨d.parts, Jbn d t⟩ else d
def linE (d : Drf) (s : Txt) : Int := Jzc d (fldR s)
def Jb5 (d : Drf) (s : Txt) : Drf := Jg3 d (fldR s)
def runD (d : Drf) : List Txt -> Drf
 | [] => d
 | l :: ls => if linE d l = 0 then runD (Jb5 d l) ls else Jb5 d l
def Jhf (d : Drf) : List Txt -> Nat
 | [] => 0
 | l :: ls => if linE d l = 0 then Jhf (Jb5 d l) ls + 1 else 0
def runE (d : Drf) : List Txt -> Int
 | [] => 0
 | l :: ls => if linE d l = 0 then runE (Jb5 d l) ls else linE d l
def noD : Drf := ⟨[], []⟩
def noC : Circuit := ⟨[], []⟩
def prsE (s : Txt) : Int := if 16384 < s.length then 17 else if (linS s []).2 ≠ [] then 18 else
 if runE noD (Ja3 s) ≠ 0 then runE noD (Ja3 s) else Jac (Jan (runD noD (Ja3 s)))
def prsI (s : Txt) : Int := if 16384 < s.length then 0 else if (linS s []).2 ≠ [] then 0 else
 if runE noD (Ja3 s) ≠ 0 then Jhf noD (Ja3 s) else if Jac (Jan (runD noD (Ja3 s))) ≠ 0 then (Ja3 s).length else 0
def prsC (s : Txt) : Circuit := if prsE s = 0 then Jan (runD noD (Ja3 s)) else noC
theorem J5n {ps : List Part} {s : Txt} {k : Int} (h : Jes ps s = some k) : s ∈ ps.map (·.name) := by
 unfold Jes at h
 obtain ⟨p, hp, _⟩ := Option.map_eq_some_iff.1 h
 have h2 := List.find?_some hp
 exact List.mem_map.2 ⟨p, List.mem_of_find?_eq_some hp, by simpa using h2⟩
theorem Jw9 {ps : List Part} {s : Txt} (h : Jbf ps s = 0) : (Jb8 ps s).part ∈ ps.map (·.name) := by
 unfold Jb8
 rw [if_pos h]
 unfold Jbf at h
 split at h
 . cases h
 . split at h
   . cases h
   . rename_i k e
     exact J5n e
theorem Jww {ps : List Part} {a b : Txt} {o : Option Txt} : ∀ p ∈ ps, p ∈ Jbh ps a b o := fun p hp => by
 unfold Jbh; split
 . exact List.mem_append_left _ hp
 . exact hp
theorem Jwx {ps : List Part} {w : List Txt} : ∀ p ∈ ps, p ∈ Jbj ps w := fun p hp => by
 unfold Jbj; split
 . exact Jww p hp
 . exact Jww p hp
 . exact hp
theorem Jwv {ps : List Part} {a b : Txt} {o : Option Txt} (h : (ps.map (·.name)).Nodup) : ((Jbh ps a b o).map (·.name)).Nodup := by
 unfold Jbh
 split
 . rename_i e
   rw [List.map_append, List.nodup_append]
   refine ⟨h, by simp, fun x hx y hy => ?_⟩
   simp [partOf] at hy
   subst hy
   intro e2
   subst e2
   unfold Jbm at e
   split at e
   . cases e
   . split at e
     . contradiction
     . split at e
       . contradiction
       . first | (rw [if_pos hx] at e; cases e) | cases e
 . exact h
theorem J70 {ps : List Part} {w : List Txt} (h : (ps.map (·.name)).Nodup) : ((Jbj ps w).map (·.name)).Nodup := by
 unfold Jbj; split
 . exact Jwv h
 . exact Jwv h
 . exact h
theorem J8c {d : Drf} (h : DrfOk d) {w : List Txt} : ∀ x ∈ Jbn d w, x.1.part ∈ d.parts.map (·.name) /\ x.2.part ∈ d.parts.map (·.name) := fun x hx => by
 unfold Jbn at hx
 split at hx
 . unfold Jce at hx
   split at hx
   . rename_i a b _ e
     rcases List.mem_append.1 hx with hx | hx
     . exact h.ends x hx
     . simp at hx
       subst hx
       unfold Jc2 at e
       split at e
       . contradiction
       . rename_i h1
         split at e
         . contradiction
         . rename_i h2
           exact ⟨Jw9 (by simpa using h1), Jw9 (by simpa using h2)⟩
   . exact h.ends x hx
 . exact h.ends x hx
theorem Jrt {d : Drf} (h : DrfOk d) {w : List Txt} : DrfOk (Jg3 d w) := by
 unfold Jg3
 split
 . exact h
 . split
   . exact h
   . split
     . refine ⟨J70 h.nd, fun x hx => ?_⟩
       obtain ⟨h1, h2⟩ := h.ends x hx
       obtain ⟨p, hp, e1⟩ := List.mem_map.1 h1
       obtain ⟨q, hq, e2⟩ := List.mem_map.1 h2
       exact ⟨List.mem_map.2 ⟨p, Jwx p hp, e1⟩, List.mem_map.2 ⟨q, Jwx q hq, e2⟩⟩
     . split
       . exact ⟨h.nd, J8c h⟩
       . exact h
theorem Jqr : ∀ {ls : List Txt} {d : Drf}, DrfOk d -> DrfOk (runD d ls)
 | [], _, h => h
 | l :: ls, d, h => by
   unfold runD
   split
   . exact Jqr (Jrt h)
   . exact Jrt h
theorem Jmp : DrfOk noD := ⟨List.nodup_nil, by simp [noD]⟩
structure DrfSz (d : Drf) : Prop where
 parts : d.parts.length <= 64
 pipes : d.pipes.length <= 256
theorem Jru {d : Drf} (h : DrfSz d) {w : List Txt} : DrfSz (Jg3 d w) := by
 have hp : ∀ {a b : Txt} {o : Option Txt}, (Jbh d.parts a b o).length <= 64 := fun {a b o} => by
   unfold Jbh
   split
   . rename_i e
     have h1 := h.parts
     have : d.parts.length ≠ 64 := fun e2 => by
       unfold Jbm at e
       split at e
       . cases e
       . split at e
         . contradiction
         . split at e
           . contradiction
           . split at e
             . cases e
             . first | (rw [if_pos e2] at e; cases e) | cases e
     simp only [List.length_append, List.length_cons, List.length_nil]; omega
   . exact h.parts
 have hq : ∀ {a b : Txt}, (Jce d a b).length <= 256 := fun {a b} => by
   unfold Jce
   split
   . rename_i e
     have h1 := h.pipes
     have : d.pipes.length ≠ 256 := fun e2 => by
       unfold Jc2 at e
       split at e
       . contradiction
       . split at e
         . contradiction
         . split at e
           . cases e
           . first | (rw [if_pos e2] at e; cases e) | cases e
     simp only [List.length_append, List.length_cons, List.length_nil]; omega
   . exact h.pipes
 unfold Jg3
 split
 . exact h
 . split
   . exact h
   . split
     . refine ⟨?_, h.pipes⟩
       simp only [Jbj]
       split
       . exact hp
       . exact hp
       . exact h.parts
     . split
       . refine ⟨h.parts, ?_⟩
         simp only [Jbn]
         split
         . exact hq
         . exact h.pipes
       . exact h
theorem Jqs : ∀ {ls : List Txt} {d : Drf}, DrfSz d -> DrfSz (runD d ls)
 | [], _, h => h
 | l :: ls, d, h => by
   unfold runD
   split
   . exact Jqs (Jru h)
   . exact Jru h
theorem Jmq : DrfSz noD := ⟨by simp [noD], by simp [noD]⟩
def Jam (c : Circuit) (p : Port) : End := ⟨nameAt c p.part, p.name⟩
def endX (a : End) : Txt := a.part ++ 46 :: a.port
def Jfk : Txt := [112, 97, 114, 116, 32]
def Jiz : Txt := [112, 105, 112, 101, 32]
def partT (p : Part) : Txt := (Jfk ++ p.name ++ [32] ++ Jc4 p.kind.toNat) ++ (if p.kind = 12 then 32 :: Lib.decDigits p.delay.toNat else [])
def Jf6 (c : Circuit) (x : Pipe) : Txt := Jiz ++ endX (Jam c x.fr) ++ [32] ++ endX (Jam c x.to)
def J90 (c : Circuit) : List Txt := c.parts.map partT ++ c.pipes.map (Jf6 c)
def unl (ls : List Txt) : Txt := ls.flatMap fun l => l ++ [10]
def Jex (c : Circuit) : Txt := unl (J90 c)
def Jcp (c : Circuit) : Int := if Jac c ≠ 0 then Jac c else if 16384 < (Jex c).length then 17 else 0
def fmtC (c : Circuit) : Txt := if Jcp c = 0 then Jex c else []
def ptE (c : Circuit) (p : Port) : Int := if Jac c ≠ 0 then Jac c else Ja5 c p
def ptT (c : Circuit) (p : Port) : Txt := if ptE c p = 0 then endX (Jam c p) else []
def rpE (c : Circuit) (s : Txt) : Int := if Jac c ≠ 0 then Jac c else Jbf c.parts s
def rpP (c : Circuit) (s : Txt) : Port := if rpE c s = 0 then ⟨Jbx c (befD s), aftD s⟩ else ⟨0, []⟩
def cntC (c : Circuit) : List Int := (List.range 14).map fun (k : Nat) => ((c.parts.countP fun p => decide (p.kind = (k : Int)) : Nat) : Int)
def cntR (c : Circuit) : List Int := if Jac c = 0 then cntC c else []
def drfC (c : Circuit) : Drf := ⟨c.parts, c.pipes.map fun x => (Jam c x.fr, Jam c x.to)⟩
def Jba (f : Txt -> Txt) (a : End) : End := ⟨f a.part, a.port⟩
def Ja7 (f : Txt -> Txt) (p : Part) : Part := ⟨p.kind, f p.name, p.delay⟩
def mapD (f : Txt -> Txt) (d : Drf) : Drf := ⟨d.parts.map (Ja7 f), d.pipes.map fun x => (Jba f x.1, Jba f x.2)⟩
def Jak (c : Circuit) (old new s : Txt) : Txt := if s = old then new else
 if Jb3 c (Jbx c old) = 1 /\ (s = old ++ [48] /\ 0 <= swAt c (old ++ [48])) then new ++ [48] else
 if Jb3 c (Jbx c old) = 1 /\ (s = old ++ [49] /\ 0 <= swAt c (old ++ [49])) then new ++ [49] else s
def renD (c : Circuit) (old new : Txt) : Drf := mapD (Jak c old new) (drfC c)
def rnmE (c : Circuit) (old new : Txt) : Int := if Jac c ≠ 0 then Jac c else if Jbx c old < 0 then 6 else
 if ¬ ((renD c old new).parts.map (·.name)).Nodup then 7 else Jac (Jan (renD c old new))
def rnmC (c : Circuit) (old new : Txt) : Circuit := if rnmE c old new = 0 then Jan (renD c old new) else noC
def uniP (ps qs : List Part) : List Part := ps ++ qs.filter fun q => decide (q.name ∉ ps.map (·.name))
def uniX (xs ys : List EndP) : List EndP := xs ++ ys.filter fun y => decide (ordX y ∉ xs.map ordX)
def uniD (a b : Circuit) : Drf := ⟨uniP a.parts b.parts, uniX (drfC a).pipes (drfC b).pipes⟩
def clash (a b : Circuit) : Bool := b.parts.any fun q => a.parts.any fun p => decide (p.name = q.name) && !decide (p = q)
def uniE (a b : Circuit) : Int := if Jac a ≠ 0 then Jac a else if Jac b ≠ 0 then Jac b else if clash a b then 16 else
 if 64 < (uniD a b).parts.length \/ 256 < (uniD a b).pipes.length then 5 else 0
def uniC (a b : Circuit) : Circuit := if uniE a b = 0 then Jan (uniD a b) else noC
end Go.Am
namespace Go.Am
open Go Go.Proofs Go.Pn
theorem J55 {c : Circuit} (h : Jac c = 0) : AscB Op.bytesLess (c.parts.map (·.name)) := by
 refine List.pairwise_map.2 (List.pairwise_iff_getElem.2 fun i j hi hj hij => ?_)
 exact Jlc (Jmy h hij (List.getElem?_eq_getElem hi) (List.getElem?_eq_getElem hj))
theorem Jc9 {c : Circuit} (h : Jac c = 0) : (c.parts.map (·.name)).Nodup := by
 refine List.pairwise_map.2 (List.pairwise_iff_getElem.2 fun i j hi hj hij => ?_)
 intro e
 have := Jmy h hij (List.getElem?_eq_getElem hi) (List.getElem?_eq_getElem hj)
 rw [e, Je0] at this
 cases this
theorem Jgv {c : Circuit} {p : Port} (h : Ja5 c p = 0) : nameAt c p.part ∈ c.parts.map (·.name) := by
 obtain ⟨q, e, _⟩ := Jc8.1 h
 unfold nameAt
 rw [e]
 exact List.mem_map_of_mem (List.mem_of_getElem? e)
theorem Jhw {c : Circuit} (h : Jac c = 0) {p : Port} (hp : Ja5 c p = 0) : (⟨atNm (c.parts.map (·.name)) (nameAt c p.part), p.name⟩ : Port) = p := by
 obtain ⟨q, e, h0, _⟩ := Jc8.1 hp
 have : atNm (c.parts.map (·.name)) (nameAt c p.part) = p.part.toNat := by
   refine Jg6 (Jc9 h) ?_
   unfold nameAt
   rw [List.getElem?_map, e]; rfl
 rw [this]
 obtain ⟨a, b⟩ := p
 simp only at h0 ⊢
 rw [Int.toNat_of_nonneg h0]
def Jbz (c : Circuit) (x : Pipe) : EndP := (Jam c x.fr, Jam c x.to)
theorem Jeh {c : Circuit} (h : Jac c = 0) {x : Pipe} (hx : x ∈ c.pipes) : Ja5 c x.fr = 0 /\ Ja5 c x.to = 0 /\ Jaz x.fr x.to = true := Jw6.1 ((Jdz.1 h).2.2.1 x hx)
theorem Jfy {c : Circuit} (h : Jac c = 0) : DrfOk (drfC c) := by
 refine ⟨Jc9 h, fun x hx => ?_⟩
 obtain ⟨y, hy, rfl⟩ := List.mem_map.1 hx
 obtain ⟨h1, h2, _⟩ := Jeh h hy
 exact ⟨Jgv h1, Jgv h2⟩
theorem Jpq {c : Circuit} (h : Jac c = 0) : Jao c.parts = c.parts.map (·.name) := Ju5 Jhi (J55 h)
theorem Jt3 {c : Circuit} (h : Jac c = 0) {p q : Port} (hp : Ja5 c p = 0) (hq : Ja5 c q = 0) : Jco (Jam c p) (Jam c q) = Jaz p q := by
 have := Jj9 (Jc9 h) (a := Jam c p) (b := Jam c q) (Jgv hp) (Jgv hq)
 rw [Jpq h] at this
 rw [<- this]
 show Jaz ⟨atNm _ (nameAt c p.part), p.name⟩ ⟨atNm _ (nameAt c q.part), q.name⟩ = _
 rw [Jhw h hp, Jhw h hq]
theorem Jpv {c : Circuit} (h : Jac c = 0) {x : Pipe} (hx : x ∈ c.pipes) : ordX (Jbz c x) = Jbz c x := by
 obtain ⟨h1, h2, h3⟩ := Jeh h hx
 unfold ordX ordE Jbz
 rw [if_neg]
 intro h4
 have h5 := Jfw.1 h4
 rw [Jt3 h h2 h1] at h5
 have h6 := Jxa h3
 rw [h5] at h6
 cases h6
theorem J3n {d e : Drf} (hd : (d.parts.map (·.name)).Nodup) (hp : d.parts.Perm e.parts) (hx : d.pipes.Perm e.pipes) : Jdo d = Jdo e := by
 have hn : Jao d.parts = Jao e.parts := Jma Jhi (hp.map _)
 have he : (e.parts.map (·.name)).Nodup := (hp.map _).nodup_iff.1 hd
 unfold Jdo
 rw [<- hn, Jma Jfl hx]
 congr 1
 refine List.map_congr_left fun s hs => ?_
 obtain ⟨p, hpm, rfl⟩ := List.mem_map.1 (Jhd.1 hs)
 rw [Jed hd hpm, Jed he (hp.mem_iff.1 hpm)]
theorem sorted_perm {d e : Drf} (hd : DrfOk d) (he : DrfOk e) (hp : d.parts.Perm e.parts) (hx : (d.pipes.map ordX).Perm (e.pipes.map ordX)) : Jan d = Jan e := by
 rw [<- Jfx hd, <- Jfx he]
 exact J3n hd.nd hp hx
theorem Jp8 {c : Circuit} (h : Jac c = 0) {x : Pipe} (hx : x ∈ c.pipes) : Jb7 (c.parts.map (·.name)) (Jbz c x) = x := by
 obtain ⟨h1, h2, _⟩ := Jeh h hx
 unfold Jb7 Jbz Jam
 rw [Jhw h h1, Jhw h h2]
theorem Jt2 {c : Circuit} (h : Jac c = 0) : Jan (drfC c) = c := by
 rw [<- Jfx (Jfy h)]
 unfold Jdo
 have e1 : (drfC c).parts = c.parts := rfl
 have e2 : (drfC c).pipes.map (fun x => ordE x.1 x.2) = c.pipes.map (Jbz c) := by
   show (c.pipes.map (Jbz c)).map ordX = _
   rw [List.map_map]
   exact List.map_congr_left fun x hx => Jpv h hx
 simp only [e1, e2]
 obtain ⟨ps, xs⟩ := c
 congr 1
 . rw [Jpq h, List.map_map]
   conv => rhs; rw [<- List.map_id ps]
   exact List.map_congr_left fun p hp => Jed (Jc9 h) hp
 . have hr := Jpq h
   rw [Jpf (lt' := Jby) (f := Jb7 (Jao ps)), List.map_map]
   . have : xs.map (Jb7 (Jao ps) ∘ Jbz ⟨ps, xs⟩) = xs := by
       conv => rhs; rw [<- List.map_id xs]
       refine List.map_congr_left fun x hx => ?_
       have := Jp8 h hx
       rw [<- hr] at this
       exact this
     rw [this]
     refine Ju5 Jyq ?_
     exact (Jdz.1 h).2.2.2.imp fun h1 => J79 h1
   . intro x hx y hy
     obtain ⟨x', hx', rfl⟩ := List.mem_map.1 hx
     obtain ⟨y', hy', rfl⟩ := List.mem_map.1 hy
     obtain ⟨a1, a2, _⟩ := Jeh h hx'
     obtain ⟨b1, b2, _⟩ := Jeh h hy'
     exact Jp7 (Jc9 h) ⟨Jgv b1, Jgv b2⟩ ⟨Jgv a1, Jgv a2⟩
theorem J3m {c : Circuit} (h : Jac c = 0) {d : Drf} (hp : d.parts.Perm c.parts) (hx : (d.pipes.map ordX).Perm ((drfC c).pipes.map ordX)) : Jan d = c := by
 have hnd : (d.parts.map (·.name)).Nodup := (hp.map _).nodup_iff.2 (Jc9 h)
 have hok := Jfy h
 have hd : DrfOk d := by
   refine ⟨hnd, fun x hx2 => ?_⟩
   have h1 : ordX x ∈ (drfC c).pipes.map ordX := hx.mem_iff.1 (List.mem_map_of_mem hx2)
   obtain ⟨y, hy, e⟩ := List.mem_map.1 h1
   obtain ⟨g1, g2⟩ := hok.ends y hy
   have hsub : ∀ s, s ∈ (drfC c).parts.map (·.name) -> s ∈ d.parts.map (·.name) := fun s hs => (hp.map (·.name)).mem_iff.2 hs
   unfold ordX at e
   rcases Jin.1 e with ⟨e1, e2⟩ | ⟨e1, e2⟩
   . rw [<- e1, <- e2]; exact ⟨hsub _ g1, hsub _ g2⟩
   . rw [<- e1, <- e2]; exact ⟨hsub _ g2, hsub _ g1⟩
 rw [sorted_perm hd hok hp hx, Jt2 h]
theorem Jew {d : Drf} (h : DrfOk d) : (Jan d).parts.Perm d.parts := by
 show (selS Je8 d.parts).Perm d.parts
 rw [Jqy h.nd]
 have h1 : (Jao d.parts).Perm (d.parts.map (·.name)) := Jfh
 refine (h1.map (Jd4 d.parts)).trans ?_
 rw [List.map_map]
 have : d.parts.map (Jd4 d.parts ∘ fun p => p.name) = d.parts := by
   conv => rhs; rw [<- List.map_id d.parts]
   exact List.map_congr_left fun p hp => Jed h.nd hp
 rw [this]
theorem Jvw {d : Drf} (h : DrfOk d) {s : Txt} (hs : s ∈ d.parts.map (·.name)) : nameAt (Jan d) (atNm (Jao d.parts) s) = s := by
 obtain ⟨i, e⟩ := List.getElem?_of_mem (Jhd.2 hs)
 rw [Jg6 (Jml h.nd) e]
 have hn : (Jan d).parts.map (·.name) = Jao d.parts := Jkl
 have e2 : ((Jan d).parts.map (·.name))[i]? = some s := by rw [hn]; exact e
 rw [List.getElem?_map, Option.map_eq_some_iff] at e2
 obtain ⟨q, e3, e4⟩ := e2
 unfold nameAt
 rw [Int.toNat_natCast, e3]
 exact e4
theorem Jq2 {d : Drf} (h : DrfOk d) : ((drfC (Jan d)).pipes.map ordX).Perm (d.pipes.map ordX) := by
 have e0 : (Jan d).pipes = (Jar Ja2 (d.pipes.map ordX)).map (Jb7 (Jao d.parts)) := by rw [<- Jfx h]; rfl
 show (((Jan d).pipes.map (Jbz (Jan d))).map ordX).Perm _
 rw [e0, List.map_map, List.map_map]
 show ((Jar Ja2 (d.pipes.map ordX)).map (ordX ∘ Jbz (Jan d) ∘ Jb7 (Jao d.parts))).Perm _
 have e1 : (Jar Ja2 (d.pipes.map ordX)).map (ordX ∘ Jbz (Jan d) ∘ Jb7 (Jao d.parts)) = Jar Ja2 (d.pipes.map ordX) := by
   conv => rhs; rw [<- List.map_id (Jar Ja2 (d.pipes.map ordX))]
   refine List.map_congr_left fun x hx => ?_
   obtain ⟨y, hy, rfl⟩ := List.mem_map.1 (Jid.1 hx)
   have hy2 : (ordX y).1.part ∈ d.parts.map (·.name) /\ (ordX y).2.part ∈ d.parts.map (·.name) := Jmt (h.ends y hy)
   have e3 : Jbz (Jan d) (Jb7 (Jao d.parts) (ordX y)) = ordX y := by
     show ((⟨nameAt (Jan d) (atNm (Jao d.parts) (ordX y).1.part), (ordX y).1.port⟩ : End), (⟨nameAt (Jan d) (atNm (Jao d.parts) (ordX y).2.part), (ordX y).2.port⟩ : End)) = ordX y
     rw [Jvw h hy2.1, Jvw h hy2.2]
   show ordX (Jbz (Jan d) (Jb7 (Jao d.parts) (ordX y))) = ordX y
   rw [e3]
   show ordE (ordE y.1 y.2).1 (ordE y.1 y.2).2 = ordE y.1 y.2
   exact Jin.2 (by unfold ordE; split <;> simp)
 rw [e1]
 exact Jfh
end Go.Am
namespace Go.Am
open Go Go.Proofs Go.Pn
theorem Jls {n : Nat} (h : n < 10) : Lib.decDigits n = [UInt8.ofNat (48 + n)] := by rw [Lib.decDigits, dif_pos h]
theorem Jov {n : Nat} (h : ¬ n < 10) : Lib.decDigits n = Lib.decDigits (n / 10) ++ [UInt8.ofNat (48 + n % 10)] := by rw [Lib.decDigits, dif_neg h]
theorem Jjr : ∀ {k n : Nat}, n < 10 ^ (k + 1) -> (Lib.decDigits n).length <= k + 1
 | 0, n, h => by rw [Jls (by simpa using h)]; simp
 | k + 1, n, h => by
   by_cases h1 : n < 10
   . rw [Jls h1]; simp
   . rw [Jov h1, List.length_append]
     have h2 : n / 10 < 10 ^ (k + 1) := by
       rw [Nat.pow_succ] at h
       exact Nat.div_lt_of_lt_mul (by omega)
     have := Jjr h2
     simp only [List.length_cons, List.length_nil]
     omega
def NoSp (w : Txt) : Prop := w ≠ [] /\ ∀ b ∈ w, b ≠ 32
theorem Ju4 {b : UInt8} (h : Jcq b = true) : b ≠ 32 /\ b ≠ 46 /\ b ≠ 10 /\ b ≠ 35 := by
 have h2 : (∀ n : Nat, n < 256 -> (Jcq (UInt8.ofNat n) = true -> UInt8.ofNat n ≠ 32 /\ UInt8.ofNat n ≠ 46 /\ UInt8.ofNat n ≠ 10 /\ UInt8.ofNat n ≠ 35)) := by decide +kernel
 have h3 := h2 b.toNat b.toNat_lt
 rw [UInt8.ofNat_toNat] at h3
 exact h3 h
theorem Jey {s : Txt} (h : Jcx s = 0) : s ≠ [] /\ (∀ b ∈ s, Jcq b = true) /\ s.length <= 24 := by
 cases s with
 | nil => simp [Jcx] at h
 | cons b r =>
   unfold Jcx at h
   simp only at h
   split at h
   . cases h
   . split at h
     . cases h
     . rename_i h2
       split at h
       . cases h
       . rename_i h3
         refine ⟨by simp, fun x hx => ?_, by omega⟩
         simp only [Bool.not_eq_true', Bool.not_eq_false] at h2
         exact List.all_eq_true.1 h2 x hx
theorem Jda {p : Part} (h : Ja8 p = 0) : (0 <= p.kind /\ p.kind < 14) /\ Jcx p.name = 0 /\ (p.kind = 12 -> 1 <= p.delay /\ p.delay <= 1000000) /\ (p.kind ≠ 12 -> p.delay = 0) := by
 unfold Ja8 at h
 by_cases h1 : Jbk p.kind = 0
 . rw [if_neg (by simpa using h1)] at h
   by_cases h2 : Jcx p.name = 0
   . rw [if_neg (by simpa using h2)] at h
     refine ⟨Jf1.1 h1, h2, ?_, ?_⟩ <;> intro h3 <;> split at h <;> (try cases h) <;> omega
   . rw [if_pos h2] at h; exact absurd h h2
 . rw [if_pos h1] at h; exact absurd h h1
theorem Jdg {c : Circuit} (h : Jac c = 0) {p : Part} (hp : p ∈ c.parts) : Ja8 p = 0 := by
 have hf := (Jdz.1 h).1.each
 obtain ⟨j, hj, e⟩ := List.getElem_of_mem hp
 have h2 := Jff hf hj
 unfold partAt at h2
 rw [List.getElem?_eq_getElem hj, e] at h2
 simp only at h2
 apply Decidable.byContradiction
 intro hne
 rw [if_pos hne] at h2
 exact hne h2
theorem J52 {c : Circuit} (h : Jac c = 0) {p : Port} (hp : Ja5 c p = 0) : Jcx (nameAt c p.part) = 0 := by
 obtain ⟨q, e, _⟩ := Jc8.1 hp
 have := (Jda (Jdg h (List.mem_of_getElem? e))).2.1
 unfold nameAt; rw [e]; exact this
theorem Jrr {k : Nat} (h : k < 14) : NoSp (Jc4 k) /\ (∀ b ∈ Jc4 k, b ≠ 10) /\ Jb4 (Jc4 k) = k /\ (Jc4 k).length <= 8 := by
 rcases (by omega : k = 0 \/ k = 1 \/ k = 2 \/ k = 3 \/ k = 4 \/ k = 5 \/ k = 6 \/ k = 7 \/ k = 8 \/ k = 9 \/ k = 10 \/ k = 11 \/ k = 12 \/ k = 13) with rfl|rfl|rfl|rfl|rfl|rfl|rfl|rfl|rfl|rfl|rfl|rfl|rfl|rfl <;> exact ⟨⟨by decide, by decide⟩, by decide, by decide, by decide⟩
theorem Jka {q : Part} (hq : 0 <= q.kind /\ q.kind < 14) {s : Txt} (hs : s ∈ Jbb q) : (∀ b ∈ s, b ≠ 32 /\ b ≠ 10) /\ Jf7 q.kind s = true /\ s.length <= 2 := by
 have h1 : ∀ k, k < 14 -> ∀ s ∈ Jbw k, (∀ b ∈ s, b ≠ 32 /\ b ≠ 10) /\ 0 <= Jdj k s /\ s.length <= 2 := by decide +kernel
 obtain ⟨a, b, d⟩ := h1 q.kind.toNat (by omega) s hs
 exact ⟨a, by unfold Jf7; simpa using b, d⟩
theorem Jlu {c : Circuit} (h : Jac c = 0) {p : Port} (hp : Ja5 c p = 0) : NoSp (endX (Jam c p)) /\ (∀ b ∈ endX (Jam c p), b ≠ 10) /\ (endX (Jam c p)).length <= 27 := by
 obtain ⟨q, e, h0, hm⟩ := Jc8.1 hp
 obtain ⟨hk, _⟩ := Jda (Jdg h (List.mem_of_getElem? e))
 obtain ⟨a, b, d⟩ := Jey (J52 h hp)
 obtain ⟨f, _, g⟩ := Jka hk hm
 unfold endX Jam
 refine ⟨⟨by simp, fun x hx => ?_⟩, fun x hx => ?_, by simp only [List.length_append, List.length_cons]; omega⟩
 . rcases List.mem_append.1 hx with hx | hx
   . exact (Ju4 (b x hx)).1
   . rcases List.mem_cons.1 hx with rfl | hx
     . decide
     . exact (f x hx).1
 . rcases List.mem_append.1 hx with hx | hx
   . exact (Ju4 (b x hx)).2.2.1
   . rcases List.mem_cons.1 hx with rfl | hx
     . decide
     . exact (f x hx).2
theorem J5o {ps : List Part} (h : (ps.map (·.name)).Nodup) {p : Part} (hp : p ∈ ps) : Jes ps p.name = some p.kind := by
 have h1 := Jed h hp
 unfold Jd4 at h1
 unfold Jes
 cases e : ps.find? fun q => decide (q.name = p.name) with
 | none =>
   rw [List.find?_eq_none] at e
   have := e p hp
   simp at this
 | some q => rw [e] at h1; simp only [Option.getD_some] at h1; rw [h1]; rfl
theorem Jmx {p : Part} (h : Ja8 p = 0) : (partT p).length <= 50 := by
 obtain ⟨hk, hw, hd, _⟩ := Jda h
 obtain ⟨_, _, b⟩ := Jey hw
 obtain ⟨_, _, _, g⟩ := Jrr (k := p.kind.toNat) (by omega)
 unfold partT
 by_cases h12 : p.kind = 12
 . have := @Jjr 6 p.delay.toNat (by have := hd h12; omega)
   rw [if_pos h12]
   simp only [List.length_append, List.length_cons, List.length_nil, Jfk]
   omega
 . rw [if_neg h12]
   simp only [List.length_append, List.length_cons, List.length_nil, Jfk]
   omega
theorem J8b {c : Circuit} (h : Jac c = 0) {x : Pipe} (hx : x ∈ c.pipes) : (Jf6 c x).length <= 60 := by
 obtain ⟨h1, h2, _⟩ := Jeh h hx
 have a := (Jlu h h1).2.2
 have b := (Jlu h h2).2.2
 unfold Jf6
 simp only [List.length_append, List.length_cons, List.length_nil, Jiz]
 omega
theorem Jrf : ∀ {ls : List Txt} {n : Nat}, (∀ l ∈ ls, l.length <= n) -> (unl ls).length <= (n + 1) * ls.length
 | [], n, _ => by simp [unl]
 | l :: ls, n, h => by
   have h1 := h l (by simp)
   have h2 := @Jrf ls n fun x hx => h x (by simp [hx])
   have e : unl (l :: ls) = (l ++ [10]) ++ unl ls := by simp [unl]
   rw [e, List.length_append, List.length_append, List.length_cons, List.length_cons, List.length_nil, Nat.mul_succ]
   omega
end Go.Am
namespace Go.Am
open Go Go.Proofs Go.Pn
def mvI (g : Int -> Int) (p : Port) : Port := ⟨g p.part, p.name⟩
structure Iso (c d : Circuit) (g : Int -> Int) : Prop where
 hc : Jac c = 0
 hd : Jac d = 0
 mem : ∀ p, p ∈ allP c -> mvI g p ∈ allP d
 inj : ∀ p q, p ∈ allP c -> q ∈ allP c -> g p.part = g q.part -> p.part = q.part
 surj : ∀ q, q ∈ allP d -> ∃ p ∈ allP c, mvI g p = q
 kind : ∀ p, p ∈ allP c -> Jb3 d (g p.part) = Jb3 c p.part
 fwd : ∀ x ∈ c.pipes, ∃ y ∈ d.pipes, (y.fr = mvI g x.fr /\ y.to = mvI g x.to) \/ (y.fr = mvI g x.to /\ y.to = mvI g x.fr)
 bwd : ∀ y ∈ d.pipes, ∃ x ∈ c.pipes, (y.fr = mvI g x.fr /\ y.to = mvI g x.to) \/ (y.fr = mvI g x.to /\ y.to = mvI g x.fr)
section
variable {c d : Circuit} {g : Int -> Int}
theorem Je9 (h : Jac c = 0) {x : Pipe} (hx : x ∈ c.pipes) : x.fr ∈ allP c /\ x.to ∈ allP c := ⟨Jez.2 (Jeh h hx).1, Jez.2 (Jeh h hx).2.1⟩
theorem Iso.inj2 (I : Iso c d g) {p q : Port} (hp : p ∈ allP c) (hq : q ∈ allP c) (e : mvI g p = mvI g q) : p = q := by
 obtain ⟨a, s⟩ := p
 obtain ⟨b, t⟩ := q
 unfold mvI at e
 simp only [Port.mk.injEq] at e
 have := I.inj _ _ hp hq e.1
 simp only at this
 rw [this, e.2]
theorem Iso.conn (I : Iso c d g) {p q : Port} (h : Conn c.pipes p q) : Conn d.pipes (mvI g p) (mvI g q) := by
 induction h with
 | refl => exact .refl _
 | fwd x _ hm ih =>
   obtain ⟨y, hy, ⟨e1, e2⟩ | ⟨e1, e2⟩⟩ := I.fwd x hm
   . rw [<- e2]; exact .fwd _ y (e1 ▸ ih) hy
   . rw [<- e1]; exact .bwd _ y (e2 ▸ ih) hy
 | bwd x _ hm ih =>
   obtain ⟨y, hy, ⟨e1, e2⟩ | ⟨e1, e2⟩⟩ := I.fwd x hm
   . rw [<- e1]; exact .bwd _ y (e2 ▸ ih) hy
   . rw [<- e2]; exact .fwd _ y (e1 ▸ ih) hy
theorem Iso.back (I : Iso c d g) {p r : Port} (hp : p ∈ allP c) (h : Conn d.pipes (mvI g p) r) : ∃ q, r = mvI g q /\ q ∈ allP c /\ Conn c.pipes p q := by
 generalize hs : mvI g p = p' at h
 induction h with
 | refl => exact ⟨p, hs.symm, hp, .refl _⟩
 | fwd y _ hm ih =>
   obtain ⟨q, h1, h2, h3⟩ := ih
   obtain ⟨x, hx, ⟨e1, e2⟩ | ⟨e1, e2⟩⟩ := I.bwd y hm
   . obtain ⟨a, b⟩ := Je9 I.hc hx
     have := I.inj2 a h2 (e1.symm.trans h1)
     exact ⟨x.to, e2, b, .fwd _ x (this ▸ h3) hx⟩
   . obtain ⟨a, b⟩ := Je9 I.hc hx
     have := I.inj2 b h2 (e1.symm.trans h1)
     exact ⟨x.fr, e2, a, .bwd _ x (this ▸ h3) hx⟩
 | bwd y _ hm ih =>
   obtain ⟨q, h1, h2, h3⟩ := ih
   obtain ⟨x, hx, ⟨e1, e2⟩ | ⟨e1, e2⟩⟩ := I.bwd y hm
   . obtain ⟨a, b⟩ := Je9 I.hc hx
     have := I.inj2 b h2 (e2.symm.trans h1)
     exact ⟨x.fr, e1, a, .bwd _ x (this ▸ h3) hx⟩
   . obtain ⟨a, b⟩ := Je9 I.hc hx
     have := I.inj2 a h2 (e2.symm.trans h1)
     exact ⟨x.to, e1, b, .fwd _ x (this ▸ h3) hx⟩
theorem Iso.conn_iff (I : Iso c d g) {p q : Port} (hp : p ∈ allP c) (hq : q ∈ allP c) : Conn d.pipes (mvI g p) (mvI g q) ↔ Conn c.pipes p q := by
 constructor
 . intro h
   obtain ⟨r, h1, h2, h3⟩ := I.back hp h
   rw [I.inj2 hq h2 h1]; exact h3
 . exact I.conn
theorem Iso.rt_iff (I : Iso c d g) {p q : Port} (hp : p ∈ allP c) (hq : q ∈ allP c) : rt d (mvI g p) = rt d (mvI g q) ↔ rt c p = rt c q := by
 rw [Am.rt_iff, Am.rt_iff, I.conn_iff hp hq]
theorem Iso.all (I : Iso c d g) : (allP d).Perm ((allP c).map (mvI g)) := by
 have h1 := Jk8 (Jb1 I.hc).1
 have h2 := Jk8 (Jb1 I.hd).1
 have h3 : ((allP c).map (mvI g)).Nodup := List.pairwise_map.2 (h1.imp_of_mem fun {a b} ha hb hne e => hne (I.inj2 ha hb e))
 rw [List.perm_ext_iff_of_nodup h2 h3]
 intro q
 rw [List.mem_map]
 constructor
 . intro hq; obtain ⟨p, hp, e⟩ := I.surj q hq; exact ⟨p, hp, e⟩
 . rintro ⟨p, hp, rfl⟩; exact I.mem p hp
theorem Iso.roots (I : Iso c d g) {l m : List Port} (hl : ∀ p ∈ l, p ∈ allP c) (hm : m.Perm (l.map (mvI g))) : (Jaw (rt d) m).length = (Jaw (rt c) l).length := by
 rw [J88 (m := l.map (mvI g)) (fun p => hm.mem_iff), J87]
 exact J85 fun p hp q hq => I.rt_iff (hl p hp) (hl q hq)
theorem Iso.nets (I : Iso c d g) : (nets d).length = (nets c).length := by
 rw [Jv4 I.hd, Jv4 I.hc]
 exact I.roots (fun _ h => h) I.all
end
end Go.Am
namespace Go.Am
open Go Go.Proofs Go.Pn
theorem Jpw {ps : List Part} {x : EndP} (hx : x.1.part ∈ ps.map (·.name) /\ x.2.part ∈ ps.map (·.name)) : (ordX x).1.part ∈ ps.map (·.name) /\ (ordX x).2.part ∈ ps.map (·.name) := Jmt hx
theorem Jp0 {c : Circuit} (h : Jac c = 0) {p : Part} (hp : p ∈ c.parts) (hk : p.kind = 6) : ∃ nm q, stem p.name = some nm /\ q ∈ c.parts /\ q.name = nm /\ q.kind = 1 := by
 obtain ⟨j, hj, e⟩ := List.getElem_of_mem hp
 have h2 := Jff (Jdz.1 h).1.owned hj
 unfold Jd3 at h2
 rw [List.getElem?_eq_getElem hj, e] at h2
 simp only [hk, true_and] at h2
 have h3 : ¬ Jc0 c p.name < 0 := fun h3 => by rw [if_pos h3] at h2; cases h2
 unfold Jc0 at h3
 cases hs : stem p.name with
 | none => rw [hs] at h3; simp at h3
 | some nm =>
   rw [hs] at h3
   simp only at h3
   cases hf : c.parts.findIdx? fun p => decide (p.name = nm) with
   | none => rw [hf] at h3; simp at h3
   | some i =>
     rw [hf] at h3
     simp only at h3
     obtain ⟨h4, h5, _⟩ := List.findIdx?_eq_some_iff_getElem.1 hf
     split at h3
     . rename_i h6
       rw [List.getElem?_eq_getElem h4] at h6
       exact ⟨nm, c.parts[i], rfl, List.getElem_mem h4, by simpa using h5, by simpa using h6⟩
     . omega
theorem J7z {c : Circuit} (hn : (c.parts.map (·.name)).Nodup) {p q : Part} {nm : Txt} (hs : stem p.name = some nm) (hq : q ∈ c.parts) (e : q.name = nm) (hk : q.kind = 1) : ¬ Jc0 c p.name < 0 := by
 unfold Jc0
 rw [hs]
 simp only
 cases hf : c.parts.findIdx? fun p => decide (p.name = nm) with
 | none =>
   rw [List.findIdx?_eq_none_iff] at hf
   have := hf q hq
   simp [e] at this
 | some i =>
   simp only
   obtain ⟨h4, h5, _⟩ := List.findIdx?_eq_some_iff_getElem.1 hf
   have : c.parts[i] = q := by
     have h6 : c.parts[i].name = nm := by simpa using h5
     have h7 := Jed hn (List.getElem_mem h4)
     have h8 := Jed hn hq
     rw [h6] at h7
     rw [e] at h8
     rw [<- h7, h8]
   rw [if_pos (by rw [List.getElem?_eq_getElem h4, this]; simpa using hk)]
   omega
theorem J9p {s : Txt} {b : UInt8} (hb : b = 48 \/ b = 49) : stem (s ++ [b]) = some s := by
 unfold stem
 rw [if_pos (by rcases hb with rfl | rfl <;> simp)]
 simp
theorem J83 {d : Drf} (hd : DrfOk d) (hp : ∀ p ∈ d.parts, Ja8 p = 0) (ho : ∀ p ∈ d.parts, p.kind = 6 -> ∃ nm q, stem p.name = some nm /\ q ∈ d.parts /\ q.name = nm /\ q.kind = 1)
   (hx : ∀ x ∈ d.pipes, x.1 ≠ x.2 /\ (∃ p ∈ d.parts, p.name = x.1.part /\ x.1.port ∈ Jbb p) /\ (∃ p ∈ d.parts, p.name = x.2.part /\ x.2.port ∈ Jbb p)) (hn : (d.pipes.map ordX).Nodup) (h1 : d.parts.length <= 64) (h2 : d.pipes.length <= 256) : Jac (Jan d) = 0 := by
 have hpm := Jew hd
 have hnames : (Jan d).parts.map (·.name) = Jao d.parts := Jkl
 have hnd : ((Jan d).parts.map (·.name)).Nodup := by rw [hnames]; exact Jml hd.nd
 have hasc : AscB Op.bytesLess ((Jan d).parts.map (·.name)) := by rw [hnames]; exact Jic Jhi
 have hpipes : (Jan d).pipes = (Jar Ja2 (d.pipes.map ordX)).map (Jb7 (Jao d.parts)) := by rw [<- Jfx hd]; rfl
 have hport : ∀ {s t : Txt}, (∃ p ∈ d.parts, p.name = s /\ t ∈ Jbb p) -> Ja5 (Jan d) ⟨atNm (Jao d.parts) s, t⟩ = 0 := fun {s t} ⟨p, hpd, e1, e2⟩ => by
   subst e1
   have hm : p.name ∈ d.parts.map (·.name) := List.mem_map_of_mem hpd
   obtain ⟨i, e⟩ := List.getElem?_of_mem (Jhd.2 hm)
   rw [Jg6 (Jml hd.nd) e]
   have e3 : ((Jan d).parts.map (·.name))[i]? = some p.name := by rw [hnames]; exact e
   rw [List.getElem?_map, Option.map_eq_some_iff] at e3
   obtain ⟨q, e4, e5⟩ := e3
   have e6 : q = p := by
     have a := Jed hd.nd (hpm.mem_iff.1 (List.mem_of_getElem? e4))
     have b := Jed hd.nd hpd
     rw [e5] at a
     rw [<- a, b]
   subst e6
   exact Jc8.2 ⟨q, by simpa using e4, by simp, e2⟩
 refine Jdz.2 ⟨⟨by rw [hpm.length_eq]; exact h1, ?_, ?_⟩, ?_, ?_, ?_⟩
 . refine Jo6.2 fun k hk => ?_
   obtain ⟨p, e⟩ := Jag hk
   unfold partAt
   rw [e]
   simp only
   rw [if_neg (by simpa using hp p (hpm.mem_iff.1 (List.mem_of_getElem? e)))]
   cases k with
   | zero => rw [if_neg (by omega)]
   | succ k =>
     obtain ⟨q, e2⟩ := Jag (xs := (Jan d).parts) (k := k) (by omega)
     rw [show k + 1 - 1 = k by omega, e2]
     simp only [Option.map_some, Option.getD_some]
     rw [if_neg]
     rintro ⟨_, h3⟩
     have hl1 : k < ((Jan d).parts.map (·.name)).length := by simp; omega
     have hl2 : k + 1 < ((Jan d).parts.map (·.name)).length := by simpa using hk
     have h4 := List.pairwise_iff_getElem.1 hasc k (k + 1) hl1 hl2 (by omega)
     have h5 := List.pairwise_iff_getElem.1 hnd k (k + 1) hl1 hl2 (by omega)
     have g1 := (gsI.1 e).2
     have g2 := (gsI.1 e2).2
     simp only [List.getElem_map, g1, g2] at h4 h5
     cases h6 : Op.bytesLess q.name p.name with
     | true => exact h3 h6
     | false => exact h5 (Jgj h6 h4)
 . refine Jo6.2 fun k hk => ?_
   obtain ⟨p, e⟩ := Jag hk
   unfold Jd3
   rw [e]
   simp only
   rw [if_neg]
   rintro ⟨h3, h4⟩
   obtain ⟨nm, q, a1, a2, a3, a4⟩ := ho p (hpm.mem_iff.1 (List.mem_of_getElem? e)) h3
   exact J7z hnd a1 (hpm.mem_iff.2 a2) a3 a4 h4
 . rw [hpipes, List.length_map, Je4, List.length_map]; exact h2
 . intro x hxm
   rw [hpipes] at hxm
   obtain ⟨y, hy, rfl⟩ := List.mem_map.1 hxm
   obtain ⟨z, hz, rfl⟩ := List.mem_map.1 (Jid.1 hy)
   obtain ⟨z1, z2, z3⟩ := hx z hz
   obtain ⟨w1, w2⟩ := hd.ends z hz
   rw [Jw6]
   have hlt : Jco (ordX z).1 (ordX z).2 = true := by
     unfold ordX ordE
     by_cases h3 : 0 < Jcg z.1 z.2
     . rw [if_pos h3]; exact Jfw.1 h3
     . rw [if_neg h3]
       cases e : Jco z.1 z.2 with
       | true => rfl
       | false =>
         refine absurd (Jej.total e ?_) z1
         cases e2 : Jco z.2 z.1 with
         | false => rfl
         | true => exact absurd (Jfw.2 e2) h3
   have hends := Jpw (ps := d.parts) (x := z) ⟨w1, w2⟩
   refine ⟨?_, ?_, ?_⟩
   . show Ja5 _ ⟨atNm _ (ordX z).1.part, (ordX z).1.port⟩ = 0
     refine hport ?_
     unfold ordX ordE; split
     . exact z3
     . exact z2
   . show Ja5 _ ⟨atNm _ (ordX z).2.part, (ordX z).2.port⟩ = 0
     refine hport ?_
     unfold ordX ordE; split
     . exact z2
     . exact z3
   . show Jaz ⟨atNm _ (ordX z).1.part, (ordX z).1.port⟩ ⟨atNm _ (ordX z).2.part, (ordX z).2.port⟩ = true
     rw [Jj9 hd.nd hends.1 hends.2]
     exact hlt
 . rw [hpipes]
   refine List.pairwise_map.2 ?_
   have a : AscB Ja2 (Jar Ja2 (d.pipes.map ordX)) := Jic Jfl
   have b : (Jar Ja2 (d.pipes.map ordX)).Nodup := Jfh.nodup_iff.2 hn
   refine (a.and b).imp_of_mem fun {x y} hxm hym h3 => ?_
   obtain ⟨x', hx', rfl⟩ := List.mem_map.1 (Jid.1 hxm)
   obtain ⟨y', hy', rfl⟩ := List.mem_map.1 (Jid.1 hym)
   rw [Jp7 hd.nd (Jpw (hd.ends x' hx')) (Jpw (hd.ends y' hy'))]
   cases e : Ja2 (ordX x') (ordX y') with
   | true => rfl
   | false => exact absurd (Jfl.total e h3.1) h3.2
theorem J5w {d : Drf} {f : Txt -> Txt} (h : DrfOk d) (hn : ((mapD f d).parts.map (·.name)).Nodup) : DrfOk (mapD f d) := by
 refine ⟨hn, fun x hx => ?_⟩
 obtain ⟨y, hy, rfl⟩ := List.mem_map.1 hx
 obtain ⟨h1, h2⟩ := h.ends y hy
 have key : ∀ s, s ∈ d.parts.map (·.name) -> f s ∈ (mapD f d).parts.map (·.name) := fun s hs => by
   obtain ⟨p, hp, rfl⟩ := List.mem_map.1 hs
   exact List.mem_map.2 ⟨Ja7 f p, List.mem_map_of_mem hp, rfl⟩
 exact ⟨key _ h1, key _ h2⟩
theorem J7y {f : Txt -> Txt} {x : EndP} : ordX (Jba f (ordX x).1, Jba f (ordX x).2) = ordX (Jba f x.1, Jba f x.2) := by
 unfold ordX
 refine Jin.2 ?_
 unfold ordE
 split <;> simp
theorem Jgz {c : Circuit} {old new : Txt} (h : rnmE c old new = 0) : Jac c = 0 /\ 0 <= Jbx c old /\ DrfOk (renD c old new) /\ Jac (Jan (renD c old new)) = 0 /\ rnmC c old new = Jan (renD c old new) := by
 have h0 := h
 unfold rnmE at h
 by_cases h1 : Jac c = 0
 . rw [if_neg (by simpa using h1)] at h
   by_cases h2 : Jbx c old < 0
   . rw [if_pos h2] at h; cases h
   . rw [if_neg h2] at h
     by_cases h3 : ((renD c old new).parts.map (·.name)).Nodup
     . rw [if_neg (by simpa using h3)] at h
       exact ⟨h1, by omega, J5w (Jfy h1) h3, h, by unfold rnmC; rw [if_pos h0]⟩
     . rw [if_pos h3] at h; cases h
 . rw [if_pos h1] at h; exact absurd h h1
theorem Jp1 {c : Circuit} {s : Txt} (h : 0 <= Jbx c s) : ∃ q ∈ c.parts, q.name = s /\ Jb3 c (Jbx c s) = q.kind := by
 rcases Jir c s with h1 | ⟨i, x, h1, h2, h3⟩
 . omega
 . exact ⟨x, List.mem_of_getElem? h2, h3, by rw [h1, Jb3, Int.toNat_natCast, h2]; rfl⟩
theorem Jmw {c : Circuit} (h : Jac c = 0) {q : Part} (hq : q ∈ c.parts) : 0 <= Jbx c q.name /\ Jb3 c (Jbx c q.name) = q.kind := by
 obtain ⟨i, hi, e⟩ := List.getElem_of_mem hq
 have e2 : c.parts[i]? = some q := by rw [List.getElem?_eq_getElem hi, e]
 rw [Jwt h e2]
 exact ⟨by omega, by rw [Jb3, Int.toNat_natCast, e2]; rfl⟩
theorem J9u {c : Circuit} (h : Jac c = 0) {s : Txt} : 0 <= swAt c s ↔ ∃ q ∈ c.parts, q.name = s /\ q.kind = 6 := by
 unfold swAt swK
 constructor
 . intro h1
   split at h1
   . omega
   . rename_i h2
     obtain ⟨q, a, b, e⟩ := Jp1 h1
     refine ⟨q, a, b, ?_⟩
     rw [<- e]
     exact Decidable.byContradiction fun h3 => h2 ⟨h1, h3⟩
 . rintro ⟨q, a, rfl, e⟩
   obtain ⟨h1, h2⟩ := Jmw h a
   rw [if_neg (by rw [h2, e]; simp)]
   exact h1
theorem Jmk {c : Circuit} (h : Jac c = 0) {p q : Part} (hp : p ∈ c.parts) (hq : q ∈ c.parts) (e : p.name = q.name) : p = q := by
 have a := Jed (Jc9 h) hp
 have b := Jed (Jc9 h) hq
 rw [e] at a
 rw [<- a, b]
theorem Jkg {c : Circuit} (h : Jac c = 0) {old new : Txt} {q0 : Part} (h0 : q0 ∈ c.parts) (e0 : q0.name = old) {p : Part} (hp : p ∈ c.parts) :
   Jak c old new p.name = if p = q0 then new else if q0.kind = 1 /\ p.kind = 6 /\ p.name = old ++ [48] then new ++ [48] else if q0.kind = 1 /\ p.kind = 6 /\ p.name = old ++ [49] then new ++ [49] else p.name := by
 obtain ⟨_, hk⟩ := Jmw h h0
 rw [e0] at hk
 have hsw : ∀ b : UInt8, p.name = old ++ [b] -> (0 <= swAt c (old ++ [b]) ↔ p.kind = 6) := fun b eb => by
   rw [J9u h]
   constructor
   . rintro ⟨q, hq, e1, e2⟩
     rw [Jmk h hp hq (eb.trans e1.symm)]; exact e2
   . intro h6; exact ⟨p, hp, eb, h6⟩
 unfold Jak
 rw [hk]
 have c1 : p.name = old ↔ p = q0 := ⟨fun e => Jmk h hp h0 (e.trans e0.symm), fun e => by rw [e, e0]⟩
 have c2 : ∀ b : UInt8, (q0.kind = 1 /\ (p.name = old ++ [b] /\ 0 <= swAt c (old ++ [b]))) ↔ (q0.kind = 1 /\ p.kind = 6 /\ p.name = old ++ [b]) := fun b => by
   constructor
   . rintro ⟨a1, a2, a3⟩; exact ⟨a1, (hsw b a2).1 a3, a2⟩
   . rintro ⟨a1, a2, a3⟩; exact ⟨a1, a3, (hsw b a3).2 a2⟩
 simp only [c1, c2]
theorem Jz8 (s : Txt) : s ++ [48] ≠ s ++ [49] := by simp
theorem Jkf {c : Circuit} {old new : Txt} (h : rnmE c old new = 0) {q : Part} : q ∈ (rnmC c old new).parts ↔ ∃ p ∈ c.parts, q = Ja7 (Jak c old new) p := by
 obtain ⟨h1, _, hd, _, e⟩ := Jgz h
 rw [e, (Jew hd).mem_iff]
 show q ∈ c.parts.map (Ja7 (Jak c old new)) ↔ _
 rw [List.mem_map]
 constructor
 . rintro ⟨p, hp, rfl⟩; exact ⟨p, hp, rfl⟩
 . rintro ⟨p, hp, rfl⟩; exact ⟨p, hp, rfl⟩
theorem Jqm {c : Circuit} {old new : Txt} (h : rnmE c old new = 0) {p q : Part} (hp : p ∈ c.parts) (hq : q ∈ c.parts) (e : Jak c old new p.name = Jak c old new q.name) : p = q := by
 obtain ⟨h1, _, hd, _, _⟩ := Jgz h
 have hnd := hd.nd
 have e2 : (renD c old new).parts.map (·.name) = c.parts.map fun p => Jak c old new p.name := by
   show (c.parts.map (Ja7 (Jak c old new))).map (·.name) = _
   rw [List.map_map]; rfl
 rw [e2] at hnd
 obtain ⟨i, hi, ei⟩ := List.getElem_of_mem hp
 obtain ⟨j, hj, ej⟩ := List.getElem_of_mem hq
 have hpw := List.pairwise_iff_getElem.1 hnd
 rcases Nat.lt_trichotomy i j with hl | hl | hl
 . have := hpw i j (by simpa using hi) (by simpa using hj) hl
   simp only [List.getElem_map, ei, ej] at this
   exact absurd e this
 . subst hl; rw [<- ei, ej]
 . have := hpw j i (by simpa using hj) (by simpa using hi) hl
   simp only [List.getElem_map, ei, ej] at this
   exact absurd e.symm this
theorem J8y {c : Circuit} {old new : Txt} (h : rnmE c old new = 0) {p : Part} (hp : p ∈ c.parts) : Jak (rnmC c old new) new old (Jak c old new p.name) = p.name := by
 obtain ⟨h1, h2, hd, h3, e⟩ := Jgz h
 obtain ⟨q0, g1, g2, _⟩ := Jp1 h2
 have hdr : Jac (rnmC c old new) = 0 := by rw [e]; exact h3
 have hq0n : Jak c old new q0.name = new := by rw [Jkg h1 g1 g2 g1, if_pos rfl]
 have hq0d : Ja7 (Jak c old new) q0 ∈ (rnmC c old new).parts := (Jkf h).2 ⟨q0, g1, rfl⟩
 have hpd : Ja7 (Jak c old new) p ∈ (rnmC c old new).parts := (Jkf h).2 ⟨p, hp, rfl⟩
 have key := Jkg hdr (old := new) (new := old) hq0d hq0n hpd
 have e1 : (Ja7 (Jak c old new) p).name = Jak c old new p.name := rfl
 have e2 : (Ja7 (Jak c old new) p).kind = p.kind := rfl
 have e3 : (Ja7 (Jak c old new) q0).kind = q0.kind := rfl
 rw [e1, e2, e3] at key
 rw [key]
 by_cases hpq : p = q0
 . subst hpq
   rw [if_pos rfl, g2]
 . have hne : ¬ Ja7 (Jak c old new) p = Ja7 (Jak c old new) q0 := fun e4 => hpq (Jqm h hp g1 (congrArg Part.name e4))
   rw [if_neg hne]
   have hn := Jkg h1 (new := new) g1 g2 hp
   rw [if_neg hpq] at hn
   by_cases c0 : q0.kind = 1 /\ p.kind = 6 /\ p.name = old ++ [48]
   . rw [if_pos c0] at hn
     rw [hn, if_pos ⟨c0.1, c0.2.1, rfl⟩, c0.2.2]
   . rw [if_neg c0] at hn
     by_cases c1 : q0.kind = 1 /\ p.kind = 6 /\ p.name = old ++ [49]
     . rw [if_pos c1] at hn
       rw [hn, if_neg (fun hh => Jz8 new hh.2.2.symm), if_pos ⟨c1.1, c1.2.1, rfl⟩, c1.2.2]
     . rw [if_neg c1] at hn
       rw [hn]
       have hno : ∀ b : UInt8, (b = 48 \/ b = 49) -> ¬ (q0.kind = 1 /\ p.kind = 6 /\ p.name = new ++ [b]) := by
         rintro b hb ⟨a1, a2, a3⟩
         obtain ⟨nm, q, b1, b2, b3, b4⟩ := Jp0 h1 hp a2
         rw [a3, J9p hb] at b1
         cases b1
         have hqn := Jkg h1 (new := new) g1 g2 b2
         by_cases hqq : q = q0
         . subst hqq
           rw [g2] at b3
           subst b3
           rcases hb with rfl | rfl
           . exact c0 ⟨a1, a2, a3⟩
           . exact c1 ⟨a1, a2, a3⟩
         . rw [if_neg hqq, if_neg (fun hh => by omega), if_neg (fun hh => by omega), b3] at hqn
           exact hqq (Jqm h b2 g1 (by rw [hq0n, b3]; exact hqn))
       rw [if_neg (hno 48 (.inl rfl)), if_neg (hno 49 (.inr rfl))]
theorem J5u {f k : Txt -> Txt} {d : Drf} : mapD k (mapD f d) = mapD (fun s => k (f s)) d := by
 unfold mapD
 simp only [List.map_map]
 rfl
theorem J5v {f : Txt -> Txt} {d : Drf} (hd : DrfOk d) (h : ∀ p ∈ d.parts, f p.name = p.name) : mapD f d = d := by
 have key : ∀ s, s ∈ d.parts.map (·.name) -> f s = s := fun s hs => by
   obtain ⟨p, hp, rfl⟩ := List.mem_map.1 hs; exact h p hp
 obtain ⟨ps, xs⟩ := d
 unfold mapD
 congr 1
 . conv => rhs; rw [<- List.map_id ps]
   exact List.map_congr_left fun p hp => by unfold Ja7; rw [h p hp]; rfl
 . conv => rhs; rw [<- List.map_id xs]
   refine List.map_congr_left fun x hx => ?_
   obtain ⟨h1, h2⟩ := hd.ends x hx
   unfold Jba
   rw [key _ h1, key _ h2]; rfl
theorem J77 {f : Txt -> Txt} {xs ys : List EndP} (h : (xs.map ordX).Perm (ys.map ordX)) : ((xs.map fun x => (Jba f x.1, Jba f x.2)).map ordX).Perm ((ys.map fun x => (Jba f x.1, Jba f x.2)).map ordX) := by
 have e : ∀ l : List EndP, (l.map fun x => (Jba f x.1, Jba f x.2)).map ordX = (l.map ordX).map fun x => ordX (Jba f x.1, Jba f x.2) := fun l => by
   rw [List.map_map, List.map_map]
   exact List.map_congr_left fun x _ => J7y.symm
 rw [e, e]
 exact h.map _
theorem J84 {c : Circuit} {old new : Txt} (h : rnmE c old new = 0) : rnmE (rnmC c old new) new old = 0 /\ rnmC (rnmC c old new) new old = c := by
 obtain ⟨h1, h2, hd, h3, e⟩ := Jgz h
 obtain ⟨q0, g1, g2, _⟩ := Jp1 h2
 have hdr : Jac (rnmC c old new) = 0 := by rw [e]; exact h3
 have hq0n : Jak c old new q0.name = new := by rw [Jkg h1 g1 g2 g1, if_pos rfl]
 have hq0d : Ja7 (Jak c old new) q0 ∈ (rnmC c old new).parts := (Jkf h).2 ⟨q0, g1, rfl⟩
 have hP : 0 <= Jbx (rnmC c old new) new := by
   have := (Jmw hdr hq0d).1
   rwa [show (Ja7 (Jak c old new) q0).name = new from hq0n] at this
 have hid : mapD (Jak (rnmC c old new) new old) (renD c old new) = drfC c := by
   show mapD _ (mapD _ (drfC c)) = _
   rw [J5u]
   exact J5v (Jfy h1) fun p hp => J8y h hp
 have hp1 : (renD (rnmC c old new) new old).parts.Perm c.parts := by
   have a : (rnmC c old new).parts.Perm (renD c old new).parts := by rw [e]; exact Jew hd
   have b := a.map (Ja7 (Jak (rnmC c old new) new old))
   have b2 : (renD c old new).parts.map (Ja7 (Jak (rnmC c old new) new old)) = c.parts := congrArg Drf.parts hid
   rw [b2] at b
   exact b
 have hp2 : ((renD (rnmC c old new) new old).pipes.map ordX).Perm ((drfC c).pipes.map ordX) := by
   have a : ((drfC (rnmC c old new)).pipes.map ordX).Perm ((renD c old new).pipes.map ordX) := by rw [e]; exact Jq2 hd
   have b := J77 (f := Jak (rnmC c old new) new old) a
   have b2 : (renD c old new).pipes.map (fun x => (Jba (Jak (rnmC c old new) new old) x.1, Jba (Jak (rnmC c old new) new old) x.2)) = (drfC c).pipes := congrArg Drf.pipes hid
   rw [b2] at b
   exact b
 have hs : Jan (renD (rnmC c old new) new old) = c := J3m h1 hp1 hp2
 have e0 : rnmE (rnmC c old new) new old = 0 := by
   unfold rnmE
   rw [if_neg (by simpa using hdr), if_neg (by omega), if_neg (by simpa using (hp1.map (·.name)).nodup_iff.2 (Jc9 h1)), hs, h1]
 exact ⟨e0, (show rnmC (rnmC c old new) new old = Jan (renD (rnmC c old new) new old) from if_pos e0).trans hs⟩
def renG (c : Circuit) (old new : Txt) (i : Int) : Int := Jbx (rnmC c old new) (Jak c old new (nameAt c i))
theorem Je6 {c : Circuit} {i : Nat} {q : Part} (e : c.parts[i]? = some q) : nameAt c (i : Int) = q.name := by unfold nameAt; rw [Int.toNat_natCast, e]
theorem Jiw {c : Circuit} {old new : Txt} (h : rnmE c old new = 0) {i : Nat} {q : Part} (e : c.parts[i]? = some q) : ∃ j : Nat, renG c old new i = j /\ (rnmC c old new).parts[j]? = some (Ja7 (Jak c old new) q) := by
 obtain ⟨h1, _, hd, h3, e2⟩ := Jgz h
 have hdr : Jac (rnmC c old new) = 0 := by rw [e2]; exact h3
 have hm : Ja7 (Jak c old new) q ∈ (rnmC c old new).parts := (Jkf h).2 ⟨q, List.mem_of_getElem? e, rfl⟩
 obtain ⟨j, hj⟩ := List.getElem?_of_mem hm
 refine ⟨j, ?_, hj⟩
 unfold renG
 rw [Je6 e]
 exact Jwt hdr hj
theorem Jfa {c : Circuit} {p : Port} (hp : p ∈ allP c) : ∃ (i : Nat) (q : Part), p.part = i /\ c.parts[i]? = some q /\ p.name ∈ Jbb q := by
 obtain ⟨q, e, h0, hm⟩ := Jc8.1 (Jez.1 hp)
 exact ⟨p.part.toNat, q, by omega, e, hm⟩
theorem Jm3 {c : Circuit} {i : Nat} {q : Part} (e : c.parts[i]? = some q) {s : Txt} (hs : s ∈ Jbb q) : (⟨(i : Int), s⟩ : Port) ∈ allP c := Jez.2 (Jc8.2 ⟨q, by simpa using e, by simp, hs⟩)
theorem Jxu {c : Circuit} {old new : Txt} (h : rnmE c old new = 0) {p : Port} (hp : p ∈ allP c) : Jam (rnmC c old new) (mvI (renG c old new) p) = Jba (Jak c old new) (Jam c p) := by
 obtain ⟨i, q, e1, e2, _⟩ := Jfa hp
 obtain ⟨j, f1, f2⟩ := Jiw h e2
 unfold Jam mvI Jba
 rw [e1, f1, Je6 f2, Je6 e2]; rfl
theorem Jgo {c : Circuit} (h : Jac c = 0) {p q : Port} (hp : p ∈ allP c) (hq : q ∈ allP c) (e : Jam c p = Jam c q) : p = q := by
 have h1 := Jhw h (Jez.1 hp)
 have h2 := Jhw h (Jez.1 hq)
 unfold Jam at e
 simp only [End.mk.injEq] at e
 rw [<- h1, <- h2, e.1, e.2]
theorem J80 {c : Circuit} {old new : Txt} (h : rnmE c old new = 0) : Iso c (rnmC c old new) (renG c old new) := by
 obtain ⟨h1, h2, hd, h3, e⟩ := Jgz h
 have hdr : Jac (rnmC c old new) = 0 := by rw [e]; exact h3
 have hmem : ∀ p, p ∈ allP c -> mvI (renG c old new) p ∈ allP (rnmC c old new) := fun p hp => by
   obtain ⟨i, q, e1, e2, e3⟩ := Jfa hp
   obtain ⟨j, f1, f2⟩ := Jiw h e2
   unfold mvI
   rw [e1, f1]
   exact Jm3 f2 e3
 have hpp : ((drfC (rnmC c old new)).pipes.map ordX).Perm ((renD c old new).pipes.map ordX) := by rw [e]; exact Jq2 hd
 have hends : ∀ x ∈ c.pipes, ∀ y ∈ (rnmC c old new).pipes, ordX (Jbz (rnmC c old new) y) = ordX (Jba (Jak c old new) (Jbz c x).1, Jba (Jak c old new) (Jbz c x).2) ->
     (y.fr = mvI (renG c old new) x.fr /\ y.to = mvI (renG c old new) x.to) \/ (y.fr = mvI (renG c old new) x.to /\ y.to = mvI (renG c old new) x.fr) := fun x hx y hy e4 => by
   obtain ⟨a1, a2⟩ := Je9 h1 hx
   obtain ⟨b1, b2⟩ := Je9 hdr hy
   have c1 := Jxu h a1
   have c2 := Jxu h a2
   unfold ordX Jbz at e4
   simp only [<- c1, <- c2] at e4
   rcases Jin.1 e4 with ⟨d1, d2⟩ | ⟨d1, d2⟩
   . exact .inl ⟨Jgo hdr b1 (hmem _ a1) d1, Jgo hdr b2 (hmem _ a2) d2⟩
   . exact .inr ⟨Jgo hdr b1 (hmem _ a2) d1, Jgo hdr b2 (hmem _ a1) d2⟩
 refine ⟨h1, hdr, hmem, fun p q hp hq e4 => ?_, fun q hq => ?_, fun p hp => ?_, fun x hx => ?_, fun y hy => ?_⟩
 . obtain ⟨i, x, e1, e2, _⟩ := Jfa hp
   obtain ⟨j, y, k1, k2, _⟩ := Jfa hq
   obtain ⟨i', f1, f2⟩ := Jiw h e2
   obtain ⟨j', g1, g2⟩ := Jiw h k2
   rw [e1, k1, f1, g1] at e4
   have : i' = j' := by omega
   subst this
   rw [f2] at g2
   have e5 := Jqm h (List.mem_of_getElem? e2) (List.mem_of_getElem? k2) (congrArg Part.name (Option.some.inj g2))
   subst e5
   rw [e1, k1, Jp3 h1 e2 k2 rfl]
 . obtain ⟨j, y, k1, k2, k3⟩ := Jfa hq
   obtain ⟨x, hx, e4⟩ := (Jkf h).1 (List.mem_of_getElem? k2)
   obtain ⟨i, hi, ei⟩ := List.getElem_of_mem hx
   have e2 : c.parts[i]? = some x := by rw [List.getElem?_eq_getElem hi, ei]
   obtain ⟨j', f1, f2⟩ := Jiw h e2
   have hjj : j' = j := Jp3 hdr f2 k2 (by rw [e4])
   subst hjj
   refine ⟨⟨i, q.name⟩, Jm3 e2 (by rw [e4] at k3; exact k3), ?_⟩
   unfold mvI
   simp only [f1, <- k1]
 . obtain ⟨i, x, e1, e2, _⟩ := Jfa hp
   obtain ⟨i', f1, f2⟩ := Jiw h e2
   rw [e1, f1]
   unfold Jb3
   rw [Int.toNat_natCast, Int.toNat_natCast, f2, e2]; rfl
 . have hm : ordX (Jba (Jak c old new) (Jbz c x).1, Jba (Jak c old new) (Jbz c x).2) ∈ (renD c old new).pipes.map ordX :=
     List.mem_map_of_mem (List.mem_map.2 ⟨Jbz c x, List.mem_map.2 ⟨x, hx, rfl⟩, rfl⟩)
   obtain ⟨w, hw, e4⟩ := List.mem_map.1 (hpp.mem_iff.2 hm)
   obtain ⟨y, hy, rfl⟩ := List.mem_map.1 hw
   exact ⟨y, hy, hends x hx y hy e4⟩
 . have hm : ordX (Jbz (rnmC c old new) y) ∈ (drfC (rnmC c old new)).pipes.map ordX := List.mem_map_of_mem (List.mem_map.2 ⟨y, hy, rfl⟩)
   obtain ⟨w, hw, e4⟩ := List.mem_map.1 (hpp.mem_iff.1 hm)
   obtain ⟨w', hw', rfl⟩ := List.mem_map.1 hw
   obtain ⟨x, hx, rfl⟩ := List.mem_map.1 hw'
   exact ⟨x, hx, hends x hx y hy e4.symm⟩
theorem J8z {c : Circuit} {old new : Txt} (h : rnmE c old new = 0) : cntC (rnmC c old new) = cntC c /\ (rnmC c old new).parts.length = c.parts.length := by
 obtain ⟨h1, _, hd, _, e⟩ := Jgz h
 have hp : (rnmC c old new).parts.Perm (c.parts.map (Ja7 (Jak c old new))) := by rw [e]; exact Jew hd
 refine ⟨?_, by rw [hp.length_eq, List.length_map]⟩
 unfold cntC
 refine List.map_congr_left fun k _ => ?_
 rw [hp.countP_eq, List.countP_map]
 rfl
theorem Jtt {a b : Circuit} (h : clash a b = false) {p q : Part} (hp : p ∈ a.parts) (hq : q ∈ b.parts) (e : p.name = q.name) : p = q := by
 unfold clash at h
 rw [List.any_eq_false] at h
 have h1 := h q hq
 simp only [Bool.not_eq_true, List.any_eq_false] at h1
 have h2 := h1 p hp
 simpa [e] using h2
theorem Jts {a b : Circuit} : clash a b = clash b a := by
 unfold clash
 rw [Bool.eq_iff_iff]
 simp only [List.any_eq_true, Bool.and_eq_true, decide_eq_true_eq, Bool.not_eq_true', decide_eq_false_iff_not]
 constructor
 . rintro ⟨q, hq, p, hp, e1, e2⟩; exact ⟨p, hp, q, hq, e1.symm, Ne.symm e2⟩
 . rintro ⟨q, hq, p, hp, e1, e2⟩; exact ⟨p, hp, q, hq, e1.symm, Ne.symm e2⟩
theorem Kat {ps qs : List Part} (h1 : (ps.map (·.name)).Nodup) (h2 : (qs.map (·.name)).Nodup) : ((uniP ps qs).map (·.name)).Nodup := by
 unfold uniP
 rw [List.map_append, List.nodup_append]
 refine ⟨h1, (List.filter_sublist.map _).nodup h2, fun x hx y hy => ?_⟩
 obtain ⟨q, hq, rfl⟩ := List.mem_map.1 hy
 have := (List.mem_filter.1 hq).2
 rintro rfl
 simp at this
 obtain ⟨p, hp, e⟩ := List.mem_map.1 hx
 exact this p hp e
theorem Ji6 {a b : Circuit} (h : clash a b = false) {p : Part} : p ∈ uniP a.parts b.parts ↔ p ∈ a.parts \/ p ∈ b.parts := by
 unfold uniP
 rw [List.mem_append, List.mem_filter]
 constructor
 . rintro (h1 | ⟨h1, _⟩)
   . exact .inl h1
   . exact .inr h1
 . rintro (h1 | h1)
   . exact .inl h1
   . by_cases h2 : p.name ∈ a.parts.map (·.name)
     . obtain ⟨q, hq, e⟩ := List.mem_map.1 h2
       rw [<- Jtt h hq h1 e]; exact .inl hq
     . exact .inr ⟨h1, by simpa using h2⟩
theorem Jv7 {α β : Type} {f : α -> β} {l : List α} (h : (l.map f).Nodup) : l.Nodup := (List.pairwise_map.1 h).imp fun {a b} hne e => hne (by rw [e])
theorem Jnk {xs ys : List EndP} (h1 : (xs.map ordX).Nodup) (h2 : (ys.map ordX).Nodup) : ((uniX xs ys).map ordX).Nodup := by
 unfold uniX
 rw [List.map_append, List.nodup_append]
 refine ⟨h1, (List.filter_sublist.map _).nodup h2, fun x hx y hy => ?_⟩
 obtain ⟨q, hq, rfl⟩ := List.mem_map.1 hy
 have := (List.mem_filter.1 hq).2
 rintro rfl
 rw [decide_eq_true_eq] at this
 exact this hx
theorem Jrd {xs ys : List EndP} {z : EndP} : z ∈ (uniX xs ys).map ordX ↔ z ∈ xs.map ordX \/ z ∈ ys.map ordX := by
 unfold uniX
 rw [List.map_append, List.mem_append]
 constructor
 . rintro (h | h)
   . exact .inl h
   . obtain ⟨y, hy, rfl⟩ := List.mem_map.1 h
     exact .inr (List.mem_map_of_mem (List.mem_filter.1 hy).1)
 . rintro (h | h)
   . exact .inl h
   . by_cases h2 : z ∈ xs.map ordX
     . exact .inl h2
     . obtain ⟨y, hy, rfl⟩ := List.mem_map.1 h
       exact .inr (List.mem_map_of_mem (List.mem_filter.2 ⟨hy, by rw [decide_eq_true_eq]; exact h2⟩))
theorem Je2 {c : Circuit} (h : Jac c = 0) : ((drfC c).pipes.map ordX).Nodup := by
 show ((c.pipes.map fun x => (Jam c x.fr, Jam c x.to)).map ordX).Nodup
 rw [List.map_map]
 have hn : c.pipes.Nodup := (Jdz.1 h).2.2.2.imp fun h1 e => by subst e; rw [Jp5] at h1; cases h1
 refine List.pairwise_map.2 (hn.imp_of_mem fun {x y} hx hy hne e => hne ?_)
 have e2 : ordX (Jbz c x) = ordX (Jbz c y) := e
 rw [Jpv h hx, Jpv h hy] at e2
 have e1 := Jp8 h hx
 rw [e2, Jp8 h hy] at e1
 exact e1.symm
theorem Jga {a b : Circuit} (ha : Jac a = 0) (hb : Jac b = 0) (h : clash a b = false) : DrfOk (uniD a b) := by
 refine ⟨Kat (Jc9 ha) (Jc9 hb), fun x hx => ?_⟩
 have hsub : ∀ s, s ∈ a.parts.map (·.name) \/ s ∈ b.parts.map (·.name) -> s ∈ (uniD a b).parts.map (·.name) := by
   rintro s (hs | hs) <;> obtain ⟨p, hp, rfl⟩ := List.mem_map.1 hs
   . exact List.mem_map_of_mem ((Ji6 h).2 (.inl hp))
   . exact List.mem_map_of_mem ((Ji6 h).2 (.inr hp))
 have hx2 : x ∈ (drfC a).pipes \/ x ∈ (drfC b).pipes := by
   rcases List.mem_append.1 hx with h1 | h1
   . exact .inl h1
   . exact .inr (List.mem_filter.1 h1).1
 rcases hx2 with h1 | h1
 . obtain ⟨g1, g2⟩ := (Jfy ha).ends x h1; exact ⟨hsub _ (.inl g1), hsub _ (.inl g2)⟩
 . obtain ⟨g1, g2⟩ := (Jfy hb).ends x h1; exact ⟨hsub _ (.inr g1), hsub _ (.inr g2)⟩
theorem Kav {a b : Circuit} (ha : Jac a = 0) (hb : Jac b = 0) : uniE a b = uniE b a /\ uniC a b = uniC b a := by
 by_cases hc : clash a b = false
 . have hc2 : clash b a = false := by rw [Jts]; exact hc
   have p1 : (uniD a b).parts.Perm (uniD b a).parts := by
     rw [List.perm_ext_iff_of_nodup (Jv7 (Jga ha hb hc).nd) (Jv7 (Jga hb ha hc2).nd)]
     intro p
     show p ∈ uniP _ _ ↔ p ∈ uniP _ _
     rw [Ji6 hc, Ji6 hc2]; exact Or.comm
   have p2 : ((uniD a b).pipes.map ordX).Perm ((uniD b a).pipes.map ordX) := by
     show ((uniX (drfC a).pipes (drfC b).pipes).map ordX).Perm ((uniX (drfC b).pipes (drfC a).pipes).map ordX)
     rw [List.perm_ext_iff_of_nodup (Jnk (Je2 ha) (Je2 hb)) (Jnk (Je2 hb) (Je2 ha))]
     intro z
     show z ∈ (uniX _ _).map ordX ↔ z ∈ (uniX _ _).map ordX
     rw [Jrd, Jrd]; exact Or.comm
   have p2' : (uniD a b).pipes.length = (uniD b a).pipes.length := by have := p2.length_eq; simpa using this
   have l1 := p1.length_eq
   have l2 := p2'
   have e : uniE a b = uniE b a := by
     unfold uniE
     rw [ha, hb, hc, hc2, l1, l2]
   exact ⟨e, by unfold uniC; rw [e, sorted_perm (Jga ha hb hc) (Jga hb ha hc2) p1 p2]⟩
 . have hc1 : clash a b = true := by simpa using hc
   have hc2 : clash b a = true := by rw [Jts]; exact hc1
   have e1 : uniE a b = 16 := by unfold uniE; rw [if_neg (by simpa using ha), if_neg (by simpa using hb), hc1]; rfl
   have e2 : uniE b a = 16 := by unfold uniE; rw [if_neg (by simpa using hb), if_neg (by simpa using ha), hc2]; rfl
   exact ⟨by rw [e1, e2], by unfold uniC; rw [e1, e2]; rfl⟩
theorem Kaz {a : Circuit} (ha : Jac a = 0) : uniE a a = 0 /\ uniC a a = a := by
 have hc : clash a a = false := by
   unfold clash
   rw [List.any_eq_false]
   intro q hq
   simp only [Bool.not_eq_true, List.any_eq_false]
   intro p hp
   by_cases e : p.name = q.name
   . simp [Jmk ha hp hq e]
   . simp [e]
 have e1 : uniD a a = drfC a := by
   have a1 : a.parts.filter (fun q => decide (q.name ∉ a.parts.map (·.name))) = [] := by
     rw [List.filter_eq_nil_iff]
     intro q hq
     simp only [decide_eq_true_eq, Decidable.not_not]
     exact List.mem_map_of_mem hq
   have a2 : (drfC a).pipes.filter (fun y => decide (ordX y ∉ (drfC a).pipes.map ordX)) = [] := by
     rw [List.filter_eq_nil_iff]
     intro q hq
     simp only [decide_eq_true_eq, Decidable.not_not]
     exact List.mem_map_of_mem hq
   unfold uniD uniP uniX
   rw [a1, a2, List.append_nil, List.append_nil]; rfl
 obtain ⟨_, h1, h2⟩ := Jb1 ha
 have e0 : uniE a a = 0 := by
   unfold uniE
   rw [if_neg (by simpa using ha), if_neg (by simpa using ha), hc, e1, if_neg (by simp), if_neg]
   have : (drfC a).pipes.length = a.pipes.length := List.length_map ..
   have h3 : (drfC a).parts.length = a.parts.length := rfl
   omega
 exact ⟨e0, by unfold uniC; rw [if_pos e0, e1, Jt2 ha]⟩
theorem Jnl {a b : Circuit} (h : uniE a b = 0) : Jac a = 0 /\ Jac b = 0 /\ clash a b = false /\ (uniD a b).parts.length <= 64 /\ (uniD a b).pipes.length <= 256 /\ uniC a b = Jan (uniD a b) := by
 have h0 := h
 unfold uniE at h
 by_cases h1 : Jac a = 0
 . rw [if_neg (by simpa using h1)] at h
   by_cases h2 : Jac b = 0
   . rw [if_neg (by simpa using h2)] at h
     cases h3 : clash a b with
     | true => rw [h3] at h; simp at h
     | false =>
       rw [h3, if_neg (by simp)] at h
       split at h
       . cases h
       . rename_i h4
         exact ⟨h1, h2, rfl, by omega, by omega, by unfold uniC; rw [if_pos h0]⟩
   . rw [if_pos h2] at h; exact absurd h h2
 . rw [if_pos h1] at h; exact absurd h h1
theorem Jre {a b : Circuit} (h : uniE a b = 0) : Jac (uniC a b) = 0 := by
 obtain ⟨ha, hb, hc, l1, l2, e⟩ := Jnl h
 rw [e]
 have hm : ∀ {p}, p ∈ (uniD a b).parts ↔ p ∈ a.parts \/ p ∈ b.parts := Ji6 hc
 have hside : ∀ {c : Circuit}, Jac c = 0 -> (∀ p ∈ c.parts, p ∈ (uniD a b).parts) -> ∀ x ∈ (drfC c).pipes, x.1 ≠ x.2 /\ (∃ p ∈ (uniD a b).parts, p.name = x.1.part /\ x.1.port ∈ Jbb p) /\ (∃ p ∈ (uniD a b).parts, p.name = x.2.part /\ x.2.port ∈ Jbb p) := fun {c} h1 hsub x hx => by
   obtain ⟨y, hy, rfl⟩ := List.mem_map.1 hx
   obtain ⟨g1, g2, g3⟩ := Jeh h1 hy
   have key : ∀ {p : Port}, Ja5 c p = 0 -> ∃ q ∈ (uniD a b).parts, q.name = (Jam c p).part /\ (Jam c p).port ∈ Jbb q := fun {p} hp => by
     obtain ⟨q, e1, _, e3⟩ := Jc8.1 hp
     refine ⟨q, hsub q (List.mem_of_getElem? e1), ?_, e3⟩
     unfold Jam nameAt; rw [e1]
   refine ⟨fun e2 => ?_, key g1, key g2⟩
   have h4 := Jt3 h1 g1 g2
   have e3 : Jam c y.fr = Jam c y.to := e2
   rw [e3, Jej.irrefl, g3] at h4
   cases h4
 refine J83 (Jga ha hb hc) (fun p hp => ?_) (fun p hp hk => ?_) (fun x hx => ?_) (Jnk (Je2 ha) (Je2 hb)) l1 l2
 . rcases hm.1 hp with h1 | h1
   . exact Jdg ha h1
   . exact Jdg hb h1
 . rcases hm.1 hp with h1 | h1
   . obtain ⟨nm, q, a1, a2, a3, a4⟩ := Jp0 ha h1 hk; exact ⟨nm, q, a1, hm.2 (.inl a2), a3, a4⟩
   . obtain ⟨nm, q, a1, a2, a3, a4⟩ := Jp0 hb h1 hk; exact ⟨nm, q, a1, hm.2 (.inr a2), a3, a4⟩
 . rcases List.mem_append.1 hx with h1 | h1
   . exact hside ha (fun p hp => hm.2 (.inl hp)) x h1
   . exact hside hb (fun p hp => hm.2 (.inr hp)) x (List.mem_filter.1 h1).1
theorem Kax {a b : Circuit} (h : uniE a b = 0) {p : Part} : p ∈ (uniC a b).parts ↔ p ∈ a.parts \/ p ∈ b.parts := by
 obtain ⟨ha, hb, hc, _, _, e⟩ := Jnl h
 rw [e, (Jew (Jga ha hb hc)).mem_iff]
 exact Ji6 hc
theorem Kaw {a b : Circuit} (h : uniE a b = 0) : (uniC a b).parts.length <= a.parts.length + b.parts.length := by
 obtain ⟨ha, hb, hc, _, _, e⟩ := Jnl h
 rw [e, (Jew (Jga ha hb hc)).length_eq]
 show (uniP a.parts b.parts).length <= _
 unfold uniP
 rw [List.length_append]
 have := List.length_filter_le (fun q => decide (q.name ∉ a.parts.map (·.name))) b.parts
 omega
theorem Kay {a b : Circuit} (h : uniE a b = 0) {x : Pipe} (hx : x ∈ a.pipes) {i j : Nat} {p q : Part} (hi : x.fr.part = i) (hj : x.to.part = j) (ei : a.parts[i]? = some p) (ej : a.parts[j]? = some q) {k l : Nat} (ek : (uniC a b).parts[k]? = some p) (el : (uniC a b).parts[l]? = some q) :
   (⟨k, x.fr.name⟩ : Port) ∈ allP (uniC a b) /\ (⟨l, x.to.name⟩ : Port) ∈ allP (uniC a b) /\ Conn (uniC a b).pipes ⟨k, x.fr.name⟩ ⟨l, x.to.name⟩ := by
 obtain ⟨ha, hb, hc, _, _, e⟩ := Jnl h
 have hr := Jre h
 obtain ⟨g1, g2⟩ := Je9 ha hx
 have m1 : (⟨k, x.fr.name⟩ : Port) ∈ allP (uniC a b) := by
   obtain ⟨q', e1, h0, hm⟩ := Jc8.1 (Jez.1 g1)
   rw [hi, Int.toNat_natCast, ei] at e1; cases e1
   exact Jm3 ek hm
 have m2 : (⟨l, x.to.name⟩ : Port) ∈ allP (uniC a b) := by
   obtain ⟨q', e1, h0, hm⟩ := Jc8.1 (Jez.1 g2)
   rw [hj, Int.toNat_natCast, ej] at e1; cases e1
   exact Jm3 el hm
 refine ⟨m1, m2, ?_⟩
 have hpm : ((drfC (uniC a b)).pipes.map ordX).Perm ((uniD a b).pipes.map ordX) := by rw [e]; exact Jq2 (Jga ha hb hc)
 have hz : ordX (Jbz a x) ∈ (uniD a b).pipes.map ordX := Jrd.2 (.inl (List.mem_map_of_mem (List.mem_map.2 ⟨x, hx, rfl⟩)))
 obtain ⟨w, hw, e2⟩ := List.mem_map.1 (hpm.mem_iff.2 hz)
 obtain ⟨y, hy, rfl⟩ := List.mem_map.1 hw
 obtain ⟨b1, b2⟩ := Je9 hr hy
 have f1 : Jam a x.fr = Jam (uniC a b) ⟨k, x.fr.name⟩ := by unfold Jam; rw [hi, Je6 ei, Je6 ek]
 have f2 : Jam a x.to = Jam (uniC a b) ⟨l, x.to.name⟩ := by unfold Jam; rw [hj, Je6 ej, Je6 el]
 unfold ordX Jbz at e2
 simp only [f1, f2] at e2
 rcases Jin.1 e2 with ⟨d1, d2⟩ | ⟨d1, d2⟩
 . rw [<- Jgo hr b1 m1 d1, <- Jgo hr b2 m2 d2]
   exact .fwd _ y (.refl _) hy
 . rw [<- Jgo hr b1 m2 d1, <- Jgo hr b2 m1 d2]
   exact .bwd _ y (.refl _) hy
end Go.Am
namespace Go.Am
open Go Go.Proofs Go.Pn
section
variable {c d : Circuit} {g : Int -> Int}
end
end Go.Am
