/- Lemmas and contracts for the proof of a statement of this seat. -/
import Derived.Test.YtmfjjncfdpejiaaGreatDoorZCP
import Derived.Test.YtmfjjncfdpejiaaGreatDoorZE3
import Derived.Lib.FieldsP
import Derived.Lib.TrimUEq
import Derived.Test.YtmfjjncfdpejiaaGreatDoorZF1
import Derived.Test.YtmfjjncfdpejiaaGreatDoorZCA
import Derived.Test.YtmfjjncfdpejiaaGreatDoorZC6
import Derived.Test.YtmfjjncfdpejiaaGreatDoorZCQ
set_option linter.unusedVariables false
set_option linter.unusedSimpArgs false
namespace Go.Am
open Go Go.Proofs Go.Pn
structure STO {α : Type} (lt : α -> α -> Bool) : Prop where
 irrefl : ∀ a, lt a a = false
 trans : ∀ {a b c}, lt a b = true -> lt b c = true -> lt a c = true
 total : ∀ {a b}, lt a b = false -> lt b a = false -> a = b
theorem STO.asymm {α : Type} {lt : α -> α -> Bool} (h : STO lt) {a b : α} (k : lt a b = true) : lt b a = false := by
 cases e : lt b a with
 | false => rfl
 | true => have := h.trans k e; rw [h.irrefl] at this; cases this
def insB {α : Type} (lt : α -> α -> Bool) (x : α) : List α -> List α
 | [] => [x]
 | y :: ys => if lt y x then y :: insB lt x ys else x :: y :: ys
def Jar {α : Type} (lt : α -> α -> Bool) (l : List α) : List α := l.foldr (insB lt) []
def AscB {α : Type} (lt : α -> α -> Bool) (l : List α) : Prop := l.Pairwise fun a b => lt b a = false
section
variable {α : Type} {lt : α -> α -> Bool}
theorem Jo9 {x : α} : ∀ {l : List α}, (insB lt x l).Perm (x :: l)
 | [] => List.Perm.refl _
 | y :: ys => by
   unfold insB
   split
   . exact (List.Perm.cons y Jo9).trans (List.Perm.swap x y ys)
   . exact List.Perm.refl _
theorem Jfq : ∀ {l : List α}, (Jar lt l).Perm l
 | [] => List.Perm.refl _
 | x :: l => by
   show (insB lt x (Jar lt l)).Perm (x :: l)
   exact Jo9.trans (List.Perm.cons x Jfq)
theorem Je9 {l : List α} : (Jar lt l).length = l.length := Jfq.length_eq
theorem Jpa {l : List α} {x : α} : x ∈ Jar lt l ↔ x ∈ l := Jfq.mem_iff
theorem Jui (h : STO lt) {x : α} : ∀ {l : List α}, AscB lt l -> AscB lt (insB lt x l)
 | [], _ => List.pairwise_singleton _ _
 | y :: ys, hl => by
   have hy := List.pairwise_cons.1 hl
   unfold insB
   cases e : lt y x with
   | true =>
     simp only [if_true]
     refine List.pairwise_cons.2 ⟨fun z hz => ?_, Jui h hy.2⟩
     rcases List.mem_cons.1 (Jo9.mem_iff.1 hz) with rfl | hz
     . exact h.asymm e
     . exact hy.1 z hz
   | false =>
     simp only [Bool.false_eq_true, if_false]
     refine List.pairwise_cons.2 ⟨fun z hz => ?_, hl⟩
     rcases List.mem_cons.1 hz with rfl | hz
     . exact e
     . have h1 := hy.1 z hz
       cases e2 : lt z x with
       | false => rfl
       | true =>
         cases e3 : lt x y with
         | true => rw [h.trans e2 e3] at h1; cases h1
         | false =>
           have := h.total e e3
           subst this
           rw [e2] at h1; cases h1
theorem Jl0 (h : STO lt) : ∀ {l : List α}, AscB lt (Jar lt l)
 | [] => List.Pairwise.nil
 | _ :: _ => Jui h (Jl0 h)
theorem Jr3 (h : STO lt) : ∀ {l m : List α}, AscB lt l -> AscB lt m -> l.Perm m -> l = m
 | [], m, _, _, p => (List.Perm.nil_eq p)
 | x :: l, [], _, _, p => absurd (p.length_eq) (by simp)
 | x :: l, y :: m, hl, hm, p => by
   have hx := List.pairwise_cons.1 hl
   have hy := List.pairwise_cons.1 hm
   have e : x = y := by
     have h1 : x ∈ y :: m := p.mem_iff.1 (by simp)
     have h2 : y ∈ x :: l := p.mem_iff.2 (by simp)
     rcases List.mem_cons.1 h1 with h1 | h1
     . exact h1
     . rcases List.mem_cons.1 h2 with h2 | h2
       . exact h2.symm
       . exact h.total (hy.1 x h1) (hx.1 y h2)
   subst e
   rw [Jr3 h hx.2 hy.2 ((List.perm_cons x).1 p)]
theorem Jl1 (h : STO lt) {l m : List α} (hm : AscB lt m) (p : m.Perm l) : m = Jar lt l := Jr3 h hm (Jl0 h) (p.trans Jfq.symm)
theorem Jum (h : STO lt) {l m : List α} (p : l.Perm m) : Jar lt l = Jar lt m := Jl1 h (Jl0 h) (Jfq.trans p)
theorem Juo (h : STO lt) {l : List α} : (l.mergeSort fun x y => !lt y x) = Jar lt l := by
 refine Jl1 h ?_ (List.mergeSort_perm _ _)
 have := List.pairwise_mergeSort (le := fun x y => !lt y x) (fun a b c h1 h2 => ?_) (fun a b => ?_) l
 . exact this.imp fun h1 => by simpa using h1
 . simp only [Bool.not_eq_true'] at h1 h2 ⊢
   cases e : lt c a with
   | false => rfl
   | true =>
     cases e2 : lt a b with
     | true => rw [h.trans e e2] at h2; cases h2
     | false =>
       have := h.total e2 h1
       subst this
       rw [e] at h2; cases h2
 . simp only [Bool.or_eq_true, Bool.not_eq_true']
   cases e : lt a b with
   | true => exact .inl (h.asymm e)
   | false => exact .inr rfl
theorem Juj {β : Type} {lt' : β -> β -> Bool} {f : α -> β} {x : α} : ∀ {l : List α}, (∀ y ∈ l, lt' (f y) (f x) = lt y x) -> (insB lt x l).map f = insB lt' (f x) (l.map f)
 | [], _ => rfl
 | y :: ys, h => by
   simp only [insB, List.map_cons, h y (by simp)]
   have ih := Juj (l := ys) (fun z hz => h z (List.mem_cons_of_mem _ hz))
   split
   . simp only [List.map_cons, ih]
   . rfl
theorem Jun {β : Type} {lt' : β -> β -> Bool} {f : α -> β} : ∀ {l : List α}, (∀ x ∈ l, ∀ y ∈ l, lt' (f y) (f x) = lt y x) -> (Jar lt l).map f = Jar lt' (l.map f)
 | [], _ => rfl
 | x :: l, h => by
   show (insB lt x (Jar lt l)).map f = insB lt' (f x) (Jar lt' (l.map f))
   rw [Juj (fun y hy => h x (by simp) y (by simp [Jpa.1 hy])), Jun (fun a ha b hb => h a (by simp [ha]) b (by simp [hb]))]
theorem J4d (h : STO lt) {l : List α} (hl : AscB lt l) : Jar lt l = l := (Jl1 h hl (List.Perm.refl _)).symm
def Jb6 (lt : α -> α -> Bool) (l : List α) : Nat -> Nat
 | 0 => 0
 | k + 1 => match l[k]?, l[Jb6 lt l k]? with
   | some x, some y => if lt x y then k else Jb6 lt l k
   | _, _ => Jb6 lt l k
theorem Ju1 {l : List α} {k : Nat} {x y : α} (h1 : l[k]? = some x) (h2 : l[Jb6 lt l k]? = some y) : Jb6 lt l (k + 1) = if lt x y then k else Jb6 lt l k := by
 simp only [Jb6, h1, h2]
theorem Ju0 (h : STO lt) {l : List α} : Jb6 lt l 1 = 0 := by
 unfold Jb6
 split
 . split
   . rfl
   . rfl
 . rfl
theorem Jpg (h : STO lt) {l : List α} : ∀ {k : Nat}, 1 <= k -> k <= l.length -> Jb6 lt l k < k
 | 1, _, _ => by rw [Ju0 h]; omega
 | k + 2, _, hk => by
   have ih := Jpg h (l := l) (k := k + 1) (by omega) (by omega)
   obtain ⟨x, ex⟩ := Jah (xs := l) (k := k + 1) (by omega)
   obtain ⟨y, ey⟩ := Jah (xs := l) (k := Jb6 lt l (k + 1)) (by omega)
   rw [Ju1 ex ey]
   split <;> omega
theorem Juy (h : STO lt) {l : List α} : ∀ {k : Nat}, 1 <= k -> k <= l.length -> ∀ y, l[Jb6 lt l k]? = some y -> ∀ (j : Nat) x, j < k -> l[j]? = some x -> lt x y = false
 | 1, _, _, y, hy, j, x, hj, hx => by
   have e : j = 0 := by omega
   subst e
   rw [Ju0 h, hx] at hy
   cases hy
   exact h.irrefl _
 | k + 2, _, hk, y, hy, j, x, hj, hx => by
   have h1 := Jpg h (l := l) (k := k + 1) (by omega) (by omega)
   obtain ⟨a, ea⟩ := Jah (xs := l) (k := k + 1) (by omega)
   obtain ⟨b, eb⟩ := Jah (xs := l) (k := Jb6 lt l (k + 1)) (by omega)
   have ih := Juy h (l := l) (k := k + 1) (by omega) (by omega) b eb
   rw [Ju1 ea eb] at hy
   by_cases e : j = k + 1
   . subst e
     rw [ea] at hx; cases hx
     split at hy
     . rw [ea] at hy; cases hy; exact h.irrefl _
     . rename_i hn
       rw [eb] at hy; cases hy
       simpa using hn
   . have h2 := ih j x (by omega) hx
     split at hy
     . rename_i hlt
       rw [ea] at hy
       have hya : a = y := by simpa using hy
       subst hya
       cases e2 : lt x a with
       | false => rfl
       | true => rw [h.trans e2 hlt] at h2; cases h2
     . rw [eb] at hy; cases hy
       exact h2
def selN (lt : α -> α -> Bool) : Nat -> List α -> List α
 | 0, _ => []
 | n + 1, l => match l[Jb6 lt l l.length]? with
   | some x => x :: selN lt n (l.take (Jb6 lt l l.length) ++ l.drop (Jb6 lt l l.length + 1))
   | none => []
def selS (lt : α -> α -> Bool) (l : List α) : List α := selN lt l.length l
theorem Jm8 {l : List α} {i : Nat} {x : α} (e : l[i]? = some x) : (x :: (l.take i ++ l.drop (i + 1))).Perm l := by
 obtain ⟨hi, hx⟩ := gsI.1 e
 have : l = l.take i ++ x :: l.drop (i + 1) := by rw [<- hx, <- List.drop_eq_getElem_cons hi, List.take_append_drop]
 conv => rhs; rw [this]
 exact List.perm_middle.symm
theorem Jqp (h : STO lt) : ∀ {n : Nat} {l : List α}, l.length = n -> (selN lt n l).Perm l /\ AscB lt (selN lt n l)
 | 0, l, e => by
   have : l = [] := List.length_eq_zero_iff.1 e
   subst this
   exact ⟨List.Perm.refl _, List.Pairwise.nil⟩
 | n + 1, l, e => by
   have h1 := Jpg h (l := l) (k := l.length) (by omega) (Nat.le_refl _)
   obtain ⟨x, ex⟩ := Jah h1
   have hst := Jm8 ex
   have hl2 : (l.take (Jb6 lt l l.length) ++ l.drop (Jb6 lt l l.length + 1)).length = n := by
     have := hst.length_eq
     simp only [List.length_cons] at this
     omega
   obtain ⟨p, a⟩ := Jqp h hl2
   simp only [selN, ex]
   refine ⟨(List.Perm.cons x p).trans hst, List.pairwise_cons.2 ⟨fun z hz => ?_, a⟩⟩
   have hz2 : z ∈ l := hst.mem_iff.1 (List.mem_cons_of_mem _ (p.mem_iff.1 hz))
   obtain ⟨j, hj⟩ := List.getElem?_of_mem hz2
   exact Juy h (by omega) (Nat.le_refl _) x ex j z (gsI.1 hj).1 hj
theorem Jxk (h : STO lt) {l : List α} : selS lt l = Jar lt l := Jl1 h (Jqp h rfl).2 (Jqp h rfl).1
theorem Juz {β : Type} {lt' : β -> β -> Bool} {f : α -> β} {l : List α} (hf : ∀ x ∈ l, ∀ y ∈ l, lt' (f y) (f x) = lt y x) : ∀ {k : Nat}, Jb6 lt' (l.map f) k = Jb6 lt l k
 | 0 => rfl
 | k + 1 => by
   simp only [Jb6, Juz hf (k := k), List.getElem?_map]
   cases e1 : l[k]? with
   | none => rfl
   | some x =>
     cases e2 : l[Jb6 lt l k]? with
     | none => rfl
     | some y => simp only [Option.map_some, hf y (List.mem_of_getElem? e2) x (List.mem_of_getElem? e1)]
theorem Jxj {β : Type} {lt' : β -> β -> Bool} {f : α -> β} : ∀ {n : Nat} {l : List α}, (∀ x ∈ l, ∀ y ∈ l, lt' (f y) (f x) = lt y x) -> (selN lt n l).map f = selN lt' n (l.map f)
 | 0, _, _ => rfl
 | n + 1, l, hf => by
   simp only [selN, Juz hf, List.length_map, List.getElem?_map]
   cases e : l[Jb6 lt l l.length]? with
   | none => rfl
   | some x =>
     simp only [Option.map_some, List.map_cons, List.cons.injEq, true_and]
     rw [Jxj (fun a ha b hb => hf a ?_ b ?_)]
     . simp [List.map_take, List.map_drop]
     . exact (Jm8 e).mem_iff.1 (List.mem_cons_of_mem _ ha)
     . exact (Jm8 e).mem_iff.1 (List.mem_cons_of_mem _ hb)
end
theorem Jki : STO Op.bytesLess := ⟨Jep, fun h k => Jhy h k, fun h k => Jgv h k⟩
theorem J8t : STO Jcf := ⟨Jwn, fun h k => Jwo h k, fun h k => J7d h k⟩
structure End where
 part : Txt
 port : Txt
 deriving DecidableEq
@[simp] def End.enc (a : End) : List PV := [.str a.part, .str a.port]
@[simp] def End.row (a : End) : List AV := [.p (.str a.part), .p (.str a.port)]
@[simp] def End.av (a : End) : AV := .agg [.p (.str a.part), .p (.str a.port)]
def Jcp (a b : End) : Int := orI [Lib.compareBytes a.part b.part, Lib.compareBytes a.port b.port]
def Jc8 (a b : End) : Bool := if a.part = b.part then Op.bytesLess a.port b.port else Op.bytesLess a.part b.part
theorem Jlg {a b : End} : Jcp a b < 0 ↔ Jc8 a b = true := by
 unfold Jcp Jc8
 simp only [orI]
 by_cases e : a.part = b.part
 . rw [if_pos (Jeb.2 e), if_pos e, <- Jle]
   by_cases h0 : Lib.compareBytes a.port b.port = 0
   . rw [if_pos h0]; omega
   . rw [if_neg h0]
 . rw [if_neg (fun h => e (Jeb.1 h)), if_neg e, Jle]
theorem Jlf {a b : End} : Jcp a b = 0 ↔ a = b := by
 unfold Jcp
 simp only [orI]
 by_cases e : a.part = b.part
 . rw [if_pos (Jeb.2 e)]
   by_cases h0 : Lib.compareBytes a.port b.port = 0
   . rw [if_pos h0]
     have := Jeb.1 h0
     obtain ⟨x, y⟩ := a
     obtain ⟨u, v⟩ := b
     simp_all
   . rw [if_neg h0]
     constructor
     . intro h; exact absurd h h0
     . rintro rfl; exact absurd (Jeb.2 rfl) h0
 . rw [if_neg (fun h => e (Jeb.1 h))]
   constructor
   . intro h; exact absurd (Jeb.1 h) e
   . rintro rfl; exact absurd rfl e
theorem Jex : STO Jc8 := by
 refine ⟨fun a => by simp [Jc8, Jep], fun {a b c} h k => ?_, fun {a b} h k => ?_⟩
 . unfold Jc8 at h k ⊢
   by_cases e1 : a.part = b.part <;> by_cases e2 : b.part = c.part
   . rw [if_pos e1] at h; rw [if_pos e2] at k; rw [if_pos (e1.trans e2)]; exact Jhy h k
   . rw [if_neg e2] at k; rw [if_neg (e1 ▸ e2), e1]; exact k
   . rw [if_neg e1] at h; rw [if_neg (e2 ▸ e1), <- e2]; exact h
   . rw [if_neg e1] at h; rw [if_neg e2] at k
     have := Jhy h k
     rw [if_neg (fun e => by rw [e, Jep] at this; cases this)]
     exact this
 . unfold Jc8 at h k
   by_cases e : a.part = b.part
   . rw [if_pos e] at h; rw [if_pos e.symm] at k
     obtain ⟨x, y⟩ := a
     obtain ⟨u, v⟩ := b
     simp only at e h k
     rw [e, Jgv h k]
   . rw [if_neg e] at h; rw [if_neg (Ne.symm e)] at k
     exact absurd (Jgv h k) e
theorem Jg0 {a b : End} : 0 < Jcp a b ↔ Jc8 b a = true := by
 constructor
 . intro h
   cases e : Jc8 b a with
   | true => rfl
   | false =>
     cases e2 : Jc8 a b with
     | true => have := Jlg.2 e2; omega
     | false =>
       have := Jex.total e e2
       have := Jlf.2 this.symm
       omega
 . intro h
   have h1 : ¬ Jcp a b < 0 := fun h2 => by have := Jex.asymm h; rw [Jlg.1 h2] at this; cases this
   have h2 : Jcp a b ≠ 0 := fun h2 => by have := Jlf.1 h2; subst this; rw [Jex.irrefl] at h; cases h
   omega
abbrev EndP := End × End
@[simp] def EndP.enc (x : EndP) : List PV := [.str x.1.part, .str x.1.port, .str x.2.part, .str x.2.port]
@[simp] def EndP.row (x : EndP) : List AV := [.p (.str x.1.part), .p (.str x.1.port), .p (.str x.2.part), .p (.str x.2.port)]
@[simp] def EndP.av (x : EndP) : AV := .agg [.p (.str x.1.part), .p (.str x.1.port), .p (.str x.2.part), .p (.str x.2.port)]
def Jer (a b : EndP) : Int := orI [Jcp a.1 b.1, Jcp a.2 b.2]
def Ja6 (a b : EndP) : Bool := if a.1 = b.1 then Jc8 a.2 b.2 else Jc8 a.1 b.1
theorem J2d {a b : EndP} : Jer a b < 0 ↔ Ja6 a b = true := by
 unfold Jer Ja6
 simp only [orI]
 by_cases e : a.1 = b.1
 . rw [if_pos (Jlf.2 e), if_pos e, <- Jlg]
   by_cases h0 : Jcp a.2 b.2 = 0
   . rw [if_pos h0]; omega
   . rw [if_neg h0]
 . rw [if_neg (fun h => e (Jlf.1 h)), if_neg e, Jlg]
theorem Jhh : STO Ja6 := by
 refine ⟨fun a => by simp [Ja6, Jex.irrefl], fun {a b c} h k => ?_, fun {a b} h k => ?_⟩
 . unfold Ja6 at h k ⊢
   by_cases e1 : a.1 = b.1 <;> by_cases e2 : b.1 = c.1
   . rw [if_pos e1] at h; rw [if_pos e2] at k; rw [if_pos (e1.trans e2)]; exact Jex.trans h k
   . rw [if_neg e2] at k; rw [if_neg (e1 ▸ e2), e1]; exact k
   . rw [if_neg e1] at h; rw [if_neg (e2 ▸ e1), <- e2]; exact h
   . rw [if_neg e1] at h; rw [if_neg e2] at k
     have := Jex.trans h k
     rw [if_neg (fun e => by rw [e, Jex.irrefl] at this; cases this)]
     exact this
 . unfold Ja6 at h k
   by_cases e : a.1 = b.1
   . rw [if_pos e] at h; rw [if_pos e.symm] at k
     exact Prod.ext e (Jex.total h k)
   . rw [if_neg e] at h; rw [if_neg (Ne.symm e)] at k
     exact absurd (Jex.total h k) e
def ordE (a b : End) : EndP := if 0 < Jcp a b then (b, a) else (a, b)
theorem J6z {a b : End} : ordE a b = ordE b a := by
 unfold ordE
 by_cases h : 0 < Jcp a b
 . have h2 : ¬ 0 < Jcp b a := fun h2 => by
     have := Jex.asymm (Jg0.1 h); rw [Jg0.1 h2] at this; cases this
   rw [if_pos h, if_neg h2]
 . by_cases h2 : 0 < Jcp b a
   . rw [if_neg h, if_pos h2]
   . rw [if_neg h, if_neg h2]
     have e : a = b := by
       refine Jex.total ?_ ?_
       . cases e : Jc8 a b with
         | false => rfl
         | true => exact absurd (Jg0.2 e) h2
       . cases e : Jc8 b a with
         | false => rfl
         | true => exact absurd (Jg0.2 e) h
     rw [e]
theorem Jpq {a b c d : End} : ordE a b = ordE c d ↔ (a = c /\ b = d) \/ (a = d /\ b = c) := by
 constructor
 . intro h
   unfold ordE at h
   split at h <;> split at h <;> simp only [Prod.mk.injEq] at h
   . exact .inl ⟨h.2, h.1⟩
   . exact .inr ⟨h.2, h.1⟩
   . exact .inr ⟨h.1, h.2⟩
   . exact .inl h
 . rintro (⟨rfl, rfl⟩ | ⟨rfl, rfl⟩)
   . rfl
   . exact J6z
structure Drf where
 parts : List Part
 pipes : List EndP
 deriving DecidableEq
def Jao (ps : List Part) : List Txt := Jar Op.bytesLess (ps.map (·.name))
def Jem (ps : List Part) (s : Txt) : Part := (ps.find? fun p => decide (p.name = s)).getD ⟨0, [], 0⟩
def atNm (nms : List Txt) (s : Txt) : Int := match nms.findIdx? fun n => decide (n = s) with | some i => i | none => 0
def Jcr (nms : List Txt) (x : EndP) : Pipe := ⟨⟨atNm nms x.1.part, x.1.port⟩, ⟨atNm nms x.2.part, x.2.port⟩⟩
def Je5 (d : Drf) : Circuit := ⟨(Jao d.parts).map (Jem d.parts), (Jar Ja6 d.pipes).map (Jcr (Jao d.parts))⟩
def Jew (p q : Part) : Bool := Op.bytesLess p.name q.name
def Jq3 (c : Circuit) (x : EndP) : Pipe :=
 let a : Port := ⟨idxI c.parts fun p => decide (p.name = x.1.part), x.1.port⟩
 let b : Port := ⟨idxI c.parts fun p => decide (p.name = x.2.part), x.2.port⟩
 if Jax b a then ⟨b, a⟩ else ⟨a, b⟩
def Ja0 (d : Drf) : Circuit := ⟨selS Jew d.parts, selS Jcf (d.pipes.map (Jq3 ⟨selS Jew d.parts, []⟩))⟩
structure DrfOk (d : Drf) : Prop where
 nd : (d.parts.map (·.name)).Nodup
 ends : ∀ x ∈ d.pipes, x.1.part ∈ d.parts.map (·.name) /\ x.2.part ∈ d.parts.map (·.name)
theorem Jtt {ps : List Part} (h : (ps.map (·.name)).Nodup) {p : Part} (hp : p ∈ ps) : Jem ps p.name = p := by
 unfold Jem
 have : ps.find? (fun q => decide (q.name = p.name)) = some p := by
   induction ps with
   | nil => cases hp
   | cons q ps ih =>
     rw [List.map_cons, List.nodup_cons] at h
     rcases List.mem_cons.1 hp with rfl | hp
     . simp
     . have hne : q.name ≠ p.name := fun e => h.1 (e ▸ List.mem_map_of_mem hp)
       rw [List.find?_cons_of_neg (by simpa using hne)]
       exact ih h.2 hp
 rw [this]; rfl
theorem Jm3 {ps : List Part} : (selS Jew ps).map (·.name) = Jao ps := by
 unfold selS Jao
 rw [Jxj (lt := Jew) (lt' := Op.bytesLess) (f := fun p : Part => p.name) (fun x _ y _ => rfl), <- Jxk Jki]
 unfold selS
 rw [List.length_map]
theorem Jvb {α : Type} {lt : α -> α -> Bool} : ∀ {n : Nat} {l : List α} {x : α}, x ∈ selN lt n l -> x ∈ l
 | 0, _, _, h => by cases h
 | n + 1, l, x, h => by
   simp only [selN] at h
   split at h
   . rename_i y e
     rcases List.mem_cons.1 h with rfl | h
     . exact List.mem_of_getElem? e
     . exact (Jm8 e).mem_iff.1 (List.mem_cons_of_mem _ (Jvb h))
   . cases h
theorem Jqq {ps : List Part} (h : (ps.map (·.name)).Nodup) : selS Jew ps = (Jao ps).map (Jem ps) := by
 rw [<- Jm3, List.map_map]
 conv => lhs; rw [<- List.map_id (selS Jew ps)]
 refine List.map_congr_left fun p hp => ?_
 exact (Jtt h (Jvb hp)).symm
theorem Jjw {ps : List Part} {s : Txt} : s ∈ Jao ps ↔ s ∈ ps.map (·.name) := Jpa
theorem Jve {ps : List Part} (h : (ps.map (·.name)).Nodup) : (Jao ps).Nodup := Jfq.nodup_iff.2 h
theorem Juh {ps : List Part} (h : (ps.map (·.name)).Nodup) {s : Txt} (hs : s ∈ ps.map (·.name)) : idxI (selS Jew ps) (fun p => decide (p.name = s)) = atNm (Jao ps) s := by
 rw [<- Jm3]
 unfold idxI atNm
 rw [List.findIdx?_map]
 have e : ((fun n => decide (n = s)) ∘ fun p : Part => p.name) = fun p : Part => decide (p.name = s) := rfl
 rw [e]
 have hm : s ∈ (selS Jew ps).map (·.name) := by rw [Jm3]; exact Jjw.2 hs
 cases e2 : (selS Jew ps).findIdx? fun p => decide (p.name = s) with
 | some i => rfl
 | none =>
   rw [List.findIdx?_eq_none_iff] at e2
   obtain ⟨p, hp, rfl⟩ := List.mem_map.1 hm
   have := e2 p hp
   simp at this
theorem Jhw {nms : List Txt} (hn : nms.Nodup) {i : Nat} {s : Txt} (e : nms[i]? = some s) : atNm nms s = i := by
 have hi := (gsI.1 e).1
 have : nms.findIdx? (fun n => decide (n = s)) = some i := by
   rw [List.findIdx?_eq_some_iff_getElem]
   refine ⟨hi, by rw [(gsI.1 e).2]; simp, fun j hj => ?_⟩
   have h1 := List.pairwise_iff_getElem.1 hn j i (by omega) hi hj
   rw [(gsI.1 e).2] at h1
   simpa using h1
 unfold atNm; rw [this]
theorem Jr8 {ps : List Part} (h : (ps.map (·.name)).Nodup) {s t : Txt} (hs : s ∈ ps.map (·.name)) (ht : t ∈ ps.map (·.name)) : (atNm (Jao ps) s < atNm (Jao ps) t ↔ Op.bytesLess s t = true) /\ (atNm (Jao ps) s = atNm (Jao ps) t ↔ s = t) := by
 obtain ⟨i, ei⟩ := List.getElem?_of_mem (Jjw.2 hs)
 obtain ⟨j, ej⟩ := List.getElem?_of_mem (Jjw.2 ht)
 have hn := Jve h
 rw [Jhw hn ei, Jhw hn ej]
 obtain ⟨hi, ei'⟩ := gsI.1 ei
 obtain ⟨hj, ej'⟩ := gsI.1 ej
 have hasc : AscB Op.bytesLess (Jao ps) := Jl0 Jki
 have hp := List.pairwise_iff_getElem.1 hasc
 have hinj : i = j ↔ s = t := by
   constructor
   . rintro rfl; rw [ei] at ej; cases ej; rfl
   . rintro rfl
     have h1 := Jhw hn ei
     rw [Jhw hn ej] at h1
     omega
 constructor
 . constructor
   . intro hlt
     have h1 := hp i j hi hj (by omega)
     rw [ei', ej'] at h1
     cases e : Op.bytesLess s t with
     | true => rfl
     | false => have := hinj.2 (Jgv e h1); omega
   . intro hb
     rcases Nat.lt_trichotomy i j with h1 | h1 | h1
     . omega
     . have := hinj.1 h1; subst this; rw [Jep] at hb; cases hb
     . have h2 := hp j i hj hi h1
       rw [ei', ej', hb] at h2; cases h2
 . rw [<- hinj]; omega
theorem Jmq {ps : List Part} (h : (ps.map (·.name)).Nodup) {a b : End} (ha : a.part ∈ ps.map (·.name)) (hb : b.part ∈ ps.map (·.name)) : Jax ⟨atNm (Jao ps) a.part, a.port⟩ ⟨atNm (Jao ps) b.part, b.port⟩ = Jc8 a b := by
 obtain ⟨h1, h2⟩ := Jr8 h ha hb
 unfold Jax Jc8
 simp only [h2]
 split
 . rfl
 . rw [Bool.eq_iff_iff, decide_eq_true_eq]; exact h1
theorem J7e {ps : List Part} (h : (ps.map (·.name)).Nodup) {x y : EndP} (hx : x.1.part ∈ ps.map (·.name) /\ x.2.part ∈ ps.map (·.name)) (hy : y.1.part ∈ ps.map (·.name) /\ y.2.part ∈ ps.map (·.name)) : Jcf (Jcr (Jao ps) x) (Jcr (Jao ps) y) = Ja6 x y := by
 have e : (Jcr (Jao ps) x).fr = (Jcr (Jao ps) y).fr ↔ x.1 = y.1 := by
   obtain ⟨⟨a, b⟩, _⟩ := x
   obtain ⟨⟨c, d⟩, _⟩ := y
   simp only [Jcr, Port.mk.injEq, End.mk.injEq, (Jr8 h hx.1 hy.1).2]
 unfold Jcf Ja6
 simp only [e]
 split
 . exact Jmq h hx.2 hy.2
 . exact Jmq h hx.1 hy.1
theorem J81 {ps : List Part} (h : (ps.map (·.name)).Nodup) {x : EndP} (hx : x.1.part ∈ ps.map (·.name) /\ x.2.part ∈ ps.map (·.name)) : Jq3 ⟨selS Jew ps, []⟩ x = Jcr (Jao ps) (ordE x.1 x.2) := by
 unfold Jq3
 simp only [Juh h hx.1, Juh h hx.2, Jmq h hx.2 hx.1]
 unfold ordE
 by_cases e : Jc8 x.2 x.1 = true
 . rw [if_pos e, if_pos (Jg0.2 e)]; rfl
 . rw [if_neg e, if_neg (fun h => e (Jg0.1 h))]; rfl
theorem Jpp {ps : List Part} {x : EndP} (hx : x.1.part ∈ ps.map (·.name) /\ x.2.part ∈ ps.map (·.name)) : (ordE x.1 x.2).1.part ∈ ps.map (·.name) /\ (ordE x.1 x.2).2.part ∈ ps.map (·.name) := by
 unfold ordE
 split
 . exact ⟨hx.2, hx.1⟩
 . exact hx
theorem Jjl {d : Drf} (h : DrfOk d) : Je5 ⟨d.parts, d.pipes.map fun x => ordE x.1 x.2⟩ = Ja0 d := by
 unfold Je5 Ja0
 rw [Jqq h.nd, Jxk J8t]
 congr 1
 rw [Jun (lt' := Jcf) (f := Jcr (Jao d.parts)), List.map_map]
 . congr 1
   refine List.map_congr_left fun x hx => ?_
   rw [<- Jqq h.nd, J81 h.nd (h.ends x hx)]; rfl
 . intro x hx y hy
   obtain ⟨x', hx', rfl⟩ := List.mem_map.1 hx
   obtain ⟨y', hy', rfl⟩ := List.mem_map.1 hy
   exact J7e h.nd (Jpp (h.ends y' hy')) (Jpp (h.ends x' hx'))
end Go.Am
namespace Go.Am
open Go Go.Proofs Go.Pn
def fldG : Txt -> Txt -> List Txt
 | cur, [] => if cur = [] then [] else [cur]
 | cur, b :: t => if b = 32 then (if cur = [] then fldG [] t else cur :: fldG [] t) else fldG (cur ++ [b]) t
theorem Jtx {s : Txt} : ∀ {k : Nat}, k <= s.length -> (fldK s k).1 ++ fldG (fldK s k).2 (s.drop k) = fldG [] s
 | 0, _ => by simp [fldK]
 | k + 1, h => by
   have ih := Jtx (s := s) (k := k) (by omega)
   rw [<- ih]
   have hk : k < s.length := by omega
   obtain ⟨b, e⟩ := Jah hk
   have hd : s.drop k = b :: s.drop (k + 1) := by rw [List.drop_eq_getElem_cons hk]; rw [List.getElem?_eq_getElem hk] at e; cases e; rfl
   rw [hd]
   simp only [fldK, e, fldG]
   by_cases hb : b = 32
   . rw [if_neg (by simpa using hb), if_pos hb]
     by_cases hc : (fldK s k).2 = []
     . simp [hc]
     . simp [hc]
   . rw [if_pos hb, if_neg hb]
theorem Jo4 {s : Txt} : fldR s = fldG [] s := by
 have h := Jtx (s := s) (k := s.length) (Nat.le_refl _)
 rw [List.drop_length] at h
 rw [<- h]
 unfold fldR
 have hn : s[s.length]? = none := by simp
 simp only [fldK, hn, fldG]
 split <;> simp
theorem Jtw : ∀ {u : Txt} {cur t : Txt}, (∀ b ∈ u, b ≠ 32) -> fldG cur (u ++ t) = fldG (cur ++ u) t
 | [], cur, t, _ => by simp
 | b :: u, cur, t, h => by
   have hb := h b (by simp)
   rw [List.cons_append, fldG, if_neg hb, Jtw (fun x hx => h x (by simp [hx]))]
   simp
theorem J2o (n b0 b1 b2 b3 : Nat) : ((Lib.decodeN n b0 b1 b2 b3).1 = 32 -> b0 = 32 /\ (Lib.decodeN n b0 b1 b2 b3).2 = 1) /\
   ((Lib.decodeN n b0 b1 b2 b3).1 ≠ 32 -> b0 ≠ 32 /\ (1 < (Lib.decodeN n b0 b1 b2 b3).2 -> b1 ≠ 32) /\ (2 < (Lib.decodeN n b0 b1 b2 b3).2 -> b2 ≠ 32) /\ (3 < (Lib.decodeN n b0 b1 b2 b3).2 -> b3 ≠ 32) /\ (Lib.decodeN n b0 b1 b2 b3).2 <= 4) := by
 unfold Lib.decodeN
 repeat' split
 all_goals (refine ⟨fun h => ⟨?_, ?_⟩, fun h => ⟨?_, fun h2 => ?_, fun h2 => ?_, fun h2 => ?_, ?_⟩⟩ <;> dsimp only at * <;> omega)
theorem J2p {s : Txt} {pos : Nat} (h : pos < s.length) : ((Utf8.decode ⟨⟨s⟩⟩ pos).1 = 32 -> s[pos]? = some 32 /\ (Utf8.decode ⟨⟨s⟩⟩ pos).2 = 1) /\ ((Utf8.decode ⟨⟨s⟩⟩ pos).1 ≠ 32 -> ∀ b ∈ (s.drop pos).take (Utf8.decode ⟨⟨s⟩⟩ pos).2, b ≠ 32) := by
 have e := Lib.decode_N ⟨⟨s⟩⟩ pos
 have hf := J2o (s.length - pos) (s.getD pos 0).toNat (s.getD (pos + 1) 0).toNat (s.getD (pos + 2) 0).toNat (s.getD (pos + 3) 0).toNat
 have e2 : (⟨⟨s⟩⟩ : ByteArray).data.toList = s := rfl
 rw [e2] at e
 rw [<- e] at hf
 obtain ⟨f1, f2⟩ := hf
 have hget : ∀ j b, s[pos + j]? = some b -> s.getD (pos + j) 0 = b := fun j b hj => by rw [List.getD_eq_getElem?_getD, hj]; rfl
 refine ⟨fun h1 => ?_, fun h1 b hb => ?_⟩
 . obtain ⟨g1, g2⟩ := f1 h1
   obtain ⟨b, eb⟩ := Jah h
   have := hget 0 b (by simpa using eb)
   simp only [Nat.add_zero] at this
   rw [this] at g1
   have hb : b = 32 := UInt8.toNat_inj.1 (by simpa using g1)
   exact ⟨by rw [eb, hb], g2⟩
 . obtain ⟨g0, g1, g2, g3, g4⟩ := f2 h1
   obtain ⟨j, hj⟩ := List.getElem?_of_mem hb
   have hjw : j < (Utf8.decode ⟨⟨s⟩⟩ pos).2 := by
     have := (gsI.1 hj).1
     rw [List.length_take] at this; omega
   rw [List.getElem?_take_of_lt hjw, List.getElem?_drop] at hj
   rintro rfl
   have hv := hget j 32 hj
   rcases (by omega : j = 0 \/ j = 1 \/ j = 2 \/ j = 3) with rfl | rfl | rfl | rfl
   . rw [Nat.add_zero] at hv; rw [hv] at g0; exact g0 rfl
   . rw [hv] at g1; exact g1 (by omega) rfl
   . rw [hv] at g2; exact g2 (by omega) rfl
   . rw [hv] at g3; exact g3 (by omega) rfl
theorem J8m (s : Txt) : ∀ (f pos : Nat) (st : Option Nat) (acc : List (Nat × Nat)), s.length <= pos + f -> pos <= s.length -> (∀ a, st = some a -> a < pos) ->
   acc.map (fun p => Lib.pieceU s p.1 p.2) ++ fldG (Lib.openPiece s st pos) (s.drop pos) = (Lib.closeSpans ⟨⟨s⟩⟩ (Lib.spansFromP (fun x => x == 32) ⟨⟨s⟩⟩ f pos st acc)).map (fun p => Lib.pieceU s p.1 p.2) := by
 have hsz : (⟨⟨s⟩⟩ : ByteArray).size = s.length := rfl
 have hend : ∀ (f : Nat) (st : Option Nat) (acc : List (Nat × Nat)), (∀ a, st = some a -> a < s.length) ->
     acc.map (fun p => Lib.pieceU s p.1 p.2) ++ fldG (Lib.openPiece s st s.length) (s.drop s.length) = (Lib.closeSpans ⟨⟨s⟩⟩ (Lib.spansFromP (fun x => x == 32) ⟨⟨s⟩⟩ f s.length st acc)).map (fun p => Lib.pieceU s p.1 p.2) := fun f st acc hst => by
   rw [Lib.spansFromP_end _ _ _ _ _ _ (by rw [hsz]; omega), List.drop_length]
   cases st with
   | none => simp [Lib.closeSpans, Lib.openPiece, fldG]
   | some a =>
     have := Lib.pieceU_ne s a s.length (hst a rfl) (Nat.le_refl _)
     simp [Lib.closeSpans, Lib.openPiece, fldG, this, hsz]
 intro f
 induction f with
 | zero =>
   intro pos st acc h hp hst
   obtain rfl : pos = s.length := by omega
   exact hend 0 st acc hst
 | succ f ih =>
   intro pos st acc h hp hst
   by_cases hlt : pos < s.length
   . have hw := Lib.width_pos ⟨⟨s⟩⟩ pos
     have hwn : pos + (Utf8.decode ⟨⟨s⟩⟩ pos).2 <= s.length := by
       have := Lib.decodeN_le_n' ((⟨⟨s⟩⟩ : ByteArray).size - pos) ((⟨⟨s⟩⟩ : ByteArray).get! pos).toNat ((⟨⟨s⟩⟩ : ByteArray).get! (pos + 1)).toNat ((⟨⟨s⟩⟩ : ByteArray).get! (pos + 2)).toNat ((⟨⟨s⟩⟩ : ByteArray).get! (pos + 3)).toNat (by rw [hsz]; omega)
       rw [<- Lib.decode_at, hsz] at this
       omega
     obtain ⟨c1, c2⟩ := J2p hlt
     have hsp : s.drop pos = (s.drop pos).take (Utf8.decode ⟨⟨s⟩⟩ pos).2 ++ s.drop (pos + (Utf8.decode ⟨⟨s⟩⟩ pos).2) := by rw [<- List.drop_drop, List.take_append_drop]
     simp only [Lib.spansFromP, hsz, if_pos hlt]
     by_cases hb : (Utf8.decode ⟨⟨s⟩⟩ pos).1 = 32
     . obtain ⟨d1, d2⟩ := c1 hb
       have hd : s.drop pos = 32 :: s.drop (pos + 1) := by rw [List.drop_eq_getElem_cons hlt]; rw [List.getElem?_eq_getElem hlt, Option.some.injEq] at d1; rw [d1]
       simp only [hb, beq_self_eq_true, if_true, d2, hd, fldG]
       cases st with
       | none =>
         have := ih (pos + 1) none acc (by omega) (by omega) (fun a h => by cases h)
         simpa [Lib.openPiece] using this
       | some a =>
         have hpn := Lib.pieceU_ne s a pos (hst a rfl) (by omega)
         have := ih (pos + 1) none (acc ++ [(a, pos)]) (by omega) (by omega) (fun a h => by cases h)
         simpa [Lib.openPiece, hpn] using this
     . have hb2 : ((Utf8.decode ⟨⟨s⟩⟩ pos).1 == 32) = false := by simpa using hb
       rw [hsp, Jtw (c2 hb)]
       simp only [hb2, Bool.false_eq_true, if_false]
       cases st with
       | none =>
         have := ih (pos + (Utf8.decode ⟨⟨s⟩⟩ pos).2) (some pos) acc (by omega) hwn (fun a h => by cases h; omega)
         have e : Lib.openPiece s none pos ++ (s.drop pos).take (Utf8.decode ⟨⟨s⟩⟩ pos).2 = Lib.openPiece s (some pos) (pos + (Utf8.decode ⟨⟨s⟩⟩ pos).2) := by
           simp only [Lib.openPiece]
           unfold Lib.pieceU
           rw [List.nil_append, Nat.add_sub_cancel_left]
         rw [e]; exact this
       | some a =>
         have := ih (pos + (Utf8.decode ⟨⟨s⟩⟩ pos).2) (some a) acc (by omega) hwn (fun b h => by cases h; have := hst a rfl; omega)
         have e : Lib.openPiece s (some a) pos ++ (s.drop pos).take (Utf8.decode ⟨⟨s⟩⟩ pos).2 = Lib.openPiece s (some a) (pos + (Utf8.decode ⟨⟨s⟩⟩ pos).2) := by
           simp only [Lib.openPiece]
           rw [Lib.pieceU_grow _ _ _ _ (Nat.le_of_lt (hst a rfl))]
         rw [e]; exact this
   . obtain rfl : pos = s.length := by omega
     exact hend (f + 1) st acc hst
theorem J30 (s : Txt) : (Lib.goFieldsP (fun x => x == 32) ⟨⟨s⟩⟩).map (fun x => x.data.toList) = fldR s := by
 have h := J8m s s.length 0 none [] (by omega) (by omega) (fun a h => by cases h)
 rw [Jo4]
 have e : fldG [] s = fldG (Lib.openPiece s none 0) (s.drop 0) := rfl
 rw [e]
 rw [List.map_nil, List.nil_append] at h
 rw [h]
 unfold Lib.goFieldsP Lib.spansOfP
 have hsz : (⟨⟨s⟩⟩ : ByteArray).size = s.length := rfl
 rw [List.map_map, hsz]
 refine List.map_congr_left fun p _ => ?_
 simp only [Function.comp, Lib.pieceU, Lib.extract_data]
def linS : Txt -> Txt -> List Txt × Txt
 | [], cur => ([], cur)
 | b :: t, cur => if b = 10 then (cur :: (linS t []).1, (linS t []).2) else linS t (cur ++ [b])
def Jaz (s : Txt) : List Txt := (linS s []).1
theorem Jl6 : ∀ {s cur : Txt}, (linS s cur).1.length <= s.length
 | [], cur => by simp [linS]
 | b :: t, cur => by
   unfold linS
   split
   . simp only [List.length_cons]
     have := @Jl6 t []
     omega
   . have := @Jl6 t (cur ++ [b])
     simp only [List.length_cons]
     omega
theorem Jl7 : ∀ {s cur : Txt} {l : Txt}, l ∈ (linS s cur).1 -> l.length <= cur.length + s.length
 | [], cur, l, h => by simp [linS] at h
 | b :: t, cur, l, h => by
   unfold linS at h
   split at h
   . rcases List.mem_cons.1 h with rfl | h
     . simp
     . have := @Jl7 t [] l h
       simp only [List.length_cons, List.length_nil] at this ⊢
       omega
   . have := @Jl7 t (cur ++ [b]) l h
     simp only [List.length_cons, List.length_append, List.length_nil] at this ⊢
     omega
theorem Jjt : ∀ {s cur : Txt}, s ≠ [] -> ((linS s cur).2 = [] ↔ s.getLast? = some 10)
 | [], _, h => absurd rfl h
 | [b], cur, _ => by
   unfold linS
   by_cases hb : b = 10
   . subst hb; simp [linS]
   . simp [hb, linS]
 | b :: c :: t, cur, _ => by
   unfold linS
   rw [List.getLast?_cons_cons]
   split
   . exact Jjt (s := c :: t) (by simp)
   . exact Jjt (s := c :: t) (by simp)
end Go.Am
namespace Go.Am
open Go Go.Proofs Go.Pn
def dotI (s : Txt) : Int := idxI s fun b => decide (b = 46)
def befD (s : Txt) : Txt := s.take (dotI s).toNat
def aftD (s : Txt) : Txt := s.drop ((dotI s).toNat + 1)
def Jg6 (ps : List Part) (s : Txt) : Option Int := (ps.find? fun p => decide (p.name = s)).map (·.kind)
def Jpz (k : Int) (s : Txt) : Bool := decide (0 <= Jd5 k.toNat s)
def Jcn (ps : List Part) (s : Txt) : Int := if dotI s < 0 then 4 else match Jg6 ps (befD s) with
 | none => 6
 | some k => if Jpz k (aftD s) then 0 else 6
def Jcg (ps : List Part) (s : Txt) : End := if Jcn ps s = 0 then ⟨befD s, aftD s⟩ else ⟨[], []⟩
def Jb4 (w : Txt) : Int := idxI (List.range 14) fun k => decide (Ji8 k = w)
def partOf (a b : Txt) (o : Option Txt) : Part := ⟨Jb4 b, a, match o with | some c => valOf c | none => 0⟩
def Jj3 (o : Option Txt) : Int := match o with | some c => Jda c | none => 0
def Jbl (ps : List Part) (a b : Txt) (o : Option Txt) : Int :=
 if Jb4 b < 0 then 6 else if Jj3 o ≠ 0 then Jj3 o else if Ja8 (partOf a b o) ≠ 0 then Ja8 (partOf a b o) else if a ∈ ps.map (·.name) then 7 else if ps.length = 64 then 5 else 0
def Jbd (ps : List Part) (a b : Txt) (o : Option Txt) : List Part := if Jbl ps a b o = 0 then ps ++ [partOf a b o] else ps
def Jc1 (ps : List Part) : List Txt -> Int
 | [a, b] => Jbl ps a b none
 | [a, b, c] => Jbl ps a b (some c)
 | _ => 4
def Jbf (ps : List Part) : List Txt -> List Part
 | [a, b] => Jbd ps a b none
 | [a, b, c] => Jbd ps a b (some c)
 | _ => ps
def ordX (x : EndP) : EndP := ordE x.1 x.2
def Jc2 (d : Drf) (a b : Txt) : Int :=
 if Jcn d.parts a ≠ 0 then Jcn d.parts a else if Jcn d.parts b ≠ 0 then Jcn d.parts b else
 if Jcg d.parts a = Jcg d.parts b \/ ordE (Jcg d.parts a) (Jcg d.parts b) ∈ d.pipes.map ordX then 7 else if d.pipes.length = 256 then 5 else 0
def Jce (d : Drf) (a b : Txt) : List EndP := if Jc2 d a b = 0 then d.pipes ++ [(Jcg d.parts a, Jcg d.parts b)] else d.pipes
def Jdh (d : Drf) : List Txt -> Int
 | [a, b] => Jc2 d a b
 | _ => 4
def Jbo (d : Drf) : List Txt -> List EndP
 | [a, b] => Jce d a b
 | _ => d.pipes
def Jdb : Txt := [112, 97, 114, 116]
def Jdx : Txt := [112, 105, 112, 101]
def Jys (d : Drf) : List Txt -> Int
 | [] => 0
 | h :: t => if h.head? = some 35 then 0 else if h = Jdb then Jc1 d.parts t else if h = Jdx then Jdh d t else 4
def Jgr (d : Drf) : List Txt -> Drf
 | [] => d
 | h :: t => if h.head? = some 35 then d else if h = Jdb then ⟨Jbf d.parts t, d.pipes⟩ else if h = Jdx then ⟨d.parts, Jbo d t⟩ else d
def linE (d : Drf) (s : Txt) : Int := Jys d (fldR s)
def Jb1 (d : Drf) (s : Txt) : Drf := Jgr d (fldR s)
def runD (d : Drf) : List Txt -> Drf
 | [] => d
 | l :: ls => if linE d l = 0 then runD (Jb1 d l) ls else Jb1 d l
def Jhe (d : Drf) : List Txt -> Nat
 | [] => 0
 | l :: ls => if linE d l = 0 then Jhe (Jb1 d l) ls + 1 else 0
def runE (d : Drf) : List Txt -> Int
 | [] => 0
 | l :: ls => if linE d l = 0 then runE (Jb1 d l) ls else linE d l
def noD : Drf := ⟨[], []⟩
def noC : Circuit := ⟨[], []⟩
def prsE (s : Txt) : Int := if 16384 < s.length then 17 else if (linS s []).2 ≠ [] then 18 else
 if runE noD (Jaz s) ≠ 0 then runE noD (Jaz s) else Jad (Ja0 (runD noD (Jaz s)))
def prsI (s : Txt) : Int := if 16384 < s.length then 0 else if (linS s []).2 ≠ [] then 0 else
 if runE noD (Jaz s) ≠ 0 then Jhe noD (Jaz s) else if Jad (Ja0 (runD noD (Jaz s))) ≠ 0 then (Jaz s).length else 0
def prsC (s : Txt) : Circuit := if prsE s = 0 then Ja0 (runD noD (Jaz s)) else noC
theorem J4p {ps : List Part} {s : Txt} {k : Int} (h : Jg6 ps s = some k) : s ∈ ps.map (·.name) := by
 unfold Jg6 at h
 obtain ⟨p, hp, _⟩ := Option.map_eq_some_iff.1 h
 have h2 := List.find?_some hp
 exact List.mem_map.2 ⟨p, List.mem_of_find?_eq_some hp, by simpa using h2⟩
theorem Jws {ps : List Part} {s : Txt} (h : Jcn ps s = 0) : (Jcg ps s).part ∈ ps.map (·.name) := by
 unfold Jcg
 rw [if_pos h]
 unfold Jcn at h
 split at h
 . cases h
 . split at h
   . cases h
   . rename_i k e
     exact J4p e
theorem Jwb {ps : List Part} {a b : Txt} {o : Option Txt} : ∀ p ∈ ps, p ∈ Jbd ps a b o := fun p hp => by
 unfold Jbd; split
 . exact List.mem_append_left _ hp
 . exact hp
theorem Jwe {ps : List Part} {w : List Txt} : ∀ p ∈ ps, p ∈ Jbf ps w := fun p hp => by
 unfold Jbf; split
 . exact Jwb p hp
 . exact Jwb p hp
 . exact hp
theorem Jwa {ps : List Part} {a b : Txt} {o : Option Txt} (h : (ps.map (·.name)).Nodup) : ((Jbd ps a b o).map (·.name)).Nodup := by
 unfold Jbd
 split
 . rename_i e
   rw [List.map_append, List.nodup_append]
   refine ⟨h, by simp, fun x hx y hy => ?_⟩
   simp [partOf] at hy
   subst hy
   intro e2
   subst e2
   unfold Jbl at e
   split at e
   . cases e
   . split at e
     . contradiction
     . split at e
       . contradiction
       . first | (rw [if_pos hx] at e; cases e) | cases e
 . exact h
theorem J66 {ps : List Part} {w : List Txt} (h : (ps.map (·.name)).Nodup) : ((Jbf ps w).map (·.name)).Nodup := by
 unfold Jbf; split
 . exact Jwa h
 . exact Jwa h
 . exact h
theorem J7f {d : Drf} (h : DrfOk d) {w : List Txt} : ∀ x ∈ Jbo d w, x.1.part ∈ d.parts.map (·.name) /\ x.2.part ∈ d.parts.map (·.name) := fun x hx => by
 unfold Jbo at hx
 split at hx
 . unfold Jce at hx
   split at hx
   . rename_i a b _ e
     rcases List.mem_append.1 hx with hx | hx
     . exact h.ends x hx
     . simp at hx
       subst hx
       unfold Jc2 at e
       split at e
       . contradiction
       . rename_i h1
         split at e
         . contradiction
         . rename_i h2
           exact ⟨Jws (by simpa using h1), Jws (by simpa using h2)⟩
   . exact h.ends x hx
 . exact h.ends x hx
theorem Jrg {d : Drf} (h : DrfOk d) {w : List Txt} : DrfOk (Jgr d w) := by
 unfold Jgr
 split
 . exact h
 . split
   . exact h
   . split
     . refine ⟨J66 h.nd, fun x hx => ?_⟩
       obtain ⟨h1, h2⟩ := h.ends x hx
       obtain ⟨p, hp, e1⟩ := List.mem_map.1 h1
       obtain ⟨q, hq, e2⟩ := List.mem_map.1 h2
       exact ⟨List.mem_map.2 ⟨p, Jwe p hp, e1⟩, List.mem_map.2 ⟨q, Jwe q hq, e2⟩⟩
     . split
       . exact ⟨h.nd, J7f h⟩
       . exact h
theorem Jqj : ∀ {ls : List Txt} {d : Drf}, DrfOk d -> DrfOk (runD d ls)
 | [], _, h => h
 | l :: ls, d, h => by
   unfold runD
   split
   . exact Jqj (Jrg h)
   . exact Jrg h
theorem Jmg : DrfOk noD := ⟨List.nodup_nil, by simp [noD]⟩
structure DrfSz (d : Drf) : Prop where
 parts : d.parts.length <= 64
 pipes : d.pipes.length <= 256
theorem Jrh {d : Drf} (h : DrfSz d) {w : List Txt} : DrfSz (Jgr d w) := by
 have hp : ∀ {a b : Txt} {o : Option Txt}, (Jbd d.parts a b o).length <= 64 := fun {a b o} => by
   unfold Jbd
   split
   . rename_i e
     have h1 := h.parts
     have : d.parts.length ≠ 64 := fun e2 => by
       unfold Jbl at e
       split at e
       . cases e
       . split at e
         . contradiction
         . split at e
           . contradiction
           . split at e
             . cases e
             . first | (rw [if_pos e2] at e; cases e) | cases e
     simp only [List.length_append, List.length_cons, List.length_nil]; omega
   . exact h.parts
 have hq : ∀ {a b : Txt}, (Jce d a b).length <= 256 := fun {a b} => by
   unfold Jce
   split
   . rename_i e
     have h1 := h.pipes
     have : d.pipes.length ≠ 256 := fun e2 => by
       unfold Jc2 at e
       split at e
       . contradiction
       . split at e
         . contradiction
         . split at e
           . cases e
           . first | (rw [if_pos e2] at e; cases e) | cases e
     simp only [List.length_append, List.length_cons, List.length_nil]; omega
   . exact h.pipes
 unfold Jgr
 split
 . exact h
 . split
   . exact h
   . split
     . refine ⟨?_, h.pipes⟩
       simp only [Jbf]
       split
       . exact hp
       . exact hp
       . exact h.parts
     . split
       . refine ⟨h.parts, ?_⟩
         simp only [Jbo]
         split
         . exact hq
         . exact h.pipes
       . exact h
theorem Jqk : ∀ {ls : List Txt} {d : Drf}, DrfSz d -> DrfSz (runD d ls)
 | [], _, h => h
 | l :: ls, d, h => by
   unfold runD
   split
   . exact Jqk (Jrh h)
   . exact Jrh h
theorem Jmh : DrfSz noD := ⟨by simp [noD], by simp [noD]⟩
def Jbn (c : Circuit) (p : Port) : End := ⟨nameAt c p.part, p.name⟩
def cntC (c : Circuit) : List Int := (List.range 14).map fun (k : Nat) => ((c.parts.countP fun p => decide (p.kind = (k : Int)) : Nat) : Int)
def drfC (c : Circuit) : Drf := ⟨c.parts, c.pipes.map fun x => (Jbn c x.fr, Jbn c x.to)⟩
def Jb7 (f : Txt -> Txt) (a : End) : End := ⟨f a.part, a.port⟩
def Jbr (f : Txt -> Txt) (p : Part) : Part := ⟨p.kind, f p.name, p.delay⟩
def mapD (f : Txt -> Txt) (d : Drf) : Drf := ⟨d.parts.map (Jbr f), d.pipes.map fun x => (Jb7 f x.1, Jb7 f x.2)⟩
def Jam (c : Circuit) (old new s : Txt) : Txt := if s = old then new else
 if Jas c (Jb3 c old) = 1 /\ (s = old ++ [48] /\ 0 <= swAt c (old ++ [48])) then new ++ [48] else
 if Jas c (Jb3 c old) = 1 /\ (s = old ++ [49] /\ 0 <= swAt c (old ++ [49])) then new ++ [49] else s
def renD (c : Circuit) (old new : Txt) : Drf := mapD (Jam c old new) (drfC c)
def rnmE (c : Circuit) (old new : Txt) : Int := if Jad c ≠ 0 then Jad c else if Jb3 c old < 0 then 6 else
 if ¬ ((renD c old new).parts.map (·.name)).Nodup then 7 else Jad (Ja0 (renD c old new))
def rnmC (c : Circuit) (old new : Txt) : Circuit := if rnmE c old new = 0 then Ja0 (renD c old new) else noC
def clash (a b : Circuit) : Bool := b.parts.any fun q => a.parts.any fun p => decide (p.name = q.name) && !decide (p = q)
end Go.Am
namespace Go.Am
open Go Go.Proofs Go.Pn
theorem J44 {c : Circuit} (h : Jad c = 0) : AscB Op.bytesLess (c.parts.map (·.name)) := by
 refine List.pairwise_map.2 (List.pairwise_iff_getElem.2 fun i j hi hj hij => ?_)
 exact Jk7 (Jmn h hij (List.getElem?_eq_getElem hi) (List.getElem?_eq_getElem hj))
theorem Jjx {c : Circuit} (h : Jad c = 0) : (c.parts.map (·.name)).Nodup := by
 refine List.pairwise_map.2 (List.pairwise_iff_getElem.2 fun i j hi hj hij => ?_)
 intro e
 have := Jmn h hij (List.getElem?_eq_getElem hi) (List.getElem?_eq_getElem hj)
 rw [e, Jep] at this
 cases this
theorem Jma {c : Circuit} {p : Port} (h : Jde c p = 0) : nameAt c p.part ∈ c.parts.map (·.name) := by
 obtain ⟨q, e, _⟩ := Jdn.1 h
 unfold nameAt
 rw [e]
 exact List.mem_map_of_mem (List.mem_of_getElem? e)
theorem Jhx {c : Circuit} (h : Jad c = 0) {p : Port} (hp : Jde c p = 0) : (⟨atNm (c.parts.map (·.name)) (nameAt c p.part), p.name⟩ : Port) = p := by
 obtain ⟨q, e, h0, _⟩ := Jdn.1 hp
 have : atNm (c.parts.map (·.name)) (nameAt c p.part) = p.part.toNat := by
   refine Jhw (Jjx h) ?_
   unfold nameAt
   rw [List.getElem?_map, e]; rfl
 rw [this]
 obtain ⟨a, b⟩ := p
 simp only at h0 ⊢
 rw [Int.toNat_of_nonneg h0]
def Jcq (c : Circuit) (x : Pipe) : EndP := (Jbn c x.fr, Jbn c x.to)
theorem Jg9 {c : Circuit} (h : Jad c = 0) {x : Pipe} (hx : x ∈ c.pipes) : Jde c x.fr = 0 /\ Jde c x.to = 0 /\ Jax x.fr x.to = true := J7b.1 ((Jom.1 h).2.2.1 x hx)
theorem Jli {c : Circuit} (h : Jad c = 0) : DrfOk (drfC c) := by
 refine ⟨Jjx h, fun x hx => ?_⟩
 obtain ⟨y, hy, rfl⟩ := List.mem_map.1 hx
 obtain ⟨h1, h2, _⟩ := Jg9 h hy
 exact ⟨Jma h1, Jma h2⟩
theorem J41 {c : Circuit} (h : Jad c = 0) : Jao c.parts = c.parts.map (·.name) := J4d Jki (J44 h)
theorem J2x {c : Circuit} (h : Jad c = 0) {p q : Port} (hp : Jde c p = 0) (hq : Jde c q = 0) : Jc8 (Jbn c p) (Jbn c q) = Jax p q := by
 have := Jmq (Jjx h) (a := Jbn c p) (b := Jbn c q) (Jma hp) (Jma hq)
 rw [J41 h] at this
 rw [<- this]
 show Jax ⟨atNm _ (nameAt c p.part), p.name⟩ ⟨atNm _ (nameAt c q.part), q.name⟩ = _
 rw [Jhx h hp, Jhx h hq]
theorem Jv2 {c : Circuit} (h : Jad c = 0) {x : Pipe} (hx : x ∈ c.pipes) : ordX (Jcq c x) = Jcq c x := by
 obtain ⟨h1, h2, h3⟩ := Jg9 h hx
 unfold ordX ordE Jcq
 rw [if_neg]
 intro h4
 have h5 := Jg0.1 h4
 rw [J2x h h2 h1] at h5
 have h6 := Jwt h3
 rw [h5] at h6
 cases h6
theorem Jwp {c : Circuit} (h : Jad c = 0) {x : Pipe} (hx : x ∈ c.pipes) : Jcr (c.parts.map (·.name)) (Jcq c x) = x := by
 obtain ⟨h1, h2, _⟩ := Jg9 h hx
 unfold Jcr Jcq Jbn
 rw [Jhx h h1, Jhx h h2]
theorem Jgp {d : Drf} (h : DrfOk d) : (Ja0 d).parts.Perm d.parts := by
 show (selS Jew d.parts).Perm d.parts
 rw [Jqq h.nd]
 have h1 : (Jao d.parts).Perm (d.parts.map (·.name)) := Jfq
 refine (h1.map (Jem d.parts)).trans ?_
 rw [List.map_map]
 have : d.parts.map (Jem d.parts ∘ fun p => p.name) = d.parts := by
   conv => rhs; rw [<- List.map_id d.parts]
   exact List.map_congr_left fun p hp => Jtt h.nd hp
 rw [this]
theorem Jvc {d : Drf} (h : DrfOk d) {s : Txt} (hs : s ∈ d.parts.map (·.name)) : nameAt (Ja0 d) (atNm (Jao d.parts) s) = s := by
 obtain ⟨i, e⟩ := List.getElem?_of_mem (Jjw.2 hs)
 rw [Jhw (Jve h.nd) e]
 have hn : (Ja0 d).parts.map (·.name) = Jao d.parts := Jm3
 have e2 : ((Ja0 d).parts.map (·.name))[i]? = some s := by rw [hn]; exact e
 rw [List.getElem?_map, Option.map_eq_some_iff] at e2
 obtain ⟨q, e3, e4⟩ := e2
 unfold nameAt
 rw [Int.toNat_natCast, e3]
 exact e4
theorem J8l {d : Drf} (h : DrfOk d) : ((drfC (Ja0 d)).pipes.map ordX).Perm (d.pipes.map ordX) := by
 have e0 : (Ja0 d).pipes = (Jar Ja6 (d.pipes.map ordX)).map (Jcr (Jao d.parts)) := by rw [<- Jjl h]; rfl
 show (((Ja0 d).pipes.map (Jcq (Ja0 d))).map ordX).Perm _
 rw [e0, List.map_map, List.map_map]
 show ((Jar Ja6 (d.pipes.map ordX)).map (ordX ∘ Jcq (Ja0 d) ∘ Jcr (Jao d.parts))).Perm _
 have e1 : (Jar Ja6 (d.pipes.map ordX)).map (ordX ∘ Jcq (Ja0 d) ∘ Jcr (Jao d.parts)) = Jar Ja6 (d.pipes.map ordX) := by
   conv => rhs; rw [<- List.map_id (Jar Ja6 (d.pipes.map ordX))]
   refine List.map_congr_left fun x hx => ?_
   obtain ⟨y, hy, rfl⟩ := List.mem_map.1 (Jpa.1 hx)
   have hy2 : (ordX y).1.part ∈ d.parts.map (·.name) /\ (ordX y).2.part ∈ d.parts.map (·.name) := Jpp (h.ends y hy)
   have e3 : Jcq (Ja0 d) (Jcr (Jao d.parts) (ordX y)) = ordX y := by
     show ((⟨nameAt (Ja0 d) (atNm (Jao d.parts) (ordX y).1.part), (ordX y).1.port⟩ : End), (⟨nameAt (Ja0 d) (atNm (Jao d.parts) (ordX y).2.part), (ordX y).2.port⟩ : End)) = ordX y
     rw [Jvc h hy2.1, Jvc h hy2.2]
   show ordX (Jcq (Ja0 d) (Jcr (Jao d.parts) (ordX y))) = ordX y
   rw [e3]
   show ordE (ordE y.1 y.2).1 (ordE y.1 y.2).2 = ordE y.1 y.2
   exact Jpq.2 (by unfold ordE; split <;> simp)
 rw [e1]
 exact Jfq
end Go.Am
namespace Go.Am
open Go Go.Proofs Go.Pn
theorem Jno {s : Txt} (h : Jc4 s = 0) : s ≠ [] /\ (∀ b ∈ s, Jcz b = true) /\ s.length <= 24 := by
 cases s with
 | nil => simp [Jc4] at h
 | cons b r =>
   unfold Jc4 at h
   simp only at h
   split at h
   . cases h
   . split at h
     . cases h
     . rename_i h2
       split at h
       . cases h
       . rename_i h3
         refine ⟨by simp, fun x hx => ?_, by omega⟩
         simp only [Bool.not_eq_true', Bool.not_eq_false] at h2
         exact List.all_eq_true.1 h2 x hx
theorem Jim {p : Part} (h : Ja8 p = 0) : (0 <= p.kind /\ p.kind < 14) /\ Jc4 p.name = 0 /\ (p.kind = 12 -> 1 <= p.delay /\ p.delay <= 1000000) /\ (p.kind ≠ 12 -> p.delay = 0) := by
 unfold Ja8 at h
 by_cases h1 : Jby p.kind = 0
 . rw [if_neg (by simpa using h1)] at h
   by_cases h2 : Jc4 p.name = 0
   . rw [if_neg (by simpa using h2)] at h
     refine ⟨Jg5.1 h1, h2, ?_, ?_⟩ <;> intro h3 <;> split at h <;> (try cases h) <;> omega
   . rw [if_pos h2] at h; exact absurd h h2
 . rw [if_pos h1] at h; exact absurd h h1
theorem Jpv {c : Circuit} (h : Jad c = 0) {p : Part} (hp : p ∈ c.parts) : Ja8 p = 0 := by
 have hf := (Jom.1 h).1.each
 obtain ⟨j, hj, e⟩ := List.getElem_of_mem hp
 have h2 := Jfm hf hj
 unfold partAt at h2
 rw [List.getElem?_eq_getElem hj, e] at h2
 simp only at h2
 apply Decidable.byContradiction
 intro hne
 rw [if_pos hne] at h2
 exact hne h2
end Go.Am
namespace Go.Am
open Go Go.Proofs Go.Pn
def mvI (g : Int -> Int) (p : Port) : Port := ⟨g p.part, p.name⟩
structure Iso (c d : Circuit) (g : Int -> Int) : Prop where
 hc : Jad c = 0
 hd : Jad d = 0
 mem : ∀ p, p ∈ allP c -> mvI g p ∈ allP d
 inj : ∀ p q, p ∈ allP c -> q ∈ allP c -> g p.part = g q.part -> p.part = q.part
 surj : ∀ q, q ∈ allP d -> ∃ p ∈ allP c, mvI g p = q
 kind : ∀ p, p ∈ allP c -> Jas d (g p.part) = Jas c p.part
 fwd : ∀ x ∈ c.pipes, ∃ y ∈ d.pipes, (y.fr = mvI g x.fr /\ y.to = mvI g x.to) \/ (y.fr = mvI g x.to /\ y.to = mvI g x.fr)
 bwd : ∀ y ∈ d.pipes, ∃ x ∈ c.pipes, (y.fr = mvI g x.fr /\ y.to = mvI g x.to) \/ (y.fr = mvI g x.to /\ y.to = mvI g x.fr)
section
variable {c d : Circuit} {g : Int -> Int}
theorem Jin (h : Jad c = 0) {x : Pipe} (hx : x ∈ c.pipes) : x.fr ∈ allP c /\ x.to ∈ allP c := ⟨Jd9.2 (Jg9 h hx).1, Jd9.2 (Jg9 h hx).2.1⟩
theorem Iso.inj2 (I : Iso c d g) {p q : Port} (hp : p ∈ allP c) (hq : q ∈ allP c) (e : mvI g p = mvI g q) : p = q := by
 obtain ⟨a, s⟩ := p
 obtain ⟨b, t⟩ := q
 unfold mvI at e
 simp only [Port.mk.injEq] at e
 have := I.inj _ _ hp hq e.1
 simp only at this
 rw [this, e.2]
theorem Iso.conn (I : Iso c d g) {p q : Port} (h : Conn c.pipes p q) : Conn d.pipes (mvI g p) (mvI g q) := by
 induction h with
 | refl => exact .refl _
 | fwd x _ hm ih =>
   obtain ⟨y, hy, ⟨e1, e2⟩ | ⟨e1, e2⟩⟩ := I.fwd x hm
   . rw [<- e2]; exact .fwd _ y (e1 ▸ ih) hy
   . rw [<- e1]; exact .bwd _ y (e2 ▸ ih) hy
 | bwd x _ hm ih =>
   obtain ⟨y, hy, ⟨e1, e2⟩ | ⟨e1, e2⟩⟩ := I.fwd x hm
   . rw [<- e1]; exact .bwd _ y (e2 ▸ ih) hy
   . rw [<- e2]; exact .fwd _ y (e1 ▸ ih) hy
theorem Iso.back (I : Iso c d g) {p r : Port} (hp : p ∈ allP c) (h : Conn d.pipes (mvI g p) r) : ∃ q, r = mvI g q /\ q ∈ allP c /\ Conn c.pipes p q := by
 generalize hs : mvI g p = p' at h
 induction h with
 | refl => exact ⟨p, hs.symm, hp, .refl _⟩
 | fwd y _ hm ih =>
   obtain ⟨q, h1, h2, h3⟩ := ih
   obtain ⟨x, hx, ⟨e1, e2⟩ | ⟨e1, e2⟩⟩ := I.bwd y hm
   . obtain ⟨a, b⟩ := Jin I.hc hx
     have := I.inj2 a h2 (e1.symm.trans h1)
     exact ⟨x.to, e2, b, .fwd _ x (this ▸ h3) hx⟩
   . obtain ⟨a, b⟩ := Jin I.hc hx
     have := I.inj2 b h2 (e1.symm.trans h1)
     exact ⟨x.fr, e2, a, .bwd _ x (this ▸ h3) hx⟩
 | bwd y _ hm ih =>
   obtain ⟨q, h1, h2, h3⟩ := ih
   obtain ⟨x, hx, ⟨e1, e2⟩ | ⟨e1, e2⟩⟩ := I.bwd y hm
   . obtain ⟨a, b⟩ := Jin I.hc hx
     have := I.inj2 b h2 (e2.symm.trans h1)
     exact ⟨x.fr, e1, a, .bwd _ x (this ▸ h3) hx⟩
   . obtain ⟨a, b⟩ := Jin I.hc hx
     have := I.inj2 a h2 (e2.symm.trans h1)
     exact ⟨x.to, e1, b, .fwd _ x (this ▸ h3) hx⟩
theorem Iso.conn_iff (I : Iso c d g) {p q : Port} (hp : p ∈ allP c) (hq : q ∈ allP c) : Conn d.pipes (mvI g p) (mvI g q) ↔ Conn c.pipes p q := by
 constructor
 . intro h
   obtain ⟨r, h1, h2, h3⟩ := I.back hp h
   rw [I.inj2 hq h2 h1]; exact h3
 . exact I.conn
theorem Iso.rt_iff (I : Iso c d g) {p q : Port} (hp : p ∈ allP c) (hq : q ∈ allP c) : rt d (mvI g p) = rt d (mvI g q) ↔ rt c p = rt c q := by
 rw [Am.rt_iff, Am.rt_iff, I.conn_iff hp hq]
theorem Iso.all (I : Iso c d g) : (allP d).Perm ((allP c).map (mvI g)) := by
 have h1 := Jf4 (Jc7 I.hc).1
 have h2 := Jf4 (Jc7 I.hd).1
 have h3 : ((allP c).map (mvI g)).Nodup := List.pairwise_map.2 (h1.imp_of_mem fun {a b} ha hb hne e => hne (I.inj2 ha hb e))
 rw [List.perm_ext_iff_of_nodup h2 h3]
 intro q
 rw [List.mem_map]
 constructor
 . intro hq; obtain ⟨p, hp, e⟩ := I.surj q hq; exact ⟨p, hp, e⟩
 . rintro ⟨p, hp, rfl⟩; exact I.mem p hp
theorem Iso.roots (I : Iso c d g) {l m : List Port} (hl : ∀ p ∈ l, p ∈ allP c) (hm : m.Perm (l.map (mvI g))) : (Jat (rt d) m).length = (Jat (rt c) l).length := by
 rw [J75 (m := l.map (mvI g)) (fun p => hm.mem_iff), J74]
 exact J72 fun p hp q hq => I.rt_iff (hl p hp) (hl q hq)
theorem Iso.around (I : Iso c d g) {p : Port} (hp : p ∈ allP c) : (Am.around d (mvI g p)).Perm ((Am.around c p).map (mvI g)) := by
 have h1 : (Am.around d (mvI g p)).Nodup := by rw [Jgu]; exact (Jf4 (Jc7 I.hd).1).filter _
 have h2 : (Am.around c p).Nodup := by rw [Jgu]; exact (Jf4 (Jc7 I.hc).1).filter _
 have h3 : ((Am.around c p).map (mvI g)).Nodup := List.pairwise_map.2 (h2.imp_of_mem fun {a b} ha hb hne e => hne (I.inj2 (List.mem_filter.1 ha).1 (List.mem_filter.1 hb).1 e))
 rw [List.perm_ext_iff_of_nodup h1 h3]
 intro q
 rw [Jgu, List.mem_filter, List.mem_map]
 constructor
 . rintro ⟨hq, e⟩
   obtain ⟨r, hr, rfl⟩ := I.surj q hq
   refine ⟨r, ?_, rfl⟩
   rw [Jgu, List.mem_filter]
   exact ⟨hr, by simpa [I.rt_iff hr hp] using e⟩
 . rintro ⟨r, hr, rfl⟩
   rw [Jgu, List.mem_filter] at hr
   exact ⟨I.mem r hr.1, by simpa [I.rt_iff hr.1 hp] using hr.2⟩
theorem Iso.role (I : Iso c d g) {p : Port} (hp : p ∈ allP c) : Ja4 d (mvI g p) = Ja4 c p := by
 unfold Ja4 mvI
 simp only [I.kind p hp]
theorem Iso.side (I : Iso c d g) {p : Port} (hp : p ∈ allP c) (b : Bool) : Jiw d b (mvI g p) = Jiw c b p := by
 unfold Jiw Jci Jkj
 rw [I.role hp]
theorem Jox {α β : Type} {f : α -> β} {P : β -> Bool} {Q : α -> Bool} {l : List α} {m : List β} (hm : m.Perm (l.map f)) (h : ∀ x ∈ l, P (f x) = Q x) : (m.filter P).Perm ((l.filter Q).map f) := by
 refine (hm.filter P).trans ?_
 rw [List.filter_map]
 have : l.filter (P ∘ f) = l.filter Q := List.filter_congr fun x hx => h x hx
 rw [this]
theorem Iso.only (I : Iso c d g) {p : Port} (hp : p ∈ allP c) (b : Bool) : (Jbc d (Am.around d (mvI g p)) b).Perm ((Jbc c (Am.around c p) b).map (mvI g)) :=
 Jox (I.around hp) fun x hx => I.side (List.mem_filter.1 hx).1 b
theorem Iso.found (I : Iso c d g) {p : Port} (hp : p ∈ allP c) {k : Nat} (hk : k ≠ 4) : Jcw d k (mvI g p) = Jcw c k p := by
 have hr := I.role hp
 have ha := (I.around hp).length_eq
 rw [List.length_map] at ha
 have ho := fun b => (I.only hp b).length_eq
 simp only [List.length_map] at ho
 have hkd : Jas d (mvI g p).part = Jas c p.part := I.kind p hp
 unfold Jcw
 match k, hk with
 | 1, _ => show (decide (Ja4 d (mvI g p) = 3) && decide ((Am.around d (mvI g p)).length = 1)) = _; rw [hr, ha]; rfl
 | 2, _ => show (decide (Ja4 d (mvI g p) = 4) && decide ((Am.around d (mvI g p)).length = 1)) = _; rw [hr, ha]; rfl
 | 3, _ => show (decide (Ja4 d (mvI g p) = 0) && decide ((Jbc d (Am.around d (mvI g p)) true).length = 0)) = _; rw [hr, ho]; rfl
 | 5, _ => show (decide (Ja4 d (mvI g p) = 1) && decide ((Jbc d (Am.around d (mvI g p)) false).length = 0)) = _; rw [hr, ho]; rfl
 | 6, _ => show (decide (Ja4 d (mvI g p) = 2) && decide (1 < (Am.around d (mvI g p)).length)) = _; rw [hr, ha]; rfl
 | 0, _ | k + 7, _ =>
   show (decide (Jas d (mvI g p).part = 2) && (decide (p.name = [49, 52]) && decide ((⟨g p.part, [49, 50]⟩ : Port) ∈ Am.around d (mvI g p)))) = (decide (Jas c p.part = 2) && (decide (p.name = [49, 52]) && decide ((⟨p.part, [49, 50]⟩ : Port) ∈ Am.around c p)))
   rw [hkd]
   by_cases h2 : Jas c p.part = 2
   . congr 2
     have hq : (⟨p.part, [49, 50]⟩ : Port) ∈ allP c := by
       obtain ⟨q, e, h0, hm⟩ := Jdn.1 (Jd9.1 hp)
       refine Jd9.2 (Jdn.2 ⟨q, e, h0, ?_⟩)
       have : q.kind = 2 := by unfold Jas at h2; rw [e] at h2; simpa using h2
       unfold Jbj
       rw [this]
       show ([49, 50] : Txt) ∈ Jbb 2
       decide
     rw [decide_eq_decide]
     have e : (⟨g p.part, [49, 50]⟩ : Port) = mvI g ⟨p.part, [49, 50]⟩ := rfl
     rw [e, (I.around hp).mem_iff, List.mem_map]
     constructor
     . rintro ⟨r, hr1, hr2⟩
       rw [<- I.inj2 (List.mem_filter.1 hr1).1 hq hr2]; exact hr1
     . intro h; exact ⟨_, h, rfl⟩
   . simp [h2]
theorem Jup {c : Circuit} (h : Jad c = 0) : ((allP c).filter (Jcw c 4)).length + (Jat (rt c) ((allP c).filter (Jci c))).length = ((allP c).filter (Jci c)).length := by
 have hG : ((allP c).filter (Jci c)).Nodup := (Jf4 (Jc7 h).1).filter _
 have h1 := congrArg List.length (Jud (f := rt c) hG)
 rw [Jue, List.length_map] at h1
 have h2 : (allP c).filter (Jcw c 4) = ((allP c).filter (Jci c)).filter fun p => !decide ((((allP c).filter (Jci c)).filter fun q => decide (rt c q = rt c p))[0]? = some p) := by
   rw [List.filter_filter]
   refine List.filter_congr fun p _ => ?_
   have e : Jbc c (Am.around c p) true = ((allP c).filter (Jci c)).filter fun q => decide (rt c q = rt c p) := by
     rw [Jgu]
     unfold Jbc
     rw [List.filter_filter, List.filter_filter]
     refine List.filter_congr fun q _ => ?_
     rw [Bool.and_comm]; rfl
   show (decide (Ja4 c p = 1) && !decide ((Jbc c (Am.around c p) true).head? = some p)) = _
   rw [e, Bool.and_comm, List.head?_eq_getElem?]
   rfl
 have h3 := Jtq (fun p => decide ((((allP c).filter (Jci c)).filter fun q => decide (rt c q = rt c p))[0]? = some p)) ((allP c).filter (Jci c))
 rw [h2, h1]
 omega
theorem Iso.cnt (I : Iso c d g) (k : Nat) : ((allP d).filter (Jcw d k)).length = ((allP c).filter (Jcw c k)).length := by
 by_cases hk : k = 4
 . subst hk
   have a := Jup I.hc
   have b := Jup I.hd
   have e1 : ((allP d).filter (Jci d)).Perm (((allP c).filter (Jci c)).map (mvI g)) := Jox I.all fun x hx => by
     unfold Jci; rw [I.role hx]
   have e2 := I.roots (l := (allP c).filter (Jci c)) (fun p hp => (List.mem_filter.1 hp).1) e1
   have e3 := e1.length_eq
   rw [List.length_map] at e3
   omega
 . have := (Jox (P := Jcw d k) (Q := Jcw c k) I.all fun x hx => I.found hx hk).length_eq
   rw [this, List.length_map]
end
end Go.Am
namespace Go.Am
open Go Go.Proofs Go.Pn
theorem J4y {d : Drf} {f : Txt -> Txt} (h : DrfOk d) (hn : ((mapD f d).parts.map (·.name)).Nodup) : DrfOk (mapD f d) := by
 refine ⟨hn, fun x hx => ?_⟩
 obtain ⟨y, hy, rfl⟩ := List.mem_map.1 hx
 obtain ⟨h1, h2⟩ := h.ends y hy
 have key : ∀ s, s ∈ d.parts.map (·.name) -> f s ∈ (mapD f d).parts.map (·.name) := fun s hs => by
   obtain ⟨p, hp, rfl⟩ := List.mem_map.1 hs
   exact List.mem_map.2 ⟨Jbr f p, List.mem_map_of_mem hp, rfl⟩
 exact ⟨key _ h1, key _ h2⟩
theorem Jj9 {c : Circuit} {old new : Txt} (h : rnmE c old new = 0) : Jad c = 0 /\ 0 <= Jb3 c old /\ DrfOk (renD c old new) /\ Jad (Ja0 (renD c old new)) = 0 /\ rnmC c old new = Ja0 (renD c old new) := by
 have h0 := h
 unfold rnmE at h
 by_cases h1 : Jad c = 0
 . rw [if_neg (by simpa using h1)] at h
   by_cases h2 : Jb3 c old < 0
   . rw [if_pos h2] at h; cases h
   . rw [if_neg h2] at h
     by_cases h3 : ((renD c old new).parts.map (·.name)).Nodup
     . rw [if_neg (by simpa using h3)] at h
       exact ⟨h1, by omega, J4y (Jli h1) h3, h, by unfold rnmC; rw [if_pos h0]⟩
     . rw [if_pos h3] at h; cases h
 . rw [if_pos h1] at h; exact absurd h h1
theorem Jmz {c : Circuit} {old new : Txt} (h : rnmE c old new = 0) {q : Part} : q ∈ (rnmC c old new).parts ↔ ∃ p ∈ c.parts, q = Jbr (Jam c old new) p := by
 obtain ⟨h1, _, hd, _, e⟩ := Jj9 h
 rw [e, (Jgp hd).mem_iff]
 show q ∈ c.parts.map (Jbr (Jam c old new)) ↔ _
 rw [List.mem_map]
 constructor
 . rintro ⟨p, hp, rfl⟩; exact ⟨p, hp, rfl⟩
 . rintro ⟨p, hp, rfl⟩; exact ⟨p, hp, rfl⟩
theorem J7y {c : Circuit} {old new : Txt} (h : rnmE c old new = 0) {p q : Part} (hp : p ∈ c.parts) (hq : q ∈ c.parts) (e : Jam c old new p.name = Jam c old new q.name) : p = q := by
 obtain ⟨h1, _, hd, _, _⟩ := Jj9 h
 have hnd := hd.nd
 have e2 : (renD c old new).parts.map (·.name) = c.parts.map fun p => Jam c old new p.name := by
   show (c.parts.map (Jbr (Jam c old new))).map (·.name) = _
   rw [List.map_map]; rfl
 rw [e2] at hnd
 obtain ⟨i, hi, ei⟩ := List.getElem_of_mem hp
 obtain ⟨j, hj, ej⟩ := List.getElem_of_mem hq
 have hpw := List.pairwise_iff_getElem.1 hnd
 rcases Nat.lt_trichotomy i j with hl | hl | hl
 . have := hpw i j (by simpa using hi) (by simpa using hj) hl
   simp only [List.getElem_map, ei, ej] at this
   exact absurd e this
 . subst hl; rw [<- ei, ej]
 . have := hpw j i (by simpa using hj) (by simpa using hi) hl
   simp only [List.getElem_map, ei, ej] at this
   exact absurd e.symm this
def renG (c : Circuit) (old new : Txt) (i : Int) : Int := Jb3 (rnmC c old new) (Jam c old new (nameAt c i))
theorem Jpi {c : Circuit} {i : Nat} {q : Part} (e : c.parts[i]? = some q) : nameAt c (i : Int) = q.name := by unfold nameAt; rw [Int.toNat_natCast, e]
theorem Jgl {c : Circuit} {old new : Txt} (h : rnmE c old new = 0) {i : Nat} {q : Part} (e : c.parts[i]? = some q) : ∃ j : Nat, renG c old new i = j /\ (rnmC c old new).parts[j]? = some (Jbr (Jam c old new) q) := by
 obtain ⟨h1, _, hd, h3, e2⟩ := Jj9 h
 have hdr : Jad (rnmC c old new) = 0 := by rw [e2]; exact h3
 have hm : Jbr (Jam c old new) q ∈ (rnmC c old new).parts := (Jmz h).2 ⟨q, List.mem_of_getElem? e, rfl⟩
 obtain ⟨j, hj⟩ := List.getElem?_of_mem hm
 refine ⟨j, ?_, hj⟩
 unfold renG
 rw [Jpi e]
 exact Jpu hdr hj
theorem Jhc {c : Circuit} {p : Port} (hp : p ∈ allP c) : ∃ (i : Nat) (q : Part), p.part = i /\ c.parts[i]? = some q /\ p.name ∈ Jbj q := by
 obtain ⟨q, e, h0, hm⟩ := Jdn.1 (Jd9.1 hp)
 exact ⟨p.part.toNat, q, by omega, e, hm⟩
theorem Jmr {c : Circuit} {i : Nat} {q : Part} (e : c.parts[i]? = some q) {s : Txt} (hs : s ∈ Jbj q) : (⟨(i : Int), s⟩ : Port) ∈ allP c := Jd9.2 (Jdn.2 ⟨q, by simpa using e, by simp, hs⟩)
theorem Jxa {c : Circuit} {old new : Txt} (h : rnmE c old new = 0) {p : Port} (hp : p ∈ allP c) : Jbn (rnmC c old new) (mvI (renG c old new) p) = Jb7 (Jam c old new) (Jbn c p) := by
 obtain ⟨i, q, e1, e2, _⟩ := Jhc hp
 obtain ⟨j, f1, f2⟩ := Jgl h e2
 unfold Jbn mvI Jb7
 rw [e1, f1, Jpi f2, Jpi e2]; rfl
theorem Jlj {c : Circuit} (h : Jad c = 0) {p q : Port} (hp : p ∈ allP c) (hq : q ∈ allP c) (e : Jbn c p = Jbn c q) : p = q := by
 have h1 := Jhx h (Jd9.1 hp)
 have h2 := Jhx h (Jd9.1 hq)
 unfold Jbn at e
 simp only [End.mk.injEq] at e
 rw [<- h1, <- h2, e.1, e.2]
theorem Jxb {c : Circuit} {old new : Txt} (h : rnmE c old new = 0) : Iso c (rnmC c old new) (renG c old new) := by
 obtain ⟨h1, h2, hd, h3, e⟩ := Jj9 h
 have hdr : Jad (rnmC c old new) = 0 := by rw [e]; exact h3
 have hmem : ∀ p, p ∈ allP c -> mvI (renG c old new) p ∈ allP (rnmC c old new) := fun p hp => by
   obtain ⟨i, q, e1, e2, e3⟩ := Jhc hp
   obtain ⟨j, f1, f2⟩ := Jgl h e2
   unfold mvI
   rw [e1, f1]
   exact Jmr f2 e3
 have hpp : ((drfC (rnmC c old new)).pipes.map ordX).Perm ((renD c old new).pipes.map ordX) := by rw [e]; exact J8l hd
 have hends : ∀ x ∈ c.pipes, ∀ y ∈ (rnmC c old new).pipes, ordX (Jcq (rnmC c old new) y) = ordX (Jb7 (Jam c old new) (Jcq c x).1, Jb7 (Jam c old new) (Jcq c x).2) ->
     (y.fr = mvI (renG c old new) x.fr /\ y.to = mvI (renG c old new) x.to) \/ (y.fr = mvI (renG c old new) x.to /\ y.to = mvI (renG c old new) x.fr) := fun x hx y hy e4 => by
   obtain ⟨a1, a2⟩ := Jin h1 hx
   obtain ⟨b1, b2⟩ := Jin hdr hy
   have c1 := Jxa h a1
   have c2 := Jxa h a2
   unfold ordX Jcq at e4
   simp only [<- c1, <- c2] at e4
   rcases Jpq.1 e4 with ⟨d1, d2⟩ | ⟨d1, d2⟩
   . exact .inl ⟨Jlj hdr b1 (hmem _ a1) d1, Jlj hdr b2 (hmem _ a2) d2⟩
   . exact .inr ⟨Jlj hdr b1 (hmem _ a2) d1, Jlj hdr b2 (hmem _ a1) d2⟩
 refine ⟨h1, hdr, hmem, fun p q hp hq e4 => ?_, fun q hq => ?_, fun p hp => ?_, fun x hx => ?_, fun y hy => ?_⟩
 . obtain ⟨i, x, e1, e2, _⟩ := Jhc hp
   obtain ⟨j, y, k1, k2, _⟩ := Jhc hq
   obtain ⟨i', f1, f2⟩ := Jgl h e2
   obtain ⟨j', g1, g2⟩ := Jgl h k2
   rw [e1, k1, f1, g1] at e4
   have : i' = j' := by omega
   subst this
   rw [f2] at g2
   have e5 := J7y h (List.mem_of_getElem? e2) (List.mem_of_getElem? k2) (congrArg Part.name (Option.some.inj g2))
   subst e5
   rw [e1, k1, Jpw h1 e2 k2 rfl]
 . obtain ⟨j, y, k1, k2, k3⟩ := Jhc hq
   obtain ⟨x, hx, e4⟩ := (Jmz h).1 (List.mem_of_getElem? k2)
   obtain ⟨i, hi, ei⟩ := List.getElem_of_mem hx
   have e2 : c.parts[i]? = some x := by rw [List.getElem?_eq_getElem hi, ei]
   obtain ⟨j', f1, f2⟩ := Jgl h e2
   have hjj : j' = j := Jpw hdr f2 k2 (by rw [e4])
   subst hjj
   refine ⟨⟨i, q.name⟩, Jmr e2 (by rw [e4] at k3; exact k3), ?_⟩
   unfold mvI
   simp only [f1, <- k1]
 . obtain ⟨i, x, e1, e2, _⟩ := Jhc hp
   obtain ⟨i', f1, f2⟩ := Jgl h e2
   rw [e1, f1]
   unfold Jas
   rw [Int.toNat_natCast, Int.toNat_natCast, f2, e2]; rfl
 . have hm : ordX (Jb7 (Jam c old new) (Jcq c x).1, Jb7 (Jam c old new) (Jcq c x).2) ∈ (renD c old new).pipes.map ordX :=
     List.mem_map_of_mem (List.mem_map.2 ⟨Jcq c x, List.mem_map.2 ⟨x, hx, rfl⟩, rfl⟩)
   obtain ⟨w, hw, e4⟩ := List.mem_map.1 (hpp.mem_iff.2 hm)
   obtain ⟨y, hy, rfl⟩ := List.mem_map.1 hw
   exact ⟨y, hy, hends x hx y hy e4⟩
 . have hm : ordX (Jcq (rnmC c old new) y) ∈ (drfC (rnmC c old new)).pipes.map ordX := List.mem_map_of_mem (List.mem_map.2 ⟨y, hy, rfl⟩)
   obtain ⟨w, hw, e4⟩ := List.mem_map.1 (hpp.mem_iff.1 hm)
   obtain ⟨w', hw', rfl⟩ := List.mem_map.1 hw
   obtain ⟨x, hx, rfl⟩ := List.mem_map.1 hw'
   exact ⟨x, hx, hends x hx y hy e4.symm⟩
theorem J7x {c : Circuit} {old new : Txt} (h : rnmE c old new = 0) : cntC (rnmC c old new) = cntC c /\ (rnmC c old new).parts.length = c.parts.length := by
 obtain ⟨h1, _, hd, _, e⟩ := Jj9 h
 have hp : (rnmC c old new).parts.Perm (c.parts.map (Jbr (Jam c old new))) := by rw [e]; exact Jgp hd
 refine ⟨?_, by rw [hp.length_eq, List.length_map]⟩
 unfold cntC
 refine List.map_congr_left fun k _ => ?_
 rw [hp.countP_eq, List.countP_map]
 rfl
theorem J2t {c : Circuit} (h : Jad c = 0) : ((drfC c).pipes.map ordX).Nodup := by
 show ((c.pipes.map fun x => (Jbn c x.fr, Jbn c x.to)).map ordX).Nodup
 rw [List.map_map]
 have hn : c.pipes.Nodup := (Jom.1 h).2.2.2.imp fun h1 e => by subst e; rw [Jwn] at h1; cases h1
 refine List.pairwise_map.2 (hn.imp_of_mem fun {x y} hx hy hne e => hne ?_)
 have e2 : ordX (Jcq c x) = ordX (Jcq c y) := e
 rw [Jv2 h hx, Jv2 h hy] at e2
 have e1 := Jwp h hx
 rw [e2, Jwp h hy] at e1
 exact e1.symm
end Go.Am
namespace Go.Am
open Go Go.Proofs Go.Pn
theorem Jnb {α : Type} {l : List α} (h : ∀ b, l ≠ [b]) : l = [] \/ ∃ x y t, l = x :: y :: t := by
 match l, h with
 | [], _ => exact .inl rfl
 | [b], h => exact absurd rfl (h b)
 | x :: y :: t, _ => exact .inr ⟨x, y, t, rfl⟩
section
variable {c d : Circuit} {g : Int -> Int}
theorem J7a {α : Type} {l : List α} {a : α} (h : l.Perm [a]) : l = [a] := List.perm_singleton.1 h
theorem Iso.drv (I : Iso c d g) {i : Nat} {q : Part} (e : c.parts[i]? = some q) (hk : q.kind = 1) : Jdd d (g i) = (Jdd c i).map fun r => (g r.1, r.2) := by
 have hp2 : (⟨(i : Int), [50]⟩ : Port) ∈ allP c := Jmr e (by unfold Jbj; rw [hk]; decide)
 have hp4 : (⟨(i : Int), [52]⟩ : Port) ∈ allP c := Jmr e (by unfold Jbj; rw [hk]; decide)
 have f2 : (Je6 d (g i) [50]).Perm ((Je6 c i [50]).map (mvI g)) := I.only hp2 true
 have f4 : (Je6 d (g i) [52]).Perm ((Je6 c i [52]).map (mvI g)) := I.only hp4 true
 have hone : ∀ {l : List Port} {m : List Port}, m.Perm (l.map (mvI g)) -> (∀ a, l = [a] -> m = [mvI g a]) /\ ((∀ a, l ≠ [a]) -> ∀ a, m ≠ [a]) := fun {l m} h => by
   refine ⟨fun a e => J7a (by rw [e] at h; exact h), fun hn a e => ?_⟩
   have := h.length_eq
   rw [e, List.length_map] at this
   match l, this with
   | [x], _ => exact hn x rfl
 unfold Jdd
 by_cases h2 : ∃ a, Je6 c i [50] = [a]
 . obtain ⟨a, ea⟩ := h2
   by_cases h4 : ∃ b, Je6 c i [52] = [b]
   . obtain ⟨b, eb⟩ := h4
     rw [ea, eb, (hone f2).1 a ea, (hone f4).1 b eb]
     have ma : a ∈ allP c := (Jot (i := i) (s := [50]) (by rw [ea]; simp)).2.1
     have mb : b ∈ allP c := (Jot (i := i) (s := [52]) (by rw [eb]; simp)).2.1
     have c1 : ((mvI g a).part ≠ (mvI g b).part \/ (mvI g a).name = (mvI g b).name) ↔ (a.part ≠ b.part \/ a.name = b.name) := by
       show (g a.part ≠ g b.part \/ a.name = b.name) ↔ _
       constructor
       . rintro (h | h)
         . exact .inl fun e => h (by rw [e])
         . exact .inr h
       . rintro (h | h)
         . exact .inl fun e => h (I.inj _ _ ma mb e)
         . exact .inr h
     have c2 : Jas d (mvI g a).part = Jas c a.part := I.kind a ma
     simp only [c1, c2]
     split
     . rfl
     . split
       . rfl
       . rfl
   . have hn := (hone f4).2 fun b e => h4 ⟨b, e⟩
     rw [ea, (hone f2).1 a ea]
     rcases Jnb hn with e1 | ⟨x, y, t, e1⟩ <;> rcases Jnb (fun b e => h4 ⟨b, e⟩) with e2 | ⟨x', y', t', e2⟩ <;> rw [e1, e2] <;> rfl
 . have hn := (hone f2).2 fun b e => h2 ⟨b, e⟩
   rcases Jnb hn with e1 | ⟨x, y, t, e1⟩ <;> rcases Jnb (fun b e => h2 ⟨b, e⟩) with e2 | ⟨x', y', t', e2⟩ <;> rw [e1, e2] <;> rfl
end
end Go.Am
