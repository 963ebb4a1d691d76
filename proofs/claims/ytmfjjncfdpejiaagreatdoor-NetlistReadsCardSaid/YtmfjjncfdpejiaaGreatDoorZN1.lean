/- Lemmas and contracts for the proof of a statement of this seat. -/
import Derived.Test.YtmfjjncfdpejiaaGreatDoorZCP
import Derived.Test.YtmfjjncfdpejiaaGreatDoorZE3
import Derived.Lib.FieldsP
import Derived.Lib.TrimUEq
import Derived.Test.YtmfjjncfdpejiaaGreatDoorZF1
import Derived.Test.YtmfjjncfdpejiaaGreatDoorZCA
import Derived.Test.YtmfjjncfdpejiaaGreatDoorZC6
import Derived.Test.YtmfjjncfdpejiaaGreatDoorZCQ
set_option linter.unusedVariables false
set_option linter.unusedSimpArgs false
namespace Go.Am
open Go Go.Proofs Go.Pn
structure STO {α : Type} (lt : α -> α -> Bool) : Prop where
 irrefl : ∀ a, lt a a = false
 trans : ∀ {a b c}, lt a b = true -> lt b c = true -> lt a c = true
 total : ∀ {a b}, lt a b = false -> lt b a = false -> a = b
theorem STO.asymm {α : Type} {lt : α -> α -> Bool} (h : STO lt) {a b : α} (k : lt a b = true) : lt b a = false := by
 cases e : lt b a with
 | false => rfl
 | true => have := h.trans k e; rw [h.irrefl] at this; cases this
def insB {α : Type} (lt : α -> α -> Bool) (x : α) : List α -> List α
 | [] => [x]
 | y :: ys => if lt y x then y :: insB lt x ys else x :: y :: ys
def Jav {α : Type} (lt : α -> α -> Bool) (l : List α) : List α := l.foldr (insB lt) []
def AscB {α : Type} (lt : α -> α -> Bool) (l : List α) : Prop := l.Pairwise fun a b => lt b a = false
section
variable {α : Type} {lt : α -> α -> Bool}
theorem Jnp {x : α} : ∀ {l : List α}, (insB lt x l).Perm (x :: l)
 | [] => List.Perm.refl _
 | y :: ys => by
   unfold insB
   split
   . exact (List.Perm.cons y Jnp).trans (List.Perm.swap x y ys)
   . exact List.Perm.refl _
theorem Jf1 : ∀ {l : List α}, (Jav lt l).Perm l
 | [] => List.Perm.refl _
 | x :: l => by
   show (insB lt x (Jav lt l)).Perm (x :: l)
   exact Jnp.trans (List.Perm.cons x Jf1)
theorem Jez {l : List α} : (Jav lt l).length = l.length := Jf1.length_eq
theorem Jr8 {l : List α} {x : α} : x ∈ Jav lt l ↔ x ∈ l := Jf1.mem_iff
theorem Jr3 (h : STO lt) {x : α} : ∀ {l : List α}, AscB lt l -> AscB lt (insB lt x l)
 | [], _ => List.pairwise_singleton _ _
 | y :: ys, hl => by
   have hy := List.pairwise_cons.1 hl
   unfold insB
   cases e : lt y x with
   | true =>
     simp only [if_true]
     refine List.pairwise_cons.2 ⟨fun z hz => ?_, Jr3 h hy.2⟩
     rcases List.mem_cons.1 (Jnp.mem_iff.1 hz) with rfl | hz
     . exact h.asymm e
     . exact hy.1 z hz
   | false =>
     simp only [Bool.false_eq_true, if_false]
     refine List.pairwise_cons.2 ⟨fun z hz => ?_, hl⟩
     rcases List.mem_cons.1 hz with rfl | hz
     . exact e
     . have h1 := hy.1 z hz
       cases e2 : lt z x with
       | false => rfl
       | true =>
         cases e3 : lt x y with
         | true => rw [h.trans e2 e3] at h1; cases h1
         | false =>
           have := h.total e e3
           subst this
           rw [e2] at h1; cases h1
theorem Jkv (h : STO lt) : ∀ {l : List α}, AscB lt (Jav lt l)
 | [] => List.Pairwise.nil
 | _ :: _ => Jr3 h (Jkv h)
theorem Jp1 (h : STO lt) : ∀ {l m : List α}, AscB lt l -> AscB lt m -> l.Perm m -> l = m
 | [], m, _, _, p => (List.Perm.nil_eq p)
 | x :: l, [], _, _, p => absurd (p.length_eq) (by simp)
 | x :: l, y :: m, hl, hm, p => by
   have hx := List.pairwise_cons.1 hl
   have hy := List.pairwise_cons.1 hm
   have e : x = y := by
     have h1 : x ∈ y :: m := p.mem_iff.1 (by simp)
     have h2 : y ∈ x :: l := p.mem_iff.2 (by simp)
     rcases List.mem_cons.1 h1 with h1 | h1
     . exact h1
     . rcases List.mem_cons.1 h2 with h2 | h2
       . exact h2.symm
       . exact h.total (hy.1 x h1) (hx.1 y h2)
   subst e
   rw [Jp1 h hx.2 hy.2 ((List.perm_cons x).1 p)]
theorem Jkx (h : STO lt) {l m : List α} (hm : AscB lt m) (p : m.Perm l) : m = Jav lt l := Jp1 h hm (Jkv h) (p.trans Jf1.symm)
theorem Jkw (h : STO lt) {l m : List α} (p : l.Perm m) : Jav lt l = Jav lt m := Jkx h (Jkv h) (Jf1.trans p)
theorem Jr9 (h : STO lt) {l : List α} : (l.mergeSort fun x y => !lt y x) = Jav lt l := by
 refine Jkx h ?_ (List.mergeSort_perm _ _)
 have := List.pairwise_mergeSort (le := fun x y => !lt y x) (fun a b c h1 h2 => ?_) (fun a b => ?_) l
 . exact this.imp fun h1 => by simpa using h1
 . simp only [Bool.not_eq_true'] at h1 h2 ⊢
   cases e : lt c a with
   | false => rfl
   | true =>
     cases e2 : lt a b with
     | true => rw [h.trans e e2] at h2; cases h2
     | false =>
       have := h.total e2 h1
       subst this
       rw [e] at h2; cases h2
 . simp only [Bool.or_eq_true, Bool.not_eq_true']
   cases e : lt a b with
   | true => exact .inl (h.asymm e)
   | false => exact .inr rfl
theorem Jr4 {β : Type} {lt' : β -> β -> Bool} {f : α -> β} {x : α} : ∀ {l : List α}, (∀ y ∈ l, lt' (f y) (f x) = lt y x) -> (insB lt x l).map f = insB lt' (f x) (l.map f)
 | [], _ => rfl
 | y :: ys, h => by
   simp only [insB, List.map_cons, h y (by simp)]
   have ih := Jr4 (l := ys) (fun z hz => h z (List.mem_cons_of_mem _ hz))
   split
   . simp only [List.map_cons, ih]
   . rfl
theorem Jnq {β : Type} {lt' : β -> β -> Bool} {f : α -> β} : ∀ {l : List α}, (∀ x ∈ l, ∀ y ∈ l, lt' (f y) (f x) = lt y x) -> (Jav lt l).map f = Jav lt' (l.map f)
 | [], _ => rfl
 | x :: l, h => by
   show (insB lt x (Jav lt l)).map f = insB lt' (f x) (Jav lt' (l.map f))
   rw [Jr4 (fun y hy => h x (by simp) y (by simp [Jr8.1 hy])), Jnq (fun a ha b hb => h a (by simp [ha]) b (by simp [hb]))]
theorem Jr7 (h : STO lt) {l : List α} (hl : AscB lt l) : Jav lt l = l := (Jkx h hl (List.Perm.refl _)).symm
def Jb3 (lt : α -> α -> Bool) (l : List α) : Nat -> Nat
 | 0 => 0
 | k + 1 => match l[k]?, l[Jb3 lt l k]? with
   | some x, some y => if lt x y then k else Jb3 lt l k
   | _, _ => Jb3 lt l k
theorem Jsn {l : List α} {k : Nat} {x y : α} (h1 : l[k]? = some x) (h2 : l[Jb3 lt l k]? = some y) : Jb3 lt l (k + 1) = if lt x y then k else Jb3 lt l k := by
 simp only [Jb3, h1, h2]
theorem Jsm (h : STO lt) {l : List α} : Jb3 lt l 1 = 0 := by
 unfold Jb3
 split
 . split
   . rfl
   . rfl
 . rfl
theorem Jny (h : STO lt) {l : List α} : ∀ {k : Nat}, 1 <= k -> k <= l.length -> Jb3 lt l k < k
 | 1, _, _ => by rw [Jsm h]; omega
 | k + 2, _, hk => by
   have ih := Jny h (l := l) (k := k + 1) (by omega) (by omega)
   obtain ⟨x, ex⟩ := Jah (xs := l) (k := k + 1) (by omega)
   obtain ⟨y, ey⟩ := Jah (xs := l) (k := Jb3 lt l (k + 1)) (by omega)
   rw [Jsn ex ey]
   split <;> omega
theorem Jsk (h : STO lt) {l : List α} : ∀ {k : Nat}, 1 <= k -> k <= l.length -> ∀ y, l[Jb3 lt l k]? = some y -> ∀ (j : Nat) x, j < k -> l[j]? = some x -> lt x y = false
 | 1, _, _, y, hy, j, x, hj, hx => by
   have e : j = 0 := by omega
   subst e
   rw [Jsm h, hx] at hy
   cases hy
   exact h.irrefl _
 | k + 2, _, hk, y, hy, j, x, hj, hx => by
   have h1 := Jny h (l := l) (k := k + 1) (by omega) (by omega)
   obtain ⟨a, ea⟩ := Jah (xs := l) (k := k + 1) (by omega)
   obtain ⟨b, eb⟩ := Jah (xs := l) (k := Jb3 lt l (k + 1)) (by omega)
   have ih := Jsk h (l := l) (k := k + 1) (by omega) (by omega) b eb
   rw [Jsn ea eb] at hy
   by_cases e : j = k + 1
   . subst e
     rw [ea] at hx; cases hx
     split at hy
     . rw [ea] at hy; cases hy; exact h.irrefl _
     . rename_i hn
       rw [eb] at hy; cases hy
       simpa using hn
   . have h2 := ih j x (by omega) hx
     split at hy
     . rename_i hlt
       rw [ea] at hy
       have hya : a = y := by simpa using hy
       subst hya
       cases e2 : lt x a with
       | false => rfl
       | true => rw [h.trans e2 hlt] at h2; cases h2
     . rw [eb] at hy; cases hy
       exact h2
def selN (lt : α -> α -> Bool) : Nat -> List α -> List α
 | 0, _ => []
 | n + 1, l => match l[Jb3 lt l l.length]? with
   | some x => x :: selN lt n (l.take (Jb3 lt l l.length) ++ l.drop (Jb3 lt l l.length + 1))
   | none => []
def selS (lt : α -> α -> Bool) (l : List α) : List α := selN lt l.length l
theorem Jlu {l : List α} {i : Nat} {x : α} (e : l[i]? = some x) : (x :: (l.take i ++ l.drop (i + 1))).Perm l := by
 obtain ⟨hi, hx⟩ := gsI.1 e
 have : l = l.take i ++ x :: l.drop (i + 1) := by rw [<- hx, <- List.drop_eq_getElem_cons hi, List.take_append_drop]
 conv => rhs; rw [this]
 exact List.perm_middle.symm
theorem Jox (h : STO lt) : ∀ {n : Nat} {l : List α}, l.length = n -> (selN lt n l).Perm l /\ AscB lt (selN lt n l)
 | 0, l, e => by
   have : l = [] := List.length_eq_zero_iff.1 e
   subst this
   exact ⟨List.Perm.refl _, List.Pairwise.nil⟩
 | n + 1, l, e => by
   have h1 := Jny h (l := l) (k := l.length) (by omega) (Nat.le_refl _)
   obtain ⟨x, ex⟩ := Jah h1
   have hst := Jlu ex
   have hl2 : (l.take (Jb3 lt l l.length) ++ l.drop (Jb3 lt l l.length + 1)).length = n := by
     have := hst.length_eq
     simp only [List.length_cons] at this
     omega
   obtain ⟨p, a⟩ := Jox h hl2
   simp only [selN, ex]
   refine ⟨(List.Perm.cons x p).trans hst, List.pairwise_cons.2 ⟨fun z hz => ?_, a⟩⟩
   have hz2 : z ∈ l := hst.mem_iff.1 (List.mem_cons_of_mem _ (p.mem_iff.1 hz))
   obtain ⟨j, hj⟩ := List.getElem?_of_mem hz2
   exact Jsk h (by omega) (Nat.le_refl _) x ex j z (gsI.1 hj).1 hj
theorem Ju9 (h : STO lt) {l : List α} : selS lt l = Jav lt l := Jkx h (Jox h rfl).2 (Jox h rfl).1
theorem Jsl {β : Type} {lt' : β -> β -> Bool} {f : α -> β} {l : List α} (hf : ∀ x ∈ l, ∀ y ∈ l, lt' (f y) (f x) = lt y x) : ∀ {k : Nat}, Jb3 lt' (l.map f) k = Jb3 lt l k
 | 0 => rfl
 | k + 1 => by
   simp only [Jb3, Jsl hf (k := k), List.getElem?_map]
   cases e1 : l[k]? with
   | none => rfl
   | some x =>
     cases e2 : l[Jb3 lt l k]? with
     | none => rfl
     | some y => simp only [Option.map_some, hf y (List.mem_of_getElem? e2) x (List.mem_of_getElem? e1)]
theorem Ju8 {β : Type} {lt' : β -> β -> Bool} {f : α -> β} : ∀ {n : Nat} {l : List α}, (∀ x ∈ l, ∀ y ∈ l, lt' (f y) (f x) = lt y x) -> (selN lt n l).map f = selN lt' n (l.map f)
 | 0, _, _ => rfl
 | n + 1, l, hf => by
   simp only [selN, Jsl hf, List.length_map, List.getElem?_map]
   cases e : l[Jb3 lt l l.length]? with
   | none => rfl
   | some x =>
     simp only [Option.map_some, List.map_cons, List.cons.injEq, true_and]
     rw [Ju8 (fun a ha b hb => hf a ?_ b ?_)]
     . simp [List.map_take, List.map_drop]
     . exact (Jlu e).mem_iff.1 (List.mem_cons_of_mem _ ha)
     . exact (Jlu e).mem_iff.1 (List.mem_cons_of_mem _ hb)
end
theorem Jhw : STO Op.bytesLess := ⟨Jeg, fun h k => Jg1 h k, fun h k => Jge h k⟩
theorem Jvv : STO Jbu := ⟨Jlh, fun h k => Jod h k, fun h k => J46 h k⟩
structure End where
 part : Txt
 port : Txt
 deriving DecidableEq
@[simp] def End.enc (a : End) : List PV := [.str a.part, .str a.port]
@[simp] def End.row (a : End) : List AV := [.p (.str a.part), .p (.str a.port)]
@[simp] def End.av (a : End) : AV := .agg [.p (.str a.part), .p (.str a.port)]
def Jce (a b : End) : Int := orI [Lib.compareBytes a.part b.part, Lib.compareBytes a.port b.port]
def Jcw (a b : End) : Bool := if a.part = b.part then Op.bytesLess a.port b.port else Op.bytesLess a.part b.part
theorem Jj8 {a b : End} : Jce a b < 0 ↔ Jcw a b = true := by
 unfold Jce Jcw
 simp only [orI]
 by_cases e : a.part = b.part
 . rw [if_pos (Jdx.2 e), if_pos e, <- Jj6]
   by_cases h0 : Lib.compareBytes a.port b.port = 0
   . rw [if_pos h0]; omega
   . rw [if_neg h0]
 . rw [if_neg (fun h => e (Jdx.1 h)), if_neg e, Jj6]
theorem Jj7 {a b : End} : Jce a b = 0 ↔ a = b := by
 unfold Jce
 simp only [orI]
 by_cases e : a.part = b.part
 . rw [if_pos (Jdx.2 e)]
   by_cases h0 : Lib.compareBytes a.port b.port = 0
   . rw [if_pos h0]
     have := Jdx.1 h0
     obtain ⟨x, y⟩ := a
     obtain ⟨u, v⟩ := b
     simp_all
   . rw [if_neg h0]
     constructor
     . intro h; exact absurd h h0
     . rintro rfl; exact absurd (Jdx.2 rfl) h0
 . rw [if_neg (fun h => e (Jdx.1 h))]
   constructor
   . intro h; exact absurd (Jdx.1 h) e
   . rintro rfl; exact absurd rfl e
theorem Jec : STO Jcw := by
 refine ⟨fun a => by simp [Jcw, Jeg], fun {a b c} h k => ?_, fun {a b} h k => ?_⟩
 . unfold Jcw at h k ⊢
   by_cases e1 : a.part = b.part <;> by_cases e2 : b.part = c.part
   . rw [if_pos e1] at h; rw [if_pos e2] at k; rw [if_pos (e1.trans e2)]; exact Jg1 h k
   . rw [if_neg e2] at k; rw [if_neg (e1 ▸ e2), e1]; exact k
   . rw [if_neg e1] at h; rw [if_neg (e2 ▸ e1), <- e2]; exact h
   . rw [if_neg e1] at h; rw [if_neg e2] at k
     have := Jg1 h k
     rw [if_neg (fun e => by rw [e, Jeg] at this; cases this)]
     exact this
 . unfold Jcw at h k
   by_cases e : a.part = b.part
   . rw [if_pos e] at h; rw [if_pos e.symm] at k
     obtain ⟨x, y⟩ := a
     obtain ⟨u, v⟩ := b
     simp only at e h k
     rw [e, Jge h k]
   . rw [if_neg e] at h; rw [if_neg (Ne.symm e)] at k
     exact absurd (Jge h k) e
theorem Jgg {a b : End} : 0 < Jce a b ↔ Jcw b a = true := by
 constructor
 . intro h
   cases e : Jcw b a with
   | true => rfl
   | false =>
     cases e2 : Jcw a b with
     | true => have := Jj8.2 e2; omega
     | false =>
       have := Jec.total e e2
       have := Jj7.2 this.symm
       omega
 . intro h
   have h1 : ¬ Jce a b < 0 := fun h2 => by have := Jec.asymm h; rw [Jj8.1 h2] at this; cases this
   have h2 : Jce a b ≠ 0 := fun h2 => by have := Jj7.1 h2; subst this; rw [Jec.irrefl] at h; cases h
   omega
abbrev EndP := End × End
@[simp] def EndP.enc (x : EndP) : List PV := [.str x.1.part, .str x.1.port, .str x.2.part, .str x.2.port]
@[simp] def EndP.row (x : EndP) : List AV := [.p (.str x.1.part), .p (.str x.1.port), .p (.str x.2.part), .p (.str x.2.port)]
@[simp] def EndP.av (x : EndP) : AV := .agg [.p (.str x.1.part), .p (.str x.1.port), .p (.str x.2.part), .p (.str x.2.port)]
def Jei (a b : EndP) : Int := orI [Jce a.1 b.1, Jce a.2 b.2]
def Jba (a b : EndP) : Bool := if a.1 = b.1 then Jcw a.2 b.2 else Jcw a.1 b.1
theorem Jz2 {a b : EndP} : Jei a b < 0 ↔ Jba a b = true := by
 unfold Jei Jba
 simp only [orI]
 by_cases e : a.1 = b.1
 . rw [if_pos (Jj7.2 e), if_pos e, <- Jj8]
   by_cases h0 : Jce a.2 b.2 = 0
   . rw [if_pos h0]; omega
   . rw [if_neg h0]
 . rw [if_neg (fun h => e (Jj7.1 h)), if_neg e, Jj8]
theorem Jf8 : STO Jba := by
 refine ⟨fun a => by simp [Jba, Jec.irrefl], fun {a b c} h k => ?_, fun {a b} h k => ?_⟩
 . unfold Jba at h k ⊢
   by_cases e1 : a.1 = b.1 <;> by_cases e2 : b.1 = c.1
   . rw [if_pos e1] at h; rw [if_pos e2] at k; rw [if_pos (e1.trans e2)]; exact Jec.trans h k
   . rw [if_neg e2] at k; rw [if_neg (e1 ▸ e2), e1]; exact k
   . rw [if_neg e1] at h; rw [if_neg (e2 ▸ e1), <- e2]; exact h
   . rw [if_neg e1] at h; rw [if_neg e2] at k
     have := Jec.trans h k
     rw [if_neg (fun e => by rw [e, Jec.irrefl] at this; cases this)]
     exact this
 . unfold Jba at h k
   by_cases e : a.1 = b.1
   . rw [if_pos e] at h; rw [if_pos e.symm] at k
     exact Prod.ext e (Jec.total h k)
   . rw [if_neg e] at h; rw [if_neg (Ne.symm e)] at k
     exact absurd (Jec.total h k) e
def ordE (a b : End) : EndP := if 0 < Jce a b then (b, a) else (a, b)
theorem J4s {a b : End} : ordE a b = ordE b a := by
 unfold ordE
 by_cases h : 0 < Jce a b
 . have h2 : ¬ 0 < Jce b a := fun h2 => by
     have := Jec.asymm (Jgg.1 h); rw [Jgg.1 h2] at this; cases this
   rw [if_pos h, if_neg h2]
 . by_cases h2 : 0 < Jce b a
   . rw [if_neg h, if_pos h2]
   . rw [if_neg h, if_neg h2]
     have e : a = b := by
       refine Jec.total ?_ ?_
       . cases e : Jcw a b with
         | false => rfl
         | true => exact absurd (Jgg.2 e) h2
       . cases e : Jcw b a with
         | false => rfl
         | true => exact absurd (Jgg.2 e) h
     rw [e]
theorem Jtn {a b c d : End} : ordE a b = ordE c d ↔ (a = c /\ b = d) \/ (a = d /\ b = c) := by
 constructor
 . intro h
   unfold ordE at h
   split at h <;> split at h <;> simp only [Prod.mk.injEq] at h
   . exact .inl ⟨h.2, h.1⟩
   . exact .inr ⟨h.2, h.1⟩
   . exact .inr ⟨h.1, h.2⟩
   . exact .inl h
 . rintro (⟨rfl, rfl⟩ | ⟨rfl, rfl⟩)
   . rfl
   . exact J4s
structure Drf where
 parts : List Part
 pipes : List EndP
 deriving DecidableEq
def Jar (ps : List Part) : List Txt := Jav Op.bytesLess (ps.map (·.name))
def Jdz (ps : List Part) (s : Txt) : Part := (ps.find? fun p => decide (p.name = s)).getD ⟨0, [], 0⟩
def atNm (nms : List Txt) (s : Txt) : Int := match nms.findIdx? fun n => decide (n = s) with | some i => i | none => 0
def Jcz (nms : List Txt) (x : EndP) : Pipe := ⟨⟨atNm nms x.1.part, x.1.port⟩, ⟨atNm nms x.2.part, x.2.port⟩⟩
def Jdp (d : Drf) : Circuit := ⟨(Jar d.parts).map (Jdz d.parts), (Jav Jba d.pipes).map (Jcz (Jar d.parts))⟩
def Jem (p q : Part) : Bool := Op.bytesLess p.name q.name
def Jo9 (c : Circuit) (x : EndP) : Pipe :=
 let a : Port := ⟨idxI c.parts fun p => decide (p.name = x.1.part), x.1.port⟩
 let b : Port := ⟨idxI c.parts fun p => decide (p.name = x.2.part), x.2.port⟩
 if Jbj b a then ⟨b, a⟩ else ⟨a, b⟩
def Jbe (d : Drf) : Circuit := ⟨selS Jem d.parts, selS Jbu (d.pipes.map (Jo9 ⟨selS Jem d.parts, []⟩))⟩
structure DrfOk (d : Drf) : Prop where
 nd : (d.parts.map (·.name)).Nodup
 ends : ∀ x ∈ d.pipes, x.1.part ∈ d.parts.map (·.name) /\ x.2.part ∈ d.parts.map (·.name)
theorem Jg6 {ps : List Part} (h : (ps.map (·.name)).Nodup) {p : Part} (hp : p ∈ ps) : Jdz ps p.name = p := by
 unfold Jdz
 have : ps.find? (fun q => decide (q.name = p.name)) = some p := by
   induction ps with
   | nil => cases hp
   | cons q ps ih =>
     rw [List.map_cons, List.nodup_cons] at h
     rcases List.mem_cons.1 hp with rfl | hp
     . simp
     . have hne : q.name ≠ p.name := fun e => h.1 (e ▸ List.mem_map_of_mem hp)
       rw [List.find?_cons_of_neg (by simpa using hne)]
       exact ih h.2 hp
 rw [this]; rfl
theorem Joz {ps : List Part} : (selS Jem ps).map (·.name) = Jar ps := by
 unfold selS Jar
 rw [Ju8 (lt := Jem) (lt' := Op.bytesLess) (f := fun p : Part => p.name) (fun x _ y _ => rfl), <- Ju9 Jhw]
 unfold selS
 rw [List.length_map]
theorem Js0 {α : Type} {lt : α -> α -> Bool} : ∀ {n : Nat} {l : List α} {x : α}, x ∈ selN lt n l -> x ∈ l
 | 0, _, _, h => by cases h
 | n + 1, l, x, h => by
   simp only [selN] at h
   split at h
   . rename_i y e
     rcases List.mem_cons.1 h with rfl | h
     . exact List.mem_of_getElem? e
     . exact (Jlu e).mem_iff.1 (List.mem_cons_of_mem _ (Js0 h))
   . cases h
theorem Joy {ps : List Part} (h : (ps.map (·.name)).Nodup) : selS Jem ps = (Jar ps).map (Jdz ps) := by
 rw [<- Joz, List.map_map]
 conv => lhs; rw [<- List.map_id (selS Jem ps)]
 refine List.map_congr_left fun p hp => ?_
 exact (Jg6 h (Js0 hp)).symm
theorem Jiw {ps : List Part} {s : Txt} : s ∈ Jar ps ↔ s ∈ ps.map (·.name) := Jr8
theorem J2x {ps : List Part} (h : (ps.map (·.name)).Nodup) : (Jar ps).Nodup := Jf1.nodup_iff.2 h
theorem Jr1 {ps : List Part} (h : (ps.map (·.name)).Nodup) {s : Txt} (hs : s ∈ ps.map (·.name)) : idxI (selS Jem ps) (fun p => decide (p.name = s)) = atNm (Jar ps) s := by
 rw [<- Joz]
 unfold idxI atNm
 rw [List.findIdx?_map]
 have e : ((fun n => decide (n = s)) ∘ fun p : Part => p.name) = fun p : Part => decide (p.name = s) := rfl
 rw [e]
 have hm : s ∈ (selS Jem ps).map (·.name) := by rw [Joz]; exact Jiw.2 hs
 cases e2 : (selS Jem ps).findIdx? fun p => decide (p.name = s) with
 | some i => rfl
 | none =>
   rw [List.findIdx?_eq_none_iff] at e2
   obtain ⟨p, hp, rfl⟩ := List.mem_map.1 hm
   have := e2 p hp
   simp at this
theorem Jif {nms : List Txt} (hn : nms.Nodup) {i : Nat} {s : Txt} (e : nms[i]? = some s) : atNm nms s = i := by
 have hi := (gsI.1 e).1
 have : nms.findIdx? (fun n => decide (n = s)) = some i := by
   rw [List.findIdx?_eq_some_iff_getElem]
   refine ⟨hi, by rw [(gsI.1 e).2]; simp, fun j hj => ?_⟩
   have h1 := List.pairwise_iff_getElem.1 hn j i (by omega) hi hj
   rw [(gsI.1 e).2] at h1
   simpa using h1
 unfold atNm; rw [this]
theorem Jp5 {ps : List Part} (h : (ps.map (·.name)).Nodup) {s t : Txt} (hs : s ∈ ps.map (·.name)) (ht : t ∈ ps.map (·.name)) : (atNm (Jar ps) s < atNm (Jar ps) t ↔ Op.bytesLess s t = true) /\ (atNm (Jar ps) s = atNm (Jar ps) t ↔ s = t) := by
 obtain ⟨i, ei⟩ := List.getElem?_of_mem (Jiw.2 hs)
 obtain ⟨j, ej⟩ := List.getElem?_of_mem (Jiw.2 ht)
 have hn := J2x h
 rw [Jif hn ei, Jif hn ej]
 obtain ⟨hi, ei'⟩ := gsI.1 ei
 obtain ⟨hj, ej'⟩ := gsI.1 ej
 have hasc : AscB Op.bytesLess (Jar ps) := Jkv Jhw
 have hp := List.pairwise_iff_getElem.1 hasc
 have hinj : i = j ↔ s = t := by
   constructor
   . rintro rfl; rw [ei] at ej; cases ej; rfl
   . rintro rfl
     have h1 := Jif hn ei
     rw [Jif hn ej] at h1
     omega
 constructor
 . constructor
   . intro hlt
     have h1 := hp i j hi hj (by omega)
     rw [ei', ej'] at h1
     cases e : Op.bytesLess s t with
     | true => rfl
     | false => have := hinj.2 (Jge e h1); omega
   . intro hb
     rcases Nat.lt_trichotomy i j with h1 | h1 | h1
     . omega
     . have := hinj.1 h1; subst this; rw [Jeg] at hb; cases hb
     . have h2 := hp j i hj hi h1
       rw [ei', ej', hb] at h2; cases h2
 . rw [<- hinj]; omega
theorem Jli {ps : List Part} (h : (ps.map (·.name)).Nodup) {a b : End} (ha : a.part ∈ ps.map (·.name)) (hb : b.part ∈ ps.map (·.name)) : Jbj ⟨atNm (Jar ps) a.part, a.port⟩ ⟨atNm (Jar ps) b.part, b.port⟩ = Jcw a b := by
 obtain ⟨h1, h2⟩ := Jp5 h ha hb
 unfold Jbj Jcw
 simp only [h2]
 split
 . rfl
 . rw [Bool.eq_iff_iff, decide_eq_true_eq]; exact h1
theorem Jt5 {ps : List Part} (h : (ps.map (·.name)).Nodup) {x y : EndP} (hx : x.1.part ∈ ps.map (·.name) /\ x.2.part ∈ ps.map (·.name)) (hy : y.1.part ∈ ps.map (·.name) /\ y.2.part ∈ ps.map (·.name)) : Jbu (Jcz (Jar ps) x) (Jcz (Jar ps) y) = Jba x y := by
 have e : (Jcz (Jar ps) x).fr = (Jcz (Jar ps) y).fr ↔ x.1 = y.1 := by
   obtain ⟨⟨a, b⟩, _⟩ := x
   obtain ⟨⟨c, d⟩, _⟩ := y
   simp only [Jcz, Port.mk.injEq, End.mk.injEq, (Jp5 h hx.1 hy.1).2]
 unfold Jbu Jba
 simp only [e]
 split
 . exact Jli h hx.2 hy.2
 . exact Jli h hx.1 hy.1
theorem J6y {ps : List Part} (h : (ps.map (·.name)).Nodup) {x : EndP} (hx : x.1.part ∈ ps.map (·.name) /\ x.2.part ∈ ps.map (·.name)) : Jo9 ⟨selS Jem ps, []⟩ x = Jcz (Jar ps) (ordE x.1 x.2) := by
 unfold Jo9
 simp only [Jr1 h hx.1, Jr1 h hx.2, Jli h hx.2 hx.1]
 unfold ordE
 by_cases e : Jcw x.2 x.1 = true
 . rw [if_pos e, if_pos (Jgg.2 e)]; rfl
 . rw [if_neg e, if_neg (fun h => e (Jgg.1 h))]; rfl
theorem Jtm {ps : List Part} {x : EndP} (hx : x.1.part ∈ ps.map (·.name) /\ x.2.part ∈ ps.map (·.name)) : (ordE x.1 x.2).1.part ∈ ps.map (·.name) /\ (ordE x.1 x.2).2.part ∈ ps.map (·.name) := by
 unfold ordE
 split
 . exact ⟨hx.2, hx.1⟩
 . exact hx
theorem Jgh {d : Drf} (h : DrfOk d) : Jdp ⟨d.parts, d.pipes.map fun x => ordE x.1 x.2⟩ = Jbe d := by
 unfold Jdp Jbe
 rw [Joy h.nd, Ju9 Jvv]
 congr 1
 rw [Jnq (lt' := Jbu) (f := Jcz (Jar d.parts)), List.map_map]
 . congr 1
   refine List.map_congr_left fun x hx => ?_
   rw [<- Joy h.nd, J6y h.nd (h.ends x hx)]; rfl
 . intro x hx y hy
   obtain ⟨x', hx', rfl⟩ := List.mem_map.1 hx
   obtain ⟨y', hy', rfl⟩ := List.mem_map.1 hy
   exact Jt5 h.nd (Jtm (h.ends y' hy')) (Jtm (h.ends x' hx'))
end Go.Am
namespace Go.Am
open Go Go.Proofs Go.Pn
def fldG : Txt -> Txt -> List Txt
 | cur, [] => if cur = [] then [] else [cur]
 | cur, b :: t => if b = 32 then (if cur = [] then fldG [] t else cur :: fldG [] t) else fldG (cur ++ [b]) t
theorem Jrj {s : Txt} : ∀ {k : Nat}, k <= s.length -> (fldK s k).1 ++ fldG (fldK s k).2 (s.drop k) = fldG [] s
 | 0, _ => by simp [fldK]
 | k + 1, h => by
   have ih := Jrj (s := s) (k := k) (by omega)
   rw [<- ih]
   have hk : k < s.length := by omega
   obtain ⟨b, e⟩ := Jah hk
   have hd : s.drop k = b :: s.drop (k + 1) := by rw [List.drop_eq_getElem_cons hk]; rw [List.getElem?_eq_getElem hk] at e; cases e; rfl
   rw [hd]
   simp only [fldK, e, fldG]
   by_cases hb : b = 32
   . rw [if_neg (by simpa using hb), if_pos hb]
     by_cases hc : (fldK s k).2 = []
     . simp [hc]
     . simp [hc]
   . rw [if_pos hb, if_neg hb]
theorem Jfx {s : Txt} : fldR s = fldG [] s := by
 have h := Jrj (s := s) (k := s.length) (Nat.le_refl _)
 rw [List.drop_length] at h
 rw [<- h]
 unfold fldR
 have hn : s[s.length]? = none := by simp
 simp only [fldK, hn, fldG]
 split <;> simp
theorem Jkh : ∀ {u : Txt} {cur t : Txt}, (∀ b ∈ u, b ≠ 32) -> fldG cur (u ++ t) = fldG (cur ++ u) t
 | [], cur, t, _ => by simp
 | b :: u, cur, t, h => by
   have hb := h b (by simp)
   rw [List.cons_append, fldG, if_neg hb, Jkh (fun x hx => h x (by simp [hx]))]
   simp
theorem J0b (n b0 b1 b2 b3 : Nat) : ((Lib.decodeN n b0 b1 b2 b3).1 = 32 -> b0 = 32 /\ (Lib.decodeN n b0 b1 b2 b3).2 = 1) /\
   ((Lib.decodeN n b0 b1 b2 b3).1 ≠ 32 -> b0 ≠ 32 /\ (1 < (Lib.decodeN n b0 b1 b2 b3).2 -> b1 ≠ 32) /\ (2 < (Lib.decodeN n b0 b1 b2 b3).2 -> b2 ≠ 32) /\ (3 < (Lib.decodeN n b0 b1 b2 b3).2 -> b3 ≠ 32) /\ (Lib.decodeN n b0 b1 b2 b3).2 <= 4) := by
 unfold Lib.decodeN
 repeat' split
 all_goals (refine ⟨fun h => ⟨?_, ?_⟩, fun h => ⟨?_, fun h2 => ?_, fun h2 => ?_, fun h2 => ?_, ?_⟩⟩ <;> dsimp only at * <;> omega)
theorem J0c {s : Txt} {pos : Nat} (h : pos < s.length) : ((Utf8.decode ⟨⟨s⟩⟩ pos).1 = 32 -> s[pos]? = some 32 /\ (Utf8.decode ⟨⟨s⟩⟩ pos).2 = 1) /\ ((Utf8.decode ⟨⟨s⟩⟩ pos).1 ≠ 32 -> ∀ b ∈ (s.drop pos).take (Utf8.decode ⟨⟨s⟩⟩ pos).2, b ≠ 32) := by
 have e := Lib.decode_N ⟨⟨s⟩⟩ pos
 have hf := J0b (s.length - pos) (s.getD pos 0).toNat (s.getD (pos + 1) 0).toNat (s.getD (pos + 2) 0).toNat (s.getD (pos + 3) 0).toNat
 have e2 : (⟨⟨s⟩⟩ : ByteArray).data.toList = s := rfl
 rw [e2] at e
 rw [<- e] at hf
 obtain ⟨f1, f2⟩ := hf
 have hget : ∀ j b, s[pos + j]? = some b -> s.getD (pos + j) 0 = b := fun j b hj => by rw [List.getD_eq_getElem?_getD, hj]; rfl
 refine ⟨fun h1 => ?_, fun h1 b hb => ?_⟩
 . obtain ⟨g1, g2⟩ := f1 h1
   obtain ⟨b, eb⟩ := Jah h
   have := hget 0 b (by simpa using eb)
   simp only [Nat.add_zero] at this
   rw [this] at g1
   have hb : b = 32 := UInt8.toNat_inj.1 (by simpa using g1)
   exact ⟨by rw [eb, hb], g2⟩
 . obtain ⟨g0, g1, g2, g3, g4⟩ := f2 h1
   obtain ⟨j, hj⟩ := List.getElem?_of_mem hb
   have hjw : j < (Utf8.decode ⟨⟨s⟩⟩ pos).2 := by
     have := (gsI.1 hj).1
     rw [List.length_take] at this; omega
   rw [List.getElem?_take_of_lt hjw, List.getElem?_drop] at hj
   rintro rfl
   have hv := hget j 32 hj
   rcases (by omega : j = 0 \/ j = 1 \/ j = 2 \/ j = 3) with rfl | rfl | rfl | rfl
   . rw [Nat.add_zero] at hv; rw [hv] at g0; exact g0 rfl
   . rw [hv] at g1; exact g1 (by omega) rfl
   . rw [hv] at g2; exact g2 (by omega) rfl
   . rw [hv] at g3; exact g3 (by omega) rfl
theorem J6e (s : Txt) : ∀ (f pos : Nat) (st : Option Nat) (acc : List (Nat × Nat)), s.length <= pos + f -> pos <= s.length -> (∀ a, st = some a -> a < pos) ->
   acc.map (fun p => Lib.pieceU s p.1 p.2) ++ fldG (Lib.openPiece s st pos) (s.drop pos) = (Lib.closeSpans ⟨⟨s⟩⟩ (Lib.spansFromP (fun x => x == 32) ⟨⟨s⟩⟩ f pos st acc)).map (fun p => Lib.pieceU s p.1 p.2) := by
 have hsz : (⟨⟨s⟩⟩ : ByteArray).size = s.length := rfl
 have hend : ∀ (f : Nat) (st : Option Nat) (acc : List (Nat × Nat)), (∀ a, st = some a -> a < s.length) ->
     acc.map (fun p => Lib.pieceU s p.1 p.2) ++ fldG (Lib.openPiece s st s.length) (s.drop s.length) = (Lib.closeSpans ⟨⟨s⟩⟩ (Lib.spansFromP (fun x => x == 32) ⟨⟨s⟩⟩ f s.length st acc)).map (fun p => Lib.pieceU s p.1 p.2) := fun f st acc hst => by
   rw [Lib.spansFromP_end _ _ _ _ _ _ (by rw [hsz]; omega), List.drop_length]
   cases st with
   | none => simp [Lib.closeSpans, Lib.openPiece, fldG]
   | some a =>
     have := Lib.pieceU_ne s a s.length (hst a rfl) (Nat.le_refl _)
     simp [Lib.closeSpans, Lib.openPiece, fldG, this, hsz]
 intro f
 induction f with
 | zero =>
   intro pos st acc h hp hst
   obtain rfl : pos = s.length := by omega
   exact hend 0 st acc hst
 | succ f ih =>
   intro pos st acc h hp hst
   by_cases hlt : pos < s.length
   . have hw := Lib.width_pos ⟨⟨s⟩⟩ pos
     have hwn : pos + (Utf8.decode ⟨⟨s⟩⟩ pos).2 <= s.length := by
       have := Lib.decodeN_le_n' ((⟨⟨s⟩⟩ : ByteArray).size - pos) ((⟨⟨s⟩⟩ : ByteArray).get! pos).toNat ((⟨⟨s⟩⟩ : ByteArray).get! (pos + 1)).toNat ((⟨⟨s⟩⟩ : ByteArray).get! (pos + 2)).toNat ((⟨⟨s⟩⟩ : ByteArray).get! (pos + 3)).toNat (by rw [hsz]; omega)
       rw [<- Lib.decode_at, hsz] at this
       omega
     obtain ⟨c1, c2⟩ := J0c hlt
     have hsp : s.drop pos = (s.drop pos).take (Utf8.decode ⟨⟨s⟩⟩ pos).2 ++ s.drop (pos + (Utf8.decode ⟨⟨s⟩⟩ pos).2) := by rw [<- List.drop_drop, List.take_append_drop]
     simp only [Lib.spansFromP, hsz, if_pos hlt]
     by_cases hb : (Utf8.decode ⟨⟨s⟩⟩ pos).1 = 32
     . obtain ⟨d1, d2⟩ := c1 hb
       have hd : s.drop pos = 32 :: s.drop (pos + 1) := by rw [List.drop_eq_getElem_cons hlt]; rw [List.getElem?_eq_getElem hlt, Option.some.injEq] at d1; rw [d1]
       simp only [hb, beq_self_eq_true, if_true, d2, hd, fldG]
       cases st with
       | none =>
         have := ih (pos + 1) none acc (by omega) (by omega) (fun a h => by cases h)
         simpa [Lib.openPiece] using this
       | some a =>
         have hpn := Lib.pieceU_ne s a pos (hst a rfl) (by omega)
         have := ih (pos + 1) none (acc ++ [(a, pos)]) (by omega) (by omega) (fun a h => by cases h)
         simpa [Lib.openPiece, hpn] using this
     . have hb2 : ((Utf8.decode ⟨⟨s⟩⟩ pos).1 == 32) = false := by simpa using hb
       rw [hsp, Jkh (c2 hb)]
       simp only [hb2, Bool.false_eq_true, if_false]
       cases st with
       | none =>
         have := ih (pos + (Utf8.decode ⟨⟨s⟩⟩ pos).2) (some pos) acc (by omega) hwn (fun a h => by cases h; omega)
         have e : Lib.openPiece s none pos ++ (s.drop pos).take (Utf8.decode ⟨⟨s⟩⟩ pos).2 = Lib.openPiece s (some pos) (pos + (Utf8.decode ⟨⟨s⟩⟩ pos).2) := by
           simp only [Lib.openPiece]
           unfold Lib.pieceU
           rw [List.nil_append, Nat.add_sub_cancel_left]
         rw [e]; exact this
       | some a =>
         have := ih (pos + (Utf8.decode ⟨⟨s⟩⟩ pos).2) (some a) acc (by omega) hwn (fun b h => by cases h; have := hst a rfl; omega)
         have e : Lib.openPiece s (some a) pos ++ (s.drop pos).take (Utf8.decode ⟨⟨s⟩⟩ pos).2 = Lib.openPiece s (some a) (pos + (Utf8.decode ⟨⟨s⟩⟩ pos).2) := by
           simp only [Lib.openPiece]
           rw [Lib.pieceU_grow _ _ _ _ (Nat.le_of_lt (hst a rfl))]
         rw [e]; exact this
   . obtain rfl : pos = s.length := by omega
     exact hend (f + 1) st acc hst
theorem J1s (s : Txt) : (Lib.goFieldsP (fun x => x == 32) ⟨⟨s⟩⟩).map (fun x => x.data.toList) = fldR s := by
 have h := J6e s s.length 0 none [] (by omega) (by omega) (fun a h => by cases h)
 rw [Jfx]
 have e : fldG [] s = fldG (Lib.openPiece s none 0) (s.drop 0) := rfl
 rw [e]
 rw [List.map_nil, List.nil_append] at h
 rw [h]
 unfold Lib.goFieldsP Lib.spansOfP
 have hsz : (⟨⟨s⟩⟩ : ByteArray).size = s.length := rfl
 rw [List.map_map, hsz]
 refine List.map_congr_left fun p _ => ?_
 simp only [Function.comp, Lib.pieceU, Lib.extract_data]
def linS : Txt -> Txt -> List Txt × Txt
 | [], cur => ([], cur)
 | b :: t, cur => if b = 10 then (cur :: (linS t []).1, (linS t []).2) else linS t (cur ++ [b])
def Jaw (s : Txt) : List Txt := (linS s []).1
theorem Jss : ∀ {u : Txt} {t cur : Txt}, (∀ b ∈ u, b ≠ 10) -> linS (u ++ t) cur = linS t (cur ++ u)
 | [], t, cur, _ => by simp
 | b :: u, t, cur, h => by
   rw [List.cons_append, linS, if_neg (h b (by simp)), Jss (fun x hx => h x (by simp [hx]))]
   simp
theorem J2o {u t cur : Txt} (h : ∀ b ∈ u, b ≠ 10) : linS (u ++ 10 :: t) cur = ((cur ++ u) :: (linS t []).1, (linS t []).2) := by
 rw [Jss h, linS, if_pos rfl]
theorem Jk1 : ∀ {s cur : Txt}, (linS s cur).1.length <= s.length
 | [], cur => by simp [linS]
 | b :: t, cur => by
   unfold linS
   split
   . simp only [List.length_cons]
     have := @Jk1 t []
     omega
   . have := @Jk1 t (cur ++ [b])
     simp only [List.length_cons]
     omega
theorem Jk2 : ∀ {s cur : Txt} {l : Txt}, l ∈ (linS s cur).1 -> l.length <= cur.length + s.length
 | [], cur, l, h => by simp [linS] at h
 | b :: t, cur, l, h => by
   unfold linS at h
   split at h
   . rcases List.mem_cons.1 h with rfl | h
     . simp
     . have := @Jk2 t [] l h
       simp only [List.length_cons, List.length_nil] at this ⊢
       omega
   . have := @Jk2 t (cur ++ [b]) l h
     simp only [List.length_cons, List.length_append, List.length_nil] at this ⊢
     omega
theorem Jiu : ∀ {s cur : Txt}, s ≠ [] -> ((linS s cur).2 = [] ↔ s.getLast? = some 10)
 | [], _, h => absurd rfl h
 | [b], cur, _ => by
   unfold linS
   by_cases hb : b = 10
   . subst hb; simp [linS]
   . simp [hb, linS]
 | b :: c :: t, cur, _ => by
   unfold linS
   rw [List.getLast?_cons_cons]
   split
   . exact Jiu (s := c :: t) (by simp)
   . exact Jiu (s := c :: t) (by simp)
theorem Jst : ∀ {ls : List Txt}, (∀ l ∈ ls, ∀ b ∈ l, b ≠ 10) -> linS (ls.flatMap fun l => l ++ [10]) [] = (ls, [])
 | [], _ => rfl
 | l :: ls, h => by
   have e : ((l :: ls).flatMap fun l => l ++ [10]) = l ++ 10 :: (ls.flatMap fun l => l ++ [10]) := by simp
   rw [e, J2o (h l (by simp)), Jst (fun x hx => h x (by simp [hx]))]
   rfl
end Go.Am
namespace Go.Am
open Go Go.Proofs Go.Pn
def dotI (s : Txt) : Int := idxI s fun b => decide (b = 46)
def befD (s : Txt) : Txt := s.take (dotI s).toNat
def aftD (s : Txt) : Txt := s.drop ((dotI s).toNat + 1)
def Je0 (ps : List Part) (s : Txt) : Option Int := (ps.find? fun p => decide (p.name = s)).map (·.kind)
def Jgn (k : Int) (s : Txt) : Bool := decide (0 <= Jea k.toNat s)
def Jbp (ps : List Part) (s : Txt) : Int := if dotI s < 0 then 4 else match Je0 ps (befD s) with
 | none => 6
 | some k => if Jgn k (aftD s) then 0 else 6
def Jby (ps : List Part) (s : Txt) : End := if Jbp ps s = 0 then ⟨befD s, aftD s⟩ else ⟨[], []⟩
def Jbw (w : Txt) : Int := idxI (List.range 14) fun k => decide (Jbl k = w)
def partOf (a b : Txt) (o : Option Txt) : Part := ⟨Jbw b, a, match o with | some c => valOf c | none => 0⟩
def Jhk (o : Option Txt) : Int := match o with | some c => Jcj c | none => 0
def Jbc (ps : List Part) (a b : Txt) (o : Option Txt) : Int :=
 if Jbw b < 0 then 6 else if Jhk o ≠ 0 then Jhk o else if Ja0 (partOf a b o) ≠ 0 then Ja0 (partOf a b o) else if a ∈ ps.map (·.name) then 7 else if ps.length = 64 then 5 else 0
def Ja6 (ps : List Part) (a b : Txt) (o : Option Txt) : List Part := if Jbc ps a b o = 0 then ps ++ [partOf a b o] else ps
def Jct (ps : List Part) : List Txt -> Int
 | [a, b] => Jbc ps a b none
 | [a, b, c] => Jbc ps a b (some c)
 | _ => 4
def Ja8 (ps : List Part) : List Txt -> List Part
 | [a, b] => Ja6 ps a b none
 | [a, b, c] => Ja6 ps a b (some c)
 | _ => ps
def ordX (x : EndP) : EndP := ordE x.1 x.2
def Jci (d : Drf) (a b : Txt) : Int :=
 if Jbp d.parts a ≠ 0 then Jbp d.parts a else if Jbp d.parts b ≠ 0 then Jbp d.parts b else
 if Jby d.parts a = Jby d.parts b \/ ordE (Jby d.parts a) (Jby d.parts b) ∈ d.pipes.map ordX then 7 else if d.pipes.length = 256 then 5 else 0
def Jb2 (d : Drf) (a b : Txt) : List EndP := if Jci d a b = 0 then d.pipes ++ [(Jby d.parts a, Jby d.parts b)] else d.pipes
def Jdb (d : Drf) : List Txt -> Int
 | [a, b] => Jci d a b
 | _ => 4
def Jbi (d : Drf) : List Txt -> List EndP
 | [a, b] => Jb2 d a b
 | _ => d.pipes
def Jbv : Txt := [112, 97, 114, 116]
def Jb7 : Txt := [112, 105, 112, 101]
def Jd1 (d : Drf) : List Txt -> Int
 | [] => 0
 | h :: t => if h.head? = some 35 then 0 else if h = Jbv then Jct d.parts t else if h = Jb7 then Jdb d t else 4
def Jbz (d : Drf) : List Txt -> Drf
 | [] => d
 | h :: t => if h.head? = some 35 then d else if h = Jbv then ⟨Ja8 d.parts t, d.pipes⟩ else if h = Jb7 then ⟨d.parts, Jbi d t⟩ else d
def linE (d : Drf) (s : Txt) : Int := Jd1 d (fldR s)
def Jbs (d : Drf) (s : Txt) : Drf := Jbz d (fldR s)
def runD (d : Drf) : List Txt -> Drf
 | [] => d
 | l :: ls => if linE d l = 0 then runD (Jbs d l) ls else Jbs d l
def Jgo (d : Drf) : List Txt -> Nat
 | [] => 0
 | l :: ls => if linE d l = 0 then Jgo (Jbs d l) ls + 1 else 0
def runE (d : Drf) : List Txt -> Int
 | [] => 0
 | l :: ls => if linE d l = 0 then runE (Jbs d l) ls else linE d l
def noD : Drf := ⟨[], []⟩
def noC : Circuit := ⟨[], []⟩
def prsE (s : Txt) : Int := if 16384 < s.length then 17 else if (linS s []).2 ≠ [] then 18 else
 if runE noD (Jaw s) ≠ 0 then runE noD (Jaw s) else Jad (Jbe (runD noD (Jaw s)))
def prsI (s : Txt) : Int := if 16384 < s.length then 0 else if (linS s []).2 ≠ [] then 0 else
 if runE noD (Jaw s) ≠ 0 then Jgo noD (Jaw s) else if Jad (Jbe (runD noD (Jaw s))) ≠ 0 then (Jaw s).length else 0
def prsC (s : Txt) : Circuit := if prsE s = 0 then Jbe (runD noD (Jaw s)) else noC
theorem J2k {ps : List Part} {s : Txt} {k : Int} (h : Je0 ps s = some k) : s ∈ ps.map (·.name) := by
 unfold Je0 at h
 obtain ⟨p, hp, _⟩ := Option.map_eq_some_iff.1 h
 have h2 := List.find?_some hp
 exact List.mem_map.2 ⟨p, List.mem_of_find?_eq_some hp, by simpa using h2⟩
theorem Jt9 {ps : List Part} {s : Txt} (h : Jbp ps s = 0) : (Jby ps s).part ∈ ps.map (·.name) := by
 unfold Jby
 rw [if_pos h]
 unfold Jbp at h
 split at h
 . cases h
 . split at h
   . cases h
   . rename_i k e
     exact J2k e
theorem Jtv {ps : List Part} {a b : Txt} {o : Option Txt} : ∀ p ∈ ps, p ∈ Ja6 ps a b o := fun p hp => by
 unfold Ja6; split
 . exact List.mem_append_left _ hp
 . exact hp
theorem Jtw {ps : List Part} {w : List Txt} : ∀ p ∈ ps, p ∈ Ja8 ps w := fun p hp => by
 unfold Ja8; split
 . exact Jtv p hp
 . exact Jtv p hp
 . exact hp
theorem Jtu {ps : List Part} {a b : Txt} {o : Option Txt} (h : (ps.map (·.name)).Nodup) : ((Ja6 ps a b o).map (·.name)).Nodup := by
 unfold Ja6
 split
 . rename_i e
   rw [List.map_append, List.nodup_append]
   refine ⟨h, by simp, fun x hx y hy => ?_⟩
   simp [partOf] at hy
   subst hy
   intro e2
   subst e2
   unfold Jbc at e
   split at e
   . cases e
   . split at e
     . contradiction
     . split at e
       . contradiction
       . first | (rw [if_pos hx] at e; cases e) | cases e
 . exact h
theorem J4v {ps : List Part} {w : List Txt} (h : (ps.map (·.name)).Nodup) : ((Ja8 ps w).map (·.name)).Nodup := by
 unfold Ja8; split
 . exact Jtu h
 . exact Jtu h
 . exact h
theorem J48 {d : Drf} (h : DrfOk d) {w : List Txt} : ∀ x ∈ Jbi d w, x.1.part ∈ d.parts.map (·.name) /\ x.2.part ∈ d.parts.map (·.name) := fun x hx => by
 unfold Jbi at hx
 split at hx
 . unfold Jb2 at hx
   split at hx
   . rename_i a b _ e
     rcases List.mem_append.1 hx with hx | hx
     . exact h.ends x hx
     . simp at hx
       subst hx
       unfold Jci at e
       split at e
       . contradiction
       . rename_i h1
         split at e
         . contradiction
         . rename_i h2
           exact ⟨Jt9 (by simpa using h1), Jt9 (by simpa using h2)⟩
   . exact h.ends x hx
 . exact h.ends x hx
theorem Jpj {d : Drf} (h : DrfOk d) {w : List Txt} : DrfOk (Jbz d w) := by
 unfold Jbz
 split
 . exact h
 . split
   . exact h
   . split
     . refine ⟨J4v h.nd, fun x hx => ?_⟩
       obtain ⟨h1, h2⟩ := h.ends x hx
       obtain ⟨p, hp, e1⟩ := List.mem_map.1 h1
       obtain ⟨q, hq, e2⟩ := List.mem_map.1 h2
       exact ⟨List.mem_map.2 ⟨p, Jtw p hp, e1⟩, List.mem_map.2 ⟨q, Jtw q hq, e2⟩⟩
     . split
       . exact ⟨h.nd, J48 h⟩
       . exact h
theorem Joq : ∀ {ls : List Txt} {d : Drf}, DrfOk d -> DrfOk (runD d ls)
 | [], _, h => h
 | l :: ls, d, h => by
   unfold runD
   split
   . exact Joq (Jpj h)
   . exact Jpj h
theorem Jk8 : DrfOk noD := ⟨List.nodup_nil, by simp [noD]⟩
structure DrfSz (d : Drf) : Prop where
 parts : d.parts.length <= 64
 pipes : d.pipes.length <= 256
theorem Jpk {d : Drf} (h : DrfSz d) {w : List Txt} : DrfSz (Jbz d w) := by
 have hp : ∀ {a b : Txt} {o : Option Txt}, (Ja6 d.parts a b o).length <= 64 := fun {a b o} => by
   unfold Ja6
   split
   . rename_i e
     have h1 := h.parts
     have : d.parts.length ≠ 64 := fun e2 => by
       unfold Jbc at e
       split at e
       . cases e
       . split at e
         . contradiction
         . split at e
           . contradiction
           . split at e
             . cases e
             . first | (rw [if_pos e2] at e; cases e) | cases e
     simp only [List.length_append, List.length_cons, List.length_nil]; omega
   . exact h.parts
 have hq : ∀ {a b : Txt}, (Jb2 d a b).length <= 256 := fun {a b} => by
   unfold Jb2
   split
   . rename_i e
     have h1 := h.pipes
     have : d.pipes.length ≠ 256 := fun e2 => by
       unfold Jci at e
       split at e
       . contradiction
       . split at e
         . contradiction
         . split at e
           . cases e
           . first | (rw [if_pos e2] at e; cases e) | cases e
     simp only [List.length_append, List.length_cons, List.length_nil]; omega
   . exact h.pipes
 unfold Jbz
 split
 . exact h
 . split
   . exact h
   . split
     . refine ⟨?_, h.pipes⟩
       simp only [Ja8]
       split
       . exact hp
       . exact hp
       . exact h.parts
     . split
       . refine ⟨h.parts, ?_⟩
         simp only [Jbi]
         split
         . exact hq
         . exact h.pipes
       . exact h
theorem Jor : ∀ {ls : List Txt} {d : Drf}, DrfSz d -> DrfSz (runD d ls)
 | [], _, h => h
 | l :: ls, d, h => by
   unfold runD
   split
   . exact Jor (Jpk h)
   . exact Jpk h
theorem Jk9 : DrfSz noD := ⟨by simp [noD], by simp [noD]⟩
def Jak (c : Circuit) (p : Port) : End := ⟨nameAt c p.part, p.name⟩
def endX (a : End) : Txt := a.part ++ 46 :: a.port
def Jd0 : Txt := [112, 97, 114, 116, 32]
def Jf7 : Txt := [112, 105, 112, 101, 32]
def partT (p : Part) : Txt := (Jd0 ++ p.name ++ [32] ++ Jbl p.kind.toNat) ++ (if p.kind = 12 then 32 :: Lib.decDigits p.delay.toNat else [])
def Jda (c : Circuit) (x : Pipe) : Txt := Jf7 ++ endX (Jak c x.fr) ++ [32] ++ endX (Jak c x.to)
def Jdu (c : Circuit) : List Txt := c.parts.map partT ++ c.pipes.map (Jda c)
def unl (ls : List Txt) : Txt := ls.flatMap fun l => l ++ [10]
def Jf9 (c : Circuit) : Txt := unl (Jdu c)
def Jc5 (c : Circuit) : Int := if Jad c ≠ 0 then Jad c else if 16384 < (Jf9 c).length then 17 else 0
def fmtC (c : Circuit) : Txt := if Jc5 c = 0 then Jf9 c else []
def ptE (c : Circuit) (p : Port) : Int := if Jad c ≠ 0 then Jad c else Jbq c p
def ptT (c : Circuit) (p : Port) : Txt := if ptE c p = 0 then endX (Jak c p) else []
def rpE (c : Circuit) (s : Txt) : Int := if Jad c ≠ 0 then Jad c else Jbp c.parts s
def rpP (c : Circuit) (s : Txt) : Port := if rpE c s = 0 then ⟨Jc8 c (befD s), aftD s⟩ else ⟨0, []⟩
def cntC (c : Circuit) : List Int := (List.range 14).map fun (k : Nat) => ((c.parts.countP fun p => decide (p.kind = (k : Int)) : Nat) : Int)
def cntR (c : Circuit) : List Int := if Jad c = 0 then cntC c else []
def drfC (c : Circuit) : Drf := ⟨c.parts, c.pipes.map fun x => (Jak c x.fr, Jak c x.to)⟩
def Jcx (f : Txt -> Txt) (a : End) : End := ⟨f a.part, a.port⟩
def Jch (f : Txt -> Txt) (p : Part) : Part := ⟨p.kind, f p.name, p.delay⟩
def mapD (f : Txt -> Txt) (d : Drf) : Drf := ⟨d.parts.map (Jch f), d.pipes.map fun x => (Jcx f x.1, Jcx f x.2)⟩
def Jbd (c : Circuit) (old new s : Txt) : Txt := if s = old then new else
 if Jc6 c (Jc8 c old) = 1 /\ (s = old ++ [48] /\ 0 <= swAt c (old ++ [48])) then new ++ [48] else
 if Jc6 c (Jc8 c old) = 1 /\ (s = old ++ [49] /\ 0 <= swAt c (old ++ [49])) then new ++ [49] else s
def renD (c : Circuit) (old new : Txt) : Drf := mapD (Jbd c old new) (drfC c)
def rnmE (c : Circuit) (old new : Txt) : Int := if Jad c ≠ 0 then Jad c else if Jc8 c old < 0 then 6 else
 if ¬ ((renD c old new).parts.map (·.name)).Nodup then 7 else Jad (Jbe (renD c old new))
def rnmC (c : Circuit) (old new : Txt) : Circuit := if rnmE c old new = 0 then Jbe (renD c old new) else noC
def clash (a b : Circuit) : Bool := b.parts.any fun q => a.parts.any fun p => decide (p.name = q.name) && !decide (p = q)
end Go.Am
namespace Go.Am
open Go Go.Proofs Go.Pn
theorem J20 {c : Circuit} (h : Jad c = 0) : AscB Op.bytesLess (c.parts.map (·.name)) := by
 refine List.pairwise_map.2 (List.pairwise_iff_getElem.2 fun i j hi hj hij => ?_)
 exact Jjy (Jlf h hij (List.getElem?_eq_getElem hi) (List.getElem?_eq_getElem hj))
theorem Je1 {c : Circuit} (h : Jad c = 0) : (c.parts.map (·.name)).Nodup := by
 refine List.pairwise_map.2 (List.pairwise_iff_getElem.2 fun i j hi hj hij => ?_)
 intro e
 have := Jlf h hij (List.getElem?_eq_getElem hi) (List.getElem?_eq_getElem hj)
 rw [e, Jeg] at this
 cases this
theorem Jf2 {c : Circuit} {p : Port} (h : Jbq c p = 0) : nameAt c p.part ∈ c.parts.map (·.name) := by
 obtain ⟨q, e, _⟩ := Jdq.1 h
 unfold nameAt
 rw [e]
 exact List.mem_map_of_mem (List.mem_of_getElem? e)
theorem Jjx {c : Circuit} (h : Jad c = 0) {p : Port} (hp : Jbq c p = 0) : (⟨atNm (c.parts.map (·.name)) (nameAt c p.part), p.name⟩ : Port) = p := by
 obtain ⟨q, e, h0, _⟩ := Jdq.1 hp
 have : atNm (c.parts.map (·.name)) (nameAt c p.part) = p.part.toNat := by
   refine Jif (Je1 h) ?_
   unfold nameAt
   rw [List.getElem?_map, e]; rfl
 rw [this]
 obtain ⟨a, b⟩ := p
 simp only at h0 ⊢
 rw [Int.toNat_of_nonneg h0]
def Jcf (c : Circuit) (x : Pipe) : EndP := (Jak c x.fr, Jak c x.to)
theorem Jdt {c : Circuit} (h : Jad c = 0) {x : Pipe} (hx : x ∈ c.pipes) : Jbq c x.fr = 0 /\ Jbq c x.to = 0 /\ Jbj x.fr x.to = true := J43.1 ((Jeh.1 h).2.2.1 x hx)
theorem Jil {c : Circuit} (h : Jad c = 0) : DrfOk (drfC c) := by
 refine ⟨Je1 h, fun x hx => ?_⟩
 obtain ⟨y, hy, rfl⟩ := List.mem_map.1 hx
 obtain ⟨h1, h2, _⟩ := Jdt h hy
 exact ⟨Jf2 h1, Jf2 h2⟩
theorem Jn2 {c : Circuit} (h : Jad c = 0) : Jar c.parts = c.parts.map (·.name) := Jr7 Jhw (J20 h)
theorem Jq7 {c : Circuit} (h : Jad c = 0) {p q : Port} (hp : Jbq c p = 0) (hq : Jbq c q = 0) : Jcw (Jak c p) (Jak c q) = Jbj p q := by
 have := Jli (Je1 h) (a := Jak c p) (b := Jak c q) (Jf2 hp) (Jf2 hq)
 rw [Jn2 h] at this
 rw [<- this]
 show Jbj ⟨atNm _ (nameAt c p.part), p.name⟩ ⟨atNm _ (nameAt c q.part), q.name⟩ = _
 rw [Jjx h hp, Jjx h hq]
theorem Jiz {c : Circuit} (h : Jad c = 0) {x : Pipe} (hx : x ∈ c.pipes) : ordX (Jcf c x) = Jcf c x := by
 obtain ⟨h1, h2, h3⟩ := Jdt h hx
 unfold ordX ordE Jcf
 rw [if_neg]
 intro h4
 have h5 := Jgg.1 h4
 rw [Jq7 h h2 h1] at h5
 have h6 := J5h h3
 rw [h5] at h6
 cases h6
theorem J0g {d e : Drf} (hd : (d.parts.map (·.name)).Nodup) (hp : d.parts.Perm e.parts) (hx : d.pipes.Perm e.pipes) : Jdp d = Jdp e := by
 have hn : Jar d.parts = Jar e.parts := Jkw Jhw (hp.map _)
 have he : (e.parts.map (·.name)).Nodup := (hp.map _).nodup_iff.1 hd
 unfold Jdp
 rw [<- hn, Jkw Jf8 hx]
 congr 1
 refine List.map_congr_left fun s hs => ?_
 obtain ⟨p, hpm, rfl⟩ := List.mem_map.1 (Jiw.1 hs)
 rw [Jg6 hd hpm, Jg6 he (hp.mem_iff.1 hpm)]
theorem sorted_perm {d e : Drf} (hd : DrfOk d) (he : DrfOk e) (hp : d.parts.Perm e.parts) (hx : (d.pipes.map ordX).Perm (e.pipes.map ordX)) : Jbe d = Jbe e := by
 rw [<- Jgh hd, <- Jgh he]
 exact J0g hd.nd hp hx
theorem Ji0 {c : Circuit} (h : Jad c = 0) {x : Pipe} (hx : x ∈ c.pipes) : Jcz (c.parts.map (·.name)) (Jcf c x) = x := by
 obtain ⟨h1, h2, _⟩ := Jdt h hx
 unfold Jcz Jcf Jak
 rw [Jjx h h1, Jjx h h2]
theorem J0j {c : Circuit} (h : Jad c = 0) : Jbe (drfC c) = c := by
 rw [<- Jgh (Jil h)]
 unfold Jdp
 have e1 : (drfC c).parts = c.parts := rfl
 have e2 : (drfC c).pipes.map (fun x => ordE x.1 x.2) = c.pipes.map (Jcf c) := by
   show (c.pipes.map (Jcf c)).map ordX = _
   rw [List.map_map]
   exact List.map_congr_left fun x hx => Jiz h hx
 simp only [e1, e2]
 obtain ⟨ps, xs⟩ := c
 congr 1
 . rw [Jn2 h, List.map_map]
   conv => rhs; rw [<- List.map_id ps]
   exact List.map_congr_left fun p hp => Jg6 (Je1 h) hp
 . have hr := Jn2 h
   rw [Jnq (lt' := Jbu) (f := Jcz (Jar ps)), List.map_map]
   . have : xs.map (Jcz (Jar ps) ∘ Jcf ⟨ps, xs⟩) = xs := by
       conv => rhs; rw [<- List.map_id xs]
       refine List.map_congr_left fun x hx => ?_
       have := Ji0 h hx
       rw [<- hr] at this
       exact this
     rw [this]
     refine Jr7 Jvv ?_
     exact (Jeh.1 h).2.2.2.imp fun h1 => J45 h1
   . intro x hx y hy
     obtain ⟨x', hx', rfl⟩ := List.mem_map.1 hx
     obtain ⟨y', hy', rfl⟩ := List.mem_map.1 hy
     obtain ⟨a1, a2, _⟩ := Jdt h hx'
     obtain ⟨b1, b2, _⟩ := Jdt h hy'
     exact Jt5 (Je1 h) ⟨Jf2 b1, Jf2 b2⟩ ⟨Jf2 a1, Jf2 a2⟩
theorem J0f {c : Circuit} (h : Jad c = 0) {d : Drf} (hp : d.parts.Perm c.parts) (hx : (d.pipes.map ordX).Perm ((drfC c).pipes.map ordX)) : Jbe d = c := by
 have hnd : (d.parts.map (·.name)).Nodup := (hp.map _).nodup_iff.2 (Je1 h)
 have hok := Jil h
 have hd : DrfOk d := by
   refine ⟨hnd, fun x hx2 => ?_⟩
   have h1 : ordX x ∈ (drfC c).pipes.map ordX := hx.mem_iff.1 (List.mem_map_of_mem hx2)
   obtain ⟨y, hy, e⟩ := List.mem_map.1 h1
   obtain ⟨g1, g2⟩ := hok.ends y hy
   have hsub : ∀ s, s ∈ (drfC c).parts.map (·.name) -> s ∈ d.parts.map (·.name) := fun s hs => (hp.map (·.name)).mem_iff.2 hs
   unfold ordX at e
   rcases Jtn.1 e with ⟨e1, e2⟩ | ⟨e1, e2⟩
   . rw [<- e1, <- e2]; exact ⟨hsub _ g1, hsub _ g2⟩
   . rw [<- e1, <- e2]; exact ⟨hsub _ g2, hsub _ g1⟩
 rw [sorted_perm hd hok hp hx, J0j h]
theorem Jhr {d : Drf} (h : DrfOk d) : (Jbe d).parts.Perm d.parts := by
 show (selS Jem d.parts).Perm d.parts
 rw [Joy h.nd]
 have h1 : (Jar d.parts).Perm (d.parts.map (·.name)) := Jf1
 refine (h1.map (Jdz d.parts)).trans ?_
 rw [List.map_map]
 have : d.parts.map (Jdz d.parts ∘ fun p => p.name) = d.parts := by
   conv => rhs; rw [<- List.map_id d.parts]
   exact List.map_congr_left fun p hp => Jg6 h.nd hp
 rw [this]
end Go.Am
namespace Go.Am
open Go Go.Proofs Go.Pn
theorem Jm5 {n : Nat} (h : n < 10) : Lib.decDigits n = [UInt8.ofNat (48 + n)] := by rw [Lib.decDigits, dif_pos h]
theorem Jq4 {n : Nat} (h : ¬ n < 10) : Lib.decDigits n = Lib.decDigits (n / 10) ++ [UInt8.ofNat (48 + n % 10)] := by rw [Lib.decDigits, dif_neg h]
theorem Jq5 {i : Nat} (h : i < 10) : isDigit (UInt8.ofNat (48 + i)) = true /\ (UInt8.ofNat (48 + i)).toNat = 48 + i := by
 have h2 : (UInt8.ofNat (48 + i)).toNat = 48 + i := by simp; omega
 exact ⟨Jfv.2 (by rw [h2]; omega), h2⟩
theorem Jm4 : ∀ (n : Nat), (∀ b ∈ Lib.decDigits n, isDigit b = true) /\ Jgb (Lib.decDigits n) = n /\ Lib.decDigits n ≠ [] /\ (0 < n -> (Lib.decDigits n).head? ≠ some 48) := by
 intro n
 induction n using Nat.strongRecOn with
 | _ n ih =>
   by_cases h : n < 10
   . rw [Jm5 h]
     obtain ⟨h1, h2⟩ := Jq5 h
     refine ⟨by simpa using h1, by simp [Jgb, h2]; omega, by simp, fun h0 => ?_⟩
     simp only [List.head?_cons, ne_eq, Option.some.injEq]
     intro e
     rw [e] at h2
     simp at h2
     omega
   . obtain ⟨i1, i2, i3, i4⟩ := ih (n / 10) (by omega)
     rw [Jq4 h]
     obtain ⟨h1, h2⟩ := Jq5 (show n % 10 < 10 by omega)
     refine ⟨fun b hb => ?_, ?_, by simp, fun _ => ?_⟩
     . rcases List.mem_append.1 hb with hb | hb
       . exact i1 b hb
       . rw [List.mem_singleton] at hb; subst hb; exact h1
     . unfold Jgb at i2 ⊢
       rw [List.foldl_append, i2]
       simp only [List.foldl_cons, List.foldl_nil, h2]
       omega
     . have := i4 (by omega)
       cases e : Lib.decDigits (n / 10) with
       | nil => exact absurd e i3
       | cons x r => rw [e] at this; simpa using this
theorem Jkb : ∀ {k n : Nat}, n < 10 ^ (k + 1) -> (Lib.decDigits n).length <= k + 1
 | 0, n, h => by rw [Jm5 (by simpa using h)]; simp
 | k + 1, n, h => by
   by_cases h1 : n < 10
   . rw [Jm5 h1]; simp
   . rw [Jq4 h1, List.length_append]
     have h2 : n / 10 < 10 ^ (k + 1) := by
       rw [Nat.pow_succ] at h
       exact Nat.div_lt_of_lt_mul (by omega)
     have := Jkb h2
     simp only [List.length_cons, List.length_nil]
     omega
theorem J0a {n : Nat} (h1 : 1 <= n) (h2 : n <= 1000000) : Jcj (Lib.decDigits n) = 0 /\ valOf (Lib.decDigits n) = n := by
 obtain ⟨a, b, c, d⟩ := Jm4 n
 have hl : (Lib.decDigits n).length <= 7 := Jkb (k := 6) (by omega)
 have hs : signed (Lib.decDigits n) = false := by
   unfold signed
   rw [decide_eq_false_iff_not]
   intro e
   cases e2 : Lib.decDigits n with
   | nil => rw [e2] at e; cases e
   | cons x r =>
     rw [e2] at e
     simp only [List.head?_cons, Option.some.injEq] at e
     have := Jfv.1 (a x (by rw [e2]; simp))
     rw [e] at this
     revert this; decide
 have hn : Jb4 (Lib.decDigits n) = 0 := by
   unfold Jb4
   rw [if_neg, if_neg, if_neg (by omega)]
   . rw [List.all_eq_true.2 a]; simp
   . rintro (h | ⟨_, h⟩)
     . exact c h
     . exact d (by omega) h
 have he : Jcj (Lib.decDigits n) = 0 := by unfold Jcj; rw [hs]; simpa using hn
 refine ⟨he, ?_⟩
 unfold valOf
 rw [if_neg (by simpa using he), hs]
 simpa using b
def Jb1 (p : Part) : List Txt := [Jbv, p.name, Jbl p.kind.toNat] ++ (if p.kind = 12 then [Lib.decDigits p.delay.toNat] else [])
def Jcq (c : Circuit) (x : Pipe) : List Txt := [Jb7, endX (Jak c x.fr), endX (Jak c x.to)]
def NoSp (w : Txt) : Prop := w ≠ [] /\ ∀ b ∈ w, b ≠ 32
theorem Jg7 {w t : Txt} (h : NoSp w) : fldG [] (w ++ 32 :: t) = w :: fldG [] t := by
 rw [Jkh h.2]
 simp [fldG, h.1]
theorem Jng {w : Txt} (h : NoSp w) : fldG [] w = [w] := by
 have := Jkh (u := w) (cur := []) (t := []) h.2
 rw [List.append_nil] at this
 rw [this]
 simp [fldG, h.1]
theorem Jis {b : UInt8} (h : Jcg b = true) : b ≠ 32 /\ b ≠ 46 /\ b ≠ 10 /\ b ≠ 35 := by
 have h2 : (∀ n : Nat, n < 256 -> (Jcg (UInt8.ofNat n) = true -> UInt8.ofNat n ≠ 32 /\ UInt8.ofNat n ≠ 46 /\ UInt8.ofNat n ≠ 10 /\ UInt8.ofNat n ≠ 35)) := by decide +kernel
 have h3 := h2 b.toNat b.toNat_lt
 rw [UInt8.ofNat_toNat] at h3
 exact h3 h
theorem Jen {s : Txt} (h : Jcm s = 0) : s ≠ [] /\ (∀ b ∈ s, Jcg b = true) /\ s.length <= 24 := by
 cases s with
 | nil => simp [Jcm] at h
 | cons b r =>
   unfold Jcm at h
   simp only at h
   split at h
   . cases h
   . split at h
     . cases h
     . rename_i h2
       split at h
       . cases h
       . rename_i h3
         refine ⟨by simp, fun x hx => ?_, by omega⟩
         simp only [Bool.not_eq_true', Bool.not_eq_false] at h2
         exact List.all_eq_true.1 h2 x hx
theorem Jc7 {p : Part} (h : Ja0 p = 0) : (0 <= p.kind /\ p.kind < 14) /\ Jcm p.name = 0 /\ (p.kind = 12 -> 1 <= p.delay /\ p.delay <= 1000000) /\ (p.kind ≠ 12 -> p.delay = 0) := by
 unfold Ja0 at h
 by_cases h1 : Jbf p.kind = 0
 . rw [if_neg (by simpa using h1)] at h
   by_cases h2 : Jcm p.name = 0
   . rw [if_neg (by simpa using h2)] at h
     refine ⟨Jfd.1 h1, h2, ?_, ?_⟩ <;> intro h3 <;> split at h <;> (try cases h) <;> omega
   . rw [if_pos h2] at h; exact absurd h h2
 . rw [if_pos h1] at h; exact absurd h h1
theorem Jcy {c : Circuit} (h : Jad c = 0) {p : Part} (hp : p ∈ c.parts) : Ja0 p = 0 := by
 have hf := (Jeh.1 h).1.each
 obtain ⟨j, hj, e⟩ := List.getElem_of_mem hp
 have h2 := Jfa hf hj
 unfold partAt at h2
 rw [List.getElem?_eq_getElem hj, e] at h2
 simp only at h2
 apply Decidable.byContradiction
 intro hne
 rw [if_pos hne] at h2
 exact hne h2
theorem Js4 {c : Circuit} (h : Jad c = 0) {p : Port} (hp : Jbq c p = 0) : Jcm (nameAt c p.part) = 0 := by
 obtain ⟨q, e, _⟩ := Jdq.1 hp
 have := (Jc7 (Jcy h (List.mem_of_getElem? e))).2.1
 unfold nameAt; rw [e]; exact this
theorem Jjp {k : Nat} (h : k < 14) : NoSp (Jbl k) /\ (∀ b ∈ Jbl k, b ≠ 10) /\ Jbw (Jbl k) = k /\ (Jbl k).length <= 8 := by
 rcases (by omega : k = 0 \/ k = 1 \/ k = 2 \/ k = 3 \/ k = 4 \/ k = 5 \/ k = 6 \/ k = 7 \/ k = 8 \/ k = 9 \/ k = 10 \/ k = 11 \/ k = 12 \/ k = 13) with rfl|rfl|rfl|rfl|rfl|rfl|rfl|rfl|rfl|rfl|rfl|rfl|rfl|rfl <;> exact ⟨⟨by decide, by decide⟩, by decide, by decide, by decide⟩
theorem Ji1 {q : Part} (hq : 0 <= q.kind /\ q.kind < 14) {s : Txt} (hs : s ∈ Jbg q) : (∀ b ∈ s, b ≠ 32 /\ b ≠ 10) /\ Jgn q.kind s = true /\ s.length <= 2 := by
 have h1 : ∀ k, k < 14 -> ∀ s ∈ Jbr k, (∀ b ∈ s, b ≠ 32 /\ b ≠ 10) /\ 0 <= Jea k s /\ s.length <= 2 := by decide +kernel
 obtain ⟨a, b, d⟩ := h1 q.kind.toNat (by omega) s hs
 exact ⟨a, by unfold Jgn; simpa using b, d⟩
theorem J2w {s : Txt} (h : Jcm s = 0) : NoSp s := by
 obtain ⟨a, b, _⟩ := Jen h
 exact ⟨a, fun x hx => (Jis (b x hx)).1⟩
theorem Jg4 {c : Circuit} (h : Jad c = 0) {p : Port} (hp : Jbq c p = 0) : NoSp (endX (Jak c p)) /\ (∀ b ∈ endX (Jak c p), b ≠ 10) /\ (endX (Jak c p)).length <= 27 := by
 obtain ⟨q, e, h0, hm⟩ := Jdq.1 hp
 obtain ⟨hk, _⟩ := Jc7 (Jcy h (List.mem_of_getElem? e))
 obtain ⟨a, b, d⟩ := Jen (Js4 h hp)
 obtain ⟨f, _, g⟩ := Ji1 hk hm
 unfold endX Jak
 refine ⟨⟨by simp, fun x hx => ?_⟩, fun x hx => ?_, by simp only [List.length_append, List.length_cons]; omega⟩
 . rcases List.mem_append.1 hx with hx | hx
   . exact (Jis (b x hx)).1
   . rcases List.mem_cons.1 hx with rfl | hx
     . decide
     . exact (f x hx).1
 . rcases List.mem_append.1 hx with hx | hx
   . exact (Jis (b x hx)).2.2.1
   . rcases List.mem_cons.1 hx with rfl | hx
     . decide
     . exact (f x hx).2
theorem Joa {p : Part} (h : Ja0 p = 0) : fldR (partT p) = Jb1 p := by
 obtain ⟨hk, hw, hd, _⟩ := Jc7 h
 have hn := J2w hw
 obtain ⟨hv, _⟩ := Jjp (k := p.kind.toNat) (by omega)
 have hs : NoSp Jbv := ⟨by decide, by decide⟩
 rw [Jfx]
 unfold partT Jb1
 have e : ∀ r : Txt, (Jd0 ++ p.name ++ [32] ++ Jbl p.kind.toNat) ++ r = Jbv ++ 32 :: (p.name ++ 32 :: (Jbl p.kind.toNat ++ r)) := fun r => by simp [Jd0, Jbv]
 rw [e, Jg7 hs, Jg7 hn]
 by_cases h12 : p.kind = 12
 . rw [if_pos h12, if_pos h12, Jg7 hv]
   obtain ⟨a, _, b, _⟩ := Jm4 p.delay.toNat
   have : NoSp (Lib.decDigits p.delay.toNat) := ⟨b, fun x hx => by have := Jfv.1 (a x hx); rintro rfl; revert this; decide⟩
   rw [Jng this]; rfl
 . rw [if_neg h12, if_neg h12, List.append_nil, Jng hv]; rfl
theorem Joe {c : Circuit} (h : Jad c = 0) {x : Pipe} (hx : x ∈ c.pipes) : fldR (Jda c x) = Jcq c x := by
 obtain ⟨h1, h2, _⟩ := Jdt h hx
 have hs : NoSp Jb7 := ⟨by decide, by decide⟩
 rw [Jfx]
 unfold Jda Jcq
 have e : Jf7 ++ endX (Jak c x.fr) ++ [32] ++ endX (Jak c x.to) = Jb7 ++ 32 :: (endX (Jak c x.fr) ++ 32 :: endX (Jak c x.to)) := by simp [Jf7, Jb7]
 rw [e, Jg7 hs, Jg7 (Jg4 h h1).1, Jng (Jg4 h h2).1]
theorem J4z {ps : List Part} {p : Part} (h : Ja0 p = 0) (hn : p.name ∉ ps.map (·.name)) (hl : ps.length ≠ 64) {es : List EndP} :
   Jd1 ⟨ps, es⟩ (Jb1 p) = 0 /\ Jbz ⟨ps, es⟩ (Jb1 p) = ⟨ps ++ [p], es⟩ := by
 obtain ⟨hk, hw, hd, hd0⟩ := Jc7 h
 obtain ⟨_, _, hkw, _⟩ := Jjp (k := p.kind.toNat) (by omega)
 have hkw2 : Jbw (Jbl p.kind.toNat) = p.kind := by rw [hkw]; omega
 have hkn : ¬ p.kind < 0 := by omega
 have w1 : ¬ (Jbv.head? = some 35) := by decide
 have key : ∀ o : Option Txt, Jhk o = 0 -> (match o with | some c => valOf c | none => 0) = p.delay -> Jbc ps p.name (Jbl p.kind.toNat) o = 0 /\ Ja6 ps p.name (Jbl p.kind.toNat) o = ps ++ [p] := fun o h1 h2 => by
   have e : partOf p.name (Jbl p.kind.toNat) o = p := by
     unfold partOf
     rw [hkw2]
     refine Eq.trans (b := (⟨p.kind, p.name, p.delay⟩ : Part)) ?_ rfl
     exact congrArg _ h2
   have e0 : Jbc ps p.name (Jbl p.kind.toNat) o = 0 := by
     unfold Jbc
     rw [hkw2, if_neg hkn, if_neg (by simpa using h1), e, if_neg (by simpa using h), if_neg hn, if_neg hl]
   exact ⟨e0, by unfold Ja6; rw [if_pos e0, e]⟩
 by_cases h12 : p.kind = 12
 . obtain ⟨d1, d2⟩ := hd h12
   obtain ⟨v1, v2⟩ := J0a (n := p.delay.toNat) (by omega) (by omega)
   obtain ⟨k1, k2⟩ := key (some (Lib.decDigits p.delay.toNat)) v1 (by simp only [v2]; omega)
   have e : Jb1 p = [Jbv, p.name, Jbl p.kind.toNat, Lib.decDigits p.delay.toNat] := by unfold Jb1; rw [if_pos h12]; rfl
   rw [e]
   unfold Jd1 Jbz
   simp only [if_neg w1, if_true]
   exact ⟨k1, by rw [show Ja8 ps [p.name, Jbl p.kind.toNat, Lib.decDigits p.delay.toNat] = _ from k2]⟩
 . obtain ⟨k1, k2⟩ := key none rfl (hd0 h12).symm
   have e : Jb1 p = [Jbv, p.name, Jbl p.kind.toNat] := by unfold Jb1; rw [if_neg h12]; rfl
   rw [e]
   unfold Jd1 Jbz
   simp only [if_neg w1, if_true]
   exact ⟨k1, by rw [show Ja8 ps [p.name, Jbl p.kind.toNat] = _ from k2]⟩
theorem J0e {a b : Txt} (h : ∀ x ∈ a, x ≠ 46) : dotI (a ++ 46 :: b) = a.length := by
 have e : (a ++ 46 :: b)[a.length]? = some 46 := by simp
 unfold dotI
 refine Jey (q := fun x => decide (x = 46)) e (by simp) fun j y hj hy => ?_
 rw [List.getElem?_append_left hj] at hy
 simpa using h y (List.mem_of_getElem? hy)
theorem J2l {ps : List Part} (h : (ps.map (·.name)).Nodup) {p : Part} (hp : p ∈ ps) : Je0 ps p.name = some p.kind := by
 have h1 := Jg6 h hp
 unfold Jdz at h1
 unfold Je0
 cases e : ps.find? fun q => decide (q.name = p.name) with
 | none =>
   rw [List.find?_eq_none] at e
   have := e p hp
   simp at this
 | some q => rw [e] at h1; simp only [Option.getD_some] at h1; rw [h1]; rfl
theorem Jue {c : Circuit} (h : Jad c = 0) {ps : List Part} (hps : ps.Perm c.parts) {p : Port} (hp : Jbq c p = 0) : Jbp ps (endX (Jak c p)) = 0 /\ Jby ps (endX (Jak c p)) = Jak c p := by
 obtain ⟨q, e, h0, hm⟩ := Jdq.1 hp
 have hq := List.mem_of_getElem? e
 obtain ⟨hk, _⟩ := Jc7 (Jcy h hq)
 obtain ⟨_, b, _⟩ := Jen (Js4 h hp)
 obtain ⟨_, f, _⟩ := Ji1 hk hm
 have hnm : nameAt c p.part = q.name := by unfold nameAt; rw [e]
 have hd : dotI (endX (Jak c p)) = (nameAt c p.part).length := J0e fun x hx => (Jis (b x hx)).2.1
 have hb : befD (endX (Jak c p)) = nameAt c p.part := by unfold befD; rw [hd]; simp [endX, Jak]
 have ha : aftD (endX (Jak c p)) = p.name := by unfold aftD; rw [hd]; simp [endX, Jak]
 have hkn : Je0 ps (nameAt c p.part) = some q.kind := by
   rw [hnm]
   exact J2l ((hps.map _).nodup_iff.2 (Je1 h)) (hps.mem_iff.2 hq)
 have e0 : Jbp ps (endX (Jak c p)) = 0 := by
   unfold Jbp
   rw [hd, if_neg (by omega), hb, hkn, ha]
   simp [f]
 refine ⟨e0, ?_⟩
 unfold Jby
 rw [if_pos e0, hb, ha]; rfl
theorem J5d {c : Circuit} (h : Jad c = 0) {ps : List Part} (hps : ps.Perm c.parts) {x : Pipe} (hx : x ∈ c.pipes) {es : List EndP} (hn : ordX (Jcf c x) ∉ es.map ordX) (hl : es.length ≠ 256) :
   Jd1 ⟨ps, es⟩ (Jcq c x) = 0 /\ Jbz ⟨ps, es⟩ (Jcq c x) = ⟨ps, es ++ [Jcf c x]⟩ := by
 obtain ⟨h1, h2, h3⟩ := Jdt h hx
 obtain ⟨a1, a2⟩ := Jue h hps h1
 obtain ⟨b1, b2⟩ := Jue h hps h2
 have w1 : ¬ (Jb7.head? = some 35) := by decide
 have w2 : ¬ Jb7 = Jbv := by decide
 have hne : Jak c x.fr ≠ Jak c x.to := fun e => by
   have h4 := Jq7 h h1 h2
   rw [e, Jec.irrefl, h3] at h4
   cases h4
 have e0 : Jci ⟨ps, es⟩ (endX (Jak c x.fr)) (endX (Jak c x.to)) = 0 := by
   unfold Jci
   simp only [a1, b1, a2, b2]
   rw [if_neg (by simp), if_neg (by simp), if_neg, if_neg hl]
   rintro (e | e)
   . exact hne e
   . exact hn e
 unfold Jcq Jd1 Jbz
 simp only [if_neg w1, if_neg w2, if_true]
 refine ⟨e0, ?_⟩
 show (⟨ps, Jb2 ⟨ps, es⟩ _ _⟩ : Drf) = _
 unfold Jb2
 rw [if_pos e0, a2, b2]; rfl
def noop (w : List Txt) : Bool := match w with | [] => true | h :: _ => decide (h.head? = some 35)
theorem J3e {d : Drf} {w : List Txt} (h : noop w = true) : Jd1 d w = 0 /\ Jbz d w = d := by
 unfold noop at h
 cases w with
 | nil => exact ⟨rfl, rfl⟩
 | cons a t =>
   simp only [decide_eq_true_eq] at h
   unfold Jd1 Jbz
   simp only [if_pos h]
   exact ⟨trivial, trivial⟩
theorem Jov : ∀ {ls : List Txt} {ws : List (List Txt)} {d : Drf}, (ls.map fldR).filter (fun w => !noop w) = ws -> (∀ k w, ws[k]? = some w -> Jd1 ((ws.take k).foldl Jbz d) w = 0) ->
   runE d ls = 0 /\ runD d ls = ws.foldl Jbz d
 | [], ws, d, h, _ => by
   simp at h; subst h; exact ⟨rfl, rfl⟩
 | l :: ls, ws, d, h, hz => by
   rw [List.map_cons] at h
   by_cases hn : noop (fldR l) = true
   . rw [List.filter_cons_of_neg (by simp [hn])] at h
     obtain ⟨h1, h2⟩ := J3e (d := d) hn
     have e1 : linE d l = 0 := h1
     have e2 : Jbs d l = d := h2
     unfold runE runD
     rw [if_pos e1, if_pos e1, e2]
     exact Jov h hz
   . rw [List.filter_cons_of_pos (by simpa using hn)] at h
     subst h
     have e1 : linE d l = 0 := hz 0 _ rfl
     unfold runE runD
     rw [if_pos e1, if_pos e1]
     exact Jov (d := Jbs d l) rfl fun k w hw => hz (k + 1) w hw
theorem Jrn : ∀ {ps qs : List Part} {es : List EndP}, (∀ p ∈ qs, Ja0 p = 0) -> ((ps ++ qs).map (·.name)).Nodup -> (ps ++ qs).length <= 64 ->
   (∀ k w, (qs.map Jb1)[k]? = some w -> Jd1 (((qs.map Jb1).take k).foldl Jbz ⟨ps, es⟩) w = 0) /\ (qs.map Jb1).foldl Jbz ⟨ps, es⟩ = ⟨ps ++ qs, es⟩
 | ps, [], es, _, _, _ => by simp
 | ps, q :: qs, es, h, hn, hl => by
   have hq : q.name ∉ ps.map (·.name) := by
     rw [List.map_append, List.nodup_append] at hn
     exact fun hm => hn.2.2 _ hm q.name (by simp) rfl
   obtain ⟨s1, s2⟩ := J4z (es := es) (h q (by simp)) hq (by simp at hl; omega)
   obtain ⟨i1, i2⟩ := Jrn (ps := ps ++ [q]) (qs := qs) (es := es) (fun p hp => h p (by simp [hp])) (by simpa using hn) (by simpa using hl)
   refine ⟨fun k w hw => ?_, ?_⟩
   . cases k with
     | zero => simp at hw; subst hw; exact s1
     | succ k =>
       simp only [List.map_cons, List.take_succ_cons, List.foldl_cons, s2]
       exact i1 k w (by simpa using hw)
   . simp only [List.map_cons, List.foldl_cons, s2, i2]
     simp
theorem Jro {c : Circuit} (h : Jad c = 0) {ps : List Part} (hps : ps.Perm c.parts) : ∀ {xs : List Pipe} {es : List EndP}, (∀ x ∈ xs, x ∈ c.pipes) -> (es.map ordX ++ xs.map fun x => ordX (Jcf c x)).Nodup -> es.length + xs.length <= 256 ->
   (∀ k w, (xs.map (Jcq c))[k]? = some w -> Jd1 (((xs.map (Jcq c)).take k).foldl Jbz ⟨ps, es⟩) w = 0) /\ (xs.map (Jcq c)).foldl Jbz ⟨ps, es⟩ = ⟨ps, es ++ xs.map (Jcf c)⟩
 | [], es, _, _, _ => by simp
 | x :: xs, es, hm, hn, hl => by
   have hq : ordX (Jcf c x) ∉ es.map ordX := by
     rw [List.nodup_append] at hn
     exact fun hmm => hn.2.2 _ hmm _ (by simp) rfl
   obtain ⟨s1, s2⟩ := J5d h hps (hm x (by simp)) hq (by simp at hl; omega)
   obtain ⟨i1, i2⟩ := Jro h hps (xs := xs) (es := es ++ [Jcf c x]) (fun y hy => hm y (by simp [hy])) (by simpa using hn) (by simp at hl ⊢; omega)
   refine ⟨fun k w hw => ?_, ?_⟩
   . cases k with
     | zero => simp at hw; subst hw; exact s1
     | succ k =>
       simp only [List.map_cons, List.take_succ_cons, List.foldl_cons, s2]
       exact i1 k w (by simpa using hw)
   . simp only [List.map_cons, List.foldl_cons, s2, i2]
     simp
theorem J5f {c : Circuit} (h : Jad c = 0) : (c.pipes.map fun x => ordX (Jcf c x)).Nodup := by
 have hn : c.pipes.Nodup := (Jeh.1 h).2.2.2.imp fun h1 e => by subst e; rw [Jlh] at h1; cases h1
 refine List.pairwise_map.2 (hn.imp_of_mem fun {x y} hx hy hne e => hne ?_)
 rw [Jiz h hx, Jiz h hy] at e
 have e1 := Ji0 h hx
 rw [e, Ji0 h hy] at e1
 exact e1.symm
theorem J2p {c : Circuit} (h : Jad c = 0) {ps : List Part} {xs : List Pipe} (hp : ps.Perm c.parts) (hx : xs.Perm c.pipes) {ls : List Txt} (hls : ∀ l ∈ ls, ∀ b ∈ l, b ≠ 10) (hsz : (unl ls).length <= 16384)
   (hw : (ls.map fldR).filter (fun w => !noop w) = ps.map Jb1 ++ xs.map (Jcq c)) : prsE (unl ls) = 0 /\ prsC (unl ls) = c := by
 obtain ⟨_, hk, hq⟩ := Jd5 h
 obtain ⟨a1, a2⟩ := Jrn (ps := []) (qs := ps) (es := []) (fun p hpm => Jcy h (hp.mem_iff.1 hpm)) (by simpa using (hp.map _).nodup_iff.2 (Je1 h)) (by simp [hp.length_eq]; exact hk)
 obtain ⟨b1, b2⟩ := Jro h (ps := ps) hp (xs := xs) (es := []) (fun x hxm => hx.mem_iff.1 hxm) (by simpa using (hx.map _).nodup_iff.2 (J5f h)) (by simp [hx.length_eq]; exact hq)
 simp only [List.nil_append] at a2 b2
 have hrun := Jov (d := noD) hw (fun k w hkw => by
   by_cases hkp : k < (ps.map Jb1).length
   . rw [List.getElem?_append_left hkp] at hkw
     rw [List.take_append_of_le_length (by omega)]
     exact a1 k w hkw
   . rw [List.getElem?_append_right (by omega)] at hkw
     have e : (ps.map Jb1 ++ xs.map (Jcq c)).take k = ps.map Jb1 ++ (xs.map (Jcq c)).take (k - (ps.map Jb1).length) := by rw [List.take_append, List.take_of_length_le (by omega)]
     rw [e, List.foldl_append]
     show Jd1 (List.foldl Jbz (List.foldl Jbz ⟨[], []⟩ _) _) w = 0
     rw [a2]
     exact b1 _ w hkw)
 obtain ⟨r1, r2⟩ := hrun
 rw [List.foldl_append] at r2
 have r3 : runD noD ls = ⟨ps, xs.map (Jcf c)⟩ := by
   rw [r2]
   show List.foldl Jbz (List.foldl Jbz ⟨[], []⟩ _) _ = _
   rw [a2, b2]
 have hlin : linS (unl ls) [] = (ls, []) := Jst hls
 have hsr : Jbe (runD noD ls) = c := by
   rw [r3]
   refine J0f h hp ?_
   show ((xs.map (Jcf c)).map ordX).Perm ((c.pipes.map (Jcf c)).map ordX)
   exact (hx.map _).map _
 have e0 : prsE (unl ls) = 0 := by
   unfold prsE Jaw
   rw [hlin, if_neg (by omega), if_neg (by simp), r1, if_neg (by simp), hsr, h]
 refine ⟨e0, ?_⟩
 unfold prsC Jaw
 rw [if_pos e0, hlin, hsr]
theorem J4u {p : Part} (h : Ja0 p = 0) : ∀ b ∈ partT p, b ≠ 10 := by
 obtain ⟨hk, hw, _, _⟩ := Jc7 h
 obtain ⟨_, b, _⟩ := Jen hw
 obtain ⟨_, g, _⟩ := Jjp (k := p.kind.toNat) (by omega)
 obtain ⟨a, _⟩ := Jm4 p.delay.toNat
 intro x hx
 unfold partT at hx
 rcases List.mem_append.1 hx with hx | hx
 . rcases List.mem_append.1 hx with hx | hx
   . rcases List.mem_append.1 hx with hx | hx
     . rcases List.mem_append.1 hx with hx | hx
       . exact (show ∀ b ∈ Jd0, b ≠ 10 by decide) x hx
       . exact (Jis (b x hx)).2.2.1
     . simp at hx; subst hx; decide
   . exact g x hx
 . split at hx
   . rcases List.mem_cons.1 hx with rfl | hx
     . decide
     . have := Jfv.1 (a x hx)
       rintro rfl
       revert this; decide
   . cases hx
theorem J47 {c : Circuit} (h : Jad c = 0) {x : Pipe} (hx : x ∈ c.pipes) : ∀ b ∈ Jda c x, b ≠ 10 := by
 obtain ⟨h1, h2, _⟩ := Jdt h hx
 intro b hb
 unfold Jda at hb
 rcases List.mem_append.1 hb with hb | hb
 . rcases List.mem_append.1 hb with hb | hb
   . rcases List.mem_append.1 hb with hb | hb
     . exact (show ∀ b ∈ Jf7, b ≠ 10 by decide) b hb
     . exact (Jg4 h h1).2.1 b hb
   . simp at hb; subst hb; decide
 . exact (Jg4 h h2).2.1 b hb
theorem J6t {c : Circuit} (h : Jad c = 0) : ∀ l ∈ Jdu c, ∀ b ∈ l, b ≠ 10 := by
 intro l hl
 unfold Jdu at hl
 rcases List.mem_append.1 hl with hl | hl
 . obtain ⟨p, hp, rfl⟩ := List.mem_map.1 hl
   exact J4u (Jcy h hp)
 . obtain ⟨x, hx, rfl⟩ := List.mem_map.1 hl
   exact J47 h hx
theorem Jle {p : Part} (h : Ja0 p = 0) : (partT p).length <= 50 := by
 obtain ⟨hk, hw, hd, _⟩ := Jc7 h
 obtain ⟨_, _, b⟩ := Jen hw
 obtain ⟨_, _, _, g⟩ := Jjp (k := p.kind.toNat) (by omega)
 unfold partT
 by_cases h12 : p.kind = 12
 . have := @Jkb 6 p.delay.toNat (by have := hd h12; omega)
   rw [if_pos h12]
   simp only [List.length_append, List.length_cons, List.length_nil, Jd0]
   omega
 . rw [if_neg h12]
   simp only [List.length_append, List.length_cons, List.length_nil, Jd0]
   omega
theorem Jt6 {c : Circuit} (h : Jad c = 0) {x : Pipe} (hx : x ∈ c.pipes) : (Jda c x).length <= 60 := by
 obtain ⟨h1, h2, _⟩ := Jdt h hx
 have a := (Jg4 h h1).2.2
 have b := (Jg4 h h2).2.2
 unfold Jda
 simp only [List.length_append, List.length_cons, List.length_nil, Jf7]
 omega
theorem Kaj {c : Circuit} (h : Jad c = 0) : ∀ l ∈ Jdu c, l.length <= 60 := by
 intro l hl
 unfold Jdu at hl
 rcases List.mem_append.1 hl with hl | hl
 . obtain ⟨p, hp, rfl⟩ := List.mem_map.1 hl
   have := Jle (Jcy h hp); omega
 . obtain ⟨x, hx, rfl⟩ := List.mem_map.1 hl
   exact Jt6 h hx
theorem Jjh : ∀ {ls : List Txt} {n : Nat}, (∀ l ∈ ls, l.length <= n) -> (unl ls).length <= (n + 1) * ls.length
 | [], n, _ => by simp [unl]
 | l :: ls, n, h => by
   have h1 := h l (by simp)
   have h2 := @Jjh ls n fun x hx => h x (by simp [hx])
   have e : unl (l :: ls) = (l ++ [10]) ++ unl ls := by simp [unl]
   rw [e, List.length_append, List.length_append, List.length_cons, List.length_cons, List.length_nil, Nat.mul_succ]
   omega
theorem J3c {p : Part} : noop (Jb1 p) = false := by unfold Jb1 noop; simp [Jbv]
theorem J3d {c : Circuit} {x : Pipe} : noop (Jcq c x) = false := by unfold Jcq noop; simp [Jb7]
theorem J6u {c : Circuit} (h : Jad c = 0) : (Jdu c).map fldR = c.parts.map Jb1 ++ c.pipes.map (Jcq c) := by
 unfold Jdu
 rw [List.map_append, List.map_map, List.map_map]
 congr 1
 . exact List.map_congr_left fun p hp => Joa (Jcy h hp)
 . exact List.map_congr_left fun x hx => Joe h hx
theorem Jpl {c : Circuit} {ps : List Part} {xs : List Pipe} : (ps.map Jb1 ++ xs.map (Jcq c)).filter (fun w => !noop w) = ps.map Jb1 ++ xs.map (Jcq c) := by
 rw [List.filter_eq_self]
 intro w hw
 rcases List.mem_append.1 hw with hw | hw
 . obtain ⟨p, _, rfl⟩ := List.mem_map.1 hw; simp [J3c]
 . obtain ⟨x, _, rfl⟩ := List.mem_map.1 hw; simp [J3d]
theorem Kak {c : Circuit} (h : Jc5 c = 0) : prsE (fmtC c) = 0 /\ prsC (fmtC c) = c := by
 have hc : Jad c = 0 := by
   unfold Jc5 at h
   apply Decidable.byContradiction
   intro hne
   rw [if_pos hne] at h
   exact hne h
 have hl : (Jf9 c).length <= 16384 := by
   unfold Jc5 at h
   rw [if_neg (by simpa using hc)] at h
   split at h
   . cases h
   . omega
 have e : fmtC c = unl (Jdu c) := by unfold fmtC; rw [if_pos h]; rfl
 rw [e]
 refine J2p hc (List.Perm.refl _) (List.Perm.refl _) (J6t hc) hl ?_
 rw [J6u hc, Jpl]
end Go.Am
namespace Go.Am
open Go Go.Proofs Go.Pn
section
variable {c d : Circuit} {g : Int -> Int}
theorem J5c (h : Jad c = 0) {x : Pipe} (hx : x ∈ c.pipes) : x.fr ∈ allP c /\ x.to ∈ allP c := ⟨Jjw.2 (Jdt h hx).1, Jjw.2 (Jdt h hx).2.1⟩
end
end Go.Am
namespace Go.Am
open Go Go.Proofs Go.Pn
theorem Js2 {c : Circuit} {i : Nat} {q : Part} (e : c.parts[i]? = some q) : nameAt c (i : Int) = q.name := by unfold nameAt; rw [Int.toNat_natCast, e]
theorem Jud {c : Circuit} {p : Port} (hp : p ∈ allP c) : ∃ (i : Nat) (q : Part), p.part = i /\ c.parts[i]? = some q /\ p.name ∈ Jbg q := by
 obtain ⟨q, e, h0, hm⟩ := Jdq.1 (Jjw.1 hp)
 exact ⟨p.part.toNat, q, by omega, e, hm⟩
theorem J5i {c : Circuit} {i : Nat} {q : Part} (e : c.parts[i]? = some q) {s : Txt} (hs : s ∈ Jbg q) : (⟨(i : Int), s⟩ : Port) ∈ allP c := Jjw.2 (Jdq.2 ⟨q, by simpa using e, by simp, hs⟩)
theorem J0i {c : Circuit} (h : Jad c = 0) : ((drfC c).pipes.map ordX).Nodup := by
 show ((c.pipes.map fun x => (Jak c x.fr, Jak c x.to)).map ordX).Nodup
 rw [List.map_map]
 have hn : c.pipes.Nodup := (Jeh.1 h).2.2.2.imp fun h1 e => by subst e; rw [Jlh] at h1; cases h1
 refine List.pairwise_map.2 (hn.imp_of_mem fun {x y} hx hy hne e => hne ?_)
 have e2 : ordX (Jcf c x) = ordX (Jcf c y) := e
 rw [Jiz h hx, Jiz h hy] at e2
 have e1 := Ji0 h hx
 rw [e2, Ji0 h hy] at e1
 exact e1.symm
end Go.Am
namespace Go.Am
open Go Go.Proofs Go.Pn
section
variable {c d : Circuit} {g : Int -> Int}
theorem J9i {c : Circuit} (h : Jad c = 0) {i : Nat} (hi : i < c.parts.length) : ∃ p ∈ allP c, p.part = i := by
 obtain ⟨q, e⟩ := Jah hi
 have hk := (Jd5 h).1 q (List.mem_of_getElem? e)
 have h1 : ∀ k, k < 14 -> Jbr k ≠ [] := by decide
 have h2 := h1 q.kind.toNat (by omega)
 cases e2 : Jbr q.kind.toNat with
 | nil => exact absurd e2 h2
 | cons s r => exact ⟨⟨i, s⟩, J5i e (by unfold Jbg; rw [e2]; simp), rfl⟩
end
end Go.Am
