/- Lemmas and contracts for the proof of a statement of this seat. -/
import Derived.Test.YtmfjjncfdpejiaaGreatDoorZCP
import Derived.Test.YtmfjjncfdpejiaaGreatDoorZE3
import Derived.Lib.FieldsP
import Derived.Lib.TrimUEq
import Derived.Test.YtmfjjncfdpejiaaGreatDoorZF1
import Derived.Test.YtmfjjncfdpejiaaGreatDoorZF3
import Derived.Test.YtmfjjncfdpejiaaGreatDoorZCA
import Derived.Test.YtmfjjncfdpejiaaGreatDoorZC6
import Derived.Test.YtmfjjncfdpejiaaGreatDoorZCU
set_option linter.unusedVariables false
set_option linter.unusedSimpArgs false
namespace Go.Am
open Go Go.Proofs Go.Pn
structure STO {α : Type} (lt : α -> α -> Bool) : Prop where
 irrefl : ∀ a, lt a a = false
 trans : ∀ {a b c}, lt a b = true -> lt b c = true -> lt a c = true
 total : ∀ {a b}, lt a b = false -> lt b a = false -> a = b
theorem STO.asymm {α : Type} {lt : α -> α -> Bool} (h : STO lt) {a b : α} (k : lt a b = true) : lt b a = false := by
 cases e : lt b a with
 | false => rfl
 | true => have := h.trans k e; rw [h.irrefl] at this; cases this
def insB {α : Type} (lt : α -> α -> Bool) (x : α) : List α -> List α
 | [] => [x]
 | y :: ys => if lt y x then y :: insB lt x ys else x :: y :: ys
def Jau {α : Type} (lt : α -> α -> Bool) (l : List α) : List α := l.foldr (insB lt) []
def AscB {α : Type} (lt : α -> α -> Bool) (l : List α) : Prop := l.Pairwise fun a b => lt b a = false
section
variable {α : Type} {lt : α -> α -> Bool}
theorem Jrc {x : α} : ∀ {l : List α}, (insB lt x l).Perm (x :: l)
 | [] => List.Perm.refl _
 | y :: ys => by
   unfold insB
   split
   . exact (List.Perm.cons y Jrc).trans (List.Perm.swap x y ys)
   . exact List.Perm.refl _
theorem Jgr : ∀ {l : List α}, (Jau lt l).Perm l
 | [] => List.Perm.refl _
 | x :: l => by
   show (insB lt x (Jau lt l)).Perm (x :: l)
   exact Jrc.trans (List.Perm.cons x Jgr)
theorem Jgq {l : List α} : (Jau lt l).length = l.length := Jgr.length_eq
theorem Jre {l : List α} {x : α} : x ∈ Jau lt l ↔ x ∈ l := Jgr.mem_iff
theorem Jxn (h : STO lt) {x : α} : ∀ {l : List α}, AscB lt l -> AscB lt (insB lt x l)
 | [], _ => List.pairwise_singleton _ _
 | y :: ys, hl => by
   have hy := List.pairwise_cons.1 hl
   unfold insB
   cases e : lt y x with
   | true =>
     simp only [if_true]
     refine List.pairwise_cons.2 ⟨fun z hz => ?_, Jxn h hy.2⟩
     rcases List.mem_cons.1 (Jrc.mem_iff.1 hz) with rfl | hz
     . exact h.asymm e
     . exact hy.1 z hz
   | false =>
     simp only [Bool.false_eq_true, if_false]
     refine List.pairwise_cons.2 ⟨fun z hz => ?_, hl⟩
     rcases List.mem_cons.1 hz with rfl | hz
     . exact e
     . have h1 := hy.1 z hz
       cases e2 : lt z x with
       | false => rfl
       | true =>
         cases e3 : lt x y with
         | true => rw [h.trans e2 e3] at h1; cases h1
         | false =>
           have := h.total e e3
           subst this
           rw [e2] at h1; cases h1
theorem Jnu (h : STO lt) : ∀ {l : List α}, AscB lt (Jau lt l)
 | [] => List.Pairwise.nil
 | _ :: _ => Jxn h (Jnu h)
theorem Jut (h : STO lt) : ∀ {l m : List α}, AscB lt l -> AscB lt m -> l.Perm m -> l = m
 | [], m, _, _, p => (List.Perm.nil_eq p)
 | x :: l, [], _, _, p => absurd (p.length_eq) (by simp)
 | x :: l, y :: m, hl, hm, p => by
   have hx := List.pairwise_cons.1 hl
   have hy := List.pairwise_cons.1 hm
   have e : x = y := by
     have h1 : x ∈ y :: m := p.mem_iff.1 (by simp)
     have h2 : y ∈ x :: l := p.mem_iff.2 (by simp)
     rcases List.mem_cons.1 h1 with h1 | h1
     . exact h1
     . rcases List.mem_cons.1 h2 with h2 | h2
       . exact h2.symm
       . exact h.total (hy.1 x h1) (hx.1 y h2)
   subst e
   rw [Jut h hx.2 hy.2 ((List.perm_cons x).1 p)]
theorem Jnv (h : STO lt) {l m : List α} (hm : AscB lt m) (p : m.Perm l) : m = Jau lt l := Jut h hm (Jnu h) (p.trans Jgr.symm)
theorem Jxr (h : STO lt) {l m : List α} (p : l.Perm m) : Jau lt l = Jau lt m := Jnv h (Jnu h) (Jgr.trans p)
theorem Jxt (h : STO lt) {l : List α} : (l.mergeSort fun x y => !lt y x) = Jau lt l := by
 refine Jnv h ?_ (List.mergeSort_perm _ _)
 have := List.pairwise_mergeSort (le := fun x y => !lt y x) (fun a b c h1 h2 => ?_) (fun a b => ?_) l
 . exact this.imp fun h1 => by simpa using h1
 . simp only [Bool.not_eq_true'] at h1 h2 ⊢
   cases e : lt c a with
   | false => rfl
   | true =>
     cases e2 : lt a b with
     | true => rw [h.trans e e2] at h2; cases h2
     | false =>
       have := h.total e2 h1
       subst this
       rw [e] at h2; cases h2
 . simp only [Bool.or_eq_true, Bool.not_eq_true']
   cases e : lt a b with
   | true => exact .inl (h.asymm e)
   | false => exact .inr rfl
theorem Jxo {β : Type} {lt' : β -> β -> Bool} {f : α -> β} {x : α} : ∀ {l : List α}, (∀ y ∈ l, lt' (f y) (f x) = lt y x) -> (insB lt x l).map f = insB lt' (f x) (l.map f)
 | [], _ => rfl
 | y :: ys, h => by
   simp only [insB, List.map_cons, h y (by simp)]
   have ih := Jxo (l := ys) (fun z hz => h z (List.mem_cons_of_mem _ hz))
   split
   . simp only [List.map_cons, ih]
   . rfl
theorem Jxs {β : Type} {lt' : β -> β -> Bool} {f : α -> β} : ∀ {l : List α}, (∀ x ∈ l, ∀ y ∈ l, lt' (f y) (f x) = lt y x) -> (Jau lt l).map f = Jau lt' (l.map f)
 | [], _ => rfl
 | x :: l, h => by
   show (insB lt x (Jau lt l)).map f = insB lt' (f x) (Jau lt' (l.map f))
   rw [Jxo (fun y hy => h x (by simp) y (by simp [Jre.1 hy])), Jxs (fun a ha b hb => h a (by simp [ha]) b (by simp [hb]))]
theorem J9t (h : STO lt) {l : List α} (hl : AscB lt l) : Jau lt l = l := (Jnv h hl (List.Perm.refl _)).symm
def Jb1 (lt : α -> α -> Bool) (l : List α) : Nat -> Nat
 | 0 => 0
 | k + 1 => match l[k]?, l[Jb1 lt l k]? with
   | some x, some y => if lt x y then k else Jb1 lt l k
   | _, _ => Jb1 lt l k
theorem Jyh {l : List α} {k : Nat} {x y : α} (h1 : l[k]? = some x) (h2 : l[Jb1 lt l k]? = some y) : Jb1 lt l (k + 1) = if lt x y then k else Jb1 lt l k := by
 simp only [Jb1, h1, h2]
theorem Jyg (h : STO lt) {l : List α} : Jb1 lt l 1 = 0 := by
 unfold Jb1
 split
 . split
   . rfl
   . rfl
 . rfl
theorem Jrl (h : STO lt) {l : List α} : ∀ {k : Nat}, 1 <= k -> k <= l.length -> Jb1 lt l k < k
 | 1, _, _ => by rw [Jyg h]; omega
 | k + 2, _, hk => by
   have ih := Jrl h (l := l) (k := k + 1) (by omega) (by omega)
   obtain ⟨x, ex⟩ := Jae (xs := l) (k := k + 1) (by omega)
   obtain ⟨y, ey⟩ := Jae (xs := l) (k := Jb1 lt l (k + 1)) (by omega)
   rw [Jyh ex ey]
   split <;> omega
theorem Jye (h : STO lt) {l : List α} : ∀ {k : Nat}, 1 <= k -> k <= l.length -> ∀ y, l[Jb1 lt l k]? = some y -> ∀ (j : Nat) x, j < k -> l[j]? = some x -> lt x y = false
 | 1, _, _, y, hy, j, x, hj, hx => by
   have e : j = 0 := by omega
   subst e
   rw [Jyg h, hx] at hy
   cases hy
   exact h.irrefl _
 | k + 2, _, hk, y, hy, j, x, hj, hx => by
   have h1 := Jrl h (l := l) (k := k + 1) (by omega) (by omega)
   obtain ⟨a, ea⟩ := Jae (xs := l) (k := k + 1) (by omega)
   obtain ⟨b, eb⟩ := Jae (xs := l) (k := Jb1 lt l (k + 1)) (by omega)
   have ih := Jye h (l := l) (k := k + 1) (by omega) (by omega) b eb
   rw [Jyh ea eb] at hy
   by_cases e : j = k + 1
   . subst e
     rw [ea] at hx; cases hx
     split at hy
     . rw [ea] at hy; cases hy; exact h.irrefl _
     . rename_i hn
       rw [eb] at hy; cases hy
       simpa using hn
   . have h2 := ih j x (by omega) hx
     split at hy
     . rename_i hlt
       rw [ea] at hy
       have hya : a = y := by simpa using hy
       subst hya
       cases e2 : lt x a with
       | false => rfl
       | true => rw [h.trans e2 hlt] at h2; cases h2
     . rw [eb] at hy; cases hy
       exact h2
def selN (lt : α -> α -> Bool) : Nat -> List α -> List α
 | 0, _ => []
 | n + 1, l => match l[Jb1 lt l l.length]? with
   | some x => x :: selN lt n (l.take (Jb1 lt l l.length) ++ l.drop (Jb1 lt l l.length + 1))
   | none => []
def selS (lt : α -> α -> Bool) (l : List α) : List α := selN lt l.length l
theorem Jo8 {l : List α} {i : Nat} {x : α} (e : l[i]? = some x) : (x :: (l.take i ++ l.drop (i + 1))).Perm l := by
 obtain ⟨hi, hx⟩ := gsI.1 e
 have : l = l.take i ++ x :: l.drop (i + 1) := by rw [<- hx, <- List.drop_eq_getElem_cons hi, List.take_append_drop]
 conv => rhs; rw [this]
 exact List.perm_middle.symm
theorem Js0 (h : STO lt) : ∀ {n : Nat} {l : List α}, l.length = n -> (selN lt n l).Perm l /\ AscB lt (selN lt n l)
 | 0, l, e => by
   have : l = [] := List.length_eq_zero_iff.1 e
   subst this
   exact ⟨List.Perm.refl _, List.Pairwise.nil⟩
 | n + 1, l, e => by
   have h1 := Jrl h (l := l) (k := l.length) (by omega) (Nat.le_refl _)
   obtain ⟨x, ex⟩ := Jae h1
   have hst := Jo8 ex
   have hl2 : (l.take (Jb1 lt l l.length) ++ l.drop (Jb1 lt l l.length + 1)).length = n := by
     have := hst.length_eq
     simp only [List.length_cons] at this
     omega
   obtain ⟨p, a⟩ := Js0 h hl2
   simp only [selN, ex]
   refine ⟨(List.Perm.cons x p).trans hst, List.pairwise_cons.2 ⟨fun z hz => ?_, a⟩⟩
   have hz2 : z ∈ l := hst.mem_iff.1 (List.mem_cons_of_mem _ (p.mem_iff.1 hz))
   obtain ⟨j, hj⟩ := List.getElem?_of_mem hz2
   exact Jye h (by omega) (Nat.le_refl _) x ex j z (gsI.1 hj).1 hj
theorem J1d (h : STO lt) {l : List α} : selS lt l = Jau lt l := Jnv h (Js0 h rfl).2 (Js0 h rfl).1
theorem Jyf {β : Type} {lt' : β -> β -> Bool} {f : α -> β} {l : List α} (hf : ∀ x ∈ l, ∀ y ∈ l, lt' (f y) (f x) = lt y x) : ∀ {k : Nat}, Jb1 lt' (l.map f) k = Jb1 lt l k
 | 0 => rfl
 | k + 1 => by
   simp only [Jb1, Jyf hf (k := k), List.getElem?_map]
   cases e1 : l[k]? with
   | none => rfl
   | some x =>
     cases e2 : l[Jb1 lt l k]? with
     | none => rfl
     | some y => simp only [Option.map_some, hf y (List.mem_of_getElem? e2) x (List.mem_of_getElem? e1)]
theorem J1c {β : Type} {lt' : β -> β -> Bool} {f : α -> β} : ∀ {n : Nat} {l : List α}, (∀ x ∈ l, ∀ y ∈ l, lt' (f y) (f x) = lt y x) -> (selN lt n l).map f = selN lt' n (l.map f)
 | 0, _, _ => rfl
 | n + 1, l, hf => by
   simp only [selN, Jyf hf, List.length_map, List.getElem?_map]
   cases e : l[Jb1 lt l l.length]? with
   | none => rfl
   | some x =>
     simp only [Option.map_some, List.map_cons, List.cons.injEq, true_and]
     rw [J1c (fun a ha b hb => hf a ?_ b ?_)]
     . simp [List.map_take, List.map_drop]
     . exact (Jo8 e).mem_iff.1 (List.mem_cons_of_mem _ ha)
     . exact (Jo8 e).mem_iff.1 (List.mem_cons_of_mem _ hb)
end
theorem Jl0 : STO Op.bytesLess := ⟨Jdm, fun h k => Jh1 h k, fun h k => Jfz h k⟩
theorem Kge : STO Jb8 := ⟨J0f, fun h k => J0g h k, fun h k => Kej h k⟩
structure End where
 part : Txt
 port : Txt
 deriving DecidableEq
@[simp] def End.enc (a : End) : List PV := [.str a.part, .str a.port]
@[simp] def End.row (a : End) : List AV := [.p (.str a.part), .p (.str a.port)]
@[simp] def End.av (a : End) : AV := .agg [.p (.str a.part), .p (.str a.port)]
def Jch (a b : End) : Int := orI [Lib.compareBytes a.part b.part, Lib.compareBytes a.port b.port]
def Jc5 (a b : End) : Bool := if a.part = b.part then Op.bytesLess a.port b.port else Op.bytesLess a.part b.part
theorem Jm5 {a b : End} : Jch a b < 0 ↔ Jc5 a b = true := by
 unfold Jch Jc5
 simp only [orI]
 by_cases e : a.part = b.part
 . rw [if_pos (Jei.2 e), if_pos e, <- Jm3]
   by_cases h0 : Lib.compareBytes a.port b.port = 0
   . rw [if_pos h0]; omega
   . rw [if_neg h0]
 . rw [if_neg (fun h => e (Jei.1 h)), if_neg e, Jm3]
theorem Jm4 {a b : End} : Jch a b = 0 ↔ a = b := by
 unfold Jch
 simp only [orI]
 by_cases e : a.part = b.part
 . rw [if_pos (Jei.2 e)]
   by_cases h0 : Lib.compareBytes a.port b.port = 0
   . rw [if_pos h0]
     have := Jei.1 h0
     obtain ⟨x, y⟩ := a
     obtain ⟨u, v⟩ := b
     simp_all
   . rw [if_neg h0]
     constructor
     . intro h; exact absurd h h0
     . rintro rfl; exact absurd (Jei.2 rfl) h0
 . rw [if_neg (fun h => e (Jei.1 h))]
   constructor
   . intro h; exact absurd (Jei.1 h) e
   . rintro rfl; exact absurd rfl e
theorem Jfr : STO Jc5 := by
 refine ⟨fun a => by simp [Jc5, Jdm], fun {a b c} h k => ?_, fun {a b} h k => ?_⟩
 . unfold Jc5 at h k ⊢
   by_cases e1 : a.part = b.part <;> by_cases e2 : b.part = c.part
   . rw [if_pos e1] at h; rw [if_pos e2] at k; rw [if_pos (e1.trans e2)]; exact Jh1 h k
   . rw [if_neg e2] at k; rw [if_neg (e1 ▸ e2), e1]; exact k
   . rw [if_neg e1] at h; rw [if_neg (e2 ▸ e1), <- e2]; exact h
   . rw [if_neg e1] at h; rw [if_neg e2] at k
     have := Jh1 h k
     rw [if_neg (fun e => by rw [e, Jdm] at this; cases this)]
     exact this
 . unfold Jc5 at h k
   by_cases e : a.part = b.part
   . rw [if_pos e] at h; rw [if_pos e.symm] at k
     obtain ⟨x, y⟩ := a
     obtain ⟨u, v⟩ := b
     simp only at e h k
     rw [e, Jfz h k]
   . rw [if_neg e] at h; rw [if_neg (Ne.symm e)] at k
     exact absurd (Jfz h k) e
theorem Jh5 {a b : End} : 0 < Jch a b ↔ Jc5 b a = true := by
 constructor
 . intro h
   cases e : Jc5 b a with
   | true => rfl
   | false =>
     cases e2 : Jc5 a b with
     | true => have := Jm5.2 e2; omega
     | false =>
       have := Jfr.total e e2
       have := Jm4.2 this.symm
       omega
 . intro h
   have h1 : ¬ Jch a b < 0 := fun h2 => by have := Jfr.asymm h; rw [Jm5.1 h2] at this; cases this
   have h2 : Jch a b ≠ 0 := fun h2 => by have := Jm4.1 h2; subst this; rw [Jfr.irrefl] at h; cases h
   omega
abbrev EndP := End × End
@[simp] def EndP.enc (x : EndP) : List PV := [.str x.1.part, .str x.1.port, .str x.2.part, .str x.2.port]
@[simp] def EndP.row (x : EndP) : List AV := [.p (.str x.1.part), .p (.str x.1.port), .p (.str x.2.part), .p (.str x.2.port)]
@[simp] def EndP.av (x : EndP) : AV := .agg [.p (.str x.1.part), .p (.str x.1.port), .p (.str x.2.part), .p (.str x.2.port)]
def Jfd (a b : EndP) : Int := orI [Jch a.1 b.1, Jch a.2 b.2]
def Ja6 (a b : EndP) : Bool := if a.1 = b.1 then Jc5 a.2 b.2 else Jc5 a.1 b.1
theorem J6r {a b : EndP} : Jfd a b < 0 ↔ Ja6 a b = true := by
 unfold Jfd Ja6
 simp only [orI]
 by_cases e : a.1 = b.1
 . rw [if_pos (Jm4.2 e), if_pos e, <- Jm5]
   by_cases h0 : Jch a.2 b.2 = 0
   . rw [if_pos h0]; omega
   . rw [if_neg h0]
 . rw [if_neg (fun h => e (Jm4.1 h)), if_neg e, Jm5]
theorem Jin : STO Ja6 := by
 refine ⟨fun a => by simp [Ja6, Jfr.irrefl], fun {a b c} h k => ?_, fun {a b} h k => ?_⟩
 . unfold Ja6 at h k ⊢
   by_cases e1 : a.1 = b.1 <;> by_cases e2 : b.1 = c.1
   . rw [if_pos e1] at h; rw [if_pos e2] at k; rw [if_pos (e1.trans e2)]; exact Jfr.trans h k
   . rw [if_neg e2] at k; rw [if_neg (e1 ▸ e2), e1]; exact k
   . rw [if_neg e1] at h; rw [if_neg (e2 ▸ e1), <- e2]; exact h
   . rw [if_neg e1] at h; rw [if_neg e2] at k
     have := Jfr.trans h k
     rw [if_neg (fun e => by rw [e, Jfr.irrefl] at this; cases this)]
     exact this
 . unfold Ja6 at h k
   by_cases e : a.1 = b.1
   . rw [if_pos e] at h; rw [if_pos e.symm] at k
     exact Prod.ext e (Jfr.total h k)
   . rw [if_neg e] at h; rw [if_neg (Ne.symm e)] at k
     exact absurd (Jfr.total h k) e
def ordE (a b : End) : EndP := if 0 < Jch a b then (b, a) else (a, b)
theorem Kd4 {a b : End} : ordE a b = ordE b a := by
 unfold ordE
 by_cases h : 0 < Jch a b
 . have h2 : ¬ 0 < Jch b a := fun h2 => by
     have := Jfr.asymm (Jh5.1 h); rw [Jh5.1 h2] at this; cases this
   rw [if_pos h, if_neg h2]
 . by_cases h2 : 0 < Jch b a
   . rw [if_neg h, if_pos h2]
   . rw [if_neg h, if_neg h2]
     have e : a = b := by
       refine Jfr.total ?_ ?_
       . cases e : Jc5 a b with
         | false => rfl
         | true => exact absurd (Jh5.2 e) h2
       . cases e : Jc5 b a with
         | false => rfl
         | true => exact absurd (Jh5.2 e) h
     rw [e]
theorem Jrz {a b c d : End} : ordE a b = ordE c d ↔ (a = c /\ b = d) \/ (a = d /\ b = c) := by
 constructor
 . intro h
   unfold ordE at h
   split at h <;> split at h <;> simp only [Prod.mk.injEq] at h
   . exact .inl ⟨h.2, h.1⟩
   . exact .inr ⟨h.2, h.1⟩
   . exact .inr ⟨h.1, h.2⟩
   . exact .inl h
 . rintro (⟨rfl, rfl⟩ | ⟨rfl, rfl⟩)
   . rfl
   . exact Kd4
structure Drf where
 parts : List Part
 pipes : List EndP
 deriving DecidableEq
def Jar (ps : List Part) : List Txt := Jau Op.bytesLess (ps.map (·.name))
def Je5 (ps : List Part) (s : Txt) : Part := (ps.find? fun p => decide (p.name = s)).getD ⟨0, [], 0⟩
def atNm (nms : List Txt) (s : Txt) : Int := match nms.findIdx? fun n => decide (n = s) with | some i => i | none => 0
def Jck (nms : List Txt) (x : EndP) : Pipe := ⟨⟨atNm nms x.1.part, x.1.port⟩, ⟨atNm nms x.2.part, x.2.port⟩⟩
def Jhc (d : Drf) : Circuit := ⟨(Jar d.parts).map (Je5 d.parts), (Jau Ja6 d.pipes).map (Jck (Jar d.parts))⟩
def Jfn (p q : Part) : Bool := Op.bytesLess p.name q.name
def Jtn (c : Circuit) (x : EndP) : Pipe :=
 let a : Port := ⟨idxI c.parts fun p => decide (p.name = x.1.part), x.1.port⟩
 let b : Port := ⟨idxI c.parts fun p => decide (p.name = x.2.part), x.2.port⟩
 if Jaz b a then ⟨b, a⟩ else ⟨a, b⟩
def Jbl (d : Drf) : Circuit := ⟨selS Jfn d.parts, selS Jb8 (d.pipes.map (Jtn ⟨selS Jfn d.parts, []⟩))⟩
structure DrfOk (d : Drf) : Prop where
 nd : (d.parts.map (·.name)).Nodup
 ends : ∀ x ∈ d.pipes, x.1.part ∈ d.parts.map (·.name) /\ x.2.part ∈ d.parts.map (·.name)
theorem Jw0 {ps : List Part} (h : (ps.map (·.name)).Nodup) {p : Part} (hp : p ∈ ps) : Je5 ps p.name = p := by
 unfold Je5
 have : ps.find? (fun q => decide (q.name = p.name)) = some p := by
   induction ps with
   | nil => cases hp
   | cons q ps ih =>
     rw [List.map_cons, List.nodup_cons] at h
     rcases List.mem_cons.1 hp with rfl | hp
     . simp
     . have hne : q.name ≠ p.name := fun e => h.1 (e ▸ List.mem_map_of_mem hp)
       rw [List.find?_cons_of_neg (by simpa using hne)]
       exact ih h.2 hp
 rw [this]; rfl
theorem Jo3 {ps : List Part} : (selS Jfn ps).map (·.name) = Jar ps := by
 unfold selS Jar
 rw [J1c (lt := Jfn) (lt' := Op.bytesLess) (f := fun p : Part => p.name) (fun x _ y _ => rfl), <- J1d Jl0]
 unfold selS
 rw [List.length_map]
theorem Jyx {α : Type} {lt : α -> α -> Bool} : ∀ {n : Nat} {l : List α} {x : α}, x ∈ selN lt n l -> x ∈ l
 | 0, _, _, h => by cases h
 | n + 1, l, x, h => by
   simp only [selN] at h
   split at h
   . rename_i y e
     rcases List.mem_cons.1 h with rfl | h
     . exact List.mem_of_getElem? e
     . exact (Jo8 e).mem_iff.1 (List.mem_cons_of_mem _ (Jyx h))
   . cases h
theorem Js1 {ps : List Part} (h : (ps.map (·.name)).Nodup) : selS Jfn ps = (Jar ps).map (Je5 ps) := by
 rw [<- Jo3, List.map_map]
 conv => lhs; rw [<- List.map_id (selS Jfn ps)]
 refine List.map_congr_left fun p hp => ?_
 exact (Jw0 h (Jyx hp)).symm
theorem Jlb {ps : List Part} {s : Txt} : s ∈ Jar ps ↔ s ∈ ps.map (·.name) := Jre
theorem Jy5 {ps : List Part} (h : (ps.map (·.name)).Nodup) : (Jar ps).Nodup := Jgr.nodup_iff.2 h
theorem Jxl {ps : List Part} (h : (ps.map (·.name)).Nodup) {s : Txt} (hs : s ∈ ps.map (·.name)) : idxI (selS Jfn ps) (fun p => decide (p.name = s)) = atNm (Jar ps) s := by
 rw [<- Jo3]
 unfold idxI atNm
 rw [List.findIdx?_map]
 have e : ((fun n => decide (n = s)) ∘ fun p : Part => p.name) = fun p : Part => decide (p.name = s) := rfl
 rw [e]
 have hm : s ∈ (selS Jfn ps).map (·.name) := by rw [Jo3]; exact Jlb.2 hs
 cases e2 : (selS Jfn ps).findIdx? fun p => decide (p.name = s) with
 | some i => rfl
 | none =>
   rw [List.findIdx?_eq_none_iff] at e2
   obtain ⟨p, hp, rfl⟩ := List.mem_map.1 hm
   have := e2 p hp
   simp at this
theorem Ji6 {nms : List Txt} (hn : nms.Nodup) {i : Nat} {s : Txt} (e : nms[i]? = some s) : atNm nms s = i := by
 have hi := (gsI.1 e).1
 have : nms.findIdx? (fun n => decide (n = s)) = some i := by
   rw [List.findIdx?_eq_some_iff_getElem]
   refine ⟨hi, by rw [(gsI.1 e).2]; simp, fun j hj => ?_⟩
   have h1 := List.pairwise_iff_getElem.1 hn j i (by omega) hi hj
   rw [(gsI.1 e).2] at h1
   simpa using h1
 unfold atNm; rw [this]
theorem Jux {ps : List Part} (h : (ps.map (·.name)).Nodup) {s t : Txt} (hs : s ∈ ps.map (·.name)) (ht : t ∈ ps.map (·.name)) : (atNm (Jar ps) s < atNm (Jar ps) t ↔ Op.bytesLess s t = true) /\ (atNm (Jar ps) s = atNm (Jar ps) t ↔ s = t) := by
 obtain ⟨i, ei⟩ := List.getElem?_of_mem (Jlb.2 hs)
 obtain ⟨j, ej⟩ := List.getElem?_of_mem (Jlb.2 ht)
 have hn := Jy5 h
 rw [Ji6 hn ei, Ji6 hn ej]
 obtain ⟨hi, ei'⟩ := gsI.1 ei
 obtain ⟨hj, ej'⟩ := gsI.1 ej
 have hasc : AscB Op.bytesLess (Jar ps) := Jnu Jl0
 have hp := List.pairwise_iff_getElem.1 hasc
 have hinj : i = j ↔ s = t := by
   constructor
   . rintro rfl; rw [ei] at ej; cases ej; rfl
   . rintro rfl
     have h1 := Ji6 hn ei
     rw [Ji6 hn ej] at h1
     omega
 constructor
 . constructor
   . intro hlt
     have h1 := hp i j hi hj (by omega)
     rw [ei', ej'] at h1
     cases e : Op.bytesLess s t with
     | true => rfl
     | false => have := hinj.2 (Jfz e h1); omega
   . intro hb
     rcases Nat.lt_trichotomy i j with h1 | h1 | h1
     . omega
     . have := hinj.1 h1; subst this; rw [Jdm] at hb; cases hb
     . have h2 := hp j i hj hi h1
       rw [ei', ej', hb] at h2; cases h2
 . rw [<- hinj]; omega
theorem Joo {ps : List Part} (h : (ps.map (·.name)).Nodup) {a b : End} (ha : a.part ∈ ps.map (·.name)) (hb : b.part ∈ ps.map (·.name)) : Jaz ⟨atNm (Jar ps) a.part, a.port⟩ ⟨atNm (Jar ps) b.part, b.port⟩ = Jc5 a b := by
 obtain ⟨h1, h2⟩ := Jux h ha hb
 unfold Jaz Jc5
 simp only [h2]
 split
 . rfl
 . rw [Bool.eq_iff_iff, decide_eq_true_eq]; exact h1
theorem Kek {ps : List Part} (h : (ps.map (·.name)).Nodup) {x y : EndP} (hx : x.1.part ∈ ps.map (·.name) /\ x.2.part ∈ ps.map (·.name)) (hy : y.1.part ∈ ps.map (·.name) /\ y.2.part ∈ ps.map (·.name)) : Jb8 (Jck (Jar ps) x) (Jck (Jar ps) y) = Ja6 x y := by
 have e : (Jck (Jar ps) x).fr = (Jck (Jar ps) y).fr ↔ x.1 = y.1 := by
   obtain ⟨⟨a, b⟩, _⟩ := x
   obtain ⟨⟨c, d⟩, _⟩ := y
   simp only [Jck, Port.mk.injEq, End.mk.injEq, (Jux h hx.1 hy.1).2]
 unfold Jb8 Ja6
 simp only [e]
 split
 . exact Joo h hx.2 hy.2
 . exact Joo h hx.1 hy.1
theorem Kgv {ps : List Part} (h : (ps.map (·.name)).Nodup) {x : EndP} (hx : x.1.part ∈ ps.map (·.name) /\ x.2.part ∈ ps.map (·.name)) : Jtn ⟨selS Jfn ps, []⟩ x = Jck (Jar ps) (ordE x.1 x.2) := by
 unfold Jtn
 simp only [Jxl h hx.1, Jxl h hx.2, Joo h hx.2 hx.1]
 unfold ordE
 by_cases e : Jc5 x.2 x.1 = true
 . rw [if_pos e, if_pos (Jh5.2 e)]; rfl
 . rw [if_neg e, if_neg (fun h => e (Jh5.1 h))]; rfl
theorem Jry {ps : List Part} {x : EndP} (hx : x.1.part ∈ ps.map (·.name) /\ x.2.part ∈ ps.map (·.name)) : (ordE x.1 x.2).1.part ∈ ps.map (·.name) /\ (ordE x.1 x.2).2.part ∈ ps.map (·.name) := by
 unfold ordE
 split
 . exact ⟨hx.2, hx.1⟩
 . exact hx
theorem Jwp {d : Drf} (h : DrfOk d) : Jhc ⟨d.parts, d.pipes.map fun x => ordE x.1 x.2⟩ = Jbl d := by
 unfold Jhc Jbl
 rw [Js1 h.nd, J1d Kge]
 congr 1
 rw [Jxs (lt' := Jb8) (f := Jck (Jar d.parts)), List.map_map]
 . congr 1
   refine List.map_congr_left fun x hx => ?_
   rw [<- Js1 h.nd, Kgv h.nd (h.ends x hx)]; rfl
 . intro x hx y hy
   obtain ⟨x', hx', rfl⟩ := List.mem_map.1 hx
   obtain ⟨y', hy', rfl⟩ := List.mem_map.1 hy
   exact Kek h.nd (Jry (h.ends y' hy')) (Jry (h.ends x' hx'))
end Go.Am
namespace Go.Am
open Go Go.Proofs Go.Pn
end Go.Am
namespace Go.Am
open Go Go.Proofs Go.Pn
def ordX (x : EndP) : EndP := ordE x.1 x.2
def noC : Circuit := ⟨[], []⟩
def Jbj (c : Circuit) (p : Port) : End := ⟨nameAt c p.part, p.name⟩
def cntC (c : Circuit) : List Int := (List.range 14).map fun (k : Nat) => ((c.parts.countP fun p => decide (p.kind = (k : Int)) : Nat) : Int)
def drfC (c : Circuit) : Drf := ⟨c.parts, c.pipes.map fun x => (Jbj c x.fr, Jbj c x.to)⟩
def Jb2 (f : Txt -> Txt) (a : End) : End := ⟨f a.part, a.port⟩
def Jbn (f : Txt -> Txt) (p : Part) : Part := ⟨p.kind, f p.name, p.delay⟩
def mapD (f : Txt -> Txt) (d : Drf) : Drf := ⟨d.parts.map (Jbn f), d.pipes.map fun x => (Jb2 f x.1, Jb2 f x.2)⟩
def Jat (c : Circuit) (old new s : Txt) : Txt := if s = old then new else
 if Jal c (Ja4 c old) = 1 /\ (s = old ++ [48] /\ 0 <= swAt c (old ++ [48])) then new ++ [48] else
 if Jal c (Ja4 c old) = 1 /\ (s = old ++ [49] /\ 0 <= swAt c (old ++ [49])) then new ++ [49] else s
def renD (c : Circuit) (old new : Txt) : Drf := mapD (Jat c old new) (drfC c)
def rnmE (c : Circuit) (old new : Txt) : Int := if Jad c ≠ 0 then Jad c else if Ja4 c old < 0 then 6 else
 if ¬ ((renD c old new).parts.map (·.name)).Nodup then 7 else Jad (Jbl (renD c old new))
def rnmC (c : Circuit) (old new : Txt) : Circuit := if rnmE c old new = 0 then Jbl (renD c old new) else noC
def clash (a b : Circuit) : Bool := b.parts.any fun q => a.parts.any fun p => decide (p.name = q.name) && !decide (p = q)
end Go.Am
namespace Go.Am
open Go Go.Proofs Go.Pn
theorem Kbx {c : Circuit} (h : Jad c = 0) : AscB Op.bytesLess (c.parts.map (·.name)) := by
 refine List.pairwise_map.2 (List.pairwise_iff_getElem.2 fun i j hi hj hij => ?_)
 exact Jmt (Jok h hij (List.getElem?_eq_getElem hi) (List.getElem?_eq_getElem hj))
theorem Jld {c : Circuit} (h : Jad c = 0) : (c.parts.map (·.name)).Nodup := by
 refine List.pairwise_map.2 (List.pairwise_iff_getElem.2 fun i j hi hj hij => ?_)
 intro e
 have := Jok h hij (List.getElem?_eq_getElem hi) (List.getElem?_eq_getElem hj)
 rw [e, Jdm] at this
 cases this
theorem Jn7 {c : Circuit} {p : Port} (h : Jbh c p = 0) : nameAt c p.part ∈ c.parts.map (·.name) := by
 obtain ⟨q, e, _⟩ := Jey.1 h
 unfold nameAt
 rw [e]
 exact List.mem_map_of_mem (List.mem_of_getElem? e)
theorem Ji7 {c : Circuit} (h : Jad c = 0) {p : Port} (hp : Jbh c p = 0) : (⟨atNm (c.parts.map (·.name)) (nameAt c p.part), p.name⟩ : Port) = p := by
 obtain ⟨q, e, h0, _⟩ := Jey.1 hp
 have : atNm (c.parts.map (·.name)) (nameAt c p.part) = p.part.toNat := by
   refine Ji6 (Jld h) ?_
   unfold nameAt
   rw [List.getElem?_map, e]; rfl
 rw [this]
 obtain ⟨a, b⟩ := p
 simp only at h0 ⊢
 rw [Int.toNat_of_nonneg h0]
def Jci (c : Circuit) (x : Pipe) : EndP := (Jbj c x.fr, Jbj c x.to)
theorem Jii {c : Circuit} (h : Jad c = 0) {x : Pipe} (hx : x ∈ c.pipes) : Jbh c x.fr = 0 /\ Jbh c x.to = 0 /\ Jaz x.fr x.to = true := Kei.1 ((Jm1.1 h).2.2.1 x hx)
theorem Jnb {c : Circuit} (h : Jad c = 0) : DrfOk (drfC c) := by
 refine ⟨Jld h, fun x hx => ?_⟩
 obtain ⟨y, hy, rfl⟩ := List.mem_map.1 hx
 obtain ⟨h1, h2, _⟩ := Jii h hy
 exact ⟨Jn7 h1, Jn7 h2⟩
theorem Kbt {c : Circuit} (h : Jad c = 0) : Jar c.parts = c.parts.map (·.name) := J9t Jl0 (Kbx h)
theorem J7g {c : Circuit} (h : Jad c = 0) {p q : Port} (hp : Jbh c p = 0) (hq : Jbh c q = 0) : Jc5 (Jbj c p) (Jbj c q) = Jaz p q := by
 have := Joo (Jld h) (a := Jbj c p) (b := Jbj c q) (Jn7 hp) (Jn7 hq)
 rw [Kbt h] at this
 rw [<- this]
 show Jaz ⟨atNm _ (nameAt c p.part), p.name⟩ ⟨atNm _ (nameAt c q.part), q.name⟩ = _
 rw [Ji7 h hp, Ji7 h hq]
theorem Jzu {c : Circuit} (h : Jad c = 0) {x : Pipe} (hx : x ∈ c.pipes) : ordX (Jci c x) = Jci c x := by
 obtain ⟨h1, h2, h3⟩ := Jii h hx
 unfold ordX ordE Jci
 rw [if_neg]
 intro h4
 have h5 := Jh5.1 h4
 rw [J7g h h2 h1] at h5
 have h6 := J0l h3
 rw [h5] at h6
 cases h6
theorem J0h {c : Circuit} (h : Jad c = 0) {x : Pipe} (hx : x ∈ c.pipes) : Jck (c.parts.map (·.name)) (Jci c x) = x := by
 obtain ⟨h1, h2, _⟩ := Jii h hx
 unfold Jck Jci Jbj
 rw [Ji7 h h1, Ji7 h h2]
theorem Jkb {d : Drf} (h : DrfOk d) : (Jbl d).parts.Perm d.parts := by
 show (selS Jfn d.parts).Perm d.parts
 rw [Js1 h.nd]
 have h1 : (Jar d.parts).Perm (d.parts.map (·.name)) := Jgr
 refine (h1.map (Je5 d.parts)).trans ?_
 rw [List.map_map]
 have : d.parts.map (Je5 d.parts ∘ fun p => p.name) = d.parts := by
   conv => rhs; rw [<- List.map_id d.parts]
   exact List.map_congr_left fun p hp => Jw0 h.nd hp
 rw [this]
theorem Jy3 {d : Drf} (h : DrfOk d) {s : Txt} (hs : s ∈ d.parts.map (·.name)) : nameAt (Jbl d) (atNm (Jar d.parts) s) = s := by
 obtain ⟨i, e⟩ := List.getElem?_of_mem (Jlb.2 hs)
 rw [Ji6 (Jy5 h.nd) e]
 have hn : (Jbl d).parts.map (·.name) = Jar d.parts := Jo3
 have e2 : ((Jbl d).parts.map (·.name))[i]? = some s := by rw [hn]; exact e
 rw [List.getElem?_map, Option.map_eq_some_iff] at e2
 obtain ⟨q, e3, e4⟩ := e2
 unfold nameAt
 rw [Int.toNat_natCast, e3]
 exact e4
theorem Kf9 {d : Drf} (h : DrfOk d) : ((drfC (Jbl d)).pipes.map ordX).Perm (d.pipes.map ordX) := by
 have e0 : (Jbl d).pipes = (Jau Ja6 (d.pipes.map ordX)).map (Jck (Jar d.parts)) := by rw [<- Jwp h]; rfl
 show (((Jbl d).pipes.map (Jci (Jbl d))).map ordX).Perm _
 rw [e0, List.map_map, List.map_map]
 show ((Jau Ja6 (d.pipes.map ordX)).map (ordX ∘ Jci (Jbl d) ∘ Jck (Jar d.parts))).Perm _
 have e1 : (Jau Ja6 (d.pipes.map ordX)).map (ordX ∘ Jci (Jbl d) ∘ Jck (Jar d.parts)) = Jau Ja6 (d.pipes.map ordX) := by
   conv => rhs; rw [<- List.map_id (Jau Ja6 (d.pipes.map ordX))]
   refine List.map_congr_left fun x hx => ?_
   obtain ⟨y, hy, rfl⟩ := List.mem_map.1 (Jre.1 hx)
   have hy2 : (ordX y).1.part ∈ d.parts.map (·.name) /\ (ordX y).2.part ∈ d.parts.map (·.name) := Jry (h.ends y hy)
   have e3 : Jci (Jbl d) (Jck (Jar d.parts) (ordX y)) = ordX y := by
     show ((⟨nameAt (Jbl d) (atNm (Jar d.parts) (ordX y).1.part), (ordX y).1.port⟩ : End), (⟨nameAt (Jbl d) (atNm (Jar d.parts) (ordX y).2.part), (ordX y).2.port⟩ : End)) = ordX y
     rw [Jy3 h hy2.1, Jy3 h hy2.2]
   show ordX (Jci (Jbl d) (Jck (Jar d.parts) (ordX y))) = ordX y
   rw [e3]
   show ordE (ordE y.1 y.2).1 (ordE y.1 y.2).2 = ordE y.1 y.2
   exact Jrz.2 (by unfold ordE; split <;> simp)
 rw [e1]
 exact Jgr
end Go.Am
namespace Go.Am
open Go Go.Proofs Go.Pn
theorem Jpr {s : Txt} (h : Jcu s = 0) : s ≠ [] /\ (∀ b ∈ s, Jcz b = true) /\ s.length <= 24 := by
 cases s with
 | nil => simp [Jcu] at h
 | cons b r =>
   unfold Jcu at h
   simp only at h
   split at h
   . cases h
   . split at h
     . cases h
     . rename_i h2
       split at h
       . cases h
       . rename_i h3
         refine ⟨by simp, fun x hx => ?_, by omega⟩
         simp only [Bool.not_eq_true', Bool.not_eq_false] at h2
         exact List.all_eq_true.1 h2 x hx
theorem Joi {p : Part} (h : Jbk p = 0) : (0 <= p.kind /\ p.kind < 14) /\ Jcu p.name = 0 /\ (p.kind = 12 -> 1 <= p.delay /\ p.delay <= 1000000) /\ (p.kind ≠ 12 -> p.delay = 0) := by
 unfold Jbk at h
 by_cases h1 : Jax p.kind = 0
 . rw [if_neg (by simpa using h1)] at h
   by_cases h2 : Jcu p.name = 0
   . rw [if_neg (by simpa using h2)] at h
     refine ⟨Jcs.1 h1, h2, ?_, ?_⟩ <;> intro h3 <;> split at h <;> (try cases h) <;> omega
   . rw [if_pos h2] at h; exact absurd h h2
 . rw [if_pos h1] at h; exact absurd h h1
theorem Joj {c : Circuit} (h : Jad c = 0) {p : Part} (hp : p ∈ c.parts) : Jbk p = 0 := by
 have hf := (Jm1.1 h).1.each
 obtain ⟨j, hj, e⟩ := List.getElem_of_mem hp
 have h2 := Jgn hf hj
 unfold partAt at h2
 rw [List.getElem?_eq_getElem hj, e] at h2
 simp only at h2
 apply Decidable.byContradiction
 intro hne
 rw [if_pos hne] at h2
 exact hne h2
end Go.Am
namespace Go.Am
open Go Go.Proofs Go.Pn
def mvI (g : Int -> Int) (p : Port) : Port := ⟨g p.part, p.name⟩
structure Iso (c d : Circuit) (g : Int -> Int) : Prop where
 hc : Jad c = 0
 hd : Jad d = 0
 mem : ∀ p, p ∈ allP c -> mvI g p ∈ allP d
 inj : ∀ p q, p ∈ allP c -> q ∈ allP c -> g p.part = g q.part -> p.part = q.part
 surj : ∀ q, q ∈ allP d -> ∃ p ∈ allP c, mvI g p = q
 kind : ∀ p, p ∈ allP c -> Jal d (g p.part) = Jal c p.part
 fwd : ∀ x ∈ c.pipes, ∃ y ∈ d.pipes, (y.fr = mvI g x.fr /\ y.to = mvI g x.to) \/ (y.fr = mvI g x.to /\ y.to = mvI g x.fr)
 bwd : ∀ y ∈ d.pipes, ∃ x ∈ c.pipes, (y.fr = mvI g x.fr /\ y.to = mvI g x.to) \/ (y.fr = mvI g x.to /\ y.to = mvI g x.fr)
section
variable {c d : Circuit} {g : Int -> Int}
theorem Jho (h : Jad c = 0) {x : Pipe} (hx : x ∈ c.pipes) : x.fr ∈ allP c /\ x.to ∈ allP c := ⟨Jdl.2 (Jii h hx).1, Jdl.2 (Jii h hx).2.1⟩
theorem Iso.inj2 (I : Iso c d g) {p q : Port} (hp : p ∈ allP c) (hq : q ∈ allP c) (e : mvI g p = mvI g q) : p = q := by
 obtain ⟨a, s⟩ := p
 obtain ⟨b, t⟩ := q
 unfold mvI at e
 simp only [Port.mk.injEq] at e
 have := I.inj _ _ hp hq e.1
 simp only at this
 rw [this, e.2]
theorem Iso.conn (I : Iso c d g) {p q : Port} (h : Conn c.pipes p q) : Conn d.pipes (mvI g p) (mvI g q) := by
 induction h with
 | refl => exact .refl _
 | fwd x _ hm ih =>
   obtain ⟨y, hy, ⟨e1, e2⟩ | ⟨e1, e2⟩⟩ := I.fwd x hm
   . rw [<- e2]; exact .fwd _ y (e1 ▸ ih) hy
   . rw [<- e1]; exact .bwd _ y (e2 ▸ ih) hy
 | bwd x _ hm ih =>
   obtain ⟨y, hy, ⟨e1, e2⟩ | ⟨e1, e2⟩⟩ := I.fwd x hm
   . rw [<- e1]; exact .bwd _ y (e2 ▸ ih) hy
   . rw [<- e2]; exact .fwd _ y (e1 ▸ ih) hy
theorem Iso.back (I : Iso c d g) {p r : Port} (hp : p ∈ allP c) (h : Conn d.pipes (mvI g p) r) : ∃ q, r = mvI g q /\ q ∈ allP c /\ Conn c.pipes p q := by
 generalize hs : mvI g p = p' at h
 induction h with
 | refl => exact ⟨p, hs.symm, hp, .refl _⟩
 | fwd y _ hm ih =>
   obtain ⟨q, h1, h2, h3⟩ := ih
   obtain ⟨x, hx, ⟨e1, e2⟩ | ⟨e1, e2⟩⟩ := I.bwd y hm
   . obtain ⟨a, b⟩ := Jho I.hc hx
     have := I.inj2 a h2 (e1.symm.trans h1)
     exact ⟨x.to, e2, b, .fwd _ x (this ▸ h3) hx⟩
   . obtain ⟨a, b⟩ := Jho I.hc hx
     have := I.inj2 b h2 (e1.symm.trans h1)
     exact ⟨x.fr, e2, a, .bwd _ x (this ▸ h3) hx⟩
 | bwd y _ hm ih =>
   obtain ⟨q, h1, h2, h3⟩ := ih
   obtain ⟨x, hx, ⟨e1, e2⟩ | ⟨e1, e2⟩⟩ := I.bwd y hm
   . obtain ⟨a, b⟩ := Jho I.hc hx
     have := I.inj2 b h2 (e2.symm.trans h1)
     exact ⟨x.fr, e1, a, .bwd _ x (this ▸ h3) hx⟩
   . obtain ⟨a, b⟩ := Jho I.hc hx
     have := I.inj2 a h2 (e2.symm.trans h1)
     exact ⟨x.to, e1, b, .fwd _ x (this ▸ h3) hx⟩
theorem Iso.conn_iff (I : Iso c d g) {p q : Port} (hp : p ∈ allP c) (hq : q ∈ allP c) : Conn d.pipes (mvI g p) (mvI g q) ↔ Conn c.pipes p q := by
 constructor
 . intro h
   obtain ⟨r, h1, h2, h3⟩ := I.back hp h
   rw [I.inj2 hq h2 h1]; exact h3
 . exact I.conn
end
end Go.Am
namespace Go.Am
open Go Go.Proofs Go.Pn
theorem Kbe {d : Drf} {f : Txt -> Txt} (h : DrfOk d) (hn : ((mapD f d).parts.map (·.name)).Nodup) : DrfOk (mapD f d) := by
 refine ⟨hn, fun x hx => ?_⟩
 obtain ⟨y, hy, rfl⟩ := List.mem_map.1 hx
 obtain ⟨h1, h2⟩ := h.ends y hy
 have key : ∀ s, s ∈ d.parts.map (·.name) -> f s ∈ (mapD f d).parts.map (·.name) := fun s hs => by
   obtain ⟨p, hp, rfl⟩ := List.mem_map.1 hs
   exact List.mem_map.2 ⟨Jbn f p, List.mem_map_of_mem hp, rfl⟩
 exact ⟨key _ h1, key _ h2⟩
theorem Jj7 {c : Circuit} {old new : Txt} (h : rnmE c old new = 0) : Jad c = 0 /\ 0 <= Ja4 c old /\ DrfOk (renD c old new) /\ Jad (Jbl (renD c old new)) = 0 /\ rnmC c old new = Jbl (renD c old new) := by
 have h0 := h
 unfold rnmE at h
 by_cases h1 : Jad c = 0
 . rw [if_neg (by simpa using h1)] at h
   by_cases h2 : Ja4 c old < 0
   . rw [if_pos h2] at h; cases h
   . rw [if_neg h2] at h
     by_cases h3 : ((renD c old new).parts.map (·.name)).Nodup
     . rw [if_neg (by simpa using h3)] at h
       exact ⟨h1, by omega, Kbe (Jnb h1) h3, h, by unfold rnmC; rw [if_pos h0]⟩
     . rw [if_pos h3] at h; cases h
 . rw [if_pos h1] at h; exact absurd h h1
theorem J06 {c : Circuit} {old new : Txt} (h : rnmE c old new = 0) {q : Part} : q ∈ (rnmC c old new).parts ↔ ∃ p ∈ c.parts, q = Jbn (Jat c old new) p := by
 obtain ⟨h1, _, hd, _, e⟩ := Jj7 h
 rw [e, (Jkb hd).mem_iff]
 show q ∈ c.parts.map (Jbn (Jat c old new)) ↔ _
 rw [List.mem_map]
 constructor
 . rintro ⟨p, hp, rfl⟩; exact ⟨p, hp, rfl⟩
 . rintro ⟨p, hp, rfl⟩; exact ⟨p, hp, rfl⟩
theorem Kff {c : Circuit} {old new : Txt} (h : rnmE c old new = 0) {p q : Part} (hp : p ∈ c.parts) (hq : q ∈ c.parts) (e : Jat c old new p.name = Jat c old new q.name) : p = q := by
 obtain ⟨h1, _, hd, _, _⟩ := Jj7 h
 have hnd := hd.nd
 have e2 : (renD c old new).parts.map (·.name) = c.parts.map fun p => Jat c old new p.name := by
   show (c.parts.map (Jbn (Jat c old new))).map (·.name) = _
   rw [List.map_map]; rfl
 rw [e2] at hnd
 obtain ⟨i, hi, ei⟩ := List.getElem_of_mem hp
 obtain ⟨j, hj, ej⟩ := List.getElem_of_mem hq
 have hpw := List.pairwise_iff_getElem.1 hnd
 rcases Nat.lt_trichotomy i j with hl | hl | hl
 . have := hpw i j (by simpa using hi) (by simpa using hj) hl
   simp only [List.getElem_map, ei, ej] at this
   exact absurd e this
 . subst hl; rw [<- ei, ej]
 . have := hpw j i (by simpa using hj) (by simpa using hi) hl
   simp only [List.getElem_map, ei, ej] at this
   exact absurd e.symm this
def renG (c : Circuit) (old new : Txt) (i : Int) : Int := Ja4 (rnmC c old new) (Jat c old new (nameAt c i))
theorem Jn8 {c : Circuit} {i : Nat} {q : Part} (e : c.parts[i]? = some q) : nameAt c (i : Int) = q.name := by unfold nameAt; rw [Int.toNat_natCast, e]
theorem Jhv {c : Circuit} {old new : Txt} (h : rnmE c old new = 0) {i : Nat} {q : Part} (e : c.parts[i]? = some q) : ∃ j : Nat, renG c old new i = j /\ (rnmC c old new).parts[j]? = some (Jbn (Jat c old new) q) := by
 obtain ⟨h1, _, hd, h3, e2⟩ := Jj7 h
 have hdr : Jad (rnmC c old new) = 0 := by rw [e2]; exact h3
 have hm : Jbn (Jat c old new) q ∈ (rnmC c old new).parts := (J06 h).2 ⟨q, List.mem_of_getElem? e, rfl⟩
 obtain ⟨j, hj⟩ := List.getElem?_of_mem hm
 refine ⟨j, ?_, hj⟩
 unfold renG
 rw [Jn8 e]
 exact Jih hdr hj
theorem Jf7 {c : Circuit} {p : Port} (hp : p ∈ allP c) : ∃ (i : Nat) (q : Part), p.part = i /\ c.parts[i]? = some q /\ p.name ∈ Ja8 q := by
 obtain ⟨q, e, h0, hm⟩ := Jey.1 (Jdl.1 hp)
 exact ⟨p.part.toNat, q, by omega, e, hm⟩
theorem Jr8 {c : Circuit} {i : Nat} {q : Part} (e : c.parts[i]? = some q) {s : Txt} (hs : s ∈ Ja8 q) : (⟨(i : Int), s⟩ : Port) ∈ allP c := Jdl.2 (Jey.2 ⟨q, by simpa using e, by simp, hs⟩)
theorem J05 {c : Circuit} {old new : Txt} (h : rnmE c old new = 0) {p : Port} (hp : p ∈ allP c) : Jbj (rnmC c old new) (mvI (renG c old new) p) = Jb2 (Jat c old new) (Jbj c p) := by
 obtain ⟨i, q, e1, e2, _⟩ := Jf7 hp
 obtain ⟨j, f1, f2⟩ := Jhv h e2
 unfold Jbj mvI Jb2
 rw [e1, f1, Jn8 f2, Jn8 e2]; rfl
theorem Jnc {c : Circuit} (h : Jad c = 0) {p q : Port} (hp : p ∈ allP c) (hq : q ∈ allP c) (e : Jbj c p = Jbj c q) : p = q := by
 have h1 := Ji7 h (Jdl.1 hp)
 have h2 := Ji7 h (Jdl.1 hq)
 unfold Jbj at e
 simp only [End.mk.injEq] at e
 rw [<- h1, <- h2, e.1, e.2]
theorem Jsp {c : Circuit} {old new : Txt} (h : rnmE c old new = 0) : Iso c (rnmC c old new) (renG c old new) := by
 obtain ⟨h1, h2, hd, h3, e⟩ := Jj7 h
 have hdr : Jad (rnmC c old new) = 0 := by rw [e]; exact h3
 have hmem : ∀ p, p ∈ allP c -> mvI (renG c old new) p ∈ allP (rnmC c old new) := fun p hp => by
   obtain ⟨i, q, e1, e2, e3⟩ := Jf7 hp
   obtain ⟨j, f1, f2⟩ := Jhv h e2
   unfold mvI
   rw [e1, f1]
   exact Jr8 f2 e3
 have hpp : ((drfC (rnmC c old new)).pipes.map ordX).Perm ((renD c old new).pipes.map ordX) := by rw [e]; exact Kf9 hd
 have hends : ∀ x ∈ c.pipes, ∀ y ∈ (rnmC c old new).pipes, ordX (Jci (rnmC c old new) y) = ordX (Jb2 (Jat c old new) (Jci c x).1, Jb2 (Jat c old new) (Jci c x).2) ->
     (y.fr = mvI (renG c old new) x.fr /\ y.to = mvI (renG c old new) x.to) \/ (y.fr = mvI (renG c old new) x.to /\ y.to = mvI (renG c old new) x.fr) := fun x hx y hy e4 => by
   obtain ⟨a1, a2⟩ := Jho h1 hx
   obtain ⟨b1, b2⟩ := Jho hdr hy
   have c1 := J05 h a1
   have c2 := J05 h a2
   unfold ordX Jci at e4
   simp only [<- c1, <- c2] at e4
   rcases Jrz.1 e4 with ⟨d1, d2⟩ | ⟨d1, d2⟩
   . exact .inl ⟨Jnc hdr b1 (hmem _ a1) d1, Jnc hdr b2 (hmem _ a2) d2⟩
   . exact .inr ⟨Jnc hdr b1 (hmem _ a2) d1, Jnc hdr b2 (hmem _ a1) d2⟩
 refine ⟨h1, hdr, hmem, fun p q hp hq e4 => ?_, fun q hq => ?_, fun p hp => ?_, fun x hx => ?_, fun y hy => ?_⟩
 . obtain ⟨i, x, e1, e2, _⟩ := Jf7 hp
   obtain ⟨j, y, k1, k2, _⟩ := Jf7 hq
   obtain ⟨i', f1, f2⟩ := Jhv h e2
   obtain ⟨j', g1, g2⟩ := Jhv h k2
   rw [e1, k1, f1, g1] at e4
   have : i' = j' := by omega
   subst this
   rw [f2] at g2
   have e5 := Kff h (List.mem_of_getElem? e2) (List.mem_of_getElem? k2) (congrArg Part.name (Option.some.inj g2))
   subst e5
   rw [e1, k1, Jr4 h1 e2 k2 rfl]
 . obtain ⟨j, y, k1, k2, k3⟩ := Jf7 hq
   obtain ⟨x, hx, e4⟩ := (J06 h).1 (List.mem_of_getElem? k2)
   obtain ⟨i, hi, ei⟩ := List.getElem_of_mem hx
   have e2 : c.parts[i]? = some x := by rw [List.getElem?_eq_getElem hi, ei]
   obtain ⟨j', f1, f2⟩ := Jhv h e2
   have hjj : j' = j := Jr4 hdr f2 k2 (by rw [e4])
   subst hjj
   refine ⟨⟨i, q.name⟩, Jr8 e2 (by rw [e4] at k3; exact k3), ?_⟩
   unfold mvI
   simp only [f1, <- k1]
 . obtain ⟨i, x, e1, e2, _⟩ := Jf7 hp
   obtain ⟨i', f1, f2⟩ := Jhv h e2
   rw [e1, f1]
   unfold Jal
   rw [Int.toNat_natCast, Int.toNat_natCast, f2, e2]; rfl
 . have hm : ordX (Jb2 (Jat c old new) (Jci c x).1, Jb2 (Jat c old new) (Jci c x).2) ∈ (renD c old new).pipes.map ordX :=
     List.mem_map_of_mem (List.mem_map.2 ⟨Jci c x, List.mem_map.2 ⟨x, hx, rfl⟩, rfl⟩)
   obtain ⟨w, hw, e4⟩ := List.mem_map.1 (hpp.mem_iff.2 hm)
   obtain ⟨y, hy, rfl⟩ := List.mem_map.1 hw
   exact ⟨y, hy, hends x hx y hy e4⟩
 . have hm : ordX (Jci (rnmC c old new) y) ∈ (drfC (rnmC c old new)).pipes.map ordX := List.mem_map_of_mem (List.mem_map.2 ⟨y, hy, rfl⟩)
   obtain ⟨w, hw, e4⟩ := List.mem_map.1 (hpp.mem_iff.1 hm)
   obtain ⟨w', hw', rfl⟩ := List.mem_map.1 hw
   obtain ⟨x, hx, rfl⟩ := List.mem_map.1 hw'
   exact ⟨x, hx, hends x hx y hy e4.symm⟩
theorem Kfe {c : Circuit} {old new : Txt} (h : rnmE c old new = 0) : cntC (rnmC c old new) = cntC c /\ (rnmC c old new).parts.length = c.parts.length := by
 obtain ⟨h1, _, hd, _, e⟩ := Jj7 h
 have hp : (rnmC c old new).parts.Perm (c.parts.map (Jbn (Jat c old new))) := by rw [e]; exact Jkb hd
 refine ⟨?_, by rw [hp.length_eq, List.length_map]⟩
 unfold cntC
 refine List.map_congr_left fun k _ => ?_
 rw [hp.countP_eq, List.countP_map]
 rfl
theorem J68 {c : Circuit} (h : Jad c = 0) : ((drfC c).pipes.map ordX).Nodup := by
 show ((c.pipes.map fun x => (Jbj c x.fr, Jbj c x.to)).map ordX).Nodup
 rw [List.map_map]
 have hn : c.pipes.Nodup := (Jm1.1 h).2.2.2.imp fun h1 e => by subst e; rw [J0f] at h1; cases h1
 refine List.pairwise_map.2 (hn.imp_of_mem fun {x y} hx hy hne e => hne ?_)
 have e2 : ordX (Jci c x) = ordX (Jci c y) := e
 rw [Jzu h hx, Jzu h hy] at e2
 have e1 := J0h h hx
 rw [e2, J0h h hy] at e1
 exact e1.symm
end Go.Am
