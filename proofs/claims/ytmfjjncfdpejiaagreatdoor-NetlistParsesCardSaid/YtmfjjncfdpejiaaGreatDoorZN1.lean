/- Lemmas and contracts for the proof of a statement of this seat. -/
import Derived.Test.YtmfjjncfdpejiaaGreatDoorZCP
import Derived.Test.YtmfjjncfdpejiaaGreatDoorZE3
import Derived.Lib.FieldsP
import Derived.Lib.TrimUEq
import Derived.Test.YtmfjjncfdpejiaaGreatDoorZF1
import Derived.Test.YtmfjjncfdpejiaaGreatDoorZCA
import Derived.Test.YtmfjjncfdpejiaaGreatDoorZC6
import Derived.Test.YtmfjjncfdpejiaaGreatDoorZCQ
set_option linter.unusedVariables false
set_option linter.unusedSimpArgs false
namespace Go.Am
open Go Go.Proofs Go.Pn
structure STO {α : Type} (lt : α -> α -> Bool) : Prop where
 irrefl : ∀ a, lt a a = false
 trans : ∀ {a b c}, lt a b = true -> lt b c = true -> lt a c = true
 total : ∀ {a b}, lt a b = false -> lt b a = false -> a = b
theorem STO.asymm {α : Type} {lt : α -> α -> Bool} (h : STO lt) {a b : α} (k : lt a b = true) : lt b a = false := by
 cases e : lt b a with
 | false => rfl
 | true => have := h.trans k e; rw [h.irrefl] at this; cases this
def insB {α : Type} (lt : α -> α -> Bool) (x : α) : List α -> List α
 | [] => [x]
 | y :: ys => if lt y x then y :: insB lt x ys else x :: y :: ys
def Jaw {α : Type} (lt : α -> α -> Bool) (l : List α) : List α := l.foldr (insB lt) []
def AscB {α : Type} (lt : α -> α -> Bool) (l : List α) : Prop := l.Pairwise fun a b => lt b a = false
section
variable {α : Type} {lt : α -> α -> Bool}
theorem Jnp {x : α} : ∀ {l : List α}, (insB lt x l).Perm (x :: l)
 | [] => List.Perm.refl _
 | y :: ys => by
   unfold insB
   split
   . exact (List.Perm.cons y Jnp).trans (List.Perm.swap x y ys)
   . exact List.Perm.refl _
theorem Jfu : ∀ {l : List α}, (Jaw lt l).Perm l
 | [] => List.Perm.refl _
 | x :: l => by
   show (insB lt x (Jaw lt l)).Perm (x :: l)
   exact Jnp.trans (List.Perm.cons x Jfu)
theorem Jen {l : List α} : (Jaw lt l).length = l.length := Jfu.length_eq
theorem Jr7 {l : List α} {x : α} : x ∈ Jaw lt l ↔ x ∈ l := Jfu.mem_iff
theorem Jr0 (h : STO lt) {x : α} : ∀ {l : List α}, AscB lt l -> AscB lt (insB lt x l)
 | [], _ => List.pairwise_singleton _ _
 | y :: ys, hl => by
   have hy := List.pairwise_cons.1 hl
   unfold insB
   cases e : lt y x with
   | true =>
     simp only [if_true]
     refine List.pairwise_cons.2 ⟨fun z hz => ?_, Jr0 h hy.2⟩
     rcases List.mem_cons.1 (Jnp.mem_iff.1 hz) with rfl | hz
     . exact h.asymm e
     . exact hy.1 z hz
   | false =>
     simp only [Bool.false_eq_true, if_false]
     refine List.pairwise_cons.2 ⟨fun z hz => ?_, hl⟩
     rcases List.mem_cons.1 hz with rfl | hz
     . exact e
     . have h1 := hy.1 z hz
       cases e2 : lt z x with
       | false => rfl
       | true =>
         cases e3 : lt x y with
         | true => rw [h.trans e2 e3] at h1; cases h1
         | false =>
           have := h.total e e3
           subst this
           rw [e2] at h1; cases h1
theorem Jku (h : STO lt) : ∀ {l : List α}, AscB lt (Jaw lt l)
 | [] => List.Pairwise.nil
 | _ :: _ => Jr0 h (Jku h)
theorem Jpx (h : STO lt) : ∀ {l m : List α}, AscB lt l -> AscB lt m -> l.Perm m -> l = m
 | [], m, _, _, p => (List.Perm.nil_eq p)
 | x :: l, [], _, _, p => absurd (p.length_eq) (by simp)
 | x :: l, y :: m, hl, hm, p => by
   have hx := List.pairwise_cons.1 hl
   have hy := List.pairwise_cons.1 hm
   have e : x = y := by
     have h1 : x ∈ y :: m := p.mem_iff.1 (by simp)
     have h2 : y ∈ x :: l := p.mem_iff.2 (by simp)
     rcases List.mem_cons.1 h1 with h1 | h1
     . exact h1
     . rcases List.mem_cons.1 h2 with h2 | h2
       . exact h2.symm
       . exact h.total (hy.1 x h1) (hx.1 y h2)
   subst e
   rw [Jpx h hx.2 hy.2 ((List.perm_cons x).1 p)]
theorem Jkv (h : STO lt) {l m : List α} (hm : AscB lt m) (p : m.Perm l) : m = Jaw lt l := Jpx h hm (Jku h) (p.trans Jfu.symm)
theorem Jr5 (h : STO lt) {l m : List α} (p : l.Perm m) : Jaw lt l = Jaw lt m := Jkv h (Jku h) (Jfu.trans p)
theorem Jr8 (h : STO lt) {l : List α} : (l.mergeSort fun x y => !lt y x) = Jaw lt l := by
 refine Jkv h ?_ (List.mergeSort_perm _ _)
 have := List.pairwise_mergeSort (le := fun x y => !lt y x) (fun a b c h1 h2 => ?_) (fun a b => ?_) l
 . exact this.imp fun h1 => by simpa using h1
 . simp only [Bool.not_eq_true'] at h1 h2 ⊢
   cases e : lt c a with
   | false => rfl
   | true =>
     cases e2 : lt a b with
     | true => rw [h.trans e e2] at h2; cases h2
     | false =>
       have := h.total e2 h1
       subst this
       rw [e] at h2; cases h2
 . simp only [Bool.or_eq_true, Bool.not_eq_true']
   cases e : lt a b with
   | true => exact .inl (h.asymm e)
   | false => exact .inr rfl
theorem Jr1 {β : Type} {lt' : β -> β -> Bool} {f : α -> β} {x : α} : ∀ {l : List α}, (∀ y ∈ l, lt' (f y) (f x) = lt y x) -> (insB lt x l).map f = insB lt' (f x) (l.map f)
 | [], _ => rfl
 | y :: ys, h => by
   simp only [insB, List.map_cons, h y (by simp)]
   have ih := Jr1 (l := ys) (fun z hz => h z (List.mem_cons_of_mem _ hz))
   split
   . simp only [List.map_cons, ih]
   . rfl
theorem Jr6 {β : Type} {lt' : β -> β -> Bool} {f : α -> β} : ∀ {l : List α}, (∀ x ∈ l, ∀ y ∈ l, lt' (f y) (f x) = lt y x) -> (Jaw lt l).map f = Jaw lt' (l.map f)
 | [], _ => rfl
 | x :: l, h => by
   show (insB lt x (Jaw lt l)).map f = insB lt' (f x) (Jaw lt' (l.map f))
   rw [Jr1 (fun y hy => h x (by simp) y (by simp [Jr7.1 hy])), Jr6 (fun a ha b hb => h a (by simp [ha]) b (by simp [hb]))]
theorem J1e (h : STO lt) {l : List α} (hl : AscB lt l) : Jaw lt l = l := (Jkv h hl (List.Perm.refl _)).symm
def Jan (lt : α -> α -> Bool) (l : List α) : Nat -> Nat
 | 0 => 0
 | k + 1 => match l[k]?, l[Jan lt l k]? with
   | some x, some y => if lt x y then k else Jan lt l k
   | _, _ => Jan lt l k
theorem Jk1 {l : List α} {k : Nat} {x y : α} (h1 : l[k]? = some x) (h2 : l[Jan lt l k]? = some y) : Jan lt l (k + 1) = if lt x y then k else Jan lt l k := by
 simp only [Jan, h1, h2]
theorem Jnw (h : STO lt) {l : List α} : Jan lt l 1 = 0 := by
 unfold Jan
 split
 . split
   . rfl
   . rfl
 . rfl
theorem Jk0 (h : STO lt) {l : List α} : ∀ {k : Nat}, 1 <= k -> k <= l.length -> Jan lt l k < k
 | 1, _, _ => by rw [Jnw h]; omega
 | k + 2, _, hk => by
   have ih := Jk0 h (l := l) (k := k + 1) (by omega) (by omega)
   obtain ⟨x, ex⟩ := Jag (xs := l) (k := k + 1) (by omega)
   obtain ⟨y, ey⟩ := Jag (xs := l) (k := Jan lt l (k + 1)) (by omega)
   rw [Jk1 ex ey]
   split <;> omega
theorem Jsh (h : STO lt) {l : List α} : ∀ {k : Nat}, 1 <= k -> k <= l.length -> ∀ y, l[Jan lt l k]? = some y -> ∀ (j : Nat) x, j < k -> l[j]? = some x -> lt x y = false
 | 1, _, _, y, hy, j, x, hj, hx => by
   have e : j = 0 := by omega
   subst e
   rw [Jnw h, hx] at hy
   cases hy
   exact h.irrefl _
 | k + 2, _, hk, y, hy, j, x, hj, hx => by
   have h1 := Jk0 h (l := l) (k := k + 1) (by omega) (by omega)
   obtain ⟨a, ea⟩ := Jag (xs := l) (k := k + 1) (by omega)
   obtain ⟨b, eb⟩ := Jag (xs := l) (k := Jan lt l (k + 1)) (by omega)
   have ih := Jsh h (l := l) (k := k + 1) (by omega) (by omega) b eb
   rw [Jk1 ea eb] at hy
   by_cases e : j = k + 1
   . subst e
     rw [ea] at hx; cases hx
     split at hy
     . rw [ea] at hy; cases hy; exact h.irrefl _
     . rename_i hn
       rw [eb] at hy; cases hy
       simpa using hn
   . have h2 := ih j x (by omega) hx
     split at hy
     . rename_i hlt
       rw [ea] at hy
       have hya : a = y := by simpa using hy
       subst hya
       cases e2 : lt x a with
       | false => rfl
       | true => rw [h.trans e2 hlt] at h2; cases h2
     . rw [eb] at hy; cases hy
       exact h2
def selN (lt : α -> α -> Bool) : Nat -> List α -> List α
 | 0, _ => []
 | n + 1, l => match l[Jan lt l l.length]? with
   | some x => x :: selN lt n (l.take (Jan lt l l.length) ++ l.drop (Jan lt l l.length + 1))
   | none => []
def selS (lt : α -> α -> Bool) (l : List α) : List α := selN lt l.length l
theorem Jlu {l : List α} {i : Nat} {x : α} (e : l[i]? = some x) : (x :: (l.take i ++ l.drop (i + 1))).Perm l := by
 obtain ⟨hi, hx⟩ := gsI.1 e
 have : l = l.take i ++ x :: l.drop (i + 1) := by rw [<- hx, <- List.drop_eq_getElem_cons hi, List.take_append_drop]
 conv => rhs; rw [this]
 exact List.perm_middle.symm
theorem Jov (h : STO lt) : ∀ {n : Nat} {l : List α}, l.length = n -> (selN lt n l).Perm l /\ AscB lt (selN lt n l)
 | 0, l, e => by
   have : l = [] := List.length_eq_zero_iff.1 e
   subst this
   exact ⟨List.Perm.refl _, List.Pairwise.nil⟩
 | n + 1, l, e => by
   have h1 := Jk0 h (l := l) (k := l.length) (by omega) (Nat.le_refl _)
   obtain ⟨x, ex⟩ := Jag h1
   have hst := Jlu ex
   have hl2 : (l.take (Jan lt l l.length) ++ l.drop (Jan lt l l.length + 1)).length = n := by
     have := hst.length_eq
     simp only [List.length_cons] at this
     omega
   obtain ⟨p, a⟩ := Jov h hl2
   simp only [selN, ex]
   refine ⟨(List.Perm.cons x p).trans hst, List.pairwise_cons.2 ⟨fun z hz => ?_, a⟩⟩
   have hz2 : z ∈ l := hst.mem_iff.1 (List.mem_cons_of_mem _ (p.mem_iff.1 hz))
   obtain ⟨j, hj⟩ := List.getElem?_of_mem hz2
   exact Jsh h (by omega) (Nat.le_refl _) x ex j z (gsI.1 hj).1 hj
theorem Ju0 (h : STO lt) {l : List α} : selS lt l = Jaw lt l := Jkv h (Jov h rfl).2 (Jov h rfl).1
theorem Jsi {β : Type} {lt' : β -> β -> Bool} {f : α -> β} {l : List α} (hf : ∀ x ∈ l, ∀ y ∈ l, lt' (f y) (f x) = lt y x) : ∀ {k : Nat}, Jan lt' (l.map f) k = Jan lt l k
 | 0 => rfl
 | k + 1 => by
   simp only [Jan, Jsi hf (k := k), List.getElem?_map]
   cases e1 : l[k]? with
   | none => rfl
   | some x =>
     cases e2 : l[Jan lt l k]? with
     | none => rfl
     | some y => simp only [Option.map_some, hf y (List.mem_of_getElem? e2) x (List.mem_of_getElem? e1)]
theorem Juz {β : Type} {lt' : β -> β -> Bool} {f : α -> β} : ∀ {n : Nat} {l : List α}, (∀ x ∈ l, ∀ y ∈ l, lt' (f y) (f x) = lt y x) -> (selN lt n l).map f = selN lt' n (l.map f)
 | 0, _, _ => rfl
 | n + 1, l, hf => by
   simp only [selN, Jsi hf, List.length_map, List.getElem?_map]
   cases e : l[Jan lt l l.length]? with
   | none => rfl
   | some x =>
     simp only [Option.map_some, List.map_cons, List.cons.injEq, true_and]
     rw [Juz (fun a ha b hb => hf a ?_ b ?_)]
     . simp [List.map_take, List.map_drop]
     . exact (Jlu e).mem_iff.1 (List.mem_cons_of_mem _ ha)
     . exact (Jlu e).mem_iff.1 (List.mem_cons_of_mem _ hb)
end
theorem Jja : STO Op.bytesLess := ⟨Jez, fun h k => Jgy h k, fun h k => Jf6 h k⟩
theorem Jo1 : STO Ja6 := ⟨Jt0, fun h k => Jt1 h k, fun h k => J4e h k⟩
structure End where
 part : Txt
 port : Txt
 deriving DecidableEq
@[simp] def End.enc (a : End) : List PV := [.str a.part, .str a.port]
@[simp] def End.row (a : End) : List AV := [.p (.str a.part), .p (.str a.port)]
@[simp] def End.av (a : End) : AV := .agg [.p (.str a.part), .p (.str a.port)]
def Jce (a b : End) : Int := orI [Lib.compareBytes a.part b.part, Lib.compareBytes a.port b.port]
def Jcw (a b : End) : Bool := if a.part = b.part then Op.bytesLess a.port b.port else Op.bytesLess a.part b.part
theorem Jj7 {a b : End} : Jce a b < 0 ↔ Jcw a b = true := by
 unfold Jce Jcw
 simp only [orI]
 by_cases e : a.part = b.part
 . rw [if_pos (Jdo.2 e), if_pos e, <- Jj5]
   by_cases h0 : Lib.compareBytes a.port b.port = 0
   . rw [if_pos h0]; omega
   . rw [if_neg h0]
 . rw [if_neg (fun h => e (Jdo.1 h)), if_neg e, Jj5]
theorem Jj6 {a b : End} : Jce a b = 0 ↔ a = b := by
 unfold Jce
 simp only [orI]
 by_cases e : a.part = b.part
 . rw [if_pos (Jdo.2 e)]
   by_cases h0 : Lib.compareBytes a.port b.port = 0
   . rw [if_pos h0]
     have := Jdo.1 h0
     obtain ⟨x, y⟩ := a
     obtain ⟨u, v⟩ := b
     simp_all
   . rw [if_neg h0]
     constructor
     . intro h; exact absurd h h0
     . rintro rfl; exact absurd (Jdo.2 rfl) h0
 . rw [if_neg (fun h => e (Jdo.1 h))]
   constructor
   . intro h; exact absurd (Jdo.1 h) e
   . rintro rfl; exact absurd rfl e
theorem Jec : STO Jcw := by
 refine ⟨fun a => by simp [Jcw, Jez], fun {a b c} h k => ?_, fun {a b} h k => ?_⟩
 . unfold Jcw at h k ⊢
   by_cases e1 : a.part = b.part <;> by_cases e2 : b.part = c.part
   . rw [if_pos e1] at h; rw [if_pos e2] at k; rw [if_pos (e1.trans e2)]; exact Jgy h k
   . rw [if_neg e2] at k; rw [if_neg (e1 ▸ e2), e1]; exact k
   . rw [if_neg e1] at h; rw [if_neg (e2 ▸ e1), <- e2]; exact h
   . rw [if_neg e1] at h; rw [if_neg e2] at k
     have := Jgy h k
     rw [if_neg (fun e => by rw [e, Jez] at this; cases this)]
     exact this
 . unfold Jcw at h k
   by_cases e : a.part = b.part
   . rw [if_pos e] at h; rw [if_pos e.symm] at k
     obtain ⟨x, y⟩ := a
     obtain ⟨u, v⟩ := b
     simp only at e h k
     rw [e, Jf6 h k]
   . rw [if_neg e] at h; rw [if_neg (Ne.symm e)] at k
     exact absurd (Jf6 h k) e
theorem Jf9 {a b : End} : 0 < Jce a b ↔ Jcw b a = true := by
 constructor
 . intro h
   cases e : Jcw b a with
   | true => rfl
   | false =>
     cases e2 : Jcw a b with
     | true => have := Jj7.2 e2; omega
     | false =>
       have := Jec.total e e2
       have := Jj6.2 this.symm
       omega
 . intro h
   have h1 : ¬ Jce a b < 0 := fun h2 => by have := Jec.asymm h; rw [Jj7.1 h2] at this; cases this
   have h2 : Jce a b ≠ 0 := fun h2 => by have := Jj6.1 h2; subst this; rw [Jec.irrefl] at h; cases h
   omega
abbrev EndP := End × End
@[simp] def EndP.enc (x : EndP) : List PV := [.str x.1.part, .str x.1.port, .str x.2.part, .str x.2.port]
@[simp] def EndP.row (x : EndP) : List AV := [.p (.str x.1.part), .p (.str x.1.port), .p (.str x.2.part), .p (.str x.2.port)]
@[simp] def EndP.av (x : EndP) : AV := .agg [.p (.str x.1.part), .p (.str x.1.port), .p (.str x.2.part), .p (.str x.2.port)]
def Jd5 (a b : EndP) : Int := orI [Jce a.1 b.1, Jce a.2 b.2]
def Jbg (a b : EndP) : Bool := if a.1 = b.1 then Jcw a.2 b.2 else Jcw a.1 b.1
theorem Jzb {a b : EndP} : Jd5 a b < 0 ↔ Jbg a b = true := by
 unfold Jd5 Jbg
 simp only [orI]
 by_cases e : a.1 = b.1
 . rw [if_pos (Jj6.2 e), if_pos e, <- Jj7]
   by_cases h0 : Jce a.2 b.2 = 0
   . rw [if_pos h0]; omega
   . rw [if_neg h0]
 . rw [if_neg (fun h => e (Jj6.1 h)), if_neg e, Jj7]
theorem Jgk : STO Jbg := by
 refine ⟨fun a => by simp [Jbg, Jec.irrefl], fun {a b c} h k => ?_, fun {a b} h k => ?_⟩
 . unfold Jbg at h k ⊢
   by_cases e1 : a.1 = b.1 <;> by_cases e2 : b.1 = c.1
   . rw [if_pos e1] at h; rw [if_pos e2] at k; rw [if_pos (e1.trans e2)]; exact Jec.trans h k
   . rw [if_neg e2] at k; rw [if_neg (e1 ▸ e2), e1]; exact k
   . rw [if_neg e1] at h; rw [if_neg (e2 ▸ e1), <- e2]; exact h
   . rw [if_neg e1] at h; rw [if_neg e2] at k
     have := Jec.trans h k
     rw [if_neg (fun e => by rw [e, Jec.irrefl] at this; cases this)]
     exact this
 . unfold Jbg at h k
   by_cases e : a.1 = b.1
   . rw [if_pos e] at h; rw [if_pos e.symm] at k
     exact Prod.ext e (Jec.total h k)
   . rw [if_neg e] at h; rw [if_neg (Ne.symm e)] at k
     exact absurd (Jec.total h k) e
def ordE (a b : End) : EndP := if 0 < Jce a b then (b, a) else (a, b)
theorem Jlc {a b : End} : ordE a b = ordE b a := by
 unfold ordE
 by_cases h : 0 < Jce a b
 . have h2 : ¬ 0 < Jce b a := fun h2 => by
     have := Jec.asymm (Jf9.1 h); rw [Jf9.1 h2] at this; cases this
   rw [if_pos h, if_neg h2]
 . by_cases h2 : 0 < Jce b a
   . rw [if_neg h, if_pos h2]
   . rw [if_neg h, if_neg h2]
     have e : a = b := by
       refine Jec.total ?_ ?_
       . cases e : Jcw a b with
         | false => rfl
         | true => exact absurd (Jf9.2 e) h2
       . cases e : Jcw b a with
         | false => rfl
         | true => exact absurd (Jf9.2 e) h
     rw [e]
theorem Jtf {a b c d : End} : ordE a b = ordE c d ↔ (a = c /\ b = d) \/ (a = d /\ b = c) := by
 constructor
 . intro h
   unfold ordE at h
   split at h <;> split at h <;> simp only [Prod.mk.injEq] at h
   . exact .inl ⟨h.2, h.1⟩
   . exact .inr ⟨h.2, h.1⟩
   . exact .inr ⟨h.1, h.2⟩
   . exact .inl h
 . rintro (⟨rfl, rfl⟩ | ⟨rfl, rfl⟩)
   . rfl
   . exact Jlc
structure Drf where
 parts : List Part
 pipes : List EndP
 deriving DecidableEq
def Jay (ps : List Part) : List Txt := Jaw Op.bytesLess (ps.map (·.name))
def Jdq (ps : List Part) (s : Txt) : Part := (ps.find? fun p => decide (p.name = s)).getD ⟨0, [], 0⟩
def atNm (nms : List Txt) (s : Txt) : Int := match nms.findIdx? fun n => decide (n = s) with | some i => i | none => 0
def Jdd (nms : List Txt) (x : EndP) : Pipe := ⟨⟨atNm nms x.1.part, x.1.port⟩, ⟨atNm nms x.2.part, x.2.port⟩⟩
def Jei (d : Drf) : Circuit := ⟨(Jay d.parts).map (Jdq d.parts), (Jaw Jbg d.pipes).map (Jdd (Jay d.parts))⟩
def Ja3 (p q : Part) : Bool := Op.bytesLess p.name q.name
def Jf0 (c : Circuit) (x : EndP) : Pipe :=
 let a : Port := ⟨idxI c.parts fun p => decide (p.name = x.1.part), x.1.port⟩
 let b : Port := ⟨idxI c.parts fun p => decide (p.name = x.2.part), x.2.port⟩
 if Jbq b a then ⟨b, a⟩ else ⟨a, b⟩
def Jbe (d : Drf) : Circuit := ⟨selS Ja3 d.parts, selS Ja6 (d.pipes.map (Jf0 ⟨selS Ja3 d.parts, []⟩))⟩
structure DrfOk (d : Drf) : Prop where
 nd : (d.parts.map (·.name)).Nodup
 ends : ∀ x ∈ d.pipes, x.1.part ∈ d.parts.map (·.name) /\ x.2.part ∈ d.parts.map (·.name)
theorem Jnk {ps : List Part} (h : (ps.map (·.name)).Nodup) {p : Part} (hp : p ∈ ps) : Jdq ps p.name = p := by
 unfold Jdq
 have : ps.find? (fun q => decide (q.name = p.name)) = some p := by
   induction ps with
   | nil => cases hp
   | cons q ps ih =>
     rw [List.map_cons, List.nodup_cons] at h
     rcases List.mem_cons.1 hp with rfl | hp
     . simp
     . have hne : q.name ≠ p.name := fun e => h.1 (e ▸ List.mem_map_of_mem hp)
       rw [List.find?_cons_of_neg (by simpa using hne)]
       exact ih h.2 hp
 rw [this]; rfl
theorem Jox {ps : List Part} : (selS Ja3 ps).map (·.name) = Jay ps := by
 unfold selS Jay
 rw [Juz (lt := Ja3) (lt' := Op.bytesLess) (f := fun p : Part => p.name) (fun x _ y _ => rfl), <- Ju0 Jja]
 unfold selS
 rw [List.length_map]
theorem Jst {α : Type} {lt : α -> α -> Bool} : ∀ {n : Nat} {l : List α} {x : α}, x ∈ selN lt n l -> x ∈ l
 | 0, _, _, h => by cases h
 | n + 1, l, x, h => by
   simp only [selN] at h
   split at h
   . rename_i y e
     rcases List.mem_cons.1 h with rfl | h
     . exact List.mem_of_getElem? e
     . exact (Jlu e).mem_iff.1 (List.mem_cons_of_mem _ (Jst h))
   . cases h
theorem Jow {ps : List Part} (h : (ps.map (·.name)).Nodup) : selS Ja3 ps = (Jay ps).map (Jdq ps) := by
 rw [<- Jox, List.map_map]
 conv => lhs; rw [<- List.map_id (selS Ja3 ps)]
 refine List.map_congr_left fun p hp => ?_
 exact (Jnk h (Jst hp)).symm
theorem Jk5 {ps : List Part} {s : Txt} : s ∈ Jay ps ↔ s ∈ ps.map (·.name) := Jr7
theorem J2d {ps : List Part} (h : (ps.map (·.name)).Nodup) : (Jay ps).Nodup := Jfu.nodup_iff.2 h
theorem Jrz {ps : List Part} (h : (ps.map (·.name)).Nodup) {s : Txt} (hs : s ∈ ps.map (·.name)) : idxI (selS Ja3 ps) (fun p => decide (p.name = s)) = atNm (Jay ps) s := by
 rw [<- Jox]
 unfold idxI atNm
 rw [List.findIdx?_map]
 have e : ((fun n => decide (n = s)) ∘ fun p : Part => p.name) = fun p : Part => decide (p.name = s) := rfl
 rw [e]
 have hm : s ∈ (selS Ja3 ps).map (·.name) := by rw [Jox]; exact Jk5.2 hs
 cases e2 : (selS Ja3 ps).findIdx? fun p => decide (p.name = s) with
 | some i => rfl
 | none =>
   rw [List.findIdx?_eq_none_iff] at e2
   obtain ⟨p, hp, rfl⟩ := List.mem_map.1 hm
   have := e2 p hp
   simp at this
theorem Jia {nms : List Txt} (hn : nms.Nodup) {i : Nat} {s : Txt} (e : nms[i]? = some s) : atNm nms s = i := by
 have hi := (gsI.1 e).1
 have : nms.findIdx? (fun n => decide (n = s)) = some i := by
   rw [List.findIdx?_eq_some_iff_getElem]
   refine ⟨hi, by rw [(gsI.1 e).2]; simp, fun j hj => ?_⟩
   have h1 := List.pairwise_iff_getElem.1 hn j i (by omega) hi hj
   rw [(gsI.1 e).2] at h1
   simpa using h1
 unfold atNm; rw [this]
theorem Jp1 {ps : List Part} (h : (ps.map (·.name)).Nodup) {s t : Txt} (hs : s ∈ ps.map (·.name)) (ht : t ∈ ps.map (·.name)) : (atNm (Jay ps) s < atNm (Jay ps) t ↔ Op.bytesLess s t = true) /\ (atNm (Jay ps) s = atNm (Jay ps) t ↔ s = t) := by
 obtain ⟨i, ei⟩ := List.getElem?_of_mem (Jk5.2 hs)
 obtain ⟨j, ej⟩ := List.getElem?_of_mem (Jk5.2 ht)
 have hn := J2d h
 rw [Jia hn ei, Jia hn ej]
 obtain ⟨hi, ei'⟩ := gsI.1 ei
 obtain ⟨hj, ej'⟩ := gsI.1 ej
 have hasc : AscB Op.bytesLess (Jay ps) := Jku Jja
 have hp := List.pairwise_iff_getElem.1 hasc
 have hinj : i = j ↔ s = t := by
   constructor
   . rintro rfl; rw [ei] at ej; cases ej; rfl
   . rintro rfl
     have h1 := Jia hn ei
     rw [Jia hn ej] at h1
     omega
 constructor
 . constructor
   . intro hlt
     have h1 := hp i j hi hj (by omega)
     rw [ei', ej'] at h1
     cases e : Op.bytesLess s t with
     | true => rfl
     | false => have := hinj.2 (Jf6 e h1); omega
   . intro hb
     rcases Nat.lt_trichotomy i j with h1 | h1 | h1
     . omega
     . have := hinj.1 h1; subst this; rw [Jez] at hb; cases hb
     . have h2 := hp j i hj hi h1
       rw [ei', ej', hb] at h2; cases h2
 . rw [<- hinj]; omega
theorem Jli {ps : List Part} (h : (ps.map (·.name)).Nodup) {a b : End} (ha : a.part ∈ ps.map (·.name)) (hb : b.part ∈ ps.map (·.name)) : Jbq ⟨atNm (Jay ps) a.part, a.port⟩ ⟨atNm (Jay ps) b.part, b.port⟩ = Jcw a b := by
 obtain ⟨h1, h2⟩ := Jp1 h ha hb
 unfold Jbq Jcw
 simp only [h2]
 split
 . rfl
 . rw [Bool.eq_iff_iff, decide_eq_true_eq]; exact h1
theorem J4f {ps : List Part} (h : (ps.map (·.name)).Nodup) {x y : EndP} (hx : x.1.part ∈ ps.map (·.name) /\ x.2.part ∈ ps.map (·.name)) (hy : y.1.part ∈ ps.map (·.name) /\ y.2.part ∈ ps.map (·.name)) : Ja6 (Jdd (Jay ps) x) (Jdd (Jay ps) y) = Jbg x y := by
 have e : (Jdd (Jay ps) x).fr = (Jdd (Jay ps) y).fr ↔ x.1 = y.1 := by
   obtain ⟨⟨a, b⟩, _⟩ := x
   obtain ⟨⟨c, d⟩, _⟩ := y
   simp only [Jdd, Port.mk.injEq, End.mk.injEq, (Jp1 h hx.1 hy.1).2]
 unfold Ja6 Jbg
 simp only [e]
 split
 . exact Jli h hx.2 hy.2
 . exact Jli h hx.1 hy.1
theorem J54 {ps : List Part} (h : (ps.map (·.name)).Nodup) {x : EndP} (hx : x.1.part ∈ ps.map (·.name) /\ x.2.part ∈ ps.map (·.name)) : Jf0 ⟨selS Ja3 ps, []⟩ x = Jdd (Jay ps) (ordE x.1 x.2) := by
 unfold Jf0
 simp only [Jrz h hx.1, Jrz h hx.2, Jli h hx.2 hx.1]
 unfold ordE
 by_cases e : Jcw x.2 x.1 = true
 . rw [if_pos e, if_pos (Jf9.2 e)]; rfl
 . rw [if_neg e, if_neg (fun h => e (Jf9.1 h))]; rfl
theorem Jte {ps : List Part} {x : EndP} (hx : x.1.part ∈ ps.map (·.name) /\ x.2.part ∈ ps.map (·.name)) : (ordE x.1 x.2).1.part ∈ ps.map (·.name) /\ (ordE x.1 x.2).2.part ∈ ps.map (·.name) := by
 unfold ordE
 split
 . exact ⟨hx.2, hx.1⟩
 . exact hx
theorem Jka {d : Drf} (h : DrfOk d) : Jei ⟨d.parts, d.pipes.map fun x => ordE x.1 x.2⟩ = Jbe d := by
 unfold Jei Jbe
 rw [Jow h.nd, Ju0 Jo1]
 congr 1
 rw [Jr6 (lt' := Ja6) (f := Jdd (Jay d.parts)), List.map_map]
 . congr 1
   refine List.map_congr_left fun x hx => ?_
   rw [<- Jow h.nd, J54 h.nd (h.ends x hx)]; rfl
 . intro x hx y hy
   obtain ⟨x', hx', rfl⟩ := List.mem_map.1 hx
   obtain ⟨y', hy', rfl⟩ := List.mem_map.1 hy
   exact J4f h.nd (Jte (h.ends y' hy')) (Jte (h.ends x' hx'))
end Go.Am
namespace Go.Am
open Go Go.Proofs Go.Pn
def fldG : Txt -> Txt -> List Txt
 | cur, [] => if cur = [] then [] else [cur]
 | cur, b :: t => if b = 32 then (if cur = [] then fldG [] t else cur :: fldG [] t) else fldG (cur ++ [b]) t
theorem Jrf {s : Txt} : ∀ {k : Nat}, k <= s.length -> (fldK s k).1 ++ fldG (fldK s k).2 (s.drop k) = fldG [] s
 | 0, _ => by simp [fldK]
 | k + 1, h => by
   have ih := Jrf (s := s) (k := k) (by omega)
   rw [<- ih]
   have hk : k < s.length := by omega
   obtain ⟨b, e⟩ := Jag hk
   have hd : s.drop k = b :: s.drop (k + 1) := by rw [List.drop_eq_getElem_cons hk]; rw [List.getElem?_eq_getElem hk] at e; cases e; rfl
   rw [hd]
   simp only [fldK, e, fldG]
   by_cases hb : b = 32
   . rw [if_neg (by simpa using hb), if_pos hb]
     by_cases hc : (fldK s k).2 = []
     . simp [hc]
     . simp [hc]
   . rw [if_pos hb, if_neg hb]
theorem Jkk {s : Txt} : fldR s = fldG [] s := by
 have h := Jrf (s := s) (k := s.length) (Nat.le_refl _)
 rw [List.drop_length] at h
 rw [<- h]
 unfold fldR
 have hn : s[s.length]? = none := by simp
 simp only [fldK, hn, fldG]
 split <;> simp
theorem Jre : ∀ {u : Txt} {cur t : Txt}, (∀ b ∈ u, b ≠ 32) -> fldG cur (u ++ t) = fldG (cur ++ u) t
 | [], cur, t, _ => by simp
 | b :: u, cur, t, h => by
   have hb := h b (by simp)
   rw [List.cons_append, fldG, if_neg hb, Jre (fun x hx => h x (by simp [hx]))]
   simp
theorem Jzl (n b0 b1 b2 b3 : Nat) : ((Lib.decodeN n b0 b1 b2 b3).1 = 32 -> b0 = 32 /\ (Lib.decodeN n b0 b1 b2 b3).2 = 1) /\
   ((Lib.decodeN n b0 b1 b2 b3).1 ≠ 32 -> b0 ≠ 32 /\ (1 < (Lib.decodeN n b0 b1 b2 b3).2 -> b1 ≠ 32) /\ (2 < (Lib.decodeN n b0 b1 b2 b3).2 -> b2 ≠ 32) /\ (3 < (Lib.decodeN n b0 b1 b2 b3).2 -> b3 ≠ 32) /\ (Lib.decodeN n b0 b1 b2 b3).2 <= 4) := by
 unfold Lib.decodeN
 repeat' split
 all_goals (refine ⟨fun h => ⟨?_, ?_⟩, fun h => ⟨?_, fun h2 => ?_, fun h2 => ?_, fun h2 => ?_, ?_⟩⟩ <;> dsimp only at * <;> omega)
theorem Jzm {s : Txt} {pos : Nat} (h : pos < s.length) : ((Utf8.decode ⟨⟨s⟩⟩ pos).1 = 32 -> s[pos]? = some 32 /\ (Utf8.decode ⟨⟨s⟩⟩ pos).2 = 1) /\ ((Utf8.decode ⟨⟨s⟩⟩ pos).1 ≠ 32 -> ∀ b ∈ (s.drop pos).take (Utf8.decode ⟨⟨s⟩⟩ pos).2, b ≠ 32) := by
 have e := Lib.decode_N ⟨⟨s⟩⟩ pos
 have hf := Jzl (s.length - pos) (s.getD pos 0).toNat (s.getD (pos + 1) 0).toNat (s.getD (pos + 2) 0).toNat (s.getD (pos + 3) 0).toNat
 have e2 : (⟨⟨s⟩⟩ : ByteArray).data.toList = s := rfl
 rw [e2] at e
 rw [<- e] at hf
 obtain ⟨f1, f2⟩ := hf
 have hget : ∀ j b, s[pos + j]? = some b -> s.getD (pos + j) 0 = b := fun j b hj => by rw [List.getD_eq_getElem?_getD, hj]; rfl
 refine ⟨fun h1 => ?_, fun h1 b hb => ?_⟩
 . obtain ⟨g1, g2⟩ := f1 h1
   obtain ⟨b, eb⟩ := Jag h
   have := hget 0 b (by simpa using eb)
   simp only [Nat.add_zero] at this
   rw [this] at g1
   have hb : b = 32 := UInt8.toNat_inj.1 (by simpa using g1)
   exact ⟨by rw [eb, hb], g2⟩
 . obtain ⟨g0, g1, g2, g3, g4⟩ := f2 h1
   obtain ⟨j, hj⟩ := List.getElem?_of_mem hb
   have hjw : j < (Utf8.decode ⟨⟨s⟩⟩ pos).2 := by
     have := (gsI.1 hj).1
     rw [List.length_take] at this; omega
   rw [List.getElem?_take_of_lt hjw, List.getElem?_drop] at hj
   rintro rfl
   have hv := hget j 32 hj
   rcases (by omega : j = 0 \/ j = 1 \/ j = 2 \/ j = 3) with rfl | rfl | rfl | rfl
   . rw [Nat.add_zero] at hv; rw [hv] at g0; exact g0 rfl
   . rw [hv] at g1; exact g1 (by omega) rfl
   . rw [hv] at g2; exact g2 (by omega) rfl
   . rw [hv] at g3; exact g3 (by omega) rfl
theorem J5o (s : Txt) : ∀ (f pos : Nat) (st : Option Nat) (acc : List (Nat × Nat)), s.length <= pos + f -> pos <= s.length -> (∀ a, st = some a -> a < pos) ->
   acc.map (fun p => Lib.pieceU s p.1 p.2) ++ fldG (Lib.openPiece s st pos) (s.drop pos) = (Lib.closeSpans ⟨⟨s⟩⟩ (Lib.spansFromP (fun x => x == 32) ⟨⟨s⟩⟩ f pos st acc)).map (fun p => Lib.pieceU s p.1 p.2) := by
 have hsz : (⟨⟨s⟩⟩ : ByteArray).size = s.length := rfl
 have hend : ∀ (f : Nat) (st : Option Nat) (acc : List (Nat × Nat)), (∀ a, st = some a -> a < s.length) ->
     acc.map (fun p => Lib.pieceU s p.1 p.2) ++ fldG (Lib.openPiece s st s.length) (s.drop s.length) = (Lib.closeSpans ⟨⟨s⟩⟩ (Lib.spansFromP (fun x => x == 32) ⟨⟨s⟩⟩ f s.length st acc)).map (fun p => Lib.pieceU s p.1 p.2) := fun f st acc hst => by
   rw [Lib.spansFromP_end _ _ _ _ _ _ (by rw [hsz]; omega), List.drop_length]
   cases st with
   | none => simp [Lib.closeSpans, Lib.openPiece, fldG]
   | some a =>
     have := Lib.pieceU_ne s a s.length (hst a rfl) (Nat.le_refl _)
     simp [Lib.closeSpans, Lib.openPiece, fldG, this, hsz]
 intro f
 induction f with
 | zero =>
   intro pos st acc h hp hst
   obtain rfl : pos = s.length := by omega
   exact hend 0 st acc hst
 | succ f ih =>
   intro pos st acc h hp hst
   by_cases hlt : pos < s.length
   . have hw := Lib.width_pos ⟨⟨s⟩⟩ pos
     have hwn : pos + (Utf8.decode ⟨⟨s⟩⟩ pos).2 <= s.length := by
       have := Lib.decodeN_le_n' ((⟨⟨s⟩⟩ : ByteArray).size - pos) ((⟨⟨s⟩⟩ : ByteArray).get! pos).toNat ((⟨⟨s⟩⟩ : ByteArray).get! (pos + 1)).toNat ((⟨⟨s⟩⟩ : ByteArray).get! (pos + 2)).toNat ((⟨⟨s⟩⟩ : ByteArray).get! (pos + 3)).toNat (by rw [hsz]; omega)
       rw [<- Lib.decode_at, hsz] at this
       omega
     obtain ⟨c1, c2⟩ := Jzm hlt
     have hsp : s.drop pos = (s.drop pos).take (Utf8.decode ⟨⟨s⟩⟩ pos).2 ++ s.drop (pos + (Utf8.decode ⟨⟨s⟩⟩ pos).2) := by rw [<- List.drop_drop, List.take_append_drop]
     simp only [Lib.spansFromP, hsz, if_pos hlt]
     by_cases hb : (Utf8.decode ⟨⟨s⟩⟩ pos).1 = 32
     . obtain ⟨d1, d2⟩ := c1 hb
       have hd : s.drop pos = 32 :: s.drop (pos + 1) := by rw [List.drop_eq_getElem_cons hlt]; rw [List.getElem?_eq_getElem hlt, Option.some.injEq] at d1; rw [d1]
       simp only [hb, beq_self_eq_true, if_true, d2, hd, fldG]
       cases st with
       | none =>
         have := ih (pos + 1) none acc (by omega) (by omega) (fun a h => by cases h)
         simpa [Lib.openPiece] using this
       | some a =>
         have hpn := Lib.pieceU_ne s a pos (hst a rfl) (by omega)
         have := ih (pos + 1) none (acc ++ [(a, pos)]) (by omega) (by omega) (fun a h => by cases h)
         simpa [Lib.openPiece, hpn] using this
     . have hb2 : ((Utf8.decode ⟨⟨s⟩⟩ pos).1 == 32) = false := by simpa using hb
       rw [hsp, Jre (c2 hb)]
       simp only [hb2, Bool.false_eq_true, if_false]
       cases st with
       | none =>
         have := ih (pos + (Utf8.decode ⟨⟨s⟩⟩ pos).2) (some pos) acc (by omega) hwn (fun a h => by cases h; omega)
         have e : Lib.openPiece s none pos ++ (s.drop pos).take (Utf8.decode ⟨⟨s⟩⟩ pos).2 = Lib.openPiece s (some pos) (pos + (Utf8.decode ⟨⟨s⟩⟩ pos).2) := by
           simp only [Lib.openPiece]
           unfold Lib.pieceU
           rw [List.nil_append, Nat.add_sub_cancel_left]
         rw [e]; exact this
       | some a =>
         have := ih (pos + (Utf8.decode ⟨⟨s⟩⟩ pos).2) (some a) acc (by omega) hwn (fun b h => by cases h; have := hst a rfl; omega)
         have e : Lib.openPiece s (some a) pos ++ (s.drop pos).take (Utf8.decode ⟨⟨s⟩⟩ pos).2 = Lib.openPiece s (some a) (pos + (Utf8.decode ⟨⟨s⟩⟩ pos).2) := by
           simp only [Lib.openPiece]
           rw [Lib.pieceU_grow _ _ _ _ (Nat.le_of_lt (hst a rfl))]
         rw [e]; exact this
   . obtain rfl : pos = s.length := by omega
     exact hend (f + 1) st acc hst
theorem J02 (s : Txt) : (Lib.goFieldsP (fun x => x == 32) ⟨⟨s⟩⟩).map (fun x => x.data.toList) = fldR s := by
 have h := J5o s s.length 0 none [] (by omega) (by omega) (fun a h => by cases h)
 rw [Jkk]
 have e : fldG [] s = fldG (Lib.openPiece s none 0) (s.drop 0) := rfl
 rw [e]
 rw [List.map_nil, List.nil_append] at h
 rw [h]
 unfold Lib.goFieldsP Lib.spansOfP
 have hsz : (⟨⟨s⟩⟩ : ByteArray).size = s.length := rfl
 rw [List.map_map, hsz]
 refine List.map_congr_left fun p _ => ?_
 simp only [Function.comp, Lib.pieceU, Lib.extract_data]
def linS : Txt -> Txt -> List Txt × Txt
 | [], cur => ([], cur)
 | b :: t, cur => if b = 10 then (cur :: (linS t []).1, (linS t []).2) else linS t (cur ++ [b])
def Jaq (s : Txt) : List Txt := (linS s []).1
theorem Jhe : ∀ {s cur : Txt}, (linS s cur).1.length <= s.length
 | [], cur => by simp [linS]
 | b :: t, cur => by
   unfold linS
   split
   . simp only [List.length_cons]
     have := @Jhe t []
     omega
   . have := @Jhe t (cur ++ [b])
     simp only [List.length_cons]
     omega
theorem Jiq : ∀ {s cur : Txt} {l : Txt}, l ∈ (linS s cur).1 -> l.length <= cur.length + s.length
 | [], cur, l, h => by simp [linS] at h
 | b :: t, cur, l, h => by
   unfold linS at h
   split at h
   . rcases List.mem_cons.1 h with rfl | h
     . simp
     . have := @Jiq t [] l h
       simp only [List.length_cons, List.length_nil] at this ⊢
       omega
   . have := @Jiq t (cur ++ [b]) l h
     simp only [List.length_cons, List.length_append, List.length_nil] at this ⊢
     omega
theorem Jir : ∀ {s cur : Txt}, s ≠ [] -> ((linS s cur).2 = [] ↔ s.getLast? = some 10)
 | [], _, h => absurd rfl h
 | [b], cur, _ => by
   unfold linS
   by_cases hb : b = 10
   . subst hb; simp [linS]
   . simp [hb, linS]
 | b :: c :: t, cur, _ => by
   unfold linS
   rw [List.getLast?_cons_cons]
   split
   . exact Jir (s := c :: t) (by simp)
   . exact Jir (s := c :: t) (by simp)
end Go.Am
namespace Go.Am
open Go Go.Proofs Go.Pn
def dotI (s : Txt) : Int := idxI s fun b => decide (b = 46)
def befD (s : Txt) : Txt := s.take (dotI s).toNat
def aftD (s : Txt) : Txt := s.drop ((dotI s).toNat + 1)
def Jdy (ps : List Part) (s : Txt) : Option Int := (ps.find? fun p => decide (p.name = s)).map (·.kind)
def Jge (k : Int) (s : Txt) : Bool := decide (0 <= Jeb k.toNat s)
def Jbc (ps : List Part) (s : Txt) : Int := if dotI s < 0 then 4 else match Jdy ps (befD s) with
 | none => 6
 | some k => if Jge k (aftD s) then 0 else 6
def Jas (ps : List Part) (s : Txt) : End := if Jbc ps s = 0 then ⟨befD s, aftD s⟩ else ⟨[], []⟩
def Ja5 (w : Txt) : Int := idxI (List.range 14) fun k => decide (Jcu k = w)
def partOf (a b : Txt) (o : Option Txt) : Part := ⟨Ja5 b, a, match o with | some c => valOf c | none => 0⟩
def Jfc (o : Option Txt) : Int := match o with | some c => Jbr c | none => 0
def Jam (ps : List Part) (a b : Txt) (o : Option Txt) : Int :=
 if Ja5 b < 0 then 6 else if Jfc o ≠ 0 then Jfc o else if Ja2 (partOf a b o) ≠ 0 then Ja2 (partOf a b o) else if a ∈ ps.map (·.name) then 7 else if ps.length = 64 then 5 else 0
def Jar (ps : List Part) (a b : Txt) (o : Option Txt) : List Part := if Jam ps a b o = 0 then ps ++ [partOf a b o] else ps
def Jbw (ps : List Part) : List Txt -> Int
 | [a, b] => Jam ps a b none
 | [a, b, c] => Jam ps a b (some c)
 | _ => 4
def Jau (ps : List Part) : List Txt -> List Part
 | [a, b] => Jar ps a b none
 | [a, b, c] => Jar ps a b (some c)
 | _ => ps
def ordX (x : EndP) : EndP := ordE x.1 x.2
def Jbp (d : Drf) (a b : Txt) : Int :=
 if Jbc d.parts a ≠ 0 then Jbc d.parts a else if Jbc d.parts b ≠ 0 then Jbc d.parts b else
 if Jas d.parts a = Jas d.parts b \/ ordE (Jas d.parts a) (Jas d.parts b) ∈ d.pipes.map ordX then 7 else if d.pipes.length = 256 then 5 else 0
def Jbk (d : Drf) (a b : Txt) : List EndP := if Jbp d a b = 0 then d.pipes ++ [(Jas d.parts a, Jas d.parts b)] else d.pipes
def Jbz (d : Drf) : List Txt -> Int
 | [a, b] => Jbp d a b
 | _ => 4
def Ja0 (d : Drf) : List Txt -> List EndP
 | [a, b] => Jbk d a b
 | _ => d.pipes
def Jby : Txt := [112, 97, 114, 116]
def Jb3 : Txt := [112, 105, 112, 101]
def Jgs (d : Drf) : List Txt -> Int
 | [] => 0
 | h :: t => if h.head? = some 35 then 0 else if h = Jby then Jbw d.parts t else if h = Jb3 then Jbz d t else 4
def Jfg (d : Drf) : List Txt -> Drf
 | [] => d
 | h :: t => if h.head? = some 35 then d else if h = Jby then ⟨Jau d.parts t, d.pipes⟩ else if h = Jb3 then ⟨d.parts, Ja0 d t⟩ else d
def linE (d : Drf) (s : Txt) : Int := Jgs d (fldR s)
def Jbo (d : Drf) (s : Txt) : Drf := Jfg d (fldR s)
def runD (d : Drf) : List Txt -> Drf
 | [] => d
 | l :: ls => if linE d l = 0 then runD (Jbo d l) ls else Jbo d l
def Jd3 (d : Drf) : List Txt -> Nat
 | [] => 0
 | l :: ls => if linE d l = 0 then Jd3 (Jbo d l) ls + 1 else 0
def runE (d : Drf) : List Txt -> Int
 | [] => 0
 | l :: ls => if linE d l = 0 then runE (Jbo d l) ls else linE d l
def noD : Drf := ⟨[], []⟩
def noC : Circuit := ⟨[], []⟩
def prsE (s : Txt) : Int := if 16384 < s.length then 17 else if (linS s []).2 ≠ [] then 18 else
 if runE noD (Jaq s) ≠ 0 then runE noD (Jaq s) else Jaf (Jbe (runD noD (Jaq s)))
def prsI (s : Txt) : Int := if 16384 < s.length then 0 else if (linS s []).2 ≠ [] then 0 else
 if runE noD (Jaq s) ≠ 0 then Jd3 noD (Jaq s) else if Jaf (Jbe (runD noD (Jaq s))) ≠ 0 then (Jaq s).length else 0
def prsC (s : Txt) : Circuit := if prsE s = 0 then Jbe (runD noD (Jaq s)) else noC
theorem J1r {ps : List Part} {s : Txt} {k : Int} (h : Jdy ps s = some k) : s ∈ ps.map (·.name) := by
 unfold Jdy at h
 obtain ⟨p, hp, _⟩ := Option.map_eq_some_iff.1 h
 have h2 := List.find?_some hp
 exact List.mem_map.2 ⟨p, List.mem_of_find?_eq_some hp, by simpa using h2⟩
theorem Jt6 {ps : List Part} {s : Txt} (h : Jbc ps s = 0) : (Jas ps s).part ∈ ps.map (·.name) := by
 unfold Jas
 rw [if_pos h]
 unfold Jbc at h
 split at h
 . cases h
 . split at h
   . cases h
   . rename_i k e
     exact J1r e
theorem Jtp {ps : List Part} {a b : Txt} {o : Option Txt} : ∀ p ∈ ps, p ∈ Jar ps a b o := fun p hp => by
 unfold Jar; split
 . exact List.mem_append_left _ hp
 . exact hp
theorem Jtq {ps : List Part} {w : List Txt} : ∀ p ∈ ps, p ∈ Jau ps w := fun p hp => by
 unfold Jau; split
 . exact Jtp p hp
 . exact Jtp p hp
 . exact hp
theorem Jto {ps : List Part} {a b : Txt} {o : Option Txt} (h : (ps.map (·.name)).Nodup) : ((Jar ps a b o).map (·.name)).Nodup := by
 unfold Jar
 split
 . rename_i e
   rw [List.map_append, List.nodup_append]
   refine ⟨h, by simp, fun x hx y hy => ?_⟩
   simp [partOf] at hy
   subst hy
   intro e2
   subst e2
   unfold Jam at e
   split at e
   . cases e
   . split at e
     . contradiction
     . split at e
       . contradiction
       . first | (rw [if_pos hx] at e; cases e) | cases e
 . exact h
theorem J35 {ps : List Part} {w : List Txt} (h : (ps.map (·.name)).Nodup) : ((Jau ps w).map (·.name)).Nodup := by
 unfold Jau; split
 . exact Jto h
 . exact Jto h
 . exact h
theorem J4h {d : Drf} (h : DrfOk d) {w : List Txt} : ∀ x ∈ Ja0 d w, x.1.part ∈ d.parts.map (·.name) /\ x.2.part ∈ d.parts.map (·.name) := fun x hx => by
 unfold Ja0 at hx
 split at hx
 . unfold Jbk at hx
   split at hx
   . rename_i a b _ e
     rcases List.mem_append.1 hx with hx | hx
     . exact h.ends x hx
     . simp at hx
       subst hx
       unfold Jbp at e
       split at e
       . contradiction
       . rename_i h1
         split at e
         . contradiction
         . rename_i h2
           exact ⟨Jt6 (by simpa using h1), Jt6 (by simpa using h2)⟩
   . exact h.ends x hx
 . exact h.ends x hx
theorem Jl9 {d : Drf} (h : DrfOk d) {w : List Txt} : DrfOk (Jfg d w) := by
 unfold Jfg
 split
 . exact h
 . split
   . exact h
   . split
     . refine ⟨J35 h.nd, fun x hx => ?_⟩
       obtain ⟨h1, h2⟩ := h.ends x hx
       obtain ⟨p, hp, e1⟩ := List.mem_map.1 h1
       obtain ⟨q, hq, e2⟩ := List.mem_map.1 h2
       exact ⟨List.mem_map.2 ⟨p, Jtq p hp, e1⟩, List.mem_map.2 ⟨q, Jtq q hq, e2⟩⟩
     . split
       . exact ⟨h.nd, J4h h⟩
       . exact h
theorem Jop : ∀ {ls : List Txt} {d : Drf}, DrfOk d -> DrfOk (runD d ls)
 | [], _, h => h
 | l :: ls, d, h => by
   unfold runD
   split
   . exact Jop (Jl9 h)
   . exact Jl9 h
theorem Jiu : DrfOk noD := ⟨List.nodup_nil, by simp [noD]⟩
structure DrfSz (d : Drf) : Prop where
 parts : d.parts.length <= 64
 pipes : d.pipes.length <= 256
theorem Jma {d : Drf} (h : DrfSz d) {w : List Txt} : DrfSz (Jfg d w) := by
 have hp : ∀ {a b : Txt} {o : Option Txt}, (Jar d.parts a b o).length <= 64 := fun {a b o} => by
   unfold Jar
   split
   . rename_i e
     have h1 := h.parts
     have : d.parts.length ≠ 64 := fun e2 => by
       unfold Jam at e
       split at e
       . cases e
       . split at e
         . contradiction
         . split at e
           . contradiction
           . split at e
             . cases e
             . first | (rw [if_pos e2] at e; cases e) | cases e
     simp only [List.length_append, List.length_cons, List.length_nil]; omega
   . exact h.parts
 have hq : ∀ {a b : Txt}, (Jbk d a b).length <= 256 := fun {a b} => by
   unfold Jbk
   split
   . rename_i e
     have h1 := h.pipes
     have : d.pipes.length ≠ 256 := fun e2 => by
       unfold Jbp at e
       split at e
       . contradiction
       . split at e
         . contradiction
         . split at e
           . cases e
           . first | (rw [if_pos e2] at e; cases e) | cases e
     simp only [List.length_append, List.length_cons, List.length_nil]; omega
   . exact h.pipes
 unfold Jfg
 split
 . exact h
 . split
   . exact h
   . split
     . refine ⟨?_, h.pipes⟩
       simp only [Jau]
       split
       . exact hp
       . exact hp
       . exact h.parts
     . split
       . refine ⟨h.parts, ?_⟩
         simp only [Ja0]
         split
         . exact hq
         . exact h.pipes
       . exact h
theorem Joq : ∀ {ls : List Txt} {d : Drf}, DrfSz d -> DrfSz (runD d ls)
 | [], _, h => h
 | l :: ls, d, h => by
   unfold runD
   split
   . exact Joq (Jma h)
   . exact Jma h
theorem Jiv : DrfSz noD := ⟨by simp [noD], by simp [noD]⟩
def Jbn (c : Circuit) (p : Port) : End := ⟨nameAt c p.part, p.name⟩
def endX (a : End) : Txt := a.part ++ 46 :: a.port
def Jgi : Txt := [112, 97, 114, 116, 32]
def Jls : Txt := [112, 105, 112, 101, 32]
def partT (p : Part) : Txt := (Jgi ++ p.name ++ [32] ++ Jcu p.kind.toNat) ++ (if p.kind = 12 then 32 :: Lib.decDigits p.delay.toNat else [])
def Jfx (c : Circuit) (x : Pipe) : Txt := Jls ++ endX (Jbn c x.fr) ++ [32] ++ endX (Jbn c x.to)
def J5z (c : Circuit) : List Txt := c.parts.map partT ++ c.pipes.map (Jfx c)
def unl (ls : List Txt) : Txt := ls.flatMap fun l => l ++ [10]
def Jgn (c : Circuit) : Txt := unl (J5z c)
def Jek (c : Circuit) : Int := if Jaf c ≠ 0 then Jaf c else if 16384 < (Jgn c).length then 17 else 0
def fmtC (c : Circuit) : Txt := if Jek c = 0 then Jgn c else []
def cntC (c : Circuit) : List Int := (List.range 14).map fun (k : Nat) => ((c.parts.countP fun p => decide (p.kind = (k : Int)) : Nat) : Int)
def cntR (c : Circuit) : List Int := if Jaf c = 0 then cntC c else []
def drfC (c : Circuit) : Drf := ⟨c.parts, c.pipes.map fun x => (Jbn c x.fr, Jbn c x.to)⟩
def Jcy (f : Txt -> Txt) (a : End) : End := ⟨f a.part, a.port⟩
def Jcg (f : Txt -> Txt) (p : Part) : Part := ⟨p.kind, f p.name, p.delay⟩
def mapD (f : Txt -> Txt) (d : Drf) : Drf := ⟨d.parts.map (Jcg f), d.pipes.map fun x => (Jcy f x.1, Jcy f x.2)⟩
def Jbi (c : Circuit) (old new s : Txt) : Txt := if s = old then new else
 if Jdh c (Jea c old) = 1 /\ (s = old ++ [48] /\ 0 <= swAt c (old ++ [48])) then new ++ [48] else
 if Jdh c (Jea c old) = 1 /\ (s = old ++ [49] /\ 0 <= swAt c (old ++ [49])) then new ++ [49] else s
def renD (c : Circuit) (old new : Txt) : Drf := mapD (Jbi c old new) (drfC c)
def rnmE (c : Circuit) (old new : Txt) : Int := if Jaf c ≠ 0 then Jaf c else if Jea c old < 0 then 6 else
 if ¬ ((renD c old new).parts.map (·.name)).Nodup then 7 else Jaf (Jbe (renD c old new))
def rnmC (c : Circuit) (old new : Txt) : Circuit := if rnmE c old new = 0 then Jbe (renD c old new) else noC
def clash (a b : Circuit) : Bool := b.parts.any fun q => a.parts.any fun p => decide (p.name = q.name) && !decide (p = q)
end Go.Am
namespace Go.Am
open Go Go.Proofs Go.Pn
theorem J2f {c : Circuit} (h : Jaf c = 0) : AscB Op.bytesLess (c.parts.map (·.name)) := by
 refine List.pairwise_map.2 (List.pairwise_iff_getElem.2 fun i j hi hj hij => ?_)
 exact Jjt (Jts h hij (List.getElem?_eq_getElem hi) (List.getElem?_eq_getElem hj))
theorem Jk9 {c : Circuit} (h : Jaf c = 0) : (c.parts.map (·.name)).Nodup := by
 refine List.pairwise_map.2 (List.pairwise_iff_getElem.2 fun i j hi hj hij => ?_)
 intro e
 have := Jts h hij (List.getElem?_eq_getElem hi) (List.getElem?_eq_getElem hj)
 rw [e, Jez] at this
 cases this
theorem Jk6 {c : Circuit} {p : Port} (h : Jcx c p = 0) : nameAt c p.part ∈ c.parts.map (·.name) := by
 obtain ⟨q, e, _⟩ := Jel.1 h
 unfold nameAt
 rw [e]
 exact List.mem_map_of_mem (List.mem_of_getElem? e)
theorem Jjs {c : Circuit} (h : Jaf c = 0) {p : Port} (hp : Jcx c p = 0) : (⟨atNm (c.parts.map (·.name)) (nameAt c p.part), p.name⟩ : Port) = p := by
 obtain ⟨q, e, h0, _⟩ := Jel.1 hp
 have : atNm (c.parts.map (·.name)) (nameAt c p.part) = p.part.toNat := by
   refine Jia (Jk9 h) ?_
   unfold nameAt
   rw [List.getElem?_map, e]; rfl
 rw [this]
 obtain ⟨a, b⟩ := p
 simp only at h0 ⊢
 rw [Int.toNat_of_nonneg h0]
def Jga (c : Circuit) (x : Pipe) : EndP := (Jbn c x.fr, Jbn c x.to)
theorem Jfy {c : Circuit} (h : Jaf c = 0) {x : Pipe} (hx : x ∈ c.pipes) : Jcx c x.fr = 0 /\ Jcx c x.to = 0 /\ Jbq x.fr x.to = true := J4b.1 ((Jg1.1 h).2.2.1 x hx)
theorem Jnd {c : Circuit} (h : Jaf c = 0) : DrfOk (drfC c) := by
 refine ⟨Jk9 h, fun x hx => ?_⟩
 obtain ⟨y, hy, rfl⟩ := List.mem_map.1 hx
 obtain ⟨h1, h2, _⟩ := Jfy h hy
 exact ⟨Jk6 h1, Jk6 h2⟩
theorem J2e {c : Circuit} (h : Jaf c = 0) : Jay c.parts = c.parts.map (·.name) := J1e Jja (J2f h)
theorem Jzs {c : Circuit} (h : Jaf c = 0) {p q : Port} (hp : Jcx c p = 0) (hq : Jcx c q = 0) : Jcw (Jbn c p) (Jbn c q) = Jbq p q := by
 have := Jli (Jk9 h) (a := Jbn c p) (b := Jbn c q) (Jk6 hp) (Jk6 hq)
 rw [J2e h] at this
 rw [<- this]
 show Jbq ⟨atNm _ (nameAt c p.part), p.name⟩ ⟨atNm _ (nameAt c q.part), q.name⟩ = _
 rw [Jjs h hp, Jjs h hq]
theorem Jtg {c : Circuit} (h : Jaf c = 0) {x : Pipe} (hx : x ∈ c.pipes) : ordX (Jga c x) = Jga c x := by
 obtain ⟨h1, h2, h3⟩ := Jfy h hx
 unfold ordX ordE Jga
 rw [if_neg]
 intro h4
 have h5 := Jf9.1 h4
 rw [Jzs h h2 h1] at h5
 have h6 := J4p h3
 rw [h5] at h6
 cases h6
theorem Jt2 {c : Circuit} (h : Jaf c = 0) {x : Pipe} (hx : x ∈ c.pipes) : Jdd (c.parts.map (·.name)) (Jga c x) = x := by
 obtain ⟨h1, h2, _⟩ := Jfy h hx
 unfold Jdd Jga Jbn
 rw [Jjs h h1, Jjs h h2]
theorem Jhr {d : Drf} (h : DrfOk d) : (Jbe d).parts.Perm d.parts := by
 show (selS Ja3 d.parts).Perm d.parts
 rw [Jow h.nd]
 have h1 : (Jay d.parts).Perm (d.parts.map (·.name)) := Jfu
 refine (h1.map (Jdq d.parts)).trans ?_
 rw [List.map_map]
 have : d.parts.map (Jdq d.parts ∘ fun p => p.name) = d.parts := by
   conv => rhs; rw [<- List.map_id d.parts]
   exact List.map_congr_left fun p hp => Jnk h.nd hp
 rw [this]
end Go.Am
namespace Go.Am
open Go Go.Proofs Go.Pn
theorem Jq1 {n : Nat} (h : n < 10) : Lib.decDigits n = [UInt8.ofNat (48 + n)] := by rw [Lib.decDigits, dif_pos h]
theorem Jzj {n : Nat} (h : ¬ n < 10) : Lib.decDigits n = Lib.decDigits (n / 10) ++ [UInt8.ofNat (48 + n % 10)] := by rw [Lib.decDigits, dif_neg h]
theorem Jna : ∀ {k n : Nat}, n < 10 ^ (k + 1) -> (Lib.decDigits n).length <= k + 1
 | 0, n, h => by rw [Jq1 (by simpa using h)]; simp
 | k + 1, n, h => by
   by_cases h1 : n < 10
   . rw [Jq1 h1]; simp
   . rw [Jzj h1, List.length_append]
     have h2 : n / 10 < 10 ^ (k + 1) := by
       rw [Nat.pow_succ] at h
       exact Nat.div_lt_of_lt_mul (by omega)
     have := Jna h2
     simp only [List.length_cons, List.length_nil]
     omega
def NoSp (w : Txt) : Prop := w ≠ [] /\ ∀ b ∈ w, b ≠ 32
theorem Jr4 {b : UInt8} (h : Jcf b = true) : b ≠ 32 /\ b ≠ 46 /\ b ≠ 10 /\ b ≠ 35 := by
 have h2 : (∀ n : Nat, n < 256 -> (Jcf (UInt8.ofNat n) = true -> UInt8.ofNat n ≠ 32 /\ UInt8.ofNat n ≠ 46 /\ UInt8.ofNat n ≠ 10 /\ UInt8.ofNat n ≠ 35)) := by decide +kernel
 have h3 := h2 b.toNat b.toNat_lt
 rw [UInt8.ofNat_toNat] at h3
 exact h3 h
theorem Jf2 {s : Txt} (h : Jco s = 0) : s ≠ [] /\ (∀ b ∈ s, Jcf b = true) /\ s.length <= 24 := by
 cases s with
 | nil => simp [Jco] at h
 | cons b r =>
   unfold Jco at h
   simp only at h
   split at h
   . cases h
   . split at h
     . cases h
     . rename_i h2
       split at h
       . cases h
       . rename_i h3
         refine ⟨by simp, fun x hx => ?_, by omega⟩
         simp only [Bool.not_eq_true', Bool.not_eq_false] at h2
         exact List.all_eq_true.1 h2 x hx
theorem Jdk {p : Part} (h : Ja2 p = 0) : (0 <= p.kind /\ p.kind < 14) /\ Jco p.name = 0 /\ (p.kind = 12 -> 1 <= p.delay /\ p.delay <= 1000000) /\ (p.kind ≠ 12 -> p.delay = 0) := by
 unfold Ja2 at h
 by_cases h1 : Jbj p.kind = 0
 . rw [if_neg (by simpa using h1)] at h
   by_cases h2 : Jco p.name = 0
   . rw [if_neg (by simpa using h2)] at h
     refine ⟨Je4.1 h1, h2, ?_, ?_⟩ <;> intro h3 <;> split at h <;> (try cases h) <;> omega
   . rw [if_pos h2] at h; exact absurd h h2
 . rw [if_pos h1] at h; exact absurd h h1
theorem Jep {c : Circuit} (h : Jaf c = 0) {p : Part} (hp : p ∈ c.parts) : Ja2 p = 0 := by
 have hf := (Jg1.1 h).1.each
 obtain ⟨j, hj, e⟩ := List.getElem_of_mem hp
 have h2 := Je1 hf hj
 unfold partAt at h2
 rw [List.getElem?_eq_getElem hj, e] at h2
 simp only at h2
 apply Decidable.byContradiction
 intro hne
 rw [if_pos hne] at h2
 exact hne h2
theorem J2c {c : Circuit} (h : Jaf c = 0) {p : Port} (hp : Jcx c p = 0) : Jco (nameAt c p.part) = 0 := by
 obtain ⟨q, e, _⟩ := Jel.1 hp
 have := (Jdk (Jep h (List.mem_of_getElem? e))).2.1
 unfold nameAt; rw [e]; exact this
theorem Jv4 {k : Nat} (h : k < 14) : NoSp (Jcu k) /\ (∀ b ∈ Jcu k, b ≠ 10) /\ Ja5 (Jcu k) = k /\ (Jcu k).length <= 8 := by
 rcases (by omega : k = 0 \/ k = 1 \/ k = 2 \/ k = 3 \/ k = 4 \/ k = 5 \/ k = 6 \/ k = 7 \/ k = 8 \/ k = 9 \/ k = 10 \/ k = 11 \/ k = 12 \/ k = 13) with rfl|rfl|rfl|rfl|rfl|rfl|rfl|rfl|rfl|rfl|rfl|rfl|rfl|rfl <;> exact ⟨⟨by decide, by decide⟩, by decide, by decide, by decide⟩
theorem Joa {q : Part} (hq : 0 <= q.kind /\ q.kind < 14) {s : Txt} (hs : s ∈ Jch q) : (∀ b ∈ s, b ≠ 32 /\ b ≠ 10) /\ Jge q.kind s = true /\ s.length <= 2 := by
 have h1 : ∀ k, k < 14 -> ∀ s ∈ Jb4 k, (∀ b ∈ s, b ≠ 32 /\ b ≠ 10) /\ 0 <= Jeb k s /\ s.length <= 2 := by decide +kernel
 obtain ⟨a, b, d⟩ := h1 q.kind.toNat (by omega) s hs
 exact ⟨a, by unfold Jge; simpa using b, d⟩
theorem Jq3 {c : Circuit} (h : Jaf c = 0) {p : Port} (hp : Jcx c p = 0) : NoSp (endX (Jbn c p)) /\ (∀ b ∈ endX (Jbn c p), b ≠ 10) /\ (endX (Jbn c p)).length <= 27 := by
 obtain ⟨q, e, h0, hm⟩ := Jel.1 hp
 obtain ⟨hk, _⟩ := Jdk (Jep h (List.mem_of_getElem? e))
 obtain ⟨a, b, d⟩ := Jf2 (J2c h hp)
 obtain ⟨f, _, g⟩ := Joa hk hm
 unfold endX Jbn
 refine ⟨⟨by simp, fun x hx => ?_⟩, fun x hx => ?_, by simp only [List.length_append, List.length_cons]; omega⟩
 . rcases List.mem_append.1 hx with hx | hx
   . exact (Jr4 (b x hx)).1
   . rcases List.mem_cons.1 hx with rfl | hx
     . decide
     . exact (f x hx).1
 . rcases List.mem_append.1 hx with hx | hx
   . exact (Jr4 (b x hx)).2.2.1
   . rcases List.mem_cons.1 hx with rfl | hx
     . decide
     . exact (f x hx).2
theorem J1s {ps : List Part} (h : (ps.map (·.name)).Nodup) {p : Part} (hp : p ∈ ps) : Jdy ps p.name = some p.kind := by
 have h1 := Jnk h hp
 unfold Jdq at h1
 unfold Jdy
 cases e : ps.find? fun q => decide (q.name = p.name) with
 | none =>
   rw [List.find?_eq_none] at e
   have := e p hp
   simp at this
 | some q => rw [e] at h1; simp only [Option.getD_some] at h1; rw [h1]; rfl
theorem Jn8 {p : Part} (h : Ja2 p = 0) : (partT p).length <= 50 := by
 obtain ⟨hk, hw, hd, _⟩ := Jdk h
 obtain ⟨_, _, b⟩ := Jf2 hw
 obtain ⟨_, _, _, g⟩ := Jv4 (k := p.kind.toNat) (by omega)
 unfold partT
 by_cases h12 : p.kind = 12
 . have := @Jna 6 p.delay.toNat (by have := hd h12; omega)
   rw [if_pos h12]
   simp only [List.length_append, List.length_cons, List.length_nil, Jgi]
   omega
 . rw [if_neg h12]
   simp only [List.length_append, List.length_cons, List.length_nil, Jgi]
   omega
theorem J4g {c : Circuit} (h : Jaf c = 0) {x : Pipe} (hx : x ∈ c.pipes) : (Jfx c x).length <= 60 := by
 obtain ⟨h1, h2, _⟩ := Jfy h hx
 have a := (Jq3 h h1).2.2
 have b := (Jq3 h h2).2.2
 unfold Jfx
 simp only [List.length_append, List.length_cons, List.length_nil, Jls]
 omega
theorem Jo8 : ∀ {ls : List Txt} {n : Nat}, (∀ l ∈ ls, l.length <= n) -> (unl ls).length <= (n + 1) * ls.length
 | [], n, _ => by simp [unl]
 | l :: ls, n, h => by
   have h1 := h l (by simp)
   have h2 := @Jo8 ls n fun x hx => h x (by simp [hx])
   have e : unl (l :: ls) = (l ++ [10]) ++ unl ls := by simp [unl]
   rw [e, List.length_append, List.length_append, List.length_cons, List.length_cons, List.length_nil, Nat.mul_succ]
   omega
end Go.Am
namespace Go.Am
open Go Go.Proofs Go.Pn
section
variable {c d : Circuit} {g : Int -> Int}
theorem J4m (h : Jaf c = 0) {x : Pipe} (hx : x ∈ c.pipes) : x.fr ∈ allP c /\ x.to ∈ allP c := ⟨Jmn.2 (Jfy h hx).1, Jmn.2 (Jfy h hx).2.1⟩
end
end Go.Am
namespace Go.Am
open Go Go.Proofs Go.Pn
theorem Jsv {c : Circuit} {i : Nat} {q : Part} (e : c.parts[i]? = some q) : nameAt c (i : Int) = q.name := by unfold nameAt; rw [Int.toNat_natCast, e]
theorem Jua {c : Circuit} {p : Port} (hp : p ∈ allP c) : ∃ (i : Nat) (q : Part), p.part = i /\ c.parts[i]? = some q /\ p.name ∈ Jch q := by
 obtain ⟨q, e, h0, hm⟩ := Jel.1 (Jmn.1 hp)
 exact ⟨p.part.toNat, q, by omega, e, hm⟩
theorem Jzp {c : Circuit} (h : Jaf c = 0) : ((drfC c).pipes.map ordX).Nodup := by
 show ((c.pipes.map fun x => (Jbn c x.fr, Jbn c x.to)).map ordX).Nodup
 rw [List.map_map]
 have hn : c.pipes.Nodup := (Jg1.1 h).2.2.2.imp fun h1 e => by subst e; rw [Jt0] at h1; cases h1
 refine List.pairwise_map.2 (hn.imp_of_mem fun {x y} hx hy hne e => hne ?_)
 have e2 : ordX (Jga c x) = ordX (Jga c y) := e
 rw [Jtg h hx, Jtg h hy] at e2
 have e1 := Jt2 h hx
 rw [e2, Jt2 h hy] at e1
 exact e1.symm
end Go.Am
namespace Go.Am
open Go Go.Proofs Go.Pn
section
variable {c d : Circuit} {g : Int -> Int}
end
end Go.Am
