/- Lemmas and contracts for the proof of a statement of this seat. -/
import Derived.Test.YtmfjjncfdpejiaaGreatDoorZCP
import Derived.Test.YtmfjjncfdpejiaaGreatDoorZE3
import Derived.Lib.FieldsP
import Derived.Lib.TrimUEq
import Derived.Test.YtmfjjncfdpejiaaGreatDoorZF1
import Derived.Test.YtmfjjncfdpejiaaGreatDoorZCA
import Derived.Test.YtmfjjncfdpejiaaGreatDoorZC6
import Derived.Test.YtmfjjncfdpejiaaGreatDoorZCQ
set_option linter.unusedVariables false
set_option linter.unusedSimpArgs false
namespace Go.Am
open Go Go.Proofs Go.Pn
structure STO {α : Type} (lt : α -> α -> Bool) : Prop where
 irrefl : ∀ a, lt a a = false
 trans : ∀ {a b c}, lt a b = true -> lt b c = true -> lt a c = true
 total : ∀ {a b}, lt a b = false -> lt b a = false -> a = b
theorem STO.asymm {α : Type} {lt : α -> α -> Bool} (h : STO lt) {a b : α} (k : lt a b = true) : lt b a = false := by
 cases e : lt b a with
 | false => rfl
 | true => have := h.trans k e; rw [h.irrefl] at this; cases this
def insB {α : Type} (lt : α -> α -> Bool) (x : α) : List α -> List α
 | [] => [x]
 | y :: ys => if lt y x then y :: insB lt x ys else x :: y :: ys
def Jar {α : Type} (lt : α -> α -> Bool) (l : List α) : List α := l.foldr (insB lt) []
def AscB {α : Type} (lt : α -> α -> Bool) (l : List α) : Prop := l.Pairwise fun a b => lt b a = false
section
variable {α : Type} {lt : α -> α -> Bool}
theorem Jnf {x : α} : ∀ {l : List α}, (insB lt x l).Perm (x :: l)
 | [] => List.Perm.refl _
 | y :: ys => by
   unfold insB
   split
   . exact (List.Perm.cons y Jnf).trans (List.Perm.swap x y ys)
   . exact List.Perm.refl _
theorem Je4 : ∀ {l : List α}, (Jar lt l).Perm l
 | [] => List.Perm.refl _
 | x :: l => by
   show (insB lt x (Jar lt l)).Perm (x :: l)
   exact Jnf.trans (List.Perm.cons x Je4)
theorem Jea {l : List α} : (Jar lt l).length = l.length := Je4.length_eq
theorem Jim {l : List α} {x : α} : x ∈ Jar lt l ↔ x ∈ l := Je4.mem_iff
theorem Jrs (h : STO lt) {x : α} : ∀ {l : List α}, AscB lt l -> AscB lt (insB lt x l)
 | [], _ => List.pairwise_singleton _ _
 | y :: ys, hl => by
   have hy := List.pairwise_cons.1 hl
   unfold insB
   cases e : lt y x with
   | true =>
     simp only [if_true]
     refine List.pairwise_cons.2 ⟨fun z hz => ?_, Jrs h hy.2⟩
     rcases List.mem_cons.1 (Jnf.mem_iff.1 hz) with rfl | hz
     . exact h.asymm e
     . exact hy.1 z hz
   | false =>
     simp only [Bool.false_eq_true, if_false]
     refine List.pairwise_cons.2 ⟨fun z hz => ?_, hl⟩
     rcases List.mem_cons.1 hz with rfl | hz
     . exact e
     . have h1 := hy.1 z hz
       cases e2 : lt z x with
       | false => rfl
       | true =>
         cases e3 : lt x y with
         | true => rw [h.trans e2 e3] at h1; cases h1
         | false =>
           have := h.total e e3
           subst this
           rw [e2] at h1; cases h1
theorem Jg6 (h : STO lt) : ∀ {l : List α}, AscB lt (Jar lt l)
 | [] => List.Pairwise.nil
 | _ :: _ => Jrs h (Jg6 h)
theorem Jpo (h : STO lt) : ∀ {l m : List α}, AscB lt l -> AscB lt m -> l.Perm m -> l = m
 | [], m, _, _, p => (List.Perm.nil_eq p)
 | x :: l, [], _, _, p => absurd (p.length_eq) (by simp)
 | x :: l, y :: m, hl, hm, p => by
   have hx := List.pairwise_cons.1 hl
   have hy := List.pairwise_cons.1 hm
   have e : x = y := by
     have h1 : x ∈ y :: m := p.mem_iff.1 (by simp)
     have h2 : y ∈ x :: l := p.mem_iff.2 (by simp)
     rcases List.mem_cons.1 h1 with h1 | h1
     . exact h1
     . rcases List.mem_cons.1 h2 with h2 | h2
       . exact h2.symm
       . exact h.total (hy.1 x h1) (hx.1 y h2)
   subst e
   rw [Jpo h hx.2 hy.2 ((List.perm_cons x).1 p)]
theorem Jkn (h : STO lt) {l m : List α} (hm : AscB lt m) (p : m.Perm l) : m = Jar lt l := Jpo h hm (Jg6 h) (p.trans Je4.symm)
theorem Jrx (h : STO lt) {l m : List α} (p : l.Perm m) : Jar lt l = Jar lt m := Jkn h (Jg6 h) (Je4.trans p)
theorem Jrz (h : STO lt) {l : List α} : (l.mergeSort fun x y => !lt y x) = Jar lt l := by
 refine Jkn h ?_ (List.mergeSort_perm _ _)
 have := List.pairwise_mergeSort (le := fun x y => !lt y x) (fun a b c h1 h2 => ?_) (fun a b => ?_) l
 . exact this.imp fun h1 => by simpa using h1
 . simp only [Bool.not_eq_true'] at h1 h2 ⊢
   cases e : lt c a with
   | false => rfl
   | true =>
     cases e2 : lt a b with
     | true => rw [h.trans e e2] at h2; cases h2
     | false =>
       have := h.total e2 h1
       subst this
       rw [e] at h2; cases h2
 . simp only [Bool.or_eq_true, Bool.not_eq_true']
   cases e : lt a b with
   | true => exact .inl (h.asymm e)
   | false => exact .inr rfl
theorem Jrt {β : Type} {lt' : β -> β -> Bool} {f : α -> β} {x : α} : ∀ {l : List α}, (∀ y ∈ l, lt' (f y) (f x) = lt y x) -> (insB lt x l).map f = insB lt' (f x) (l.map f)
 | [], _ => rfl
 | y :: ys, h => by
   simp only [insB, List.map_cons, h y (by simp)]
   have ih := Jrt (l := ys) (fun z hz => h z (List.mem_cons_of_mem _ hz))
   split
   . simp only [List.map_cons, ih]
   . rfl
theorem Jry {β : Type} {lt' : β -> β -> Bool} {f : α -> β} : ∀ {l : List α}, (∀ x ∈ l, ∀ y ∈ l, lt' (f y) (f x) = lt y x) -> (Jar lt l).map f = Jar lt' (l.map f)
 | [], _ => rfl
 | x :: l, h => by
   show (insB lt x (Jar lt l)).map f = insB lt' (f x) (Jar lt' (l.map f))
   rw [Jrt (fun y hy => h x (by simp) y (by simp [Jim.1 hy])), Jry (fun a ha b hb => h a (by simp [ha]) b (by simp [hb]))]
theorem J00 (h : STO lt) {l : List α} (hl : AscB lt l) : Jar lt l = l := (Jkn h hl (List.Perm.refl _)).symm
def Jam (lt : α -> α -> Bool) (l : List α) : Nat -> Nat
 | 0 => 0
 | k + 1 => match l[k]?, l[Jam lt l k]? with
   | some x, some y => if lt x y then k else Jam lt l k
   | _, _ => Jam lt l k
theorem Jkt {l : List α} {k : Nat} {x y : α} (h1 : l[k]? = some x) (h2 : l[Jam lt l k]? = some y) : Jam lt l (k + 1) = if lt x y then k else Jam lt l k := by
 simp only [Jam, h1, h2]
theorem Jnm (h : STO lt) {l : List α} : Jam lt l 1 = 0 := by
 unfold Jam
 split
 . split
   . rfl
   . rfl
 . rfl
theorem Jks (h : STO lt) {l : List α} : ∀ {k : Nat}, 1 <= k -> k <= l.length -> Jam lt l k < k
 | 1, _, _ => by rw [Jnm h]; omega
 | k + 2, _, hk => by
   have ih := Jks h (l := l) (k := k + 1) (by omega) (by omega)
   obtain ⟨x, ex⟩ := Jag (xs := l) (k := k + 1) (by omega)
   obtain ⟨y, ey⟩ := Jag (xs := l) (k := Jam lt l (k + 1)) (by omega)
   rw [Jkt ex ey]
   split <;> omega
theorem Jr8 (h : STO lt) {l : List α} : ∀ {k : Nat}, 1 <= k -> k <= l.length -> ∀ y, l[Jam lt l k]? = some y -> ∀ (j : Nat) x, j < k -> l[j]? = some x -> lt x y = false
 | 1, _, _, y, hy, j, x, hj, hx => by
   have e : j = 0 := by omega
   subst e
   rw [Jnm h, hx] at hy
   cases hy
   exact h.irrefl _
 | k + 2, _, hk, y, hy, j, x, hj, hx => by
   have h1 := Jks h (l := l) (k := k + 1) (by omega) (by omega)
   obtain ⟨a, ea⟩ := Jag (xs := l) (k := k + 1) (by omega)
   obtain ⟨b, eb⟩ := Jag (xs := l) (k := Jam lt l (k + 1)) (by omega)
   have ih := Jr8 h (l := l) (k := k + 1) (by omega) (by omega) b eb
   rw [Jkt ea eb] at hy
   by_cases e : j = k + 1
   . subst e
     rw [ea] at hx; cases hx
     split at hy
     . rw [ea] at hy; cases hy; exact h.irrefl _
     . rename_i hn
       rw [eb] at hy; cases hy
       simpa using hn
   . have h2 := ih j x (by omega) hx
     split at hy
     . rename_i hlt
       rw [ea] at hy
       have hya : a = y := by simpa using hy
       subst hya
       cases e2 : lt x a with
       | false => rfl
       | true => rw [h.trans e2 hlt] at h2; cases h2
     . rw [eb] at hy; cases hy
       exact h2
def selN (lt : α -> α -> Bool) : Nat -> List α -> List α
 | 0, _ => []
 | n + 1, l => match l[Jam lt l l.length]? with
   | some x => x :: selN lt n (l.take (Jam lt l l.length) ++ l.drop (Jam lt l l.length + 1))
   | none => []
def selS (lt : α -> α -> Bool) (l : List α) : List α := selN lt l.length l
theorem Jlo {l : List α} {i : Nat} {x : α} (e : l[i]? = some x) : (x :: (l.take i ++ l.drop (i + 1))).Perm l := by
 obtain ⟨hi, hx⟩ := gsI.1 e
 have : l = l.take i ++ x :: l.drop (i + 1) := by rw [<- hx, <- List.drop_eq_getElem_cons hi, List.take_append_drop]
 conv => rhs; rw [this]
 exact List.perm_middle.symm
theorem Joj (h : STO lt) : ∀ {n : Nat} {l : List α}, l.length = n -> (selN lt n l).Perm l /\ AscB lt (selN lt n l)
 | 0, l, e => by
   have : l = [] := List.length_eq_zero_iff.1 e
   subst this
   exact ⟨List.Perm.refl _, List.Pairwise.nil⟩
 | n + 1, l, e => by
   have h1 := Jks h (l := l) (k := l.length) (by omega) (Nat.le_refl _)
   obtain ⟨x, ex⟩ := Jag h1
   have hst := Jlo ex
   have hl2 : (l.take (Jam lt l l.length) ++ l.drop (Jam lt l l.length + 1)).length = n := by
     have := hst.length_eq
     simp only [List.length_cons] at this
     omega
   obtain ⟨p, a⟩ := Joj h hl2
   simp only [selN, ex]
   refine ⟨(List.Perm.cons x p).trans hst, List.pairwise_cons.2 ⟨fun z hz => ?_, a⟩⟩
   have hz2 : z ∈ l := hst.mem_iff.1 (List.mem_cons_of_mem _ (p.mem_iff.1 hz))
   obtain ⟨j, hj⟩ := List.getElem?_of_mem hz2
   exact Jr8 h (by omega) (Nat.le_refl _) x ex j z (gsI.1 hj).1 hj
theorem Jut (h : STO lt) {l : List α} : selS lt l = Jar lt l := Jkn h (Joj h rfl).2 (Joj h rfl).1
theorem Jr9 {β : Type} {lt' : β -> β -> Bool} {f : α -> β} {l : List α} (hf : ∀ x ∈ l, ∀ y ∈ l, lt' (f y) (f x) = lt y x) : ∀ {k : Nat}, Jam lt' (l.map f) k = Jam lt l k
 | 0 => rfl
 | k + 1 => by
   simp only [Jam, Jr9 hf (k := k), List.getElem?_map]
   cases e1 : l[k]? with
   | none => rfl
   | some x =>
     cases e2 : l[Jam lt l k]? with
     | none => rfl
     | some y => simp only [Option.map_some, hf y (List.mem_of_getElem? e2) x (List.mem_of_getElem? e1)]
theorem Jus {β : Type} {lt' : β -> β -> Bool} {f : α -> β} : ∀ {n : Nat} {l : List α}, (∀ x ∈ l, ∀ y ∈ l, lt' (f y) (f x) = lt y x) -> (selN lt n l).map f = selN lt' n (l.map f)
 | 0, _, _ => rfl
 | n + 1, l, hf => by
   simp only [selN, Jr9 hf, List.length_map, List.getElem?_map]
   cases e : l[Jam lt l l.length]? with
   | none => rfl
   | some x =>
     simp only [Option.map_some, List.map_cons, List.cons.injEq, true_and]
     rw [Jus (fun a ha b hb => hf a ?_ b ?_)]
     . simp [List.map_take, List.map_drop]
     . exact (Jlo e).mem_iff.1 (List.mem_cons_of_mem _ ha)
     . exact (Jlo e).mem_iff.1 (List.mem_cons_of_mem _ hb)
end
theorem Jho : STO Op.bytesLess := ⟨Jew, fun h k => Jgx h k, fun h k => Jfn h k⟩
theorem Joo : STO Ja2 := ⟨Jts, fun h k => Jtt h k, fun h k => J3w h k⟩
structure End where
 part : Txt
 port : Txt
 deriving DecidableEq
@[simp] def End.enc (a : End) : List PV := [.str a.part, .str a.port]
@[simp] def End.row (a : End) : List AV := [.p (.str a.part), .p (.str a.port)]
@[simp] def End.av (a : End) : AV := .agg [.p (.str a.part), .p (.str a.port)]
def Jb4 (a b : End) : Int := orI [Lib.compareBytes a.part b.part, Lib.compareBytes a.port b.port]
def Jcd (a b : End) : Bool := if a.part = b.part then Op.bytesLess a.port b.port else Op.bytesLess a.part b.part
theorem Jj3 {a b : End} : Jb4 a b < 0 ↔ Jcd a b = true := by
 unfold Jb4 Jcd
 simp only [orI]
 by_cases e : a.part = b.part
 . rw [if_pos (Jdo.2 e), if_pos e, <- Jj1]
   by_cases h0 : Lib.compareBytes a.port b.port = 0
   . rw [if_pos h0]; omega
   . rw [if_neg h0]
 . rw [if_neg (fun h => e (Jdo.1 h)), if_neg e, Jj1]
theorem Jj2 {a b : End} : Jb4 a b = 0 ↔ a = b := by
 unfold Jb4
 simp only [orI]
 by_cases e : a.part = b.part
 . rw [if_pos (Jdo.2 e)]
   by_cases h0 : Lib.compareBytes a.port b.port = 0
   . rw [if_pos h0]
     have := Jdo.1 h0
     obtain ⟨x, y⟩ := a
     obtain ⟨u, v⟩ := b
     simp_all
   . rw [if_neg h0]
     constructor
     . intro h; exact absurd h h0
     . rintro rfl; exact absurd (Jdo.2 rfl) h0
 . rw [if_neg (fun h => e (Jdo.1 h))]
   constructor
   . intro h; exact absurd (Jdo.1 h) e
   . rintro rfl; exact absurd rfl e
theorem Jdu : STO Jcd := by
 refine ⟨fun a => by simp [Jcd, Jew], fun {a b c} h k => ?_, fun {a b} h k => ?_⟩
 . unfold Jcd at h k ⊢
   by_cases e1 : a.part = b.part <;> by_cases e2 : b.part = c.part
   . rw [if_pos e1] at h; rw [if_pos e2] at k; rw [if_pos (e1.trans e2)]; exact Jgx h k
   . rw [if_neg e2] at k; rw [if_neg (e1 ▸ e2), e1]; exact k
   . rw [if_neg e1] at h; rw [if_neg (e2 ▸ e1), <- e2]; exact h
   . rw [if_neg e1] at h; rw [if_neg e2] at k
     have := Jgx h k
     rw [if_neg (fun e => by rw [e, Jew] at this; cases this)]
     exact this
 . unfold Jcd at h k
   by_cases e : a.part = b.part
   . rw [if_pos e] at h; rw [if_pos e.symm] at k
     obtain ⟨x, y⟩ := a
     obtain ⟨u, v⟩ := b
     simp only at e h k
     rw [e, Jfn h k]
   . rw [if_neg e] at h; rw [if_neg (Ne.symm e)] at k
     exact absurd (Jfn h k) e
theorem Je0 {a b : End} : 0 < Jb4 a b ↔ Jcd b a = true := by
 constructor
 . intro h
   cases e : Jcd b a with
   | true => rfl
   | false =>
     cases e2 : Jcd a b with
     | true => have := Jj3.2 e2; omega
     | false =>
       have := Jdu.total e e2
       have := Jj2.2 this.symm
       omega
 . intro h
   have h1 : ¬ Jb4 a b < 0 := fun h2 => by have := Jdu.asymm h; rw [Jj3.1 h2] at this; cases this
   have h2 : Jb4 a b ≠ 0 := fun h2 => by have := Jj2.1 h2; subst this; rw [Jdu.irrefl] at h; cases h
   omega
abbrev EndP := End × End
@[simp] def EndP.enc (x : EndP) : List PV := [.str x.1.part, .str x.1.port, .str x.2.part, .str x.2.port]
@[simp] def EndP.row (x : EndP) : List AV := [.p (.str x.1.part), .p (.str x.1.port), .p (.str x.2.part), .p (.str x.2.port)]
@[simp] def EndP.av (x : EndP) : AV := .agg [.p (.str x.1.part), .p (.str x.1.port), .p (.str x.2.part), .p (.str x.2.port)]
def Jd4 (a b : EndP) : Int := orI [Jb4 a.1 b.1, Jb4 a.2 b.2]
def Ja6 (a b : EndP) : Bool := if a.1 = b.1 then Jcd a.2 b.2 else Jcd a.1 b.1
theorem Jzc {a b : EndP} : Jd4 a b < 0 ↔ Ja6 a b = true := by
 unfold Jd4 Ja6
 simp only [orI]
 by_cases e : a.1 = b.1
 . rw [if_pos (Jj2.2 e), if_pos e, <- Jj3]
   by_cases h0 : Jb4 a.2 b.2 = 0
   . rw [if_pos h0]; omega
   . rw [if_neg h0]
 . rw [if_neg (fun h => e (Jj2.1 h)), if_neg e, Jj3]
theorem Jfe : STO Ja6 := by
 refine ⟨fun a => by simp [Ja6, Jdu.irrefl], fun {a b c} h k => ?_, fun {a b} h k => ?_⟩
 . unfold Ja6 at h k ⊢
   by_cases e1 : a.1 = b.1 <;> by_cases e2 : b.1 = c.1
   . rw [if_pos e1] at h; rw [if_pos e2] at k; rw [if_pos (e1.trans e2)]; exact Jdu.trans h k
   . rw [if_neg e2] at k; rw [if_neg (e1 ▸ e2), e1]; exact k
   . rw [if_neg e1] at h; rw [if_neg (e2 ▸ e1), <- e2]; exact h
   . rw [if_neg e1] at h; rw [if_neg e2] at k
     have := Jdu.trans h k
     rw [if_neg (fun e => by rw [e, Jdu.irrefl] at this; cases this)]
     exact this
 . unfold Ja6 at h k
   by_cases e : a.1 = b.1
   . rw [if_pos e] at h; rw [if_pos e.symm] at k
     exact Prod.ext e (Jdu.total h k)
   . rw [if_neg e] at h; rw [if_neg (Ne.symm e)] at k
     exact absurd (Jdu.total h k) e
def ordE (a b : End) : EndP := if 0 < Jb4 a b then (b, a) else (a, b)
theorem Js5 {a b : End} : ordE a b = ordE b a := by
 unfold ordE
 by_cases h : 0 < Jb4 a b
 . have h2 : ¬ 0 < Jb4 b a := fun h2 => by
     have := Jdu.asymm (Je0.1 h); rw [Je0.1 h2] at this; cases this
   rw [if_pos h, if_neg h2]
 . by_cases h2 : 0 < Jb4 b a
   . rw [if_neg h, if_pos h2]
   . rw [if_neg h, if_neg h2]
     have e : a = b := by
       refine Jdu.total ?_ ?_
       . cases e : Jcd a b with
         | false => rfl
         | true => exact absurd (Je0.2 e) h2
       . cases e : Jcd b a with
         | false => rfl
         | true => exact absurd (Je0.2 e) h
     rw [e]
theorem Js6 {a b c d : End} : ordE a b = ordE c d ↔ (a = c /\ b = d) \/ (a = d /\ b = c) := by
 constructor
 . intro h
   unfold ordE at h
   split at h <;> split at h <;> simp only [Prod.mk.injEq] at h
   . exact .inl ⟨h.2, h.1⟩
   . exact .inr ⟨h.2, h.1⟩
   . exact .inr ⟨h.1, h.2⟩
   . exact .inl h
 . rintro (⟨rfl, rfl⟩ | ⟨rfl, rfl⟩)
   . rfl
   . exact Js5
structure Drf where
 parts : List Part
 pipes : List EndP
 deriving DecidableEq
def Jav (ps : List Part) : List Txt := Jar Op.bytesLess (ps.map (·.name))
def Jdr (ps : List Part) (s : Txt) : Part := (ps.find? fun p => decide (p.name = s)).getD ⟨0, [], 0⟩
def atNm (nms : List Txt) (s : Txt) : Int := match nms.findIdx? fun n => decide (n = s) with | some i => i | none => 0
def Jc2 (nms : List Txt) (x : EndP) : Pipe := ⟨⟨atNm nms x.1.part, x.1.port⟩, ⟨atNm nms x.2.part, x.2.port⟩⟩
def Jd5 (d : Drf) : Circuit := ⟨(Jav d.parts).map (Jdr d.parts), (Jar Ja6 d.pipes).map (Jc2 (Jav d.parts))⟩
def Ja1 (p q : Part) : Bool := Op.bytesLess p.name q.name
def Jf3 (c : Circuit) (x : EndP) : Pipe :=
 let a : Port := ⟨idxI c.parts fun p => decide (p.name = x.1.part), x.1.port⟩
 let b : Port := ⟨idxI c.parts fun p => decide (p.name = x.2.part), x.2.port⟩
 if Jbi b a then ⟨b, a⟩ else ⟨a, b⟩
def Jap (d : Drf) : Circuit := ⟨selS Ja1 d.parts, selS Ja2 (d.pipes.map (Jf3 ⟨selS Ja1 d.parts, []⟩))⟩
structure DrfOk (d : Drf) : Prop where
 nd : (d.parts.map (·.name)).Nodup
 ends : ∀ x ∈ d.pipes, x.1.part ∈ d.parts.map (·.name) /\ x.2.part ∈ d.parts.map (·.name)
theorem Je1 {ps : List Part} (h : (ps.map (·.name)).Nodup) {p : Part} (hp : p ∈ ps) : Jdr ps p.name = p := by
 unfold Jdr
 have : ps.find? (fun q => decide (q.name = p.name)) = some p := by
   induction ps with
   | nil => cases hp
   | cons q ps ih =>
     rw [List.map_cons, List.nodup_cons] at h
     rcases List.mem_cons.1 hp with rfl | hp
     . simp
     . have hne : q.name ≠ p.name := fun e => h.1 (e ▸ List.mem_map_of_mem hp)
       rw [List.find?_cons_of_neg (by simpa using hne)]
       exact ih h.2 hp
 rw [this]; rfl
theorem Jlj {ps : List Part} : (selS Ja1 ps).map (·.name) = Jav ps := by
 unfold selS Jav
 rw [Jus (lt := Ja1) (lt' := Op.bytesLess) (f := fun p : Part => p.name) (fun x _ y _ => rfl), <- Jut Jho]
 unfold selS
 rw [List.length_map]
theorem Jsl {α : Type} {lt : α -> α -> Bool} : ∀ {n : Nat} {l : List α} {x : α}, x ∈ selN lt n l -> x ∈ l
 | 0, _, _, h => by cases h
 | n + 1, l, x, h => by
   simp only [selN] at h
   split at h
   . rename_i y e
     rcases List.mem_cons.1 h with rfl | h
     . exact List.mem_of_getElem? e
     . exact (Jlo e).mem_iff.1 (List.mem_cons_of_mem _ (Jsl h))
   . cases h
theorem Jok {ps : List Part} (h : (ps.map (·.name)).Nodup) : selS Ja1 ps = (Jav ps).map (Jdr ps) := by
 rw [<- Jlj, List.map_map]
 conv => lhs; rw [<- List.map_id (selS Ja1 ps)]
 refine List.map_congr_left fun p hp => ?_
 exact (Je1 h (Jsl hp)).symm
theorem Jiq {ps : List Part} {s : Txt} : s ∈ Jav ps ↔ s ∈ ps.map (·.name) := Jim
theorem Jnp {ps : List Part} (h : (ps.map (·.name)).Nodup) : (Jav ps).Nodup := Je4.nodup_iff.2 h
theorem Jrr {ps : List Part} (h : (ps.map (·.name)).Nodup) {s : Txt} (hs : s ∈ ps.map (·.name)) : idxI (selS Ja1 ps) (fun p => decide (p.name = s)) = atNm (Jav ps) s := by
 rw [<- Jlj]
 unfold idxI atNm
 rw [List.findIdx?_map]
 have e : ((fun n => decide (n = s)) ∘ fun p : Part => p.name) = fun p : Part => decide (p.name = s) := rfl
 rw [e]
 have hm : s ∈ (selS Ja1 ps).map (·.name) := by rw [Jlj]; exact Jiq.2 hs
 cases e2 : (selS Ja1 ps).findIdx? fun p => decide (p.name = s) with
 | some i => rfl
 | none =>
   rw [List.findIdx?_eq_none_iff] at e2
   obtain ⟨p, hp, rfl⟩ := List.mem_map.1 hm
   have := e2 p hp
   simp at this
theorem Jgv {nms : List Txt} (hn : nms.Nodup) {i : Nat} {s : Txt} (e : nms[i]? = some s) : atNm nms s = i := by
 have hi := (gsI.1 e).1
 have : nms.findIdx? (fun n => decide (n = s)) = some i := by
   rw [List.findIdx?_eq_some_iff_getElem]
   refine ⟨hi, by rw [(gsI.1 e).2]; simp, fun j hj => ?_⟩
   have h1 := List.pairwise_iff_getElem.1 hn j i (by omega) hi hj
   rw [(gsI.1 e).2] at h1
   simpa using h1
 unfold atNm; rw [this]
theorem Jps {ps : List Part} (h : (ps.map (·.name)).Nodup) {s t : Txt} (hs : s ∈ ps.map (·.name)) (ht : t ∈ ps.map (·.name)) : (atNm (Jav ps) s < atNm (Jav ps) t ↔ Op.bytesLess s t = true) /\ (atNm (Jav ps) s = atNm (Jav ps) t ↔ s = t) := by
 obtain ⟨i, ei⟩ := List.getElem?_of_mem (Jiq.2 hs)
 obtain ⟨j, ej⟩ := List.getElem?_of_mem (Jiq.2 ht)
 have hn := Jnp h
 rw [Jgv hn ei, Jgv hn ej]
 obtain ⟨hi, ei'⟩ := gsI.1 ei
 obtain ⟨hj, ej'⟩ := gsI.1 ej
 have hasc : AscB Op.bytesLess (Jav ps) := Jg6 Jho
 have hp := List.pairwise_iff_getElem.1 hasc
 have hinj : i = j ↔ s = t := by
   constructor
   . rintro rfl; rw [ei] at ej; cases ej; rfl
   . rintro rfl
     have h1 := Jgv hn ei
     rw [Jgv hn ej] at h1
     omega
 constructor
 . constructor
   . intro hlt
     have h1 := hp i j hi hj (by omega)
     rw [ei', ej'] at h1
     cases e : Op.bytesLess s t with
     | true => rfl
     | false => have := hinj.2 (Jfn e h1); omega
   . intro hb
     rcases Nat.lt_trichotomy i j with h1 | h1 | h1
     . omega
     . have := hinj.1 h1; subst this; rw [Jew] at hb; cases hb
     . have h2 := hp j i hj hi h1
       rw [ei', ej', hb] at h2; cases h2
 . rw [<- hinj]; omega
theorem Jiv {ps : List Part} (h : (ps.map (·.name)).Nodup) {a b : End} (ha : a.part ∈ ps.map (·.name)) (hb : b.part ∈ ps.map (·.name)) : Jbi ⟨atNm (Jav ps) a.part, a.port⟩ ⟨atNm (Jav ps) b.part, b.port⟩ = Jcd a b := by
 obtain ⟨h1, h2⟩ := Jps h ha hb
 unfold Jbi Jcd
 simp only [h2]
 split
 . rfl
 . rw [Bool.eq_iff_iff, decide_eq_true_eq]; exact h1
theorem Jtu {ps : List Part} (h : (ps.map (·.name)).Nodup) {x y : EndP} (hx : x.1.part ∈ ps.map (·.name) /\ x.2.part ∈ ps.map (·.name)) (hy : y.1.part ∈ ps.map (·.name) /\ y.2.part ∈ ps.map (·.name)) : Ja2 (Jc2 (Jav ps) x) (Jc2 (Jav ps) y) = Ja6 x y := by
 have e : (Jc2 (Jav ps) x).fr = (Jc2 (Jav ps) y).fr ↔ x.1 = y.1 := by
   obtain ⟨⟨a, b⟩, _⟩ := x
   obtain ⟨⟨c, d⟩, _⟩ := y
   simp only [Jc2, Port.mk.injEq, End.mk.injEq, (Jps h hx.1 hy.1).2]
 unfold Ja2 Ja6
 simp only [e]
 split
 . exact Jiv h hx.2 hy.2
 . exact Jiv h hx.1 hy.1
theorem J5n {ps : List Part} (h : (ps.map (·.name)).Nodup) {x : EndP} (hx : x.1.part ∈ ps.map (·.name) /\ x.2.part ∈ ps.map (·.name)) : Jf3 ⟨selS Ja1 ps, []⟩ x = Jc2 (Jav ps) (ordE x.1 x.2) := by
 unfold Jf3
 simp only [Jrr h hx.1, Jrr h hx.2, Jiv h hx.2 hx.1]
 unfold ordE
 by_cases e : Jcd x.2 x.1 = true
 . rw [if_pos e, if_pos (Je0.2 e)]; rfl
 . rw [if_neg e, if_neg (fun h => e (Je0.1 h))]; rfl
theorem Jnt {ps : List Part} {x : EndP} (hx : x.1.part ∈ ps.map (·.name) /\ x.2.part ∈ ps.map (·.name)) : (ordE x.1 x.2).1.part ∈ ps.map (·.name) /\ (ordE x.1 x.2).2.part ∈ ps.map (·.name) := by
 unfold ordE
 split
 . exact ⟨hx.2, hx.1⟩
 . exact hx
theorem Jie {d : Drf} (h : DrfOk d) : Jd5 ⟨d.parts, d.pipes.map fun x => ordE x.1 x.2⟩ = Jap d := by
 unfold Jd5 Jap
 rw [Jok h.nd, Jut Joo]
 congr 1
 rw [Jry (lt' := Ja2) (f := Jc2 (Jav d.parts)), List.map_map]
 . congr 1
   refine List.map_congr_left fun x hx => ?_
   rw [<- Jok h.nd, J5n h.nd (h.ends x hx)]; rfl
 . intro x hx y hy
   obtain ⟨x', hx', rfl⟩ := List.mem_map.1 hx
   obtain ⟨y', hy', rfl⟩ := List.mem_map.1 hy
   exact Jtu h.nd (Jnt (h.ends y' hy')) (Jnt (h.ends x' hx'))
end Go.Am
namespace Go.Am
open Go Go.Proofs Go.Pn
def fldG : Txt -> Txt -> List Txt
 | cur, [] => if cur = [] then [] else [cur]
 | cur, b :: t => if b = 32 then (if cur = [] then fldG [] t else cur :: fldG [] t) else fldG (cur ++ [b]) t
theorem Jq8 {s : Txt} : ∀ {k : Nat}, k <= s.length -> (fldK s k).1 ++ fldG (fldK s k).2 (s.drop k) = fldG [] s
 | 0, _ => by simp [fldK]
 | k + 1, h => by
   have ih := Jq8 (s := s) (k := k) (by omega)
   rw [<- ih]
   have hk : k < s.length := by omega
   obtain ⟨b, e⟩ := Jag hk
   have hd : s.drop k = b :: s.drop (k + 1) := by rw [List.drop_eq_getElem_cons hk]; rw [List.getElem?_eq_getElem hk] at e; cases e; rfl
   rw [hd]
   simp only [fldK, e, fldG]
   by_cases hb : b = 32
   . rw [if_neg (by simpa using hb), if_pos hb]
     by_cases hc : (fldK s k).2 = []
     . simp [hc]
     . simp [hc]
   . rw [if_pos hb, if_neg hb]
theorem Jna {s : Txt} : fldR s = fldG [] s := by
 have h := Jq8 (s := s) (k := s.length) (Nat.le_refl _)
 rw [List.drop_length] at h
 rw [<- h]
 unfold fldR
 have hn : s[s.length]? = none := by simp
 simp only [fldK, hn, fldG]
 split <;> simp
theorem Jq7 : ∀ {u : Txt} {cur t : Txt}, (∀ b ∈ u, b ≠ 32) -> fldG cur (u ++ t) = fldG (cur ++ u) t
 | [], cur, t, _ => by simp
 | b :: u, cur, t, h => by
   have hb := h b (by simp)
   rw [List.cons_append, fldG, if_neg hb, Jq7 (fun x hx => h x (by simp [hx]))]
   simp
theorem Jzl (n b0 b1 b2 b3 : Nat) : ((Lib.decodeN n b0 b1 b2 b3).1 = 32 -> b0 = 32 /\ (Lib.decodeN n b0 b1 b2 b3).2 = 1) /\
   ((Lib.decodeN n b0 b1 b2 b3).1 ≠ 32 -> b0 ≠ 32 /\ (1 < (Lib.decodeN n b0 b1 b2 b3).2 -> b1 ≠ 32) /\ (2 < (Lib.decodeN n b0 b1 b2 b3).2 -> b2 ≠ 32) /\ (3 < (Lib.decodeN n b0 b1 b2 b3).2 -> b3 ≠ 32) /\ (Lib.decodeN n b0 b1 b2 b3).2 <= 4) := by
 unfold Lib.decodeN
 repeat' split
 all_goals (refine ⟨fun h => ⟨?_, ?_⟩, fun h => ⟨?_, fun h2 => ?_, fun h2 => ?_, fun h2 => ?_, ?_⟩⟩ <;> dsimp only at * <;> omega)
theorem Jzm {s : Txt} {pos : Nat} (h : pos < s.length) : ((Utf8.decode ⟨⟨s⟩⟩ pos).1 = 32 -> s[pos]? = some 32 /\ (Utf8.decode ⟨⟨s⟩⟩ pos).2 = 1) /\ ((Utf8.decode ⟨⟨s⟩⟩ pos).1 ≠ 32 -> ∀ b ∈ (s.drop pos).take (Utf8.decode ⟨⟨s⟩⟩ pos).2, b ≠ 32) := by
 have e := Lib.decode_N ⟨⟨s⟩⟩ pos
 have hf := Jzl (s.length - pos) (s.getD pos 0).toNat (s.getD (pos + 1) 0).toNat (s.getD (pos + 2) 0).toNat (s.getD (pos + 3) 0).toNat
 have e2 : (⟨⟨s⟩⟩ : ByteArray).data.toList = s := rfl
 rw [e2] at e
 rw [<- e] at hf
 obtain ⟨f1, f2⟩ := hf
 have hget : ∀ j b, s[pos + j]? = some b -> s.getD (pos + j) 0 = b := fun j b hj => by rw [List.getD_eq_getElem?_getD, hj]; rfl
 refine ⟨fun h1 => ?_, fun h1 b hb => ?_⟩
 . obtain ⟨g1, g2⟩ := f1 h1
   obtain ⟨b, eb⟩ := Jag h
   have := hget 0 b (by simpa using eb)
   simp only [Nat.add_zero] at this
   rw [this] at g1
   have hb : b = 32 := UInt8.toNat_inj.1 (by simpa using g1)
   exact ⟨by rw [eb, hb], g2⟩
 . obtain ⟨g0, g1, g2, g3, g4⟩ := f2 h1
   obtain ⟨j, hj⟩ := List.getElem?_of_mem hb
   have hjw : j < (Utf8.decode ⟨⟨s⟩⟩ pos).2 := by
     have := (gsI.1 hj).1
     rw [List.length_take] at this; omega
   rw [List.getElem?_take_of_lt hjw, List.getElem?_drop] at hj
   rintro rfl
   have hv := hget j 32 hj
   rcases (by omega : j = 0 \/ j = 1 \/ j = 2 \/ j = 3) with rfl | rfl | rfl | rfl
   . rw [Nat.add_zero] at hv; rw [hv] at g0; exact g0 rfl
   . rw [hv] at g1; exact g1 (by omega) rfl
   . rw [hv] at g2; exact g2 (by omega) rfl
   . rw [hv] at g3; exact g3 (by omega) rfl
theorem J48 (s : Txt) : ∀ (f pos : Nat) (st : Option Nat) (acc : List (Nat × Nat)), s.length <= pos + f -> pos <= s.length -> (∀ a, st = some a -> a < pos) ->
   acc.map (fun p => Lib.pieceU s p.1 p.2) ++ fldG (Lib.openPiece s st pos) (s.drop pos) = (Lib.closeSpans ⟨⟨s⟩⟩ (Lib.spansFromP (fun x => x == 32) ⟨⟨s⟩⟩ f pos st acc)).map (fun p => Lib.pieceU s p.1 p.2) := by
 have hsz : (⟨⟨s⟩⟩ : ByteArray).size = s.length := rfl
 have hend : ∀ (f : Nat) (st : Option Nat) (acc : List (Nat × Nat)), (∀ a, st = some a -> a < s.length) ->
     acc.map (fun p => Lib.pieceU s p.1 p.2) ++ fldG (Lib.openPiece s st s.length) (s.drop s.length) = (Lib.closeSpans ⟨⟨s⟩⟩ (Lib.spansFromP (fun x => x == 32) ⟨⟨s⟩⟩ f s.length st acc)).map (fun p => Lib.pieceU s p.1 p.2) := fun f st acc hst => by
   rw [Lib.spansFromP_end _ _ _ _ _ _ (by rw [hsz]; omega), List.drop_length]
   cases st with
   | none => simp [Lib.closeSpans, Lib.openPiece, fldG]
   | some a =>
     have := Lib.pieceU_ne s a s.length (hst a rfl) (Nat.le_refl _)
     simp [Lib.closeSpans, Lib.openPiece, fldG, this, hsz]
 intro f
 induction f with
 | zero =>
   intro pos st acc h hp hst
   obtain rfl : pos = s.length := by omega
   exact hend 0 st acc hst
 | succ f ih =>
   intro pos st acc h hp hst
   by_cases hlt : pos < s.length
   . have hw := Lib.width_pos ⟨⟨s⟩⟩ pos
     have hwn : pos + (Utf8.decode ⟨⟨s⟩⟩ pos).2 <= s.length := by
       have := Lib.decodeN_le_n' ((⟨⟨s⟩⟩ : ByteArray).size - pos) ((⟨⟨s⟩⟩ : ByteArray).get! pos).toNat ((⟨⟨s⟩⟩ : ByteArray).get! (pos + 1)).toNat ((⟨⟨s⟩⟩ : ByteArray).get! (pos + 2)).toNat ((⟨⟨s⟩⟩ : ByteArray).get! (pos + 3)).toNat (by rw [hsz]; omega)
       rw [<- Lib.decode_at, hsz] at this
       omega
     obtain ⟨c1, c2⟩ := Jzm hlt
     have hsp : s.drop pos = (s.drop pos).take (Utf8.decode ⟨⟨s⟩⟩ pos).2 ++ s.drop (pos + (Utf8.decode ⟨⟨s⟩⟩ pos).2) := by rw [<- List.drop_drop, List.take_append_drop]
     simp only [Lib.spansFromP, hsz, if_pos hlt]
     by_cases hb : (Utf8.decode ⟨⟨s⟩⟩ pos).1 = 32
     . obtain ⟨d1, d2⟩ := c1 hb
       have hd : s.drop pos = 32 :: s.drop (pos + 1) := by rw [List.drop_eq_getElem_cons hlt]; rw [List.getElem?_eq_getElem hlt, Option.some.injEq] at d1; rw [d1]
       simp only [hb, beq_self_eq_true, if_true, d2, hd, fldG]
       cases st with
       | none =>
         have := ih (pos + 1) none acc (by omega) (by omega) (fun a h => by cases h)
         simpa [Lib.openPiece] using this
       | some a =>
         have hpn := Lib.pieceU_ne s a pos (hst a rfl) (by omega)
         have := ih (pos + 1) none (acc ++ [(a, pos)]) (by omega) (by omega) (fun a h => by cases h)
         simpa [Lib.openPiece, hpn] using this
     . have hb2 : ((Utf8.decode ⟨⟨s⟩⟩ pos).1 == 32) = false := by simpa using hb
       rw [hsp, Jq7 (c2 hb)]
       simp only [hb2, Bool.false_eq_true, if_false]
       cases st with
       | none =>
         have := ih (pos + (Utf8.decode ⟨⟨s⟩⟩ pos).2) (some pos) acc (by omega) hwn (fun a h => by cases h; omega)
         have e : Lib.openPiece s none pos ++ (s.drop pos).take (Utf8.decode ⟨⟨s⟩⟩ pos).2 = Lib.openPiece s (some pos) (pos + (Utf8.decode ⟨⟨s⟩⟩ pos).2) := by
           simp only [Lib.openPiece]
           unfold Lib.pieceU
           rw [List.nil_append, Nat.add_sub_cancel_left]
         rw [e]; exact this
       | some a =>
         have := ih (pos + (Utf8.decode ⟨⟨s⟩⟩ pos).2) (some a) acc (by omega) hwn (fun b h => by cases h; have := hst a rfl; omega)
         have e : Lib.openPiece s (some a) pos ++ (s.drop pos).take (Utf8.decode ⟨⟨s⟩⟩ pos).2 = Lib.openPiece s (some a) (pos + (Utf8.decode ⟨⟨s⟩⟩ pos).2) := by
           simp only [Lib.openPiece]
           rw [Lib.pieceU_grow _ _ _ _ (Nat.le_of_lt (hst a rfl))]
         rw [e]; exact this
   . obtain rfl : pos = s.length := by omega
     exact hend (f + 1) st acc hst
theorem J0p (s : Txt) : (Lib.goFieldsP (fun x => x == 32) ⟨⟨s⟩⟩).map (fun x => x.data.toList) = fldR s := by
 have h := J48 s s.length 0 none [] (by omega) (by omega) (fun a h => by cases h)
 rw [Jna]
 have e : fldG [] s = fldG (Lib.openPiece s none 0) (s.drop 0) := rfl
 rw [e]
 rw [List.map_nil, List.nil_append] at h
 rw [h]
 unfold Lib.goFieldsP Lib.spansOfP
 have hsz : (⟨⟨s⟩⟩ : ByteArray).size = s.length := rfl
 rw [List.map_map, hsz]
 refine List.map_congr_left fun p _ => ?_
 simp only [Function.comp, Lib.pieceU, Lib.extract_data]
def linS : Txt -> Txt -> List Txt × Txt
 | [], cur => ([], cur)
 | b :: t, cur => if b = 10 then (cur :: (linS t []).1, (linS t []).2) else linS t (cur ++ [b])
def Ja0 (s : Txt) : List Txt := (linS s []).1
theorem Jkv : ∀ {s cur : Txt}, (linS s cur).1.length <= s.length
 | [], cur => by simp [linS]
 | b :: t, cur => by
   unfold linS
   split
   . simp only [List.length_cons]
     have := @Jkv t []
     omega
   . have := @Jkv t (cur ++ [b])
     simp only [List.length_cons]
     omega
theorem Jkw : ∀ {s cur : Txt} {l : Txt}, l ∈ (linS s cur).1 -> l.length <= cur.length + s.length
 | [], cur, l, h => by simp [linS] at h
 | b :: t, cur, l, h => by
   unfold linS at h
   split at h
   . rcases List.mem_cons.1 h with rfl | h
     . simp
     . have := @Jkw t [] l h
       simp only [List.length_cons, List.length_nil] at this ⊢
       omega
   . have := @Jkw t (cur ++ [b]) l h
     simp only [List.length_cons, List.length_append, List.length_nil] at this ⊢
     omega
theorem Jio : ∀ {s cur : Txt}, s ≠ [] -> ((linS s cur).2 = [] ↔ s.getLast? = some 10)
 | [], _, h => absurd rfl h
 | [b], cur, _ => by
   unfold linS
   by_cases hb : b = 10
   . subst hb; simp [linS]
   . simp [hb, linS]
 | b :: c :: t, cur, _ => by
   unfold linS
   rw [List.getLast?_cons_cons]
   split
   . exact Jio (s := c :: t) (by simp)
   . exact Jio (s := c :: t) (by simp)
end Go.Am
namespace Go.Am
open Go Go.Proofs Go.Pn
def dotI (s : Txt) : Int := idxI s fun b => decide (b = 46)
def befD (s : Txt) : Txt := s.take (dotI s).toNat
def aftD (s : Txt) : Txt := s.drop ((dotI s).toNat + 1)
def Jgc (ps : List Part) (s : Txt) : Option Int := (ps.find? fun p => decide (p.name = s)).map (·.kind)
def Jiu (k : Int) (s : Txt) : Bool := decide (0 <= Jen k.toNat s)
def Jca (ps : List Part) (s : Txt) : Int := if dotI s < 0 then 4 else match Jgc ps (befD s) with
 | none => 6
 | some k => if Jiu k (aftD s) then 0 else 6
def Jb1 (ps : List Part) (s : Txt) : End := if Jca ps s = 0 then ⟨befD s, aftD s⟩ else ⟨[], []⟩
def Jbs (w : Txt) : Int := idxI (List.range 14) fun k => decide (Jc5 k = w)
def partOf (a b : Txt) (o : Option Txt) : Part := ⟨Jbs b, a, match o with | some c => valOf c | none => 0⟩
def Jit (o : Option Txt) : Int := match o with | some c => Jcu c | none => 0
def Jbh (ps : List Part) (a b : Txt) (o : Option Txt) : Int :=
 if Jbs b < 0 then 6 else if Jit o ≠ 0 then Jit o else if Ja7 (partOf a b o) ≠ 0 then Ja7 (partOf a b o) else if a ∈ ps.map (·.name) then 7 else if ps.length = 64 then 5 else 0
def Jbb (ps : List Part) (a b : Txt) (o : Option Txt) : List Part := if Jbh ps a b o = 0 then ps ++ [partOf a b o] else ps
def Jco (ps : List Part) : List Txt -> Int
 | [a, b] => Jbh ps a b none
 | [a, b, c] => Jbh ps a b (some c)
 | _ => 4
def Jbd (ps : List Part) : List Txt -> List Part
 | [a, b] => Jbb ps a b none
 | [a, b, c] => Jbb ps a b (some c)
 | _ => ps
def ordX (x : EndP) : EndP := ordE x.1 x.2
def Jcp (d : Drf) (a b : Txt) : Int :=
 if Jca d.parts a ≠ 0 then Jca d.parts a else if Jca d.parts b ≠ 0 then Jca d.parts b else
 if Jb1 d.parts a = Jb1 d.parts b \/ ordE (Jb1 d.parts a) (Jb1 d.parts b) ∈ d.pipes.map ordX then 7 else if d.pipes.length = 256 then 5 else 0
def Jb0 (d : Drf) (a b : Txt) : List EndP := if Jcp d a b = 0 then d.pipes ++ [(Jb1 d.parts a, Jb1 d.parts b)] else d.pipes
def Jc3 (d : Drf) : List Txt -> Int
 | [a, b] => Jcp d a b
 | _ => 4
def Jbj (d : Drf) : List Txt -> List EndP
 | [a, b] => Jb0 d a b
 | _ => d.pipes
def Jcv : Txt := [112, 97, 114, 116]
def Jde : Txt := [112, 105, 112, 101]
def Jv0 (d : Drf) : List Txt -> Int
 | [] => 0
 | h :: t => if h.head? = some 35 then 0 else if h = Jcv then Jco d.parts t else if h = Jde then Jc3 d t else 4
def Jf5 (d : Drf) : List Txt -> Drf
 | [] => d
 | h :: t => if h.head? = some 35 then d else if h = Jcv then ⟨Jbd d.parts t, d.pipes⟩ else if h = Jde then ⟨d.parts, Jbj d t⟩ else d
def linE (d : Drf) (s : Txt) : Int := Jv0 d (fldR s)
def Jbt (d : Drf) (s : Txt) : Drf := Jf5 d (fldR s)
def runD (d : Drf) : List Txt -> Drf
 | [] => d
 | l :: ls => if linE d l = 0 then runD (Jbt d l) ls else Jbt d l
def Jgf (d : Drf) : List Txt -> Nat
 | [] => 0
 | l :: ls => if linE d l = 0 then Jgf (Jbt d l) ls + 1 else 0
def runE (d : Drf) : List Txt -> Int
 | [] => 0
 | l :: ls => if linE d l = 0 then runE (Jbt d l) ls else linE d l
def noD : Drf := ⟨[], []⟩
def noC : Circuit := ⟨[], []⟩
def prsE (s : Txt) : Int := if 16384 < s.length then 17 else if (linS s []).2 ≠ [] then 18 else
 if runE noD (Ja0 s) ≠ 0 then runE noD (Ja0 s) else Jad (Jap (runD noD (Ja0 s)))
def prsI (s : Txt) : Int := if 16384 < s.length then 0 else if (linS s []).2 ≠ [] then 0 else
 if runE noD (Ja0 s) ≠ 0 then Jgf noD (Ja0 s) else if Jad (Jap (runD noD (Ja0 s))) ≠ 0 then (Ja0 s).length else 0
def prsC (s : Txt) : Circuit := if prsE s = 0 then Jap (runD noD (Ja0 s)) else noC
theorem J1d {ps : List Part} {s : Txt} {k : Int} (h : Jgc ps s = some k) : s ∈ ps.map (·.name) := by
 unfold Jgc at h
 obtain ⟨p, hp, _⟩ := Option.map_eq_some_iff.1 h
 have h2 := List.find?_some hp
 exact List.mem_map.2 ⟨p, List.mem_of_find?_eq_some hp, by simpa using h2⟩
theorem Jt0 {ps : List Part} {s : Txt} (h : Jca ps s = 0) : (Jb1 ps s).part ∈ ps.map (·.name) := by
 unfold Jb1
 rw [if_pos h]
 unfold Jca at h
 split at h
 . cases h
 . split at h
   . cases h
   . rename_i k e
     exact J1d e
theorem Jtg {ps : List Part} {a b : Txt} {o : Option Txt} : ∀ p ∈ ps, p ∈ Jbb ps a b o := fun p hp => by
 unfold Jbb; split
 . exact List.mem_append_left _ hp
 . exact hp
theorem Jth {ps : List Part} {w : List Txt} : ∀ p ∈ ps, p ∈ Jbd ps w := fun p hp => by
 unfold Jbd; split
 . exact Jtg p hp
 . exact Jtg p hp
 . exact hp
theorem Jtf {ps : List Part} {a b : Txt} {o : Option Txt} (h : (ps.map (·.name)).Nodup) : ((Jbb ps a b o).map (·.name)).Nodup := by
 unfold Jbb
 split
 . rename_i e
   rw [List.map_append, List.nodup_append]
   refine ⟨h, by simp, fun x hx y hy => ?_⟩
   simp [partOf] at hy
   subst hy
   intro e2
   subst e2
   unfold Jbh at e
   split at e
   . cases e
   . split at e
     . contradiction
     . split at e
       . contradiction
       . first | (rw [if_pos hx] at e; cases e) | cases e
 . exact h
theorem J3p {ps : List Part} {w : List Txt} (h : (ps.map (·.name)).Nodup) : ((Jbd ps w).map (·.name)).Nodup := by
 unfold Jbd; split
 . exact Jtf h
 . exact Jtf h
 . exact h
theorem J3y {d : Drf} (h : DrfOk d) {w : List Txt} : ∀ x ∈ Jbj d w, x.1.part ∈ d.parts.map (·.name) /\ x.2.part ∈ d.parts.map (·.name) := fun x hx => by
 unfold Jbj at hx
 split at hx
 . unfold Jb0 at hx
   split at hx
   . rename_i a b _ e
     rcases List.mem_append.1 hx with hx | hx
     . exact h.ends x hx
     . simp at hx
       subst hx
       unfold Jcp at e
       split at e
       . contradiction
       . rename_i h1
         split at e
         . contradiction
         . rename_i h2
           exact ⟨Jt0 (by simpa using h1), Jt0 (by simpa using h2)⟩
   . exact h.ends x hx
 . exact h.ends x hx
theorem Jo8 {d : Drf} (h : DrfOk d) {w : List Txt} : DrfOk (Jf5 d w) := by
 unfold Jf5
 split
 . exact h
 . split
   . exact h
   . split
     . refine ⟨J3p h.nd, fun x hx => ?_⟩
       obtain ⟨h1, h2⟩ := h.ends x hx
       obtain ⟨p, hp, e1⟩ := List.mem_map.1 h1
       obtain ⟨q, hq, e2⟩ := List.mem_map.1 h2
       exact ⟨List.mem_map.2 ⟨p, Jth p hp, e1⟩, List.mem_map.2 ⟨q, Jth q hq, e2⟩⟩
     . split
       . exact ⟨h.nd, J3y h⟩
       . exact h
theorem Jod : ∀ {ls : List Txt} {d : Drf}, DrfOk d -> DrfOk (runD d ls)
 | [], _, h => h
 | l :: ls, d, h => by
   unfold runD
   split
   . exact Jod (Jo8 h)
   . exact Jo8 h
theorem Jk3 : DrfOk noD := ⟨List.nodup_nil, by simp [noD]⟩
structure DrfSz (d : Drf) : Prop where
 parts : d.parts.length <= 64
 pipes : d.pipes.length <= 256
theorem Jo9 {d : Drf} (h : DrfSz d) {w : List Txt} : DrfSz (Jf5 d w) := by
 have hp : ∀ {a b : Txt} {o : Option Txt}, (Jbb d.parts a b o).length <= 64 := fun {a b o} => by
   unfold Jbb
   split
   . rename_i e
     have h1 := h.parts
     have : d.parts.length ≠ 64 := fun e2 => by
       unfold Jbh at e
       split at e
       . cases e
       . split at e
         . contradiction
         . split at e
           . contradiction
           . split at e
             . cases e
             . first | (rw [if_pos e2] at e; cases e) | cases e
     simp only [List.length_append, List.length_cons, List.length_nil]; omega
   . exact h.parts
 have hq : ∀ {a b : Txt}, (Jb0 d a b).length <= 256 := fun {a b} => by
   unfold Jb0
   split
   . rename_i e
     have h1 := h.pipes
     have : d.pipes.length ≠ 256 := fun e2 => by
       unfold Jcp at e
       split at e
       . contradiction
       . split at e
         . contradiction
         . split at e
           . cases e
           . first | (rw [if_pos e2] at e; cases e) | cases e
     simp only [List.length_append, List.length_cons, List.length_nil]; omega
   . exact h.pipes
 unfold Jf5
 split
 . exact h
 . split
   . exact h
   . split
     . refine ⟨?_, h.pipes⟩
       simp only [Jbd]
       split
       . exact hp
       . exact hp
       . exact h.parts
     . split
       . refine ⟨h.parts, ?_⟩
         simp only [Jbj]
         split
         . exact hq
         . exact h.pipes
       . exact h
theorem Joe : ∀ {ls : List Txt} {d : Drf}, DrfSz d -> DrfSz (runD d ls)
 | [], _, h => h
 | l :: ls, d, h => by
   unfold runD
   split
   . exact Joe (Jo9 h)
   . exact Jo9 h
theorem Jk4 : DrfSz noD := ⟨by simp [noD], by simp [noD]⟩
def Jax (c : Circuit) (p : Port) : End := ⟨nameAt c p.part, p.name⟩
def endX (a : End) : Txt := a.part ++ 46 :: a.port
def Jgi : Txt := [112, 97, 114, 116, 32]
def Jlm : Txt := [112, 105, 112, 101, 32]
def partT (p : Part) : Txt := (Jgi ++ p.name ++ [32] ++ Jc5 p.kind.toNat) ++ (if p.kind = 12 then 32 :: Lib.decDigits p.delay.toNat else [])
def Jfy (c : Circuit) (x : Pipe) : Txt := Jlm ++ endX (Jax c x.fr) ++ [32] ++ endX (Jax c x.to)
def J5j (c : Circuit) : List Txt := c.parts.map partT ++ c.pipes.map (Jfy c)
def unl (ls : List Txt) : Txt := ls.flatMap fun l => l ++ [10]
def Jgm (c : Circuit) : Txt := unl (J5j c)
def Jei (c : Circuit) : Int := if Jad c ≠ 0 then Jad c else if 16384 < (Jgm c).length then 17 else 0
def fmtC (c : Circuit) : Txt := if Jei c = 0 then Jgm c else []
def cntC (c : Circuit) : List Int := (List.range 14).map fun (k : Nat) => ((c.parts.countP fun p => decide (p.kind = (k : Int)) : Nat) : Int)
def cntR (c : Circuit) : List Int := if Jad c = 0 then cntC c else []
def drfC (c : Circuit) : Drf := ⟨c.parts, c.pipes.map fun x => (Jax c x.fr, Jax c x.to)⟩
def Jbz (f : Txt -> Txt) (a : End) : End := ⟨f a.part, a.port⟩
def Jbw (f : Txt -> Txt) (p : Part) : Part := ⟨p.kind, f p.name, p.delay⟩
def mapD (f : Txt -> Txt) (d : Drf) : Drf := ⟨d.parts.map (Jbw f), d.pipes.map fun x => (Jbz f x.1, Jbz f x.2)⟩
def Jbe (c : Circuit) (old new s : Txt) : Txt := if s = old then new else
 if Jdi c (Jeb c old) = 1 /\ (s = old ++ [48] /\ 0 <= swAt c (old ++ [48])) then new ++ [48] else
 if Jdi c (Jeb c old) = 1 /\ (s = old ++ [49] /\ 0 <= swAt c (old ++ [49])) then new ++ [49] else s
def renD (c : Circuit) (old new : Txt) : Drf := mapD (Jbe c old new) (drfC c)
def rnmE (c : Circuit) (old new : Txt) : Int := if Jad c ≠ 0 then Jad c else if Jeb c old < 0 then 6 else
 if ¬ ((renD c old new).parts.map (·.name)).Nodup then 7 else Jad (Jap (renD c old new))
def rnmC (c : Circuit) (old new : Txt) : Circuit := if rnmE c old new = 0 then Jap (renD c old new) else noC
def uniP (ps qs : List Part) : List Part := ps ++ qs.filter fun q => decide (q.name ∉ ps.map (·.name))
def uniX (xs ys : List EndP) : List EndP := xs ++ ys.filter fun y => decide (ordX y ∉ xs.map ordX)
def uniD (a b : Circuit) : Drf := ⟨uniP a.parts b.parts, uniX (drfC a).pipes (drfC b).pipes⟩
def clash (a b : Circuit) : Bool := b.parts.any fun q => a.parts.any fun p => decide (p.name = q.name) && !decide (p = q)
def uniE (a b : Circuit) : Int := if Jad a ≠ 0 then Jad a else if Jad b ≠ 0 then Jad b else if clash a b then 16 else
 if 64 < (uniD a b).parts.length \/ 256 < (uniD a b).pipes.length then 5 else 0
def uniC (a b : Circuit) : Circuit := if uniE a b = 0 then Jap (uniD a b) else noC
end Go.Am
namespace Go.Am
open Go Go.Proofs Go.Pn
theorem J1t {c : Circuit} (h : Jad c = 0) : AscB Op.bytesLess (c.parts.map (·.name)) := by
 refine List.pairwise_map.2 (List.pairwise_iff_getElem.2 fun i j hi hj hij => ?_)
 exact Jjs (Jtj h hij (List.getElem?_eq_getElem hi) (List.getElem?_eq_getElem hj))
theorem Jdz {c : Circuit} (h : Jad c = 0) : (c.parts.map (·.name)).Nodup := by
 refine List.pairwise_map.2 (List.pairwise_iff_getElem.2 fun i j hi hj hij => ?_)
 intro e
 have := Jtj h hij (List.getElem?_eq_getElem hi) (List.getElem?_eq_getElem hj)
 rw [e, Jew] at this
 cases this
theorem Jkz {c : Circuit} {p : Port} (h : Jb5 c p = 0) : nameAt c p.part ∈ c.parts.map (·.name) := by
 obtain ⟨q, e, _⟩ := Jdh.1 h
 unfold nameAt
 rw [e]
 exact List.mem_map_of_mem (List.mem_of_getElem? e)
theorem Jjr {c : Circuit} (h : Jad c = 0) {p : Port} (hp : Jb5 c p = 0) : (⟨atNm (c.parts.map (·.name)) (nameAt c p.part), p.name⟩ : Port) = p := by
 obtain ⟨q, e, h0, _⟩ := Jdh.1 hp
 have : atNm (c.parts.map (·.name)) (nameAt c p.part) = p.part.toNat := by
   refine Jgv (Jdz h) ?_
   unfold nameAt
   rw [List.getElem?_map, e]; rfl
 rw [this]
 obtain ⟨a, b⟩ := p
 simp only at h0 ⊢
 rw [Int.toNat_of_nonneg h0]
def Jga (c : Circuit) (x : Pipe) : EndP := (Jax c x.fr, Jax c x.to)
theorem Jem {c : Circuit} (h : Jad c = 0) {x : Pipe} (hx : x ∈ c.pipes) : Jb5 c x.fr = 0 /\ Jb5 c x.to = 0 /\ Jbi x.fr x.to = true := Jtr.1 ((Jc0.1 h).2.2.1 x hx)
theorem Jf9 {c : Circuit} (h : Jad c = 0) : DrfOk (drfC c) := by
 refine ⟨Jdz h, fun x hx => ?_⟩
 obtain ⟨y, hy, rfl⟩ := List.mem_map.1 hx
 obtain ⟨h1, h2, _⟩ := Jem h hy
 exact ⟨Jkz h1, Jkz h2⟩
theorem J1q {c : Circuit} (h : Jad c = 0) : Jav c.parts = c.parts.map (·.name) := J00 Jho (J1t h)
theorem Jqv {c : Circuit} (h : Jad c = 0) {p q : Port} (hp : Jb5 c p = 0) (hq : Jb5 c q = 0) : Jcd (Jax c p) (Jax c q) = Jbi p q := by
 have := Jiv (Jdz h) (a := Jax c p) (b := Jax c q) (Jkz hp) (Jkz hq)
 rw [J1q h] at this
 rw [<- this]
 show Jbi ⟨atNm _ (nameAt c p.part), p.name⟩ ⟨atNm _ (nameAt c q.part), q.name⟩ = _
 rw [Jjr h hp, Jjr h hq]
theorem Js7 {c : Circuit} (h : Jad c = 0) {x : Pipe} (hx : x ∈ c.pipes) : ordX (Jga c x) = Jga c x := by
 obtain ⟨h1, h2, h3⟩ := Jem h hx
 unfold ordX ordE Jga
 rw [if_neg]
 intro h4
 have h5 := Je0.1 h4
 rw [Jqv h h2 h1] at h5
 have h6 := J34 h3
 rw [h5] at h6
 cases h6
theorem Jtv {c : Circuit} (h : Jad c = 0) {x : Pipe} (hx : x ∈ c.pipes) : Jc2 (c.parts.map (·.name)) (Jga c x) = x := by
 obtain ⟨h1, h2, _⟩ := Jem h hx
 unfold Jc2 Jga Jax
 rw [Jjr h h1, Jjr h h2]
theorem Jgh {d : Drf} (h : DrfOk d) : (Jap d).parts.Perm d.parts := by
 show (selS Ja1 d.parts).Perm d.parts
 rw [Jok h.nd]
 have h1 : (Jav d.parts).Perm (d.parts.map (·.name)) := Je4
 refine (h1.map (Jdr d.parts)).trans ?_
 rw [List.map_map]
 have : d.parts.map (Jdr d.parts ∘ fun p => p.name) = d.parts := by
   conv => rhs; rw [<- List.map_id d.parts]
   exact List.map_congr_left fun p hp => Je1 h.nd hp
 rw [this]
end Go.Am
namespace Go.Am
open Go Go.Proofs Go.Pn
theorem Jqr {n : Nat} (h : n < 10) : Lib.decDigits n = [UInt8.ofNat (48 + n)] := by rw [Lib.decDigits, dif_pos h]
theorem Jzk {n : Nat} (h : ¬ n < 10) : Lib.decDigits n = Lib.decDigits (n / 10) ++ [UInt8.ofNat (48 + n % 10)] := by rw [Lib.decDigits, dif_neg h]
theorem Jmy : ∀ {k n : Nat}, n < 10 ^ (k + 1) -> (Lib.decDigits n).length <= k + 1
 | 0, n, h => by rw [Jqr (by simpa using h)]; simp
 | k + 1, n, h => by
   by_cases h1 : n < 10
   . rw [Jqr h1]; simp
   . rw [Jzk h1, List.length_append]
     have h2 : n / 10 < 10 ^ (k + 1) := by
       rw [Nat.pow_succ] at h
       exact Nat.div_lt_of_lt_mul (by omega)
     have := Jmy h2
     simp only [List.length_cons, List.length_nil]
     omega
def NoSp (w : Txt) : Prop := w ≠ [] /\ ∀ b ∈ w, b ≠ 32
theorem Jrw {b : UInt8} (h : Jce b = true) : b ≠ 32 /\ b ≠ 46 /\ b ≠ 10 /\ b ≠ 35 := by
 have h2 : (∀ n : Nat, n < 256 -> (Jce (UInt8.ofNat n) = true -> UInt8.ofNat n ≠ 32 /\ UInt8.ofNat n ≠ 46 /\ UInt8.ofNat n ≠ 10 /\ UInt8.ofNat n ≠ 35)) := by decide +kernel
 have h3 := h2 b.toNat b.toNat_lt
 rw [UInt8.ofNat_toNat] at h3
 exact h3 h
theorem Jfh {s : Txt} (h : Jcl s = 0) : s ≠ [] /\ (∀ b ∈ s, Jce b = true) /\ s.length <= 24 := by
 cases s with
 | nil => simp [Jcl] at h
 | cons b r =>
   unfold Jcl at h
   simp only at h
   split at h
   . cases h
   . split at h
     . cases h
     . rename_i h2
       split at h
       . cases h
       . rename_i h3
         refine ⟨by simp, fun x hx => ?_, by omega⟩
         simp only [Bool.not_eq_true', Bool.not_eq_false] at h2
         exact List.all_eq_true.1 h2 x hx
theorem Jdq {p : Part} (h : Ja7 p = 0) : (0 <= p.kind /\ p.kind < 14) /\ Jcl p.name = 0 /\ (p.kind = 12 -> 1 <= p.delay /\ p.delay <= 1000000) /\ (p.kind ≠ 12 -> p.delay = 0) := by
 unfold Ja7 at h
 by_cases h1 : Jbf p.kind = 0
 . rw [if_neg (by simpa using h1)] at h
   by_cases h2 : Jcl p.name = 0
   . rw [if_neg (by simpa using h2)] at h
     refine ⟨Je5.1 h1, h2, ?_, ?_⟩ <;> intro h3 <;> split at h <;> (try cases h) <;> omega
   . rw [if_pos h2] at h; exact absurd h h2
 . rw [if_pos h1] at h; exact absurd h h1
theorem Jds {c : Circuit} (h : Jad c = 0) {p : Part} (hp : p ∈ c.parts) : Ja7 p = 0 := by
 have hf := (Jc0.1 h).1.each
 obtain ⟨j, hj, e⟩ := List.getElem_of_mem hp
 have h2 := Jeh hf hj
 unfold partAt at h2
 rw [List.getElem?_eq_getElem hj, e] at h2
 simp only at h2
 apply Decidable.byContradiction
 intro hne
 rw [if_pos hne] at h2
 exact hne h2
theorem J1p {c : Circuit} (h : Jad c = 0) {p : Port} (hp : Jb5 c p = 0) : Jcl (nameAt c p.part) = 0 := by
 obtain ⟨q, e, _⟩ := Jdh.1 hp
 have := (Jdq (Jds h (List.mem_of_getElem? e))).2.1
 unfold nameAt; rw [e]; exact this
theorem Jvy {k : Nat} (h : k < 14) : NoSp (Jc5 k) /\ (∀ b ∈ Jc5 k, b ≠ 10) /\ Jbs (Jc5 k) = k /\ (Jc5 k).length <= 8 := by
 rcases (by omega : k = 0 \/ k = 1 \/ k = 2 \/ k = 3 \/ k = 4 \/ k = 5 \/ k = 6 \/ k = 7 \/ k = 8 \/ k = 9 \/ k = 10 \/ k = 11 \/ k = 12 \/ k = 13) with rfl|rfl|rfl|rfl|rfl|rfl|rfl|rfl|rfl|rfl|rfl|rfl|rfl|rfl <;> exact ⟨⟨by decide, by decide⟩, by decide, by decide, by decide⟩
theorem Jn0 {q : Part} (hq : 0 <= q.kind /\ q.kind < 14) {s : Txt} (hs : s ∈ Jbp q) : (∀ b ∈ s, b ≠ 32 /\ b ≠ 10) /\ Jiu q.kind s = true /\ s.length <= 2 := by
 have h1 : ∀ k, k < 14 -> ∀ s ∈ Jbv k, (∀ b ∈ s, b ≠ 32 /\ b ≠ 10) /\ 0 <= Jen k s /\ s.length <= 2 := by decide +kernel
 obtain ⟨a, b, d⟩ := h1 q.kind.toNat (by omega) s hs
 exact ⟨a, by unfold Jiu; simpa using b, d⟩
theorem Jqu {c : Circuit} (h : Jad c = 0) {p : Port} (hp : Jb5 c p = 0) : NoSp (endX (Jax c p)) /\ (∀ b ∈ endX (Jax c p), b ≠ 10) /\ (endX (Jax c p)).length <= 27 := by
 obtain ⟨q, e, h0, hm⟩ := Jdh.1 hp
 obtain ⟨hk, _⟩ := Jdq (Jds h (List.mem_of_getElem? e))
 obtain ⟨a, b, d⟩ := Jfh (J1p h hp)
 obtain ⟨f, _, g⟩ := Jn0 hk hm
 unfold endX Jax
 refine ⟨⟨by simp, fun x hx => ?_⟩, fun x hx => ?_, by simp only [List.length_append, List.length_cons]; omega⟩
 . rcases List.mem_append.1 hx with hx | hx
   . exact (Jrw (b x hx)).1
   . rcases List.mem_cons.1 hx with rfl | hx
     . decide
     . exact (f x hx).1
 . rcases List.mem_append.1 hx with hx | hx
   . exact (Jrw (b x hx)).2.2.1
   . rcases List.mem_cons.1 hx with rfl | hx
     . decide
     . exact (f x hx).2
theorem Jny {p : Part} (h : Ja7 p = 0) : (partT p).length <= 50 := by
 obtain ⟨hk, hw, hd, _⟩ := Jdq h
 obtain ⟨_, _, b⟩ := Jfh hw
 obtain ⟨_, _, _, g⟩ := Jvy (k := p.kind.toNat) (by omega)
 unfold partT
 by_cases h12 : p.kind = 12
 . have := @Jmy 6 p.delay.toNat (by have := hd h12; omega)
   rw [if_pos h12]
   simp only [List.length_append, List.length_cons, List.length_nil, Jgi]
   omega
 . rw [if_neg h12]
   simp only [List.length_append, List.length_cons, List.length_nil, Jgi]
   omega
theorem J3x {c : Circuit} (h : Jad c = 0) {x : Pipe} (hx : x ∈ c.pipes) : (Jfy c x).length <= 60 := by
 obtain ⟨h1, h2, _⟩ := Jem h hx
 have a := (Jqu h h1).2.2
 have b := (Jqu h h2).2.2
 unfold Jfy
 simp only [List.length_append, List.length_cons, List.length_nil, Jlm]
 omega
theorem Jox : ∀ {ls : List Txt} {n : Nat}, (∀ l ∈ ls, l.length <= n) -> (unl ls).length <= (n + 1) * ls.length
 | [], n, _ => by simp [unl]
 | l :: ls, n, h => by
   have h1 := h l (by simp)
   have h2 := @Jox ls n fun x hx => h x (by simp [hx])
   have e : unl (l :: ls) = (l ++ [10]) ++ unl ls := by simp [unl]
   rw [e, List.length_append, List.length_append, List.length_cons, List.length_cons, List.length_nil, Nat.mul_succ]
   omega
end Go.Am
namespace Go.Am
open Go Go.Proofs Go.Pn
section
variable {c d : Circuit} {g : Int -> Int}
theorem Jtw (h : Jad c = 0) {x : Pipe} (hx : x ∈ c.pipes) : x.fr ∈ allP c /\ x.to ∈ allP c := ⟨Jmh.2 (Jem h hx).1, Jmh.2 (Jem h hx).2.1⟩
end
end Go.Am
namespace Go.Am
open Go Go.Proofs Go.Pn
theorem Jnu {ps : List Part} {x : EndP} (hx : x.1.part ∈ ps.map (·.name) /\ x.2.part ∈ ps.map (·.name)) : (ordX x).1.part ∈ ps.map (·.name) /\ (ordX x).2.part ∈ ps.map (·.name) := Jnt hx
theorem Js9 {c : Circuit} (h : Jad c = 0) {p : Part} (hp : p ∈ c.parts) (hk : p.kind = 6) : ∃ nm q, stem p.name = some nm /\ q ∈ c.parts /\ q.name = nm /\ q.kind = 1 := by
 obtain ⟨j, hj, e⟩ := List.getElem_of_mem hp
 have h2 := Jeh (Jc0.1 h).1.owned hj
 unfold Jdk at h2
 rw [List.getElem?_eq_getElem hj, e] at h2
 simp only [hk, true_and] at h2
 have h3 : ¬ Jcn c p.name < 0 := fun h3 => by rw [if_pos h3] at h2; cases h2
 unfold Jcn at h3
 cases hs : stem p.name with
 | none => rw [hs] at h3; simp at h3
 | some nm =>
   rw [hs] at h3
   simp only at h3
   cases hf : c.parts.findIdx? fun p => decide (p.name = nm) with
   | none => rw [hf] at h3; simp at h3
   | some i =>
     rw [hf] at h3
     simp only at h3
     obtain ⟨h4, h5, _⟩ := List.findIdx?_eq_some_iff_getElem.1 hf
     split at h3
     . rename_i h6
       rw [List.getElem?_eq_getElem h4] at h6
       exact ⟨nm, c.parts[i], rfl, List.getElem_mem h4, by simpa using h5, by simpa using h6⟩
     . omega
theorem J3o {c : Circuit} (hn : (c.parts.map (·.name)).Nodup) {p q : Part} {nm : Txt} (hs : stem p.name = some nm) (hq : q ∈ c.parts) (e : q.name = nm) (hk : q.kind = 1) : ¬ Jcn c p.name < 0 := by
 unfold Jcn
 rw [hs]
 simp only
 cases hf : c.parts.findIdx? fun p => decide (p.name = nm) with
 | none =>
   rw [List.findIdx?_eq_none_iff] at hf
   have := hf q hq
   simp [e] at this
 | some i =>
   simp only
   obtain ⟨h4, h5, _⟩ := List.findIdx?_eq_some_iff_getElem.1 hf
   have : c.parts[i] = q := by
     have h6 : c.parts[i].name = nm := by simpa using h5
     have h7 := Je1 hn (List.getElem_mem h4)
     have h8 := Je1 hn hq
     rw [h6] at h7
     rw [e] at h8
     rw [<- h7, h8]
   rw [if_pos (by rw [List.getElem?_eq_getElem h4, this]; simpa using hk)]
   omega
theorem J4q {d : Drf} (hd : DrfOk d) (hp : ∀ p ∈ d.parts, Ja7 p = 0) (ho : ∀ p ∈ d.parts, p.kind = 6 -> ∃ nm q, stem p.name = some nm /\ q ∈ d.parts /\ q.name = nm /\ q.kind = 1)
   (hx : ∀ x ∈ d.pipes, x.1 ≠ x.2 /\ (∃ p ∈ d.parts, p.name = x.1.part /\ x.1.port ∈ Jbp p) /\ (∃ p ∈ d.parts, p.name = x.2.part /\ x.2.port ∈ Jbp p)) (hn : (d.pipes.map ordX).Nodup) (h1 : d.parts.length <= 64) (h2 : d.pipes.length <= 256) : Jad (Jap d) = 0 := by
 have hpm := Jgh hd
 have hnames : (Jap d).parts.map (·.name) = Jav d.parts := Jlj
 have hnd : ((Jap d).parts.map (·.name)).Nodup := by rw [hnames]; exact Jnp hd.nd
 have hasc : AscB Op.bytesLess ((Jap d).parts.map (·.name)) := by rw [hnames]; exact Jg6 Jho
 have hpipes : (Jap d).pipes = (Jar Ja6 (d.pipes.map ordX)).map (Jc2 (Jav d.parts)) := by rw [<- Jie hd]; rfl
 have hport : ∀ {s t : Txt}, (∃ p ∈ d.parts, p.name = s /\ t ∈ Jbp p) -> Jb5 (Jap d) ⟨atNm (Jav d.parts) s, t⟩ = 0 := fun {s t} ⟨p, hpd, e1, e2⟩ => by
   subst e1
   have hm : p.name ∈ d.parts.map (·.name) := List.mem_map_of_mem hpd
   obtain ⟨i, e⟩ := List.getElem?_of_mem (Jiq.2 hm)
   rw [Jgv (Jnp hd.nd) e]
   have e3 : ((Jap d).parts.map (·.name))[i]? = some p.name := by rw [hnames]; exact e
   rw [List.getElem?_map, Option.map_eq_some_iff] at e3
   obtain ⟨q, e4, e5⟩ := e3
   have e6 : q = p := by
     have a := Je1 hd.nd (hpm.mem_iff.1 (List.mem_of_getElem? e4))
     have b := Je1 hd.nd hpd
     rw [e5] at a
     rw [<- a, b]
   subst e6
   exact Jdh.2 ⟨q, by simpa using e4, by simp, e2⟩
 refine Jc0.2 ⟨⟨by rw [hpm.length_eq]; exact h1, ?_, ?_⟩, ?_, ?_, ?_⟩
 . refine Jm9.2 fun k hk => ?_
   obtain ⟨p, e⟩ := Jag hk
   unfold partAt
   rw [e]
   simp only
   rw [if_neg (by simpa using hp p (hpm.mem_iff.1 (List.mem_of_getElem? e)))]
   cases k with
   | zero => rw [if_neg (by omega)]
   | succ k =>
     obtain ⟨q, e2⟩ := Jag (xs := (Jap d).parts) (k := k) (by omega)
     rw [show k + 1 - 1 = k by omega, e2]
     simp only [Option.map_some, Option.getD_some]
     rw [if_neg]
     rintro ⟨_, h3⟩
     have hl1 : k < ((Jap d).parts.map (·.name)).length := by simp; omega
     have hl2 : k + 1 < ((Jap d).parts.map (·.name)).length := by simpa using hk
     have h4 := List.pairwise_iff_getElem.1 hasc k (k + 1) hl1 hl2 (by omega)
     have h5 := List.pairwise_iff_getElem.1 hnd k (k + 1) hl1 hl2 (by omega)
     have g1 := (gsI.1 e).2
     have g2 := (gsI.1 e2).2
     simp only [List.getElem_map, g1, g2] at h4 h5
     cases h6 : Op.bytesLess q.name p.name with
     | true => exact h3 h6
     | false => exact h5 (Jfn h6 h4)
 . refine Jm9.2 fun k hk => ?_
   obtain ⟨p, e⟩ := Jag hk
   unfold Jdk
   rw [e]
   simp only
   rw [if_neg]
   rintro ⟨h3, h4⟩
   obtain ⟨nm, q, a1, a2, a3, a4⟩ := ho p (hpm.mem_iff.1 (List.mem_of_getElem? e)) h3
   exact J3o hnd a1 (hpm.mem_iff.2 a2) a3 a4 h4
 . rw [hpipes, List.length_map, Jea, List.length_map]; exact h2
 . intro x hxm
   rw [hpipes] at hxm
   obtain ⟨y, hy, rfl⟩ := List.mem_map.1 hxm
   obtain ⟨z, hz, rfl⟩ := List.mem_map.1 (Jim.1 hy)
   obtain ⟨z1, z2, z3⟩ := hx z hz
   obtain ⟨w1, w2⟩ := hd.ends z hz
   rw [Jtr]
   have hlt : Jcd (ordX z).1 (ordX z).2 = true := by
     unfold ordX ordE
     by_cases h3 : 0 < Jb4 z.1 z.2
     . rw [if_pos h3]; exact Je0.1 h3
     . rw [if_neg h3]
       cases e : Jcd z.1 z.2 with
       | true => rfl
       | false =>
         refine absurd (Jdu.total e ?_) z1
         cases e2 : Jcd z.2 z.1 with
         | false => rfl
         | true => exact absurd (Je0.2 e2) h3
   have hends := Jnu (ps := d.parts) (x := z) ⟨w1, w2⟩
   refine ⟨?_, ?_, ?_⟩
   . show Jb5 _ ⟨atNm _ (ordX z).1.part, (ordX z).1.port⟩ = 0
     refine hport ?_
     unfold ordX ordE; split
     . exact z3
     . exact z2
   . show Jb5 _ ⟨atNm _ (ordX z).2.part, (ordX z).2.port⟩ = 0
     refine hport ?_
     unfold ordX ordE; split
     . exact z2
     . exact z3
   . show Jbi ⟨atNm _ (ordX z).1.part, (ordX z).1.port⟩ ⟨atNm _ (ordX z).2.part, (ordX z).2.port⟩ = true
     rw [Jiv hd.nd hends.1 hends.2]
     exact hlt
 . rw [hpipes]
   refine List.pairwise_map.2 ?_
   have a : AscB Ja6 (Jar Ja6 (d.pipes.map ordX)) := Jg6 Jfe
   have b : (Jar Ja6 (d.pipes.map ordX)).Nodup := Je4.nodup_iff.2 hn
   refine (a.and b).imp_of_mem fun {x y} hxm hym h3 => ?_
   obtain ⟨x', hx', rfl⟩ := List.mem_map.1 (Jim.1 hxm)
   obtain ⟨y', hy', rfl⟩ := List.mem_map.1 (Jim.1 hym)
   rw [Jtu hd.nd (Jnu (hd.ends x' hx')) (Jnu (hd.ends y' hy'))]
   cases e : Ja6 (ordX x') (ordX y') with
   | true => rfl
   | false => exact absurd (Jfe.total e h3.1) h3.2
theorem J1o {c : Circuit} (h : Jad c = 0) {p q : Part} (hp : p ∈ c.parts) (hq : q ∈ c.parts) (e : p.name = q.name) : p = q := by
 have a := Je1 (Jdz h) hp
 have b := Je1 (Jdz h) hq
 rw [e] at a
 rw [<- a, b]
theorem Jk0 {c : Circuit} {i : Nat} {q : Part} (e : c.parts[i]? = some q) : nameAt c (i : Int) = q.name := by unfold nameAt; rw [Int.toNat_natCast, e]
theorem Jla {c : Circuit} {p : Port} (hp : p ∈ allP c) : ∃ (i : Nat) (q : Part), p.part = i /\ c.parts[i]? = some q /\ p.name ∈ Jbp q := by
 obtain ⟨q, e, h0, hm⟩ := Jdh.1 (Jmh.1 hp)
 exact ⟨p.part.toNat, q, by omega, e, hm⟩
theorem Jqn {a b : Circuit} (h : clash a b = false) {p q : Part} (hp : p ∈ a.parts) (hq : q ∈ b.parts) (e : p.name = q.name) : p = q := by
 unfold clash at h
 rw [List.any_eq_false] at h
 have h1 := h q hq
 simp only [Bool.not_eq_true, List.any_eq_false] at h1
 have h2 := h1 p hp
 simpa [e] using h2
theorem J6j {ps qs : List Part} (h1 : (ps.map (·.name)).Nodup) (h2 : (qs.map (·.name)).Nodup) : ((uniP ps qs).map (·.name)).Nodup := by
 unfold uniP
 rw [List.map_append, List.nodup_append]
 refine ⟨h1, (List.filter_sublist.map _).nodup h2, fun x hx y hy => ?_⟩
 obtain ⟨q, hq, rfl⟩ := List.mem_map.1 hy
 have := (List.mem_filter.1 hq).2
 rintro rfl
 simp at this
 obtain ⟨p, hp, e⟩ := List.mem_map.1 hx
 exact this p hp e
theorem Jow {a b : Circuit} (h : clash a b = false) {p : Part} : p ∈ uniP a.parts b.parts ↔ p ∈ a.parts \/ p ∈ b.parts := by
 unfold uniP
 rw [List.mem_append, List.mem_filter]
 constructor
 . rintro (h1 | ⟨h1, _⟩)
   . exact .inl h1
   . exact .inr h1
 . rintro (h1 | h1)
   . exact .inl h1
   . by_cases h2 : p.name ∈ a.parts.map (·.name)
     . obtain ⟨q, hq, e⟩ := List.mem_map.1 h2
       rw [<- Jqn h hq h1 e]; exact .inl hq
     . exact .inr ⟨h1, by simpa using h2⟩
theorem Jvo {xs ys : List EndP} (h1 : (xs.map ordX).Nodup) (h2 : (ys.map ordX).Nodup) : ((uniX xs ys).map ordX).Nodup := by
 unfold uniX
 rw [List.map_append, List.nodup_append]
 refine ⟨h1, (List.filter_sublist.map _).nodup h2, fun x hx y hy => ?_⟩
 obtain ⟨q, hq, rfl⟩ := List.mem_map.1 hy
 have := (List.mem_filter.1 hq).2
 rintro rfl
 rw [decide_eq_true_eq] at this
 exact this hx
theorem Jfs {c : Circuit} (h : Jad c = 0) : ((drfC c).pipes.map ordX).Nodup := by
 show ((c.pipes.map fun x => (Jax c x.fr, Jax c x.to)).map ordX).Nodup
 rw [List.map_map]
 have hn : c.pipes.Nodup := (Jc0.1 h).2.2.2.imp fun h1 e => by subst e; rw [Jts] at h1; cases h1
 refine List.pairwise_map.2 (hn.imp_of_mem fun {x y} hx hy hne e => hne ?_)
 have e2 : ordX (Jga c x) = ordX (Jga c y) := e
 rw [Js7 h hx, Js7 h hy] at e2
 have e1 := Jtv h hx
 rw [e2, Jtv h hy] at e1
 exact e1.symm
theorem Jov {a b : Circuit} (ha : Jad a = 0) (hb : Jad b = 0) (h : clash a b = false) : DrfOk (uniD a b) := by
 refine ⟨J6j (Jdz ha) (Jdz hb), fun x hx => ?_⟩
 have hsub : ∀ s, s ∈ a.parts.map (·.name) \/ s ∈ b.parts.map (·.name) -> s ∈ (uniD a b).parts.map (·.name) := by
   rintro s (hs | hs) <;> obtain ⟨p, hp, rfl⟩ := List.mem_map.1 hs
   . exact List.mem_map_of_mem ((Jow h).2 (.inl hp))
   . exact List.mem_map_of_mem ((Jow h).2 (.inr hp))
 have hx2 : x ∈ (drfC a).pipes \/ x ∈ (drfC b).pipes := by
   rcases List.mem_append.1 hx with h1 | h1
   . exact .inl h1
   . exact .inr (List.mem_filter.1 h1).1
 rcases hx2 with h1 | h1
 . obtain ⟨g1, g2⟩ := (Jf9 ha).ends x h1; exact ⟨hsub _ (.inl g1), hsub _ (.inl g2)⟩
 . obtain ⟨g1, g2⟩ := (Jf9 hb).ends x h1; exact ⟨hsub _ (.inr g1), hsub _ (.inr g2)⟩
theorem J6p {a b : Circuit} (h : uniE a b = 0) : Jad a = 0 /\ Jad b = 0 /\ clash a b = false /\ (uniD a b).parts.length <= 64 /\ (uniD a b).pipes.length <= 256 /\ uniC a b = Jap (uniD a b) := by
 have h0 := h
 unfold uniE at h
 by_cases h1 : Jad a = 0
 . rw [if_neg (by simpa using h1)] at h
   by_cases h2 : Jad b = 0
   . rw [if_neg (by simpa using h2)] at h
     cases h3 : clash a b with
     | true => rw [h3] at h; simp at h
     | false =>
       rw [h3, if_neg (by simp)] at h
       split at h
       . cases h
       . rename_i h4
         exact ⟨h1, h2, rfl, by omega, by omega, by unfold uniC; rw [if_pos h0]⟩
   . rw [if_pos h2] at h; exact absurd h h2
 . rw [if_pos h1] at h; exact absurd h h1
theorem J6q {a b : Circuit} (h : uniE a b = 0) : Jad (uniC a b) = 0 := by
 obtain ⟨ha, hb, hc, l1, l2, e⟩ := J6p h
 rw [e]
 have hm : ∀ {p}, p ∈ (uniD a b).parts ↔ p ∈ a.parts \/ p ∈ b.parts := Jow hc
 have hside : ∀ {c : Circuit}, Jad c = 0 -> (∀ p ∈ c.parts, p ∈ (uniD a b).parts) -> ∀ x ∈ (drfC c).pipes, x.1 ≠ x.2 /\ (∃ p ∈ (uniD a b).parts, p.name = x.1.part /\ x.1.port ∈ Jbp p) /\ (∃ p ∈ (uniD a b).parts, p.name = x.2.part /\ x.2.port ∈ Jbp p) := fun {c} h1 hsub x hx => by
   obtain ⟨y, hy, rfl⟩ := List.mem_map.1 hx
   obtain ⟨g1, g2, g3⟩ := Jem h1 hy
   have key : ∀ {p : Port}, Jb5 c p = 0 -> ∃ q ∈ (uniD a b).parts, q.name = (Jax c p).part /\ (Jax c p).port ∈ Jbp q := fun {p} hp => by
     obtain ⟨q, e1, _, e3⟩ := Jdh.1 hp
     refine ⟨q, hsub q (List.mem_of_getElem? e1), ?_, e3⟩
     unfold Jax nameAt; rw [e1]
   refine ⟨fun e2 => ?_, key g1, key g2⟩
   have h4 := Jqv h1 g1 g2
   have e3 : Jax c y.fr = Jax c y.to := e2
   rw [e3, Jdu.irrefl, g3] at h4
   cases h4
 refine J4q (Jov ha hb hc) (fun p hp => ?_) (fun p hp hk => ?_) (fun x hx => ?_) (Jvo (Jfs ha) (Jfs hb)) l1 l2
 . rcases hm.1 hp with h1 | h1
   . exact Jds ha h1
   . exact Jds hb h1
 . rcases hm.1 hp with h1 | h1
   . obtain ⟨nm, q, a1, a2, a3, a4⟩ := Js9 ha h1 hk; exact ⟨nm, q, a1, hm.2 (.inl a2), a3, a4⟩
   . obtain ⟨nm, q, a1, a2, a3, a4⟩ := Js9 hb h1 hk; exact ⟨nm, q, a1, hm.2 (.inr a2), a3, a4⟩
 . rcases List.mem_append.1 hx with h1 | h1
   . exact hside ha (fun p hp => hm.2 (.inl hp)) x h1
   . exact hside hb (fun p hp => hm.2 (.inr hp)) x (List.mem_filter.1 h1).1
end Go.Am
namespace Go.Am
open Go Go.Proofs Go.Pn
section
variable {c d : Circuit} {g : Int -> Int}
end
end Go.Am
