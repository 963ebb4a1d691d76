/- Lemmas and contracts for the proof of a statement of this seat. -/
import Derived.Lib.Bytealg
set_option linter.unusedVariables false
set_option linter.unusedSimpArgs false
namespace Go.Pn
open Go
abbrev Txt := List UInt8
structure Part where
 kind : Int
 name : Txt
 delay : Int
 deriving DecidableEq
structure Port where
 part : Int
 name : Txt
 deriving DecidableEq
structure Pipe where
 fr : Port
 to : Port
 deriving DecidableEq
structure Circuit where
 parts : List Part
 pipes : List Pipe
 deriving DecidableEq
def Je0 (b : UInt8) : Bool := (65 <= b && b <= 90) || (97 <= b && b <= 122)
def isDigit (b : UInt8) : Bool := 48 <= b && b <= 57
def Jbu (b : UInt8) : Bool := Je0 b || isDigit b || b == 95
def Jbt (s : Txt) : Int :=
 match s with
 | [] => 3
 | b :: _ => if !Je0 b then 3 else if !s.all Jbu then 3 else if s.length > 24 then 17 else 0
def cmpI (a b : Int) : Int := if a < b then -1 else if b < a then 1 else 0
def orI : List Int -> Int
 | [] => 0
 | x :: xs => if x = 0 then orI xs else x
def Jcd (a b : Port) : Int := orI [cmpI a.part b.part, Lib.compareBytes a.name b.name]
def Jfr (a b : Pipe) : Int := orI [Jcd a.fr b.fr, Jcd a.to b.to]
theorem Jjz {a b : UInt8} : a < b ↔ a.toNat < b.toNat := UInt8.lt_iff_toNat_lt
theorem Jdu : ∀ (a : Txt), Op.bytesLess a a = false
 | [] => rfl
 | a :: x => by simp [Op.bytesLess, Jdu x, Jjz]
theorem Jmc : ∀ {a b : Txt}, Op.bytesLess a b = true -> Op.bytesLess b a = false
 | _, [], h => by simp [Op.bytesLess] at h
 | [], _ :: _, _ => rfl
 | a :: x, b :: y, h => by
   simp only [Op.bytesLess, Bool.or_eq_true, Bool.and_eq_true, decide_eq_true_eq, beq_iff_eq, Bool.or_eq_false_iff, Bool.and_eq_false_iff, decide_eq_false_iff_not, Jjz, <- UInt8.toNat_inj] at h ⊢
   rcases h with h | ⟨h1, h2⟩
   . refine ⟨by omega, .inl ?_⟩
     simp; rw [<- UInt8.toNat_inj]; omega
   . exact ⟨by omega, .inr (Jmc h2)⟩
theorem Jhj : ∀ {a b : Txt}, Op.bytesLess a b = false -> Op.bytesLess b a = false -> a = b
 | [], [], _, _ => rfl
 | [], _ :: _, h, _ => by simp [Op.bytesLess] at h
 | _ :: _, [], _, h => by simp [Op.bytesLess] at h
 | a :: x, b :: y, h1, h2 => by
   simp only [Op.bytesLess, Bool.or_eq_false_iff, Bool.and_eq_false_iff, decide_eq_false_iff_not, Jjz] at h1 h2
   have e : a = b := by rw [<- UInt8.toNat_inj]; omega
   subst e
   simp at h1 h2
   rw [Jhj h1 h2]
theorem Jil : ∀ {a b c : Txt}, Op.bytesLess a b = true -> Op.bytesLess b c = true -> Op.bytesLess a c = true
 | _, _, [], _, h => by simp [Op.bytesLess] at h
 | _, [], _ :: _, h, _ => by simp [Op.bytesLess] at h
 | [], _ :: _, _ :: _, _, _ => rfl
 | a :: x, b :: y, c :: z, h1, h2 => by
   simp only [Op.bytesLess, Bool.or_eq_true, Bool.and_eq_true, decide_eq_true_eq, beq_iff_eq, Jjz] at h1 h2 ⊢
   rcases h1 with h1 | ⟨rfl, h1⟩ <;> rcases h2 with h2 | ⟨rfl, h2⟩
   . exact .inl (by omega)
   . exact .inl h1
   . exact .inl h2
   . exact .inr ⟨rfl, Jil h1 h2⟩
theorem Jmd {a b : Txt} : (Op.bytesLess a b || decide (a = b)) = !Op.bytesLess b a := by
 cases h : Op.bytesLess a b with
 | true => simp [Jmc h]
 | false =>
   cases h2 : Op.bytesLess b a with
   | true =>
     have : a ≠ b := by rintro rfl; rw [Jdu] at h2; cases h2
     simp [this]
   | false => simp [Jhj h h2]
theorem Jvw : ∀ {a b : Txt}, Lib.compareBytes a b < 0 ↔ Op.bytesLess a b = true
 | [], [] => by simp [Lib.compareBytes, Op.bytesLess]
 | [], _ :: _ => by simp [Lib.compareBytes, Op.bytesLess]
 | _ :: _, [] => by simp [Lib.compareBytes, Op.bytesLess]
 | a :: x, b :: y => by
   simp only [Lib.compareBytes, Op.bytesLess, Bool.or_eq_true, Bool.and_eq_true, decide_eq_true_eq, beq_iff_eq, Jjz]
   split
   . rename_i h; simp [h]
   . rename_i h
     split
     . rename_i h2
       have : a ≠ b := by rintro rfl; omega
       simp [h, this]
     . rename_i h2
       have e : a = b := by rw [<- UInt8.toNat_inj]; omega
       subst e
       simp [Jvw]
theorem Jio : ∀ {a b : Txt}, Lib.compareBytes a b = 0 ↔ a = b
 | [], [] => by simp [Lib.compareBytes]
 | [], _ :: _ => by simp [Lib.compareBytes]
 | _ :: _, [] => by simp [Lib.compareBytes]
 | a :: x, b :: y => by
   simp only [Lib.compareBytes, Jjz]
   split
   . rename_i h
     have : a ≠ b := by rintro rfl; omega
     simp [this]
   . rename_i h
     split
     . rename_i h2
       have : a ≠ b := by rintro rfl; omega
       simp [this]
     . have e : a = b := by rw [<- UInt8.toNat_inj]; omega
       subst e
       simp [Jio]
def Ja3 (a b : Port) : Bool := if a.part = b.part then Op.bytesLess a.name b.name else decide (a.part < b.part)
def Je4 (a b : Pipe) : Bool := if a.fr = b.fr then Ja3 a.to b.to else Ja3 a.fr b.fr
def t1 : Txt := [49]
def t2 : Txt := [50]
def t3 : Txt := [51]
def t4 : Txt := [52]
def t5 : Txt := [53]
def t10 : Txt := [49, 48]
def t11 : Txt := [49, 49]
def t12 : Txt := [49, 50]
def t14 : Txt := [49, 52]
def Jbs : Nat -> List (List Txt)
 | 0 => [[], [t1], [], [], []]
 | 1 => [[], [], [], [], [t2, t4]]
 | 2 => [[t1], [t2, t4], [t3, t5], [t12, t14], []]
 | 3 => [[t1], [t2, t4], [t3, t5], [t14], []]
 | 4 => [[t1], [t2], [t3], [t12], []]
 | 5 => [[t1], [t2], [t3], [t10], []]
 | 6 => [[t1], [t2], [t3], [], []]
 | 7 => [[t1], [t2], [t3], [], []]
 | 8 => [[t1, t11], [t2], [], [], []]
 | 9 => [[t1, t11], [t2], [], [], []]
 | 10 => [[t1], [t2], [t3], [], []]
 | 11 => [[t1], [t2], [], [], []]
 | 12 => [[t1], [t2], [t3], [t12], []]
 | 13 => [[t1], [t2], [t3], [t12], []]
 | _ => []
def Jao : Nat -> List Txt
 | 0 => [t1]
 | 1 => [t2, t4]
 | 2 => [t1, t12, t14, t2, t3, t4, t5]
 | 3 => [t1, t14, t2, t3, t4, t5]
 | 4 => [t1, t12, t2, t3]
 | 5 => [t1, t10, t2, t3]
 | 6 => [t1, t2, t3]
 | 7 => [t1, t2, t3]
 | 8 => [t1, t11, t2]
 | 9 => [t1, t11, t2]
 | 10 => [t1, t2, t3]
 | 11 => [t1, t2]
 | 12 => [t1, t12, t2, t3]
 | 13 => [t1, t12, t2, t3]
 | _ => []
def Jas (k : Int) : Int := if k < 0 \/ 14 <= k then 1 else 0
def Jbq (p : Part) : List Txt := Jao p.kind.toNat
def Jbb (p : Part) : Int :=
 if Jas p.kind ≠ 0 then Jas p.kind else if Jbt p.name ≠ 0 then Jbt p.name else
 if (p.kind = 12 /\ (p.delay < 1 \/ p.delay > 1000000)) \/ (p.kind ≠ 12 /\ p.delay ≠ 0) then 2 else 0
end Go.Pn
namespace Go.Pn
open Go
theorem Jk5 (a : Port) : Ja3 a a = false := by simp [Ja3, Jdu]
theorem Kfg {a b : Port} (h : Ja3 a b = true) : Ja3 b a = false := by
 unfold Ja3 at *
 by_cases e : a.part = b.part
 . rw [if_pos e] at h; rw [if_pos e.symm]; exact Jmc h
 . rw [if_neg e] at h; rw [if_neg (Ne.symm e)]; simp at h ⊢; omega
theorem Jru {a b c : Port} (h : Ja3 a b = true) (k : Ja3 b c = true) : Ja3 a c = true := by
 unfold Ja3 at *
 by_cases e : a.part = b.part
 . rw [if_pos e] at h
   by_cases e2 : b.part = c.part
   . rw [if_pos e2] at k; rw [if_pos (e.trans e2)]; exact Jil h k
   . rw [if_neg e2] at k; rw [if_neg (fun x => e2 (e.symm.trans x))]; simp at k ⊢; omega
 . rw [if_neg e] at h
   simp at h
   by_cases e2 : b.part = c.part
   . rw [if_neg (fun x => e (x.trans e2.symm))]; simp; omega
   . rw [if_neg e2] at k; simp at k; rw [if_neg (by omega)]; simp; omega
theorem J0r {a b : Port} (h : Ja3 a b = false) (k : Ja3 b a = false) : a = b := by
 unfold Ja3 at *
 by_cases e : a.part = b.part
 . rw [if_pos e] at h; rw [if_pos e.symm] at k
   have := Jhj h k
   cases a; cases b; simp_all
 . rw [if_neg e] at h; rw [if_neg (Ne.symm e)] at k; simp at h k; omega
abbrev Ups := List (Port × Port)
def upOf (es : Ups) (p : Port) : Option Port := match es with
 | [] => none
 | (a, b) :: es => if a = p then some b else upOf es p
def Jd7 (es : Ups) : Nat -> Port -> Port
 | 0, p => p
 | n + 1, p => match upOf es p with
   | none => p
   | some q => Jd7 es n q
def rootOf (es : Ups) (p : Port) : Port := Jd7 es es.length p
structure UpsOk (es : Ups) : Prop where
 lt : ∀ a b, (a, b) ∈ es -> Ja3 b a = true
 nodup : (es.map (·.1)).Nodup
theorem Kik {es : Ups} {p q : Port} (h : upOf es p = some q) : (p, q) ∈ es := by
 induction es with
 | nil => cases h
 | cons e es ih =>
   obtain ⟨a, b⟩ := e
   simp only [upOf] at h
   by_cases e : a = p
   . rw [if_pos e] at h; cases h; subst e; simp
   . rw [if_neg e] at h; exact List.mem_cons_of_mem _ (ih h)
theorem J19 {es : Ups} {p : Port} (h : upOf es p = none) : ∀ q, (p, q) ∉ es := by
 induction es with
 | nil => simp
 | cons e es ih =>
   obtain ⟨a, b⟩ := e
   simp only [upOf] at h
   by_cases e : a = p
   . rw [if_pos e] at h; cases h
   . rw [if_neg e] at h
     intro q hq
     rcases List.mem_cons.1 hq with h1 | h1
     . cases h1; exact e rfl
     . exact ih h q h1
theorem Jic {es : Ups} {a b p : Port} : upOf (es ++ [(a, b)]) p = match upOf es p with | some q => some q | none => if a = p then some b else none := by
 induction es with
 | nil => simp [upOf]
 | cons e es ih =>
   obtain ⟨c, d⟩ := e
   simp only [List.cons_append, upOf]
   by_cases e : c = p
   . simp [e]
   . simp [e, ih]
def Jid (es : Ups) (p : Port) : Nat := (es.filter fun e => !Ja3 p e.1).length
theorem Jsy {es : Ups} {p : Port} : Jid es p <= es.length := List.length_filter_le ..
theorem J79 {α : Type} {f g : α -> Bool} {l : List α} (h : ∀ x ∈ l, f x = true -> g x = true) : (l.filter f).length <= (l.filter g).length := by
 induction l with
 | nil => simp
 | cons x l ih =>
   have := ih fun y hy => h y (List.mem_cons_of_mem _ hy)
   have hx := h x (List.mem_cons_self ..)
   simp only [List.filter_cons]
   cases hf : f x <;> cases hg : g x <;> simp_all <;> omega
theorem filter_lt {α : Type} {f g : α -> Bool} {l : List α} {y : α} (h : ∀ x ∈ l, f x = true -> g x = true) (hy : y ∈ l) (hf : f y = false) (hg : g y = true) : (l.filter f).length < (l.filter g).length := by
 induction l with
 | nil => cases hy
 | cons x l ih =>
   have h' : ∀ z ∈ l, f z = true -> g z = true := fun z hz => h z (List.mem_cons_of_mem _ hz)
   have hx := h x (List.mem_cons_self ..)
   simp only [List.filter_cons]
   rcases List.mem_cons.1 hy with e | e
   . subst e
     have := J79 h'
     simp [hf, hg]; omega
   . have := ih h' e
     cases hf' : f x <;> cases hg' : g x <;> simp_all <;> omega
theorem Jlp {es : Ups} (ok : UpsOk es) {p q : Port} (h : upOf es p = some q) : Jid es q < Jid es p := by
 have hm := Kik h
 have hlt := ok.lt p q hm
 refine filter_lt (y := (p, q)) (fun x _ hx => ?_) hm (by simp [hlt]) (by simp [Jk5])
 simp at hx ⊢
 cases hpx : Ja3 p x.1 with
 | false => rfl
 | true => rw [Jru hlt hpx] at hx; cases hx
theorem Jsa {es : Ups} (ok : UpsOk es) : ∀ {n : Nat} {p : Port}, Jid es p <= n -> upOf es (Jd7 es n p) = none /\ ∀ m, Jid es p <= m -> Jd7 es m p = Jd7 es n p
 | 0, p, h => by
   have h0 : upOf es p = none := by
     cases hu : upOf es p with
     | none => rfl
     | some q => have := Jlp ok hu; omega
   refine ⟨h0, fun m _ => ?_⟩
   cases m with
   | zero => rfl
   | succ m => simp [Jd7, h0]
 | n + 1, p, h => by
   cases hu : upOf es p with
   | none =>
     refine ⟨by simp [Jd7, hu], fun m _ => ?_⟩
     cases m with
     | zero => simp [Jd7, hu]
     | succ m => simp [Jd7, hu]
   | some q =>
     have hlt := Jlp ok hu
     obtain ⟨h1, h2⟩ := Jsa ok (n := n) (p := q) (by omega)
     refine ⟨by simpa [Jd7, hu] using h1, fun m hm => ?_⟩
     cases m with
     | zero => omega
     | succ m => simpa [Jd7, hu] using h2 m (by omega)
theorem Jok {es : Ups} (ok : UpsOk es) (p : Port) : upOf es (rootOf es p) = none := (Jsa ok Jsy).1
theorem Jld {es : Ups} (ok : UpsOk es) {p q : Port} (h : upOf es p = some q) : rootOf es p = rootOf es q := by
 have h1 := (Jsa ok (n := es.length) (p := p) Jsy).2 (es.length + 1) (by have := @Jsy es p; omega)
 unfold rootOf
 rw [<- h1]
 simp [Jd7, h]
theorem Jh4 {es : Ups} {p : Port} (h : upOf es p = none) : rootOf es p = p := by
 unfold rootOf
 cases es with
 | nil => rfl
 | cons e es => simp [Jd7, h]
theorem UpsOk.join {es : Ups} (ok : UpsOk es) {a b : Port} (hb : upOf es b = none) (h : Ja3 a b = true) : UpsOk (es ++ [(b, a)]) where
 lt := fun c d hm => by
   rcases List.mem_append.1 hm with hm | hm
   . exact ok.lt c d hm
   . simp at hm; obtain ⟨rfl, rfl⟩ := hm; exact h
 nodup := by
   rw [List.map_append, List.nodup_append]
   refine ⟨ok.nodup, by simp, fun x hx y hy => ?_⟩
   simp at hy; subst hy
   obtain ⟨⟨c, d⟩, hm, rfl⟩ := List.mem_map.1 hx
   rintro rfl
   exact J19 hb d hm
theorem Joj {es : Ups} (ok : UpsOk es) {a b : Port} (ha : upOf es a = none) (hb : upOf es b = none) (h : Ja3 a b = true) (p : Port) :
   rootOf (es ++ [(b, a)]) p = if rootOf es p = b then a else rootOf es p := by
 have ok2 := ok.join hb h
 have hab : b ≠ a := by rintro rfl; rw [Jk5] at h; cases h
 have key : ∀ n p, Jid es p <= n -> rootOf (es ++ [(b, a)]) p = if rootOf es p = b then a else rootOf es p := by
   intro n
   induction n with
   | zero =>
     intro p hn
     have h0 : upOf es p = none := by
       cases hu : upOf es p with
       | none => rfl
       | some q => have := Jlp ok hu; omega
     rw [Jh4 h0]
     by_cases e : p = b
     . subst e
       rw [if_pos rfl, Jld ok2 (q := a) (by simp [Jic, h0]), Jh4 (by simp [Jic, ha, hab])]
     . rw [if_neg e, Jh4 (by simp [Jic, h0, Ne.symm e])]
   | succ n ih =>
     intro p hn
     cases h0 : upOf es p with
     | some q =>
       have := Jlp ok h0
       rw [Jld ok2 (q := q) (by simp [Jic, h0]), Jld ok h0, ih q (by omega)]
     | none =>
       rw [Jh4 h0]
       by_cases e : p = b
       . subst e
         rw [if_pos rfl, Jld ok2 (q := a) (by simp [Jic, h0]), Jh4 (by simp [Jic, ha, hab])]
       . rw [if_neg e, Jh4 (by simp [Jic, h0, Ne.symm e])]
 exact key _ p (Nat.le_refl _)
def Jgy (es : Ups) (x : Pipe) : Ups :=
 let a := rootOf es x.fr
 let b := rootOf es x.to
 if a = b then es else if Ja3 b a then es ++ [(a, b)] else es ++ [(b, a)]
theorem Kak {es : Ups} (ok : UpsOk es) (x : Pipe) : UpsOk (Jgy es x) /\ ∀ p q, rootOf (Jgy es x) p = rootOf (Jgy es x) q ↔
   rootOf es p = rootOf es q \/ (rootOf es p = rootOf es x.fr /\ rootOf es q = rootOf es x.to) \/ (rootOf es p = rootOf es x.to /\ rootOf es q = rootOf es x.fr) := by
 have ha := Jok ok x.fr
 have hb := Jok ok x.to
 unfold Jgy
 generalize hA : rootOf es x.fr = a at *
 generalize hB : rootOf es x.to = b at *
 simp only
 by_cases e : a = b
 . rw [if_pos e]
   refine ⟨ok, fun p q => ?_⟩
   subst e
   constructor
   . exact .inl
   . rintro (h | ⟨h, k⟩ | ⟨h, k⟩)
     . exact h
     . rw [h, k]
     . rw [h, k]
 . rw [if_neg e]
   by_cases hl : Ja3 b a = true
   . rw [if_pos hl]
     refine ⟨ok.join ha hl, fun p q => ?_⟩
     rw [Joj ok hb ha hl, Joj ok hb ha hl]
     split <;> split <;> grind
   . rw [if_neg hl]
     have hl2 : Ja3 a b = true := by
       cases h : Ja3 a b with
       | true => rfl
       | false => exact (e (J0r h (by simpa using hl))).elim
     refine ⟨ok.join hb hl2, fun p q => ?_⟩
     rw [Joj ok ha hb hl2, Joj ok ha hb hl2]
     split <;> split <;> grind
def Jbo (ps : List Pipe) : Ups := ps.foldl Jgy []
inductive Conn (ps : List Pipe) : Port -> Port -> Prop
 | refl (p) : Conn ps p p
 | fwd (p : Port) (x : Pipe) : Conn ps p x.fr -> x ∈ ps -> Conn ps p x.to
 | bwd (p : Port) (x : Pipe) : Conn ps p x.to -> x ∈ ps -> Conn ps p x.fr
theorem Conn.trans {ps : List Pipe} {p q r : Port} (h : Conn ps p q) (k : Conn ps q r) : Conn ps p r := by
 induction k with
 | refl => exact h
 | fwd x _ hm ih => exact .fwd p x ih hm
 | bwd x _ hm ih => exact .bwd p x ih hm
theorem Conn.symm {ps : List Pipe} {p q : Port} (h : Conn ps p q) : Conn ps q p := by
 induction h with
 | refl => exact .refl _
 | fwd x _ hm ih => exact (Conn.bwd _ x (.refl _) hm).trans ih
 | bwd x _ hm ih => exact (Conn.fwd _ x (.refl _) hm).trans ih
theorem Conn.mono {ps qs : List Pipe} (hs : ∀ x ∈ ps, x ∈ qs) {p q : Port} (h : Conn ps p q) : Conn qs p q := by
 induction h with
 | refl => exact .refl _
 | fwd x _ hm ih => exact .fwd _ x ih (hs x hm)
 | bwd x _ hm ih => exact .bwd _ x ih (hs x hm)
theorem Conn.nil {p q : Port} (h : Conn [] p q) : p = q := by
 induction h with
 | refl => rfl
 | fwd x _ hm ih => cases hm
 | bwd x _ hm ih => cases hm
theorem J6z {ps : List Pipe} {x : Pipe} {p q : Port} : Conn (ps ++ [x]) p q ↔ Conn ps p q \/ (Conn ps p x.fr /\ Conn ps x.to q) \/ (Conn ps p x.to /\ Conn ps x.fr q) := by
 constructor
 . intro h
   induction h with
   | refl => exact .inl (.refl _)
   | fwd y _ hm ih =>
     rcases List.mem_append.1 hm with hm | hm
     . rcases ih with h | ⟨h, k⟩ | ⟨h, k⟩
       . exact .inl (.fwd _ y h hm)
       . exact .inr (.inl ⟨h, .fwd _ y k hm⟩)
       . exact .inr (.inr ⟨h, .fwd _ y k hm⟩)
     . simp at hm; subst hm
       rcases ih with h | ⟨h, k⟩ | ⟨h, k⟩
       . exact .inr (.inl ⟨h, .refl _⟩)
       . exact .inr (.inl ⟨h, .refl _⟩)
       . exact .inl h
   | bwd y _ hm ih =>
     rcases List.mem_append.1 hm with hm | hm
     . rcases ih with h | ⟨h, k⟩ | ⟨h, k⟩
       . exact .inl (.bwd _ y h hm)
       . exact .inr (.inl ⟨h, .bwd _ y k hm⟩)
       . exact .inr (.inr ⟨h, .bwd _ y k hm⟩)
     . simp at hm; subst hm
       rcases ih with h | ⟨h, k⟩ | ⟨h, k⟩
       . exact .inr (.inr ⟨h, .refl _⟩)
       . exact .inl h
       . exact .inr (.inr ⟨h, .refl _⟩)
 . have hs : ∀ y ∈ ps, y ∈ ps ++ [x] := fun y hy => by simp [hy]
   rintro (h | ⟨h, k⟩ | ⟨h, k⟩)
   . exact h.mono hs
   . exact (Conn.fwd _ x (h.mono hs) (by simp)).trans (k.mono hs)
   . exact (Conn.bwd _ x (h.mono hs) (by simp)).trans (k.mono hs)
theorem Jsz (ps : List Pipe) : UpsOk (Jbo ps) /\ ∀ p q, rootOf (Jbo ps) p = rootOf (Jbo ps) q ↔ Conn ps p q := by
 have h : ∀ n, n <= ps.length -> UpsOk (Jbo (ps.take n)) /\ ∀ p q, rootOf (Jbo (ps.take n)) p = rootOf (Jbo (ps.take n)) q ↔ Conn (ps.take n) p q := by
   intro n
   induction n with
   | zero =>
     intro _
     refine ⟨⟨by simp [Jbo], by simp [Jbo]⟩, fun p q => ?_⟩
     simp [Jbo, rootOf, Jd7]
     exact ⟨fun h => h ▸ .refl _, Conn.nil⟩
   | succ n ih =>
     intro hn
     obtain ⟨ok, hi⟩ := ih (by omega)
     have e : ps.take (n + 1) = ps.take n ++ [ps[n]] := by simp
     rw [e]
     have e2 : Jbo (ps.take n ++ [ps[n]]) = Jgy (Jbo (ps.take n)) ps[n] := by rw [Jbo, List.foldl_append]; rfl
     rw [e2]
     obtain ⟨k1, k2⟩ := Kak ok ps[n]
     refine ⟨k1, fun p q => ?_⟩
     rw [k2, J6z, hi, hi, hi, hi, hi]
     constructor
     . rintro (h | ⟨h, k⟩ | ⟨h, k⟩)
       . exact .inl h
       . exact .inr (.inl ⟨h, k.symm⟩)
       . exact .inr (.inr ⟨h, k.symm⟩)
     . rintro (h | ⟨h, k⟩ | ⟨h, k⟩)
       . exact .inl h
       . exact .inr (.inl ⟨h, k.symm⟩)
       . exact .inr (.inr ⟨h, k.symm⟩)
 have := h ps.length (Nat.le_refl _)
 rwa [List.take_length] at this
def Jbe (f : Port -> Port) (l : List Port) : List Port := l.foldl (fun ks p => if f p ∈ ks then ks else ks ++ [f p]) []
theorem Jjo {f : Port -> Port} {l : List Port} {p : Port} : Jbe f (l ++ [p]) = if f p ∈ Jbe f l then Jbe f l else Jbe f l ++ [f p] := by rw [Jbe, List.foldl_append]; rfl
theorem Jle {f : Port -> Port} {l : List Port} {r : Port} : r ∈ Jbe f l ↔ ∃ p ∈ l, f p = r := by
 have h : ∀ n, n <= l.length -> (r ∈ Jbe f (l.take n) ↔ ∃ p ∈ l.take n, f p = r) := by
   intro n
   induction n with
   | zero => intro _; simp [Jbe]
   | succ n ih =>
     intro hn
     obtain ⟨x, hx⟩ : ∃ x, l[n]? = some x := ⟨_, List.getElem?_eq_getElem (by omega)⟩
     have e : l.take (n + 1) = l.take n ++ [x] := by rw [List.take_add_one, hx]; rfl
     rw [e, Jjo]
     have ih := ih (by omega)
     by_cases hm : f x ∈ Jbe f (l.take n)
     . rw [if_pos hm, ih]
       constructor
       . rintro ⟨p, hp, rfl⟩; exact ⟨p, by simp [hp], rfl⟩
       . rintro ⟨p, hp, rfl⟩
         rcases List.mem_append.1 hp with hp | hp
         . exact ⟨p, hp, rfl⟩
         . simp at hp; subst hp; exact ih.1 hm
     . rw [if_neg hm, List.mem_append, ih]
       constructor
       . rintro (⟨p, hp, rfl⟩ | h)
         . exact ⟨p, by simp [hp], rfl⟩
         . simp at h; subst h; exact ⟨_, by simp, rfl⟩
       . rintro ⟨p, hp, rfl⟩
         rcases List.mem_append.1 hp with hp | hp
         . exact .inl ⟨p, hp, rfl⟩
         . simp at hp; subst hp; exact .inr (by simp)
 have := h l.length (Nat.le_refl _)
 rwa [List.take_length] at this
theorem Jsb {f : Port -> Port} {l : List Port} : (Jbe f l).Nodup := by
 have h : ∀ n, n <= l.length -> (Jbe f (l.take n)).Nodup := by
   intro n
   induction n with
   | zero => intro _; simp [Jbe]
   | succ n ih =>
     intro hn
     obtain ⟨x, hx⟩ : ∃ x, l[n]? = some x := ⟨_, List.getElem?_eq_getElem (by omega)⟩
     have e : l.take (n + 1) = l.take n ++ [x] := by rw [List.take_add_one, hx]; rfl
     rw [e, Jjo]
     by_cases hm : f x ∈ Jbe f (l.take n)
     . rw [if_pos hm]; exact ih (by omega)
     . rw [if_neg hm, List.nodup_append]
       exact ⟨ih (by omega), by simp, fun a ha b hb => by simp at hb; subst hb; rintro rfl; exact hm ha⟩
 have := h l.length (Nat.le_refl _)
 rwa [List.take_length] at this
def groups (f : Port -> Port) (l : List Port) : List (List Port) := (Jbe f l).map fun r => l.filter fun p => decide (f p = r)
theorem J78 {α : Type} {g : α -> Bool} {l : List α} {n : Nat} {x : α} (hx : l[n]? = some x) (hg : g x = true) (hb : ∀ y ∈ l.take n, g y = false) : (l.filter g)[0]? = some x := by
 have h1 : l = l.take n ++ l.drop n := (List.take_append_drop n l).symm
 have hn : n < l.length := (List.getElem?_eq_some_iff.1 hx).1
 have h2 : l.drop n = x :: l.drop (n + 1) := by
   rw [List.drop_eq_getElem_cons hn]
   rw [List.getElem?_eq_getElem hn] at hx; cases hx; rfl
 rw [h1, List.filter_append, List.filter_eq_nil_iff.2 (fun y hy => by simp [hb y hy]), h2]
 simp [hg]
theorem J9l {f : Port -> Port} {l : List Port} (hn : l.Nodup) : groups f l = (l.filter fun p => decide ((l.filter fun q => decide (f q = f p))[0]? = some p)).map fun p => l.filter fun q => decide (f q = f p) := by
 have h : ∀ n, n <= l.length -> Jbe f (l.take n) = ((l.take n).filter fun p => decide ((l.filter fun q => decide (f q = f p))[0]? = some p)).map f := by
   intro n
   induction n with
   | zero => intro _; simp [Jbe]
   | succ n ih =>
     intro hlt
     obtain ⟨x, hx⟩ : ∃ x, l[n]? = some x := ⟨_, List.getElem?_eq_getElem (by omega)⟩
     have e : l.take (n + 1) = l.take n ++ [x] := by rw [List.take_add_one, hx]; rfl
     rw [e, Jjo, List.filter_append, List.map_append, <- ih (by omega)]
     by_cases hm : f x ∈ Jbe f (l.take n)
     . rw [if_pos hm]
       obtain ⟨p, hp, hfp⟩ := Jle.1 hm
       have h0 : ¬ (l.filter fun q => decide (f q = f x))[0]? = some x := by
         intro h0
         have hne : (l.take n).filter (fun q => decide (f q = f x)) ≠ [] := fun h => by
           have := List.filter_eq_nil_iff.1 h p hp
           simp [hfp] at this
         have h1 : l.filter (fun q => decide (f q = f x)) = (l.take n).filter (fun q => decide (f q = f x)) ++ (l.drop n).filter (fun q => decide (f q = f x)) := by rw [<- List.filter_append, List.take_append_drop]
         rw [h1, List.getElem?_append_left (List.length_pos_iff.2 hne)] at h0
         have h3 := List.mem_of_getElem? h0
         have h4 : x ∈ l.take n := (List.mem_filter.1 h3).1
         obtain ⟨k, hk1, hk2⟩ := List.getElem_of_mem h4
         rw [List.length_take] at hk1
         rw [List.getElem_take] at hk2
         obtain ⟨hn1, hx1⟩ := List.getElem?_eq_some_iff.1 hx
         have := (List.getElem_inj hn).1 (hk2.trans hx1.symm)
         omega
       simp [h0]
     . rw [if_neg hm]
       have h0 : (l.filter fun q => decide (f q = f x))[0]? = some x := J78 hx (by simp) fun y hy => by
         simp
         intro hfy
         exact hm (Jle.2 ⟨y, hy, hfy⟩)
       simp [h0]
 have h2 := h l.length (Nat.le_refl _)
 rw [List.take_length] at h2
 unfold groups
 rw [h2, List.map_map]
 rfl
end Go.Pn
namespace Go.Pn
open Go
structure Pass where
 to : Txt
 fr : List Txt
 all : Bool
 deriving DecidableEq
def Jja : Nat -> Bool -> Txt × Txt
 | 2, b => if b then (t4, t2) else (t2, t4)
 | 3, b => if b then (t4, t2) else (t2, t4)
 | 4, b => if b then (t2, []) else ([], t2)
 | 5, b => if b then ([], t2) else (t2, [])
 | 6, b => if b then (t2, []) else ([], t2)
 | 7, b => if b then (t2, []) else ([], t2)
 | 8, _ => (t2, [])
 | 9, _ => (t2, [])
 | 10, _ => (t2, [])
 | 11, _ => (t2, [])
 | 12, b => if b then (t2, []) else ([], t2)
 | 13, b => if b then (t2, []) else ([], t2)
 | _, _ => ([], [])
def insOf (k : Nat) : List Txt := ((Jbs k)[0]?).getD []
def Jd5 (k : Nat) (b : Bool) : List Pass := if (Jja k b).1 = [] then [] else [⟨(Jja k b).1, insOf k, decide (k = 9)⟩]
def Je9 (k : Nat) (b : Bool) : List Txt := if (Jja k b).2 = [] then [] else [(Jja k b).2]
def Jen (k : Nat) : Nat := if ((Jbs k)[2]?).getD [] = [] \/ k = 10 then 1 else 2
def J0l : Nat -> Txt × Txt
 | 2 => (t14, t12)
 | 3 => (t14, [])
 | 4 => (t12, [])
 | 5 => (t10, [])
 | 12 => (t12, [])
 | 13 => (t12, [])
 | _ => ([], [])
def Jb1 (k pos : Int) : Int := if Jas k ≠ 0 then Jas k else if pos < 0 \/ (Jen k.toNat : Int) <= pos then 2 else 0
end Go.Pn
