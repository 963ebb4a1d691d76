/- Lemmas and contracts for the proof of a statement of this seat. -/
import Derived.Test.YthojegdboknbbaaGreatDoorZC1
import Derived.Test.YthojegdboknbbaaGreatDoorZX8
set_option linter.unusedVariables false
set_option linter.unusedSimpArgs false
namespace Go.Am
open Go Go.Proofs Go.Pn
theorem Jq3 {α : Type} [DecidableEq α] : ∀ {l N : List α}, l.Nodup -> (∀ a ∈ l, a ∈ N) -> l.length <= N.length
 | [], N, _, _ => Nat.zero_le _
 | a :: l, N, hn, hs => by
   obtain ⟨h1, h2⟩ := List.nodup_cons.1 hn
   have ha := hs a List.mem_cons_self
   have h3 := Jq3 (l := l) (N := N.erase a) h2 fun b hb => (List.mem_erase_of_ne fun e : b = a => h1 (e ▸ hb)).2 (hs b (List.mem_cons_of_mem _ hb))
   rw [List.length_erase_of_mem ha] at h3
   have h4 := List.length_pos_of_mem ha
   rw [List.length_cons]
   omega
structure Mach (S E K : Type) where
 ev : S -> List E
 nx : S -> E -> Option S
 st : S -> S -> List K
structure Sr (S K : Type) where
 nodes : List S
 begun : List K
 err : Nat
section
variable {S E K : Type} [DecidableEq S] (M : Mach S E K) (most : Nat)
def Jbc (s : S) (x : Sr S K) (e : E) : Sr S K :=
 if x.err ≠ 0 then x else match M.nx s e with
 | none => { x with err := 21 }
 | some t =>
   if t ∈ x.nodes then { x with begun := x.begun ++ M.st s t }
   else ⟨x.nodes ++ [t], x.begun ++ M.st s t, if most < x.nodes.length + 1 then 12 else 0⟩
def Jb5 (s : S) (l : List E) (x : Sr S K) : Sr S K := l.foldl (Jbc M most s) x
def rndS (x : Sr S K) (i : Nat) : Sr S K := match x.nodes[i]? with
 | none => x
 | some s => if x.err ≠ 0 then x else Jb5 M most s (M.ev s) x
def itrS (s0 : S) : Nat -> Sr S K
 | 0 => ⟨[s0], [], 0⟩
 | i + 1 => rndS M most (itrS s0 i) i
theorem Jwt {s : S} {x : Sr S K} {e : E} (h : x.err ≠ 0) : Jbc M most s x e = x := by unfold Jbc; rw [if_pos h]
theorem Jwv {s : S} {x : Sr S K} {e : E} : (∀ t ∈ x.nodes, t ∈ (Jbc M most s x e).nodes) /\ (∀ k ∈ x.begun, k ∈ (Jbc M most s x e).begun) /\ (∃ l, (Jbc M most s x e).nodes = x.nodes ++ l) := by
 unfold Jbc
 split
 . exact ⟨fun _ h => h, fun _ h => h, [], by simp⟩
 . split
   . exact ⟨fun _ h => h, fun _ h => h, [], by simp⟩
   . split
     . exact ⟨fun _ h => h, fun _ h => List.mem_append.2 (.inl h), [], by simp⟩
     . exact ⟨fun _ h => List.mem_append.2 (.inl h), fun _ h => List.mem_append.2 (.inl h), _, rfl⟩
theorem Jk4 {s : S} : ∀ {l : List E} {x : Sr S K}, (∀ t ∈ x.nodes, t ∈ (Jb5 M most s l x).nodes) /\ (∀ k ∈ x.begun, k ∈ (Jb5 M most s l x).begun) /\ (∃ l', (Jb5 M most s l x).nodes = x.nodes ++ l')
 | [], x => ⟨fun _ h => h, fun _ h => h, [], by simp [Jb5]⟩
 | e :: l, x => by
   obtain ⟨a1, a2, l1, a3⟩ := @Jwv S E K _ M most s x e
   obtain ⟨b1, b2, l2, b3⟩ := @Jk4 s l (Jbc M most s x e)
   refine ⟨fun t h => b1 t (a1 t h), fun k h => b2 k (a2 k h), l1 ++ l2, ?_⟩
   show (Jb5 M most s l (Jbc M most s x e)).nodes = _
   rw [b3, a3, List.append_assoc]
theorem Jpc {s : S} {x : Sr S K} {e : E} (h : (Jbc M most s x e).err = 0) : x.err = 0 /\ ∃ t, M.nx s e = some t /\ t ∈ (Jbc M most s x e).nodes /\ ∀ k ∈ M.st s t, k ∈ (Jbc M most s x e).begun := by
 have h0 : x.err = 0 := by
   apply Classical.byContradiction
   intro hc
   rw [Jwt M most hc] at h
   exact hc h
 refine ⟨h0, ?_⟩
 unfold Jbc at h ⊢
 rw [if_neg (by simpa using h0)] at h ⊢
 cases hn : M.nx s e with
 | none => rw [hn] at h; cases h
 | some t =>
   refine ⟨t, rfl, ?_⟩
   by_cases ht : t ∈ x.nodes
   . simp only [if_pos ht]
     exact ⟨ht, fun k hk => List.mem_append.2 (.inr hk)⟩
   . simp only [if_neg ht]
     exact ⟨List.mem_append.2 (.inr (List.mem_singleton.2 rfl)), fun k hk => List.mem_append.2 (.inr hk)⟩
theorem Jpa {s : S} : ∀ {l : List E} {x : Sr S K}, (Jb5 M most s l x).err = 0 -> x.err = 0 /\ ∀ e ∈ l, ∃ t, M.nx s e = some t /\ t ∈ (Jb5 M most s l x).nodes /\ ∀ k ∈ M.st s t, k ∈ (Jb5 M most s l x).begun
 | [], x, h => ⟨h, fun e he => by cases he⟩
 | e :: l, x, h => by
   obtain ⟨b1, b2⟩ := @Jpa s l (Jbc M most s x e) h
   obtain ⟨a1, t, a2, a3, a4⟩ := Jpc M most b1
   obtain ⟨c1, c2, _⟩ := @Jk4 S E K _ M most s l (Jbc M most s x e)
   refine ⟨a1, fun e' he => ?_⟩
   rcases List.mem_cons.1 he with rfl | he
   . exact ⟨t, a2, c1 t a3, fun k hk => c2 k (a4 k hk)⟩
   . exact b2 e' he
theorem Jry {x : Sr S K} {i : Nat} : (∀ t ∈ x.nodes, t ∈ (rndS M most x i).nodes) /\ (∀ k ∈ x.begun, k ∈ (rndS M most x i).begun) /\ (∃ l', (rndS M most x i).nodes = x.nodes ++ l') := by
 unfold rndS
 split
 . exact ⟨fun _ h => h, fun _ h => h, [], by simp⟩
 . split
   . exact ⟨fun _ h => h, fun _ h => h, [], by simp⟩
   . exact Jk4 M most
theorem Jrz {x : Sr S K} {i : Nat} (h : (rndS M most x i).err = 0) : x.err = 0 /\ ∀ s, x.nodes[i]? = some s -> ∀ e ∈ M.ev s, ∃ t, M.nx s e = some t /\ t ∈ (rndS M most x i).nodes /\ ∀ k ∈ M.st s t, k ∈ (rndS M most x i).begun := by
 unfold rndS at h ⊢
 cases hx : x.nodes[i]? with
 | none => rw [hx] at h; exact ⟨h, fun s hs => by cases hs⟩
 | some s =>
   rw [hx] at h
   by_cases h0 : x.err = 0
   . refine ⟨h0, fun s' hs => ?_⟩
     cases hs
     simp only [if_neg (show ¬ x.err ≠ 0 by simpa using h0)] at h ⊢
     exact (Jpa M most h).2
   . simp only [if_pos h0] at h
     exact absurd h h0
theorem Jqc {s0 : S} : ∀ {n : Nat}, (itrS M most s0 n).err = 0 -> ∀ i < n, ∀ s, (itrS M most s0 n).nodes[i]? = some s -> ∀ e ∈ M.ev s, ∃ t, M.nx s e = some t /\ t ∈ (itrS M most s0 n).nodes /\ ∀ k ∈ M.st s t, k ∈ (itrS M most s0 n).begun
 | 0, _, i, hi => by omega
 | n + 1, h, i, hi => by
   intro s hs e he
   obtain ⟨h0, h1⟩ := Jrz M most (x := itrS M most s0 n) h
   obtain ⟨c1, c2, l, c3⟩ := @Jry S E K _ M most (itrS M most s0 n) n
   change (rndS M most (itrS M most s0 n) n).nodes[i]? = some s at hs
   by_cases hl : i < (itrS M most s0 n).nodes.length
   . rw [c3, List.getElem?_append_left hl] at hs
     rcases (by omega : i = n \/ i < n) with rfl | hin
     . exact h1 s hs e he
     . obtain ⟨t, t1, t2, t3⟩ := Jqc h0 i hin s hs e he
       exact ⟨t, t1, c1 t t2, fun k hk => c2 k (t3 k hk)⟩
   . -- the state at n is not there: nothing was added
     have hn : (itrS M most s0 n).nodes[n]? = none := List.getElem?_eq_none (by omega)
     have e0 : rndS M most (itrS M most s0 n) n = itrS M most s0 n := by unfold rndS; rw [hn]
     rw [e0, List.getElem?_eq_none (by omega)] at hs
     cases hs
theorem Jww {s : S} {x : Sr S K} {e : E} (hx : x.err = 0 -> x.nodes.length <= most) : (Jbc M most s x e).err = 0 -> (Jbc M most s x e).nodes.length <= most := by
 intro h
 have h0 := (Jpc M most h).1
 unfold Jbc at h ⊢
 rw [if_neg (by simpa using h0)] at h ⊢
 cases hn : M.nx s e with
 | none => rw [hn] at h; cases h
 | some t =>
   rw [hn] at h
   by_cases ht : t ∈ x.nodes
   . simp only [if_pos ht]; exact hx h0
   . simp only [if_neg ht] at h ⊢
     rw [List.length_append]
     by_cases hm : most < x.nodes.length + 1
     . rw [if_pos hm] at h; cases h
     . simpa using hm
theorem Jo9 {s : S} : ∀ {l : List E} {x : Sr S K}, (x.err = 0 -> x.nodes.length <= most) -> (Jb5 M most s l x).err = 0 -> (Jb5 M most s l x).nodes.length <= most
 | [], x, hx, h => hx h
 | e :: l, x, hx, h => Jo9 (x := Jbc M most s x e) (Jww M most hx) h
theorem Jip {s0 : S} (h1 : 1 <= most) : ∀ {n : Nat}, (itrS M most s0 n).err = 0 -> (itrS M most s0 n).nodes.length <= most
 | 0, _ => h1
 | n + 1, h => by
   have h0 := (Jrz M most (x := itrS M most s0 n) h).1
   change (rndS M most (itrS M most s0 n) n).nodes.length <= most
   change (rndS M most (itrS M most s0 n) n).err = 0 at h
   unfold rndS at h ⊢
   cases hx : (itrS M most s0 n).nodes[n]? with
   | none => exact Jip h1 h0
   | some s =>
     rw [hx] at h
     simp only [if_neg (show ¬ (itrS M most s0 n).err ≠ 0 by simpa using h0)] at h ⊢
     exact Jo9 M most (fun _ => Jip h1 h0) h
theorem Jqa {s0 : S} : ∀ {n : Nat}, s0 ∈ (itrS M most s0 n).nodes
 | 0 => List.mem_singleton.2 rfl
 | n + 1 => (Jry M most).1 _ Jqa
def Closed (N : List S) (B : List K) : Prop := ∀ s ∈ N, ∀ e ∈ M.ev s, ∃ t, M.nx s e = some t /\ t ∈ N /\ ∀ k ∈ M.st s t, k ∈ B
theorem Jp9 {s0 : S} (h1 : 1 <= most) {n : Nat} (hn : most <= n) (h : (itrS M most s0 n).err = 0) : Closed M (itrS M most s0 n).nodes (itrS M most s0 n).begun := by
 intro s hs e he
 obtain ⟨i, hi, hx⟩ := List.getElem_of_mem hs
 have hl := Jip M most h1 h
 exact Jqc M most h i (by omega) s (by rw [List.getElem?_eq_getElem hi, hx]) e he
structure InSet (N : List S) (B : List K) (x : Sr S K) : Prop where
 err : x.err = 0
 nodes : ∀ t ∈ x.nodes, t ∈ N
 nodup : x.nodes.Nodup
 begun : ∀ k ∈ x.begun, k ∈ B
theorem Jwu {N : List S} {B : List K} (hN : Closed M N B) (hl : N.length <= most) {s : S} (hs : s ∈ N) {x : Sr S K} {e : E} (he : e ∈ M.ev s) (hx : InSet N B x) : InSet N B (Jbc M most s x e) := by
 obtain ⟨t, h1, h2, h3⟩ := hN s hs e he
 unfold Jbc
 rw [if_neg (by simpa using hx.err), h1]
 by_cases ht : t ∈ x.nodes
 . simp only [if_pos ht]
   exact ⟨hx.err, hx.nodes, hx.nodup, fun k hk => (List.mem_append.1 hk).elim (hx.begun k) (h3 k)⟩
 . simp only [if_neg ht]
   have hnd : (x.nodes ++ [t]).Nodup := by
     rw [List.nodup_append]
     exact ⟨hx.nodup, by simp, fun a ha b hb e => by rw [List.mem_singleton.1 hb] at e; exact ht (e ▸ ha)⟩
   have hsub : ∀ a ∈ x.nodes ++ [t], a ∈ N := fun a ha => (List.mem_append.1 ha).elim (hx.nodes a) fun hb => by rw [List.mem_singleton.1 hb]; exact h2
   have hle : (x.nodes ++ [t]).length <= N.length := Jq3 hnd hsub
   rw [List.length_append] at hle
   refine ⟨if_neg (by simp at hle; omega), hsub, hnd, fun k hk => (List.mem_append.1 hk).elim (hx.begun k) (h3 k)⟩
theorem Jo8 {N : List S} {B : List K} (hN : Closed M N B) (hl : N.length <= most) {s : S} (hs : s ∈ N) : ∀ {l : List E} {x : Sr S K}, (∀ e ∈ l, e ∈ M.ev s) -> InSet N B x -> InSet N B (Jb5 M most s l x)
 | [], x, _, hx => hx
 | e :: l, x, he, hx => Jo8 hN hl hs (x := Jbc M most s x e) (fun e' h => he e' (List.mem_cons_of_mem _ h)) (Jwu M most hN hl hs (he e List.mem_cons_self) hx)
theorem Jqb {N : List S} {B : List K} (hN : Closed M N B) (hl : N.length <= most) {s1 : S} (hs : s1 ∈ N) : ∀ n : Nat, InSet N B (itrS M most s1 n)
 | 0 => ⟨rfl, fun t ht => by rw [List.mem_singleton.1 ht]; exact hs, by simp [itrS], fun k hk => by cases hk⟩
 | n + 1 => by
   have ih := Jqb hN hl hs n
   show InSet N B (rndS M most (itrS M most s1 n) n)
   unfold rndS
   cases hx : (itrS M most s1 n).nodes[n]? with
   | none => exact ih
   | some s =>
     simp only [if_neg (show ¬ (itrS M most s1 n).err ≠ 0 by simpa using ih.err)]
     exact Jo8 M most hN hl (ih.nodes s (List.mem_of_getElem? hx)) (fun _ h => h) ih
theorem J14 {s0 s1 : S} (h1 : 1 <= most) {n m : Nat} (hn : most <= n) (h : (itrS M most s0 n).err = 0) (hs : s1 ∈ (itrS M most s0 n).nodes) :
   (itrS M most s1 m).err = 0 /\ ∀ k ∈ (itrS M most s1 m).begun, k ∈ (itrS M most s0 n).begun := by
 have hi := Jqb M most (Jp9 M most h1 hn h) (Jip M most h1 h) hs m
 exact ⟨hi.err, hi.begun⟩
end
end Go.Am
namespace Go.Am
open Go Go.Proofs Go.Pn
structure Sig where
 name : Txt
 kind : Int
 on : Ex
 off : Ex
 delay : Int
 init : Bool
structure Ctl where
 act : Int
 inputs : List Txt
 sigs : List Sig
 plus : List Int
 minus : List Int
structure Sta where
 ends : List Nat
 valves : List Bool
 inputs : List Bool
 values : List Bool
 timers : List Nat
deriving DecidableEq
structure Evt where
 kind : Int
 idx : Int
 val : Bool
def Jax (s : Sta) : List Bool := (s.ends.flatMap fun e => [decide (e = 0), decide (e = 2)]) ++ s.inputs ++ s.values
def lnF (s : Sta) : Nat -> Bool := fun i => (Jax s).getD i false
def Jdg (x : Sig) (j : Nat) (t : Sta) : Sta := if x.kind = 0 then { t with values := t.values.set j (evX (lnF t) x.on) } else t
def gatesT (c : Ctl) (s : Sta) : Nat -> Sta
 | 0 => s
 | j + 1 => match c.sigs[j]? with
   | none => gatesT c s j
   | some x => Jdg x j (gatesT c s j)
def Jbn (c : Ctl) (s : Sta) : Sta := gatesT c s c.sigs.length
structure Chg where
 val : Bool
 tim : Nat
 con : Bool
def Jb0 (k : Int) (v : Bool) (t : Nat) (on off : Bool) : Chg :=
 if k = 0 then ⟨v, t, false⟩
 else if k = 1 then ⟨if on ≠ off then on else v, t, on && off⟩
 else if on = false then ⟨false, 0, false⟩ else if t = 0 then ⟨v, 1, false⟩ else ⟨v, t, false⟩
structure Rnd where
 st : Sta
 con : List Nat
def Jhc (c : Ctl) (g : Sta) (x : Sig) (j : Nat) (r : Rnd) : Rnd :=
 let y := Jb0 x.kind (r.st.values.getD j false) (r.st.timers.getD j 0) (evX (lnF g) x.on) (decide (x.kind = 1) && evX (lnF g) x.off)
 ⟨{ r.st with values := r.st.values.set j y.val, timers := r.st.timers.set j y.tim }, if y.con then r.con ++ [2 * g.ends.length + g.inputs.length + j] else r.con⟩
def rndT (c : Ctl) (g : Sta) : Nat -> Rnd
 | 0 => ⟨g, []⟩
 | j + 1 => match c.sigs[j]? with
   | none => rndT c g j
   | some x => Jhc c g x j (rndT c g j)
def sRnd (c : Ctl) (s : Sta) : Rnd := rndT c (Jbn c s) c.sigs.length
def setT (c : Ctl) (s : Sta) : Nat -> Sta
 | 0 => s
 | n + 1 => (sRnd c (setT c s n)).st
def Jdj (c : Ctl) (s : Sta) : Option Sta := if (sRnd c (setT c s 64)).st = setT c s 64 then some (setT c s 64) else none
theorem Jsa {c : Ctl} {s : Sta} {n : Nat} (h : (sRnd c (setT c s n)).st = setT c s n) : ∀ m, setT c s (n + m) = setT c s n
 | 0 => rfl
 | m + 1 => by
   show (sRnd c (setT c s (n + m))).st = _
   rw [Jsa h m, h]
theorem Jmk {c : Ctl} {s : Sta} {n : Nat} (hn : n <= 64) (h : (sRnd c (setT c s n)).st = setT c s n) : Jdj c s = some (setT c s n) := by
 have e : setT c s 64 = setT c s n := by
   have := Jsa h (64 - n)
   rwa [show n + (64 - n) = 64 by omega] at this
 unfold Jdj
 rw [e, if_pos h]
def pOne (c : Ctl) (t : Sta) (i : Nat) (u : Sta) : Sta :=
 let p := lnF t ((c.plus.getD i 0).toNat)
 let m := lnF t ((c.minus.getD i 0).toNat)
 let v := if (p && m) = true then u.valves.getD i false else if (p || m) = true then p else u.valves.getD i false
 let a := u.ends.getD i 0
 let b := if v = true then (if a = 2 \/ a = 1 then a else 1) else (if a = 0 \/ a = 3 then a else 3)
 { u with valves := u.valves.set i v, ends := u.ends.set i b }
def pT (c : Ctl) (t : Sta) : Nat -> Sta
 | 0 => t
 | i + 1 => pOne c t i (pT c t i)
def pRnd (c : Ctl) (s : Sta) : Option Sta := (Jdj c s).map fun t => pT c t t.ends.length
def calmT (c : Ctl) : Nat -> Sta -> Option Sta
 | 0, _ => none
 | n + 1, s => match pRnd c s with
   | none => none
   | some t => if t = s then some t else calmT c n t
def Jcc (c : Ctl) (s : Sta) : Option Sta := calmT c 65 s
def Jb8 (c : Ctl) (s : Sta) : Prop := pRnd c s = some s
theorem Jh2 {c : Ctl} : ∀ {n : Nat} {s t : Sta}, calmT c n s = some t -> Jb8 c t
 | 0, s, t, h => by cases h
 | n + 1, s, t, h => by
   unfold calmT at h
   cases hp : pRnd c s with
   | none => rw [hp] at h; cases h
   | some u =>
     rw [hp] at h
     by_cases e : u = s
     . simp only [if_pos e] at h
       cases h
       subst e
       exact hp
     . simp only [if_neg e] at h
       exact Jh2 h
def actF (s : Sta) (x : Evt) : Option Sta :=
 if x.kind = 0 then
   if 0 <= x.idx /\ x.idx.toNat < s.ends.length then
     (if s.ends.getD x.idx.toNat 0 = 1 then some { s with ends := s.ends.set x.idx.toNat 2 }
      else if s.ends.getD x.idx.toNat 0 = 3 then some { s with ends := s.ends.set x.idx.toNat 0 } else none)
   else none
 else if x.kind = 1 then
   if 0 <= x.idx /\ x.idx.toNat < s.timers.length /\ s.timers.getD x.idx.toNat 0 = 1 then some { s with timers := s.timers.set x.idx.toNat 2, values := s.values.set x.idx.toNat true } else none
 else if x.kind = 2 then
   if 0 <= x.idx /\ x.idx.toNat < s.inputs.length /\ s.inputs.getD x.idx.toNat false ≠ x.val then some { s with inputs := s.inputs.set x.idx.toNat x.val } else none
 else none
def Jgf (s : Sta) : List Evt := ((List.range s.ends.length).filter fun i => decide (s.ends.getD i 0 = 1) || decide (s.ends.getD i 0 = 3)).map fun (i : Nat) => ⟨0, (i : Int), false⟩
def Jsv (s : Sta) : List Evt := ((List.range s.timers.length).filter fun i => decide (s.timers.getD i 0 = 1)).map fun (i : Nat) => ⟨1, (i : Int), false⟩
def Jbh (s : Sta) : List Evt := Jgf s ++ Jsv s
def Jfr (s : Sta) : List Evt := (List.range s.inputs.length).map fun (i : Nat) => ⟨2, (i : Int), !s.inputs.getD i false⟩
def evsF (s : Sta) : List Evt := Jbh s ++ Jfr s
theorem Jtv {s u : Sta} {x : Evt} (h : actF s x = some u) : ∃ e ∈ evsF s, actF s e = some u := by
 obtain ⟨k, i, v⟩ := x
 have h0 := h
 unfold actF at h
 by_cases k0 : k = 0
 . subst k0
   rw [if_pos rfl] at h
   by_cases hi : 0 <= i /\ i.toNat < s.ends.length
   . obtain ⟨n, rfl⟩ : ∃ n : Nat, i = n := ⟨i.toNat, by omega⟩
     rw [if_pos hi] at h
     change (if s.ends.getD n 0 = 1 then _ else _) = _ at h
     have he : s.ends.getD n 0 = 1 \/ s.ends.getD n 0 = 3 := by
       by_cases h1 : s.ends.getD n 0 = 1
       . exact .inl h1
       . rw [if_neg h1] at h
         change (if s.ends.getD n 0 = 3 then _ else _) = _ at h
         by_cases h3 : s.ends.getD n 0 = 3
         . exact .inr h3
         . rw [if_neg h3] at h; cases h
     refine ⟨⟨0, (n : Int), false⟩, List.mem_append.2 (.inl (List.mem_append.2 (.inl (List.mem_map.2 ⟨n, List.mem_filter.2 ⟨List.mem_range.2 hi.2, ?_⟩, rfl⟩)))), h0⟩
     rw [Bool.or_eq_true, decide_eq_true_eq, decide_eq_true_eq]; exact he
   . rw [if_neg hi] at h; cases h
 . rw [if_neg k0] at h
   by_cases k1 : k = 1
   . subst k1
     rw [if_pos rfl] at h
     by_cases hi : 0 <= i /\ i.toNat < s.timers.length /\ s.timers.getD i.toNat 0 = 1
     . obtain ⟨n, rfl⟩ : ∃ n : Nat, i = n := ⟨i.toNat, by omega⟩
       refine ⟨⟨1, (n : Int), false⟩, List.mem_append.2 (.inl (List.mem_append.2 (.inr (List.mem_map.2 ⟨n, List.mem_filter.2 ⟨List.mem_range.2 hi.2.1, ?_⟩, rfl⟩)))), h0⟩
       rw [decide_eq_true_eq]; exact hi.2.2
     . rw [if_neg hi] at h; cases h
   . rw [if_neg k1] at h
     by_cases k2 : k = 2
     . subst k2
       rw [if_pos rfl] at h
       by_cases hi : 0 <= i /\ i.toNat < s.inputs.length /\ s.inputs.getD i.toNat false ≠ v
       . obtain ⟨n, rfl⟩ : ∃ n : Nat, i = n := ⟨i.toNat, by omega⟩
         have h4 : s.inputs.getD n false ≠ v := hi.2.2
         have hv : (!s.inputs.getD n false) = v := by
           cases h1 : s.inputs.getD n false <;> cases h2 : v <;> rw [h1, h2] at h4 <;> first | rfl | (exact absurd rfl h4)
         refine ⟨⟨2, (n : Int), !s.inputs.getD n false⟩, List.mem_append.2 (.inr (List.mem_map.2 ⟨n, List.mem_range.2 hi.2.1, rfl⟩)), ?_⟩
         rw [hv]; exact h0
       . rw [if_neg hi] at h; cases h
     . rw [if_neg k2] at h; cases h
structure Stk where
 act : Int
 out : Bool
deriving DecidableEq
def Jb2 (a b : Sta) : List Stk := ((List.range b.ends.length).filter fun i => decide (b.ends.getD i 0 ≠ a.ends.getD i 0) && (decide (b.ends.getD i 0 = 1) || decide (b.ends.getD i 0 = 3))).map fun (i : Nat) => ⟨(i : Int), decide (b.ends.getD i 0 = 1)⟩
def Jbm (c : Ctl) (s : Sta) (x : Evt) : Option Sta := (actF s x).bind (Jcc c)
def Jbi (c : Ctl) : Mach Sta Evt Stk := ⟨evsF, Jbm c, Jb2⟩
def runF (c : Ctl) : List Evt -> Sta -> Option (Sta × List (List Stk))
 | [], s => some (s, [])
 | x :: l, s => match Jbm c s x with
   | none => none
   | some t => (runF c l t).map fun r => (r.1, Jb2 s t :: r.2)
def Jbt (c : Ctl) (s : Sta) : Sr Sta Stk := itrS (Jbi c) 60 s 61
theorem Jr5 {c : Ctl} {N : List Sta} {B : List Stk} (hN : Closed (Jbi c) N B) : ∀ {l : List Evt} {s u : Sta} {w : List (List Stk)}, s ∈ N -> runF c l s = some (u, w) -> u ∈ N /\ ∀ x ∈ w, ∀ k ∈ x, k ∈ B
 | [], s, u, w, hs, h => by
   cases h
   exact ⟨hs, fun x hx => by cases hx⟩
 | x :: l, s, u, w, hs, h => by
   unfold runF at h
   cases hn : Jbm c s x with
   | none => rw [hn] at h; cases h
   | some t =>
     rw [hn] at h
     obtain ⟨⟨u', w'⟩, h1, h2⟩ := Option.map_eq_some_iff.1 h
     cases h2
     unfold Jbm at hn
     obtain ⟨a, ha, hr⟩ := Option.bind_eq_some_iff.1 hn
     obtain ⟨e, he, hae⟩ := Jtv ha
     obtain ⟨t', ht, htN, hk⟩ := hN s hs e he
     have e1 : Jbm c s e = some t := by unfold Jbm; rw [hae]; exact hr
     have e2 : some t' = some t := ht.symm.trans e1
     cases e2
     obtain ⟨i1, i2⟩ := Jr5 hN htN h1
     refine ⟨i1, fun y hy => ?_⟩
     rcases List.mem_cons.1 hy with rfl | hy
     . exact hk
     . exact i2 y hy
theorem J13 {c : Ctl} {s u : Sta} {l : List Evt} {w : List (List Stk)} (h : (Jbt c s).err = 0) (hr : runF c l s = some (u, w)) :
   (∀ x ∈ w, ∀ k ∈ x, k ∈ (Jbt c s).begun) /\ (Jbt c u).err = 0 /\ ∀ k ∈ (Jbt c u).begun, k ∈ (Jbt c s).begun := by
 have hc := Jp9 (Jbi c) 60 (s0 := s) (n := 61) (by decide) (by decide) h
 obtain ⟨h1, h2⟩ := Jr5 hc (Jqa (Jbi c) 60) hr
 exact ⟨h2, J14 (Jbi c) 60 (by decide) (n := 61) (by decide) h h1⟩
end Go.Am
namespace Go.Am
open Go Go.Proofs Go.Pn
structure RS (c : Ctl) (s : Sta) : Prop where
 act : c.act = s.ends.length
 valves : s.valves.length = s.ends.length
 inputs : s.inputs.length = c.inputs.length
 values : s.values.length = c.sigs.length
 timers : s.timers.length = c.sigs.length
 ends4 : ∀ e ∈ s.ends, e < 4
 tim3 : ∀ t ∈ s.timers, t < 3
 fit : ∀ (i : Nat) x, c.sigs[i]? = some x -> if x.kind = 2 then s.values.getD i false = decide (s.timers.getD i 0 = 2) else s.timers.getD i 0 = 0
def Jdp (c : Ctl) : Prop := ∀ (i : Nat) x, c.sigs[i]? = some x -> x.kind = 0 \/ x.kind = 1 \/ x.kind = 2
theorem Jiv {α : Type} {l : List α} {i : Nat} {a b : α} (h : b ∈ l.set i a) : b = a \/ b ∈ l := by
 rcases List.mem_or_eq_of_mem_set h with h | h
 . exact .inr h
 . exact .inl h
theorem Jpw {α : Type} {l : List α} {i : Nat} {a d : α} (h : i < l.length) : (l.set i a).getD i d = a := by
 rw [List.getD_eq_getElem?_getD, List.getElem?_set_self h]; rfl
theorem getD_set_ne {α : Type} {l : List α} {i j : Nat} {a d : α} (h : i ≠ j) : (l.set i a).getD j d = l.getD j d := by
 rw [List.getD_eq_getElem?_getD, List.getD_eq_getElem?_getD, List.getElem?_set_ne h]
theorem getD_mem {α : Type} {l : List α} {i : Nat} {d : α} (h : i < l.length) : l.getD i d ∈ l := by
 rw [List.getD_eq_getElem?_getD, List.getElem?_eq_getElem h]; exact List.getElem_mem h
theorem J16 {α : Type} {l : List α} {i : Nat} {d : α} : l.set i (l.getD i d) = l := by
 by_cases h : i < l.length
 . rw [List.getD_eq_getElem?_getD, List.getElem?_eq_getElem h]
   exact List.set_getElem_self h
 . exact List.set_eq_of_length_le (by omega)
theorem RS.put {c : Ctl} {s : Sta} (h : RS c s) {j t : Nat} {v : Bool} {x : Sig} (hx : c.sigs[j]? = some x) (ht : t < 3) (hv : if x.kind = 2 then v = decide (t = 2) else t = 0) :
   RS c { s with values := s.values.set j v, timers := s.timers.set j t } := by
 have hj : j < c.sigs.length := (gsI.1 hx).1
 refine ⟨h.act, h.valves, h.inputs, by rw [List.length_set]; exact h.values, by rw [List.length_set]; exact h.timers, h.ends4, fun t' h' => ?_, fun i y hy => ?_⟩
 . rcases Jiv h' with rfl | h'
   . exact ht
   . exact h.tim3 t' h'
 . show if y.kind = 2 then (s.values.set j v).getD i false = decide ((s.timers.set j t).getD i 0 = 2) else (s.timers.set j t).getD i 0 = 0
   by_cases e : j = i
   . subst e
     rw [hx] at hy; cases hy
     rw [Jpw (by rw [h.values]; exact hj), Jpw (by rw [h.timers]; exact hj)]
     exact hv
   . rw [getD_set_ne e, getD_set_ne e]
     exact h.fit i y hy
theorem RS.tim {c : Ctl} {s : Sta} (h : RS c s) {j : Nat} {x : Sig} (hx : c.sigs[j]? = some x) : s.timers.getD j 0 < 3 :=
 h.tim3 _ (getD_mem (by rw [h.timers]; exact (gsI.1 hx).1))
theorem RS.gate {c : Ctl} {s : Sta} (h : RS c s) {j : Nat} {x : Sig} (hx : c.sigs[j]? = some x) : RS c (Jdg x j s) := by
 unfold Jdg
 split
 . rename_i hk
   have hf := h.fit j x hx
   rw [if_neg (by rw [hk]; decide)] at hf
   have := h.put (v := evX (lnF s) x.on) hx (h.tim hx) (by rw [if_neg (by rw [hk]; decide)]; exact hf)
   rwa [J16] at this
 . exact h
theorem RS.gatesT {c : Ctl} {s : Sta} (h : RS c s) : ∀ j : Nat, RS c (gatesT c s j)
 | 0 => h
 | j + 1 => by
   unfold Go.Am.gatesT
   split
   . exact RS.gatesT h j
   . rename_i x hx; exact (RS.gatesT h j).gate hx
theorem RS.gates {c : Ctl} {s : Sta} (h : RS c s) : RS c (Jbn c s) := h.gatesT _
theorem J11 {k : Int} {v : Bool} {t : Nat} {on off : Bool} (hk : k = 0 \/ k = 1 \/ k = 2) (ht : t < 3) (h : if k = 2 then v = decide (t = 2) else t = 0) :
   (Jb0 k v t on off).tim < 3 /\ if k = 2 then (Jb0 k v t on off).val = decide ((Jb0 k v t on off).tim = 2) else (Jb0 k v t on off).tim = 0 := by
 rcases hk with rfl | rfl | rfl
 . exact ⟨ht, h⟩
 . exact ⟨ht, h⟩
 . rw [if_pos rfl] at h ⊢
   unfold Jb0
   rw [if_neg (by decide), if_neg (by decide)]
   cases on with
   | false => exact ⟨Nat.zero_lt_succ 2, rfl⟩
   | true =>
     rw [if_neg (by decide)]
     by_cases h0 : t = 0
     . rw [if_pos h0]
       subst h0
       exact ⟨Nat.lt_of_sub_eq_succ rfl, h⟩
     . rw [if_neg h0]
       exact ⟨ht, h⟩
theorem RS.rnd {c : Ctl} (hc : Jdp c) {g : Sta} {r : Rnd} (h : RS c r.st) {j : Nat} {x : Sig} (hx : c.sigs[j]? = some x) : RS c (Jhc c g x j r).st := by
 obtain ⟨h1, h2⟩ := J11 (v := r.st.values.getD j false) (t := r.st.timers.getD j 0) (on := evX (lnF g) x.on) (off := decide (x.kind = 1) && evX (lnF g) x.off) (hc j x hx) (h.tim hx) (h.fit j x hx)
 exact h.put hx h1 h2
theorem RS.rndT {c : Ctl} (hc : Jdp c) {g : Sta} (h : RS c g) : ∀ j : Nat, RS c (rndT c g j).st
 | 0 => h
 | j + 1 => by
   unfold Go.Am.rndT
   split
   . exact RS.rndT hc h j
   . rename_i x hx; exact (RS.rndT hc h j).rnd hc hx
theorem RS.sRnd {c : Ctl} (hc : Jdp c) {s : Sta} (h : RS c s) : RS c (sRnd c s).st := RS.rndT hc h.gates _
theorem RS.setT {c : Ctl} (hc : Jdp c) {s : Sta} (h : RS c s) : ∀ n : Nat, RS c (setT c s n)
 | 0 => h
 | n + 1 => (RS.setT hc h n).sRnd hc
theorem RS.settle {c : Ctl} (hc : Jdp c) {s t : Sta} (h : RS c s) (e : Jdj c s = some t) : RS c t := by
 unfold Jdj at e
 split at e
 . cases e; exact h.setT hc 64
 . cases e
theorem Jwn {v : Bool} {a : Nat} (h : a < 4) : (if v = true then (if a = 2 \/ a = 1 then a else 1) else (if a = 0 \/ a = 3 then a else 3)) < 4 := by
 cases v with
 | true => rw [if_pos rfl]; split <;> omega
 | false => rw [if_neg (by decide)]; split <;> omega
theorem RS.pOne {c : Ctl} {t u : Sta} (h : RS c u) {i : Nat} (hi : i < u.ends.length) : RS c (pOne c t i u) := by
 unfold Go.Am.pOne
 refine ⟨by rw [List.length_set]; exact h.act, by rw [List.length_set, List.length_set]; exact h.valves, h.inputs, h.values, h.timers, fun e he => ?_, h.tim3, h.fit⟩
 have ha : u.ends.getD i 0 < 4 := h.ends4 _ (getD_mem hi)
 rcases Jiv he with rfl | he
 . exact Jwn ha
 . exact h.ends4 e he
theorem Jri {c : Ctl} {t : Sta} : ∀ i : Nat, (pT c t i).ends.length = t.ends.length
 | 0 => rfl
 | i + 1 => by
   show ((pT c t i).ends.set i _).length = _
   rw [List.length_set]; exact Jri i
theorem RS.pT {c : Ctl} {t : Sta} (h : RS c t) : ∀ i : Nat, i <= t.ends.length -> RS c (pT c t i)
 | 0, _ => h
 | i + 1, hi => (RS.pT h i (by omega)).pOne (by rw [Jri]; omega)
theorem RS.pRnd {c : Ctl} (hc : Jdp c) {s t : Sta} (h : RS c s) (e : pRnd c s = some t) : RS c t := by
 obtain ⟨u, h1, rfl⟩ := Option.map_eq_some_iff.1 e
 exact (h.settle hc h1).pT _ (Nat.le_refl _)
theorem RS.calmT {c : Ctl} (hc : Jdp c) : ∀ {n : Nat} {s t : Sta}, RS c s -> calmT c n s = some t -> RS c t
 | 0, s, t, _, e => by cases e
 | n + 1, s, t, h, e => by
   unfold Go.Am.calmT at e
   cases hp : Go.Am.pRnd c s with
   | none => rw [hp] at e; cases e
   | some u =>
     rw [hp] at e
     by_cases he : u = s
     . simp only [if_pos he] at e
       cases e
       exact h.pRnd hc hp
     . simp only [if_neg he] at e
       exact RS.calmT hc (h.pRnd hc hp) e
theorem RS.act_ {c : Ctl} {s t : Sta} {x : Evt} (h : RS c s) (e : actF s x = some t) : RS c t := by
 unfold actF at e
 split at e
 . split at e
   . split at e
     . cases e
       refine ⟨by rw [List.length_set]; exact h.act, by rw [List.length_set]; exact h.valves, h.inputs, h.values, h.timers, fun e he => ?_, h.tim3, h.fit⟩
       rcases Jiv he with rfl | he
       . decide
       . exact h.ends4 e he
     . split at e
       . cases e
         refine ⟨by rw [List.length_set]; exact h.act, by rw [List.length_set]; exact h.valves, h.inputs, h.values, h.timers, fun e he => ?_, h.tim3, h.fit⟩
         rcases Jiv he with rfl | he
         . decide
         . exact h.ends4 e he
       . cases e
   . cases e
 . split at e
   . split at e
     . rename_i hi
       cases e
       obtain ⟨y, hy⟩ := Jae (xs := c.sigs) (k := x.idx.toNat) (by rw [<- h.timers]; exact hi.2.1)
       have hf := h.fit _ y hy
       by_cases k2 : y.kind = 2
       . exact h.put hy (by decide) (by rw [if_pos k2]; rfl)
       . rw [if_neg k2, hi.2.2] at hf; cases hf
     . cases e
   . split at e
     . split at e
       . cases e
         exact ⟨h.act, h.valves, by rw [List.length_set]; exact h.inputs, h.values, h.timers, h.ends4, h.tim3, h.fit⟩
       . cases e
     . cases e
theorem RS.next {c : Ctl} (hc : Jdp c) {s t : Sta} {x : Evt} (h : RS c s) (e : Jbm c s x = some t) : RS c t /\ Jb8 c t := by
 obtain ⟨a, h1, h2⟩ := Option.bind_eq_some_iff.1 e
 exact ⟨(h.act_ h1).calmT hc h2, Jh2 h2⟩
theorem Jwy {s : Sta} {e : Evt} (h : e ∈ evsF s) : ∃ u, actF s e = some u := by
 rcases List.mem_append.1 h with h | h
 . rcases List.mem_append.1 h with h | h
   . obtain ⟨i, hi, rfl⟩ := List.mem_map.1 h
     obtain ⟨h1, h2⟩ := List.mem_filter.1 hi
     rw [Bool.or_eq_true, decide_eq_true_eq, decide_eq_true_eq] at h2
     unfold actF
     rw [if_pos rfl, if_pos ⟨by show (0 : Int) <= (i : Int); omega, List.mem_range.1 h1⟩]
     show ∃ u, (if s.ends.getD i 0 = 1 then _ else if s.ends.getD i 0 = 3 then _ else none) = some u
     rcases h2 with h2 | h2
     . exact ⟨_, if_pos h2⟩
     . rw [if_neg (by omega)]; exact ⟨_, if_pos h2⟩
   . obtain ⟨i, hi, rfl⟩ := List.mem_map.1 h
     obtain ⟨h1, h2⟩ := List.mem_filter.1 hi
     rw [decide_eq_true_eq] at h2
     exact ⟨_, by unfold actF; rw [if_neg (show ¬ (1 : Int) = 0 by decide), if_pos rfl]; exact if_pos ⟨by show (0 : Int) <= (i : Int); omega, List.mem_range.1 h1, h2⟩⟩
 . obtain ⟨i, hi, rfl⟩ := List.mem_map.1 h
   have hne : s.inputs.getD i false ≠ !s.inputs.getD i false := by cases s.inputs.getD i false <;> decide
   exact ⟨_, by unfold actF; rw [if_neg (show ¬ (2 : Int) = 0 by decide), if_neg (show ¬ (2 : Int) = 1 by decide), if_pos rfl]; exact if_pos ⟨by show (0 : Int) <= (i : Int); omega, List.mem_range.1 hi, hne⟩⟩
def numT (n : Nat) : Txt := [UInt8.ofNat (48 + n), 32]
def Ja9 (b : Bool) : UInt8 := if b then 116 else 102
def staT (s : Sta) : Txt := (s.ends ++ s.timers).flatMap numT ++ (s.valves ++ s.inputs ++ s.values).map Ja9
theorem Jzw {l m : List Nat} (hl : ∀ n ∈ l, n < 10) (hm : ∀ n ∈ m, n < 10) (hn : l.length = m.length) {x y : Txt} (h : l.flatMap numT ++ x = m.flatMap numT ++ y) : l = m /\ x = y := by
 induction l generalizing m with
 | nil =>
   cases m with
   | nil => exact ⟨rfl, h⟩
   | cons b m => cases hn
 | cons a l ih =>
   cases m with
   | nil => cases hn
   | cons b m =>
     rw [List.flatMap_cons, List.flatMap_cons] at h
     unfold numT at h
     simp only [List.cons_append, List.nil_append, List.cons.injEq] at h
     obtain ⟨h1, _, h2⟩ := h
     have ha := hl a List.mem_cons_self
     have hb := hm b List.mem_cons_self
     have h3 : 48 + a = 48 + b := by
       have := congrArg UInt8.toNat h1
       rw [UInt8.toNat_ofNat_of_lt' (by show 48 + a < 256; omega), UInt8.toNat_ofNat_of_lt' (by show 48 + b < 256; omega)] at this
       exact this
     obtain ⟨e1, e2⟩ := ih (fun n hn => hl n (List.mem_cons_of_mem _ hn)) (fun n hn => hm n (List.mem_cons_of_mem _ hn)) (by simpa using hn) h2
     exact ⟨by rw [e1, show a = b by omega], e2⟩
theorem Jw2 {a b : Bool} (h : Ja9 a = Ja9 b) : a = b := by cases a <;> cases b <;> first | rfl | (exact absurd h (by decide))
theorem Jpi : ∀ {l m : List Bool}, l.map Ja9 = m.map Ja9 -> l = m
 | [], [], _ => rfl
 | [], _ :: _, h => by cases h
 | _ :: _, [], h => by cases h
 | a :: l, b :: m, h => by
   simp only [List.map_cons, List.cons.injEq] at h
   rw [Jw2 h.1, Jpi h.2]
theorem Jsh {c : Ctl} {s t : Sta} (hs : RS c s) (ht : RS c t) (h : staT s = staT t) : s = t := by
 have he : s.ends.length = t.ends.length := by have := hs.act; have := ht.act; omega
 unfold staT at h
 obtain ⟨h1, h2⟩ := Jzw (l := s.ends ++ s.timers) (m := t.ends ++ t.timers) (fun n hn => by
   rcases List.mem_append.1 hn with h | h
   . have := hs.ends4 n h; omega
   . have := hs.tim3 n h; omega) (fun n hn => by
   rcases List.mem_append.1 hn with h | h
   . have := ht.ends4 n h; omega
   . have := ht.tim3 n h; omega) (by rw [List.length_append, List.length_append, he, hs.timers, ht.timers]) h
 have h3 := Jpi h2
 obtain ⟨e1, e2⟩ := List.append_inj h1 he
 obtain ⟨e3, e4⟩ := List.append_inj h3 (by rw [List.length_append, List.length_append, hs.valves, ht.valves, he, hs.inputs, ht.inputs])
 obtain ⟨e5, e6⟩ := List.append_inj e3 (by rw [hs.valves, ht.valves, he])
 cases s; cases t
 simp only at e1 e2 e4 e5 e6
 subst e1; subst e2; subst e4; subst e5; subst e6
 rfl
end Go.Am
namespace Go.Am
open Go Go.Proofs Go.Pn
def Jd2 (b : UInt8) : Bool := decide (97 <= b.toNat) && decide (b.toNat <= 122)
def Jlj (b : UInt8) : Bool := decide (65 <= b.toNat) && decide (b.toNat <= 90)
def Jkw (b : UInt8) : Bool := decide (48 <= b.toNat) && decide (b.toNat <= 57)
def Jcn (b : UInt8) : Bool := Jd2 b || Jlj b || b == 95 || Jkw b
def Jck (s : Txt) : Bool := match s with
 | [] => false
 | a :: r => Jd2 a && r.all Jcn
def actN (c : Ctl) : Nat := c.act.toNat
def fstN (c : Ctl) : Nat := 2 * actN c + c.inputs.length
def cntN (c : Ctl) : Nat := fstN c + c.sigs.length
def endT (i : Nat) : Txt := [UInt8.ofNat (97 + i / 2), UInt8.ofNat (48 + i % 2)]
def nmF (c : Ctl) (i : Nat) : Txt :=
 if i < 2 * actN c then endT i
 else if i < fstN c then c.inputs.getD (i - 2 * actN c) []
 else ((c.sigs[i - fstN c]?).map (·.name)).getD []
def nmE (c : Ctl) (i : Nat) : Int :=
 if Jck (nmF c i) = false then 3 else if 24 < (nmF c i).length then 17 else if ((List.range i).any fun k => nmF c k == nmF c i) = true then 7 else 0
mutual
def occX (v : Int) : Ex -> Bool
 | .mk o i al => if o = 1 then decide (i = v) else occL v al
def occL (v : Int) : List Ex -> Bool
 | [] => false
 | x :: xs => occX v x || occL v xs
end
theorem Jq5 {v : Int} : ∀ {l : List Ex}, occL v l = l.any (occX v)
 | [] => rfl
 | x :: xs => by rw [occL, Jq5]; rfl
theorem Jlz {v : Int} {x : Ex} : occX v x = if x.op = 1 then decide (x.idx = v) else x.args.any (occX v) := by
 cases x with
 | mk o i al => rw [occX, Jq5]; rfl
def Jdb (x : Ex) : Bool := decide (x.op = 0) && decide (x.idx = 0) && decide (x.args = [])
def Jcz (c : Ctl) (i : Nat) (on : Ex) : Bool := (List.range c.sigs.length).any fun k => decide (i <= k) && (((c.sigs[k]?).map fun y => decide (y.kind = 0)).getD false && occX ((fstN c + k : Nat) : Int) on)
def sgE (c : Ctl) (i : Nat) (x : Sig) : Int :=
 if nmE c (fstN c + i) ≠ 0 then nmE c (fstN c + i)
 else if x.kind < 0 \/ 3 <= x.kind then 1
 else if chkE (cntN c) x.on ≠ 0 then chkE (cntN c) x.on
 else if x.kind = 1 /\ chkE (cntN c) x.off ≠ 0 then chkE (cntN c) x.off
 else if x.kind = 0 /\ Jcz c i x.on = true then 9
 else if x.kind = 2 /\ (x.delay < 1 \/ 1000000 < x.delay) then 2
 else if (x.kind ≠ 1 /\ (Jdb x.off = false \/ x.init = true)) \/ (x.kind ≠ 2 /\ x.delay ≠ 0) then 3 else 0
def Jdv : List Int -> Int
 | [] => 0
 | e :: l => if e ≠ 0 then e else Jdv l
theorem Jic {a : Int} {l : List Int} : Jdv (a :: l) = if a ≠ 0 then a else Jdv l := rfl
theorem Jlb : ∀ {l : List Int}, Jdv l = 0 ↔ ∀ e ∈ l, e = 0
 | [] => ⟨fun _ e he => (List.not_mem_nil he).elim, fun _ => rfl⟩
 | a :: l => by
   rw [Jic]
   by_cases h : a ≠ 0
   . rw [if_pos h]
     exact ⟨fun h2 => absurd h2 h, fun h2 => absurd (h2 a List.mem_cons_self) h⟩
   . rw [if_neg h, Jlb]
     have h0 : a = 0 := Decidable.not_not.1 h
     refine ⟨fun h2 e he => ?_, fun h2 e he => h2 e (List.mem_cons_of_mem _ he)⟩
     rcases List.mem_cons.1 he with h3 | h3
     . rw [h3]; exact h0
     . exact h2 e h3
theorem Jla : ∀ {l : List Int} {e : Int}, Jdv (l ++ [e]) = if Jdv l ≠ 0 then Jdv l else e
 | [], e => by
   rw [List.nil_append, Jic]
   show (if e ≠ 0 then e else 0) = if (0 : Int) ≠ 0 then 0 else e
   rw [if_neg (show ¬ (0 : Int) ≠ 0 by decide)]
   by_cases h : e ≠ 0
   . rw [if_pos h]
   . rw [if_neg h]; exact (Decidable.not_not.1 h).symm
 | a :: l, e => by
   rw [List.cons_append, Jic, Jic]
   by_cases h : a ≠ 0
   . rw [if_pos h, if_pos h, if_pos h]
   . rw [if_neg h, if_neg h, Jla]
def pilE (c : Ctl) : Int :=
 if (c.plus.length : Int) ≠ c.act \/ (c.minus.length : Int) ≠ c.act then 8
 else if ((c.plus ++ c.minus).any fun k => decide (k < 0) || decide ((cntN c : Int) <= k)) = true then 6 else 0
def inpE (c : Ctl) (j : Nat) : Int := Jdv ((List.range j).map fun i => nmE c (2 * actN c + i))
def sgsE (c : Ctl) (j : Nat) : Int := Jdv ((c.sigs.take j).zipIdx.map fun x => sgE c x.2 x.1)
def refE (c : Ctl) : Int :=
 if c.act < 1 \/ 6 < c.act then 2
 else if 16 < c.inputs.length \/ 64 < c.sigs.length then 5
 else if inpE c c.inputs.length ≠ 0 then inpE c c.inputs.length
 else if sgsE c c.sigs.length ≠ 0 then sgsE c c.sigs.length
 else pilE c
structure RC (c : Ctl) : Prop where
 act : c.act = actN c /\ 1 <= actN c /\ actN c <= 6
 inputs : c.inputs.length <= 16
 sigs : c.sigs.length <= 64
 names : ∀ i, 2 * actN c <= i -> i < cntN c -> nmE c i = 0
 sig : ∀ (i : Nat) x, c.sigs[i]? = some x -> sgE c i x = 0
 plus : c.plus.length = actN c
 minus : c.minus.length = actN c
 lines : ∀ k ∈ c.plus ++ c.minus, 0 <= k /\ k < cntN c
theorem Jrq {c : Ctl} (h : refE c = 0) : RC c := by
 unfold refE at h
 by_cases h1 : c.act < 1 \/ 6 < c.act
 . rw [if_pos h1] at h; cases h
 rw [if_neg h1] at h
 by_cases h2 : 16 < c.inputs.length \/ 64 < c.sigs.length
 . rw [if_pos h2] at h; cases h
 rw [if_neg h2] at h
 by_cases nh3 : inpE c c.inputs.length ≠ 0
 . rw [if_pos nh3] at h; exact absurd h nh3
 rw [if_neg nh3] at h
 have h3 : inpE c c.inputs.length = 0 := Decidable.not_not.1 nh3
 by_cases nh4 : sgsE c c.sigs.length ≠ 0
 . rw [if_pos nh4] at h; exact absurd h nh4
 rw [if_neg nh4] at h
 have h4 : sgsE c c.sigs.length = 0 := Decidable.not_not.1 nh4
 have hact : c.act = actN c := by unfold actN; omega
 have hsig : ∀ (i : Nat) x, c.sigs[i]? = some x -> sgE c i x = 0 := fun i x hx => by
   unfold sgsE at h4
   rw [List.take_length] at h4
   refine Jlb.1 h4 _ (List.mem_map.2 ⟨(x, i), ?_, rfl⟩)
   exact List.mem_zipIdx_iff_getElem?.2 hx
 have hinp : ∀ i, i < c.inputs.length -> nmE c (2 * actN c + i) = 0 := fun i hi => Jlb.1 h3 _ (List.mem_map.2 ⟨i, List.mem_range.2 hi, rfl⟩)
 unfold pilE at h
 by_cases h5 : (c.plus.length : Int) ≠ c.act \/ (c.minus.length : Int) ≠ c.act
 . rw [if_pos h5] at h; cases h
 rw [if_neg h5] at h
 by_cases h6 : ((c.plus ++ c.minus).any fun k => decide (k < 0) || decide ((cntN c : Int) <= k)) = true
 . rw [if_pos h6] at h; cases h
 refine ⟨⟨hact, by unfold actN; omega, by unfold actN; omega⟩, by omega, by omega, fun i hi hc => ?_, hsig, by omega, by omega, fun k hk => ?_⟩
 . by_cases hf : i < fstN c
   . have := hinp (i - 2 * actN c) (by unfold fstN at hf; omega)
     rwa [show 2 * actN c + (i - 2 * actN c) = i by omega] at this
   . obtain ⟨x, hx⟩ := Jae (xs := c.sigs) (k := i - fstN c) (by unfold cntN at hc; omega)
     have := hsig _ x hx
     unfold sgE at this
     rw [show fstN c + (i - fstN c) = i by omega] at this
     apply Classical.byContradiction
     intro hn
     rw [if_pos hn] at this
     exact hn this
 . apply Classical.byContradiction
   intro hn
   refine h6 (List.any_eq_true.2 ⟨k, hk, ?_⟩)
   rw [Bool.or_eq_true, decide_eq_true_eq, decide_eq_true_eq]
   omega
theorem Jmm {c : Ctl} {i : Nat} {x : Sig} (h : sgE c i x = 0) : nmE c (fstN c + i) = 0 /\ (x.kind = 0 \/ x.kind = 1 \/ x.kind = 2) /\ chkE (cntN c) x.on = 0 /\ (x.kind = 1 -> chkE (cntN c) x.off = 0) /\ (x.kind = 0 -> Jcz c i x.on = false) /\
   (x.kind = 2 -> 1 <= x.delay /\ x.delay <= 1000000) /\ (x.kind ≠ 1 -> Jdb x.off = true /\ x.init = false) /\ (x.kind ≠ 2 -> x.delay = 0) := by
 unfold sgE at h
 by_cases nh1 : nmE c (fstN c + i) ≠ 0
 . rw [if_pos nh1] at h; exact absurd h nh1
 rw [if_neg nh1] at h
 have h1 : nmE c (fstN c + i) = 0 := Decidable.not_not.1 nh1
 by_cases h2 : x.kind < 0 \/ 3 <= x.kind
 . rw [if_pos h2] at h; cases h
 rw [if_neg h2] at h
 by_cases nh3 : chkE (cntN c) x.on ≠ 0
 . rw [if_pos nh3] at h; exact absurd h nh3
 rw [if_neg nh3] at h
 have h3 : chkE (cntN c) x.on = 0 := Decidable.not_not.1 nh3
 by_cases h4 : x.kind = 1 /\ chkE (cntN c) x.off ≠ 0
 . rw [if_pos h4] at h; exact absurd h h4.2
 rw [if_neg h4] at h
 by_cases h5 : x.kind = 0 /\ Jcz c i x.on = true
 . rw [if_pos h5] at h; cases h
 rw [if_neg h5] at h
 by_cases h6 : x.kind = 2 /\ (x.delay < 1 \/ 1000000 < x.delay)
 . rw [if_pos h6] at h; cases h
 rw [if_neg h6] at h
 by_cases h7 : (x.kind ≠ 1 /\ (Jdb x.off = false \/ x.init = true)) \/ (x.kind ≠ 2 /\ x.delay ≠ 0)
 . rw [if_pos h7] at h; cases h
 refine ⟨h1, by omega, h3, fun e => ?_, fun e => ?_, fun e => by omega, fun e => ?_, fun e => ?_⟩
 . apply Classical.byContradiction; intro hc; exact h4 ⟨e, hc⟩
 . cases hl : Jcz c i x.on with
   | false => rfl
   | true => exact absurd ⟨e, hl⟩ h5
 . constructor
   . cases hz : Jdb x.off with
     | true => rfl
     | false => exact absurd (.inl ⟨e, .inl hz⟩) h7
   . cases hz : x.init with
     | false => rfl
     | true => exact absurd (.inl ⟨e, .inr hz⟩) h7
 . apply Classical.byContradiction; intro hc; exact h7 (.inr ⟨e, hc⟩)
theorem RC.kinds {c : Ctl} (h : RC c) : Jdp c := fun i x hx => (Jmm (h.sig i x hx)).2.1
end Go.Am
