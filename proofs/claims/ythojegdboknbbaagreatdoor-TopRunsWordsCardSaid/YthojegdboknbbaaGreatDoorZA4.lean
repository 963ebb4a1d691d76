/- Lemmas and contracts for the proof of a statement of this seat. -/
import Derived.Test.YthojegdboknbbaaGreatDoorZA3
import Derived.Orders
import Derived.Laws.Externs
import Derived.Lib.Bytealg
set_option linter.unusedVariables false
set_option linter.unusedSimpArgs false
namespace Go.Am
open Go
section
variable {V : Type} {d : V}
def look (d : V) : List (Nat × V) -> Nat -> V
 | [], _ => d
 | (c, y) :: s, b => if c = b then y else look d s b
def keys (u : List (Nat × V)) : List Nat := u.map Prod.fst
theorem Jew (u s : List (Nat × V)) (b : Nat) : look d (u ++ s) b = if b ∈ keys u then look d u b else look d s b := by
 induction u with
 | nil => simp [keys]
 | cons p u ih =>
   obtain ⟨c, y⟩ := p
   simp only [List.cons_append, look]
   by_cases e : c = b
   . subst e; simp [keys]
   . rw [if_neg e, if_neg e, ih]
     have : (b ∈ keys ((c, y) :: u)) ↔ (b ∈ keys u) := by
       simp only [keys, List.map_cons, List.mem_cons]
       exact ⟨fun h => h.resolve_left (fun h => e h.symm), .inr⟩
     simp only [this]
def accD (D : Nat -> Bool) : Nat -> List (List (Nat × V)) -> List (Nat × V) -> List (Nat × V)
 | _, [], s => s
 | k, u :: us, s => accD D (k + 1) us (if D k then u ++ s else s)
theorem Jgu {D : Nat -> Bool} : ∀ {us : List (List (Nat × V))} {k : Nat} {s : List (Nat × V)}, (∀ j, k <= j -> D j = false) -> accD D k us s = s
 | [], _, _, _ => rfl
 | u :: us, k, s, h => by
   simp only [accD, h k (Nat.le_refl _)]
   exact Jgu fun j hj => h j (by omega)
theorem Jfg {D D' : Nat -> Bool} {b : Nat} : ∀ {us : List (List (Nat × V))} {k : Nat} {s s' : List (Nat × V)},
   (∀ j u, us[j]? = some u -> b ∈ keys u -> D (k + j) = D' (k + j)) -> look d s b = look d s' b -> look d (accD D k us s) b = look d (accD D' k us s') b
 | [], _, _, _, _, h => h
 | u :: us, k, s, s', h, hs => by
   simp only [accD]
   refine Jfg (fun j u' hu hb => ?_) ?_
   . have := h (j + 1) u' (by simpa using hu) hb
     rwa [show k + 1 + j = k + (j + 1) from by omega]
   . by_cases hb : b ∈ keys u
     . have h0 := h 0 u (by simp) hb
       rw [Nat.add_zero] at h0
       rw [<- h0]
       split
       . rw [Jew, Jew, if_pos hb, if_pos hb]
       . exact hs
     . split <;> split <;> simp [Jew, hb, hs]
theorem Jts {D : Nat -> Bool} {b : Nat} {us : List (List (Nat × V))} {k : Nat} {s : List (Nat × V)} (h : ∀ j u, us[j]? = some u -> b ∈ keys u -> D (k + j) = false) :
   look d (accD D k us s) b = look d s b := by
 have := Jfg (d := d) (D := D) (D' := fun _ => false) (b := b) (us := us) (k := k) (s := s) (s' := s) (fun j u h1 h2 => h j u h1 h2) rfl
 rw [this, Jgu fun _ _ => rfl]
def also (D : Nat -> Bool) (i : Nat) : Nat -> Bool := fun j => D j || j == i
theorem Jjz {D : Nat -> Bool} : ∀ {us : List (List (Nat × V))} {k i : Nat} {s : List (Nat × V)} {u : List (Nat × V)} (b : Nat), us[i]? = some u -> D (k + i) = false ->
   (∀ j u', us[j]? = some u' -> i < j -> b ∈ keys u -> b ∈ keys u' -> D (k + j) = false) ->
   look d (accD (also D (k + i)) k us s) b = look d (u ++ accD D k us s) b
 | [], _, _, _, _, _, h, _, _ => by simp at h
 | v :: us, k, 0, s, u, b, h, hD, hb => by
   simp at h; subst h
   rw [Nat.add_zero] at hD
   have e0 : also D k k = true := by simp [also]
   simp only [accD, hD, e0, Nat.add_zero, if_true, Bool.false_eq_true, if_false]
   rw [Jew]
   have e : ∀ s', look d (accD (also D k) (k + 1) us s') b = look d (accD D (k + 1) us s') b := fun s' =>
     Jfg (fun j u' hu _ => by have : (k + 1 + j == k) = false := by simp; omega
                              simp [also, this]) rfl
   rw [e]
   by_cases hk : b ∈ keys v
   . rw [if_pos hk, Jts, Jew, if_pos hk]
     intro j u' hu hb'
     have := hb (j + 1) u' (by simpa using hu) (by omega) hk hb'
     rwa [show k + 1 + j = k + (j + 1) from by omega]
   . rw [if_neg hk]
     exact Jfg (fun _ _ _ _ => rfl) (by rw [Jew, if_neg hk])
 | v :: us, k, i + 1, s, u, b, h, hD, hb => by
   have e : also D (k + (i + 1)) k = D k := by
     have : (k == k + (i + 1)) = false := by simp
     simp [also, this]
   simp only [accD, e]
   have := Jjz (D := D) (us := us) (k := k + 1) (i := i) (s := if D k = true then v ++ s else s) (u := u) b (by simpa using h) (by rwa [show k + 1 + i = k + (i + 1) from by omega])
     (fun j u' hu hij hk hb' => by
       have := hb (j + 1) u' (by simpa using hu) (by omega) hk hb'
       rwa [show k + 1 + j = k + (j + 1) from by omega])
   rwa [show k + 1 + i = k + (i + 1) from by omega] at this
end
theorem Jex (s : Store) (b : Nat) : look none s b = get s b := by
 induction s with
 | nil => rfl
 | cons p s ih => obtain ⟨c, y⟩ := p; simp only [look, get, ih]
theorem Jit (t : Jap) (b : Nat) : look .any t b = slot t b := by
 induction t with
 | nil => rfl
 | cons p s ih => obtain ⟨c, y⟩ := p; simp only [look, slot, ih]
end Go.Am
namespace Go.Am
open Go
structure Rec where
 rd : List Nat
 up : Store
 put : Jap
 lo : Nat
 hi : Nat
def Rec.fp (r : Rec) : List Nat × List Nat := (r.rd, keys r.up)
def Jjx (ops : Array Oper) (t : Jap) (o : Oper) : Prop := o.guard = none \/ ∃ j want d, o.guard = some (j, want) /\ Jdi ops j = some d /\ slot t d = .p (.bool want)
def Jjw (ops : Array Oper) (t : Jap) (o : Oper) : Prop := ∃ j want d, o.guard = some (j, want) /\ Jdi ops j = some d /\ (slot t d = .tup [] \/ ∃ b, slot t d = .p (.bool b) /\ b ≠ want)
structure StepOk (P : Program) (G : Jac) (N : Nat) (ops : Array Oper) (o : Oper) (st : St) (r : Rec) : Prop where
 dst : Jc6 N o.dst = true
 lo : r.lo = st.nx
 le : r.lo <= r.hi
 does : (Jjx ops st.t o /\ ∃ v, OpOK P G o (Jah G st.t) st.s r.lo v r.rd r.up r.hi /\ r.put = putA [] o.dst v) \/
   (Jjw ops st.t o /\ r.up = [] /\ r.put = putA [] o.dst (.tup []))
theorem Jl4 (t : Jap) (d : Option Tmp) (v : AV) : putA [] d v ++ t = putA t d v := by cases d <;> rfl
section
variable {P : Program} {G : Jac} {N n0 : Nat}
inductive Tr (P : Program) (G : Jac) (N : Nat) (ops : Array Oper) : List Oper -> St -> List Rec -> St -> Prop
 | nil (st) : Tr P G N ops [] st [] st
 | cons (o rest st r recs st') (h : StepOk P G N ops o st r) (ht : Tr P G N ops rest ⟨r.put ++ st.t, r.up ++ st.s, r.hi⟩ recs st') : Tr P G N ops (o :: rest) st (r :: recs) st'
def Jd5 (P : Program) (G : Jac) (N : Nat) (ops : Array Oper) : List Oper -> St -> List (List Nat × List Nat) -> (St -> List (List Nat × List Nat) -> Prop) -> Prop
 | [], st, acc, K => K st acc
 | o :: rest, st, acc, K => Jc6 N o.dst = true /\
   match o.guard with
   | none => Jf0 o.op = true /\ Jc2 P G o.op (Jah G st.t) st.s st.nx fun v rd up nx' => Jd5 P G N ops rest ⟨putA st.t o.dst v, up ++ st.s, nx'⟩ (acc ++ [(rd, keys up)]) K
   | some (j, want) => match Jdi ops j with
     | some d => match slot st.t d with
       | .p (.bool b) => vif (b == want) (Jf0 o.op = true /\ Jc2 P G o.op (Jah G st.t) st.s st.nx fun v rd up nx' => Jd5 P G N ops rest ⟨putA st.t o.dst v, up ++ st.s, nx'⟩ (acc ++ [(rd, keys up)]) K)
           (Jd5 P G N ops rest ⟨putA st.t o.dst (.tup []), st.s, st.nx⟩ (acc ++ [([], [])]) K)
       | .tup [] => Jd5 P G N ops rest ⟨putA st.t o.dst (.tup []), st.s, st.nx⟩ (acc ++ [([], [])]) K
       | _ => False
     | none => False
theorem Jmz {ops : Array Oper} : ∀ {l : List Oper} {st : St} {acc : List (List Nat × List Nat)} {K : St -> List (List Nat × List Nat) -> Prop}, Jd5 P G N ops l st acc K ->
   ∃ recs st', Tr P G N ops l st recs st' /\ K st' (acc ++ recs.map Rec.fp)
 | [], st, acc, K, h => ⟨[], st, .nil _, by simpa [Jd5] using h⟩
 | o :: rest, st, acc, K, h => by
   obtain ⟨hd, h⟩ := h
   have run : Jjx ops st.t o -> (Jf0 o.op = true /\ Jc2 P G o.op (Jah G st.t) st.s st.nx (fun v rd up nx' => Jd5 P G N ops rest ⟨putA st.t o.dst v, up ++ st.s, nx'⟩ (acc ++ [(rd, keys up)]) K)) ->
       ∃ recs st', Tr P G N ops (o :: rest) st recs st' /\ K st' (acc ++ recs.map Rec.fp) := fun hw hv => by
     obtain ⟨v, rd, up, nx', hk, hok⟩ := Js2 (J3k hv.1 hv.2)
     obtain ⟨recs, st', h1, h2⟩ := Jmz hk
     refine ⟨⟨rd, up, putA [] o.dst v, st.nx, nx'⟩ :: recs, st', .cons _ _ _ _ _ _ ⟨hd, rfl, hok.le, .inl ⟨hw, v, hok, rfl⟩⟩ ?_, by simpa [Rec.fp] using h2⟩
     simpa only [Jl4] using h1
   have skip : Jjw ops st.t o -> Jd5 P G N ops rest ⟨putA st.t o.dst (.tup []), st.s, st.nx⟩ (acc ++ [([], [])]) K ->
       ∃ recs st', Tr P G N ops (o :: rest) st recs st' /\ K st' (acc ++ recs.map Rec.fp) := fun hw hv => by
     obtain ⟨recs, st', h1, h2⟩ := Jmz hv
     refine ⟨⟨[], [], putA [] o.dst (.tup []), st.nx, st.nx⟩ :: recs, st', .cons _ _ _ _ _ _ ⟨hd, rfl, Nat.le_refl _, .inr ⟨hw, rfl, rfl⟩⟩ ?_, by simpa [Rec.fp, keys] using h2⟩
     simpa only [Jl4, List.nil_append] using h1
   cases hg : o.guard with
   | none =>
     rw [hg] at h
     exact run (.inl hg) h
   | some jw =>
     obtain ⟨j, want⟩ := jw
     rw [hg] at h
     simp only at h
     split at h
     . rename_i d hdst
       split at h
       . rename_i b hb
         by_cases hbw : b = want
         . exact run (.inr ⟨j, want, d, hg, hdst, hbw ▸ hb⟩) (h.1 (by simpa using hbw))
         . exact skip ⟨j, want, d, hg, hdst, .inr ⟨b, hb, hbw⟩⟩ (h.2 (by simpa using hbw))
       . rename_i hb
         exact skip ⟨j, want, d, hg, hdst, .inl hb⟩ h
       . exact h.elim
     . exact h.elim
def ups (recs : List Rec) : List Store := recs.map (·.up)
def puts (recs : List Rec) : List Jap := recs.map (·.put)
def upto (n : Nat) : Nat -> Bool := fun j => decide (j < n)
theorem Tr.at {ops : Array Oper} {l : List Oper} {st st' : St} {recs : List Rec} (h : Tr P G N ops l st recs st') : recs.length = l.length /\ ∀ (k i : Nat) o, l[i]? = some o ->
   ∃ r stt, recs[i]? = some r /\ StepOk P G N ops o stt r /\ stt.s = accD (upto (k + i)) k (ups recs) st.s /\ stt.t = accD (upto (k + i)) k (puts recs) st.t := by
 induction h with
 | nil st => exact ⟨rfl, fun k i o h => by simp at h⟩
 | cons o rest st r recs st' hs ht ih =>
   refine ⟨by simp [ih.1], fun k i o' ho => ?_⟩
   cases i with
   | zero =>
     simp at ho; subst ho
     refine ⟨r, st, rfl, hs, ?_, ?_⟩ <;> rw [Jgu] <;> intro j hj <;> simp [upto] <;> omega
   | succ i =>
     obtain ⟨r', stt, h1, h2, h3, h4⟩ := ih.2 (k + 1) i o' (by simpa using ho)
     have e : upto (k + (i + 1)) k = true := by simp [upto]
     refine ⟨r', stt, by simpa using h1, h2, ?_, ?_⟩
     . rw [h3]; simp only [ups, List.map_cons, accD, e, if_true]; rw [show k + 1 + i = k + (i + 1) from by omega]
     . rw [h4]; simp only [puts, List.map_cons, accD, e, if_true]; rw [show k + 1 + i = k + (i + 1) from by omega]
theorem Tr.fin {ops : Array Oper} {l : List Oper} {st st' : St} {recs : List Rec} (h : Tr P G N ops l st recs st') : st.nx <= st'.nx /\ (∀ (i : Nat) r, recs[i]? = some r -> st.nx <= r.lo /\ r.hi <= st'.nx) /\
   (∀ (i j : Nat) r r', i < j -> recs[i]? = some r -> recs[j]? = some r' -> r.hi <= r'.lo) /\ ∀ (k : Nat) (D : Nat -> Bool), (∀ j, k <= j -> j < k + recs.length -> D j = true) -> accD D k (ups recs) st.s = st'.s /\ accD D k (puts recs) st.t = st'.t := by
 induction h with
 | nil st => exact ⟨Nat.le_refl _, fun i r h => by simp at h, fun i j r r' _ h => by simp at h, fun _ _ _ => ⟨rfl, rfl⟩⟩
 | cons o rest st r recs st' hs ht ih =>
   obtain ⟨h0, h1, h2, h3⟩ := ih
   simp only at h0 h1
   have e1 := hs.lo
   have e2 := hs.le
   refine ⟨by omega, ?_, ?_, ?_⟩
   . intro i r' hr
     cases i with
     | zero => simp at hr; subst hr; exact ⟨by omega, by omega⟩
     | succ i => have := h1 i r' (by simpa using hr); exact ⟨by omega, this.2⟩
   . intro i j r1 r2 hij hr1 hr2
     cases j with
     | zero => omega
     | succ j =>
       have hr2 : recs[j]? = some r2 := by simpa using hr2
       cases i with
       | zero => simp at hr1; subst hr1; exact (h1 j r2 hr2).1
       | succ i => exact h2 i j r1 r2 (by omega) (by simpa using hr1) hr2
   . intro k D hD
     have e : D k = true := hD k (Nat.le_refl _) (by simp)
     obtain ⟨k1, k2⟩ := h3 (k + 1) D fun j hj hj' => hD j (by omega) (by simp; omega)
     simp only [ups, puts, List.map_cons, accD, e, if_true]
     exact ⟨k1, k2⟩
end
end Go.Am
namespace Go.Am
open Go
def Jv9 (acc : List (List Nat)) (o : Oper) : List Nat :=
 o.after.toList.foldl (fun r e => if Region.binds .any e then (e.on :: (acc[e.on]?).getD []).foldl (fun r i => if r.contains i then r else i :: r) r else r) []
def clos (l : List Oper) : List (List Nat) := l.foldl (fun acc o => acc ++ [Jv9 acc o]) []
def clAt (cl : List (List Nat)) (j : Nat) : List Nat := (cl[j]?).getD []
def clOk (ops : Array Oper) (cl : List (List Nat)) : Bool :=
 (List.range ops.size).all fun j => match ops[j]? with
   | none => true
   | some o => (o.after.toList.all fun e => !Region.binds .any e || decide (e.on < j)) &&
     (clAt cl j).all fun i => o.after.toList.any fun e => Region.binds .any e && (e.on == i || (clAt cl e.on).contains i)
def Foot (f g : List Nat × List Nat) : Prop := (∀ b, b ∈ f.2 -> b ∉ g.1 /\ b ∉ g.2) /\ ∀ b, b ∈ g.2 -> b ∉ f.1
def Jle (f g : List Nat × List Nat) : Bool := (f.2.all fun b => !g.1.contains b && !g.2.contains b) && g.2.all fun b => !f.1.contains b
theorem Jw4 {f g : List Nat × List Nat} (h : Jle f g = true) : Foot f g := by
 simp only [Jle, Bool.and_eq_true, List.all_eq_true] at h
 exact ⟨fun b hb => by simpa using h.1 b hb, fun b hb => by simpa using h.2 b hb⟩
def Jkx (ops : Array Oper) (cl : List (List Nat)) (fps : List (List Nat × List Nat)) : Bool :=
 (List.range ops.size).all fun j => (List.range j).all fun i => (clAt cl j).contains i || match ops[i]?, ops[j]? with
   | some a, some b => a.apart ops b && Jle ((fps[i]?).getD ([], [])) ((fps[j]?).getD ([], []))
   | _, _ => true
def Jky (ops : Array Oper) (fps : List (List Nat × List Nat)) : Bool := clOk ops (clos ops.toList) && Jkx ops (clos ops.toList) fps
def Pairs (ops : Array Oper) (cl : List (List Nat)) (fps : List (List Nat × List Nat)) : Prop :=
 ∀ (i j : Nat) a b, i < j -> ops[i]? = some a -> ops[j]? = some b -> i ∈ clAt cl j \/ (a.apart ops b = true /\ Foot ((fps[i]?).getD ([], [])) ((fps[j]?).getD ([], [])))
theorem Jwk {ops : Array Oper} {cl : List (List Nat)} {fps : List (List Nat × List Nat)} (h : Jkx ops cl fps = true) : Pairs ops cl fps := by
 intro i j a b hij ha hb
 simp only [Jkx, List.all_eq_true, List.mem_range] at h
 have hj : j < ops.size := (Array.getElem?_eq_some_iff.1 hb).1
 have := h j hj i hij
 simp only [ha, hb, Bool.or_eq_true, Bool.and_eq_true] at this
 rcases this with h1 | h1
 . exact .inl (by simpa using h1)
 . exact .inr ⟨h1.1, Jw4 h1.2⟩
section
variable {ops : Array Oper} {cl : List (List Nat)}
def Jjv (ops : Array Oper) (D : Nat -> Bool) : Prop := ∀ j o, ops[j]? = some o -> D j = true -> ∀ e ∈ o.after, Region.binds .any e = true -> D e.on = true
theorem Joy (h : clOk ops cl = true) {j : Nat} {o : Oper} (ho : ops[j]? = some o) {e : Edge} (he : e ∈ o.after) (hb : Region.binds .any e = true) : e.on < j := by
 simp only [clOk, List.all_eq_true, List.mem_range] at h
 have := h j (Array.getElem?_eq_some_iff.1 ho).1
 simp only [ho, Bool.and_eq_true, List.all_eq_true] at this
 simpa [hb] using this.1 e (by simpa using he)
theorem Joz (h : clOk ops cl = true) {D : Nat -> Bool} (hD : Jjv ops D) : ∀ (j : Nat) o, ops[j]? = some o -> (∀ e ∈ o.after, Region.binds .any e = true -> D e.on = true) -> ∀ i ∈ clAt cl j, D i = true := by
 intro j
 induction j using Nat.strongRecOn with
 | _ j ih =>
   intro o ho hr i hi
   have h' := h
   simp only [clOk, List.all_eq_true, List.mem_range] at h'
   have h1 := h' j (Array.getElem?_eq_some_iff.1 ho).1
   simp only [ho, Bool.and_eq_true, List.all_eq_true] at h1
   have h2 := h1.2 i hi
   simp only [List.any_eq_true, Bool.and_eq_true, Bool.or_eq_true, beq_iff_eq] at h2
   obtain ⟨e, he, hb, h3⟩ := h2
   have he' : e ∈ o.after := by simpa using he
   rcases h3 with h3 | h3
   . subst h3; exact hr e he' hb
   . have hlt := Joy h ho he' hb
     have hjs := (Array.getElem?_eq_some_iff.1 ho).1
     have hoe : ops[e.on]? = some (ops[e.on]'(by omega)) := Array.getElem?_eq_getElem (by omega)
     exact ih e.on hlt _ hoe (fun e' he' hb' => hD e.on _ hoe (hr e (by simpa using he) hb) e' he' hb') i (by simpa using h3)
end
theorem Jo1 {α : Type} {p q : α -> Bool} : ∀ {l : List α}, (∀ x, q x = true -> p x = true) -> (∃ x ∈ l, p x = true /\ q x = false) -> l.countP q < l.countP p
 | [], _, ⟨_, h, _⟩ => by cases h
 | y :: l, h, ⟨x, hx, h1, h2⟩ => by
   simp only [List.countP_cons]
   have hle : ∀ l : List α, l.countP q <= l.countP p := fun l => List.countP_mono_left fun x _ => h x
   rcases List.mem_cons.1 hx with rfl | hx
   . simp only [h1, h2, if_true, Bool.false_eq_true, if_false]
     have := hle l; omega
   . have ih := Jo1 (l := l) h ⟨x, hx, h1, h2⟩
     have : (if q y = true then 1 else 0) <= (if p y = true then 1 else 0) := by
       by_cases hq : q y = true
       . simp [hq, h y hq]
       . simp [hq]
     omega
section
variable {P : Program} {G : Jac} {N n0 : Nat} {ops : Array Oper} {st0 st1 : St} {recs : List Rec}
def stD (st0 st1 : St) (recs : List Rec) (D : Nat -> Bool) : St := ⟨accD D 0 (puts recs) st0.t, accD D 0 (ups recs) st0.s, st1.nx⟩
structure InvD [Base] (G : Jac) (N n0 : Nat) (F : Nat -> Prop) (φ0 : Places) (w0 : World) (st0 st1 : St) (recs : List Rec) (D : Nat -> Bool) (φ : Places) (a : Act) (w : World) : Prop where
 rel : Rel G N n0 F (stD st0 st1 recs D) φ a w
 fresh : ∀ (i : Nat) r, recs[i]? = some r -> D i = false -> ∀ b, r.lo <= b -> b < r.hi -> φ b = none
 base : ∀ b, b < n0 -> φ b = φ0 b
 step : ∀ F' : Nat -> Prop, Step (ownF F' φ0 st0.s) (ownF F' φ (stD st0 st1 recs D).s) w0 w
theorem Jyv {d : Option Tmp} {v : AV} {e : Nat} : e ∈ keys (putA [] d v) ↔ d = some e := by
 cases d with
 | none => simp [putA, keys]
 | some d => simp [putA, keys, eq_comm]
theorem StepOk.put_keys {o : Oper} {st : St} {r : Rec} (h : StepOk P G N ops o st r) {e : Nat} : e ∈ keys r.put ↔ o.dst = some e := by
 rcases h.does with ⟨_, v, _, h⟩ | ⟨_, _, h⟩ <;> rw [h, Jyv]
theorem Jl7 {i : Nat} {u : Store} : (ups recs)[i]? = some u ↔ ∃ r, recs[i]? = some r /\ r.up = u := by simp [ups]
theorem Jl6 {i : Nat} {u : Jap} : (puts recs)[i]? = some u ↔ ∃ r, recs[i]? = some r /\ r.put = u := by simp [puts]
theorem Jt1 [Base] {F : Nat -> Prop} {φ0 φ : Places} {w0 w : World} {a : Act} {Q : Exit -> Act -> World -> Prop} {K : Act -> World -> Prop} {D : Nat -> Bool} {cl : List (List Nat)}
   (ht : Tr P G N ops ops.toList st0 recs st1) (hn0 : n0 <= st0.nx) (hcl : clOk ops cl = true) (hp : Pairs ops cl (recs.map Rec.fp)) (hI : InvD G N n0 F φ0 w0 st0 st1 recs D φ a w) (hD : Jjv ops D)
   {i : Nat} {o : Oper} (ho : ops[i]? = some o) (hi : D i = false) (hr : ∀ e ∈ o.after, Region.binds .any e = true -> D e.on = true)
   (hK : ∀ φ' a' w', InvD G N n0 F φ0 w0 st0 st1 recs (also D i) φ' a' w' -> K a' w') : wpOpIn rF 0 P ops Q i K a w := by
 have hol : ops.toList[i]? = some o := by simpa using ho
 obtain ⟨r, stt, hri, hst, hs, htt⟩ := ht.at.2 0 i o hol
 rw [Nat.zero_add] at hs htt
 obtain ⟨hnx, hrange, hdisj, _⟩ := ht.fin
 have hlo := hst.lo
 -- what has to do with this operation stands where it stood in the text's order
 have conf : ∀ k ok rk, k ≠ i -> ops[k]? = some ok -> recs[k]? = some rk -> ¬ (ok.apart ops o = true /\ o.apart ops ok = true /\ Foot rk.fp r.fp /\ Foot r.fp rk.fp) -> D k = upto i k := by
   intro k ok rk hne hok hrk hc
   have fk : ((recs.map Rec.fp)[k]?).getD ([], []) = rk.fp := by simp [hrk]
   have fi : ((recs.map Rec.fp)[i]?).getD ([], []) = r.fp := by simp [hri]
   have sym : ∀ {x y : Oper}, x.apart ops y = true -> y.apart ops x = true := fun {x y} h => by
     obtain ⟨h1, h2, h3⟩ := Oper.apart_spec h
     unfold Oper.apart
     cases hx : x.dst <;> cases hy : y.dst <;> simp [hx, hy] at h1 h2 h3 ⊢
     . exact h3
     . exact h1
     . exact ⟨⟨h3, fun h => h2 h.symm⟩, h1⟩
   have fsym : ∀ {f g : List Nat × List Nat}, Foot f g -> Foot g f := fun {f g} h => ⟨fun b hb => ⟨h.2 b hb, fun h' => (h.1 b h').2 hb⟩, fun b hb => (h.1 b hb).1⟩
   rcases Nat.lt_or_gt_of_ne hne with hlt | hgt
   . rcases hp k i ok o hlt hok ho with h1 | ⟨h1, h2⟩
     . have := Joz hcl hD i o ho hr k h1
       rw [this]; simp [upto, hlt]
     . rw [fk, fi] at h2
       exact absurd ⟨h1, sym h1, h2, fsym h2⟩ hc
   . rcases hp i k o ok hgt ho hok with h1 | ⟨h1, h2⟩
     . have : D k = false := by
         cases hk : D k with
         | false => rfl
         | true =>
           have := Joz hcl hD k ok hok (fun e he hb => hD k ok hok hk e he hb) i h1
           rw [hi] at this; cases this
       rw [this]; simp [upto]; omega
     . rw [fk, fi] at h2
       exact absurd ⟨sym h1, h1, fsym h2, h2⟩ hc
 have getop : ∀ k rk, recs[k]? = some rk -> ∃ ok sk, ops[k]? = some ok /\ StepOk P G N ops ok sk rk := fun k rk hrk => by
   have hlen := ht.at.1
   have hk : k < ops.toList.length := hlen ▸ (gsI.1 hrk).1
   obtain ⟨rk', sk, e1, e2, _⟩ := ht.at.2 0 k _ (List.getElem?_eq_getElem hk)
   rw [hrk] at e1; cases e1
   exact ⟨_, sk, Array.getElem?_eq_getElem (by simpa using hk), e2⟩
 -- the slots that it looks at
 have hslot : ∀ d, d ∈ o.looksAt ops -> slot (stD st0 st1 recs D).t d = slot stt.t d := fun d hd => by
   rw [<- Jit, <- Jit, htt]
   refine Jfg (fun j u hu hb => ?_) rfl
   rw [Nat.zero_add]
   obtain ⟨rj, hrj, rfl⟩ := Jl6.1 hu
   obtain ⟨oj, sj, hoj, hsj⟩ := getop j rj hrj
   by_cases hji : j = i
   . subst hji; rw [hi]; simp [upto]
   . refine conf j oj rj hji hoj hrj fun hc => ?_
     exact (Oper.apart_spec hc.1).1 d (hsj.put_keys.1 hb) hd
 have heval : ∀ x ∈ o.op.operands.toList, Jah G (stD st0 st1 recs D).t x = Jah G stt.t x := fun x hx => by
   cases x with
   | tmp d => exact hslot d (List.mem_append_left _ (List.mem_filterMap.2 ⟨.tmp d, hx, rfl⟩))
   | _ => rfl
 -- what follows, from one write more
 have fin : ∀ (φ' : Places) (v : AV) (v' : Value) (w' : World), r.put = putA [] o.dst v -> φ.le φ' -> (∀ b, b < r.lo \/ r.hi <= b -> φ' b = φ b) -> SR G F φ' (r.up ++ (stD st0 st1 recs D).s) w' ->
     VR φ' (ownF F φ' (r.up ++ (stD st0 st1 recs D).s)) w' v v' -> (∀ F' : Nat -> Prop, Step (ownF F' φ (stD st0 st1 recs D).s) (ownF F' φ' (r.up ++ (stD st0 st1 recs D).s)) w w') -> K (a.put o.dst v') w' := by
   intro φ' v v' w' hput hle hout hsr hv hstep
   have hstore : ∀ b, get (r.up ++ (stD st0 st1 recs D).s) b = get (stD st0 st1 recs (also D i)).s b := fun b => by
     rw [<- Jex, <- Jex]
     have := Jjz (d := none) (D := D) (us := ups recs) (k := 0) (i := i) (s := st0.s) (u := r.up) b (Jl7.2 ⟨r, hri, rfl⟩) (by rwa [Nat.zero_add])
       (fun j u' hu hij hb hb' => by
         rw [Nat.zero_add]
         obtain ⟨rj, hrj, rfl⟩ := Jl7.1 hu
         obtain ⟨oj, sj, hoj, hsj⟩ := getop j rj hrj
         have e := conf j oj rj (by omega) hoj hrj fun hc => (hc.2.2.1.1 b hb').2 hb
         rw [e]; exact decide_eq_false (by omega))
     rw [Nat.zero_add] at this
     exact this.symm
   have hslots : ∀ d, slot (r.put ++ (stD st0 st1 recs D).t) d = slot (stD st0 st1 recs (also D i)).t d := fun d => by
     rw [<- Jit, <- Jit]
     have := Jjz (d := AV.any) (D := D) (us := puts recs) (k := 0) (i := i) (s := st0.t) (u := r.put) d (Jl6.2 ⟨r, hri, rfl⟩) (by rwa [Nat.zero_add])
       (fun j u' hu hij hb hb' => by
         rw [Nat.zero_add]
         obtain ⟨rj, hrj, rfl⟩ := Jl6.1 hu
         obtain ⟨oj, sj, hoj, hsj⟩ := getop j rj hrj
         have e := conf j oj rj (by omega) hoj hrj fun hc => (Oper.apart_spec hc.1).2.1 d (hsj.put_keys.1 hb') (hst.put_keys.1 hb)
         rw [e]; exact decide_eq_false (by omega))
     rw [Nat.zero_add] at this
     exact this.symm
   have hown : ∀ F' : Nat -> Prop, ownF F' φ' (r.up ++ (stD st0 st1 recs D).s) = ownF F' φ' (stD st0 st1 recs (also D i)).s := fun F' => Jl0 hstore
   have htr := (hI.rel.tr.mono hle (hstep F)).put (dst := o.dst) hst.dst hv
   rw [<- Jl4, <- hput] at htr
   refine hK φ' _ w' ⟨⟨hsr.congr hstore, ?_, hI.rel.base, ⟨htr.size, fun d => ?_⟩, ?_⟩, ?_, ?_, fun F' => ?_⟩
   . intro b hb
     have h1 := hrange i r hri
     have hb' : st1.nx <= b := hb
     rw [hout b (.inr (by omega))]
     exact hI.rel.fresh b hb
   . rw [<- hslots, <- hown]; exact htr.slots d
   . rw [<- hown]; exact hI.rel.side.mono (hstep _) (Act.put_defers _ _ _)
   . intro j rj hrj hj b h1 h2
     simp only [also, Bool.or_eq_false_iff, beq_eq_false_iff_ne] at hj
     have hne : b < r.lo \/ r.hi <= b := by
       rcases Nat.lt_or_gt_of_ne hj.2 with hlt | hgt
       . have := hdisj j i rj r hlt hrj hri; omega
       . have := hdisj i j r rj hgt hri hrj; omega
     rw [hout b hne]
     exact hI.fresh j rj hrj hj.1 b h1 h2
   . intro b hb
     have := (hrange i r hri).1
     rw [hout b (.inl (by omega))]
     exact hI.base b hb
   . rw [<- hown]; exact (hI.step F').trans (hstep F')
 have hsame : ∀ F' : Nat -> Prop, Step (ownF F' φ (stD st0 st1 recs D).s) (ownF F' φ (stD st0 st1 recs D).s) w w := fun _ => Step.refl _ _
 have hwant : Jjx ops stt.t o -> Region.wanted o (yielded ops a.tmps) = true := by
   rintro (h | ⟨j, want, d, hg, hdst, hsl⟩)
   . simp [Region.wanted, h]
   . have hy := Jnh (a := a) (ops := ops) (j := j) (d := d) hdst
     have hv := hI.rel.tr.slots d
     rw [hslot d (List.mem_append_right _ (by rw [hg]; simp only []; rw [show (ops[j]?).bind (·.dst) = some d from hdst]; simp)), hsl] at hv
     rw [hv.bool_inv] at hy
     simp [Region.wanted, hg, hy]
 have hskip : Jjw ops stt.t o -> Region.wanted o (yielded ops a.tmps) = false := by
   rintro ⟨j, want, d, hg, hdst, hsl⟩
   have hy := Jnh (a := a) (ops := ops) (j := j) (d := d) hdst
   have hv := hI.rel.tr.slots d
   rw [hslot d (List.mem_append_right _ (by rw [hg]; simp only []; rw [show (ops[j]?).bind (·.dst) = some d from hdst]; simp))] at hv
   rcases hsl with hsl | ⟨b, hsl, hne⟩
   . rw [hsl] at hv
     rw [Jsc hv] at hy
     simp [Region.wanted, hg, hy]
   . rw [hsl] at hv
     rw [hv.bool_inv] at hy
     simp [Region.wanted, hg, hy, hne]
 unfold wpOpIn
 rw [ho]
 simp only
 rcases hst.does with ⟨hw, v, hok, hput⟩ | ⟨hw, hup, hput⟩
 . rw [if_pos (hwant hw)]
   have hag : Jb1 stt.s (stD st0 st1 recs D).s r.rd := fun b hb => by
     rw [<- Jex, <- Jex, hs]
     refine Jfg (fun j u hu hb' => ?_) rfl
     rw [Nat.zero_add]
     obtain ⟨rj, hrj, rfl⟩ := Jl7.1 hu
     obtain ⟨oj, sj, hoj, hsj⟩ := getop j rj hrj
     by_cases hji : j = i
     . subst hji; rw [hi]; simp [upto]
     . exact conf j oj rj hji hoj hrj fun hc => (hc.2.2.1.1 b hb').1 hb
   have hrun := hok.runs F φ (stD st0 st1 recs D).s w a.eval hag hI.rel.sr (fun b h1 h2 => hI.fresh i r hri hi b h1 h2) ⟨fun x hx => by
     have := Jg0 hI.rel x
     rwa [heval x hx] at this, fun _ => rfl⟩
   refine ⟨fun _ _ => trivial, ?_⟩
   rw [Jr7 hrun]
   generalize (execOp a.eval o).run P w = res at hrun
   cases res with
   | ok n w' =>
     cases n <;> simp only [Jbe] at hrun <;> simp only [Oper.uponIn]
     case value u => obtain ⟨φ', h1, h2, h3, h4, h5⟩ := hrun; exact fin φ' v u w' hput h1 h2 h3 h4 h5
     case skip => obtain ⟨φ', h1, h2, h3, h4, h5⟩ := hrun; exact fin φ' v undef w' hput h1 h2 h3 h4 h5
     case enter f args =>
       refine ⟨fun h => (by cases h), Jkm (hrun.mono fun e w'' he => ?_)⟩
       obtain ⟨u, rfl, φ', h1, h2, h3, h4, h5⟩ := he
       exact fin φ' v u w'' hput h1 h2 h3 h4 h5
     case round l f tmps asg body =>
       refine ⟨fun h => (by cases h), Jr1 (hrun.mono fun e w'' he => ?_)⟩
       obtain ⟨u, rfl, φ', h1, h2, h3, h4, h5⟩ := he
       exact fin φ' v u w'' hput h1 h2 h3 h4 h5
   | halt e w' => simp only [Jbe] at hrun
 . rw [if_neg (by rw [hskip hw]; simp)]
   have e : r.up ++ (stD st0 st1 recs D).s = (stD st0 st1 recs D).s := by rw [hup]; rfl
   exact ⟨fun _ _ => trivial, fin φ (.tup []) undef w hput (fun _ _ h => h) (fun _ _ => rfl) (by rw [e]; exact hI.rel.sr) (.tup [] [] rfl (by simp)) (by rw [e]; exact hsame)⟩
end
end Go.Am
namespace Go.Am
open Go
section
variable {P : Program} {G : Jac} {N n0 : Nat} {ops : Array Oper} {st0 st1 : St} {recs : List Rec}
theorem Jtz [Base] {F : Nat -> Prop} {φ0 : Places} {w0 : World} {Q : Exit -> Act -> World -> Prop} {cl : List (List Nat)}
   (ht : Tr P G N ops ops.toList st0 recs st1) (hn0 : n0 <= st0.nx) (hcl : clOk ops cl = true) (hp : Pairs ops cl (recs.map Rec.fp))
   (hQ : ∀ D φ a w, (∀ j, j < ops.size -> D j = true) -> InvD G N n0 F φ0 w0 st0 st1 recs D φ a w -> Q .normal a w) :
   ∀ (fuel : Nat) (listed : Array Bool) (φ : Places) (a : Act) (w : World), listed.size = ops.size -> InvD G N n0 F φ0 w0 st0 st1 recs (fun j => listed.getD j false) φ a w ->
     Jjv ops (fun j => listed.getD j false) -> (List.range ops.size).countP (fun j => !listed.getD j false) <= fuel -> wpAnyIn rF 0 P .any ops Q fuel listed a w := by
 have done : ∀ (listed : Array Bool), listed.size = ops.size -> Region.ready .any ops listed = [] -> ∀ j, j < ops.size -> listed.getD j false = true := by
   intro listed hsz hnil j
   induction j using Nat.strongRecOn with
   | _ j ih =>
     intro hj
     cases hl : listed.getD j false with
     | true => rfl
     | false =>
       have hjl : j < listed.size := by omega
       have : j ∈ Region.ready .any ops listed := by
         rw [mem_ready]
         refine ⟨?_, ops[j], Array.getElem?_eq_getElem hj, fun e he hb => ?_⟩
         . simp [hjl] at hl ⊢; exact hl
         . have := Joy hcl (Array.getElem?_eq_getElem hj) he hb
           exact ih e.on this (by omega)
       rw [hnil] at this; cases this
 intro fuel
 induction fuel with
 | zero =>
   intro listed φ a w hsz hI hD hc
   have hall : ∀ j, j < ops.size -> listed.getD j false = true := fun j hj => by
     have := List.countP_eq_zero.1 (Nat.le_zero.1 hc) j (by simpa using hj)
     simpa using this
   refine ⟨?_, hQ _ φ a w hall hI⟩
   rw [List.eq_nil_iff_forall_not_mem]
   intro j hj
   obtain ⟨h0, o, ho, _⟩ := mem_ready.1 hj
   have hj' : j < ops.size := (Array.getElem?_eq_some_iff.1 ho).1
   have := hall j hj'
   have hjl : j < listed.size := by omega
   simp [hjl] at h0 this
   rw [h0] at this; cases this
 | succ fuel ih =>
   intro listed φ a w hsz hI hD hc
   refine ⟨fun hnil => hQ _ φ a w (done listed hsz hnil) hI, fun i hi => ?_⟩
   obtain ⟨h0, o, ho, hr⟩ := mem_ready.1 hi
   have hi' : i < ops.size := (Array.getElem?_eq_some_iff.1 ho).1
   have hil : i < listed.size := by omega
   have hD0 : listed.getD i false = false := by simp [hil] at h0 ⊢; exact h0
   have hfun : (fun j => (listed.setIfInBounds i true).getD j false) = also (fun j => listed.getD j false) i := by
     funext j
     by_cases hij : i = j
     . subst hij; simp [also, hil]
     . have : (j == i) = false := by simp; omega
       rw [getD_set_ne false hij]; simp [also, this]
   refine Jt1 ht hn0 hcl hp hI hD ho hD0 hr fun φ' a' w' hI' => ?_
   refine ih (listed.setIfInBounds i true) φ' a' w' (by simpa using hsz) (by rw [hfun]; exact hI') ?_ ?_
   . rw [hfun]
     intro j oj hoj hj e he hb
     simp only [also, Bool.or_eq_true, beq_iff_eq] at hj ⊢
     rcases hj with hj | rfl
     . exact .inl (hD j oj hoj hj e he hb)
     . rw [ho] at hoj; cases hoj
       exact .inl (hr e he hb)
   . have := Jo1 (l := List.range ops.size) (p := fun j => !listed.getD j false) (q := fun j => !(listed.setIfInBounds i true).getD j false)
       (fun j hj => by
         have e := congrFun hfun j
         change (!(listed.setIfInBounds i true).getD j false) = true at hj
         change (listed.setIfInBounds i true).getD j false = also (fun j => listed.getD j false) i j at e
         rw [e] at hj
         simp only [also, Bool.not_eq_true', Bool.or_eq_false_iff] at hj ⊢
         exact hj.1)
       ⟨i, by simpa using hi', by simp [hD0], by simp [hil]⟩
     omega
theorem Jwl {id : Nat} {Q : Exit -> St -> Prop} {cl : List (List Nat)} (hm : P.follows .mixedOrders = true) (ht : Tr P G N ops ops.toList st0 recs st1) (hcl : clOk ops cl = true) (hp : Pairs ops cl (recs.map Rec.fp))
   (hQ : Q .normal st1) : Jju P G N n0 id ops st0 Q := by
 refine ⟨fun F φ a w hr => ?_⟩
 refine wpIn_region_any hm ?_
 have stw : ∀ F' : Nat -> Prop, Step (ownF F' φ st0.s) (ownF F' φ st0.s) w { w with drawn := w.drawn + 1 } := fun F' => ⟨fun _ _ h => ⟨rfl, h⟩, Nat.le_refl _, fun _ arr _ h => ⟨arr, h, rfl⟩, rfl, rfl, rfl⟩
 obtain ⟨hnx, hrange, hdisj, hend⟩ := ht.fin
 have hfalse : (fun j => (Array.replicate ops.size false).getD j false) = fun _ => false := by
   funext j
   by_cases h : j < ops.size <;> simp [h]
 refine Jtz (F := F) (φ0 := φ) (w0 := w) ht hr.base hcl hp ?_ ops.size _ φ a _ (by simp) ?_ ?_ ?_
 . intro D φ' a' w' hall hI
   obtain ⟨e1, e2⟩ := hend 0 D fun j _ hj => hall j (by rw [ht.at.1] at hj; simpa using hj)
   have e : stD st0 st1 recs D = st1 := by unfold stD; rw [e1, e2]
   have hrel := hI.rel
   have hst := hI.step
   rw [e] at hrel hst
   exact ⟨st1, φ', hQ, hrel, hI.base, hst⟩
 . rw [hfalse]
   have e : stD st0 st1 recs (fun _ => false) = ⟨st0.t, st0.s, st1.nx⟩ := by unfold stD; rw [Jgu fun _ _ => rfl, Jgu fun _ _ => rfl]
   refine ⟨?_, ?_, fun _ _ => rfl, ?_⟩
   . rw [e]
     refine ⟨?_, fun b hb => hr.fresh b (Nat.le_trans hnx hb), Nat.le_trans hr.base hnx, hr.tr.mono (fun _ _ h => h) (stw F), hr.side.mono (stw _) rfl⟩
     exact hr.sr.change (fun _ _ h => h) (stw F) (fun b x hb => .inl ⟨hb, fun p hp => rfl⟩) hr.sr.inj hr.sr.disj
   . intro i r hri _ b h1 h2
     exact hr.fresh b (Nat.le_trans (hrange i r hri).1 h1)
   . rw [e]; exact stw
 . rw [hfalse]; intro j o _ hj; cases hj
 . exact Nat.le_trans List.countP_le_length (by simp)
abbrev Fps := List (List Nat × List Nat)
def Jfc (P : Program) (G : Jac) (N : Nat) [ops : Cont (Array Oper)] [l : Cont (List Oper)] (t : Jap) (s : Store) (nx : Nat) (acc : Fps) [K : Cont (St -> Fps -> Prop)] : Prop := Jd5 P G N ops.k l.k ⟨t, s, nx⟩ acc K.k
section
variable {ops : Cont (Array Oper)} {K : Cont (St -> Fps -> Prop)} {d : Option Nat} {op : Op} {ty : Nat} {pos : String} {after : Array Edge} {rest : List Oper} {t : Jap} {s : Store} {nx : Nat} {acc : Fps}
@[simp] theorem J6j : @Jfc P G N ops ⟨[]⟩ t s nx acc K = K.k ⟨t, s, nx⟩ acc := (rfl)
@[simp] theorem J6h : @Jfc P G N ops ⟨⟨d, op, ty, pos, after, none⟩ :: rest⟩ t s nx acc K =
   (Jc6 N d = true /\ Jf0 op = true /\ @xop P G op t s nx ⟨fun v rd up nx' => @Jfc P G N ops ⟨rest⟩ (putA t d v) (up ++ s) nx' (acc ++ [(rd, keys up)]) K⟩) := (rfl)
@[simp] theorem J6i {j : Nat} {want : Bool} : @Jfc P G N ops ⟨⟨d, op, ty, pos, after, some (j, want)⟩ :: rest⟩ t s nx acc K =
   (Jc6 N d = true /\ @Ja1 _ (Jdi ops.k j) ⟨fun e => @Jgn (slot t e) want ⟨Jf0 op = true /\ @xop P G op t s nx ⟨fun v rd up nx' => @Jfc P G N ops ⟨rest⟩ (putA t d v) (up ++ s) nx' (acc ++ [(rd, keys up)]) K⟩⟩
     ⟨@Jfc P G N ops ⟨rest⟩ (putA t d (.tup [])) s nx (acc ++ [([], [])]) K⟩⟩) := by
 show (_ /\ _) = _
 congr 1
 show (match Jdi ops.k j with | some d => _ | none => _) = _
 cases h : Jdi ops.k j with
 | none => rfl
 | some e =>
   simp only [Ja1, Jaj, Jgn]
   generalize slot t e = u
   match u with
   | .p (.bool b) => rfl
   | .tup [] => rfl
   | .tup (_ :: _) | .p (.int ..) | .p (.str _) | .p (.lst ..) | .p .nilf | .p .nilsl | .p .nilif | .p .ifc | .p (.ptr _) | .p (.full ..) | .agg _ | .nils | .ref .. | .ptr .. | .iptr .. | .nilp | .map _ | .pmap .. | .nilm | .fn .. | .acc .. | .ubool | .any => rfl
end
def Bears (fps : Fps) [ops : Cont (Array Oper)] : Prop := Jky ops.k fps = true
theorem Bears.of {fps : Fps} {ops : Cont (Array Oper)} (h : Jky ops.k fps = true) : @Bears fps ops := h
theorem Jaf.intro {id : Nat} {l : List Oper} {t : Jap} {s : Store} {nx : Nat} {Q : Cont KQ} (hm : P.follows .mixedOrders = true)
   (h : @Jfc P G N ⟨List.toArray l⟩ ⟨l⟩ t s nx [] ⟨fun st fps => @Bears fps ⟨List.toArray l⟩ /\ Q.k .normal st⟩) : @Jaf P G N n0 id ⟨List.toArray l⟩ ⟨t, s, nx⟩ Q := by
 obtain ⟨recs, st', h1, h2, h3⟩ := Jmz h
 simp only [Bears, Jky, Bool.and_eq_true, List.nil_append] at h2
 exact Jwl hm (by simpa using h1) h2.1 (Jwk h2.2) h3
attribute [simp] keys
end
end Go.Am
namespace Go.Am
open Go
section
variable {P : Program} {G : Jac}
end
end Go.Am
namespace Go.Am
open Go
section
variable {φ : Places} {own : Nat -> Prop} {w : World} {ρ : List Nat}
theorem Je9 {b : Nat} {p : Place} (h : via φ ρ b = some p) : ∃ b', ρ[b]? = some b' /\ φ b' = some p := by
 simpa [via, Option.bind_eq_some_iff] using h
theorem VR.fwd {x y : AV} {v : Value} (h : VR (via φ ρ) own w x v) (hr : renA ρ x = some y) : VR φ own w y v := by
 induction h generalizing y with
 | any v => cases hr
 | p x v h => simp [renA] at hr; subst hr; exact .p _ _ h
 | agg cs vs hl h ih =>
   simp only [renA, Option.map_eq_some_iff] at hr
   obtain ⟨ds, hr, rfl⟩ := hr
   obtain ⟨h1, h2⟩ := Jbz hr
   refine .agg ds vs (by omega) fun i c v hc hv => ?_
   have hi : i < cs.length := h1 ▸ (gsI.1 hc).1
   obtain ⟨y, e1, e2⟩ := h2 i _ (List.getElem?_eq_getElem hi)
   rw [hc] at e1; cases e1
   exact ih i _ v (List.getElem?_eq_getElem hi) hv e2
 | tup cs vs hl h ih =>
   simp only [renA, Option.map_eq_some_iff] at hr
   obtain ⟨ds, hr, rfl⟩ := hr
   obtain ⟨h1, h2⟩ := Jbz hr
   refine .tup ds vs (by omega) fun i c v hc hv => ?_
   have hi : i < cs.length := h1 ▸ (gsI.1 hc).1
   obtain ⟨y, e1, e2⟩ := h2 i _ (List.getElem?_eq_getElem hi)
   rw [hc] at e1; cases e1
   exact ih i _ v (List.getElem?_eq_getElem hi) hv e2
 | nils a => simp [renA] at hr; subst hr; exact .nils a
 | ref b k i n c β δ cap hφ hc hn room =>
   simp only [renA, Option.map_eq_some_iff] at hr
   obtain ⟨b', h1, rfl⟩ := hr
   obtain ⟨b2, k1, k2⟩ := Je9 hφ
   rw [h1] at k1; cases k1
   exact .ref _ _ _ _ _ β δ cap k2 hc hn room
 | ptr b k i j β δ hφ =>
   simp only [renA, Option.map_eq_some_iff] at hr
   obtain ⟨b', h1, rfl⟩ := hr
   obtain ⟨b2, k1, k2⟩ := Je9 hφ
   rw [h1] at k1; cases k1
   exact .ptr _ _ _ _ β δ k2
 | iptr k rows i j β o hβ hown h => simp [renA] at hr; subst hr; exact .iptr _ _ _ _ β o hβ hown h
 | ubool b => simp [renA] at hr; subst hr; exact .ubool b
 | acc0 b k a =>
   simp only [renA, Option.map_eq_some_iff] at hr
   obtain ⟨b', h1, rfl⟩ := hr
   exact .acc0 ..
 | acc b k n β δ cap hφ h0 hn room =>
   simp only [renA, Option.map_eq_some_iff] at hr
   obtain ⟨b', h1, rfl⟩ := hr
   obtain ⟨b2, k1, k2⟩ := Je9 hφ
   rw [h1] at k1; cases k1
   exact .acc _ _ _ β δ cap k2 h0 hn room
 | nilp => simp [renA] at hr; subst hr; exact .nilp
 | map b r δ hφ =>
   simp only [renA, Option.map_eq_some_iff] at hr
   obtain ⟨b', h1, rfl⟩ := hr
   obtain ⟨b2, k1, k2⟩ := Je9 hφ
   rw [h1] at k1; cases k1
   exact .map _ r δ k2
 | pmap ks vs r mes clock ps h => simp [renA] at hr; subst hr; exact .pmap ks vs r mes clock ps h
 | nilm => simp [renA] at hr; subst hr; exact .nilm
 | fn f cs vs hf hl h ih =>
   simp only [renA, Option.map_eq_some_iff] at hr
   obtain ⟨ds, hr, rfl⟩ := hr
   obtain ⟨h1, h2⟩ := Jbz hr
   refine .fn _ ds vs hf (by omega) fun i c v hc hv => ?_
   have hi : i < cs.length := h1 ▸ (gsI.1 hc).1
   obtain ⟨y, e1, e2⟩ := h2 i _ (List.getElem?_eq_getElem hi)
   rw [hc] at e1; cases e1
   exact ih i _ v (List.getElem?_eq_getElem hi) hv e2
 | bfn t p n b cs vs hl h ih =>
   simp only [renA, Option.map_eq_some_iff] at hr
   obtain ⟨ds, hr, rfl⟩ := hr
   obtain ⟨h1, h2⟩ := Jbz hr
   refine .bfn _ _ _ _ ds vs (by omega) fun i c v hc hv => ?_
   have hi : i < cs.length := h1 ▸ (gsI.1 hc).1
   obtain ⟨y, e1, e2⟩ := h2 i _ (List.getElem?_eq_getElem hi)
   rw [hc] at e1; cases e1
   exact ih i _ v (List.getElem?_eq_getElem hi) hv e2
theorem BR.fwd {b b' : Nat} {x y : ABlk} (hb : ρ[b]? = some b') (h : BR (via φ ρ) own w b x) (hr : renB ρ x = some y) : BR φ own w b' y := by
 have place : ∀ {p : Place}, via φ ρ b = some p -> φ b' = some p := fun h2 => by
   obtain ⟨b2, k1, k2⟩ := Je9 h2
   rw [hb] at k1; cases k1; exact k2
 cases x with
 | cells k rows =>
   simp only [renB, Option.map_eq_some_iff] at hr
   obtain ⟨rows', hr, rfl⟩ := hr
   obtain ⟨β, δ, arr, T, h1, h2, h3⟩ := h
   obtain ⟨hl, hg⟩ := Jma hr
   refine ⟨β, δ, arr, T, place h1, h2, fun i j row z hrow hz => ?_⟩
   have hi : i < rows.length := hl ▸ (gsI.1 hrow).1
   obtain ⟨row', e1, e2⟩ := hg i _ (List.getElem?_eq_getElem hi)
   rw [hrow] at e1; cases e1
   obtain ⟨hl2, hg2⟩ := Jbz e2
   have hj : j < rows[i].length := hl2 ▸ (gsI.1 hz).1
   obtain ⟨z', e3, e4⟩ := hg2 j _ (List.getElem?_eq_getElem hj)
   rw [hz] at e3; cases e3
   obtain ⟨hj, v, e5, e6⟩ := h3 i j _ _ (List.getElem?_eq_getElem hi) (List.getElem?_eq_getElem hj)
   exact ⟨hj, v, e5, e6.fwd e4⟩
 | map es =>
   simp only [renB, Option.map_eq_some_iff] at hr
   obtain ⟨es', hr, rfl⟩ := hr
   obtain ⟨r, mes, cl, h1, h2, h3, hB⟩ := h
   obtain ⟨hl, hg⟩ := Jl8 hr
   refine ⟨r, mes, cl, place h1, h2, ⟨by rw [h3.1, hl], fun i e m he hm => ?_⟩, hB⟩
   have hi : i < es.length := hl ▸ (gsI.1 he).1
   obtain ⟨e', e1, e2, e3⟩ := hg i _ (List.getElem?_eq_getElem hi)
   rw [he] at e1; cases e1
   obtain ⟨k1, k2⟩ := h3.2 i _ m (List.getElem?_eq_getElem hi) hm
   exact ⟨k1.fwd e2, k2.fwd e3⟩
 | iter ks vs seen =>
   simp only [renB, Option.some.injEq] at hr
   subst hr
   obtain ⟨r, mi, mes, cl, sn, ps, h1, h2, h3, hs⟩ := h
   exact ⟨r, mi, mes, cl, sn, ps, place h1, h2, h3, hs⟩
 | loop i t j =>
   simp only [renB, Option.map_eq_some_iff] at hr
   obtain ⟨t', hr, rfl⟩ := hr
   obtain ⟨tmps, D, h1, h2, h3, h4⟩ := h
   refine ⟨tmps, D, place h1, h2, h3, fun d => ?_⟩
   rcases Jhb hr d with ⟨e1, e2⟩ | e
   . rw [e2]; exact .any _
   . exact (h4 d).fwd e
end
def Jaq (σ : List Nat) (nx x : Nat) : List Nat := σ ++ (List.range x).map (nx + ·)
def renS (ρ : List Nat) : Store -> Option Store
 | [] => some []
 | (b, x) :: s => (ρ[b]?).bind fun b' => (match x with | none => some none | some y => (renB ρ y).map some).bind fun x' => (renS ρ s).map ((b', x') :: ·)
structure Out (τ : List Nat) (m x : Nat) (st : St) (sF : Store) : Prop where
 blocks : ∀ b y, get sF b = some y -> ∃ b' y', τ[b]? = some b' /\ renB τ y = some y' /\ get st.s b' = some y'
 nodup : τ.Nodup
 len : τ.length <= m + x
 base : τ.take m = List.range m
theorem Je0 {ρ : List Nat} (hn : ρ.Nodup) : ∀ {s s' : Store}, renS ρ s = some s' -> ∀ (b b' : Nat), ρ[b]? = some b' ->
   (b' ∈ keys s' ↔ b ∈ keys s) /\ (b ∈ keys s -> (get s b = none /\ get s' b' = none) \/ ∃ y y', get s b = some y /\ renB ρ y = some y' /\ get s' b' = some y')
 | [], s', h, b, b', hb => by
   simp [renS] at h; subst h; simp [keys]
 | (c, x) :: s, s', h, b, b', hb => by
   simp only [renS, Option.bind_eq_some_iff, Option.map_eq_some_iff] at h
   obtain ⟨c', hc, x', hx, s2, hs, rfl⟩ := h
   obtain ⟨ih1, ih2⟩ := Je0 hn hs b b' hb
   have hiff : c = b ↔ c' = b' := by
     constructor
     . rintro rfl; rw [hc] at hb; cases hb; rfl
     . rintro rfl
       obtain ⟨h1, e1⟩ := gsI.1 hc
       obtain ⟨h2, e2⟩ := gsI.1 hb
       exact Jej hn h1 h2 (e1.trans e2.symm)
   by_cases e : c = b
   . have e' := hiff.1 e
     subst e; subst e'
     refine ⟨by simp [keys], fun _ => ?_⟩
     simp only [get, if_true]
     cases x with
     | none => simp at hx; subst hx; exact .inl ⟨rfl, rfl⟩
     | some y =>
       simp only [Option.map_eq_some_iff] at hx
       obtain ⟨y', hy, rfl⟩ := hx
       exact .inr ⟨y, y', rfl, hy, rfl⟩
   . have e' : ¬ c' = b' := fun h => e (hiff.2 h)
     simp only [keys, List.map_cons, List.mem_cons, Ne.symm e, Ne.symm e', false_or, get, if_neg e, if_neg e']
     exact ⟨ih1, ih2⟩
theorem Je1 {ρ : List Nat} : ∀ {s s' : Store}, renS ρ s = some s' -> ∀ b' ∈ keys s', b' ∈ ρ
 | [], s', h, b', hb => by simp [renS] at h; subst h; simp [keys] at hb
 | (c, x) :: s, s', h, b', hb => by
   simp only [renS, Option.bind_eq_some_iff, Option.map_eq_some_iff] at h
   obtain ⟨c', hc, x', hx, s2, hs, rfl⟩ := h
   simp only [keys, List.map_cons, List.mem_cons] at hb
   rcases hb with rfl | hb
   . exact List.mem_of_getElem? hc
   . exact Je1 hs b' hb
theorem Ji6 {ρ ρ' : List Nat} : (∀ x y, renA ρ x = some y -> renA (ρ ++ ρ') x = some y) /\ (∀ xs ys, renL ρ xs = some ys -> renL (ρ ++ ρ') xs = some ys) := by
 have g : ∀ {b b' : Nat}, ρ[b]? = some b' -> (ρ ++ ρ')[b]? = some b' := fun h => by
   rw [List.getElem?_append_left (gsI.1 h).1]; exact h
 have hmain : ∀ n : Nat, (∀ (x y : AV), SizeOf.sizeOf x <= n -> renA ρ x = some y -> renA (ρ ++ ρ') x = some y) /\ (∀ (xs ys : List AV), SizeOf.sizeOf xs <= n -> renL ρ xs = some ys -> renL (ρ ++ ρ') xs = some ys) := by
   intro n
   induction n with
   | zero =>
     refine ⟨fun x y h => ?_, fun xs ys h => ?_⟩
     . cases x <;> simp at h
     . cases xs <;> simp at h
   | succ n ih =>
     refine ⟨fun x y h hr => ?_, fun xs ys h hr => ?_⟩
     . cases x <;> simp only [renA, Option.map_eq_some_iff] at hr ⊢ <;> try exact hr
       all_goals first
         | (obtain ⟨b', h1, h2⟩ := hr; exact ⟨b', g h1, h2⟩)
         | (obtain ⟨ds, h1, h2⟩ := hr; exact ⟨ds, ih.2 _ _ (by simp at h; omega) h1, h2⟩)
     . cases xs with
       | nil => exact hr
       | cons z zs =>
         simp only [renL, Option.bind_eq_some_iff, Option.map_eq_some_iff] at hr ⊢
         obtain ⟨z', h1, zs', h2, rfl⟩ := hr
         exact ⟨z', ih.1 _ _ (by simp at h; omega) h1, zs', ih.2 _ _ (by simp at h; omega) h2, rfl⟩
 exact ⟨fun x y => (hmain _).1 x y (Nat.le_refl _), fun xs ys => (hmain _).2 xs ys (Nat.le_refl _)⟩
theorem Jru {ρ ρ' : List Nat} : ∀ {xs ys}, renR ρ xs = some ys -> renR (ρ ++ ρ') xs = some ys
 | [], ys, h => h
 | x :: xs, ys, h => by
   simp only [renR, Option.bind_eq_some_iff, Option.map_eq_some_iff] at h ⊢
   obtain ⟨x', h1, xs', h2, rfl⟩ := h
   exact ⟨x', Ji6.2 _ _ h1, xs', Jru h2, rfl⟩
theorem Jrs {ρ ρ' : List Nat} : ∀ {xs ys}, renE ρ xs = some ys -> renE (ρ ++ ρ') xs = some ys
 | [], ys, h => h
 | x :: xs, ys, h => by
   simp only [renE, Option.bind_eq_some_iff, Option.map_eq_some_iff] at h ⊢
   obtain ⟨x1, h1, x2, h2, xs', h3, rfl⟩ := h
   exact ⟨x1, Ji6.1 _ _ h1, x2, Ji6.1 _ _ h2, xs', Jrs h3, rfl⟩
theorem Jrx {ρ ρ' : List Nat} : ∀ {xs ys}, renT ρ xs = some ys -> renT (ρ ++ ρ') xs = some ys
 | [], ys, h => h
 | x :: xs, ys, h => by
   simp only [renT, Option.bind_eq_some_iff, Option.map_eq_some_iff] at h ⊢
   obtain ⟨x', h1, xs', h2, rfl⟩ := h
   exact ⟨x', Ji6.1 _ _ h1, xs', Jrx h2, rfl⟩
theorem Jrr {ρ ρ' : List Nat} {x y : ABlk} (h : renB ρ x = some y) : renB (ρ ++ ρ') x = some y := by
 cases x with
 | cells k rows =>
   simp only [renB, Option.map_eq_some_iff] at h ⊢
   obtain ⟨r, h1, h2⟩ := h; exact ⟨r, Jru h1, h2⟩
 | map es =>
   simp only [renB, Option.map_eq_some_iff] at h ⊢
   obtain ⟨r, h1, h2⟩ := h; exact ⟨r, Jrs h1, h2⟩
 | iter ks vs seen => exact h
 | loop i t j =>
   simp only [renB, Option.map_eq_some_iff] at h ⊢
   obtain ⟨t', h1, h2⟩ := h; exact ⟨t', Jrx h1, h2⟩
end Go.Am
namespace Go.Am
open Go
section
variable {P : Program} {G : Jac} {N : Nat}
theorem get_append (u s : Store) (b : Nat) : get (u ++ s) b = if b ∈ keys u then get u b else get s b := by
 rw [<- Jex, <- Jex, <- Jex, Jew]
theorem Jii {α : Type} {f : α -> Nat} {l : List α} {b : Nat} : get (l.map fun x => (f x, none)) b = none := by
 induction l with
 | nil => rfl
 | cons x l ih =>
   simp only [List.map_cons, get]
   split
   . rfl
   . exact ih
theorem Jfz {σ : List Nat} {nx x b : Nat} (h : b < σ.length) : (Jaq σ nx x)[b]? = σ[b]? := by
 unfold Jaq; rw [List.getElem?_append_left h]
theorem Jqs {σ : List Nat} {nx x b : Nat} (h : σ.length <= b) (h2 : b < σ.length + x) : (Jaq σ nx x)[b]? = some (nx + (b - σ.length)) := by
 unfold Jaq; rw [List.getElem?_append_right h, List.getElem?_map, List.getElem?_range (by omega)]; rfl
theorem Jix {σ : List Nat} {nx x : Nat} : (Jaq σ nx x).length = σ.length + x := by simp [Jaq]
theorem Jiy {σ : List Nat} {nx x b : Nat} : b ∈ Jaq σ nx x ↔ b ∈ σ \/ (nx <= b /\ b < nx + x) := by
 simp only [Jaq, List.mem_append, List.mem_map, List.mem_range]
 constructor
 . rintro (h | ⟨i, h, rfl⟩)
   . exact .inl h
   . exact .inr (by omega)
 . rintro (h | h)
   . exact .inl h
   . exact .inr ⟨b - nx, by omega, by omega⟩
theorem Jqt {σ : List Nat} {nx x : Nat} (h : σ.Nodup) (hlow : ∀ b ∈ σ, b < nx) : (Jaq σ nx x).Nodup := by
 unfold Jaq
 rw [List.nodup_append]
 refine ⟨h, ?_, fun a ha b hb => ?_⟩
 . rw [List.Nodup, List.pairwise_map]
   exact List.Pairwise.imp (fun h => by omega) (List.nodup_range (n := x))
 . simp only [List.mem_map, List.mem_range] at hb
   obtain ⟨i, _, rfl⟩ := hb
   have := hlow a ha
   omega
inductive FrzK (s : Store) (B : Nat -> Prop) : AV -> AV -> Prop
 | keep (a) : FrzK s B a a
 | frz (a x) (h : FrzA s B a x) : FrzK s B a x
 | tup (cs ds : List AV) (hl : ds.length = cs.length) (h : ∀ (i : Nat) c d, cs[i]? = some c -> ds[i]? = some d -> FrzK s B c d) : FrzK s B (.tup cs) (.tup ds)
theorem VR.frzK {G F φ s w a r v B own} (hs : SR G F φ s w) (hh : Hides F φ s B own) (h : VR φ (ownF F φ s) w a v) (hf : FrzK s B a r) : VR φ own w r v := by
 induction hf generalizing v with
 | keep a => exact h.mono (fun _ _ h => h) hh.step
 | frz a x hx => exact VR.frzA hs hh h hx
 | tup cs ds hl hc ih =>
   obtain ⟨vs, rfl, k1, k2⟩ := h.tup_inv
   refine .tup ds vs (by omega) fun i d v hd hv => ?_
   have hi : i < cs.length := hl ▸ (gsI.1 hd).1
   exact ih i _ d (List.getElem?_eq_getElem hi) hd (k2 i _ v (List.getElem?_eq_getElem hi) hv)
def Ends (P : Program) (rs : List ResultVar) (m x : Nat) (sF : Store) (r : AV) (e : Exit) (st : St) : Prop :=
 (e = .ret \/ e = .normal) /\ ∃ vs, resA P st rs vs /\ ∃ (τ : List Nat) (B : Nat -> Prop) (r0 r1 : AV), wkn (resV vs) r0 /\ FrzK st.s B r0 r1 /\ renA τ r = some r1 /\ Out τ m x st sF /\ ∀ b b' y, τ[b]? = some b' -> get sF b = some y -> ¬ B b'
structure Lends (σ : List Nat) (nx : Nat) (s0 s : Store) (args args' : List AV) : Prop where
 blocks : ∀ b y, get s0 b = some y -> ∃ b' y', σ[b]? = some b' /\ renB σ y = some y' /\ get s b' = some y'
 all : ∀ b, b < σ.length -> ∃ y, get s0 b = some y
 nodup : σ.Nodup
 low : ∀ b ∈ σ, b < nx
 args : renL σ args = some args'
def Jcd (φ : Places) (σ : List Nat) (s1c : Store) (F : Nat -> Prop) : Nat -> Prop := fun β => F β \/ ∃ b x p, get s1c b = some x /\ b ∉ σ /\ φ b = some p /\ p.1 = β
theorem Jg4 {args args' : List AV} {σ : List Nat} {s s0 s1c : Store} {nx : Nat} {φ : Places} (hL : Lends σ nx s0 s args args') (hag : Jb1 s s1c σ) (F : Nat -> Prop) : ownF (Jcd φ σ s1c F) (via φ σ) s0 = ownF F φ s1c := by
 let φ0 := via φ σ
 have h0 : ∀ b y, get s0 b = some y -> ∃ b' y', σ[b]? = some b' /\ renB σ y = some y' /\ get s1c b' = some y' := fun b y hb => by
   obtain ⟨b', y', e1, e2, e3⟩ := hL.blocks b y hb
   exact ⟨b', y', e1, e2, (hag b' (List.mem_of_getElem? e1)).trans e3⟩
 exact funext fun β => propext ⟨by
   rintro ((hF | ⟨b, x, p, k1, _, k2, k3⟩) | ⟨b, x, p, k1, k2, k3⟩)
   . exact .inl hF
   . exact .inr ⟨b, x, p, k1, k2, k3⟩
   . obtain ⟨b', y', e1, e2, e3⟩ := h0 b x k1
     exact .inr ⟨b', y', p, e3, by simpa [φ0, via, e1] using k2, k3⟩, by
   rintro (hF | ⟨b, x, p, k1, k2, k3⟩)
   . exact .inl (.inl hF)
   . by_cases hb : b ∈ σ
     . obtain ⟨i, hi, hib⟩ := List.getElem_of_mem hb
       obtain ⟨y, hy⟩ := hL.all i hi
       have hσi : σ[i]? = some b := by rw [List.getElem?_eq_getElem hi, hib]
       exact .inr ⟨i, y, p, hy, by simpa [φ0, via, hσi] using k2, k3⟩
     . exact .inl (.inr ⟨b, x, p, k1, hb, k2, k3⟩)⟩
theorem Jqj {args args' : List AV} {σ : List Nat} {s s0 s1c : Store} {nx : Nat} {φ : Places} {F : Nat -> Prop} {w : World} (hL : Lends σ nx s0 s args args') (hag : Jb1 s s1c σ) (hs : SR G F φ s1c w) : SR G (Jcd φ σ s1c F) (via φ σ) s0 w := by
 let F2 (F : Nat -> Prop) : Nat -> Prop := Jcd φ σ s1c F
 let φ0 := via φ σ
 have h0 : ∀ b y, get s0 b = some y -> ∃ b' y', σ[b]? = some b' /\ renB σ y = some y' /\ get s1c b' = some y' := fun b y hb => by
   obtain ⟨b', y', e1, e2, e3⟩ := hL.blocks b y hb
   exact ⟨b', y', e1, e2, (hag b' (List.mem_of_getElem? e1)).trans e3⟩
 have hinjσ : ∀ b b2 b', σ[b]? = some b' -> σ[b2]? = some b' -> b = b2 := fun b b2 b' e1 e2 => by
   obtain ⟨h1, e1⟩ := gsI.1 e1
   obtain ⟨h2, e2⟩ := gsI.1 e2
   exact Jej hL.nodup h1 h2 (e1.trans e2.symm)
 have eq1 : ∀ F : Nat -> Prop, ownF (F2 F) φ0 s0 = ownF F φ s1c := fun F => Jg4 hL hag F
 refine ⟨?_, ?_, ?_, ?_, ?_⟩
 . intro b y hy
   obtain ⟨b', y', e1, e2, e3⟩ := h0 b y hy
   have := (hs.blk b' y' e3).ren e1 e2
   have e := eq1 F
   change (fun β => F2 F β \/ ownS φ0 s0 β) = (fun β => F β \/ ownS φ s1c β) at e
   rw [e]
   exact this
 . intro b b2 y y2 p p2 k1 k2 k3 k4 k5
   obtain ⟨b', y', e1, e2, e3⟩ := h0 b y k1
   obtain ⟨c', z', e1', e2', e3'⟩ := h0 b2 y2 k2
   have := hs.inj b' c' y' z' p p2 e3 e3' (by simpa [φ0, via, e1] using k3) (by simpa [φ0, via, e1'] using k4) k5
   subst this
   exact hinjσ _ _ _ e1 e1'
 . intro b y p k1 k2
   obtain ⟨b', y', e1, e2, e3⟩ := h0 b y k1
   have hφ : φ b' = some p := by simpa [φ0, via, e1] using k2
   rintro (hF | ⟨c, z, q, j1, j2, j3, j4⟩)
   . exact hs.disj b' y' p e3 hφ hF
   . have := hs.inj c b' z y' q p j1 e3 j3 hφ j4
     subst this; exact j2 (List.mem_of_getElem? e1)
 . intro β hβ
   exact hs.osize β ((eq1 F) ▸ (Or.inl hβ : ownF (F2 F) φ0 s0 β))
 . intro g k rows hg
   have e := eq1 F
   change (fun β => F2 F β \/ ownS φ0 s0 β) = (fun β => F β \/ ownS φ s1c β) at e
   rw [e]
   obtain ⟨j1, j2, j3⟩ := hs.glob g k rows hg
   exact ⟨j1, fun h' => j2 ((congrFun e g).mp h'), j3⟩
theorem Jqh {args args' : List AV} {σ free τ : List Nat} {s s0 s1 s1c up1 : Store} {nx m x : Nat} {r rc r0 r1 rv : AV} {φ φ1 : Places} {F : Nat -> Prop} {w w' : World} {B : Nat -> Prop} {st' : St} {u : Value}
   (hm : σ.length = m) (hL : Lends σ nx s0 s args args') (hfree : ∀ b ∈ free, b < m) (hr : renA (Jaq σ nx x) r = some rc) (hup : renS (Jaq σ nx x) s1 = some up1) (hag : Jb1 s s1c σ) (hs : SR G F φ s1c w) (hfr : ∀ b, nx <= b -> b < nx + x -> φ b = none)
   (hwk : wkn rv r0) (hfrz : FrzK st'.s B r0 r1) (hren : renA τ r = some r1) (hout : Out τ m x st' (s1 ++ (free.map (·, none) ++ s0))) (hB : ∀ b b' y, τ[b]? = some b' -> get (s1 ++ (free.map (·, none) ++ s0)) b = some y -> ¬ B b')
   (hsr' : SR G (Jcd φ σ s1c F) φ1 st'.s w') (hbase : ∀ b, b < m -> φ1 b = via φ σ b) (hstep : ∀ F' : Nat -> Prop, Step (ownF F' (via φ σ) s0) (ownF F' φ1 st'.s) w w') (k2 : VR φ1 (ownF (Jcd φ σ s1c F) φ1 st'.s) w' rv u) :
   Post G F φ s1c w rc (up1 ++ free.map fun b => ((σ[b]?).getD 0, none)) nx (nx + x) u w' := by
 let F2 (F : Nat -> Prop) : Nat -> Prop := Jcd φ σ s1c F
 let φ0 := via φ σ
 have h0 : ∀ b y, get s0 b = some y -> ∃ b' y', σ[b]? = some b' /\ renB σ y = some y' /\ get s1c b' = some y' := fun b y hb => by
   obtain ⟨b', y', e1, e2, e3⟩ := hL.blocks b y hb
   exact ⟨b', y', e1, e2, (hag b' (List.mem_of_getElem? e1)).trans e3⟩
 have hinjσ : ∀ b b2 b', σ[b]? = some b' -> σ[b2]? = some b' -> b = b2 := fun b b2 b' e1 e2 => by
   obtain ⟨h1, e1⟩ := gsI.1 e1
   obtain ⟨h2, e2⟩ := gsI.1 e2
   exact Jej hL.nodup h1 h2 (e1.trans e2.symm)
 have eq1 : ∀ F : Nat -> Prop, ownF (F2 F) φ0 s0 = ownF F φ s1c := fun F => Jg4 hL hag F
 -- the names
 let σ' := Jaq σ nx x
 let sF : Store := s1 ++ (free.map (·, none) ++ s0)
 let φ2 : Places := via φ1 τ
 let φ' : Places := fun b => if nx <= b /\ b < nx + x then φ2 (m + (b - nx)) else φ b
 let s' : Store := (up1 ++ free.map fun b => ((σ[b]?).getD 0, none)) ++ s1c
 have hσn : σ'.Nodup := Jqt hL.nodup hL.low
 have hτ : ∀ b, b < m -> τ[b]? = some b := fun b hb => by
   have h2 : (τ.take m)[b]? = some b := by rw [hout.base]; simp [hb]
   rwa [List.getElem?_take_of_lt hb] at h2
 have hlt : ∀ b b', τ[b]? = some b' -> b < m + x := fun b b' h => Nat.lt_of_lt_of_le (gsI.1 h).1 hout.len
 have hname' : ∀ b, b < m + x -> ∃ cb, σ'[b]? = some cb /\ φ' cb = φ2 b := fun b hb => by
   by_cases hbm : b < m
   . have hσb : σ[b]? = some (σ[b]'(by omega)) := List.getElem?_eq_getElem (by omega)
     have hlow := hL.low _ (List.mem_of_getElem? hσb)
     refine ⟨_, (Jfz (by omega)).trans hσb, ?_⟩
     have e1 : φ' (σ[b]'(by omega)) = φ (σ[b]'(by omega)) := if_neg (by omega)
     have e2 : φ2 b = φ1 b := by simp [φ2, via, hτ b hbm]
     rw [e1, e2, hbase b hbm]
     simp [φ0, via, hσb]
   . refine ⟨nx + (b - m), by rw [<- hm]; exact Jqs (by omega) (by omega), ?_⟩
     have : φ' (nx + (b - m)) = φ2 (m + (nx + (b - m) - nx)) := if_pos (by omega)
     rw [this]; congr 1; omega
 have hφ' : ∀ b cb, σ'[b]? = some cb -> φ' cb = φ2 b := fun b cb h => by
   have hb : b < m + x := by have := (gsI.1 h).1; rw [Jix] at this; omega
   obtain ⟨cb', e1, e2⟩ := hname' b hb
   rw [h] at e1; cases e1; exact e2
 have hσlt : ∀ b cb, σ'[b]? = some cb -> b < m + x := fun b cb h => by
   have := (gsI.1 h).1; rw [Jix] at this; omega
 have hvia : φ2.le (via φ' σ') := fun b p h => by
   obtain ⟨b', e1, _⟩ := Je9 h
   obtain ⟨cb, e3, e4⟩ := hname' b (hlt b b' e1)
   simp [via, e3, e4, h]
 have hfreeσ : ∀ b, b ∈ free -> ∃ cb, σ[b]? = some cb /\ (σ[b]?).getD 0 = cb := fun b hb => by
   have hlt := hfree b hb
   have hσb : σ[b]? = some (σ[b]'(by omega)) := List.getElem?_eq_getElem (by omega)
   exact ⟨_, hσb, by rw [hσb]; rfl⟩
 have hkfree : ∀ cb, cb ∈ keys (free.map fun b => ((σ[b]?).getD 0, (none : Option ABlk))) ↔ ∃ b, b ∈ free /\ σ[b]? = some cb := fun cb => by
   simp only [keys, List.map_map, List.mem_map, Function.comp]
   constructor
   . rintro ⟨b, hb, rfl⟩
     obtain ⟨cb, e1, e2⟩ := hfreeσ b hb
     exact ⟨b, hb, by rw [e2]; exact e1⟩
   . rintro ⟨b, hb, e⟩
     exact ⟨b, hb, by rw [e]; rfl⟩
 have hkfree0 : ∀ b, b ∈ keys (free.map fun b => (b, (none : Option ABlk))) ↔ b ∈ free := fun b => by simp [keys]
 have hgetF : ∀ b y, get sF b = some y -> ∃ cb z, σ'[b]? = some cb /\ renB σ' y = some z /\ get s' cb = some z := fun b y hy => by
   obtain ⟨b1, y1, e1, _, _⟩ := hout.blocks b y hy
   obtain ⟨cb, hcb, _⟩ := hname' b (hlt b b1 e1)
   obtain ⟨j1, j2⟩ := Je0 hσn hup b cb hcb
   by_cases hk : b ∈ keys s1
   . have hy' : get s1 b = some y := by have := hy; simp only [sF] at this; rwa [get_append, if_pos hk] at this
     rcases j2 hk with ⟨h1, _⟩ | ⟨y2, z, h1, h2, h3⟩
     . rw [hy'] at h1; cases h1
     . rw [hy'] at h1; cases h1
       refine ⟨cb, z, hcb, h2, ?_⟩
       simp only [s', List.append_assoc]
       rw [get_append, if_pos (j1.2 hk)]
       exact h3
   . have hy' : get (free.map (·, none) ++ s0) b = some y := by have := hy; simp only [sF] at this; rwa [get_append, if_neg hk] at this
     rw [get_append] at hy'
     by_cases hfb : b ∈ free
     . rw [if_pos ((hkfree0 b).2 hfb), Jii] at hy'; cases hy'
     . rw [if_neg (fun h => hfb ((hkfree0 b).1 h))] at hy'
       obtain ⟨b', y', l1, l2, l3⟩ := h0 b y hy'
       have hbm : b < σ.length := (gsI.1 l1).1
       have hcb' : cb = b' := by
         rw [show σ'[b]? = σ[b]? from Jfz hbm, l1] at hcb
         exact (Option.some.inj hcb).symm
       subst hcb'
       refine ⟨cb, y', hcb, Jrr l2, ?_⟩
       simp only [s', List.append_assoc]
       rw [get_append, if_neg (fun h => hk (j1.1 h)), get_append, if_neg]
       . exact l3
       . intro h
         obtain ⟨b2, h1, h2⟩ := (hkfree cb).1 h
         exact hfb (hinjσ _ _ _ h2 l1 ▸ h1)
 have hplace : ∀ cb z, get s1c cb = some z -> φ' cb = φ cb /\ ¬ (nx <= cb /\ cb < nx + x) := fun cb z hz => by
   obtain ⟨p, hp, _⟩ := (hs.blk cb z hz).place
   have : ¬ (nx <= cb /\ cb < nx + x) := fun h => by rw [hfr cb h.1 h.2] at hp; cases hp
   exact ⟨if_neg this, this⟩
 have hgetR : ∀ cb z, get s' cb = some z -> (∃ b y, σ'[b]? = some cb /\ get sF b = some y /\ renB σ' y = some z) \/ (cb ∉ σ /\ get s1c cb = some z) := fun cb z hz => by
   have first : ∀ b y, σ'[b]? = some cb -> get sF b = some y -> ∃ b y, σ'[b]? = some cb /\ get sF b = some y /\ renB σ' y = some z := fun b y h1 h2 => by
     obtain ⟨cb', z', e1, e2, e3⟩ := hgetF b y h2
     rw [h1] at e1; cases e1
     rw [hz] at e3; cases e3
     exact ⟨b, y, h1, h2, e2⟩
   have hz0 := hz
   simp only [s', List.append_assoc] at hz
   rw [get_append] at hz
   by_cases hk : cb ∈ keys up1
   . rw [if_pos hk] at hz
     obtain ⟨b, hb, hcb⟩ := List.getElem_of_mem (Je1 hup cb hk)
     have hσb : σ'[b]? = some cb := by rw [List.getElem?_eq_getElem hb]; exact congrArg some hcb
     obtain ⟨j1, j2⟩ := Je0 hσn hup b cb hσb
     rcases j2 (j1.1 hk) with ⟨_, h1⟩ | ⟨y, z', h1, h2, h3⟩
     . rw [hz] at h1; cases h1
     . exact .inl (first b y hσb (by simp only [sF]; rw [get_append, if_pos (j1.1 hk)]; exact h1))
   . rw [if_neg hk, get_append] at hz
     by_cases hk2 : cb ∈ keys (free.map fun b => ((σ[b]?).getD 0, (none : Option ABlk)))
     . rw [if_pos hk2, Jii] at hz; cases hz
     . rw [if_neg hk2] at hz
       by_cases hcσ : cb ∈ σ
       . obtain ⟨b, hb, hcb⟩ := List.getElem_of_mem hcσ
         have hσb0 : σ[b]? = some cb := by rw [List.getElem?_eq_getElem hb, hcb]
         have hσb : σ'[b]? = some cb := (Jfz hb).trans hσb0
         obtain ⟨y0, hy0⟩ := hL.all b hb
         obtain ⟨j1, _⟩ := Je0 hσn hup b cb hσb
         refine .inl (first b y0 hσb ?_)
         simp only [sF]
         rw [get_append, if_neg (fun h => hk (j1.2 h)), get_append, if_neg]
         . exact hy0
         . intro h; exact hk2 ((hkfree cb).2 ⟨b, (hkfree0 b).1 h, hσb0⟩)
       . exact .inr ⟨hcσ, hz⟩
 have hkeepS : ∀ b z, get s1c b = some z -> b ∉ σ -> get s' b = some z := fun b z hz hb => by
   have hnot := (hplace b z hz).2
   simp only [s', List.append_assoc]
   rw [get_append, if_neg, get_append, if_neg]
   . exact hz
   . intro h
     obtain ⟨b2, _, h2⟩ := (hkfree b).1 h
     exact hb (List.mem_of_getElem? h2)
   . intro h
     rcases Jiy.1 (Je1 hup b h) with h | h
     . exact hb h
     . exact hnot h
 have eq2 : ∀ F : Nat -> Prop, ownF F φ' s' = ownF (F2 F) φ2 sF := fun F => funext fun β => propext ⟨by
   rintro (hF | ⟨cb, z, p, l1, l2, l3⟩)
   . exact .inl (.inl hF)
   . rcases hgetR cb z l1 with ⟨b, y, e1, e2, _⟩ | ⟨e1, e2⟩
     . exact .inr ⟨b, y, p, e2, (hφ' b cb e1).symm.trans l2, l3⟩
     . exact .inl (.inr ⟨cb, z, p, e2, e1, (hplace cb z e2).1.symm.trans l2, l3⟩), by
   rintro ((hF | ⟨b, z, p, l1, l2, l3, l4⟩) | ⟨b, y, p, l1, l2, l3⟩)
   . exact .inl hF
   . exact .inr ⟨b, z, p, hkeepS b z l1 l2, (hplace b z l1).1.trans l3, l4⟩
   . obtain ⟨cb, z, e1, _, e3⟩ := hgetF b y l1
     exact .inr ⟨cb, z, p, e3, (hφ' b cb e1).trans l2, l3⟩⟩
 have hsub : ∀ F : Nat -> Prop, ∀ β, ownF F φ2 sF β -> ownF F φ1 st'.s β := fun F β h => by
   rcases h with hF | ⟨b, y, p, l1, l2, l3⟩
   . exact .inl hF
   . obtain ⟨b1, y1, e1, _, e3⟩ := hout.blocks b y l1
     exact .inr ⟨b1, y1, p, e3, by simpa [φ2, via, e1] using l2, l3⟩
 have hshrink : ∀ F : Nat -> Prop, Step (ownF F φ1 st'.s) (ownF F φ2 sF) w' w' := fun F => ⟨fun β _ hn => ⟨rfl, fun h' => hn (hsub F β h')⟩, Nat.le_refl _, fun _ arr _ h => ⟨arr, h, rfl⟩, rfl, rfl, rfl⟩
 have hst : ∀ F : Nat -> Prop, Step (ownF F φ s1c) (ownF F φ' s') w w' := fun F => by
   rw [eq2, <- eq1]
   exact (hstep (F2 F)).trans (hshrink (F2 F))
 have hle : φ.le φ' := fun b p hp => by
   by_cases hb : nx <= b /\ b < nx + x
   . rw [hfr b hb.1 hb.2] at hp; cases hp
   . show (if _ then _ else _) = _
     rw [if_neg hb]; exact hp
 have hF2F : ∀ cb z p, get s1c cb = some z -> cb ∉ σ -> φ cb = some p -> F2 F p.1 := fun cb z p h1 h2 h3 => .inr ⟨cb, z, p, h1, h2, h3, rfl⟩
 have hτinj : ∀ b b2 b', τ[b]? = some b' -> τ[b2]? = some b' -> b = b2 := fun b b2 b' e1 e2 => by
   obtain ⟨h1, e1⟩ := gsI.1 e1
   obtain ⟨h2, e2⟩ := gsI.1 e2
   exact Jej hout.nodup h1 h2 (e1.trans e2.symm)
 have hhides : Hides (F2 F) φ1 st'.s B (ownF (F2 F) φ2 sF) := ⟨hsub _, fun b1 y1 p hB1 l1 l2 l3 => by
   rcases l3 with hF | ⟨b, y, q, k3, k4, k5⟩
   . exact hsr'.disj b1 y1 p l1 l2 hF
   . obtain ⟨b2, y2, e1, _, e3⟩ := hout.blocks b y k3
     have := hsr'.inj b2 b1 y2 y1 q p e3 l1 (by simpa [φ2, via, e1] using k4) l2 k5
     subst this
     exact hB b b2 y e1 k3 hB1⟩
 refine ⟨φ', hle, fun b hb => if_neg (by omega), ?_, ?_, hst⟩
 . have e2 := eq2 F
   change (fun β => F β \/ ownS φ' s' β) = (ownF (F2 F) φ2 sF) at e2
   refine ⟨?_, ?_, ?_, ?_, ?_⟩
   . intro cb z hz
     rcases hgetR cb z hz with ⟨b, y, l1, l2, l3⟩ | ⟨l1, l2⟩
     . obtain ⟨b1, y1, j1, j2, j3⟩ := hout.blocks b y l2
       have hbr := hsr'.blk b1 y1 j3
       have hbr2 : BR φ1 (ownF (F2 F) φ2 sF) w' b1 y1 := hbr.mono (fun _ _ h => h) (hshrink (F2 F)) (fun _ _ => rfl)
       have hbr3 : BR φ2 (ownF (F2 F) φ2 sF) w' b y := hbr2.ren j1 j2
       have hbr4 : BR (via φ' σ') (ownF (F2 F) φ2 sF) w' b y := hbr3.mono hvia (Step.refl _ _) (fun _ _ => rfl)
       change BR φ' (fun β => F β \/ ownS φ' s' β) w' cb z
       rw [e2]
       exact hbr4.fwd l1 l3
     . change BR φ' (fun β => F β \/ ownS φ' s' β) w' cb z
       refine (hs.blk cb z l2).mono hle (hst F) fun p hp => ?_
       refine ((hstep (fun _ => False)).keep p.1 ?_ ?_).1
       . obtain ⟨q, h1, h2⟩ := (hs.blk cb z l2).place
         rw [hp] at h1; cases h1; exact h2
       . rintro (h | ⟨b, y, q, h1, h2, h3⟩)
         . exact h
         . obtain ⟨b', y', i1, _, i3⟩ := h0 b y h1
           have := hs.inj b' cb y' z q p i3 l2 (by simpa [φ0, via, i1] using h2) hp h3
           subst this
           exact l1 (List.mem_of_getElem? i1)
   . intro cb cb2 z z2 p p2 l1 l2 l3 l4 l5
     have mixed : ∀ cb z p b y, get s1c cb = some z -> cb ∉ σ -> φ' cb = some p -> get sF b = some y -> ∀ q, φ2 b = some q -> q.1 = p.1 -> False := fun cb z p b y i1 i2 i3 i4 q i5 i6 => by
       obtain ⟨b1, y1, j1, _, j3⟩ := hout.blocks b y i4
       refine hsr'.disj b1 y1 q j3 (by simpa [φ2, via, j1] using i5) ?_
       rw [i6]
       exact hF2F cb z p i1 i2 ((hplace cb z i1).1.symm.trans i3)
     rcases hgetR cb z l1 with ⟨b, y, i1, i2, _⟩ | ⟨i1, i2⟩ <;> rcases hgetR cb2 z2 l2 with ⟨b2, y2, j1, j2, _⟩ | ⟨j1, j2⟩
     . obtain ⟨c1, y1, n1, _, n3⟩ := hout.blocks b y i2
       obtain ⟨c2, y3, o1, _, o3⟩ := hout.blocks b2 y2 j2
       have h1 : φ1 c1 = some p := by have := (hφ' b cb i1).symm.trans l3; simpa [φ2, via, n1] using this
       have h2 : φ1 c2 = some p2 := by have := (hφ' b2 cb2 j1).symm.trans l4; simpa [φ2, via, o1] using this
       have := hsr'.inj c1 c2 y1 y3 p p2 n3 o3 h1 h2 l5
       subst this
       have := hτinj _ _ _ n1 o1
       subst this
       rw [i1] at j1; exact Option.some.inj j1
     . exact (mixed cb2 z2 p2 b y j2 j1 l4 i2 p ((hφ' b cb i1).symm.trans l3) l5).elim
     . exact (mixed cb z p b2 y2 i2 i1 l3 j2 p2 ((hφ' b2 cb2 j1).symm.trans l4) l5.symm).elim
     . exact hs.inj cb cb2 z z2 p p2 i2 j2 ((hplace cb z i2).1.symm.trans l3) ((hplace cb2 z2 j2).1.symm.trans l4) l5
   . intro cb z p l1 l2 l3
     rcases hgetR cb z l1 with ⟨b, y, i1, i2, _⟩ | ⟨i1, i2⟩
     . obtain ⟨b1, y1, j1, _, j3⟩ := hout.blocks b y i2
       have h2 := (hφ' b cb i1).symm.trans l2
       exact hsr'.disj b1 y1 p j3 (by simpa [φ2, via, j1] using h2) (.inl l3)
     . exact hs.disj cb z p i2 ((hplace cb z i2).1.symm.trans l2) l3
   . intro β hβ
     exact Nat.lt_of_lt_of_le (hs.fsize β hβ) (hst F).size
   . intro g k rows hg
     obtain ⟨h1, h2, h3⟩ := hsr'.glob g k rows hg
     change g < w'.heap.size /\ ¬ (fun β => F β \/ ownS φ' s' β) g /\ GlobAt (fun β => F β \/ ownS φ' s' β) w' k rows g
     rw [e2]
     exact ⟨h1, fun h' => h2 (hsub _ g h'), h3.mono (hshrink (F2 F)) h1 h2⟩
 . rw [eq2]
   have v1 := VR.frzK hsr' hhides (k2.wkn hwk) hfrz
   have v2 : VR φ2 (ownF (F2 F) φ2 sF) w' r u := v1.ren hren
   exact (v2.mono hvia (Step.refl _ _)).fwd hr
theorem Gives.of_body {f : Nat} {fn : Func} {c : Code} {args args' : List AV} {σ free : List Nat} {s s0 s1 up1 : Store} {nx m x : Nat} {r rc : AV} (hf : P.funcs[f]? = some fn) (hb : fn.body = some c) (hname : (fn.name == "runtime.NumGoroutine") = false)
   (hN : fn.ntmps = N) (hargs : args.length <= N) (hm : σ.length = m) (hL : Lends σ nx s0 s args args') (hfree : ∀ b ∈ free, b < m) (hr : renA (Jaq σ nx x) r = some rc) (hup : renS (Jaq σ nx x) s1 = some up1)
   (h : AEv P G N m c ⟨Jbr 0 args, s0, m⟩ (Ends P fn.results.toList m x (s1 ++ (free.map (·, none) ++ s0)) r)) :
   Gives P G f args' s nx rc σ (up1 ++ free.map fun b => ((σ[b]?).getD 0, none)) (nx + x) := by
 refine ⟨Nat.le_add_right _ _, fun F φ s1c w vs hag hs hfr hlv hv => ?_⟩
 subst hN
 have hlen : args'.length = args.length := (Jbz hL.args).1
 let F2 (F : Nat -> Prop) : Nat -> Prop := Jcd φ σ s1c F
 let φ0 := via φ σ
 have eq1 : ∀ F : Nat -> Prop, ownF (F2 F) φ0 s0 = ownF F φ s1c := fun F => Jg4 hL hag F
 let _B : Base := ⟨w.heap.size, none⟩
 have hrel : Rel G fn.ntmps m (F2 F) ⟨Jbr 0 args, s0, m⟩ φ0 { tmps := ⟨vs⟩ ++ Array.replicate (fn.ntmps - (⟨vs⟩ : Array Value).size) undef, defers := [] } w := by
   refine ⟨Jqj hL hag hs, ?_, Nat.le_refl _, ⟨by simp; omega, fun d => ?_⟩, ⟨Nat.le_refl _, ⟨[], rfl, List.nodup_nil, by simp⟩, fun l hl => by cases hl⟩⟩
   . intro b hb
     have hb : m <= b := hb
     have : σ[b]? = none := List.getElem?_eq_none (by omega)
     simp [φ0, via, this]
   . show VR _ _ _ (slot (Jbr 0 args) d) _
     rw [Jjd, if_pos (Nat.zero_le _), Nat.sub_zero, eq1]
     cases hd : args[d]? with
     | none => exact .any _
     | some z =>
       obtain ⟨z', e1, e2⟩ := (Jbz hL.args).2 d z hd
       have hdl : d < vs.length := by rw [hlv, hlen]; exact (gsI.1 hd).1
       have hget : ((⟨vs⟩ : Array Value) ++ Array.replicate (fn.ntmps - (⟨vs⟩ : Array Value).size) undef).getD d undef = vs[d] := by
         rw [Array.getD_eq_getD_getElem?, Array.getElem?_append_left (by simpa using hdl)]
         simp [hdl]
       rw [hget]
       exact (hv d z' vs[d] e1 (List.getElem?_eq_getElem hdl)).ren e2
 refine enters hf hb hname ((callsIn_wide (n := 0)).1 (callsIn_of_wp_marks hf hb trivial (wpIn_mono (h.run (F2 F) _ _ w hrel) fun e a' w1 ha => ?_)))
 obtain ⟨st', φ1, ⟨he, us, hres, τ, B, r0, r1, hwk, hfrz, hren, hout, hB⟩, hr0, hbase, hstep1⟩ := ha
 have hgo : LeavesInM rF 0 P fn a'.tmps (fun e w' => ∃ u, e = .returned u /\ Post G F φ s1c w rc (up1 ++ free.map fun b => ((σ[b]?).getD 0, none)) nx (nx + x) u w') a'.defers .returning w1 := hr0.leave hres fun w' u q hlow hsr' k2 =>
   ⟨u, rfl, Jqh (s1 := s1) hm hL hfree hr hup hag hs hfr hwk hfrz hren hout hB hsr' hbase (fun F' => (hstep1 F').quiet q hlow) k2⟩
 rcases he with rfl | rfl
 . exact hgo
 . exact hgo
end
end Go.Am
namespace Go.Am
open Go
theorem Jjl {α : Type} {f : α -> List AV} {g : α -> List PV} (h : ∀ x, f x = (g x).map AV.p) : ∀ (xs : List α), unpR (xs.map f) = some (xs.map g)
 | [] => rfl
 | x :: xs => by
   have e : ∀ ys : List PV, unpL (ys.map AV.p) = some ys := fun ys => by
     induction ys with
     | nil => rfl
     | cons y ys ih => simp [unpL, unpC, ih]
   simp [unpR, h x, e, Jjl h xs]
theorem J3e {xs ys : List (List AV)} : unpR (xs ++ ys) = (unpR xs).bind fun a => (unpR ys).map (a ++ ·) := by
 induction xs with
 | nil => simp [unpR]
 | cons x xs ih =>
   simp only [List.cons_append, unpR, ih]
   cases unpL x with
   | none => rfl
   | some a =>
     simp only [Option.bind_some]
     cases unpR xs with
     | none => rfl
     | some b =>
       simp only [Option.bind_some, Option.map_some]
       cases unpR ys <;> simp
def Jie (o : Option ABlk) (b k n : Nat) : Option (AV × List Nat) := match o with
 | some (.cells k' rows) => if k' = k /\ rows ≠ [] /\ rows.length = n then (unpR rows).map fun r => (.p (.lst k r), [b]) else none
 | none => if n = 0 then some (.p (.lst k []), [b]) else none
 | _ => none
@[simp] theorem J4f {b k n : Nat} {rows : List (List AV)} : Jie (accB k rows) b k n = if rows.length = n then (unpR rows).map fun r => (.p (.lst k r), [b]) else none := by
 unfold Jie accB
 by_cases e : rows = []
 . subst e
   by_cases h : n = 0
   . subst h; simp [unpR]
   . simp [h, Ne.symm h]
 . simp [e]
def Ji5 (es : List (AV × AV)) : Bool := es.all fun e => isQ e.1 && isQ e.2
noncomputable def Jpj (o : Option ABlk) (b : Nat) : Option (AV × List Nat) := match o with
 | some (.map es) => @ite _ (Ji5 es = true /\ (es.map (·.1)).Nodup) (Classical.propDecidable _) (some (.pmap (es.map (·.1)) (es.map (·.2)), [b])) none
 | _ => none
theorem J3x {es : List (AV × AV)} : (es.map (·.1)).zip (es.map (·.2)) = es := by
 induction es with
 | nil => rfl
 | cons e es ih => simp only [List.map_cons, List.zip_cons_cons, ih]
theorem Jl3 {es : List (AV × AV)} : Ji5 es = true ↔ ∀ e ∈ es, isQ e.1 = true /\ isQ e.2 = true := by
 simp [Ji5, List.all_eq_true]
mutual
noncomputable def frzV (s : Store) : AV -> Option (AV × List Nat)
 | .p x => some (.p x, [])
 | .nils => some (.nils, [])
 | .nilp => some (.nilp, [])
 | .nilm => some (.nilm, [])
 | .pmap ks vs => some (.pmap ks vs, [])
 | .iptr k rows i j => some (.iptr k rows i j, [])
 | .ref b k i n _ => match get s b with
   | some (.cells k' rows) => if k' = k /\ i + n <= rows.length then (unpR ((rows.drop i).take n)).map fun r => (.p (.lst k r), [b]) else none
   | _ => none
 | .ptr b k i j => match get s b with
   | some (.cells k' rows) => if k' = k then (unpR rows).map fun r => (.iptr k r i j, [b]) else none
   | _ => none
 | .acc b k n => Jie (get s b) b k n
 | .agg cs => (frzL s cs).map fun q => (.agg q.1, q.2)
 | .tup cs => (frzL s cs).map fun q => (.tup q.1, q.2)
 | .fn f cs => (frzL s cs).map fun q => (.fn f q.1, q.2)
 | .map b => Jpj (get s b) b
 | _ => none
noncomputable def frzL (s : Store) : List AV -> Option (List AV × List Nat)
 | [] => some ([], [])
 | x :: xs => (frzV s x).bind fun p => (frzL s xs).map fun q => (p.1 :: q.1, p.2 ++ q.2)
end
theorem FrzA.mono {s : Store} {B B' : Nat -> Prop} (h : ∀ b, B b -> B' b) {a x : AV} (hf : FrzA s B a x) : FrzA s B' a x := by
 have hz : ∀ {a : AV} {x : PV}, Frz s B a x -> Frz s B' a x := fun hf => by
   induction hf with
   | p x => exact .p x
   | nils k => exact .nils k
   | ref b k i n c arows rows f hB hg hn hc hf ih => exact .ref b k i n c arows rows f (h b hB) hg hn hc ih
   | acc b k n arows rows f hB hg hl hn hc hf ih => exact .acc b k n arows rows f (h b hB) hg hl hn hc ih
 induction hf with
 | same a h => exact .same a h
 | one a x hx => exact .one a x (hz hx)
 | agg cs ds hl _ ih => exact .agg cs ds hl ih
 | tup cs ds hl _ ih => exact .tup cs ds hl ih
 | fn f cs ds hl _ ih => exact .fn f cs ds hl ih
 | ptr b k i j arows rows f hB hg hc hf => exact .ptr b k i j arows rows f (h b hB) hg hc fun p j row x h1 h2 => hz (hf p j row x h1 h2)
 | map b es ks vs hB hg hq hl hn hp => exact .map b es ks vs (h b hB) hg hq hl hn hp
mutual
theorem Jw5 {s : Store} : ∀ {a x : AV} {B : List Nat}, frzV s a = some (x, B) -> FrzA s (· ∈ B) a x
 | .p _, x, B, h => by simp [frzV] at h; obtain ⟨rfl, rfl⟩ := h; exact .same _ rfl
 | .nils, x, B, h => by simp [frzV] at h; obtain ⟨rfl, rfl⟩ := h; exact .same _ rfl
 | .nilp, x, B, h => by simp [frzV] at h; obtain ⟨rfl, rfl⟩ := h; exact .same _ rfl
 | .nilm, x, B, h => by simp [frzV] at h; obtain ⟨rfl, rfl⟩ := h; exact .same _ rfl
 | .pmap .., x, B, h => by simp [frzV] at h; obtain ⟨rfl, rfl⟩ := h; exact .same _ rfl
 | .iptr .., x, B, h => by simp [frzV] at h; obtain ⟨rfl, rfl⟩ := h; exact .same _ rfl
 | .ref b k i n c, x, B, h => by
   simp only [frzV] at h
   split at h
   . rename_i k' rows hg
     split at h
     . rename_i hk
       obtain ⟨rfl, hlen⟩ := hk
       simp only [Option.map_eq_some_iff, Prod.mk.injEq] at h
       obtain ⟨r, hr, rfl, rfl⟩ := h
       have e := Jhj hr
       have hl : r.length = n := by
         have := congrArg List.length e
         simp at this; omega
       exact .one _ _ (.rows (by simp) hg e hl)
     . cases h
   . cases h
 | .ptr b k i j, x, B, h => by
   simp only [frzV] at h
   split at h
   . rename_i k' rows hg
     split at h
     . rename_i hk
       subst hk
       simp only [Option.map_eq_some_iff, Prod.mk.injEq] at h
       obtain ⟨r, hr, rfl, rfl⟩ := h
       exact .cell (by simp) hg (Jhj hr)
     . cases h
   . cases h
 | .acc b k n, x, B, h => by
   simp only [frzV] at h
   unfold Jie at h
   split at h
   . rename_i k' rows hg
     split at h
     . rename_i hk
       obtain ⟨rfl, hne, rfl⟩ := hk
       simp only [Option.map_eq_some_iff, Prod.mk.injEq] at h
       obtain ⟨r, hr, rfl, rfl⟩ := h
       have e := Jhj hr
       exact .one _ _ (.accRows (arows := rows) (by simp) (by rw [hg, accB, if_neg hne]) e (by have := congrArg List.length e; simpa using this.symm))
     . cases h
   . rename_i hg
     split at h
     . rename_i h0
       subst h0
       simp at h
       obtain ⟨rfl, rfl⟩ := h
       exact .one _ _ (.accRows (arows := []) (by simp) (by rw [hg]; rfl) rfl rfl)
     . cases h
   . cases h
 | .agg cs, x, B, h => by
   simp only [frzV, Option.map_eq_some_iff, Prod.mk.injEq] at h
   obtain ⟨q, hq, rfl, rfl⟩ := h
   have := Jeu hq
   exact .agg _ _ this.1 this.2
 | .tup cs, x, B, h => by
   simp only [frzV, Option.map_eq_some_iff, Prod.mk.injEq] at h
   obtain ⟨q, hq, rfl, rfl⟩ := h
   have := Jeu hq
   exact .tup _ _ this.1 this.2
 | .fn f cs, x, B, h => by
   simp only [frzV, Option.map_eq_some_iff, Prod.mk.injEq] at h
   obtain ⟨q, hq, rfl, rfl⟩ := h
   have := Jeu hq
   exact .fn f _ _ this.1 this.2
 | .map b, x, B, h => by
   simp only [frzV] at h
   unfold Jpj at h
   split at h
   . rename_i es hg
     split at h
     . rename_i hq
       simp only [Option.some.injEq, Prod.mk.injEq] at h
       obtain ⟨rfl, rfl⟩ := h
       exact .map b es _ _ (by simp) hg (Jl3.1 hq.1) (by simp) hq.2 (by rw [J3x])
     . cases h
   . cases h
 | .any, x, B, h => by simp [frzV] at h
theorem Jeu {s : Store} : ∀ {a : List AV} {q : List AV × List Nat}, frzL s a = some q -> q.1.length = a.length /\ ∀ (i : Nat) c d, a[i]? = some c -> q.1[i]? = some d -> FrzA s (· ∈ q.2) c d
 | [], q, h => by simp [frzL] at h; subst h; exact ⟨rfl, fun i c d h => by simp at h⟩
 | x :: xs, q, h => by
   simp only [frzL, Option.bind_eq_some_iff, Option.map_eq_some_iff] at h
   obtain ⟨p, hp, r, hr, rfl⟩ := h
   obtain ⟨h1, h2⟩ := Jeu hr
   have h0 := Jw5 hp
   refine ⟨by simp [h1], fun i c d hc hd => ?_⟩
   cases i with
   | zero =>
     simp at hc hd; subst hc; subst hd
     exact h0.mono fun b hb => by simp [hb]
   | succ i => exact (h2 i c d (by simpa using hc) (by simpa using hd)).mono fun b hb => by simp [hb]
end
section
variable {P : Program} {G : Jac} {f nx : Nat} {args : List AV} {s : Store} {K : Cont KT}
def Jht (o : Option (List AV × List Nat)) [K : Cont (List AV -> List Nat -> Prop)] : Prop := ∃ q, o = some q /\ K.k q.1 q.2
@[simp] theorem J80 {q : List AV × List Nat} {K : Cont (List AV -> List Nat -> Prop)} : @Jht (some q) K = K.k q.1 q.2 := by simp [Jht]
theorem Jc4 (h : @Jht (frzL s args) ⟨fun xs B => ∃ r, Pure P G f xs r /\ Je3 r = true /\ K.k r B [] nx⟩) : @Jer P G f args s nx K := by
 obtain ⟨q, hq, r, h1, h2, h3⟩ := h
 obtain ⟨e1, e2⟩ := Jeu hq
 exact ⟨r, q.2, [], nx, h1.lend e1.symm (fun i a x ha hx => e2 i a x ha hx) h2, h3⟩
theorem Jdn (h : @Jht (frzL s args) ⟨fun xs B => ∃ r, Pure P G f xs r /\ K.k r B (B.map (·, none)) nx⟩) : @Jer P G f args s nx K := by
 obtain ⟨q, hq, r, h1, h3⟩ := h
 obtain ⟨e1, e2⟩ := Jeu hq
 exact ⟨r, q.2, q.2.map (·, none), nx, h1.give e1.symm (fun i a x ha hx => e2 i a x ha hx), h3⟩
theorem Jag {v : AV} {rd : List Nat} {up : Store} {nx' : Nat} (h : Gives P G f args s nx v rd up nx') (hK : K.k v rd up nx') : @Jer P G f args s nx K := ⟨v, rd, up, nx', h, hK⟩
end
mutual
def toV (s : Store) : AV -> AV -> Prop
 | .agg cs, .agg ds => toL s cs ds
 | .tup cs, .tup ds => toL s cs ds
 | .fn f cs, .fn g ds => f = g /\ toL s cs ds
 | .nils, .p (.lst _ rows) => rows = []
 | .ptr b k i j, .iptr k' rows i' j' => k' = k /\ i' = i /\ j' = j /\ Jbx (get s b) k fun ar => ar = rows.map (·.map AV.p)
 | .ref b k i n _, .p (.lst k' rows) => k' = k /\ rows.length = n /\ Jbx (get s b) k fun ar => (ar.drop i).take n = rows.map (·.map AV.p)
 | .acc b k n, .p (.lst k' rows) => k' = k /\ rows.length = n /\ Jeo (get s b) k fun ar => ar = rows.map (·.map AV.p)
 | .map b, .pmap ks vs => Jdk (get s b) fun es => Ji5 es = true /\ ks.length = vs.length /\ ks.Nodup /\ (ks.zip vs).Perm es
 | a, x => Jas a = true /\ a = x
def toL (s : Store) : List AV -> List AV -> Prop
 | [], [] => True
 | a :: as, x :: xs => toV s a x /\ toL s as xs
 | _, _ => False
end
mutual
theorem Jsw {s : Store} : ∀ {a x : AV}, toV s a x -> FrzA s (fun _ => True) a x := fun {a x} h => by
 unfold toV at h
 split at h
 . have := Jjh h; exact .agg _ _ this.1 this.2
 . have := Jjh h; exact .tup _ _ this.1 this.2
 . obtain ⟨rfl, h⟩ := h
   have := Jjh h; exact .fn _ _ _ this.1 this.2
 . subst h; exact .one _ _ (.nils _)
 . obtain ⟨rfl, rfl, rfl, h⟩ := h
   obtain ⟨ar, hg, h⟩ := Jcj.1 h
   exact .cell trivial hg h
 . obtain ⟨rfl, hl, h⟩ := h
   obtain ⟨ar, hg, h⟩ := Jcj.1 h
   exact .one _ _ (.rows trivial hg h hl)
 . obtain ⟨rfl, hl, h⟩ := h
   obtain ⟨ar, hg, h⟩ := Jna.1 h
   exact .one _ _ (.accRows trivial hg h hl)
 . obtain ⟨es, hg, hq, hl, hn, hp⟩ := Jfb.1 h
   exact .map _ es _ _ trivial hg (Jl3.1 hq) hl hn hp
 . obtain ⟨h, rfl⟩ := h; exact .same _ h
termination_by a => SizeOf.sizeOf a
theorem Jjh {s : Store} : ∀ {a x : List AV}, toL s a x -> x.length = a.length /\ ∀ (i : Nat) c d, a[i]? = some c -> x[i]? = some d -> FrzA s (fun _ => True) c d
 | [], [], _ => ⟨rfl, fun i c d h => by simp at h⟩
 | a :: as, x :: xs, h => by
   simp only [toL] at h
   have h1 := Jsw h.1
   obtain ⟨h2, h3⟩ := Jjh h.2
   refine ⟨by simp [h2], fun i c d hc hd => ?_⟩
   cases i with
   | zero => simp at hc hd; subst hc; subst hd; exact h1
   | succ i => exact h3 i c d (by simpa using hc) (by simpa using hd)
 | [], _ :: _, h => by simp [toL] at h
 | _ :: _, [], h => by simp [toL] at h
termination_by a => SizeOf.sizeOf a
end
section
variable {s : Store}
@[simp] theorem J5i {cs ds : List AV} : toV s (.agg cs) (.agg ds) = toL s cs ds := by simp [toV]
@[simp] theorem J5r {cs ds : List AV} : toV s (.tup cs) (.tup ds) = toL s cs ds := by simp [toV]
@[simp] theorem J5j {f g : Fn} {cs ds : List AV} : toV s (.fn f cs) (.fn g ds) = (f = g /\ toL s cs ds) := by simp [toV]
@[simp] theorem J5p {b k i j k' i' j' : Nat} {rows : List (List PV)} : toV s (.ptr b k i j) (.iptr k' rows i' j') = (k' = k /\ i' = i /\ j' = j /\ Jbx (get s b) k fun ar => ar = rows.map (·.map AV.p)) := by simp [toV]
@[simp] theorem J5m {k : Nat} {rows : List (List PV)} : toV s .nils (.p (.lst k rows)) = (rows = []) := by simp [toV]
@[simp] theorem J5q {b k i n k' : Nat} {c : Option Nat} {rows : List (List PV)} : toV s (.ref b k i n c) (.p (.lst k' rows)) = (k' = k /\ rows.length = n /\ Jbx (get s b) k fun ar => (ar.drop i).take n = rows.map (·.map AV.p)) := by simp [toV]
@[simp] theorem J5x {k : Nat} {rows : List (List AV)} {f : List (List AV) -> Prop} : Jeo (accB k rows) k f = f rows := @J3t k rows ⟨f⟩
@[simp] theorem J5h {b k n k' : Nat} {rows : List (List PV)} : toV s (.acc b k n) (.p (.lst k' rows)) = (k' = k /\ rows.length = n /\ Jeo (get s b) k fun ar => ar = rows.map (·.map AV.p)) := by simp [toV]
@[simp] theorem J5o {x y : PV} : toV s (.p x) (.p y) = (x = y) := by
 unfold toV; simp [Jas]
@[simp] theorem J5z {es : List (AV × AV)} {f : List (AV × AV) -> Prop} : Jdk (some (.map es)) f = f es := rfl
@[simp] theorem J5l : toV s .nilp .nilp = True := by
 unfold toV; simp [Jas]
@[simp] theorem J5k : toV s .nilm .nilm = True := by
 unfold toV; simp [Jas]
@[simp] theorem J5y {k : Nat} {rows : List (List AV)} {f : List (List AV) -> Prop} : Jbx (some (.cells k rows)) k f = f rows := by simp [Jbx]
attribute [simp] toL
end
mutual
theorem Jmv {s : Store} : ∀ (a : AV), Jas a = true -> toV s a a
 | .agg cs, h => by simpa using Jjj cs (by simpa [Jas] using h)
 | .tup cs, h => by simpa using Jjj cs (by simpa [Jas] using h)
 | .fn f cs, h => by simpa using Jjj cs (by simpa [Jas] using h)
 | .p x, _ => by simp
 | .nils, _ => by unfold toV; simp [Jas]
 | .nilp, _ => by simp
 | .nilm, _ => by simp
 | .pmap .., _ => by unfold toV; simp [Jas]
 | .iptr .., _ => by unfold toV; simp [Jas]
 | .ref .., h => by simp [Jas] at h
 | .ptr .., h => by simp [Jas] at h
 | .map _, h => by simp [Jas] at h
 | .acc .., h => by simp [Jas] at h
 | .ubool, h => by simp [Jas] at h
 | .any, h => by simp [Jas] at h
theorem Jjj {s : Store} : ∀ (as : List AV), Ja5 as = true -> toL s as as
 | [], _ => by simp
 | a :: as, h => by
   simp only [Ja5, Bool.and_eq_true] at h
   simp only [toL]
   exact ⟨Jmv a h.1, Jjj as h.2⟩
end
section
variable {P : Program} {st : St}
@[simp] theorem J46 {vs : List AV} : resA P st [] vs = (vs = []) := (rfl)
@[simp] theorem J47 {d : Nat} {rs : List ResultVar} {vs : List AV} : resA P st (.tmp d :: rs) vs = ∃ us, vs = slot st.t d :: us /\ resA P st rs us := (rfl)
@[simp] theorem J45 {d T : Nat} {rs : List ResultVar} {vs : List AV} : resA P st (.cell d T :: rs) vs = ∃ v us, vs = v :: us /\ @xTy P T ⟨fun y => @Jfd y (slot st.t d) st.s st.nx ⟨fun v' _ _ _ => v = v'⟩⟩ /\ resA P st rs us := by
 simp only [resA, xTy, Ja4, Jfd]
end
def Jaa (P : Program) (rs : List ResultVar) (r : AV) (e : Exit) (st : St) : Prop := (e = .ret \/ e = .normal) /\ ∃ vs, resA P st rs vs /\ toV st.s (resV vs) r
theorem Pure.of_walk {P : Program} {G : Jac} {N f : Nat} {fn : Func} {c : Code} {args : List AV} {r : AV} (hf : P.funcs[f]? = some fn) (hb : fn.body = some c) (hname : (fn.name == "runtime.NumGoroutine") = false) (hN : fn.ntmps = N) (hargs : args.length <= N) (hp : Ja5 args = true)
   (h : @xc P G N 0 ⟨c⟩ (Jbr 0 args) [] 0 ⟨Jaa P fn.results.toList r⟩) : Pure P G f args r :=
 Pure.of_body hf hb hname hN hargs hp ((Jdm h).mono fun _ _ h => ⟨h.1, let ⟨vs, h1, h2⟩ := h.2; ⟨vs, h1, Jsw h2⟩⟩)
attribute [simp] frzV frzL unpC unpL unpR J3e
end Go.Am
namespace Go.Am
open Go
section
variable {P : Program} {G : Jac} {N : Nat}
theorem Gives.of_acc {f : Nat} {rest : List AV} {s : Store} {nx : Nat} {b k n : Nat} {v : AV} {rd : List Nat} {up : Store} {nx' : Nat}
   (h0 : n = 0 -> Gives P G f (.nils :: rest) s nx v rd up nx') (h1 : 0 < n -> Gives P G f (.ref b k 0 n none :: rest) s nx v rd up nx') : Gives P G f (.acc b k n :: rest) s nx v rd up nx' := by
 have hcase : ∀ (a : AV), Gives P G f (a :: rest) s nx v rd up nx' -> (∀ φ own w u, VR φ own w (.acc b k n) u -> VR φ own w a u) -> Gives P G f (.acc b k n :: rest) s nx v rd up nx' := fun a h hv => by
   refine ⟨h.le, fun F φ s1 w vs hag hs hf hl hvs => h.calls F φ s1 w vs hag hs hf (by simpa using hl) fun i x u hx hu => ?_⟩
   cases i with
   | zero =>
     simp at hx; subst hx
     exact hv _ _ _ _ (hvs 0 _ u rfl hu)
   | succ i => exact hvs (i + 1) x u (by simpa using hx) hu
 rcases Nat.eq_zero_or_pos n with h | h
 . subst h
   exact hcase .nils (h0 rfl) fun _ _ _ _ hu => hu.acc_nil
 . exact hcase _ (h1 h) fun _ _ _ _ hu => hu.acc_ref h
theorem Jf7 {ρ : List Nat} : (∀ (x : AV), Jas x = true -> renA ρ x = some x) /\ ∀ (xs : List AV), Ja5 xs = true -> renL ρ xs = some xs := by
 constructor
 . intro x
   exact AV.rec (motive_1 := fun x => Jas x = true -> renA ρ x = some x) (motive_2 := fun xs => Ja5 xs = true -> renL ρ xs = some xs)
     (fun _ _ => rfl) (fun cs ih h => by simp [renA, ih (by simpa [Jas] using h)]) (fun cs ih h => by simp [renA, ih (by simpa [Jas] using h)]) (fun _ => rfl) (fun _ _ _ _ _ h => by simp [Jas] at h)
     (fun _ _ _ _ h => by simp [Jas] at h) (fun _ _ _ _ _ => rfl) (fun _ => rfl) (fun _ h => by simp [Jas] at h) (fun _ _ _ _ _ => rfl) (fun _ => rfl) (fun f cs ih h => by simp [renA, ih (by simpa [Jas] using h)])
     (fun _ _ _ h => by simp [Jas] at h) (fun h => by simp [Jas] at h) (fun h => by simp [Jas] at h) (fun _ => rfl)
     (fun x xs h1 h2 h => by
       simp only [Ja5, Bool.and_eq_true] at h
       simp [renL, h1 h.1, h2 h.2]) x
 . intro xs
   exact AV.rec_1 (motive_1 := fun x => Jas x = true -> renA ρ x = some x) (motive_2 := fun xs => Ja5 xs = true -> renL ρ xs = some xs)
     (fun _ _ => rfl) (fun cs ih h => by simp [renA, ih (by simpa [Jas] using h)]) (fun cs ih h => by simp [renA, ih (by simpa [Jas] using h)]) (fun _ => rfl) (fun _ _ _ _ _ h => by simp [Jas] at h)
     (fun _ _ _ _ h => by simp [Jas] at h) (fun _ _ _ _ _ => rfl) (fun _ => rfl) (fun _ h => by simp [Jas] at h) (fun _ _ _ _ _ => rfl) (fun _ => rfl) (fun f cs ih h => by simp [renA, ih (by simpa [Jas] using h)])
     (fun _ _ _ h => by simp [Jas] at h) (fun h => by simp [Jas] at h) (fun h => by simp [Jas] at h) (fun _ => rfl)
     (fun x xs h1 h2 h => by
       simp only [Ja5, Bool.and_eq_true] at h
       simp [renL, h1 h.1, h2 h.2]) xs
def Jc0 (σ : List Nat) (s : Store) : Store -> Prop
 | [] => True
 | (b, o) :: r => (match o with
   | some y => Jaj σ[b]? fun b' => Jaj (renB σ y) fun y' => get s b' = some y'
   | none => True) /\ Jc0 σ s r
theorem Jln {σ : List Nat} {s : Store} : ∀ {s0 : Store}, Jc0 σ s s0 -> ∀ b y, get s0 b = some y -> ∃ b' y', σ[b]? = some b' /\ renB σ y = some y' /\ get s b' = some y'
 | [], _, b, y, h => by cases h
 | (c, o) :: r, hl, b, y, h => by
   simp only [get] at h
   by_cases e : c = b
   . subst e
     rw [if_pos rfl] at h
     subst h
     obtain ⟨b', h1, h2⟩ := Jaz.1 hl.1
     obtain ⟨y', h3, h4⟩ := Jaz.1 h2
     exact ⟨b', y', h1, h3, h4⟩
   . rw [if_neg e] at h
     exact Jln hl.2 b y h
def Jce (σ : List Nat) (nx : Nat) (s0 s : Store) (args args' : List AV) : Prop :=
 Jc0 σ s s0 /\ ((List.range σ.length).all fun b => (get s0 b).isSome) = true /\ σ.Nodup /\ (∀ b ∈ σ, b < nx) /\ renL σ args = some args'
theorem Jce.lends {σ : List Nat} {nx : Nat} {s0 s : Store} {args args' : List AV} (h : Jce σ nx s0 s args args') : Lends σ nx s0 s args args' :=
 ⟨Jln h.1, fun b hb => Option.isSome_iff_exists.1 (List.all_eq_true.1 h.2.1 b (by simpa using hb)), h.2.2.1, h.2.2.2.1, h.2.2.2.2⟩
def Jdz (τ : List Nat) (s : Store) (seen : List Nat) : Store -> Prop
 | [] => True
 | (b, o) :: r => (b ∈ seen \/ match o with
   | some y => Jaj τ[b]? fun b' => Jaj (renB τ y) fun y' => get s b' = some y'
   | none => True) /\ Jdz τ s (b :: seen) r
theorem Jez {τ : List Nat} {s : Store} : ∀ {sF : Store} {seen : List Nat}, Jdz τ s seen sF -> ∀ b y, b ∉ seen -> get sF b = some y -> ∃ b' y', τ[b]? = some b' /\ renB τ y = some y' /\ get s b' = some y'
 | [], _, _, b, y, _, h => by cases h
 | (c, o) :: r, seen, hl, b, y, hns, h => by
   simp only [get] at h
   by_cases e : c = b
   . subst e
     rw [if_pos rfl] at h
     subst h
     rcases hl.1 with h1 | h1
     . exact absurd h1 hns
     obtain ⟨b', h1, h2⟩ := Jaz.1 h1
     obtain ⟨y', h3, h4⟩ := Jaz.1 h2
     exact ⟨b', y', h1, h3, h4⟩
   . rw [if_neg e] at h
     exact Jez hl.2 b y (by simp [hns, Ne.symm e]) h
def Jff (P : Program) (rs : List ResultVar) (m x : Nat) (sF : Store) (r : AV) (names : St -> List Nat) (e : Exit) (st : St) : Prop :=
 (e = .ret \/ e = .normal) /\ ∃ vs, resA P st rs vs /\ Jaj (renA (List.range m ++ names st) r) (fun r1 => wkn (resV vs) r1) /\ Jdz (List.range m ++ names st) st.s [] sF /\ (List.range m ++ names st).Nodup /\ (List.range m ++ names st).length <= m + x
theorem Gives.of_walkK {f : Nat} {fn : Func} {c : Code} {args args' : List AV} {σ free : List Nat} {s s0 s1 up1 : Store} {nx m x : Nat} {r rc : AV} (names : St -> List Nat) (hf : P.funcs[f]? = some fn) (hb : fn.body = some c) (hname : (fn.name == "runtime.NumGoroutine") = false)
   (hN : fn.ntmps = N) (hargs : args.length <= N) (hm : σ.length = m) (hL : Jce σ nx s0 s args args') (hfree : ∀ b ∈ free, b < m) (hr : renA (Jaq σ nx x) r = some rc) (hup : renS (Jaq σ nx x) s1 = some up1)
   (h : @xc P G N m ⟨c⟩ (Jbr 0 args) s0 m ⟨Jff P fn.results.toList m x (s1 ++ (free.map (·, none) ++ s0)) r names⟩) :
   Gives P G f args' s nx rc σ (up1 ++ free.map fun b => ((σ[b]?).getD 0, none)) (nx + x) :=
 Gives.of_body hf hb hname hN hargs hm hL.lends hfree hr hup ((Jdm h).mono fun e st hst => by
   obtain ⟨he, vs, h1, h2, h3, h4, h5⟩ := hst
   obtain ⟨r1, h6, h7⟩ := Jaz.1 h2
   refine ⟨he, vs, h1, _, fun _ => False, r1, r1, h7, .keep _, h6, ⟨fun b y hg => Jez h3 b y (by simp) hg, h4, h5, by simp⟩, fun _ _ _ _ _ h => h⟩)
end
theorem Jrt {ρ : List Nat} {xs : List AV} (h : Ja5 xs = true) : renL ρ xs = some xs := Jf7.2 xs h
@[simp] theorem Jao {α : Type} {ρ : List Nat} {xs : List α} {f : α -> List AV} (h : ∀ x, Ja5 (f x) = true) : renR ρ (xs.map f) = some (xs.map f) := by
 induction xs with
 | nil => rfl
 | cons x xs ih => simp [renR, ih, Jrt (h x)]
@[simp] theorem J42 {ρ : List Nat} {xs ys : List (List AV)} : renR ρ (xs ++ ys) = (renR ρ xs).bind fun a => (renR ρ ys).map (a ++ ·) := by
 induction xs with
 | nil => simp [renR]
 | cons x xs ih =>
   simp only [List.cons_append, renR, ih]
   cases renL ρ x with
   | none => rfl
   | some a =>
     simp only [Option.bind_some]
     cases renR ρ xs with
     | none => rfl
     | some b =>
       simp only [Option.bind_some, Option.map_some]
       cases renR ρ ys <;> simp
attribute [simp] Jc0 Jdz Jce Jff Jaq renS
end Go.Am
