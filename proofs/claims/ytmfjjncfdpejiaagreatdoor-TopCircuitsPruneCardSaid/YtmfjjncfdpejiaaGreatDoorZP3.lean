/- Lemmas and contracts for the proof of a statement of this seat. -/
import Derived.Test.YtmfjjncfdpejiaaGreatDoorZN1
import Derived.Test.YtmfjjncfdpejiaaGreatDoorZCQ
import Derived.Test.YtmfjjncfdpejiaaGreatDoorZF1
import Derived.Test.YtmfjjncfdpejiaaGreatDoorZC7
set_option linter.unusedVariables false
set_option linter.unusedSimpArgs false
namespace Go.Am
open Go Go.Proofs Go.Pn
theorem J51 {c : Circuit} {i : Int} {v : Int} {b : Bool} (h : Jdh c i = some (v, b)) : ∃ (j : Nat) (q : Part), v = j /\ c.parts[j]? = some q := by
 unfold Jdh at h
 split at h
 . rename_i x y e1 e2
   split at h
   . cases h
   . split at h
     . cases h
       have ma : x ∈ allP c := (Jp8 (i := i) (s := [50]) (by rw [e1]; simp)).2.1
       obtain ⟨j, q, f1, f2, _⟩ := Kbh ma
       exact ⟨j, q, f1, f2⟩
     . cases h
 . cases h
end Go.Am
namespace Go.Am
open Go Go.Proofs Go.Pn
theorem Jog {c : Circuit} (h : Jad c = 0) {s : Txt} {j : Nat} : swAt c s = j ↔ ∃ r, c.parts[j]? = some r /\ r.name = s /\ r.kind = 6 := by
 constructor
 . intro e
   have h0 : 0 <= swAt c s := by omega
   unfold swAt swK at e
   split at e
   . omega
   . rcases Jgb c s with h1 | ⟨i, x, h1, h2, h3⟩
     . omega
     . have : i = j := by omega
       subst this
       obtain ⟨q, hq, q1, q2⟩ := (Kc0 h).1 h0
       have : x = q := J8p h (List.mem_of_getElem? h2) hq (h3.trans q1.symm)
       exact ⟨x, h2, h3, by rw [this]; exact q2⟩
 . rintro ⟨r, h1, rfl, h3⟩
   have e := Jht h h1
   unfold swAt swK
   rw [e, if_neg]
   rintro ⟨_, h4⟩
   apply h4
   rw [Jal, Int.toNat_natCast, h1]; exact h3
theorem Jw4 {c : Circuit} (h : Jad c = 0) {i : Nat} {q : Part} (e : c.parts[i]? = some q) {x : Int} : (x ∈ limL c i /\ 0 <= x) ↔ q.kind = 1 /\ ∃ (j : Nat) (r : Part), x = j /\ c.parts[j]? = some r /\ r.kind = 6 /\ (r.name = q.name ++ [48] \/ r.name = q.name ++ [49]) := by
 have hn : nameAt c (i : Int) = q.name := J8o e
 have hpi := Jht h e
 have hk : Jal c (i : Int) = q.kind := by rw [Jal, Int.toNat_natCast, e]; rfl
 have hE : Jfb c q.name = if q.kind ≠ 1 then 1 else 0 := by
   unfold Jfb
   rw [if_neg (by simpa using h), hpi, if_neg (by omega), hk]
 unfold limL
 rw [hn]
 by_cases h1 : q.kind = 1
 . rw [if_neg (by simpa using h1)] at hE
   rw [hE, if_pos rfl]
   have hA : ∀ b, Jcu c q.name b = swAt c (q.name ++ [b]) := fun b => by unfold Jcu; rw [hE, if_neg (by simp)]
   rw [hA, hA]
   simp only [List.mem_cons, List.not_mem_nil, or_false]
   constructor
   . rintro ⟨h2 | h2, h0⟩
     . obtain ⟨j, rfl⟩ : ∃ j : Nat, x = j := ⟨x.toNat, by omega⟩
       obtain ⟨r, r1, r2, r3⟩ := (Jog h).1 h2.symm
       exact ⟨h1, j, r, rfl, r1, r3, .inl r2⟩
     . obtain ⟨j, rfl⟩ : ∃ j : Nat, x = j := ⟨x.toNat, by omega⟩
       obtain ⟨r, r1, r2, r3⟩ := (Jog h).1 h2.symm
       exact ⟨h1, j, r, rfl, r1, r3, .inr r2⟩
   . rintro ⟨_, j, r, rfl, r1, r3, r2 | r2⟩
     . exact ⟨.inl ((Jog h).2 ⟨r, r1, r2, r3⟩).symm, by omega⟩
     . exact ⟨.inr ((Jog h).2 ⟨r, r1, r2, r3⟩).symm, by omega⟩
 . rw [if_pos h1] at hE
   rw [hE, if_neg (by simp)]
   constructor
   . rintro ⟨h2, _⟩; cases h2
   . rintro ⟨h2, _⟩; exact absurd h2 h1
def upK (k : Nat) (i : Int) : Int := if i < k then i else i + 1
def upP (k : Nat) (p : Port) : Port := ⟨upK k p.part, p.name⟩
theorem Jh7 {k : Nat} {i : Int} : upK k i ≠ k := by unfold upK; split <;> omega
theorem Jol {k : Nat} {i j : Int} : upK k i < upK k j ↔ i < j := by unfold upK; split <;> split <;> omega
theorem Jli {k : Nat} {i j : Int} (h : upK k i = upK k j) : i = j := by
 have h1 := @Jol k i j
 have h2 := @Jol k j i
 omega
theorem Jom {k : Nat} {p q : Port} (h : upP k p = upP k q) : p = q := by
 obtain ⟨a, s⟩ := p
 obtain ⟨b, t⟩ := q
 unfold upP at h
 simp only [Port.mk.injEq] at h
 rw [Jli h.1, h.2]
theorem Jev {k : Nat} {p : Port} (h : p.part ≠ k) : upP k (Jbx k (-1) p) = p := by
 obtain ⟨a, s⟩ := p
 simp only at h
 unfold Jbx upP upK
 simp only
 by_cases h1 : (k : Int) <= a
 . rw [if_pos h1]
   simp only [Port.mk.injEq, and_true]
   split <;> omega
 . rw [if_neg h1]
   simp only [Port.mk.injEq, and_true]
   split <;> omega
theorem J0m {k : Nat} {p : Port} : Jbx k (-1) (upP k p) = p := Jom (Jev (k := k) Jh7)
theorem Jey {c : Circuit} {k : Nat} (j : Nat) : (Jag c k).parts[j]? = c.parts[(upK k j).toNat]? := by
 show (c.parts.take k ++ c.parts.drop (k + 1))[j]? = _
 unfold upK
 by_cases h : j < k
 . rw [if_pos (by omega), Int.toNat_natCast]
   by_cases h2 : j < c.parts.length
   . rw [List.getElem?_append_left (by simp; omega), List.getElem?_take_of_lt h]
   . rw [List.getElem?_eq_none (by simp; omega), List.getElem?_eq_none (by omega)]
 . rw [if_neg (by omega), show ((j : Int) + 1).toNat = j + 1 by omega]
   by_cases h2 : k <= c.parts.length
   . rw [List.getElem?_append_right (by simp; omega), List.getElem?_drop]
     congr 1
     simp; omega
   . rw [List.getElem?_eq_none (by simp; omega), List.getElem?_eq_none (by omega)]
theorem Jjg {c : Circuit} {k : Nat} (j : Nat) : Jal (Jag c k) (j : Int) = Jal c (upK k j) := by
 unfold Jal
 rw [Int.toNat_natCast, Jey]
theorem Jrt {c : Circuit} {k : Nat} {p : Port} : Jd8 (Jag c k) p = 0 ↔ Jd8 c (upP k p) = 0 := by
 rw [Jf5, Jf5]
 have h1 : 0 <= p.part -> (Jag c k).parts[p.part.toNat]? = c.parts[(upP k p).part.toNat]? := fun h => by
   rw [Jey]
   show c.parts[(upK k ((p.part.toNat : Nat) : Int)).toNat]? = c.parts[(upK k p.part).toNat]?
   rw [Int.toNat_of_nonneg h]
 have h2 : 0 <= (upP k p).part ↔ 0 <= p.part := by show 0 <= upK k p.part ↔ _; unfold upK; split <;> omega
 constructor
 . rintro ⟨q, e, h0, hm⟩
   exact ⟨q, by rw [<- h1 h0]; exact e, h2.2 h0, hm⟩
 . rintro ⟨q, e, h0, hm⟩
   have h0' := h2.1 h0
   exact ⟨q, by rw [h1 h0']; exact e, h0', hm⟩
theorem Jk0 {c : Circuit} {k : Nat} {y : Pipe} : y ∈ (Jag c k).pipes ↔ (⟨upP k y.fr, upP k y.to⟩ : Pipe) ∈ c.pipes := by
 show y ∈ (Jc5 k c.pipes).map (Jkq k (-1)) ↔ _
 rw [List.mem_map]
 constructor
 . rintro ⟨x, hx, rfl⟩
   unfold Jc5 at hx
   obtain ⟨hx, hf⟩ := List.mem_filter.1 hx
   simp only [Bool.and_eq_true, Bool.not_eq_true', decide_eq_false_iff_not] at hf
   obtain ⟨a, b⟩ := x
   show (⟨upP k (Jbx k (-1) a), upP k (Jbx k (-1) b)⟩ : Pipe) ∈ _
   rw [Jev hf.1, Jev hf.2]; exact hx
 . intro h
   refine ⟨⟨upP k y.fr, upP k y.to⟩, List.mem_filter.2 ⟨h, ?_⟩, ?_⟩
   . simp only [Bool.and_eq_true, Bool.not_eq_true', decide_eq_false_iff_not]
     exact ⟨Jh7, Jh7⟩
   . show (⟨Jbx k (-1) (upP k y.fr), Jbx k (-1) (upP k y.to)⟩ : Pipe) = y
     rw [J0m, J0m]
theorem Jrm {k : Nat} {a b : Port} : Jat (upP k a) (upP k b) = Jat a b := by
 unfold Jat upP
 simp only
 have h1 : upK k a.part = upK k b.part ↔ a.part = b.part := ⟨Jli, fun e => by rw [e]⟩
 simp only [h1, Jol]
theorem Jn1 {c : Circuit} (h : Jad c = 0) {k : Nat} (hk : k < c.parts.length) (hc : Jal c (k : Int) ≠ 1) : Jad (Jag c k) = 0 := by
 obtain ⟨⟨p1, p2, p3⟩, p4, p5, p6⟩ := Jkd.1 h
 have hd : ∀ {p : Part}, p ∈ (Jag c k).parts -> p ∈ c.parts := fun {p} hp => by
   obtain ⟨j, e⟩ := List.getElem?_of_mem hp
   rw [Jey] at e
   exact List.mem_of_getElem? e
 have hstay : ∀ {p : Part}, p ∈ c.parts -> p.kind = 1 -> p ∈ (Jag c k).parts := fun {p} hp h1 => by
   obtain ⟨j, e⟩ := List.getElem?_of_mem hp
   have hjk : j ≠ k := fun e2 => by
     subst e2
     apply hc
     rw [Jal, Int.toNat_natCast, e]; exact h1
   by_cases hlt : j < k
   . refine List.mem_of_getElem? (i := j) ?_
     rw [Jey]
     have : upK k (j : Int) = j := by unfold upK; rw [if_pos (by omega)]
     rw [this, Int.toNat_natCast]; exact e
   . refine List.mem_of_getElem? (i := j - 1) ?_
     rw [Jey]
     have : upK k ((j - 1 : Nat) : Int) = j := by unfold upK; rw [if_neg (by omega)]; omega
     rw [this, Int.toNat_natCast]; exact e
 have hnd : ((Jag c k).parts.map (·.name)).Nodup := by
   have hs : (Jag c k).parts.Sublist c.parts := by
     show (c.parts.take k ++ c.parts.drop (k + 1)).Sublist _
     conv => rhs; rw [<- List.take_append_drop k c.parts]
     refine List.Sublist.append (List.Sublist.refl _) ?_
     rw [<- List.drop_drop]
     exact List.drop_sublist _ _
   exact (hs.map _).nodup (Jq5 h)
 have hlen : (Jag c k).parts.length <= c.parts.length := by
   show (c.parts.take k ++ c.parts.drop (k + 1)).length <= _
   simp; omega
 refine Jkd.2 ⟨⟨by omega, Jqk.2 fun j hj => ?_, Jqk.2 fun j hj => ?_⟩, ?_, fun y hy => ?_, ?_⟩
 . obtain ⟨p, e⟩ := Jah hj
   have hpe : Ja5 p = 0 := by
     obtain ⟨i, hi, ei⟩ := List.getElem_of_mem (hd (List.mem_of_getElem? e))
     have h2 := Jer p2 hi
     unfold partAt at h2
     rw [List.getElem?_eq_getElem hi, ei] at h2
     simp only at h2
     apply Decidable.byContradiction
     intro hne
     rw [if_pos hne] at h2
     exact hne h2
   unfold partAt
   rw [e]
   simp only
   rw [if_neg (by simpa using hpe)]
   cases j with
   | zero => rw [if_neg (by omega)]
   | succ j =>
     obtain ⟨q, e2⟩ := Jah (xs := (Jag c k).parts) (k := j) (by omega)
     rw [show j + 1 - 1 = j by omega, e2]
     simp only [Option.map_some, Option.getD_some]
     rw [if_neg]
     rintro ⟨_, h3⟩
     rw [Jey] at e e2
     have h4 : (upK k (j : Int)).toNat < (upK k ((j + 1 : Nat) : Int)).toNat := by
       have := (@Jol k (j : Int) ((j + 1 : Nat) : Int)).2 (by omega)
       have : 0 <= upK k (j : Int) := by unfold upK; split <;> omega
       omega
     exact h3 (Jnu h h4 e2 e)
 . obtain ⟨p, e⟩ := Jah hj
   unfold Jeb
   rw [e]
   simp only
   rw [if_neg]
   rintro ⟨h3, h4⟩
   obtain ⟨nm, q, a1, a2, a3, a4⟩ := Kao h (hd (List.mem_of_getElem? e)) h3
   exact Kap (p := p) hnd a1 (hstay a2 a4) a3 a4 h4
 . show ((Jc5 k c.pipes).map (Jkq k (-1))).length <= 256
   rw [List.length_map]
   exact Nat.le_trans (List.length_filter_le ..) p4
 . have hx := Jk0.1 hy
   obtain ⟨g1, g2, g3⟩ := Jrg.1 (p5 _ hx)
   rw [Jrg]
   exact ⟨Jrt.2 g1, Jrt.2 g2, by rw [<- Jrm (k := k)]; exact g3⟩
 . show Asc ((Jc5 k c.pipes).map (Jkq k (-1)))
   refine List.pairwise_map.2 ((p6.filter _).imp_of_mem fun {x y} hx hy hlt => ?_)
   have f1 := (List.mem_filter.1 hx).2
   have f2 := (List.mem_filter.1 hy).2
   simp only [Bool.and_eq_true, Bool.not_eq_true', decide_eq_false_iff_not] at f1 f2
   have a1 := Jev f1.1
   have a2 := Jev f1.2
   have b1 := Jev f2.1
   have b2 := Jev f2.2
   unfold Jca at hlt ⊢
   show (if Jbx k (-1) x.fr = Jbx k (-1) y.fr then Jat (Jbx k (-1) x.to) (Jbx k (-1) y.to) else Jat (Jbx k (-1) x.fr) (Jbx k (-1) y.fr)) = true
   rw [<- Jrm (k := k) (a := Jbx k (-1) x.to) (b := Jbx k (-1) y.to), <- Jrm (k := k) (a := Jbx k (-1) x.fr) (b := Jbx k (-1) y.fr), a1, a2, b1, b2]
   have h1 : Jbx k (-1) x.fr = Jbx k (-1) y.fr ↔ x.fr = y.fr := ⟨fun e => by rw [<- a1, <- b1, e], fun e => by rw [e]⟩
   simp only [h1]
   exact hlt
section
variable {c : Circuit} {k : Nat}
theorem Jl6 (p : Port) : p ∈ allP (Jag c k) ↔ upP k p ∈ allP c := by rw [Jfy, Jfy]; exact Jrt
def Je3 (c : Circuit) (k : Nat) : Prop := ∀ x ∈ c.pipes, ∀ y ∈ c.pipes, ∀ p : Port, p.part = k -> (p = x.fr \/ p = x.to) -> (p = y.fr \/ p = y.to) -> x = y
theorem J5h {p q : Port} (h : Conn (Jag c k).pipes p q) : Conn c.pipes (upP k p) (upP k q) := by
 induction h with
 | refl => exact .refl _
 | fwd y _ hm ih => exact .fwd _ ⟨upP k y.fr, upP k y.to⟩ ih (Jk0.1 hm)
 | bwd y _ hm ih => exact .bwd _ ⟨upP k y.fr, upP k y.to⟩ ih (Jk0.1 hm)
theorem J5e (hc : Jad c = 0) (h1 : Je3 c k) {p r : Port} (h : Conn c.pipes (upP k p) r) :
   (∀ q, r = upP k q -> Conn (Jag c k).pipes p q) /\ (r.part = k -> ∃ q, Conn (Jag c k).pipes p q /\ ∃ x ∈ c.pipes, (x.fr = upP k q /\ x.to = r) \/ (x.to = upP k q /\ x.fr = r)) := by
 generalize hs : upP k p = p' at h
 have hud : ∀ {s : Port}, s.part ≠ k -> ∃ t, s = upP k t := fun {s} hn => ⟨_, (Jev hn).symm⟩
 have key : ∀ {s t : Port} {y : Pipe}, y ∈ c.pipes -> ((y.fr = s /\ y.to = t) \/ (y.to = s /\ y.fr = t)) ->
     ((∀ q, s = upP k q -> Conn (Jag c k).pipes p q) /\ (s.part = k -> ∃ q, Conn (Jag c k).pipes p q /\ ∃ x ∈ c.pipes, (x.fr = upP k q /\ x.to = s) \/ (x.to = upP k q /\ x.fr = s))) ->
     ((∀ q, t = upP k q -> Conn (Jag c k).pipes p q) /\ (t.part = k -> ∃ q, Conn (Jag c k).pipes p q /\ ∃ x ∈ c.pipes, (x.fr = upP k q /\ x.to = t) \/ (x.to = upP k q /\ x.fr = t))) := fun {s t y} hy hst hi => by
   have hne : s ≠ t := by
     have := (Kba hc hy).2.2
     rintro rfl
     rcases hst with ⟨e1, e2⟩ | ⟨e1, e2⟩ <;> rw [e1, e2, Jhv] at this <;> cases this
   by_cases hk : s.part = k
   . obtain ⟨q0, c1, x, hx, hxs⟩ := hi.2 hk
     have hxy : x = y := h1 x hx y hy s hk (by rcases hxs with ⟨_, e⟩ | ⟨_, e⟩; exact .inr e.symm; exact .inl e.symm) (by rcases hst with ⟨e, _⟩ | ⟨e, _⟩; exact .inl e.symm; exact .inr e.symm)
     subst hxy
     have ht : t = upP k q0 := by
       rcases hxs with ⟨a1, a2⟩ | ⟨a1, a2⟩ <;> rcases hst with ⟨b1, b2⟩ | ⟨b1, b2⟩
       . exact absurd (a2.symm.trans b2) hne
       . exact b2.symm.trans a1
       . exact b2.symm.trans a1
       . exact absurd (a2.symm.trans b2) hne
     subst ht
     exact ⟨fun q e => by rw [<- Jom e]; exact c1, fun e => absurd e Jh7⟩
   . obtain ⟨s', rfl⟩ := hud hk
     have c1 := hi.1 s' rfl
     refine ⟨fun q e => ?_, fun e => ⟨s', c1, y, hy, hst⟩⟩
     subst e
     rcases hst with ⟨b1, b2⟩ | ⟨b1, b2⟩
     . exact .fwd _ ⟨s', q⟩ c1 (Jk0.2 (by rw [<- b1, <- b2]; exact hy))
     . exact .bwd _ ⟨q, s'⟩ c1 (Jk0.2 (by rw [<- b1, <- b2]; exact hy))
 induction h with
 | refl => subst hs; exact ⟨fun q e => by rw [<- Jom e]; exact .refl _, fun e => absurd e Jh7⟩
 | fwd y _ hm ih => exact key hm (.inl ⟨rfl, rfl⟩) ih
 | bwd y _ hm ih => exact key hm (.inr ⟨rfl, rfl⟩) ih
theorem J5f (hc : Jad c = 0) (h1 : Je3 c k) {p q : Port} : Conn (Jag c k).pipes p q ↔ Conn c.pipes (upP k p) (upP k q) := ⟨J5h, fun h => (J5e hc h1 h).1 q rfl⟩
theorem J14 (hc : Jad c = 0) (h1 : Je3 c k) {p q : Port} : q ∈ around (Jag c k) p ↔ upP k q ∈ around c (upP k p) := by
 unfold around
 simp only [List.mem_filter, decide_eq_true_eq, Jpu, Jl6, J5f hc h1]
theorem Jzh {p : Port} (hp : 0 <= p.part) : Ja3 (Jag c k) p = Ja3 c (upP k p) := by
 unfold Ja3
 obtain ⟨j, hj⟩ : ∃ j : Nat, p.part = j := ⟨p.part.toNat, by omega⟩
 show Jdl (Jal (Jag c k) p.part).toNat p.name = Jdl (Jal c (upK k p.part)).toNat p.name
 rw [hj, Jjg]
theorem Joc {p : Port} (hp : 0 <= p.part) (b : Bool) : Jh1 (Jag c k) b p = Jh1 c b (upP k p) := by
 unfold Jh1 Jcz Jjn
 rw [Jzh hp]
theorem Jnn (hc : Jad c = 0) (h1 : Je3 c k) {p q : Port} {b : Bool} : q ∈ Ja1 (Jag c k) (around (Jag c k) p) b ↔ upP k q ∈ Ja1 c (around c (upP k p)) b := by
 unfold Ja1
 rw [List.mem_filter, List.mem_filter, J14 hc h1]
 constructor
 . rintro ⟨h2, h3⟩
   have h0 := (Jnt _ h2).1
   have h4 : 0 <= q.part := by have : 0 <= upK k q.part := h0; unfold upK at this; split at this <;> omega
   exact ⟨h2, by rw [<- Joc h4]; exact h3⟩
 . rintro ⟨h2, h3⟩
   have h0 := (Jnt _ h2).1
   have h4 : 0 <= q.part := by have : 0 <= upK k q.part := h0; unfold upK at this; split at this <;> omega
   exact ⟨h2, by rw [Joc h4]; exact h3⟩
theorem Jmp (hc : Jad c = 0) (hd : Jad (Jag c k) = 0) (h1 : Je3 c k) {j x : Nat} (hj : j < (Jag c k).parts.length) : (x : Int) ∈ dirL (Jag c k) (j : Int) ↔ upK k x ∈ dirL c (upK k j) := by
 obtain ⟨q, e⟩ := Jah hj
 have e2 : c.parts[(upK k j).toNat]? = some q := by rw [<- Jey]; exact e
 have hnn : ∀ i : Nat, 0 <= upK k (i : Int) := fun i => by unfold upK; split <;> omega
 have ej : upK k (j : Int) = ((upK k j).toNat : Nat) := (Int.toNat_of_nonneg (hnn j)).symm
 rw [Jqz, Jqz]
 refine or_congr ?_ ?_
 . rw [Jw4 hd e, ej, Jw4 hc e2]
   refine and_congr Iff.rfl ?_
   constructor
   . rintro ⟨i, r, r1, r2, r3, r4⟩
     have : x = i := by omega
     subst this
     rw [Jey] at r2
     exact ⟨(upK k x).toNat, r, (Int.toNat_of_nonneg (hnn x)).symm, r2, r3, r4⟩
   . rintro ⟨i, r, r1, r2, r3, r4⟩
     refine ⟨x, r, rfl, ?_, r3, r4⟩
     rw [Jey, r1, Int.toNat_natCast]; exact r2
 . constructor
   . rintro ⟨p, hp, p1, p2, t, ht, t1⟩
     refine ⟨upP k p, (Jl6 p).1 hp, ?_, ?_, upP k t, (Jnn hc h1).1 ht, ?_⟩
     . show upK k p.part = _; rw [p1]
     . have := Joc (c := c) (k := k) (p := p) (by omega) true
       exact this.symm.trans p2
     . show upK k t.part = _; rw [t1]
   . rintro ⟨p, hp, p1, p2, t, ht, t1⟩
     have hpk : p.part ≠ k := by rw [p1]; exact Jh7
     have htk : t.part ≠ k := by rw [t1]; exact Jh7
     have a1 := Jev hpk
     have a2 := Jev htk
     generalize Jbx k (-1) p = p' at a1
     generalize Jbx k (-1) t = t' at a2
     subst a1; subst a2
     have b1 : p'.part = j := Jli (k := k) p1
     have b2 : t'.part = x := Jli (k := k) t1
     refine ⟨p', (Jl6 p').2 hp, b1, ?_, t', (Jnn hc h1).2 ht, b2⟩
     have := Joc (c := c) (k := k) (p := p') (by omega) true
     exact this.trans p2
theorem Kbv {i a x : Int} (hi : 0 <= i /\ i < c.parts.length) (ha : a ∈ Jba c i) (hx : x ∈ Jba c a) : x ∈ Jba c i := by
 have hra := Jgd ha
 exact Jnz hra (ks := Jba c i) (fun y hy => Jhx hi ha hy) (fun b hb y hy => Jhx hi hb hy) x hx
theorem Jiw {i : Nat} : idleB c i = true ↔ Jal c (i : Int) ≠ 1 /\ ∀ x ∈ Jba c i, Jal c x ≠ 1 := by
 unfold idleB
 simp only [Bool.and_eq_true, Bool.not_eq_true', decide_eq_false_iff_not, List.all_eq_true]
theorem J7j (hc : Jad c = 0) (hk : k < c.parts.length) (h1 : Je3 c k) (hid : idleB c k = true) {j : Nat} (hj : j < (Jag c k).parts.length) : idleB (Jag c k) j = idleB c (upK k j).toNat := by
 obtain ⟨k1, k2⟩ := Jiw.1 hid
 have hd := Jn1 hc hk k1
 have hnn : ∀ i : Nat, 0 <= upK k (i : Int) := fun i => by unfold upK; split <;> omega
 have hlen : (Jag c k).parts.length + 1 = c.parts.length := by
   show (c.parts.take k ++ c.parts.drop (k + 1)).length + 1 = _
   simp; omega
 have hju : 0 <= upK k (j : Int) /\ upK k (j : Int) < c.parts.length := ⟨hnn j, by unfold upK; split <;> omega⟩
 have hj2 : (0 : Int) <= (j : Int) /\ (j : Int) < (Jag c k).parts.length := ⟨by omega, by omega⟩
 have ej : (((upK k j).toNat : Nat) : Int) = upK k j := Int.toNat_of_nonneg hju.1
 rw [Bool.eq_iff_iff, Jiw, Jiw, Jjg, ej]
 refine and_congr Iff.rfl ?_
 constructor
 . intro h x hx hx1
   classical
   let R : List Int := (Jba c (upK k j)).filter fun z => decide ((Jal c z ≠ 1 /\ ∀ y ∈ Jba c z, Jal c y ≠ 1) \/ ∃ z' : Nat, z = upK k z' /\ (z' : Int) ∈ Jba (Jag c k) j)
   have hR : ∀ z, z ∈ R ↔ z ∈ Jba c (upK k j) /\ ((Jal c z ≠ 1 /\ ∀ y ∈ Jba c z, Jal c y ≠ 1) \/ ∃ z' : Nat, z = upK k z' /\ (z' : Int) ∈ Jba (Jag c k) j) := fun z => by
     show z ∈ List.filter _ _ ↔ _
     rw [List.mem_filter, decide_eq_true_eq]
   have hstep : ∀ (a : Int), (a = upK k j \/ a ∈ Jba c (upK k j)) -> (a = upK k (j : Int) \/ ∃ z' : Nat, a = upK k z' /\ (z' : Int) ∈ Jba (Jag c k) j) -> ∀ y ∈ dirL c a, ((Jal c y ≠ 1 /\ ∀ z ∈ Jba c y, Jal c z ≠ 1) \/ ∃ z' : Nat, y = upK k z' /\ (z' : Int) ∈ Jba (Jag c k) j) := fun a har ha y hy => by
     have hra : 0 <= a /\ a < c.parts.length := by
       rcases har with rfl | har
       . exact hju
       . exact Jgd har
     have hry := Jf2 hra hy
     by_cases hyk : y = k
     . subst hyk; exact .inl ⟨k1, k2⟩
     . right
       have hup : ∃ z' : Nat, y = upK k z' := by
         by_cases hlt : y < k
         . exact ⟨y.toNat, by unfold upK; rw [if_pos (by omega)]; omega⟩
         . exact ⟨(y - 1).toNat, by unfold upK; rw [if_neg (by omega)]; omega⟩
       obtain ⟨z', rfl⟩ := hup
       refine ⟨z', rfl, ?_⟩
       rcases ha with rfl | ⟨a', rfl, ha'⟩
       . exact Jhw hj2 ((Jmp hc hd h1 hj).2 hy)
       . have := Jgd ha'
         exact Jhx hj2 ha' ((Jmp hc hd h1 (by omega)).2 hy)
   have := Jnz hju (ks := R) (fun y hy => (hR y).2 ⟨Jhw hju hy, hstep _ (.inl rfl) (.inl rfl) y hy⟩) (fun a ha y hy => by
     obtain ⟨a1, a2⟩ := (hR a).1 ha
     refine (hR y).2 ⟨Jhx hju a1 hy, ?_⟩
     rcases a2 with ⟨a3, a4⟩ | a2
     . have hra := Jgd a1
       have hy2 := Jhw hra hy
       exact .inl ⟨a4 y hy2, fun z hz => a4 z (Kbv hra hy2 hz)⟩
     . exact hstep a (.inr a1) (.inr a2) y hy) x hx
   rcases ((hR x).1 this).2 with ⟨a3, _⟩ | ⟨z', rfl, hz'⟩
   . exact a3 hx1
   . have := h _ hz'
     rw [Jjg] at this
     exact this hx1
 . intro h x hx
   have hrx := Jgd hx
   obtain ⟨x', rfl⟩ : ∃ x' : Nat, x = x' := ⟨x.toNat, by omega⟩
   rw [Jjg]
   refine h _ ?_
   let R : List Int := (Jba (Jag c k) j).filter fun z => decide (upK k z ∈ Jba c (upK k j))
   have hR : ∀ z, z ∈ R ↔ z ∈ Jba (Jag c k) j /\ upK k z ∈ Jba c (upK k j) := fun z => by
     show z ∈ List.filter _ _ ↔ _
     rw [List.mem_filter, decide_eq_true_eq]
   have := Jnz hj2 (ks := R) (fun y hy => by
     have hry := Jf2 hj2 hy
     obtain ⟨y', rfl⟩ : ∃ y' : Nat, y = y' := ⟨y.toNat, by omega⟩
     exact (hR _).2 ⟨Jhw hj2 hy, Jhw hju ((Jmp hc hd h1 hj).1 hy)⟩) (fun a ha y hy => by
     obtain ⟨a1, a2⟩ := (hR a).1 ha
     have hra := Jgd a1
     obtain ⟨a', rfl⟩ : ∃ a' : Nat, a = a' := ⟨a.toNat, by omega⟩
     have hry := Jf2 hra hy
     obtain ⟨y', rfl⟩ : ∃ y' : Nat, y = y' := ⟨y.toNat, by omega⟩
     exact (hR _).2 ⟨Jhx hj2 a1 hy, Jhx hju a2 ((Jmp hc hd h1 (by omega)).1 hy)⟩) _ hx
   exact ((hR _).1 this).2
theorem Jve (hc : Jad c = 0) (hk : k < c.parts.length) (h1 : Je3 c k) (hid : idleB c k = true) {j : Nat} (hj : j < (Jag c k).parts.length) (hcy : Jal (Jag c k) (j : Int) = 1) {s : Txt} (hs : s = [50] \/ s = [52]) :
   (Jej c (upK k j) s).Perm ((Jej (Jag c k) j s).map (upP k)) := by
 obtain ⟨k1, k2⟩ := Jiw.1 hid
 have hd := Jn1 hc hk k1
 have n1 : (Jej c (upK k j) s).Nodup := by unfold Jej Ja1; rw [Jl9]; exact ((Jj9 (Jcx hc).1).filter _).filter _
 have n2 : (Jej (Jag c k) j s).Nodup := by unfold Jej Ja1; rw [Jl9]; exact ((Jj9 (Jcx hd).1).filter _).filter _
 have n3 : ((Jej (Jag c k) j s).map (upP k)).Nodup := List.pairwise_map.2 (n2.imp fun hne e => hne (Jom e))
 rw [List.perm_ext_iff_of_nodup n1 n3]
 intro q
 rw [List.mem_map]
 obtain ⟨r, er⟩ := Jah hj
 have hrk : r.kind = 1 := by unfold Jal at hcy; rw [Int.toNat_natCast, er] at hcy; simpa using hcy
 have hsp : s ∈ Jbm r := by unfold Jbm; rw [hrk]; rcases hs with rfl | rfl <;> decide
 have hpd : (⟨(j : Int), s⟩ : Port) ∈ allP (Jag c k) := Kbg er hsp
 have hpc : (⟨upK k j, s⟩ : Port) ∈ allP c := (Jl6 ⟨j, s⟩).1 hpd
 constructor
 . intro hq
   have hqk : q.part ≠ k := fun e => by
     obtain ⟨f1, f2, f3⟩ := Jp8 hq
     have hdir : upK k j ∈ dirL c (k : Int) := by
       rw [Jqz]
       refine .inr ⟨q, f2, e, by unfold Jcz; simpa using f3, ⟨upK k j, s⟩, ?_, rfl⟩
       unfold Ja1
       refine List.mem_filter.2 ⟨J15 hpc f1, ?_⟩
       have hr4 : Ja3 c ⟨upK k j, s⟩ = 4 := by
         have : Ja3 (Jag c k) ⟨j, s⟩ = Ja3 c (upP k ⟨j, s⟩) := Jzh (by simp)
         rw [<- show upP k ⟨(j : Int), s⟩ = ⟨upK k j, s⟩ from rfl, <- this]
         unfold Ja3
         simp only [hcy]
         rcases hs with rfl | rfl <;> decide
       unfold Jh1 Jjn
       simp [hr4]
     have := k2 _ (Jhw ⟨by omega, by omega⟩ hdir)
     rw [Jjg] at hcy
     exact this hcy
   refine ⟨Jbx k (-1) q, ?_, Jev hqk⟩
   have := Jnn (c := c) (k := k) hc h1 (p := ⟨j, s⟩) (q := Jbx k (-1) q) (b := true)
   rw [Jev hqk] at this
   exact this.2 hq
 . rintro ⟨t, ht, rfl⟩
   exact (Jnn hc h1 (p := ⟨j, s⟩) (b := true)).1 ht
end
end Go.Am
namespace Go.Am
open Go Go.Proofs Go.Pn
section
variable {c : Circuit} {k : Nat}
theorem Jkh {l m : List Port} {f : Port -> Port} (h : l.Perm (m.map f)) : (∀ a, m = [a] -> l = [f a]) /\ ((∀ a, m ≠ [a]) -> ∀ a, l ≠ [a]) := by
 refine ⟨fun a e => Ka2 (by rw [e] at h; exact h), fun hn a e => ?_⟩
 have := h.length_eq
 rw [e, List.length_map] at this
 match m, this with
 | [x], _ => exact hn x rfl
theorem J52 (hc : Jad c = 0) (hk : k < c.parts.length) (h1 : Je3 c k) (hid : idleB c k = true) {j : Nat} (hj : j < (Jag c k).parts.length) (hcy : Jal (Jag c k) (j : Int) = 1) :
   Jdh c (upK k j) = (Jdh (Jag c k) j).map fun r => (upK k r.1, r.2) := by
 have f2 := Jve hc hk h1 hid hj hcy (s := [50]) (.inl rfl)
 have f4 := Jve hc hk h1 hid hj hcy (s := [52]) (.inr rfl)
 unfold Jdh
 by_cases h2 : ∃ a, Jej (Jag c k) j [50] = [a]
 . obtain ⟨a, ea⟩ := h2
   by_cases h4 : ∃ b, Jej (Jag c k) j [52] = [b]
   . obtain ⟨b, eb⟩ := h4
     rw [ea, eb, (Jkh f2).1 a ea, (Jkh f4).1 b eb]
     have ma : a ∈ allP (Jag c k) := (Jp8 (i := j) (s := [50]) (by rw [ea]; simp)).2.1
     obtain ⟨x, hx⟩ : ∃ x : Nat, a.part = x := ⟨a.part.toNat, by have := (Jre ma).1; omega⟩
     have c1 : ((upP k a).part ≠ (upP k b).part \/ (upP k a).name = (upP k b).name) ↔ (a.part ≠ b.part \/ a.name = b.name) := by
       show (upK k a.part ≠ upK k b.part \/ a.name = b.name) ↔ _
       constructor
       . rintro (h | h)
         . exact .inl fun e => h (by rw [e])
         . exact .inr h
       . rintro (h | h)
         . exact .inl fun e => h (Jli e)
         . exact .inr h
     have c2 : Jal c (upP k a).part = Jal (Jag c k) a.part := by rw [hx, Jjg]; show Jal c (upK k a.part) = _; rw [hx]
     simp only [c1, c2]
     split
     . rfl
     . split
       . rfl
       . rfl
   . have hn := (Jkh f4).2 fun b e => h4 ⟨b, e⟩
     rw [ea, (Jkh f2).1 a ea]
     rcases Joj hn with e1 | ⟨x, y, t, e1⟩ <;> rcases Joj (fun b e => h4 ⟨b, e⟩) with e2 | ⟨x', y', t', e2⟩ <;> rw [e1, e2] <;> rfl
 . have hn := (Jkh f2).2 fun b e => h2 ⟨b, e⟩
   rcases Joj hn with e1 | ⟨x, y, t, e1⟩ <;> rcases Joj (fun b e => h2 ⟨b, e⟩) with e2 | ⟨x', y', t', e2⟩ <;> rw [e1, e2] <;> rfl
theorem Kbm (hc : Jad c = 0) (hk : k < c.parts.length) (h1 : Je3 c k) (hid : idleB c k = true) {i j : Nat} {p : Part} (e : c.parts[i]? = some p) (hij : (i : Int) = upK k j) :
   Jbk (Jag c k) p.name = Jbk c p.name /\ (Jbv (Jag c k) p.name).2 = (Jbv c p.name).2 /\
   (Jbk c p.name = 0 -> ∃ (a b : Nat) (q : Part), (Jbv c p.name).1 = a /\ c.parts[a]? = some q /\ (Jbv (Jag c k) p.name).1 = b /\ (Jag c k).parts[b]? = some q) := by
 have hd := Jn1 hc hk (Jiw.1 hid).1
 have ed : (Jag c k).parts[j]? = some p := by rw [Jey, <- hij, Int.toNat_natCast]; exact e
 have hjl := (gsI.1 ed).1
 have q1 : Jdv c p.name = i := Jht hc e
 have q2 : Jdv (Jag c k) p.name = j := Jht hd ed
 have k1 : Jal c (i : Int) = p.kind := by rw [Jal, Int.toNat_natCast, e]; rfl
 have k2 : Jal (Jag c k) (j : Int) = p.kind := by rw [Jal, Int.toNat_natCast, ed]; rfl
 have E1 : Jbk c p.name = if p.kind ≠ 1 then 1 else if (Jdh c i).isNone then 14 else 0 := by
   unfold Jbk
   rw [if_neg (by simpa using hc), q1, if_neg (by omega), k1]
 have E2 : Jbk (Jag c k) p.name = if p.kind ≠ 1 then 1 else if (Jdh (Jag c k) j).isNone then 14 else 0 := by
   unfold Jbk
   rw [if_neg (by simpa using hd), q2, if_neg (by omega), k2]
 by_cases hk1 : p.kind = 1
 . have hdv := J52 hc hk h1 hid hjl (by rw [k2]; exact hk1)
   rw [<- hij] at hdv
   rw [if_neg (by simpa using hk1)] at E1 E2
   have R1 : Jbv c p.name = if Jbk c p.name ≠ 0 then (0, false) else (Jdh c i).getD (0, false) := by unfold Jbv; rw [q1]
   have R2 : Jbv (Jag c k) p.name = if Jbk (Jag c k) p.name ≠ 0 then (0, false) else (Jdh (Jag c k) j).getD (0, false) := by unfold Jbv; rw [q2]
   cases ho : Jdh (Jag c k) (j : Int) with
   | none =>
     rw [ho] at hdv E2
     rw [hdv] at E1
     have E1' : Jbk c p.name = 14 := E1
     have E2' : Jbk (Jag c k) p.name = 14 := E2
     rw [E1', if_pos (by decide)] at R1
     rw [E2', if_pos (by decide)] at R2
     exact ⟨by rw [E1', E2'], by rw [R1, R2], fun h0 => by rw [E1'] at h0; cases h0⟩
   | some r =>
     obtain ⟨v, w⟩ := r
     rw [ho] at hdv E2 R2
     rw [hdv] at E1 R1
     have E1' : Jbk c p.name = 0 := E1
     have E2' : Jbk (Jag c k) p.name = 0 := E2
     rw [E1', if_neg (by decide)] at R1
     rw [E2', if_neg (by decide)] at R2
     refine ⟨by rw [E1', E2'], by rw [R1, R2]; rfl, fun _ => ?_⟩
     obtain ⟨b, q, f1, f2⟩ := J51 ho
     have hnn : 0 <= upK k (b : Int) := by unfold upK; split <;> omega
     refine ⟨(upK k b).toNat, b, q, ?_, by rw [<- Jey]; exact f2, by rw [R2]; exact f1, f2⟩
     rw [R1]
     show upK k v = _
     rw [f1, Int.toNat_of_nonneg hnn]
 . rw [if_pos hk1] at E1 E2
   have R1 : Jbv c p.name = (0, false) := by unfold Jbv; rw [E1, if_pos (by decide)]
   have R2 : Jbv (Jag c k) p.name = (0, false) := by unfold Jbv; rw [E2, if_pos (by decide)]
   exact ⟨by rw [E1, E2], by rw [R1, R2], fun h0 => by rw [E1] at h0; cases h0⟩
end
end Go.Am
namespace Go.Am
open Go Go.Proofs Go.Pn
def keyP (p : Port) : AV := .agg [.p (.int .i64 p.part), .p (.str p.name)]
theorem Jqu {p q : Port} : keyP p = keyP q ↔ p = q := by
 obtain ⟨a, s⟩ := p
 obtain ⟨b, t⟩ := q
 unfold keyP
 simp
def cntP (L : List Port) (p : Port) : Nat := (L.filter fun q => decide (q = p)).length
theorem Jhi {L : List Port} {p y : Port} : cntP (p :: L) y = if p = y then cntP L y + 1 else cntP L y := by
 unfold cntP
 by_cases h : p = y
 . rw [if_pos h, List.filter_cons_of_pos (by simpa using h)]; rfl
 . rw [if_neg h, List.filter_cons_of_neg (by simpa using h)]
theorem Ju2 {L : List Port} {p : Port} : cntP L p <= L.length := List.length_filter_le ..
noncomputable def cqR : List Port -> List (AV × AV)
 | [] => []
 | p :: L => setA (cqR L) (keyP p) (.p (.int .i64 ((cntP L p : Nat) + 1)))
theorem Jin {y : Port} : ∀ {L : List Port}, Jam (cqR L) (keyP y) = if cntP L y = 0 then none else some (.p (.int .i64 (cntP L y : Nat)))
 | [] => by rw [if_pos (by simp [cntP])]; rfl
 | p :: L => by
   rw [cqR, Jmb, Jin, Jhi]
   by_cases h : p = y
   . rw [if_pos (Jqu.2 h), if_pos h, if_neg (by omega), h]
     simp
   . rw [if_neg (fun h2 => h (Jqu.1 h2)), if_neg h]
theorem Jpx : ∀ {L : List Port}, ∀ e ∈ cqR L, IsIS e.1
 | [], _, he => by cases he
 | p :: L, e, he => Jzm (K := IsIS) ⟨_, _, rfl⟩ Jpx e he
theorem Jmn : ∀ {L : List Port}, ∀ e ∈ cqR L, ∃ (y : Port) (m : Nat), e = (keyP y, .p (.int .i64 (m : Nat)))
 | [], _, he => by cases he
 | p :: L, e, he => Jzl (K := fun e => ∃ (y : Port) (m : Nat), e = (keyP y, .p (.int .i64 (m : Nat)))) ⟨p, cntP L p + 1, rfl⟩ Jmn e he
open Classical in
theorem Jzn {x v : AV} : ∀ {es : List (AV × AV)}, (setA es x v).map (·.1) = if x ∈ es.map (·.1) then es.map (·.1) else es.map (·.1) ++ [x]
 | [] => by rw [setA, if_neg (by simp)]; rfl
 | (k, u) :: es => by
   rw [setA]
   by_cases h : k = x
   . rw [if_pos h, if_pos (by simp [h]), List.map_cons, List.map_cons, h]
   . rw [if_neg h, List.map_cons, List.map_cons, Jzn]
     by_cases h2 : x ∈ es.map (·.1)
     . rw [if_pos h2, if_pos (List.mem_cons_of_mem _ h2)]
     . rw [if_neg h2, if_neg (fun h3 => by rcases List.mem_cons.1 h3 with h3 | h3; exact h h3.symm; exact h2 h3)]; rfl
theorem Jpy : ∀ {L : List Port}, ((cqR L).map (·.1)).Nodup
 | [] => List.nodup_nil
 | p :: L => by
   rw [cqR, Jzn]
   split
   . exact Jpy
   . rename_i h
     rw [List.nodup_append]
     refine ⟨Jpy, by simp, fun x hx y hy => ?_⟩
     rw [List.mem_singleton.1 hy]
     rintro rfl
     exact h hx
theorem J5j {L : List Port} : ∀ e ∈ cqR L, Jaq e.1 = true /\ Jaq e.2 = true := fun e he => by
 obtain ⟨y, m, rfl⟩ := Jmn e he
 exact ⟨rfl, rfl⟩
@[simp] theorem Kge {L : List Port} {ρ : List Nat} : renE ρ (cqR L) = some (cqR L) := Jk1 J5j
@[simp] theorem Kfc {L : List Port} {a : Int} {s : Txt} : Jb0 Tryz.prog 55 (cqR L) (.agg [.p (.int .i64 a), .p (.str s)]) = True :=
 eq_true ⟨_, Jm6, ⟨_, _, rfl⟩, Jpx⟩
theorem Jwn {L : List Port} {a : Int} {s : Txt} {x z : AV} (hx : IsIS x) : Jb0 Tryz.prog 55 (entA (cqR L) x z) (.agg [.p (.int .i64 a), .p (.str s)]) = True :=
 eq_true ⟨_, Jm6, ⟨_, _, rfl⟩, J57 Jpx hx⟩
theorem J5i {L : List Port} {y : Port} (h : 0 < cntP L y) : ∃ n : Nat, (cqR L)[n]? = some (keyP y, AV.p (PV.int .i64 (cntP L y : Nat))) := by
 have h2 := @Jin y L
 rw [if_neg (by omega)] at h2
 rcases Jqh (cqR L) (keyP y) with h3 | ⟨j, e, h3, h4, h5⟩
 . rw [Jma h3] at h2; cases h2
 . rw [Jkb h3 h4 h5] at h2
   obtain ⟨a, b⟩ := e
   simp only at h4
   simp only [Option.some.injEq] at h2
   exact ⟨j, by rw [h3, h4, h2]⟩
def endR (c : Circuit) : Nat -> List Port
 | 0 => []
 | k + 1 => match c.pipes[k]? with | some x => x.to :: x.fr :: endR c k | none => endR c k
theorem Ju7 {c : Circuit} {k : Nat} {x : Pipe} (e : c.pipes[k]? = some x) : endR c (k + 1) = x.to :: x.fr :: endR c k := by rw [endR, e]
theorem Ju8 {c : Circuit} : ∀ {k : Nat}, (endR c k).length <= 2 * k
 | 0 => by simp [endR]
 | k + 1 => by
   have := @Ju8 c k
   rw [endR]
   split
   . simp only [List.length_cons]; omega
   . omega
theorem J5d {c : Circuit} {k : Nat} {p : Port} : cntP (endR c k) p <= cntP (endR c (k + 1)) p := by
 rw [endR]
 split
 . rw [Jhi, Jhi]; split <;> split <;> omega
 . exact Nat.le_refl _
theorem Ju4 {c : Circuit} {p : Port} {k m : Nat} (h : k <= m) : cntP (endR c k) p <= cntP (endR c m) p := by
 induction m with
 | zero => rw [show k = 0 by omega]; exact Nat.le_refl _
 | succ m ih =>
   by_cases h2 : k <= m
   . exact Nat.le_trans (ih h2) J5d
   . rw [show k = m + 1 by omega]; exact Nat.le_refl _
theorem Ju3 {c : Circuit} {p : Port} {k : Nat} {x : Pipe} (e : c.pipes[k]? = some x) (h : p = x.fr \/ p = x.to) : cntP (endR c k) p + 1 <= cntP (endR c (k + 1)) p := by
 rw [Ju7 e, Jhi, Jhi]
 rcases h with rfl | rfl
 . rw [if_pos rfl]; split <;> omega
 . rw [if_pos rfl]; split <;> omega
theorem Kam {c : Circuit} {k : Nat} (h : ∀ y : Port, y.part = k -> cntP (endR c c.pipes.length) y <= 1) : Je3 c k := by
 have key : ∀ {i j : Nat} {x y : Pipe} {p : Port}, i < j -> c.pipes[i]? = some x -> c.pipes[j]? = some y -> p.part = k -> (p = x.fr \/ p = x.to) -> (p = y.fr \/ p = y.to) -> False := fun {i j x y p} hij ei ej hp hx hy => by
   have a := Ju3 ei hx
   have b := Ju3 ej hy
   have d := @Ju4 c p (i + 1) j hij
   have hj := (gsI.1 ej).1
   have f := @Ju4 c p (j + 1) c.pipes.length hj
   have := h p hp
   omega
 intro x hx y hy p hp h1 h2
 obtain ⟨i, ei⟩ := List.getElem?_of_mem hx
 obtain ⟨j, ej⟩ := List.getElem?_of_mem hy
 rcases Nat.lt_trichotomy i j with hij | rfl | hij
 . exact (key hij ei ej hp h1 h2).elim
 . rw [ei] at ej; exact Option.some.inj ej
 . exact (key hij ej ei hp h2 h1).elim
end Go.Am
