/- Plain: drivers and pressure in circuits that differ in the order of their parts alone; chapters 22, 24. -/
import Derived.Test.YtmfjjncfdpejiaaGreatDoorZN1
import Derived.Test.YtmfjjncfdpejiaaGreatDoorZCJ
set_option linter.unusedVariables false
set_option linter.unusedSimpArgs false
namespace Go.Am
open Go Go.Proofs Go.Pn
section
variable {c d : Circuit} {g : Int -> Int}
theorem Jll {c : Circuit} (h : Jad c = 0) {i : Nat} (hi : i < c.parts.length) : ∃ p ∈ allP c, p.part = i := by
 obtain ⟨q, e⟩ := Jae hi
 have hk := (Jbg h).1 q (List.mem_of_getElem? e)
 have h1 : ∀ k, k < 14 -> Jaq k ≠ [] := by decide
 have h2 := h1 q.kind.toNat (by omega)
 cases e2 : Jaq q.kind.toNat with
 | nil => exact absurd e2 h2
 | cons s r => exact ⟨⟨i, s⟩, Jr8 e (by unfold Ja8; rw [e2]; simp), rfl⟩
theorem Iso.part (I : Iso c d g) {i : Nat} {q : Part} (e : c.parts[i]? = some q) : ∃ (j : Nat) (r : Part), g i = j /\ d.parts[j]? = some r /\ r.kind = q.kind := by
 obtain ⟨p, hp, e1⟩ := Jll I.hc (gsI.1 e).1
 obtain ⟨j, r, k1, k2, _⟩ := Jf7 (I.mem p hp)
 have hk := I.kind p hp
 have k3 : g (i : Int) = j := by rw [<- e1]; exact k1
 rw [e1, k3] at hk
 refine ⟨j, r, k3, k2, ?_⟩
 unfold Jal at hk
 rw [Int.toNat_natCast, Int.toNat_natCast, k2, e] at hk
 simpa using hk
theorem Iso.symm (I : Iso c d g) : ∃ k : Int -> Int, Iso d c k /\ (∀ p ∈ allP c, k (g p.part) = p.part) /\ ∀ q ∈ allP d, g (k q.part) = q.part := by
 have hex : ∃ k : Int -> Int, ∀ p ∈ allP c, k (g p.part) = p.part := by
   refine ⟨fun j => open Classical in if h : ∃ p ∈ allP c, g p.part = j then (Classical.choose h).part else 0, fun p hp => ?_⟩
   have h : ∃ q ∈ allP c, g q.part = g p.part := ⟨p, hp, rfl⟩
   simp only [dif_pos h]
   obtain ⟨h1, h2⟩ := Classical.choose_spec h
   exact I.inj _ _ h1 hp h2
 obtain ⟨k, hk⟩ := hex
 have hb : ∀ p ∈ allP c, mvI k (mvI g p) = p := fun p hp => by unfold mvI; simp only [hk p hp]
 have hq : ∀ q ∈ allP d, g (k q.part) = q.part := fun q hqm => by
   obtain ⟨p, hp, rfl⟩ := I.surj q hqm
   show g (k (g p.part)) = g p.part
   rw [hk p hp]
 refine ⟨k, ⟨I.hd, I.hc, fun q hqm => ?_, fun q r hqm hrm e => ?_, fun p hp => ⟨mvI g p, I.mem p hp, hb p hp⟩, fun q hqm => ?_, fun y hy => ?_, fun x hx => ?_⟩, hk, hq⟩
 . obtain ⟨p, hp, rfl⟩ := I.surj q hqm
   rw [hb p hp]; exact hp
 . have := congrArg g e
   rwa [hq q hqm, hq r hrm] at this
 . obtain ⟨p, hp, rfl⟩ := I.surj q hqm
   show Jal c (k (g p.part)) = Jal d (g p.part)
   rw [hk p hp, I.kind p hp]
 . obtain ⟨x, hx, h⟩ := I.bwd y hy
   obtain ⟨a, b⟩ := Jho I.hc hx
   refine ⟨x, hx, ?_⟩
   rcases h with ⟨e1, e2⟩ | ⟨e1, e2⟩
   . rw [e1, e2, hb _ a, hb _ b]; exact .inl ⟨rfl, rfl⟩
   . rw [e1, e2, hb _ a, hb _ b]; exact .inr ⟨rfl, rfl⟩
 . obtain ⟨y, hy, h⟩ := I.fwd x hx
   obtain ⟨a, b⟩ := Jho I.hc hx
   refine ⟨y, hy, ?_⟩
   rcases h with ⟨e1, e2⟩ | ⟨e1, e2⟩
   . rw [e1, e2, hb _ a, hb _ b]; exact .inl ⟨rfl, rfl⟩
   . rw [e1, e2, hb _ a, hb _ b]; exact .inr ⟨rfl, rfl⟩
theorem Jy7 (h : Jad c = 0) {p q : Port} (hp : p ∈ allP c) (hq : q ∈ allP c) : netN c p.part p.name = netN c q.part q.name ↔ Conn c.pipes p q := by
 rw [<- Kb3 h hp hq]
 unfold netN
 obtain ⟨i, _, e1, _⟩ := Jif h hp
 obtain ⟨j, _, e2, _⟩ := Jif h hq
 show (netP c p).toNat = (netP c q).toNat ↔ _
 rw [e1, e2]
 omega
theorem Iso.net (I : Iso c d g) {p q : Port} (hp : p ∈ allP c) (hq : q ∈ allP c) : netN d (g p.part) p.name = netN d (g q.part) q.name ↔ netN c p.part p.name = netN c q.part q.name := by
 rw [Jy7 I.hc hp hq, <- I.conn_iff hp hq]
 exact Jy7 I.hd (I.mem p hp) (I.mem q hq)
def Je9 (c : Circuit) (g : Int -> Int) (l m : List Int) : Prop := ∀ p ∈ allP c, Jdk m (g p.part) = Jdk l p.part
theorem Iso.at_ (I : Iso c d g) {l m : List Int} (hs : Je9 c g l m) {i : Nat} (hi : i < c.parts.length) : ∃ j : Nat, g i = j /\ j < d.parts.length /\ Jal d (j : Int) = Jal c (i : Int) /\ Jea d m j = Jea c l i /\ opens d m j = opens c l i := by
 obtain ⟨q, e⟩ := Jae hi
 obtain ⟨p, hp, e1⟩ := Jll I.hc hi
 obtain ⟨j, r, k1, k2, k3⟩ := I.part e
 have h1 := hs p hp
 rw [e1, k1] at h1
 have h2 : Jal d (j : Int) = Jal c (i : Int) := by unfold Jal; rw [Int.toNat_natCast, Int.toNat_natCast, k2, e]; simpa using k3
 refine ⟨j, k1, (gsI.1 k2).1, h2, ?_, ?_⟩
 . unfold Jea; rw [h1, h2]
 . unfold opens; rw [h1, h2]
theorem Iso.prs (I : Iso c d g) {l m : List Int} (hl : Jam c l = 0) (hm : Jam d m = 0) (hs : Je9 c g l m) {p : Port} (hp : p ∈ allP c) (h : netN c p.part p.name ∈ Am.prs c l) : netN d (g p.part) p.name ∈ Am.prs d m := by
 classical
 let S : Nat -> Bool := fun n => decide (∀ q ∈ allP c, netN c q.part q.name = n -> netN d (g q.part) q.name ∈ Am.prs d m)
 have hS : ∀ {q : Port}, q ∈ allP c -> netN d (g q.part) q.name ∈ Am.prs d m -> S (netN c q.part q.name) = true := fun {q} hq hm2 => by
   refine decide_eq_true fun r hr e => ?_
   rw [(I.net hr hq).2 e]; exact hm2
 have hS2 : ∀ {q : Port}, q ∈ allP c -> S (netN c q.part q.name) = true -> netN d (g q.part) q.name ∈ Am.prs d m := fun {q} hq hs2 => of_decide_eq_true hs2 q hq rfl
 have hcl : Jgh (Jkg c ++ psgs c l) S := by
   intro y hy hf
   rcases List.mem_append.1 hy with hy | hy
   . obtain ⟨i, hi, hk, rfl⟩ := Jl1.1 hy
     obtain ⟨j, g1, g2, g3, _, _⟩ := I.at_ hs hi
     refine hS (q := ⟨i, t1⟩) (Jtc hl hi hk) ?_
     show netN d (g i) t1 ∈ Am.prs d m
     rw [g1]
     exact List.contains_iff_mem.1 (Jos hm ⟨j, netN d j t1, [], true⟩ (List.mem_append_left _ (Jl1.2 ⟨j, g2, by rw [g3]; exact hk, rfl⟩)) rfl)
   . obtain ⟨i, z, hi, hz, rfl⟩ := Jhr.1 hy
     obtain ⟨j, g1, g2, _, g4, _⟩ := I.at_ hs hi
     obtain ⟨w1, w2, _⟩ := Jjv hl hi hz
     refine hS (q := ⟨i, z.to⟩) w1 ?_
     show netN d (g i) z.to ∈ Am.prs d m
     rw [g1]
     refine List.contains_iff_mem.1 (Jos hm ⟨j, netN d j z.to, z.fr.map (netN d j), z.all⟩ (List.mem_append_right _ (Jhr.2 ⟨j, z, g2, by rw [g4]; exact hz, rfl⟩)) ?_)
     have key : ∀ s ∈ z.fr, S (netN c i s) = true -> (Am.prs d m).contains (netN d j s) = true := fun s hs1 hs2 => by
       have := hS2 (q := ⟨i, s⟩) (w2 s hs1) hs2
       simp only [g1] at this
       exact List.contains_iff_mem.2 this
     unfold Jcr at hf ⊢
     simp only [List.all_map, List.any_map] at hf ⊢
     split at hf
     . rename_i ha
       rw [if_pos ha]
       rw [List.all_eq_true] at hf ⊢
       exact fun s hs1 => key s hs1 (hf s hs1)
     . rename_i ha
       rw [if_neg ha]
       rw [List.any_eq_true] at hf ⊢
       obtain ⟨s, hs1, hs2⟩ := hf
       exact ⟨s, hs1, key s hs1 hs2⟩
 have := Jrn (N := (Am.nets c).length) hcl _ h
 exact hS2 hp this
theorem Je9.back {k : Int -> Int} {l m : List Int} (I : Iso c d g) (hk : ∀ p ∈ allP c, k (g p.part) = p.part) (hs : Je9 c g l m) : Je9 d k m l := fun q hq => by
 obtain ⟨p, hp, rfl⟩ := I.surj q hq
 show Jdk l (k (g p.part)) = Jdk m (g p.part)
 rw [hk p hp, hs p hp]
theorem Iso.prs_iff (I : Iso c d g) {l m : List Int} (hl : Jam c l = 0) (hm : Jam d m = 0) (hs : Je9 c g l m) {p : Port} (hp : p ∈ allP c) : netN d (g p.part) p.name ∈ Am.prs d m ↔ netN c p.part p.name ∈ Am.prs c l := by
 constructor
 . intro h
   obtain ⟨k, J, hk, _⟩ := I.symm
   have := J.prs hm hl (hs.back I hk) (p := mvI g p) (I.mem p hp) h
   have e : k (mvI g p).part = p.part := hk p hp
   rw [e] at this
   exact this
 . exact I.prs hl hm hs hp
theorem Iso.vts (I : Iso c d g) {l m : List Int} (hl : Jam c l = 0) (hm : Jam d m = 0) (hs : Je9 c g l m) {p : Port} (hp : p ∈ allP c) (h : netN c p.part p.name ∈ Am.vts c l) : netN d (g p.part) p.name ∈ Am.vts d m := by
 classical
 let S : Nat -> Bool := fun n => decide (∀ q ∈ allP c, netN c q.part q.name = n -> netN d (g q.part) q.name ∈ Am.vts d m)
 have hS : ∀ {q : Port}, q ∈ allP c -> netN d (g q.part) q.name ∈ Am.vts d m -> S (netN c q.part q.name) = true := fun {q} hq hm2 => by
   refine decide_eq_true fun r hr e => ?_
   rw [(I.net hr hq).2 e]; exact hm2
 have hS2 : ∀ {q : Port}, q ∈ allP c -> S (netN c q.part q.name) = true -> netN d (g q.part) q.name ∈ Am.vts d m := fun {q} hq hs2 => of_decide_eq_true hs2 q hq rfl
 have hcl : Jgh (Jko c l) S := by
   intro y hy hf
   obtain ⟨hy, hn⟩ := Jiv.1 hy
   rcases hy with ⟨i, s, hi, hsm, rfl⟩ | ⟨i, z, hi, hz, rfl⟩
   . obtain ⟨j, g1, g2, _, _, g5⟩ := I.at_ hs hi
     have w1 := Jrx hl hi s hsm
     refine hS (q := ⟨i, s⟩) w1 ?_
     show netN d (g i) s ∈ Am.vts d m
     have hn2 : netN d (g i) s ∉ Am.prs d m := fun h2 => hn ((I.prs_iff hl hm hs (p := ⟨i, s⟩) w1).1 h2)
     rw [g1] at hn2 ⊢
     exact List.contains_iff_mem.1 (Jpo hm ⟨j, netN d j s, [], true⟩ (Jiv.2 ⟨.inl ⟨j, s, g2, by rw [g5]; exact hsm, rfl⟩, hn2⟩) rfl)
   . obtain ⟨j, g1, g2, _, g4, _⟩ := I.at_ hs hi
     obtain ⟨w1, w2, _⟩ := Jjv hl hi hz
     refine hS (q := ⟨i, z.to⟩) w1 ?_
     show netN d (g i) z.to ∈ Am.vts d m
     have hn2 : netN d (g i) z.to ∉ Am.prs d m := fun h2 => hn ((I.prs_iff hl hm hs (p := ⟨i, z.to⟩) w1).1 h2)
     rw [g1] at hn2 ⊢
     refine List.contains_iff_mem.1 (Jpo hm ⟨j, netN d j z.to, z.fr.map (netN d j), false⟩ (Jiv.2 ⟨.inr ⟨j, z, g2, by rw [g4]; exact hz, rfl⟩, hn2⟩) ?_)
     unfold Jcr at hf ⊢
     simp only [List.any_map, Bool.false_eq_true, if_false] at hf ⊢
     rw [List.any_eq_true] at hf ⊢
     obtain ⟨s, hs1, hs2⟩ := hf
     refine ⟨s, hs1, ?_⟩
     have := hS2 (q := ⟨i, s⟩) (w2 s hs1) hs2
     simp only [g1] at this
     exact List.contains_iff_mem.2 this
 have := Jrn (N := (Am.nets c).length) hcl _ h
 exact hS2 hp this
theorem Iso.vts_iff (I : Iso c d g) {l m : List Int} (hl : Jam c l = 0) (hm : Jam d m = 0) (hs : Je9 c g l m) {p : Port} (hp : p ∈ allP c) : netN d (g p.part) p.name ∈ Am.vts d m ↔ netN c p.part p.name ∈ Am.vts c l := by
 constructor
 . intro h
   obtain ⟨k, J, hk, _⟩ := I.symm
   have := J.vts hm hl (hs.back I hk) (p := mvI g p) (I.mem p hp) h
   have e : k (mvI g p).part = p.part := hk p hp
   rw [e] at this
   exact this
 . exact I.vts hl hm hs hp
theorem Iso.state (I : Iso c d g) {l m : List Int} (hl : Jam c l = 0) (hm : Jam d m = 0) (hs : Je9 c g l m) {p : Port} (hp : p ∈ allP c) : Jet d m (netN d (g p.part) p.name) = Jet c l (netN c p.part p.name) := by
 unfold Jet
 have h1 : (Am.prs d m).contains (netN d (g p.part) p.name) = (Am.prs c l).contains (netN c p.part p.name) := by
   rw [Bool.eq_iff_iff, List.contains_iff_mem, List.contains_iff_mem]; exact I.prs_iff hl hm hs hp
 have h2 : (Am.vts d m).contains (netN d (g p.part) p.name) = (Am.vts c l).contains (netN c p.part p.name) := by
   rw [Bool.eq_iff_iff, List.contains_iff_mem, List.contains_iff_mem]; exact I.vts_iff hl hm hs hp
 rw [h1, h2]
end
end Go.Am
