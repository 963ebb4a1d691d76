/- Lemmas and contracts for the proof of a statement of this seat. -/
import Derived.Test.YtmfjjncfdpejiaaGreatDoorZCF
import Derived.Test.YtmfjjncfdpejiaaGreatDoorZC7
set_option linter.unusedVariables false
set_option linter.unusedSimpArgs false
namespace Go.Am
open Go Go.Proofs Go.Pn
def Jdu (c : Circuit) (p : Port) : Int := Jfo (Jal c p.part).toNat p.name
def Jfg (c : Circuit) (p : Port) : Bool := decide (Jdu c p = 1)
def Jl3 (c : Circuit) (p : Port) : Bool := decide (Jdu c p = 0) || (decide (Jdu c p = 3) || decide (Jdu c p = 4))
def Kf3 (c : Circuit) (give : Bool) (p : Port) : Bool := if give then Jfg c p else Jl3 c p
def Jfm (c : Circuit) (l : List Port) (give : Bool) : List Port := l.filter (Kf3 c give)
def Jpx (c : Circuit) (p : Port) : Prop := 0 <= p.part /\ p.part.toNat < c.parts.length
theorem Kef {c : Circuit} {p : Port} (h : Jpx c p) : ∃ (i : Nat) (q : Part), p.part = i /\ i < c.parts.length /\ c.parts[i]? = some q /\ Jal c p.part = q.kind := by
 obtain ⟨q, e⟩ := Jae h.2
 exact ⟨p.part.toNat, q, by have := h.1; omega, h.2, e, by rw [Jal, e]; rfl⟩
theorem Jz5 {c : Circuit} {p : Port} (h : p ∈ allP c) : Jpx c p := by
 obtain ⟨q, h1, h2, _⟩ := Jey.1 (Jdl.1 h)
 exact ⟨h2, (gsI.1 h1).1⟩
theorem Kee {c : Circuit} {p : Port} : ∀ q ∈ around c p, Jpx c q := fun _ hq => Jz5 (List.mem_filter.1 hq).1
end Go.Am
namespace Go.Am
open Go Go.Proofs Go.Pn
structure Fnd where
 kind : Int
 at_ : Port
 deriving DecidableEq
@[simp] def Fnd.enc (f : Fnd) : List PV := [.int .i64 f.kind, .int .i64 f.at_.part, .str f.at_.name]
@[simp] def Fnd.row (f : Fnd) : List AV := [.p (.int .i64 f.kind), .p (.int .i64 f.at_.part), .p (.str f.at_.name)]
@[simp] def Fnd.av (f : Fnd) : AV := .agg [.p (.int .i64 f.kind), .p (.int .i64 f.at_.part), .p (.str f.at_.name)]
end Go.Am
namespace Go.Am
open Go Go.Proofs Go.Pn
def nameAt (c : Circuit) (i : Int) : Txt := match c.parts[i.toNat]? with | some q => q.name | none => []
def Jfq (c : Circuit) (p : Port) : Int := if Jad c ≠ 0 then Jad c else Jbh c p
def Jo6 (c : Circuit) (p : Port) (give : Bool) : List Port := if Jfq c p ≠ 0 then [] else Jfm c (around c p) give
end Go.Am
namespace Go.Am
open Go Go.Proofs Go.Pn
theorem Jsr {c : Circuit} (hk : Jdq c) {p : Port} (hp : p ∈ allP c) : ∃ (i : Nat) (q : Part), p.part = i /\ i < c.parts.length /\ c.parts[i]? = some q /\ Jal c p.part = q.kind /\ (0 <= q.kind /\ q.kind < 14) /\ p.name ∈ Jaq q.kind.toNat /\ Jdt q.kind.toNat p.name = Jdu c p /\ 0 <= Jdu c p := by
 obtain ⟨i, q, e1, e2, e3, e4⟩ := Kef (Jz5 hp)
 obtain ⟨q', g1, g2, g3⟩ := Jey.1 (Jdl.1 hp)
 have e5 : p.part.toNat = i := by omega
 rw [e5, e3] at g1; cases g1
 have hq := hk q (List.mem_of_getElem? e3)
 have hv := (J2g (k := q.kind.toNat) (by omega) true).2 p.name g3
 have hr : Jdu c p = Jfo q.kind.toNat p.name := by rw [Jdu, e4]
 have hpl := J0k (k := q.kind.toNat) (s := p.name) (by omega)
 refine ⟨i, q, e1, e2, e3, e4, hq, g3, by rw [hr, hv.2], ?_⟩
 rw [hr]
 by_cases h : Jfo q.kind.toNat p.name < 0
 . exact absurd g3 (hpl.1 h)
 . omega
theorem J4s (c : Circuit) (p : Port) (hk : Jdq c) (hp : p ∈ allP c) : Pure Tryz.prog GL 214 [c.av, p.av] (.p (.int .i64 (Jdu c p))) := by
 refine Pure.of_walk (N := 21) Tryz.func214 rfl rfl rfl (by simp) (by first | (simp; done) | simp [*]) ?_
 obtain ⟨i, q, e1, e2, e3, e4, e5, e6, e7, e8⟩ := Jsr hk hp
 obtain ⟨pi, pn⟩ := p
 simp only at e1 e4 e6 e7
 subst e1
 have hro := Jqe q.kind pn e5
 rw [e7, if_neg (by omega), if_neg (by omega)] at hro
 generalize Jdu c ⟨(i : Int), pn⟩ = r at *
 simp
 refine Jaj.intro (by kernel_rfl) ?_
 simp [e2, e3, Part.enc, -getElem?_pos, List.getElem?_cons_zero, List.getElem?_cons_succ]
 refine Jab hro ?_
 simp
 refine ⟨.of (by kernel_rfl), ?_⟩
 simp [Jaa]
theorem J4u (c : Circuit) (p : Port) (hk : Jdq c) (hp : p ∈ allP c) : Pure Tryz.prog GL 217 [c.av, p.av] (.p (.bool (Jl3 c p))) := by
 refine Pure.of_walk (N := 12) Tryz.func217 rfl rfl rfl (by simp) (by first | (simp; done) | simp [*]) ?_
 simp
 refine Jab (J4s c p hk hp) ?_
 have ht : Jl3 c p = (decide (Jdu c p = 0) || (decide (Jdu c p = 3) || decide (Jdu c p = 4))) := rfl
 rw [ht]
 generalize Jdu c p = r
 simp
 by_cases h0 : r = 0
 . simp [h0, Jaa]
 . by_cases h3 : r = 3
   . simp [h0, h3, Jaa]
   . by_cases h4 : r = 4 <;> simp [h0, h3, h4, Jaa]
theorem J4q (c : Circuit) (l : List Port) (q : Port -> Bool) (m : Nat) (hl : l.length < 100000) (hq : ∀ p ∈ l, Pure Tryz.prog GL m [c.av, p.av] (.p (.bool (q p)))) : Pure Tryz.prog GL 139 [c.av, .p (.lst 2 (l.map Port.enc)), .fn (.func m) []] (.p (.lst 2 ((l.filter q).map Port.enc))) := by
 refine Pure.of_walk (N := 26) Tryz.func139 rfl rfl rfl (by simp) (by first | (simp; done) | simp [*]) ?_
 simp
 refine Jag.go [2, 3, 10, 11] [0] 1 [1] (nms [7]) (fun nx (k : Nat) => [(7, .acc nx 2 ((l.take k).filter q).length), (12, .p (.int .i64 k))]) (fun nx k => [(nx, accB 2 (((l.take k).filter q).map Port.row))]) (fun k => k <= l.length) (fun k => l.length - k) 0 (by omega) ?_ ?_
 . simp
 . intro k hk1
   have hb : ((l.take k).filter q).length <= k := by
     have h1 := List.length_filter_le q (l.take k)
     have h2 := List.length_take_le k l
     omega
   have hsn := @J7v _ q l k
   have hend : k = l.length -> (l.take k).filter q = l.filter q := fun e => by rw [e, List.take_length]
   generalize (l.take k).filter q = A at hb hsn hend
   simp
   refine Jac (fun h => ?_) (fun h => ?_)
   . simp at h
     obtain ⟨x, e⟩ := Jae h
     have hx := hq x (List.mem_of_getElem? e)
     have hsn2 := hsn e
     simp [h, e, -getElem?_pos, List.getElem?_cons_zero, List.getElem?_cons_succ]
     refine Jab hx ?_
     cases hb2 : q x with
     | true =>
       simp
       refine ⟨by omega, wrap_i64 (by omega) (by omega), k + 1, by omega, by omega, ?_⟩
       simp [hsn2, hb2]
     | false =>
       simp
       refine ⟨wrap_i64 (by omega) (by omega), k + 1, by omega, by omega, ?_⟩
       simp [hsn2, hb2]
   . simp at h
     have hA := hend (by omega)
     subst hA
     simp [Jaa]
end Go.Am
