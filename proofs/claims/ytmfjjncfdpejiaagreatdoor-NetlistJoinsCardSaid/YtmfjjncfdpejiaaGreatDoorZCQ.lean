/- Lemmas and contracts for the proof of a statement of this seat. -/
import Derived.Test.YtmfjjncfdpejiaaGreatDoorZCA
import Derived.Test.YtmfjjncfdpejiaaGreatDoorZC7
import Derived.Test.YtmfjjncfdpejiaaGreatDoorZA5
import Derived.Test.YtmfjjncfdpejiaaGreatDoorZCP
set_option linter.unusedVariables false
set_option linter.unusedSimpArgs false
namespace Go.Am
open Go Go.Proofs Go.Pn
def Jix (c : Circuit) (p : Port) : Int := Jdj (Jb3 c p.part).toNat p.name
def Jk4 (c : Circuit) (p : Port) : Prop := 0 <= p.part /\ p.part.toNat < c.parts.length
theorem Jp2 {c : Circuit} {p : Port} (h : Jk4 c p) : ∃ (i : Nat) (q : Part), p.part = i /\ i < c.parts.length /\ c.parts[i]? = some q /\ Jb3 c p.part = q.kind := by
 obtain ⟨q, e⟩ := Jag h.2
 exact ⟨p.part.toNat, q, by have := h.1; omega, h.2, e, by rw [Jb3, e]; rfl⟩
theorem J2e (c : Circuit) (p : Port) (hk : Je5 c) (hp : Jk4 c p) : Pure Tryz.prog GL 175 [c.av, p.av] (.p (.int .i64 (Jix c p))) := by
 refine Pure.of_walk (N := 15) Tryz.func175 rfl rfl rfl (by simp) (by first | (simp; done) | simp [*]) ?_
 obtain ⟨i, q, h1, h2, e, h3⟩ := Jp2 hp
 obtain ⟨pi, pn⟩ := p
 simp only at h1 h3
 subst h1
 have hq := hk q (List.mem_of_getElem? e)
 have hkc : ((q.kind.toNat : Nat) : Int) = q.kind := by omega
 have hpl := Jon q.kind.toNat pn (by omega)
 rw [hkc] at hpl
 simp
 refine Jah.intro (by kernel_rfl) ?_
 simp [e, h2, Part.enc, -getElem?_pos, List.getElem?_cons_zero, List.getElem?_cons_succ]
 refine Jab hpl ?_
 simp
 refine ⟨.of (by kernel_rfl), ?_⟩
 simp [Jaa, Jix, h3]
end Go.Am
namespace Go.Am
open Go Go.Proofs Go.Pn
structure Fnd where
 kind : Int
 at_ : Port
 deriving DecidableEq
@[simp] def Fnd.enc (f : Fnd) : List PV := [.int .i64 f.kind, .int .i64 f.at_.part, .str f.at_.name]
@[simp] def Fnd.row (f : Fnd) : List AV := [.p (.int .i64 f.kind), .p (.int .i64 f.at_.part), .p (.str f.at_.name)]
@[simp] def Fnd.av (f : Fnd) : AV := .agg [.p (.int .i64 f.kind), .p (.int .i64 f.at_.part), .p (.str f.at_.name)]
end Go.Am
namespace Go.Am
open Go Go.Proofs Go.Pn
def nameAt (c : Circuit) (i : Int) : Txt := match c.parts[i.toNat]? with | some q => q.name | none => []
theorem J2d (c : Circuit) (p : Port) (h : Jac c = 0) : Pure Tryz.prog GL 96 [c.av, p.av] (.p (.int .i64 (Ja5 c p))) := by
 refine Pure.of_walk (N := 20) Tryz.func96 rfl rfl rfl (by simp) (by first | (simp; done) | simp [*]) ?_
 have h2 := Jb1 h
 simp
 by_cases hr : p.part < 0 \/ (c.parts.length : Int) <= p.part
 . have hre : Jbg c p = 2 := if_pos hr
   have hg : Ja5 c p = 2 := by simp [Ja5, hre]
   rw [hg]
   by_cases h1 : p.part < 0
   . simp [h1, Jaa]
   . have h3 : (c.parts.length : Int) <= p.part := by omega
     simp [h1, h3, Jaa]
 . have hre : Jbg c p = 0 := if_neg hr
   have h1 : ¬ p.part < 0 := by omega
   have h3 : ¬ (c.parts.length : Int) <= p.part := by omega
   have hpo : Jk4 c p := ⟨by omega, by omega⟩
   obtain ⟨i, q, e1, e2, e3, e4⟩ := Jp2 hpo
   have hq := h2.1 q (List.mem_of_getElem? e3)
   have hpl := Jm0 (k := q.kind.toNat) (s := p.name) (by omega)
   have hro : Jix c p = Jdj q.kind.toNat p.name := by rw [Jix, e4]
   have hg : Ja5 c p = if Jix c p < 0 then 6 else 0 := by
     have e5 : p.part.toNat = i := by omega
     rw [Ja5, hre, if_neg (by simp), Jbq, e5, e3, hro]
     simp only
     by_cases hm : p.name ∈ Jbb q
     . have : ¬ Jdj q.kind.toNat p.name < 0 := fun hh => (hpl.1 hh) hm
       rw [if_pos hm, if_neg this]
     . rw [if_neg hm, if_pos (hpl.2 hm)]
   rw [hg]
   simp [h1, h3]
   refine Jab (J2e c p h2.1 hpo) ?_
   simp
   by_cases hn : Jix c p < 0 <;> simp [hn, Jaa]
end Go.Am
namespace Go.Am
open Go Go.Proofs Go.Pn
end Go.Am
namespace Go.Am
open Go Go.Proofs Go.Pn
end Go.Am
namespace Go.Am
open Go Go.Proofs Go.Pn
end Go.Am
namespace Go.Am
open Go Go.Proofs Go.Pn
end Go.Am
namespace Go.Am
open Go Go.Proofs Go.Pn
end Go.Am
namespace Go.Am
open Go Go.Proofs Go.Pn
@[simp] theorem Kjp : Jd8 Tryz.prog 4 = some false := by kernel_rfl
end Go.Am
namespace Go.Am
open Go Go.Proofs Go.Pn
def nmQ (x : AV) : Nat := match x with
 | .ref b .. => b
 | _ => 2
@[simp] theorem Kcl {b k i n : Nat} {c : Option Nat} : nmQ (.ref b k i n c) = b := rfl
@[simp] theorem Kck {x : PV} : nmQ (.p x) = 2 := rfl
end Go.Am
namespace Go.Am
open Go Go.Proofs Go.Pn
end Go.Am
namespace Go.Am
open Go Go.Proofs Go.Pn
end Go.Am
namespace Go.Am
open Go Go.Proofs Go.Pn
end Go.Am
namespace Go.Am
open Go Go.Proofs Go.Pn
end Go.Am
