/- Lemmas and contracts for the proof of a statement of this seat. -/
import Derived.Test.YtmfjjncfdpejiaaGreatDoorZCA
import Derived.Test.YtmfjjncfdpejiaaGreatDoorZC7
import Derived.Test.YtmfjjncfdpejiaaGreatDoorZA5
import Derived.Test.YtmfjjncfdpejiaaGreatDoorZCP
set_option linter.unusedVariables false
set_option linter.unusedSimpArgs false
namespace Go.Am
open Go Go.Proofs Go.Pn
def Jpx (c : Circuit) (p : Port) : Prop := 0 <= p.part /\ p.part.toNat < c.parts.length
theorem J4t {c : Circuit} {p : Port} (h : Jpx c p) : ∃ (i : Nat) (q : Part), p.part = i /\ i < c.parts.length /\ c.parts[i]? = some q /\ Jc6 c p.part = q.kind := by
 obtain ⟨q, e⟩ := Jah h.2
 exact ⟨p.part.toNat, q, by have := h.1; omega, h.2, e, by rw [Jc6, e]; rfl⟩
end Go.Am
namespace Go.Am
open Go Go.Proofs Go.Pn
structure Fnd where
 kind : Int
 at_ : Port
 deriving DecidableEq
@[simp] def Fnd.enc (f : Fnd) : List PV := [.int .i64 f.kind, .int .i64 f.at_.part, .str f.at_.name]
@[simp] def Fnd.row (f : Fnd) : List AV := [.p (.int .i64 f.kind), .p (.int .i64 f.at_.part), .p (.str f.at_.name)]
@[simp] def Fnd.av (f : Fnd) : AV := .agg [.p (.int .i64 f.kind), .p (.int .i64 f.at_.part), .p (.str f.at_.name)]
end Go.Am
namespace Go.Am
open Go Go.Proofs Go.Pn
def nameAt (c : Circuit) (i : Int) : Txt := match c.parts[i.toNat]? with | some q => q.name | none => []
end Go.Am
namespace Go.Am
open Go Go.Proofs Go.Pn
end Go.Am
namespace Go.Am
open Go Go.Proofs Go.Pn
end Go.Am
namespace Go.Am
open Go Go.Proofs Go.Pn
end Go.Am
namespace Go.Am
open Go Go.Proofs Go.Pn
end Go.Am
namespace Go.Am
open Go Go.Proofs Go.Pn
end Go.Am
namespace Go.Am
open Go Go.Proofs Go.Pn
@[simp] theorem Kg3 : Jd3 Tryz.prog 4 = some false := by kernel_rfl
end Go.Am
namespace Go.Am
open Go Go.Proofs Go.Pn
def nmQ (x : AV) : Nat := match x with
 | .ref b .. => b
 | _ => 2
@[simp] theorem J9f {b k i n : Nat} {c : Option Nat} : nmQ (.ref b k i n c) = b := rfl
@[simp] theorem J9e {x : PV} : nmQ (.p x) = 2 := rfl
end Go.Am
namespace Go.Am
open Go Go.Proofs Go.Pn
end Go.Am
namespace Go.Am
open Go Go.Proofs Go.Pn
end Go.Am
namespace Go.Am
open Go Go.Proofs Go.Pn
end Go.Am
namespace Go.Am
open Go Go.Proofs Go.Pn
end Go.Am
