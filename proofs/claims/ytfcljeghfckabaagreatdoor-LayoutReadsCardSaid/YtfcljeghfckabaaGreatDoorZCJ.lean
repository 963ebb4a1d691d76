/- Lemmas and contracts for the proof of a statement of this seat. -/
import Derived.Test.YtfcljeghfckabaaGreatDoorZCI
set_option linter.unusedVariables false
set_option linter.unusedSimpArgs false
/- Contracts: slices.Compact, slices.Clone at int. -/
namespace Go.Am
open Go Go.Proofs Go.Pn


end Go.Am
/- Contracts: package pressure: Rest. -/
namespace Go.Am
open Go Go.Proofs Go.Pn


theorem Gives.res {P : Program} {G : Globs} {f : Nat} {args : List AV} {s : Store} {nx : Nat} {v v1 : AV} {rd : List Nat} {up : Store} {nx' : Nat} (h : Gives P G f args s nx v rd up nx') (hv : ∀ φ own w u, VR φ own w v u → VR φ own w v1 u) : Gives P G f args s nx v1 rd up nx' :=
  ⟨h.le, fun F φ s1 w vs hag hs hf hl hx => (h.calls F φ s1 w vs hag hs hf hl hx).mono fun _ _ hp => post_congr hp (fun _ => rfl) (Nat.le_refl _) fun _ _ => hv _ _ _ _⟩
end Go.Am
