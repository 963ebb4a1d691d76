/- Lemmas and contracts for the proof of a statement of this seat. -/
import Derived.Test.YtebnpnkcoibooaaGreatDoorZC5
import Derived.Test.YtebnpnkcoibooaaGreatDoorZA6
set_option linter.unusedVariables false
set_option linter.unusedSimpArgs false
/- Contracts: package circuit: Limits. -/
namespace Go.Am
open Go Go.Proofs Go.Pn

end Go.Am
/- Contracts: package circuit: moved. -/
namespace Go.Am
open Go Go.Proofs Go.Pn

end Go.Am
/- Contracts: package circuit: the functions that Add, Remove and Net hand over. -/
namespace Go.Am
open Go Go.Proofs Go.Pn

theorem c_circuit_Net_1 (p : Port) (l : List Port) (hl : l.length < 4611686018427387904) : Pure Go.Proofs.Tryz.prog GL 121 [.p (.lst 2 (l.map Port.enc)), .iptr 2 [[.int .i64 p.part, .str p.name]] 0 0] (.p (.bool (decide (p ∈ l)))) := by
  refine Pure.of_walk (N := 7) Go.Proofs.Tryz.func121 rfl rfl rfl (by simp) (by first | (simp; done) | simp [*]) ?_
  simp
  refine xcall_pure (c_Con_Port l p hl) ?_
  simp [XEndT]

end Go.Am
/- Contracts: slices.BinarySearchFunc. -/
namespace Go.Am
open Go Go.Proofs Go.Pn


end Go.Am
/- Contracts: slices.BinarySearchFunc over pipes. -/
namespace Go.Am
open Go Go.Proofs Go.Pn


end Go.Am
/- Contracts: slices.Clone. -/
namespace Go.Am
open Go Go.Proofs Go.Pn


theorem renS_acc {ρ : List Nat} {b b' k : Nat} {rows : List (List AV)} (hb : ρ[b]? = some b') (h : renR ρ rows = some rows) : renS ρ [(b, accB k rows)] = some [(b', accB k rows)] := by
  unfold accB
  by_cases e : rows = []
  · simp [renS, e, hb]
  · simp [renS, e, hb, renB, h]


theorem g_ClonePipe (l : List Pipe) (s : Store) (nx : Nat) (hn : l.length < 1000000) :
    Gives Go.Proofs.Tryz.prog GL 61 [.p (.lst 4 (l.map Pipe.enc))] s nx (.acc nx 4 l.length) [] [(nx, accB 4 (l.map Pipe.row))] (nx + 1) := by
  refine Gives.mk_walkK (N := 8) (args := [.p (.lst 4 (l.map Pipe.enc))]) [] [] [] [(0, accB 4 (l.map Pipe.row))] 0 1 (.acc 0 4 l.length) (nms [2]) (up1 := [(nx, accB 4 (l.map Pipe.row))]) Go.Proofs.Tryz.func61 rfl rfl rfl (by simp) rfl (by simp) (by simp) (by simp) (renS_acc rfl (renR_map fun _ => rfl)) (by simp) rfl ?_
  simp
  refine xdec_split (fun h => ?_) (fun h => ?_)
  · subst h
    simp
  · have h0 : 0 < l.length := List.length_pos_iff.2 h
    have hrow : (fun x => List.map AV.p x) ∘ Pipe.enc = Pipe.row := rfl
    simp [h, h0, hrow, accB, Nat.pos_iff_ne_zero]
    omega

end Go.Am
/- Contracts: slices.Insert of one part. -/
namespace Go.Am
open Go Go.Proofs Go.Pn


end Go.Am
/- Contracts: slices.Insert of one pipe. -/
namespace Go.Am
open Go Go.Proofs Go.Pn


end Go.Am
/- Contracts: slices.Delete of one part; slices.DeleteFunc over pipes. -/
namespace Go.Am
open Go Go.Proofs Go.Pn


end Go.Am
/- Contracts: package circuit: Add. -/
namespace Go.Am
open Go Go.Proofs Go.Pn


end Go.Am
/- Contracts: package circuit: Remove. -/
namespace Go.Am
open Go Go.Proofs Go.Pn


end Go.Am
