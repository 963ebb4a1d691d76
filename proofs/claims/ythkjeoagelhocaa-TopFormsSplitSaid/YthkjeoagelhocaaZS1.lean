/- Type facts of the seat's program, printed by gentypes.py. -/
import Derived.Test.YthkjeoagelhocaaProg
import Derived.Test.YthkjeoagelhocaaZA4
set_option linter.unusedVariables false
set_option linter.unusedSimpArgs false
namespace Go.Am
open Go
theorem ty3 : tyOf Go.Proofs.Try.prog 3 = some ⟨false, 1, 8, [.p (.int .i64 0)], .int .i64⟩ := by kernel_rfl
@[simp] theorem xt3 {f : Cont (TyI → Prop)} : @xTy Go.Proofs.Try.prog 3 f = f.k ⟨false, 1, 8, [.p (.int .i64 0)], .int .i64⟩ := by unfold xTy withTy; rw [ty3]
theorem ty4 : tyOf Go.Proofs.Try.prog 4 = some ⟨false, 1, 1, [.p (.bool false)], .bool⟩ := by kernel_rfl
@[simp] theorem xt4 {f : Cont (TyI → Prop)} : @xTy Go.Proofs.Try.prog 4 f = f.k ⟨false, 1, 1, [.p (.bool false)], .bool⟩ := by unfold xTy withTy; rw [ty4]
theorem ty5 : tyOf Go.Proofs.Try.prog 5 = some ⟨false, 1, 1, [.p (.int .u8 0)], .int .u8⟩ := by kernel_rfl
@[simp] theorem xt5 {f : Cont (TyI → Prop)} : @xTy Go.Proofs.Try.prog 5 f = f.k ⟨false, 1, 1, [.p (.int .u8 0)], .int .u8⟩ := by unfold xTy withTy; rw [ty5]
theorem ty22 : tyOf Go.Proofs.Try.prog 22 = some ⟨false, 1, 8, [.p (.int .u64 0)], .int .u64⟩ := by kernel_rfl
@[simp] theorem xt22 {f : Cont (TyI → Prop)} : @xTy Go.Proofs.Try.prog 22 f = f.k ⟨false, 1, 8, [.p (.int .u64 0)], .int .u64⟩ := by unfold xTy withTy; rw [ty22]
theorem ty24 : tyOf Go.Proofs.Try.prog 24 = some ⟨true, 2, 16, [.p (.int .i64 0), .p (.int .u64 0)], .struct [(0, 1, false), (1, 1, false)]⟩ := by kernel_rfl
@[simp] theorem xt24 {f : Cont (TyI → Prop)} : @xTy Go.Proofs.Try.prog 24 f = f.k ⟨true, 2, 16, [.p (.int .i64 0), .p (.int .u64 0)], .struct [(0, 1, false), (1, 1, false)]⟩ := by unfold xTy withTy; rw [ty24]
theorem ty26 : tyOf Go.Proofs.Try.prog 26 = some ⟨false, 1, 24, [.nils], .slice 46⟩ := by kernel_rfl
@[simp] theorem xt26 {f : Cont (TyI → Prop)} : @xTy Go.Proofs.Try.prog 26 f = f.k ⟨false, 1, 24, [.nils], .slice 46⟩ := by unfold xTy withTy; rw [ty26]
theorem ty38 : tyOf Go.Proofs.Try.prog 38 = some ⟨true, 4, 32, [.p (.int .i64 0), .p (.int .u64 0), .p (.int .i64 0), .p (.int .u64 0)], .struct [(0, 2, true), (2, 2, true)]⟩ := by kernel_rfl
@[simp] theorem xt38 {f : Cont (TyI → Prop)} : @xTy Go.Proofs.Try.prog 38 f = f.k ⟨true, 4, 32, [.p (.int .i64 0), .p (.int .u64 0), .p (.int .i64 0), .p (.int .u64 0)], .struct [(0, 2, true), (2, 2, true)]⟩ := by unfold xTy withTy; rw [ty38]
theorem ty42 : tyOf Go.Proofs.Try.prog 42 = some ⟨true, 4, 32, [.p (.int .i64 0), .p (.int .u64 0), .p (.int .i64 0), .p (.int .u64 0)], .struct [(0, 2, true), (2, 2, true)]⟩ := by kernel_rfl
@[simp] theorem xt42 {f : Cont (TyI → Prop)} : @xTy Go.Proofs.Try.prog 42 f = f.k ⟨true, 4, 32, [.p (.int .i64 0), .p (.int .u64 0), .p (.int .i64 0), .p (.int .u64 0)], .struct [(0, 2, true), (2, 2, true)]⟩ := by unfold xTy withTy; rw [ty42]
theorem ty44 : tyOf Go.Proofs.Try.prog 44 = some ⟨false, 1, 8, [.p (.int .u64 0)], .int .u64⟩ := by kernel_rfl
@[simp] theorem xt44 {f : Cont (TyI → Prop)} : @xTy Go.Proofs.Try.prog 44 f = f.k ⟨false, 1, 8, [.p (.int .u64 0)], .int .u64⟩ := by unfold xTy withTy; rw [ty44]
theorem ty46 : tyOf Go.Proofs.Try.prog 46 = some ⟨true, 2, 16, [.p (.int .u64 0), .p (.int .u64 0)], .struct [(0, 1, false), (1, 1, false)]⟩ := by kernel_rfl
@[simp] theorem xt46 {f : Cont (TyI → Prop)} : @xTy Go.Proofs.Try.prog 46 f = f.k ⟨true, 2, 16, [.p (.int .u64 0), .p (.int .u64 0)], .struct [(0, 1, false), (1, 1, false)]⟩ := by unfold xTy withTy; rw [ty46]
theorem ty51 : tyOf Go.Proofs.Try.prog 51 = some ⟨false, 1, 8, [.p .nilf], .other⟩ := by kernel_rfl
@[simp] theorem xt51 {f : Cont (TyI → Prop)} : @xTy Go.Proofs.Try.prog 51 f = f.k ⟨false, 1, 8, [.p .nilf], .other⟩ := by unfold xTy withTy; rw [ty51]
theorem ty52 : tyOf Go.Proofs.Try.prog 52 = some ⟨false, 1, 8, [.nilp], .other⟩ := by kernel_rfl
@[simp] theorem xt52 {f : Cont (TyI → Prop)} : @xTy Go.Proofs.Try.prog 52 f = f.k ⟨false, 1, 8, [.nilp], .other⟩ := by unfold xTy withTy; rw [ty52]
theorem ty56 : tyOf Go.Proofs.Try.prog 56 = some ⟨false, 1, 24, [.nils], .slice 3⟩ := by kernel_rfl
@[simp] theorem xt56 {f : Cont (TyI → Prop)} : @xTy Go.Proofs.Try.prog 56 f = f.k ⟨false, 1, 24, [.nils], .slice 3⟩ := by unfold xTy withTy; rw [ty56]
theorem ty65 : tyOf Go.Proofs.Try.prog 65 = some ⟨true, 5, 56, [.p (.int .i64 0), .p (.int .u64 0), .p (.int .i64 0), .p (.int .u64 0), .nils], .struct [(0, 4, true), (4, 1, false)]⟩ := by kernel_rfl
@[simp] theorem xt65 {f : Cont (TyI → Prop)} : @xTy Go.Proofs.Try.prog 65 f = f.k ⟨true, 5, 56, [.p (.int .i64 0), .p (.int .u64 0), .p (.int .i64 0), .p (.int .u64 0), .nils], .struct [(0, 4, true), (4, 1, false)]⟩ := by unfold xTy withTy; rw [ty65]
theorem ty73 : tyOf Go.Proofs.Try.prog 73 = some ⟨false, 1, 8, [.p .nilf], .other⟩ := by kernel_rfl
@[simp] theorem xt73 {f : Cont (TyI → Prop)} : @xTy Go.Proofs.Try.prog 73 f = f.k ⟨false, 1, 8, [.p .nilf], .other⟩ := by unfold xTy withTy; rw [ty73]
theorem ty75 : tyOf Go.Proofs.Try.prog 75 = some ⟨false, 1, 8, [.p .nilf], .other⟩ := by kernel_rfl
@[simp] theorem xt75 {f : Cont (TyI → Prop)} : @xTy Go.Proofs.Try.prog 75 f = f.k ⟨false, 1, 8, [.p .nilf], .other⟩ := by unfold xTy withTy; rw [ty75]
theorem ty77 : tyOf Go.Proofs.Try.prog 77 = some ⟨true, 64, 512, [.p (.int .i64 0), .p (.int .i64 0), .p (.int .i64 0), .p (.int .i64 0), .p (.int .i64 0), .p (.int .i64 0), .p (.int .i64 0), .p (.int .i64 0), .p (.int .i64 0), .p (.int .i64 0), .p (.int .i64 0), .p (.int .i64 0), .p (.int .i64 0), .p (.int .i64 0), .p (.int .i64 0), .p (.int .i64 0), .p (.int .i64 0), .p (.int .i64 0), .p (.int .i64 0), .p (.int .i64 0), .p (.int .i64 0), .p (.int .i64 0), .p (.int .i64 0), .p (.int .i64 0), .p (.int .i64 0), .p (.int .i64 0), .p (.int .i64 0), .p (.int .i64 0), .p (.int .i64 0), .p (.int .i64 0), .p (.int .i64 0), .p (.int .i64 0), .p (.int .i64 0), .p (.int .i64 0), .p (.int .i64 0), .p (.int .i64 0), .p (.int .i64 0), .p (.int .i64 0), .p (.int .i64 0), .p (.int .i64 0), .p (.int .i64 0), .p (.int .i64 0), .p (.int .i64 0), .p (.int .i64 0), .p (.int .i64 0), .p (.int .i64 0), .p (.int .i64 0), .p (.int .i64 0), .p (.int .i64 0), .p (.int .i64 0), .p (.int .i64 0), .p (.int .i64 0), .p (.int .i64 0), .p (.int .i64 0), .p (.int .i64 0), .p (.int .i64 0), .p (.int .i64 0), .p (.int .i64 0), .p (.int .i64 0), .p (.int .i64 0), .p (.int .i64 0), .p (.int .i64 0), .p (.int .i64 0), .p (.int .i64 0)], .array 64 3⟩ := by kernel_rfl
@[simp] theorem xt77 {f : Cont (TyI → Prop)} : @xTy Go.Proofs.Try.prog 77 f = f.k ⟨true, 64, 512, [.p (.int .i64 0), .p (.int .i64 0), .p (.int .i64 0), .p (.int .i64 0), .p (.int .i64 0), .p (.int .i64 0), .p (.int .i64 0), .p (.int .i64 0), .p (.int .i64 0), .p (.int .i64 0), .p (.int .i64 0), .p (.int .i64 0), .p (.int .i64 0), .p (.int .i64 0), .p (.int .i64 0), .p (.int .i64 0), .p (.int .i64 0), .p (.int .i64 0), .p (.int .i64 0), .p (.int .i64 0), .p (.int .i64 0), .p (.int .i64 0), .p (.int .i64 0), .p (.int .i64 0), .p (.int .i64 0), .p (.int .i64 0), .p (.int .i64 0), .p (.int .i64 0), .p (.int .i64 0), .p (.int .i64 0), .p (.int .i64 0), .p (.int .i64 0), .p (.int .i64 0), .p (.int .i64 0), .p (.int .i64 0), .p (.int .i64 0), .p (.int .i64 0), .p (.int .i64 0), .p (.int .i64 0), .p (.int .i64 0), .p (.int .i64 0), .p (.int .i64 0), .p (.int .i64 0), .p (.int .i64 0), .p (.int .i64 0), .p (.int .i64 0), .p (.int .i64 0), .p (.int .i64 0), .p (.int .i64 0), .p (.int .i64 0), .p (.int .i64 0), .p (.int .i64 0), .p (.int .i64 0), .p (.int .i64 0), .p (.int .i64 0), .p (.int .i64 0), .p (.int .i64 0), .p (.int .i64 0), .p (.int .i64 0), .p (.int .i64 0), .p (.int .i64 0), .p (.int .i64 0), .p (.int .i64 0), .p (.int .i64 0)], .array 64 3⟩ := by unfold xTy withTy; rw [ty77]
theorem ty83 : tyOf Go.Proofs.Try.prog 83 = some ⟨true, 4, 32, [.p (.int .i64 0), .p (.int .u64 0), .p (.int .i64 0), .p (.int .u64 0)], .array 2 24⟩ := by kernel_rfl
@[simp] theorem xt83 {f : Cont (TyI → Prop)} : @xTy Go.Proofs.Try.prog 83 f = f.k ⟨true, 4, 32, [.p (.int .i64 0), .p (.int .u64 0), .p (.int .i64 0), .p (.int .u64 0)], .array 2 24⟩ := by unfold xTy withTy; rw [ty83]
theorem eq46 {a0 b0 : Int} {a1 b1 : Int} : eqA Go.Proofs.Try.prog 8 46 (.agg [.p (.int .u64 a0), .p (.int .u64 a1)]) (.agg [.p (.int .u64 b0), .p (.int .u64 b1)]) = some (decide (a0 = b0) && (decide (a1 = b1) && true)) := by kernel_rfl
@[simp] theorem xeq46 {a0 b0 : Int} {a1 b1 : Int} {f : Cont (Bool → Prop)} : @xEq Go.Proofs.Try.prog 46 [.p (.int .u64 a0), .p (.int .u64 a1)] [.p (.int .u64 b0), .p (.int .u64 b1)] f = f.k (decide (a0 = b0 ∧ a1 = b1)) := by
  have h1 : Go.Proofs.Try.prog.eqGuardType Go.Proofs.Try.prog.depth 46 = false := by kernel_rfl
  have h2 : (decide (a0 = b0) && (decide (a1 = b1) && true)) = decide (a0 = b0 ∧ a1 = b1) := by simp [Bool.decide_and, Bool.and_assoc, Bool.beq_eq_decide_eq]
  simp only [xEq, VEq, eq46, h1, h2, withSome_some, true_and]
end Go.Am
