/- Type facts of the seat's program, printed by gentypes.py. -/
import Derived.Test.YthkjeoagelhocaaGreatProg
import Derived.Test.YthkjeoagelhocaaGreatZA4
set_option linter.unusedVariables false
set_option linter.unusedSimpArgs false
namespace Go.Am
open Go
theorem ty3 : tyOf Go.Proofs.Tryz.prog 3 = some ⟨false, 1, 8, [.p (.int .i64 0)], .int .i64⟩ := by kernel_rfl
@[simp] theorem xt3 {f : Cont (TyI → Prop)} : @xTy Go.Proofs.Tryz.prog 3 f = f.k ⟨false, 1, 8, [.p (.int .i64 0)], .int .i64⟩ := by unfold xTy withTy; rw [ty3]
theorem ty4 : tyOf Go.Proofs.Tryz.prog 4 = some ⟨false, 1, 1, [.p (.bool false)], .bool⟩ := by kernel_rfl
@[simp] theorem xt4 {f : Cont (TyI → Prop)} : @xTy Go.Proofs.Tryz.prog 4 f = f.k ⟨false, 1, 1, [.p (.bool false)], .bool⟩ := by unfold xTy withTy; rw [ty4]
theorem ty5 : tyOf Go.Proofs.Tryz.prog 5 = some ⟨false, 1, 1, [.p (.int .u8 0)], .int .u8⟩ := by kernel_rfl
@[simp] theorem xt5 {f : Cont (TyI → Prop)} : @xTy Go.Proofs.Tryz.prog 5 f = f.k ⟨false, 1, 1, [.p (.int .u8 0)], .int .u8⟩ := by unfold xTy withTy; rw [ty5]
theorem ty9 : tyOf Go.Proofs.Tryz.prog 9 = some ⟨false, 1, 16, [.p (.str [])], .str⟩ := by kernel_rfl
@[simp] theorem xt9 {f : Cont (TyI → Prop)} : @xTy Go.Proofs.Tryz.prog 9 f = f.k ⟨false, 1, 16, [.p (.str [])], .str⟩ := by unfold xTy withTy; rw [ty9]
theorem ty25 : tyOf Go.Proofs.Tryz.prog 25 = some ⟨false, 1, 8, [.p (.int .u64 0)], .int .u64⟩ := by kernel_rfl
@[simp] theorem xt25 {f : Cont (TyI → Prop)} : @xTy Go.Proofs.Tryz.prog 25 f = f.k ⟨false, 1, 8, [.p (.int .u64 0)], .int .u64⟩ := by unfold xTy withTy; rw [ty25]
theorem ty27 : tyOf Go.Proofs.Tryz.prog 27 = some ⟨true, 2, 16, [.p (.int .i64 0), .p (.int .u64 0)], .struct [(0, 1, false), (1, 1, false)]⟩ := by kernel_rfl
@[simp] theorem xt27 {f : Cont (TyI → Prop)} : @xTy Go.Proofs.Tryz.prog 27 f = f.k ⟨true, 2, 16, [.p (.int .i64 0), .p (.int .u64 0)], .struct [(0, 1, false), (1, 1, false)]⟩ := by unfold xTy withTy; rw [ty27]
theorem ty31 : tyOf Go.Proofs.Tryz.prog 31 = some ⟨false, 1, 24, [.nils], .slice 49⟩ := by kernel_rfl
@[simp] theorem xt31 {f : Cont (TyI → Prop)} : @xTy Go.Proofs.Tryz.prog 31 f = f.k ⟨false, 1, 24, [.nils], .slice 49⟩ := by unfold xTy withTy; rw [ty31]
theorem ty35 : tyOf Go.Proofs.Tryz.prog 35 = some ⟨false, 1, 24, [.nils], .slice 3⟩ := by kernel_rfl
@[simp] theorem xt35 {f : Cont (TyI → Prop)} : @xTy Go.Proofs.Tryz.prog 35 f = f.k ⟨false, 1, 24, [.nils], .slice 3⟩ := by unfold xTy withTy; rw [ty35]
theorem ty47 : tyOf Go.Proofs.Tryz.prog 47 = some ⟨false, 1, 8, [.p (.int .u64 0)], .int .u64⟩ := by kernel_rfl
@[simp] theorem xt47 {f : Cont (TyI → Prop)} : @xTy Go.Proofs.Tryz.prog 47 f = f.k ⟨false, 1, 8, [.p (.int .u64 0)], .int .u64⟩ := by unfold xTy withTy; rw [ty47]
theorem ty49 : tyOf Go.Proofs.Tryz.prog 49 = some ⟨true, 2, 16, [.p (.int .u64 0), .p (.int .u64 0)], .struct [(0, 1, false), (1, 1, false)]⟩ := by kernel_rfl
@[simp] theorem xt49 {f : Cont (TyI → Prop)} : @xTy Go.Proofs.Tryz.prog 49 f = f.k ⟨true, 2, 16, [.p (.int .u64 0), .p (.int .u64 0)], .struct [(0, 1, false), (1, 1, false)]⟩ := by unfold xTy withTy; rw [ty49]
theorem ty55 : tyOf Go.Proofs.Tryz.prog 55 = some ⟨false, 1, 24, [.nils], .slice 88⟩ := by kernel_rfl
@[simp] theorem xt55 {f : Cont (TyI → Prop)} : @xTy Go.Proofs.Tryz.prog 55 f = f.k ⟨false, 1, 24, [.nils], .slice 88⟩ := by unfold xTy withTy; rw [ty55]
theorem ty65 : tyOf Go.Proofs.Tryz.prog 65 = some ⟨true, 4, 32, [.p (.int .i64 0), .p (.int .u64 0), .p (.int .i64 0), .p (.int .u64 0)], .struct [(0, 2, true), (2, 2, true)]⟩ := by kernel_rfl
@[simp] theorem xt65 {f : Cont (TyI → Prop)} : @xTy Go.Proofs.Tryz.prog 65 f = f.k ⟨true, 4, 32, [.p (.int .i64 0), .p (.int .u64 0), .p (.int .i64 0), .p (.int .u64 0)], .struct [(0, 2, true), (2, 2, true)]⟩ := by unfold xTy withTy; rw [ty65]
theorem ty77 : tyOf Go.Proofs.Tryz.prog 77 = some ⟨true, 4, 32, [.p (.int .i64 0), .p (.int .u64 0), .p (.int .i64 0), .p (.int .u64 0)], .struct [(0, 2, true), (2, 2, true)]⟩ := by kernel_rfl
@[simp] theorem xt77 {f : Cont (TyI → Prop)} : @xTy Go.Proofs.Tryz.prog 77 f = f.k ⟨true, 4, 32, [.p (.int .i64 0), .p (.int .u64 0), .p (.int .i64 0), .p (.int .u64 0)], .struct [(0, 2, true), (2, 2, true)]⟩ := by unfold xTy withTy; rw [ty77]
theorem ty88 : tyOf Go.Proofs.Tryz.prog 88 = some ⟨true, 2, 16, [.p (.int .i64 0), .p (.int .i64 0)], .array 2 3⟩ := by kernel_rfl
@[simp] theorem xt88 {f : Cont (TyI → Prop)} : @xTy Go.Proofs.Tryz.prog 88 f = f.k ⟨true, 2, 16, [.p (.int .i64 0), .p (.int .i64 0)], .array 2 3⟩ := by unfold xTy withTy; rw [ty88]
theorem ty92 : tyOf Go.Proofs.Tryz.prog 92 = some ⟨false, 1, 8, [.nilp], .other⟩ := by kernel_rfl
@[simp] theorem xt92 {f : Cont (TyI → Prop)} : @xTy Go.Proofs.Tryz.prog 92 f = f.k ⟨false, 1, 8, [.nilp], .other⟩ := by unfold xTy withTy; rw [ty92]
theorem ty114 : tyOf Go.Proofs.Tryz.prog 114 = some ⟨false, 1, 8, [.p .nilf], .other⟩ := by kernel_rfl
@[simp] theorem xt114 {f : Cont (TyI → Prop)} : @xTy Go.Proofs.Tryz.prog 114 f = f.k ⟨false, 1, 8, [.p .nilf], .other⟩ := by unfold xTy withTy; rw [ty114]
theorem ty130 : tyOf Go.Proofs.Tryz.prog 130 = some ⟨true, 5, 56, [.p (.int .i64 0), .p (.int .u64 0), .p (.int .i64 0), .p (.int .u64 0), .nils], .struct [(0, 4, true), (4, 1, false)]⟩ := by kernel_rfl
@[simp] theorem xt130 {f : Cont (TyI → Prop)} : @xTy Go.Proofs.Tryz.prog 130 f = f.k ⟨true, 5, 56, [.p (.int .i64 0), .p (.int .u64 0), .p (.int .i64 0), .p (.int .u64 0), .nils], .struct [(0, 4, true), (4, 1, false)]⟩ := by unfold xTy withTy; rw [ty130]
theorem ty152 : tyOf Go.Proofs.Tryz.prog 152 = some ⟨false, 1, 8, [.p .nilf], .other⟩ := by kernel_rfl
@[simp] theorem xt152 {f : Cont (TyI → Prop)} : @xTy Go.Proofs.Tryz.prog 152 f = f.k ⟨false, 1, 8, [.p .nilf], .other⟩ := by unfold xTy withTy; rw [ty152]
theorem ty153 : tyOf Go.Proofs.Tryz.prog 153 = some ⟨false, 1, 8, [.p .nilf], .other⟩ := by kernel_rfl
@[simp] theorem xt153 {f : Cont (TyI → Prop)} : @xTy Go.Proofs.Tryz.prog 153 f = f.k ⟨false, 1, 8, [.p .nilf], .other⟩ := by unfold xTy withTy; rw [ty153]
theorem ty155 : tyOf Go.Proofs.Tryz.prog 155 = some ⟨true, 64, 512, [.p (.int .i64 0), .p (.int .i64 0), .p (.int .i64 0), .p (.int .i64 0), .p (.int .i64 0), .p (.int .i64 0), .p (.int .i64 0), .p (.int .i64 0), .p (.int .i64 0), .p (.int .i64 0), .p (.int .i64 0), .p (.int .i64 0), .p (.int .i64 0), .p (.int .i64 0), .p (.int .i64 0), .p (.int .i64 0), .p (.int .i64 0), .p (.int .i64 0), .p (.int .i64 0), .p (.int .i64 0), .p (.int .i64 0), .p (.int .i64 0), .p (.int .i64 0), .p (.int .i64 0), .p (.int .i64 0), .p (.int .i64 0), .p (.int .i64 0), .p (.int .i64 0), .p (.int .i64 0), .p (.int .i64 0), .p (.int .i64 0), .p (.int .i64 0), .p (.int .i64 0), .p (.int .i64 0), .p (.int .i64 0), .p (.int .i64 0), .p (.int .i64 0), .p (.int .i64 0), .p (.int .i64 0), .p (.int .i64 0), .p (.int .i64 0), .p (.int .i64 0), .p (.int .i64 0), .p (.int .i64 0), .p (.int .i64 0), .p (.int .i64 0), .p (.int .i64 0), .p (.int .i64 0), .p (.int .i64 0), .p (.int .i64 0), .p (.int .i64 0), .p (.int .i64 0), .p (.int .i64 0), .p (.int .i64 0), .p (.int .i64 0), .p (.int .i64 0), .p (.int .i64 0), .p (.int .i64 0), .p (.int .i64 0), .p (.int .i64 0), .p (.int .i64 0), .p (.int .i64 0), .p (.int .i64 0), .p (.int .i64 0)], .array 64 3⟩ := by kernel_rfl
@[simp] theorem xt155 {f : Cont (TyI → Prop)} : @xTy Go.Proofs.Tryz.prog 155 f = f.k ⟨true, 64, 512, [.p (.int .i64 0), .p (.int .i64 0), .p (.int .i64 0), .p (.int .i64 0), .p (.int .i64 0), .p (.int .i64 0), .p (.int .i64 0), .p (.int .i64 0), .p (.int .i64 0), .p (.int .i64 0), .p (.int .i64 0), .p (.int .i64 0), .p (.int .i64 0), .p (.int .i64 0), .p (.int .i64 0), .p (.int .i64 0), .p (.int .i64 0), .p (.int .i64 0), .p (.int .i64 0), .p (.int .i64 0), .p (.int .i64 0), .p (.int .i64 0), .p (.int .i64 0), .p (.int .i64 0), .p (.int .i64 0), .p (.int .i64 0), .p (.int .i64 0), .p (.int .i64 0), .p (.int .i64 0), .p (.int .i64 0), .p (.int .i64 0), .p (.int .i64 0), .p (.int .i64 0), .p (.int .i64 0), .p (.int .i64 0), .p (.int .i64 0), .p (.int .i64 0), .p (.int .i64 0), .p (.int .i64 0), .p (.int .i64 0), .p (.int .i64 0), .p (.int .i64 0), .p (.int .i64 0), .p (.int .i64 0), .p (.int .i64 0), .p (.int .i64 0), .p (.int .i64 0), .p (.int .i64 0), .p (.int .i64 0), .p (.int .i64 0), .p (.int .i64 0), .p (.int .i64 0), .p (.int .i64 0), .p (.int .i64 0), .p (.int .i64 0), .p (.int .i64 0), .p (.int .i64 0), .p (.int .i64 0), .p (.int .i64 0), .p (.int .i64 0), .p (.int .i64 0), .p (.int .i64 0), .p (.int .i64 0), .p (.int .i64 0)], .array 64 3⟩ := by unfold xTy withTy; rw [ty155]
theorem ty169 : tyOf Go.Proofs.Tryz.prog 169 = some ⟨true, 4, 32, [.p (.int .i64 0), .p (.int .u64 0), .p (.int .i64 0), .p (.int .u64 0)], .array 2 27⟩ := by kernel_rfl
@[simp] theorem xt169 {f : Cont (TyI → Prop)} : @xTy Go.Proofs.Tryz.prog 169 f = f.k ⟨true, 4, 32, [.p (.int .i64 0), .p (.int .u64 0), .p (.int .i64 0), .p (.int .u64 0)], .array 2 27⟩ := by unfold xTy withTy; rw [ty169]
theorem eq27 {a0 b0 : Int} {a1 b1 : Int} : eqA Go.Proofs.Tryz.prog 8 27 (.agg [.p (.int .i64 a0), .p (.int .u64 a1)]) (.agg [.p (.int .i64 b0), .p (.int .u64 b1)]) = some (decide (a0 = b0) && (decide (a1 = b1) && true)) := by kernel_rfl
@[simp] theorem xeq27 {a0 b0 : Int} {a1 b1 : Int} {f : Cont (Bool → Prop)} : @xEq Go.Proofs.Tryz.prog 27 [.p (.int .i64 a0), .p (.int .u64 a1)] [.p (.int .i64 b0), .p (.int .u64 b1)] f = f.k (decide (a0 = b0 ∧ a1 = b1)) := by
  have h1 : Go.Proofs.Tryz.prog.eqGuardType Go.Proofs.Tryz.prog.depth 27 = false := by kernel_rfl
  have h2 : (decide (a0 = b0) && (decide (a1 = b1) && true)) = decide (a0 = b0 ∧ a1 = b1) := by simp [Bool.decide_and, Bool.and_assoc, Bool.beq_eq_decide_eq]
  simp only [xEq, VEq, eq27, h1, h2, withSome_some, true_and]
theorem eq49 {a0 b0 : Int} {a1 b1 : Int} : eqA Go.Proofs.Tryz.prog 8 49 (.agg [.p (.int .u64 a0), .p (.int .u64 a1)]) (.agg [.p (.int .u64 b0), .p (.int .u64 b1)]) = some (decide (a0 = b0) && (decide (a1 = b1) && true)) := by kernel_rfl
@[simp] theorem xeq49 {a0 b0 : Int} {a1 b1 : Int} {f : Cont (Bool → Prop)} : @xEq Go.Proofs.Tryz.prog 49 [.p (.int .u64 a0), .p (.int .u64 a1)] [.p (.int .u64 b0), .p (.int .u64 b1)] f = f.k (decide (a0 = b0 ∧ a1 = b1)) := by
  have h1 : Go.Proofs.Tryz.prog.eqGuardType Go.Proofs.Tryz.prog.depth 49 = false := by kernel_rfl
  have h2 : (decide (a0 = b0) && (decide (a1 = b1) && true)) = decide (a0 = b0 ∧ a1 = b1) := by simp [Bool.decide_and, Bool.and_assoc, Bool.beq_eq_decide_eq]
  simp only [xEq, VEq, eq49, h1, h2, withSome_some, true_and]
end Go.Am
