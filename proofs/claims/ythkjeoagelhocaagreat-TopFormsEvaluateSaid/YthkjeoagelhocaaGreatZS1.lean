/- Type facts of the seat's program, printed by gentypes.py. -/
import Derived.Test.YthkjeoagelhocaaGreatProg
import Derived.Test.YthkjeoagelhocaaGreatZA4
set_option linter.unusedVariables false
set_option linter.unusedSimpArgs false
namespace Go.Am
open Go
theorem ty3 : tyOf Go.Proofs.Tryz.prog 3 = some ⟨false, 1, 8, [.p (.int .i64 0)], .int .i64⟩ := by kernel_rfl
@[simp] theorem xt3 {f : Cont (TyI → Prop)} : @xTy Go.Proofs.Tryz.prog 3 f = f.k ⟨false, 1, 8, [.p (.int .i64 0)], .int .i64⟩ := by unfold xTy withTy; rw [ty3]
theorem ty4 : tyOf Go.Proofs.Tryz.prog 4 = some ⟨false, 1, 1, [.p (.bool false)], .bool⟩ := by kernel_rfl
@[simp] theorem xt4 {f : Cont (TyI → Prop)} : @xTy Go.Proofs.Tryz.prog 4 f = f.k ⟨false, 1, 1, [.p (.bool false)], .bool⟩ := by unfold xTy withTy; rw [ty4]
theorem ty22 : tyOf Go.Proofs.Tryz.prog 22 = some ⟨false, 1, 24, [.nils], .slice 24⟩ := by kernel_rfl
@[simp] theorem xt22 {f : Cont (TyI → Prop)} : @xTy Go.Proofs.Tryz.prog 22 f = f.k ⟨false, 1, 24, [.nils], .slice 24⟩ := by unfold xTy withTy; rw [ty22]
theorem ty24 : tyOf Go.Proofs.Tryz.prog 24 = some ⟨true, 3, 40, [.p (.int .i64 0), .p (.int .i64 0), .nils], .struct [(0, 1, false), (1, 1, false), (2, 1, false)]⟩ := by kernel_rfl
@[simp] theorem xt24 {f : Cont (TyI → Prop)} : @xTy Go.Proofs.Tryz.prog 24 f = f.k ⟨true, 3, 40, [.p (.int .i64 0), .p (.int .i64 0), .nils], .struct [(0, 1, false), (1, 1, false), (2, 1, false)]⟩ := by unfold xTy withTy; rw [ty24]
theorem ty25 : tyOf Go.Proofs.Tryz.prog 25 = some ⟨false, 1, 8, [.p (.int .u64 0)], .int .u64⟩ := by kernel_rfl
@[simp] theorem xt25 {f : Cont (TyI → Prop)} : @xTy Go.Proofs.Tryz.prog 25 f = f.k ⟨false, 1, 8, [.p (.int .u64 0)], .int .u64⟩ := by unfold xTy withTy; rw [ty25]
theorem ty27 : tyOf Go.Proofs.Tryz.prog 27 = some ⟨true, 2, 16, [.p (.int .i64 0), .p (.int .u64 0)], .struct [(0, 1, false), (1, 1, false)]⟩ := by kernel_rfl
@[simp] theorem xt27 {f : Cont (TyI → Prop)} : @xTy Go.Proofs.Tryz.prog 27 f = f.k ⟨true, 2, 16, [.p (.int .i64 0), .p (.int .u64 0)], .struct [(0, 1, false), (1, 1, false)]⟩ := by unfold xTy withTy; rw [ty27]
theorem ty31 : tyOf Go.Proofs.Tryz.prog 31 = some ⟨false, 1, 24, [.nils], .slice 49⟩ := by kernel_rfl
@[simp] theorem xt31 {f : Cont (TyI → Prop)} : @xTy Go.Proofs.Tryz.prog 31 f = f.k ⟨false, 1, 24, [.nils], .slice 49⟩ := by unfold xTy withTy; rw [ty31]
theorem ty32 : tyOf Go.Proofs.Tryz.prog 32 = some ⟨false, 1, 8, [.p (.int .i64 0)], .int .i64⟩ := by kernel_rfl
@[simp] theorem xt32 {f : Cont (TyI → Prop)} : @xTy Go.Proofs.Tryz.prog 32 f = f.k ⟨false, 1, 8, [.p (.int .i64 0)], .int .i64⟩ := by unfold xTy withTy; rw [ty32]
theorem ty35 : tyOf Go.Proofs.Tryz.prog 35 = some ⟨false, 1, 24, [.nils], .slice 3⟩ := by kernel_rfl
@[simp] theorem xt35 {f : Cont (TyI → Prop)} : @xTy Go.Proofs.Tryz.prog 35 f = f.k ⟨false, 1, 24, [.nils], .slice 3⟩ := by unfold xTy withTy; rw [ty35]
theorem ty41 : tyOf Go.Proofs.Tryz.prog 41 = some ⟨false, 1, 24, [.nils], .slice 4⟩ := by kernel_rfl
@[simp] theorem xt41 {f : Cont (TyI → Prop)} : @xTy Go.Proofs.Tryz.prog 41 f = f.k ⟨false, 1, 24, [.nils], .slice 4⟩ := by unfold xTy withTy; rw [ty41]
theorem ty46 : tyOf Go.Proofs.Tryz.prog 46 = some ⟨true, 2, 16, [.p (.int .i64 0), .p (.int .i64 0)], .struct [(0, 1, false), (1, 1, false)]⟩ := by kernel_rfl
@[simp] theorem xt46 {f : Cont (TyI → Prop)} : @xTy Go.Proofs.Tryz.prog 46 f = f.k ⟨true, 2, 16, [.p (.int .i64 0), .p (.int .i64 0)], .struct [(0, 1, false), (1, 1, false)]⟩ := by unfold xTy withTy; rw [ty46]
theorem ty47 : tyOf Go.Proofs.Tryz.prog 47 = some ⟨false, 1, 8, [.p (.int .u64 0)], .int .u64⟩ := by kernel_rfl
@[simp] theorem xt47 {f : Cont (TyI → Prop)} : @xTy Go.Proofs.Tryz.prog 47 f = f.k ⟨false, 1, 8, [.p (.int .u64 0)], .int .u64⟩ := by unfold xTy withTy; rw [ty47]
theorem ty49 : tyOf Go.Proofs.Tryz.prog 49 = some ⟨true, 2, 16, [.p (.int .u64 0), .p (.int .u64 0)], .struct [(0, 1, false), (1, 1, false)]⟩ := by kernel_rfl
@[simp] theorem xt49 {f : Cont (TyI → Prop)} : @xTy Go.Proofs.Tryz.prog 49 f = f.k ⟨true, 2, 16, [.p (.int .u64 0), .p (.int .u64 0)], .struct [(0, 1, false), (1, 1, false)]⟩ := by unfold xTy withTy; rw [ty49]
theorem ty51 : tyOf Go.Proofs.Tryz.prog 51 = some ⟨false, 1, 8, [.p .nilf], .other⟩ := by kernel_rfl
@[simp] theorem xt51 {f : Cont (TyI → Prop)} : @xTy Go.Proofs.Tryz.prog 51 f = f.k ⟨false, 1, 8, [.p .nilf], .other⟩ := by unfold xTy withTy; rw [ty51]
theorem ty65 : tyOf Go.Proofs.Tryz.prog 65 = some ⟨true, 4, 32, [.p (.int .i64 0), .p (.int .u64 0), .p (.int .i64 0), .p (.int .u64 0)], .struct [(0, 2, true), (2, 2, true)]⟩ := by kernel_rfl
@[simp] theorem xt65 {f : Cont (TyI → Prop)} : @xTy Go.Proofs.Tryz.prog 65 f = f.k ⟨true, 4, 32, [.p (.int .i64 0), .p (.int .u64 0), .p (.int .i64 0), .p (.int .u64 0)], .struct [(0, 2, true), (2, 2, true)]⟩ := by unfold xTy withTy; rw [ty65]
theorem ty92 : tyOf Go.Proofs.Tryz.prog 92 = some ⟨false, 1, 8, [.nilp], .other⟩ := by kernel_rfl
@[simp] theorem xt92 {f : Cont (TyI → Prop)} : @xTy Go.Proofs.Tryz.prog 92 f = f.k ⟨false, 1, 8, [.nilp], .other⟩ := by unfold xTy withTy; rw [ty92]
theorem ty99 : tyOf Go.Proofs.Tryz.prog 99 = some ⟨false, 1, 8, [.p .nilf], .other⟩ := by kernel_rfl
@[simp] theorem xt99 {f : Cont (TyI → Prop)} : @xTy Go.Proofs.Tryz.prog 99 f = f.k ⟨false, 1, 8, [.p .nilf], .other⟩ := by unfold xTy withTy; rw [ty99]
theorem ty103 : tyOf Go.Proofs.Tryz.prog 103 = some ⟨true, 3, 24, [.p (.int .i64 0), .p (.int .i64 0), .p .nilf], .struct [(0, 1, false), (1, 1, false), (2, 1, false)]⟩ := by kernel_rfl
@[simp] theorem xt103 {f : Cont (TyI → Prop)} : @xTy Go.Proofs.Tryz.prog 103 f = f.k ⟨true, 3, 24, [.p (.int .i64 0), .p (.int .i64 0), .p .nilf], .struct [(0, 1, false), (1, 1, false), (2, 1, false)]⟩ := by unfold xTy withTy; rw [ty103]
theorem ty104 : tyOf Go.Proofs.Tryz.prog 104 = some ⟨true, 15, 120, [.p (.int .i64 0), .p (.int .i64 0), .p .nilf, .p (.int .i64 0), .p (.int .i64 0), .p .nilf, .p (.int .i64 0), .p (.int .i64 0), .p .nilf, .p (.int .i64 0), .p (.int .i64 0), .p .nilf, .p (.int .i64 0), .p (.int .i64 0), .p .nilf], .array 5 103⟩ := by kernel_rfl
@[simp] theorem xt104 {f : Cont (TyI → Prop)} : @xTy Go.Proofs.Tryz.prog 104 f = f.k ⟨true, 15, 120, [.p (.int .i64 0), .p (.int .i64 0), .p .nilf, .p (.int .i64 0), .p (.int .i64 0), .p .nilf, .p (.int .i64 0), .p (.int .i64 0), .p .nilf, .p (.int .i64 0), .p (.int .i64 0), .p .nilf, .p (.int .i64 0), .p (.int .i64 0), .p .nilf], .array 5 103⟩ := by unfold xTy withTy; rw [ty104]
theorem ty108 : tyOf Go.Proofs.Tryz.prog 108 = some ⟨true, 3, 24, [.p (.int .i64 0), .p (.int .i64 0), .p (.int .i64 0)], .array 3 3⟩ := by kernel_rfl
@[simp] theorem xt108 {f : Cont (TyI → Prop)} : @xTy Go.Proofs.Tryz.prog 108 f = f.k ⟨true, 3, 24, [.p (.int .i64 0), .p (.int .i64 0), .p (.int .i64 0)], .array 3 3⟩ := by unfold xTy withTy; rw [ty108]
theorem ty109 : tyOf Go.Proofs.Tryz.prog 109 = some ⟨true, 9, 72, [.p (.int .i64 0), .p (.int .i64 0), .p (.int .i64 0), .p (.int .i64 0), .p (.int .i64 0), .p (.int .i64 0), .p (.int .i64 0), .p (.int .i64 0), .p (.int .i64 0)], .array 3 108⟩ := by kernel_rfl
@[simp] theorem xt109 {f : Cont (TyI → Prop)} : @xTy Go.Proofs.Tryz.prog 109 f = f.k ⟨true, 9, 72, [.p (.int .i64 0), .p (.int .i64 0), .p (.int .i64 0), .p (.int .i64 0), .p (.int .i64 0), .p (.int .i64 0), .p (.int .i64 0), .p (.int .i64 0), .p (.int .i64 0)], .array 3 108⟩ := by unfold xTy withTy; rw [ty109]
theorem ty130 : tyOf Go.Proofs.Tryz.prog 130 = some ⟨true, 5, 56, [.p (.int .i64 0), .p (.int .u64 0), .p (.int .i64 0), .p (.int .u64 0), .nils], .struct [(0, 4, true), (4, 1, false)]⟩ := by kernel_rfl
@[simp] theorem xt130 {f : Cont (TyI → Prop)} : @xTy Go.Proofs.Tryz.prog 130 f = f.k ⟨true, 5, 56, [.p (.int .i64 0), .p (.int .u64 0), .p (.int .i64 0), .p (.int .u64 0), .nils], .struct [(0, 4, true), (4, 1, false)]⟩ := by unfold xTy withTy; rw [ty130]
theorem ty152 : tyOf Go.Proofs.Tryz.prog 152 = some ⟨false, 1, 8, [.p .nilf], .other⟩ := by kernel_rfl
@[simp] theorem xt152 {f : Cont (TyI → Prop)} : @xTy Go.Proofs.Tryz.prog 152 f = f.k ⟨false, 1, 8, [.p .nilf], .other⟩ := by unfold xTy withTy; rw [ty152]
theorem ty153 : tyOf Go.Proofs.Tryz.prog 153 = some ⟨false, 1, 8, [.p .nilf], .other⟩ := by kernel_rfl
@[simp] theorem xt153 {f : Cont (TyI → Prop)} : @xTy Go.Proofs.Tryz.prog 153 f = f.k ⟨false, 1, 8, [.p .nilf], .other⟩ := by unfold xTy withTy; rw [ty153]
theorem ty155 : tyOf Go.Proofs.Tryz.prog 155 = some ⟨true, 64, 512, [.p (.int .i64 0), .p (.int .i64 0), .p (.int .i64 0), .p (.int .i64 0), .p (.int .i64 0), .p (.int .i64 0), .p (.int .i64 0), .p (.int .i64 0), .p (.int .i64 0), .p (.int .i64 0), .p (.int .i64 0), .p (.int .i64 0), .p (.int .i64 0), .p (.int .i64 0), .p (.int .i64 0), .p (.int .i64 0), .p (.int .i64 0), .p (.int .i64 0), .p (.int .i64 0), .p (.int .i64 0), .p (.int .i64 0), .p (.int .i64 0), .p (.int .i64 0), .p (.int .i64 0), .p (.int .i64 0), .p (.int .i64 0), .p (.int .i64 0), .p (.int .i64 0), .p (.int .i64 0), .p (.int .i64 0), .p (.int .i64 0), .p (.int .i64 0), .p (.int .i64 0), .p (.int .i64 0), .p (.int .i64 0), .p (.int .i64 0), .p (.int .i64 0), .p (.int .i64 0), .p (.int .i64 0), .p (.int .i64 0), .p (.int .i64 0), .p (.int .i64 0), .p (.int .i64 0), .p (.int .i64 0), .p (.int .i64 0), .p (.int .i64 0), .p (.int .i64 0), .p (.int .i64 0), .p (.int .i64 0), .p (.int .i64 0), .p (.int .i64 0), .p (.int .i64 0), .p (.int .i64 0), .p (.int .i64 0), .p (.int .i64 0), .p (.int .i64 0), .p (.int .i64 0), .p (.int .i64 0), .p (.int .i64 0), .p (.int .i64 0), .p (.int .i64 0), .p (.int .i64 0), .p (.int .i64 0), .p (.int .i64 0)], .array 64 3⟩ := by kernel_rfl
@[simp] theorem xt155 {f : Cont (TyI → Prop)} : @xTy Go.Proofs.Tryz.prog 155 f = f.k ⟨true, 64, 512, [.p (.int .i64 0), .p (.int .i64 0), .p (.int .i64 0), .p (.int .i64 0), .p (.int .i64 0), .p (.int .i64 0), .p (.int .i64 0), .p (.int .i64 0), .p (.int .i64 0), .p (.int .i64 0), .p (.int .i64 0), .p (.int .i64 0), .p (.int .i64 0), .p (.int .i64 0), .p (.int .i64 0), .p (.int .i64 0), .p (.int .i64 0), .p (.int .i64 0), .p (.int .i64 0), .p (.int .i64 0), .p (.int .i64 0), .p (.int .i64 0), .p (.int .i64 0), .p (.int .i64 0), .p (.int .i64 0), .p (.int .i64 0), .p (.int .i64 0), .p (.int .i64 0), .p (.int .i64 0), .p (.int .i64 0), .p (.int .i64 0), .p (.int .i64 0), .p (.int .i64 0), .p (.int .i64 0), .p (.int .i64 0), .p (.int .i64 0), .p (.int .i64 0), .p (.int .i64 0), .p (.int .i64 0), .p (.int .i64 0), .p (.int .i64 0), .p (.int .i64 0), .p (.int .i64 0), .p (.int .i64 0), .p (.int .i64 0), .p (.int .i64 0), .p (.int .i64 0), .p (.int .i64 0), .p (.int .i64 0), .p (.int .i64 0), .p (.int .i64 0), .p (.int .i64 0), .p (.int .i64 0), .p (.int .i64 0), .p (.int .i64 0), .p (.int .i64 0), .p (.int .i64 0), .p (.int .i64 0), .p (.int .i64 0), .p (.int .i64 0), .p (.int .i64 0), .p (.int .i64 0), .p (.int .i64 0), .p (.int .i64 0)], .array 64 3⟩ := by unfold xTy withTy; rw [ty155]
theorem ty169 : tyOf Go.Proofs.Tryz.prog 169 = some ⟨true, 4, 32, [.p (.int .i64 0), .p (.int .u64 0), .p (.int .i64 0), .p (.int .u64 0)], .array 2 27⟩ := by kernel_rfl
@[simp] theorem xt169 {f : Cont (TyI → Prop)} : @xTy Go.Proofs.Tryz.prog 169 f = f.k ⟨true, 4, 32, [.p (.int .i64 0), .p (.int .u64 0), .p (.int .i64 0), .p (.int .u64 0)], .array 2 27⟩ := by unfold xTy withTy; rw [ty169]
theorem eq49 {a0 b0 : Int} {a1 b1 : Int} : eqA Go.Proofs.Tryz.prog 8 49 (.agg [.p (.int .u64 a0), .p (.int .u64 a1)]) (.agg [.p (.int .u64 b0), .p (.int .u64 b1)]) = some (decide (a0 = b0) && (decide (a1 = b1) && true)) := by kernel_rfl
@[simp] theorem xeq49 {a0 b0 : Int} {a1 b1 : Int} {f : Cont (Bool → Prop)} : @xEq Go.Proofs.Tryz.prog 49 [.p (.int .u64 a0), .p (.int .u64 a1)] [.p (.int .u64 b0), .p (.int .u64 b1)] f = f.k (decide (a0 = b0 ∧ a1 = b1)) := by
  have h1 : Go.Proofs.Tryz.prog.eqGuardType Go.Proofs.Tryz.prog.depth 49 = false := by kernel_rfl
  have h2 : (decide (a0 = b0) && (decide (a1 = b1) && true)) = decide (a0 = b0 ∧ a1 = b1) := by simp [Bool.decide_and, Bool.and_assoc, Bool.beq_eq_decide_eq]
  simp only [xEq, VEq, eq49, h1, h2, withSome_some, true_and]
end Go.Am
