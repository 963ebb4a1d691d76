/- Type facts of the seat's program, printed by gentypes.py. -/
import Derived.Test.YtfcljeghfckabaaGreatDoorProg
import Derived.Test.YtfcljeghfckabaaGreatDoorZA4
set_option linter.unusedVariables false
set_option linter.unusedSimpArgs false
namespace Go.Am
open Go
theorem ty0 : tyOf Go.Proofs.Tryz.prog 0 = some ⟨false, 1, 0, [.any], .other⟩ := by kernel_rfl
@[simp] theorem xt0 {f : Cont (TyI → Prop)} : @xTy Go.Proofs.Tryz.prog 0 f = f.k ⟨false, 1, 0, [.any], .other⟩ := by unfold xTy withTy; rw [ty0]
theorem ty1 : tyOf Go.Proofs.Tryz.prog 1 = some ⟨false, 1, 8, [.p .nilf], .other⟩ := by kernel_rfl
@[simp] theorem xt1 {f : Cont (TyI → Prop)} : @xTy Go.Proofs.Tryz.prog 1 f = f.k ⟨false, 1, 8, [.p .nilf], .other⟩ := by unfold xTy withTy; rw [ty1]
theorem ty2 : tyOf Go.Proofs.Tryz.prog 2 = some ⟨false, 1, 8, [.p (.int .i64 0)], .int .i64⟩ := by kernel_rfl
@[simp] theorem xt2 {f : Cont (TyI → Prop)} : @xTy Go.Proofs.Tryz.prog 2 f = f.k ⟨false, 1, 8, [.p (.int .i64 0)], .int .i64⟩ := by unfold xTy withTy; rw [ty2]
theorem ty3 : tyOf Go.Proofs.Tryz.prog 3 = some ⟨false, 1, 8, [.p (.int .i64 0)], .int .i64⟩ := by kernel_rfl
@[simp] theorem xt3 {f : Cont (TyI → Prop)} : @xTy Go.Proofs.Tryz.prog 3 f = f.k ⟨false, 1, 8, [.p (.int .i64 0)], .int .i64⟩ := by unfold xTy withTy; rw [ty3]
theorem ty4 : tyOf Go.Proofs.Tryz.prog 4 = some ⟨false, 1, 1, [.p (.bool false)], .bool⟩ := by kernel_rfl
@[simp] theorem xt4 {f : Cont (TyI → Prop)} : @xTy Go.Proofs.Tryz.prog 4 f = f.k ⟨false, 1, 1, [.p (.bool false)], .bool⟩ := by unfold xTy withTy; rw [ty4]
theorem ty5 : tyOf Go.Proofs.Tryz.prog 5 = some ⟨false, 1, 1, [.p (.int .u8 0)], .int .u8⟩ := by kernel_rfl
@[simp] theorem xt5 {f : Cont (TyI → Prop)} : @xTy Go.Proofs.Tryz.prog 5 f = f.k ⟨false, 1, 1, [.p (.int .u8 0)], .int .u8⟩ := by unfold xTy withTy; rw [ty5]
theorem ty6 : tyOf Go.Proofs.Tryz.prog 6 = some ⟨false, 1, 1, [.p (.int .u8 0)], .int .u8⟩ := by kernel_rfl
@[simp] theorem xt6 {f : Cont (TyI → Prop)} : @xTy Go.Proofs.Tryz.prog 6 f = f.k ⟨false, 1, 1, [.p (.int .u8 0)], .int .u8⟩ := by unfold xTy withTy; rw [ty6]
theorem ty7 : tyOf Go.Proofs.Tryz.prog 7 = some ⟨true, 4, 24, [.p (.int .i64 0), .p (.int .i64 0), .p (.bool false), .p (.int .u8 0)], .struct [(0, 1, false), (1, 1, false), (2, 1, false), (3, 1, false)]⟩ := by kernel_rfl
@[simp] theorem xt7 {f : Cont (TyI → Prop)} : @xTy Go.Proofs.Tryz.prog 7 f = f.k ⟨true, 4, 24, [.p (.int .i64 0), .p (.int .i64 0), .p (.bool false), .p (.int .u8 0)], .struct [(0, 1, false), (1, 1, false), (2, 1, false), (3, 1, false)]⟩ := by unfold xTy withTy; rw [ty7]
theorem ty8 : tyOf Go.Proofs.Tryz.prog 8 = some ⟨true, 4, 24, [.p (.int .i64 0), .p (.int .i64 0), .p (.bool false), .p (.int .u8 0)], .struct [(0, 1, false), (1, 1, false), (2, 1, false), (3, 1, false)]⟩ := by kernel_rfl
@[simp] theorem xt8 {f : Cont (TyI → Prop)} : @xTy Go.Proofs.Tryz.prog 8 f = f.k ⟨true, 4, 24, [.p (.int .i64 0), .p (.int .i64 0), .p (.bool false), .p (.int .u8 0)], .struct [(0, 1, false), (1, 1, false), (2, 1, false), (3, 1, false)]⟩ := by unfold xTy withTy; rw [ty8]
theorem ty9 : tyOf Go.Proofs.Tryz.prog 9 = some ⟨false, 1, 16, [.p (.str [])], .str⟩ := by kernel_rfl
@[simp] theorem xt9 {f : Cont (TyI → Prop)} : @xTy Go.Proofs.Tryz.prog 9 f = f.k ⟨false, 1, 16, [.p (.str [])], .str⟩ := by unfold xTy withTy; rw [ty9]
theorem ty10 : tyOf Go.Proofs.Tryz.prog 10 = some ⟨false, 1, 16, [.p (.str [])], .str⟩ := by kernel_rfl
@[simp] theorem xt10 {f : Cont (TyI → Prop)} : @xTy Go.Proofs.Tryz.prog 10 f = f.k ⟨false, 1, 16, [.p (.str [])], .str⟩ := by unfold xTy withTy; rw [ty10]
theorem ty11 : tyOf Go.Proofs.Tryz.prog 11 = some ⟨false, 1, 16, [.p (.str [])], .str⟩ := by kernel_rfl
@[simp] theorem xt11 {f : Cont (TyI → Prop)} : @xTy Go.Proofs.Tryz.prog 11 f = f.k ⟨false, 1, 16, [.p (.str [])], .str⟩ := by unfold xTy withTy; rw [ty11]
theorem ty12 : tyOf Go.Proofs.Tryz.prog 12 = some ⟨false, 1, 8, [.p (.int .u64 0)], .int .u64⟩ := by kernel_rfl
@[simp] theorem xt12 {f : Cont (TyI → Prop)} : @xTy Go.Proofs.Tryz.prog 12 f = f.k ⟨false, 1, 8, [.p (.int .u64 0)], .int .u64⟩ := by unfold xTy withTy; rw [ty12]
theorem ty13 : tyOf Go.Proofs.Tryz.prog 13 = some ⟨true, 2, 24, [.p (.str []), .p (.int .u64 0)], .struct [(0, 1, false), (1, 1, false)]⟩ := by kernel_rfl
@[simp] theorem xt13 {f : Cont (TyI → Prop)} : @xTy Go.Proofs.Tryz.prog 13 f = f.k ⟨true, 2, 24, [.p (.str []), .p (.int .u64 0)], .struct [(0, 1, false), (1, 1, false)]⟩ := by unfold xTy withTy; rw [ty13]
theorem ty14 : tyOf Go.Proofs.Tryz.prog 14 = some ⟨true, 2, 24, [.p (.str []), .p (.int .u64 0)], .struct [(0, 1, false), (1, 1, false)]⟩ := by kernel_rfl
@[simp] theorem xt14 {f : Cont (TyI → Prop)} : @xTy Go.Proofs.Tryz.prog 14 f = f.k ⟨true, 2, 24, [.p (.str []), .p (.int .u64 0)], .struct [(0, 1, false), (1, 1, false)]⟩ := by unfold xTy withTy; rw [ty14]
theorem ty15 : tyOf Go.Proofs.Tryz.prog 15 = some ⟨false, 1, 8, [.nilp], .other⟩ := by kernel_rfl
@[simp] theorem xt15 {f : Cont (TyI → Prop)} : @xTy Go.Proofs.Tryz.prog 15 f = f.k ⟨false, 1, 8, [.nilp], .other⟩ := by unfold xTy withTy; rw [ty15]
theorem ty16 : tyOf Go.Proofs.Tryz.prog 16 = some ⟨false, 1, 8, [.nilp], .other⟩ := by kernel_rfl
@[simp] theorem xt16 {f : Cont (TyI → Prop)} : @xTy Go.Proofs.Tryz.prog 16 f = f.k ⟨false, 1, 8, [.nilp], .other⟩ := by unfold xTy withTy; rw [ty16]
theorem ty17 : tyOf Go.Proofs.Tryz.prog 17 = some ⟨false, 1, 8, [.nilp], .other⟩ := by kernel_rfl
@[simp] theorem xt17 {f : Cont (TyI → Prop)} : @xTy Go.Proofs.Tryz.prog 17 f = f.k ⟨false, 1, 8, [.nilp], .other⟩ := by unfold xTy withTy; rw [ty17]
theorem ty18 : tyOf Go.Proofs.Tryz.prog 18 = some ⟨true, 1, 8, [.nilp], .struct [(0, 1, false)]⟩ := by kernel_rfl
@[simp] theorem xt18 {f : Cont (TyI → Prop)} : @xTy Go.Proofs.Tryz.prog 18 f = f.k ⟨true, 1, 8, [.nilp], .struct [(0, 1, false)]⟩ := by unfold xTy withTy; rw [ty18]
theorem ty19 : tyOf Go.Proofs.Tryz.prog 19 = some ⟨true, 1, 8, [.nilp], .struct [(0, 1, false)]⟩ := by kernel_rfl
@[simp] theorem xt19 {f : Cont (TyI → Prop)} : @xTy Go.Proofs.Tryz.prog 19 f = f.k ⟨true, 1, 8, [.nilp], .struct [(0, 1, false)]⟩ := by unfold xTy withTy; rw [ty19]
theorem ty20 : tyOf Go.Proofs.Tryz.prog 20 = some ⟨false, 1, 16, [.p .nilif], .other⟩ := by kernel_rfl
@[simp] theorem xt20 {f : Cont (TyI → Prop)} : @xTy Go.Proofs.Tryz.prog 20 f = f.k ⟨false, 1, 16, [.p .nilif], .other⟩ := by unfold xTy withTy; rw [ty20]
theorem ty21 : tyOf Go.Proofs.Tryz.prog 21 = some ⟨false, 1, 4, [.p (.int .i32 0)], .int .i32⟩ := by kernel_rfl
@[simp] theorem xt21 {f : Cont (TyI → Prop)} : @xTy Go.Proofs.Tryz.prog 21 f = f.k ⟨false, 1, 4, [.p (.int .i32 0)], .int .i32⟩ := by unfold xTy withTy; rw [ty21]
theorem ty22 : tyOf Go.Proofs.Tryz.prog 22 = some ⟨false, 1, 24, [.nils], .slice 94⟩ := by kernel_rfl
@[simp] theorem xt22 {f : Cont (TyI → Prop)} : @xTy Go.Proofs.Tryz.prog 22 f = f.k ⟨false, 1, 24, [.nils], .slice 94⟩ := by unfold xTy withTy; rw [ty22]
theorem ty23 : tyOf Go.Proofs.Tryz.prog 23 = some ⟨false, 1, 24, [.nils], .slice 71⟩ := by kernel_rfl
@[simp] theorem xt23 {f : Cont (TyI → Prop)} : @xTy Go.Proofs.Tryz.prog 23 f = f.k ⟨false, 1, 24, [.nils], .slice 71⟩ := by unfold xTy withTy; rw [ty23]
theorem ty24 : tyOf Go.Proofs.Tryz.prog 24 = some ⟨true, 2, 48, [.nils, .nils], .struct [(0, 1, false), (1, 1, false)]⟩ := by kernel_rfl
@[simp] theorem xt24 {f : Cont (TyI → Prop)} : @xTy Go.Proofs.Tryz.prog 24 f = f.k ⟨true, 2, 48, [.nils, .nils], .struct [(0, 1, false), (1, 1, false)]⟩ := by unfold xTy withTy; rw [ty24]
theorem ty25 : tyOf Go.Proofs.Tryz.prog 25 = some ⟨true, 2, 48, [.nils, .nils], .struct [(0, 1, false), (1, 1, false)]⟩ := by kernel_rfl
@[simp] theorem xt25 {f : Cont (TyI → Prop)} : @xTy Go.Proofs.Tryz.prog 25 f = f.k ⟨true, 2, 48, [.nils, .nils], .struct [(0, 1, false), (1, 1, false)]⟩ := by unfold xTy withTy; rw [ty25]
theorem ty26 : tyOf Go.Proofs.Tryz.prog 26 = some ⟨false, 1, 24, [.nils], .slice 41⟩ := by kernel_rfl
@[simp] theorem xt26 {f : Cont (TyI → Prop)} : @xTy Go.Proofs.Tryz.prog 26 f = f.k ⟨false, 1, 24, [.nils], .slice 41⟩ := by unfold xTy withTy; rw [ty26]
theorem ty27 : tyOf Go.Proofs.Tryz.prog 27 = some ⟨false, 1, 8, [.p .nilf], .other⟩ := by kernel_rfl
@[simp] theorem xt27 {f : Cont (TyI → Prop)} : @xTy Go.Proofs.Tryz.prog 27 f = f.k ⟨false, 1, 8, [.p .nilf], .other⟩ := by unfold xTy withTy; rw [ty27]
theorem ty28 : tyOf Go.Proofs.Tryz.prog 28 = some ⟨false, 1, 8, [.p .nilf], .other⟩ := by kernel_rfl
@[simp] theorem xt28 {f : Cont (TyI → Prop)} : @xTy Go.Proofs.Tryz.prog 28 f = f.k ⟨false, 1, 8, [.p .nilf], .other⟩ := by unfold xTy withTy; rw [ty28]
theorem ty29 : tyOf Go.Proofs.Tryz.prog 29 = some ⟨false, 1, 8, [.p (.int .i64 0)], .int .i64⟩ := by kernel_rfl
@[simp] theorem xt29 {f : Cont (TyI → Prop)} : @xTy Go.Proofs.Tryz.prog 29 f = f.k ⟨false, 1, 8, [.p (.int .i64 0)], .int .i64⟩ := by unfold xTy withTy; rw [ty29]
theorem ty30 : tyOf Go.Proofs.Tryz.prog 30 = some ⟨false, 1, 0, [.any], .other⟩ := by kernel_rfl
@[simp] theorem xt30 {f : Cont (TyI → Prop)} : @xTy Go.Proofs.Tryz.prog 30 f = f.k ⟨false, 1, 0, [.any], .other⟩ := by unfold xTy withTy; rw [ty30]
theorem ty31 : tyOf Go.Proofs.Tryz.prog 31 = some ⟨false, 1, 8, [.p .nilf], .other⟩ := by kernel_rfl
@[simp] theorem xt31 {f : Cont (TyI → Prop)} : @xTy Go.Proofs.Tryz.prog 31 f = f.k ⟨false, 1, 8, [.p .nilf], .other⟩ := by unfold xTy withTy; rw [ty31]
theorem ty32 : tyOf Go.Proofs.Tryz.prog 32 = some ⟨false, 1, 0, [.any], .other⟩ := by kernel_rfl
@[simp] theorem xt32 {f : Cont (TyI → Prop)} : @xTy Go.Proofs.Tryz.prog 32 f = f.k ⟨false, 1, 0, [.any], .other⟩ := by unfold xTy withTy; rw [ty32]
theorem ty33 : tyOf Go.Proofs.Tryz.prog 33 = some ⟨false, 1, 8, [.p .nilf], .other⟩ := by kernel_rfl
@[simp] theorem xt33 {f : Cont (TyI → Prop)} : @xTy Go.Proofs.Tryz.prog 33 f = f.k ⟨false, 1, 8, [.p .nilf], .other⟩ := by unfold xTy withTy; rw [ty33]
theorem ty34 : tyOf Go.Proofs.Tryz.prog 34 = some ⟨false, 1, 0, [.any], .other⟩ := by kernel_rfl
@[simp] theorem xt34 {f : Cont (TyI → Prop)} : @xTy Go.Proofs.Tryz.prog 34 f = f.k ⟨false, 1, 0, [.any], .other⟩ := by unfold xTy withTy; rw [ty34]
theorem ty35 : tyOf Go.Proofs.Tryz.prog 35 = some ⟨false, 1, 8, [.p .nilf], .other⟩ := by kernel_rfl
@[simp] theorem xt35 {f : Cont (TyI → Prop)} : @xTy Go.Proofs.Tryz.prog 35 f = f.k ⟨false, 1, 8, [.p .nilf], .other⟩ := by unfold xTy withTy; rw [ty35]
theorem ty36 : tyOf Go.Proofs.Tryz.prog 36 = some ⟨false, 1, 0, [.any], .other⟩ := by kernel_rfl
@[simp] theorem xt36 {f : Cont (TyI → Prop)} : @xTy Go.Proofs.Tryz.prog 36 f = f.k ⟨false, 1, 0, [.any], .other⟩ := by unfold xTy withTy; rw [ty36]
theorem ty37 : tyOf Go.Proofs.Tryz.prog 37 = some ⟨false, 1, 8, [.p .nilf], .other⟩ := by kernel_rfl
@[simp] theorem xt37 {f : Cont (TyI → Prop)} : @xTy Go.Proofs.Tryz.prog 37 f = f.k ⟨false, 1, 8, [.p .nilf], .other⟩ := by unfold xTy withTy; rw [ty37]
theorem ty38 : tyOf Go.Proofs.Tryz.prog 38 = some ⟨false, 1, 8, [.p .nilf], .other⟩ := by kernel_rfl
@[simp] theorem xt38 {f : Cont (TyI → Prop)} : @xTy Go.Proofs.Tryz.prog 38 f = f.k ⟨false, 1, 8, [.p .nilf], .other⟩ := by unfold xTy withTy; rw [ty38]
theorem ty39 : tyOf Go.Proofs.Tryz.prog 39 = some ⟨false, 1, 8, [.p .nilf], .other⟩ := by kernel_rfl
@[simp] theorem xt39 {f : Cont (TyI → Prop)} : @xTy Go.Proofs.Tryz.prog 39 f = f.k ⟨false, 1, 8, [.p .nilf], .other⟩ := by unfold xTy withTy; rw [ty39]
theorem ty40 : tyOf Go.Proofs.Tryz.prog 40 = some ⟨true, 2, 16, [.p (.int .i64 0), .p (.int .i64 0)], .struct [(0, 1, false), (1, 1, false)]⟩ := by kernel_rfl
@[simp] theorem xt40 {f : Cont (TyI → Prop)} : @xTy Go.Proofs.Tryz.prog 40 f = f.k ⟨true, 2, 16, [.p (.int .i64 0), .p (.int .i64 0)], .struct [(0, 1, false), (1, 1, false)]⟩ := by unfold xTy withTy; rw [ty40]
theorem ty41 : tyOf Go.Proofs.Tryz.prog 41 = some ⟨true, 2, 16, [.p (.int .i64 0), .p (.int .i64 0)], .struct [(0, 1, false), (1, 1, false)]⟩ := by kernel_rfl
@[simp] theorem xt41 {f : Cont (TyI → Prop)} : @xTy Go.Proofs.Tryz.prog 41 f = f.k ⟨true, 2, 16, [.p (.int .i64 0), .p (.int .i64 0)], .struct [(0, 1, false), (1, 1, false)]⟩ := by unfold xTy withTy; rw [ty41]
theorem ty42 : tyOf Go.Proofs.Tryz.prog 42 = some ⟨false, 1, 24, [.nils], .slice 3⟩ := by kernel_rfl
@[simp] theorem xt42 {f : Cont (TyI → Prop)} : @xTy Go.Proofs.Tryz.prog 42 f = f.k ⟨false, 1, 24, [.nils], .slice 3⟩ := by unfold xTy withTy; rw [ty42]
theorem ty43 : tyOf Go.Proofs.Tryz.prog 43 = some ⟨false, 1, 8, [.p .nilf], .other⟩ := by kernel_rfl
@[simp] theorem xt43 {f : Cont (TyI → Prop)} : @xTy Go.Proofs.Tryz.prog 43 f = f.k ⟨false, 1, 8, [.p .nilf], .other⟩ := by unfold xTy withTy; rw [ty43]
theorem ty44 : tyOf Go.Proofs.Tryz.prog 44 = some ⟨false, 1, 8, [.p .nilf], .other⟩ := by kernel_rfl
@[simp] theorem xt44 {f : Cont (TyI → Prop)} : @xTy Go.Proofs.Tryz.prog 44 f = f.k ⟨false, 1, 8, [.p .nilf], .other⟩ := by unfold xTy withTy; rw [ty44]
theorem ty45 : tyOf Go.Proofs.Tryz.prog 45 = some ⟨false, 1, 8, [.p .nilf], .other⟩ := by kernel_rfl
@[simp] theorem xt45 {f : Cont (TyI → Prop)} : @xTy Go.Proofs.Tryz.prog 45 f = f.k ⟨false, 1, 8, [.p .nilf], .other⟩ := by unfold xTy withTy; rw [ty45]
theorem ty46 : tyOf Go.Proofs.Tryz.prog 46 = some ⟨false, 1, 8, [.p .nilf], .other⟩ := by kernel_rfl
@[simp] theorem xt46 {f : Cont (TyI → Prop)} : @xTy Go.Proofs.Tryz.prog 46 f = f.k ⟨false, 1, 8, [.p .nilf], .other⟩ := by unfold xTy withTy; rw [ty46]
theorem ty47 : tyOf Go.Proofs.Tryz.prog 47 = some ⟨false, 1, 8, [.p .nilf], .other⟩ := by kernel_rfl
@[simp] theorem xt47 {f : Cont (TyI → Prop)} : @xTy Go.Proofs.Tryz.prog 47 f = f.k ⟨false, 1, 8, [.p .nilf], .other⟩ := by unfold xTy withTy; rw [ty47]
theorem ty48 : tyOf Go.Proofs.Tryz.prog 48 = some ⟨false, 1, 8, [.p .nilf], .other⟩ := by kernel_rfl
@[simp] theorem xt48 {f : Cont (TyI → Prop)} : @xTy Go.Proofs.Tryz.prog 48 f = f.k ⟨false, 1, 8, [.p .nilf], .other⟩ := by unfold xTy withTy; rw [ty48]
theorem ty49 : tyOf Go.Proofs.Tryz.prog 49 = some ⟨false, 1, 24, [.nils], .slice 26⟩ := by kernel_rfl
@[simp] theorem xt49 {f : Cont (TyI → Prop)} : @xTy Go.Proofs.Tryz.prog 49 f = f.k ⟨false, 1, 24, [.nils], .slice 26⟩ := by unfold xTy withTy; rw [ty49]
theorem ty50 : tyOf Go.Proofs.Tryz.prog 50 = some ⟨false, 1, 8, [.p .nilf], .other⟩ := by kernel_rfl
@[simp] theorem xt50 {f : Cont (TyI → Prop)} : @xTy Go.Proofs.Tryz.prog 50 f = f.k ⟨false, 1, 8, [.p .nilf], .other⟩ := by unfold xTy withTy; rw [ty50]
theorem ty51 : tyOf Go.Proofs.Tryz.prog 51 = some ⟨false, 1, 8, [.p .nilf], .other⟩ := by kernel_rfl
@[simp] theorem xt51 {f : Cont (TyI → Prop)} : @xTy Go.Proofs.Tryz.prog 51 f = f.k ⟨false, 1, 8, [.p .nilf], .other⟩ := by unfold xTy withTy; rw [ty51]
theorem ty52 : tyOf Go.Proofs.Tryz.prog 52 = some ⟨false, 1, 8, [.p .nilf], .other⟩ := by kernel_rfl
@[simp] theorem xt52 {f : Cont (TyI → Prop)} : @xTy Go.Proofs.Tryz.prog 52 f = f.k ⟨false, 1, 8, [.p .nilf], .other⟩ := by unfold xTy withTy; rw [ty52]
theorem ty53 : tyOf Go.Proofs.Tryz.prog 53 = some ⟨false, 1, 8, [.p .nilf], .other⟩ := by kernel_rfl
@[simp] theorem xt53 {f : Cont (TyI → Prop)} : @xTy Go.Proofs.Tryz.prog 53 f = f.k ⟨false, 1, 8, [.p .nilf], .other⟩ := by unfold xTy withTy; rw [ty53]
theorem ty54 : tyOf Go.Proofs.Tryz.prog 54 = some ⟨false, 1, 8, [.p .nilf], .other⟩ := by kernel_rfl
@[simp] theorem xt54 {f : Cont (TyI → Prop)} : @xTy Go.Proofs.Tryz.prog 54 f = f.k ⟨false, 1, 8, [.p .nilf], .other⟩ := by unfold xTy withTy; rw [ty54]
theorem ty55 : tyOf Go.Proofs.Tryz.prog 55 = some ⟨false, 1, 24, [.nils], .slice 9⟩ := by kernel_rfl
@[simp] theorem xt55 {f : Cont (TyI → Prop)} : @xTy Go.Proofs.Tryz.prog 55 f = f.k ⟨false, 1, 24, [.nils], .slice 9⟩ := by unfold xTy withTy; rw [ty55]
theorem ty56 : tyOf Go.Proofs.Tryz.prog 56 = some ⟨false, 1, 0, [.any], .other⟩ := by kernel_rfl
@[simp] theorem xt56 {f : Cont (TyI → Prop)} : @xTy Go.Proofs.Tryz.prog 56 f = f.k ⟨false, 1, 0, [.any], .other⟩ := by unfold xTy withTy; rw [ty56]
theorem ty57 : tyOf Go.Proofs.Tryz.prog 57 = some ⟨false, 1, 8, [.p .nilf], .other⟩ := by kernel_rfl
@[simp] theorem xt57 {f : Cont (TyI → Prop)} : @xTy Go.Proofs.Tryz.prog 57 f = f.k ⟨false, 1, 8, [.p .nilf], .other⟩ := by unfold xTy withTy; rw [ty57]
theorem ty58 : tyOf Go.Proofs.Tryz.prog 58 = some ⟨false, 1, 8, [.p .nilf], .other⟩ := by kernel_rfl
@[simp] theorem xt58 {f : Cont (TyI → Prop)} : @xTy Go.Proofs.Tryz.prog 58 f = f.k ⟨false, 1, 8, [.p .nilf], .other⟩ := by unfold xTy withTy; rw [ty58]
theorem ty59 : tyOf Go.Proofs.Tryz.prog 59 = some ⟨false, 1, 8, [.p .nilf], .other⟩ := by kernel_rfl
@[simp] theorem xt59 {f : Cont (TyI → Prop)} : @xTy Go.Proofs.Tryz.prog 59 f = f.k ⟨false, 1, 8, [.p .nilf], .other⟩ := by unfold xTy withTy; rw [ty59]
theorem ty60 : tyOf Go.Proofs.Tryz.prog 60 = some ⟨false, 1, 8, [.p .nilf], .other⟩ := by kernel_rfl
@[simp] theorem xt60 {f : Cont (TyI → Prop)} : @xTy Go.Proofs.Tryz.prog 60 f = f.k ⟨false, 1, 8, [.p .nilf], .other⟩ := by unfold xTy withTy; rw [ty60]
theorem ty61 : tyOf Go.Proofs.Tryz.prog 61 = some ⟨false, 1, 0, [.any], .other⟩ := by kernel_rfl
@[simp] theorem xt61 {f : Cont (TyI → Prop)} : @xTy Go.Proofs.Tryz.prog 61 f = f.k ⟨false, 1, 0, [.any], .other⟩ := by unfold xTy withTy; rw [ty61]
theorem ty62 : tyOf Go.Proofs.Tryz.prog 62 = some ⟨false, 1, 8, [.p .nilf], .other⟩ := by kernel_rfl
@[simp] theorem xt62 {f : Cont (TyI → Prop)} : @xTy Go.Proofs.Tryz.prog 62 f = f.k ⟨false, 1, 8, [.p .nilf], .other⟩ := by unfold xTy withTy; rw [ty62]
theorem ty63 : tyOf Go.Proofs.Tryz.prog 63 = some ⟨false, 1, 8, [.p .nilf], .other⟩ := by kernel_rfl
@[simp] theorem xt63 {f : Cont (TyI → Prop)} : @xTy Go.Proofs.Tryz.prog 63 f = f.k ⟨false, 1, 8, [.p .nilf], .other⟩ := by unfold xTy withTy; rw [ty63]
theorem ty64 : tyOf Go.Proofs.Tryz.prog 64 = some ⟨false, 1, 8, [.p .nilf], .other⟩ := by kernel_rfl
@[simp] theorem xt64 {f : Cont (TyI → Prop)} : @xTy Go.Proofs.Tryz.prog 64 f = f.k ⟨false, 1, 8, [.p .nilf], .other⟩ := by unfold xTy withTy; rw [ty64]
theorem ty65 : tyOf Go.Proofs.Tryz.prog 65 = some ⟨false, 1, 8, [.p .nilf], .other⟩ := by kernel_rfl
@[simp] theorem xt65 {f : Cont (TyI → Prop)} : @xTy Go.Proofs.Tryz.prog 65 f = f.k ⟨false, 1, 8, [.p .nilf], .other⟩ := by unfold xTy withTy; rw [ty65]
theorem ty66 : tyOf Go.Proofs.Tryz.prog 66 = some ⟨false, 1, 8, [.p .nilf], .other⟩ := by kernel_rfl
@[simp] theorem xt66 {f : Cont (TyI → Prop)} : @xTy Go.Proofs.Tryz.prog 66 f = f.k ⟨false, 1, 8, [.p .nilf], .other⟩ := by unfold xTy withTy; rw [ty66]
theorem ty67 : tyOf Go.Proofs.Tryz.prog 67 = some ⟨false, 1, 8, [.p .nilf], .other⟩ := by kernel_rfl
@[simp] theorem xt67 {f : Cont (TyI → Prop)} : @xTy Go.Proofs.Tryz.prog 67 f = f.k ⟨false, 1, 8, [.p .nilf], .other⟩ := by unfold xTy withTy; rw [ty67]
theorem ty68 : tyOf Go.Proofs.Tryz.prog 68 = some ⟨true, 2, 24, [.p (.int .i64 0), .p (.str [])], .struct [(0, 1, false), (1, 1, false)]⟩ := by kernel_rfl
@[simp] theorem xt68 {f : Cont (TyI → Prop)} : @xTy Go.Proofs.Tryz.prog 68 f = f.k ⟨true, 2, 24, [.p (.int .i64 0), .p (.str [])], .struct [(0, 1, false), (1, 1, false)]⟩ := by unfold xTy withTy; rw [ty68]
theorem ty69 : tyOf Go.Proofs.Tryz.prog 69 = some ⟨true, 2, 24, [.p (.int .i64 0), .p (.str [])], .struct [(0, 1, false), (1, 1, false)]⟩ := by kernel_rfl
@[simp] theorem xt69 {f : Cont (TyI → Prop)} : @xTy Go.Proofs.Tryz.prog 69 f = f.k ⟨true, 2, 24, [.p (.int .i64 0), .p (.str [])], .struct [(0, 1, false), (1, 1, false)]⟩ := by unfold xTy withTy; rw [ty69]
theorem ty70 : tyOf Go.Proofs.Tryz.prog 70 = some ⟨true, 4, 48, [.p (.int .i64 0), .p (.str []), .p (.int .i64 0), .p (.str [])], .struct [(0, 2, true), (2, 2, true)]⟩ := by kernel_rfl
@[simp] theorem xt70 {f : Cont (TyI → Prop)} : @xTy Go.Proofs.Tryz.prog 70 f = f.k ⟨true, 4, 48, [.p (.int .i64 0), .p (.str []), .p (.int .i64 0), .p (.str [])], .struct [(0, 2, true), (2, 2, true)]⟩ := by unfold xTy withTy; rw [ty70]
theorem ty71 : tyOf Go.Proofs.Tryz.prog 71 = some ⟨true, 4, 48, [.p (.int .i64 0), .p (.str []), .p (.int .i64 0), .p (.str [])], .struct [(0, 2, true), (2, 2, true)]⟩ := by kernel_rfl
@[simp] theorem xt71 {f : Cont (TyI → Prop)} : @xTy Go.Proofs.Tryz.prog 71 f = f.k ⟨true, 4, 48, [.p (.int .i64 0), .p (.str []), .p (.int .i64 0), .p (.str [])], .struct [(0, 2, true), (2, 2, true)]⟩ := by unfold xTy withTy; rw [ty71]
theorem ty72 : tyOf Go.Proofs.Tryz.prog 72 = some ⟨true, 4, 32, [.p (.int .i64 0), .p (.int .i64 0), .p (.int .i64 0), .p (.int .i64 0)], .array 2 41⟩ := by kernel_rfl
@[simp] theorem xt72 {f : Cont (TyI → Prop)} : @xTy Go.Proofs.Tryz.prog 72 f = f.k ⟨true, 4, 32, [.p (.int .i64 0), .p (.int .i64 0), .p (.int .i64 0), .p (.int .i64 0)], .array 2 41⟩ := by unfold xTy withTy; rw [ty72]
theorem ty73 : tyOf Go.Proofs.Tryz.prog 73 = some ⟨false, 1, 8, [.p .nilf], .other⟩ := by kernel_rfl
@[simp] theorem xt73 {f : Cont (TyI → Prop)} : @xTy Go.Proofs.Tryz.prog 73 f = f.k ⟨false, 1, 8, [.p .nilf], .other⟩ := by unfold xTy withTy; rw [ty73]
theorem ty74 : tyOf Go.Proofs.Tryz.prog 74 = some ⟨false, 1, 8, [.p .nilf], .other⟩ := by kernel_rfl
@[simp] theorem xt74 {f : Cont (TyI → Prop)} : @xTy Go.Proofs.Tryz.prog 74 f = f.k ⟨false, 1, 8, [.p .nilf], .other⟩ := by unfold xTy withTy; rw [ty74]
theorem ty75 : tyOf Go.Proofs.Tryz.prog 75 = some ⟨false, 1, 8, [.p .nilf], .other⟩ := by kernel_rfl
@[simp] theorem xt75 {f : Cont (TyI → Prop)} : @xTy Go.Proofs.Tryz.prog 75 f = f.k ⟨false, 1, 8, [.p .nilf], .other⟩ := by unfold xTy withTy; rw [ty75]
theorem ty76 : tyOf Go.Proofs.Tryz.prog 76 = some ⟨false, 1, 8, [.p .nilf], .other⟩ := by kernel_rfl
@[simp] theorem xt76 {f : Cont (TyI → Prop)} : @xTy Go.Proofs.Tryz.prog 76 f = f.k ⟨false, 1, 8, [.p .nilf], .other⟩ := by unfold xTy withTy; rw [ty76]
theorem ty77 : tyOf Go.Proofs.Tryz.prog 77 = some ⟨false, 1, 8, [.p .nilf], .other⟩ := by kernel_rfl
@[simp] theorem xt77 {f : Cont (TyI → Prop)} : @xTy Go.Proofs.Tryz.prog 77 f = f.k ⟨false, 1, 8, [.p .nilf], .other⟩ := by unfold xTy withTy; rw [ty77]
theorem ty78 : tyOf Go.Proofs.Tryz.prog 78 = some ⟨false, 1, 8, [.p .nilf], .other⟩ := by kernel_rfl
@[simp] theorem xt78 {f : Cont (TyI → Prop)} : @xTy Go.Proofs.Tryz.prog 78 f = f.k ⟨false, 1, 8, [.p .nilf], .other⟩ := by unfold xTy withTy; rw [ty78]
theorem ty79 : tyOf Go.Proofs.Tryz.prog 79 = some ⟨false, 1, 24, [.nils], .slice 42⟩ := by kernel_rfl
@[simp] theorem xt79 {f : Cont (TyI → Prop)} : @xTy Go.Proofs.Tryz.prog 79 f = f.k ⟨false, 1, 24, [.nils], .slice 42⟩ := by unfold xTy withTy; rw [ty79]
theorem ty80 : tyOf Go.Proofs.Tryz.prog 80 = some ⟨false, 1, 8, [.p .nilf], .other⟩ := by kernel_rfl
@[simp] theorem xt80 {f : Cont (TyI → Prop)} : @xTy Go.Proofs.Tryz.prog 80 f = f.k ⟨false, 1, 8, [.p .nilf], .other⟩ := by unfold xTy withTy; rw [ty80]
theorem ty81 : tyOf Go.Proofs.Tryz.prog 81 = some ⟨false, 1, 8, [.p .nilf], .other⟩ := by kernel_rfl
@[simp] theorem xt81 {f : Cont (TyI → Prop)} : @xTy Go.Proofs.Tryz.prog 81 f = f.k ⟨false, 1, 8, [.p .nilf], .other⟩ := by unfold xTy withTy; rw [ty81]
theorem ty82 : tyOf Go.Proofs.Tryz.prog 82 = some ⟨false, 1, 8, [.p .nilf], .other⟩ := by kernel_rfl
@[simp] theorem xt82 {f : Cont (TyI → Prop)} : @xTy Go.Proofs.Tryz.prog 82 f = f.k ⟨false, 1, 8, [.p .nilf], .other⟩ := by unfold xTy withTy; rw [ty82]
theorem ty83 : tyOf Go.Proofs.Tryz.prog 83 = some ⟨false, 1, 8, [.p (.int .u64 0)], .int .u64⟩ := by kernel_rfl
@[simp] theorem xt83 {f : Cont (TyI → Prop)} : @xTy Go.Proofs.Tryz.prog 83 f = f.k ⟨false, 1, 8, [.p (.int .u64 0)], .int .u64⟩ := by unfold xTy withTy; rw [ty83]
theorem ty84 : tyOf Go.Proofs.Tryz.prog 84 = some ⟨false, 1, 8, [.p .nilf], .other⟩ := by kernel_rfl
@[simp] theorem xt84 {f : Cont (TyI → Prop)} : @xTy Go.Proofs.Tryz.prog 84 f = f.k ⟨false, 1, 8, [.p .nilf], .other⟩ := by unfold xTy withTy; rw [ty84]
theorem ty85 : tyOf Go.Proofs.Tryz.prog 85 = some ⟨true, 5, 40, [.p (.int .i64 0), .p (.int .i64 0), .p (.int .i64 0), .p (.int .i64 0), .p (.int .i64 0)], .array 5 3⟩ := by kernel_rfl
@[simp] theorem xt85 {f : Cont (TyI → Prop)} : @xTy Go.Proofs.Tryz.prog 85 f = f.k ⟨true, 5, 40, [.p (.int .i64 0), .p (.int .i64 0), .p (.int .i64 0), .p (.int .i64 0), .p (.int .i64 0)], .array 5 3⟩ := by unfold xTy withTy; rw [ty85]
theorem ty86 : tyOf Go.Proofs.Tryz.prog 86 = some ⟨false, 1, 8, [.p .nilf], .other⟩ := by kernel_rfl
@[simp] theorem xt86 {f : Cont (TyI → Prop)} : @xTy Go.Proofs.Tryz.prog 86 f = f.k ⟨false, 1, 8, [.p .nilf], .other⟩ := by unfold xTy withTy; rw [ty86]
theorem ty87 : tyOf Go.Proofs.Tryz.prog 87 = some ⟨false, 1, 8, [.p .nilf], .other⟩ := by kernel_rfl
@[simp] theorem xt87 {f : Cont (TyI → Prop)} : @xTy Go.Proofs.Tryz.prog 87 f = f.k ⟨false, 1, 8, [.p .nilf], .other⟩ := by unfold xTy withTy; rw [ty87]
theorem ty88 : tyOf Go.Proofs.Tryz.prog 88 = some ⟨false, 1, 8, [.p .nilf], .other⟩ := by kernel_rfl
@[simp] theorem xt88 {f : Cont (TyI → Prop)} : @xTy Go.Proofs.Tryz.prog 88 f = f.k ⟨false, 1, 8, [.p .nilf], .other⟩ := by unfold xTy withTy; rw [ty88]
theorem ty89 : tyOf Go.Proofs.Tryz.prog 89 = some ⟨false, 1, 8, [.p .nilf], .other⟩ := by kernel_rfl
@[simp] theorem xt89 {f : Cont (TyI → Prop)} : @xTy Go.Proofs.Tryz.prog 89 f = f.k ⟨false, 1, 8, [.p .nilf], .other⟩ := by unfold xTy withTy; rw [ty89]
theorem ty90 : tyOf Go.Proofs.Tryz.prog 90 = some ⟨false, 1, 8, [.p .nilf], .other⟩ := by kernel_rfl
@[simp] theorem xt90 {f : Cont (TyI → Prop)} : @xTy Go.Proofs.Tryz.prog 90 f = f.k ⟨false, 1, 8, [.p .nilf], .other⟩ := by unfold xTy withTy; rw [ty90]
theorem ty91 : tyOf Go.Proofs.Tryz.prog 91 = some ⟨false, 1, 8, [.nilm], .map 9 41⟩ := by kernel_rfl
@[simp] theorem xt91 {f : Cont (TyI → Prop)} : @xTy Go.Proofs.Tryz.prog 91 f = f.k ⟨false, 1, 8, [.nilm], .map 9 41⟩ := by unfold xTy withTy; rw [ty91]
theorem ty92 : tyOf Go.Proofs.Tryz.prog 92 = some ⟨false, 1, 8, [.p .nilf], .other⟩ := by kernel_rfl
@[simp] theorem xt92 {f : Cont (TyI → Prop)} : @xTy Go.Proofs.Tryz.prog 92 f = f.k ⟨false, 1, 8, [.p .nilf], .other⟩ := by unfold xTy withTy; rw [ty92]
theorem ty93 : tyOf Go.Proofs.Tryz.prog 93 = some ⟨true, 3, 32, [.p (.int .i64 0), .p (.str []), .p (.int .i64 0)], .struct [(0, 1, false), (1, 1, false), (2, 1, false)]⟩ := by kernel_rfl
@[simp] theorem xt93 {f : Cont (TyI → Prop)} : @xTy Go.Proofs.Tryz.prog 93 f = f.k ⟨true, 3, 32, [.p (.int .i64 0), .p (.str []), .p (.int .i64 0)], .struct [(0, 1, false), (1, 1, false), (2, 1, false)]⟩ := by unfold xTy withTy; rw [ty93]
theorem ty94 : tyOf Go.Proofs.Tryz.prog 94 = some ⟨true, 3, 32, [.p (.int .i64 0), .p (.str []), .p (.int .i64 0)], .struct [(0, 1, false), (1, 1, false), (2, 1, false)]⟩ := by kernel_rfl
@[simp] theorem xt94 {f : Cont (TyI → Prop)} : @xTy Go.Proofs.Tryz.prog 94 f = f.k ⟨true, 3, 32, [.p (.int .i64 0), .p (.str []), .p (.int .i64 0)], .struct [(0, 1, false), (1, 1, false), (2, 1, false)]⟩ := by unfold xTy withTy; rw [ty94]
theorem ty95 : tyOf Go.Proofs.Tryz.prog 95 = some ⟨false, 1, 8, [.p .nilf], .other⟩ := by kernel_rfl
@[simp] theorem xt95 {f : Cont (TyI → Prop)} : @xTy Go.Proofs.Tryz.prog 95 f = f.k ⟨false, 1, 8, [.p .nilf], .other⟩ := by unfold xTy withTy; rw [ty95]
theorem ty96 : tyOf Go.Proofs.Tryz.prog 96 = some ⟨false, 1, 8, [.p .nilf], .other⟩ := by kernel_rfl
@[simp] theorem xt96 {f : Cont (TyI → Prop)} : @xTy Go.Proofs.Tryz.prog 96 f = f.k ⟨false, 1, 8, [.p .nilf], .other⟩ := by unfold xTy withTy; rw [ty96]
theorem ty97 : tyOf Go.Proofs.Tryz.prog 97 = some ⟨false, 1, 8, [.p .nilf], .other⟩ := by kernel_rfl
@[simp] theorem xt97 {f : Cont (TyI → Prop)} : @xTy Go.Proofs.Tryz.prog 97 f = f.k ⟨false, 1, 8, [.p .nilf], .other⟩ := by unfold xTy withTy; rw [ty97]
theorem ty98 : tyOf Go.Proofs.Tryz.prog 98 = some ⟨false, 1, 8, [.p .nilf], .other⟩ := by kernel_rfl
@[simp] theorem xt98 {f : Cont (TyI → Prop)} : @xTy Go.Proofs.Tryz.prog 98 f = f.k ⟨false, 1, 8, [.p .nilf], .other⟩ := by unfold xTy withTy; rw [ty98]
theorem ty99 : tyOf Go.Proofs.Tryz.prog 99 = some ⟨false, 1, 0, [.any], .other⟩ := by kernel_rfl
@[simp] theorem xt99 {f : Cont (TyI → Prop)} : @xTy Go.Proofs.Tryz.prog 99 f = f.k ⟨false, 1, 0, [.any], .other⟩ := by unfold xTy withTy; rw [ty99]
theorem ty100 : tyOf Go.Proofs.Tryz.prog 100 = some ⟨false, 1, 8, [.p .nilf], .other⟩ := by kernel_rfl
@[simp] theorem xt100 {f : Cont (TyI → Prop)} : @xTy Go.Proofs.Tryz.prog 100 f = f.k ⟨false, 1, 8, [.p .nilf], .other⟩ := by unfold xTy withTy; rw [ty100]
theorem ty101 : tyOf Go.Proofs.Tryz.prog 101 = some ⟨false, 1, 8, [.p .nilf], .other⟩ := by kernel_rfl
@[simp] theorem xt101 {f : Cont (TyI → Prop)} : @xTy Go.Proofs.Tryz.prog 101 f = f.k ⟨false, 1, 8, [.p .nilf], .other⟩ := by unfold xTy withTy; rw [ty101]
theorem ty102 : tyOf Go.Proofs.Tryz.prog 102 = some ⟨false, 1, 8, [.p .nilf], .other⟩ := by kernel_rfl
@[simp] theorem xt102 {f : Cont (TyI → Prop)} : @xTy Go.Proofs.Tryz.prog 102 f = f.k ⟨false, 1, 8, [.p .nilf], .other⟩ := by unfold xTy withTy; rw [ty102]
theorem ty103 : tyOf Go.Proofs.Tryz.prog 103 = some ⟨false, 1, 8, [.p .nilf], .other⟩ := by kernel_rfl
@[simp] theorem xt103 {f : Cont (TyI → Prop)} : @xTy Go.Proofs.Tryz.prog 103 f = f.k ⟨false, 1, 8, [.p .nilf], .other⟩ := by unfold xTy withTy; rw [ty103]
theorem ty104 : tyOf Go.Proofs.Tryz.prog 104 = some ⟨false, 1, 8, [.p .nilf], .other⟩ := by kernel_rfl
@[simp] theorem xt104 {f : Cont (TyI → Prop)} : @xTy Go.Proofs.Tryz.prog 104 f = f.k ⟨false, 1, 8, [.p .nilf], .other⟩ := by unfold xTy withTy; rw [ty104]
theorem ty105 : tyOf Go.Proofs.Tryz.prog 105 = some ⟨false, 1, 8, [.p (.int .i64 0)], .int .i64⟩ := by kernel_rfl
@[simp] theorem xt105 {f : Cont (TyI → Prop)} : @xTy Go.Proofs.Tryz.prog 105 f = f.k ⟨false, 1, 8, [.p (.int .i64 0)], .int .i64⟩ := by unfold xTy withTy; rw [ty105]
theorem ty106 : tyOf Go.Proofs.Tryz.prog 106 = some ⟨false, 1, 0, [.any], .other⟩ := by kernel_rfl
@[simp] theorem xt106 {f : Cont (TyI → Prop)} : @xTy Go.Proofs.Tryz.prog 106 f = f.k ⟨false, 1, 0, [.any], .other⟩ := by unfold xTy withTy; rw [ty106]
theorem ty107 : tyOf Go.Proofs.Tryz.prog 107 = some ⟨false, 1, 8, [.p .nilf], .other⟩ := by kernel_rfl
@[simp] theorem xt107 {f : Cont (TyI → Prop)} : @xTy Go.Proofs.Tryz.prog 107 f = f.k ⟨false, 1, 8, [.p .nilf], .other⟩ := by unfold xTy withTy; rw [ty107]
theorem ty108 : tyOf Go.Proofs.Tryz.prog 108 = some ⟨false, 1, 8, [.p .nilf], .other⟩ := by kernel_rfl
@[simp] theorem xt108 {f : Cont (TyI → Prop)} : @xTy Go.Proofs.Tryz.prog 108 f = f.k ⟨false, 1, 8, [.p .nilf], .other⟩ := by unfold xTy withTy; rw [ty108]
theorem ty109 : tyOf Go.Proofs.Tryz.prog 109 = some ⟨false, 1, 8, [.p .nilf], .other⟩ := by kernel_rfl
@[simp] theorem xt109 {f : Cont (TyI → Prop)} : @xTy Go.Proofs.Tryz.prog 109 f = f.k ⟨false, 1, 8, [.p .nilf], .other⟩ := by unfold xTy withTy; rw [ty109]
theorem ty110 : tyOf Go.Proofs.Tryz.prog 110 = some ⟨false, 1, 8, [.p .nilf], .other⟩ := by kernel_rfl
@[simp] theorem xt110 {f : Cont (TyI → Prop)} : @xTy Go.Proofs.Tryz.prog 110 f = f.k ⟨false, 1, 8, [.p .nilf], .other⟩ := by unfold xTy withTy; rw [ty110]
theorem ty111 : tyOf Go.Proofs.Tryz.prog 111 = some ⟨false, 1, 0, [.any], .other⟩ := by kernel_rfl
@[simp] theorem xt111 {f : Cont (TyI → Prop)} : @xTy Go.Proofs.Tryz.prog 111 f = f.k ⟨false, 1, 0, [.any], .other⟩ := by unfold xTy withTy; rw [ty111]
theorem ty112 : tyOf Go.Proofs.Tryz.prog 112 = some ⟨false, 1, 8, [.p .nilf], .other⟩ := by kernel_rfl
@[simp] theorem xt112 {f : Cont (TyI → Prop)} : @xTy Go.Proofs.Tryz.prog 112 f = f.k ⟨false, 1, 8, [.p .nilf], .other⟩ := by unfold xTy withTy; rw [ty112]
theorem ty113 : tyOf Go.Proofs.Tryz.prog 113 = some ⟨false, 1, 8, [.p .nilf], .other⟩ := by kernel_rfl
@[simp] theorem xt113 {f : Cont (TyI → Prop)} : @xTy Go.Proofs.Tryz.prog 113 f = f.k ⟨false, 1, 8, [.p .nilf], .other⟩ := by unfold xTy withTy; rw [ty113]
theorem ty114 : tyOf Go.Proofs.Tryz.prog 114 = some ⟨false, 1, 4, [.p (.int .u32 0)], .int .u32⟩ := by kernel_rfl
@[simp] theorem xt114 {f : Cont (TyI → Prop)} : @xTy Go.Proofs.Tryz.prog 114 f = f.k ⟨false, 1, 4, [.p (.int .u32 0)], .int .u32⟩ := by unfold xTy withTy; rw [ty114]
theorem ty115 : tyOf Go.Proofs.Tryz.prog 115 = some ⟨false, 1, 8, [.p .nilf], .other⟩ := by kernel_rfl
@[simp] theorem xt115 {f : Cont (TyI → Prop)} : @xTy Go.Proofs.Tryz.prog 115 f = f.k ⟨false, 1, 8, [.p .nilf], .other⟩ := by unfold xTy withTy; rw [ty115]
theorem ty116 : tyOf Go.Proofs.Tryz.prog 116 = some ⟨false, 1, 8, [.p (.int .u64 0)], .int .u64⟩ := by kernel_rfl
@[simp] theorem xt116 {f : Cont (TyI → Prop)} : @xTy Go.Proofs.Tryz.prog 116 f = f.k ⟨false, 1, 8, [.p (.int .u64 0)], .int .u64⟩ := by unfold xTy withTy; rw [ty116]
theorem ty117 : tyOf Go.Proofs.Tryz.prog 117 = some ⟨false, 1, 8, [.p .nilf], .other⟩ := by kernel_rfl
@[simp] theorem xt117 {f : Cont (TyI → Prop)} : @xTy Go.Proofs.Tryz.prog 117 f = f.k ⟨false, 1, 8, [.p .nilf], .other⟩ := by unfold xTy withTy; rw [ty117]
theorem ty118 : tyOf Go.Proofs.Tryz.prog 118 = some ⟨false, 1, 8, [.p .nilf], .other⟩ := by kernel_rfl
@[simp] theorem xt118 {f : Cont (TyI → Prop)} : @xTy Go.Proofs.Tryz.prog 118 f = f.k ⟨false, 1, 8, [.p .nilf], .other⟩ := by unfold xTy withTy; rw [ty118]
theorem ty119 : tyOf Go.Proofs.Tryz.prog 119 = some ⟨false, 1, 8, [.p .nilf], .other⟩ := by kernel_rfl
@[simp] theorem xt119 {f : Cont (TyI → Prop)} : @xTy Go.Proofs.Tryz.prog 119 f = f.k ⟨false, 1, 8, [.p .nilf], .other⟩ := by unfold xTy withTy; rw [ty119]
theorem ty120 : tyOf Go.Proofs.Tryz.prog 120 = some ⟨false, 1, 8, [.p .nilf], .other⟩ := by kernel_rfl
@[simp] theorem xt120 {f : Cont (TyI → Prop)} : @xTy Go.Proofs.Tryz.prog 120 f = f.k ⟨false, 1, 8, [.p .nilf], .other⟩ := by unfold xTy withTy; rw [ty120]
theorem ty121 : tyOf Go.Proofs.Tryz.prog 121 = some ⟨false, 1, 8, [.p .nilf], .other⟩ := by kernel_rfl
@[simp] theorem xt121 {f : Cont (TyI → Prop)} : @xTy Go.Proofs.Tryz.prog 121 f = f.k ⟨false, 1, 8, [.p .nilf], .other⟩ := by unfold xTy withTy; rw [ty121]
theorem ty122 : tyOf Go.Proofs.Tryz.prog 122 = some ⟨false, 1, 0, [.any], .other⟩ := by kernel_rfl
@[simp] theorem xt122 {f : Cont (TyI → Prop)} : @xTy Go.Proofs.Tryz.prog 122 f = f.k ⟨false, 1, 0, [.any], .other⟩ := by unfold xTy withTy; rw [ty122]
theorem ty123 : tyOf Go.Proofs.Tryz.prog 123 = some ⟨false, 1, 8, [.p .nilf], .other⟩ := by kernel_rfl
@[simp] theorem xt123 {f : Cont (TyI → Prop)} : @xTy Go.Proofs.Tryz.prog 123 f = f.k ⟨false, 1, 8, [.p .nilf], .other⟩ := by unfold xTy withTy; rw [ty123]
theorem ty124 : tyOf Go.Proofs.Tryz.prog 124 = some ⟨false, 1, 0, [.any], .other⟩ := by kernel_rfl
@[simp] theorem xt124 {f : Cont (TyI → Prop)} : @xTy Go.Proofs.Tryz.prog 124 f = f.k ⟨false, 1, 0, [.any], .other⟩ := by unfold xTy withTy; rw [ty124]
theorem ty125 : tyOf Go.Proofs.Tryz.prog 125 = some ⟨false, 1, 8, [.p .nilf], .other⟩ := by kernel_rfl
@[simp] theorem xt125 {f : Cont (TyI → Prop)} : @xTy Go.Proofs.Tryz.prog 125 f = f.k ⟨false, 1, 8, [.p .nilf], .other⟩ := by unfold xTy withTy; rw [ty125]
theorem ty126 : tyOf Go.Proofs.Tryz.prog 126 = some ⟨false, 1, 8, [.p .nilf], .other⟩ := by kernel_rfl
@[simp] theorem xt126 {f : Cont (TyI → Prop)} : @xTy Go.Proofs.Tryz.prog 126 f = f.k ⟨false, 1, 8, [.p .nilf], .other⟩ := by unfold xTy withTy; rw [ty126]
theorem ty127 : tyOf Go.Proofs.Tryz.prog 127 = some ⟨false, 1, 8, [.p .nilf], .other⟩ := by kernel_rfl
@[simp] theorem xt127 {f : Cont (TyI → Prop)} : @xTy Go.Proofs.Tryz.prog 127 f = f.k ⟨false, 1, 8, [.p .nilf], .other⟩ := by unfold xTy withTy; rw [ty127]
theorem ty128 : tyOf Go.Proofs.Tryz.prog 128 = some ⟨false, 1, 8, [.p .nilf], .other⟩ := by kernel_rfl
@[simp] theorem xt128 {f : Cont (TyI → Prop)} : @xTy Go.Proofs.Tryz.prog 128 f = f.k ⟨false, 1, 8, [.p .nilf], .other⟩ := by unfold xTy withTy; rw [ty128]
theorem ty129 : tyOf Go.Proofs.Tryz.prog 129 = some ⟨true, 5, 80, [.p (.str []), .p (.str []), .p (.str []), .p (.str []), .p (.str [])], .array 5 9⟩ := by kernel_rfl
@[simp] theorem xt129 {f : Cont (TyI → Prop)} : @xTy Go.Proofs.Tryz.prog 129 f = f.k ⟨true, 5, 80, [.p (.str []), .p (.str []), .p (.str []), .p (.str []), .p (.str [])], .array 5 9⟩ := by unfold xTy withTy; rw [ty129]
theorem ty130 : tyOf Go.Proofs.Tryz.prog 130 = some ⟨true, 7, 112, [.p (.str []), .p (.str []), .p (.str []), .p (.str []), .p (.str []), .p (.str []), .p (.str [])], .struct [(0, 1, false), (1, 1, false), (2, 5, true)]⟩ := by kernel_rfl
@[simp] theorem xt130 {f : Cont (TyI → Prop)} : @xTy Go.Proofs.Tryz.prog 130 f = f.k ⟨true, 7, 112, [.p (.str []), .p (.str []), .p (.str []), .p (.str []), .p (.str []), .p (.str []), .p (.str [])], .struct [(0, 1, false), (1, 1, false), (2, 5, true)]⟩ := by unfold xTy withTy; rw [ty130]
theorem ty131 : tyOf Go.Proofs.Tryz.prog 131 = some ⟨true, 7, 112, [.p (.str []), .p (.str []), .p (.str []), .p (.str []), .p (.str []), .p (.str []), .p (.str [])], .struct [(0, 1, false), (1, 1, false), (2, 5, true)]⟩ := by kernel_rfl
@[simp] theorem xt131 {f : Cont (TyI → Prop)} : @xTy Go.Proofs.Tryz.prog 131 f = f.k ⟨true, 7, 112, [.p (.str []), .p (.str []), .p (.str []), .p (.str []), .p (.str []), .p (.str []), .p (.str [])], .struct [(0, 1, false), (1, 1, false), (2, 5, true)]⟩ := by unfold xTy withTy; rw [ty131]
theorem ty132 : tyOf Go.Proofs.Tryz.prog 132 = some ⟨false, 1, 24, [.nils], .slice 131⟩ := by kernel_rfl
@[simp] theorem xt132 {f : Cont (TyI → Prop)} : @xTy Go.Proofs.Tryz.prog 132 f = f.k ⟨false, 1, 24, [.nils], .slice 131⟩ := by unfold xTy withTy; rw [ty132]
theorem ty133 : tyOf Go.Proofs.Tryz.prog 133 = some ⟨false, 1, 8, [.p .nilf], .other⟩ := by kernel_rfl
@[simp] theorem xt133 {f : Cont (TyI → Prop)} : @xTy Go.Proofs.Tryz.prog 133 f = f.k ⟨false, 1, 8, [.p .nilf], .other⟩ := by unfold xTy withTy; rw [ty133]
theorem ty134 : tyOf Go.Proofs.Tryz.prog 134 = some ⟨false, 1, 0, [.any], .other⟩ := by kernel_rfl
@[simp] theorem xt134 {f : Cont (TyI → Prop)} : @xTy Go.Proofs.Tryz.prog 134 f = f.k ⟨false, 1, 0, [.any], .other⟩ := by unfold xTy withTy; rw [ty134]
theorem ty135 : tyOf Go.Proofs.Tryz.prog 135 = some ⟨false, 1, 8, [.p .nilf], .other⟩ := by kernel_rfl
@[simp] theorem xt135 {f : Cont (TyI → Prop)} : @xTy Go.Proofs.Tryz.prog 135 f = f.k ⟨false, 1, 8, [.p .nilf], .other⟩ := by unfold xTy withTy; rw [ty135]
theorem ty136 : tyOf Go.Proofs.Tryz.prog 136 = some ⟨false, 1, 8, [.nilm], .map 41 9⟩ := by kernel_rfl
@[simp] theorem xt136 {f : Cont (TyI → Prop)} : @xTy Go.Proofs.Tryz.prog 136 f = f.k ⟨false, 1, 8, [.nilm], .map 41 9⟩ := by unfold xTy withTy; rw [ty136]
theorem ty137 : tyOf Go.Proofs.Tryz.prog 137 = some ⟨false, 1, 0, [.any], .other⟩ := by kernel_rfl
@[simp] theorem xt137 {f : Cont (TyI → Prop)} : @xTy Go.Proofs.Tryz.prog 137 f = f.k ⟨false, 1, 0, [.any], .other⟩ := by unfold xTy withTy; rw [ty137]
theorem ty138 : tyOf Go.Proofs.Tryz.prog 138 = some ⟨false, 1, 8, [.p .nilf], .other⟩ := by kernel_rfl
@[simp] theorem xt138 {f : Cont (TyI → Prop)} : @xTy Go.Proofs.Tryz.prog 138 f = f.k ⟨false, 1, 8, [.p .nilf], .other⟩ := by unfold xTy withTy; rw [ty138]
theorem ty139 : tyOf Go.Proofs.Tryz.prog 139 = some ⟨false, 1, 8, [.p .nilf], .other⟩ := by kernel_rfl
@[simp] theorem xt139 {f : Cont (TyI → Prop)} : @xTy Go.Proofs.Tryz.prog 139 f = f.k ⟨false, 1, 8, [.p .nilf], .other⟩ := by unfold xTy withTy; rw [ty139]
theorem ty141 : tyOf Go.Proofs.Tryz.prog 141 = some ⟨false, 1, 8, [.p .nilf], .other⟩ := by kernel_rfl
@[simp] theorem xt141 {f : Cont (TyI → Prop)} : @xTy Go.Proofs.Tryz.prog 141 f = f.k ⟨false, 1, 8, [.p .nilf], .other⟩ := by unfold xTy withTy; rw [ty141]
theorem ty142 : tyOf Go.Proofs.Tryz.prog 142 = some ⟨false, 1, 8, [.p .nilf], .other⟩ := by kernel_rfl
@[simp] theorem xt142 {f : Cont (TyI → Prop)} : @xTy Go.Proofs.Tryz.prog 142 f = f.k ⟨false, 1, 8, [.p .nilf], .other⟩ := by unfold xTy withTy; rw [ty142]
theorem ty143 : tyOf Go.Proofs.Tryz.prog 143 = some ⟨false, 1, 8, [.p .nilf], .other⟩ := by kernel_rfl
@[simp] theorem xt143 {f : Cont (TyI → Prop)} : @xTy Go.Proofs.Tryz.prog 143 f = f.k ⟨false, 1, 8, [.p .nilf], .other⟩ := by unfold xTy withTy; rw [ty143]
theorem ty144 : tyOf Go.Proofs.Tryz.prog 144 = some ⟨false, 1, 8, [.p .nilf], .other⟩ := by kernel_rfl
@[simp] theorem xt144 {f : Cont (TyI → Prop)} : @xTy Go.Proofs.Tryz.prog 144 f = f.k ⟨false, 1, 8, [.p .nilf], .other⟩ := by unfold xTy withTy; rw [ty144]
theorem ty145 : tyOf Go.Proofs.Tryz.prog 145 = some ⟨false, 1, 8, [.p (.int .u64 0)], .int .u64⟩ := by kernel_rfl
@[simp] theorem xt145 {f : Cont (TyI → Prop)} : @xTy Go.Proofs.Tryz.prog 145 f = f.k ⟨false, 1, 8, [.p (.int .u64 0)], .int .u64⟩ := by unfold xTy withTy; rw [ty145]
theorem ty146 : tyOf Go.Proofs.Tryz.prog 146 = some ⟨false, 1, 8, [.p .nilf], .other⟩ := by kernel_rfl
@[simp] theorem xt146 {f : Cont (TyI → Prop)} : @xTy Go.Proofs.Tryz.prog 146 f = f.k ⟨false, 1, 8, [.p .nilf], .other⟩ := by unfold xTy withTy; rw [ty146]
theorem ty147 : tyOf Go.Proofs.Tryz.prog 147 = some ⟨false, 1, 8, [.p .nilf], .other⟩ := by kernel_rfl
@[simp] theorem xt147 {f : Cont (TyI → Prop)} : @xTy Go.Proofs.Tryz.prog 147 f = f.k ⟨false, 1, 8, [.p .nilf], .other⟩ := by unfold xTy withTy; rw [ty147]
theorem ty148 : tyOf Go.Proofs.Tryz.prog 148 = some ⟨false, 1, 8, [.p .nilf], .other⟩ := by kernel_rfl
@[simp] theorem xt148 {f : Cont (TyI → Prop)} : @xTy Go.Proofs.Tryz.prog 148 f = f.k ⟨false, 1, 8, [.p .nilf], .other⟩ := by unfold xTy withTy; rw [ty148]
theorem ty149 : tyOf Go.Proofs.Tryz.prog 149 = some ⟨false, 1, 8, [.nilp], .other⟩ := by kernel_rfl
@[simp] theorem xt149 {f : Cont (TyI → Prop)} : @xTy Go.Proofs.Tryz.prog 149 f = f.k ⟨false, 1, 8, [.nilp], .other⟩ := by unfold xTy withTy; rw [ty149]
theorem ty150 : tyOf Go.Proofs.Tryz.prog 150 = some ⟨false, 1, 8, [.p .nilf], .other⟩ := by kernel_rfl
@[simp] theorem xt150 {f : Cont (TyI → Prop)} : @xTy Go.Proofs.Tryz.prog 150 f = f.k ⟨false, 1, 8, [.p .nilf], .other⟩ := by unfold xTy withTy; rw [ty150]
theorem ty151 : tyOf Go.Proofs.Tryz.prog 151 = some ⟨false, 1, 8, [.p .nilf], .other⟩ := by kernel_rfl
@[simp] theorem xt151 {f : Cont (TyI → Prop)} : @xTy Go.Proofs.Tryz.prog 151 f = f.k ⟨false, 1, 8, [.p .nilf], .other⟩ := by unfold xTy withTy; rw [ty151]
theorem ty152 : tyOf Go.Proofs.Tryz.prog 152 = some ⟨true, 5, 120, [.nils, .nils, .nils, .nils, .nils], .array 5 55⟩ := by kernel_rfl
@[simp] theorem xt152 {f : Cont (TyI → Prop)} : @xTy Go.Proofs.Tryz.prog 152 f = f.k ⟨true, 5, 120, [.nils, .nils, .nils, .nils, .nils], .array 5 55⟩ := by unfold xTy withTy; rw [ty152]
theorem ty153 : tyOf Go.Proofs.Tryz.prog 153 = some ⟨false, 1, 8, [.p .nilf], .other⟩ := by kernel_rfl
@[simp] theorem xt153 {f : Cont (TyI → Prop)} : @xTy Go.Proofs.Tryz.prog 153 f = f.k ⟨false, 1, 8, [.p .nilf], .other⟩ := by unfold xTy withTy; rw [ty153]
theorem ty154 : tyOf Go.Proofs.Tryz.prog 154 = some ⟨false, 1, 8, [.p .nilf], .other⟩ := by kernel_rfl
@[simp] theorem xt154 {f : Cont (TyI → Prop)} : @xTy Go.Proofs.Tryz.prog 154 f = f.k ⟨false, 1, 8, [.p .nilf], .other⟩ := by unfold xTy withTy; rw [ty154]
theorem ty155 : tyOf Go.Proofs.Tryz.prog 155 = some ⟨true, 12, 208, [.p (.str []), .p (.str []), .nils, .nils, .nils, .nils, .nils, .p (.str []), .p (.str []), .p (.int .i64 0), .p .nilf, .p .nilf], .struct [(0, 1, false), (1, 1, false), (2, 5, true), (7, 1, false), (8, 1, false), (9, 1, false), (10, 1, false), (11, 1, false)]⟩ := by kernel_rfl
@[simp] theorem xt155 {f : Cont (TyI → Prop)} : @xTy Go.Proofs.Tryz.prog 155 f = f.k ⟨true, 12, 208, [.p (.str []), .p (.str []), .nils, .nils, .nils, .nils, .nils, .p (.str []), .p (.str []), .p (.int .i64 0), .p .nilf, .p .nilf], .struct [(0, 1, false), (1, 1, false), (2, 5, true), (7, 1, false), (8, 1, false), (9, 1, false), (10, 1, false), (11, 1, false)]⟩ := by unfold xTy withTy; rw [ty155]
theorem ty156 : tyOf Go.Proofs.Tryz.prog 156 = some ⟨true, 12, 208, [.p (.str []), .p (.str []), .nils, .nils, .nils, .nils, .nils, .p (.str []), .p (.str []), .p (.int .i64 0), .p .nilf, .p .nilf], .struct [(0, 1, false), (1, 1, false), (2, 5, true), (7, 1, false), (8, 1, false), (9, 1, false), (10, 1, false), (11, 1, false)]⟩ := by kernel_rfl
@[simp] theorem xt156 {f : Cont (TyI → Prop)} : @xTy Go.Proofs.Tryz.prog 156 f = f.k ⟨true, 12, 208, [.p (.str []), .p (.str []), .nils, .nils, .nils, .nils, .nils, .p (.str []), .p (.str []), .p (.int .i64 0), .p .nilf, .p .nilf], .struct [(0, 1, false), (1, 1, false), (2, 5, true), (7, 1, false), (8, 1, false), (9, 1, false), (10, 1, false), (11, 1, false)]⟩ := by unfold xTy withTy; rw [ty156]
theorem ty157 : tyOf Go.Proofs.Tryz.prog 157 = some ⟨false, 1, 0, [.any], .other⟩ := by kernel_rfl
@[simp] theorem xt157 {f : Cont (TyI → Prop)} : @xTy Go.Proofs.Tryz.prog 157 f = f.k ⟨false, 1, 0, [.any], .other⟩ := by unfold xTy withTy; rw [ty157]
theorem ty158 : tyOf Go.Proofs.Tryz.prog 158 = some ⟨false, 1, 8, [.p .nilf], .other⟩ := by kernel_rfl
@[simp] theorem xt158 {f : Cont (TyI → Prop)} : @xTy Go.Proofs.Tryz.prog 158 f = f.k ⟨false, 1, 8, [.p .nilf], .other⟩ := by unfold xTy withTy; rw [ty158]
theorem ty159 : tyOf Go.Proofs.Tryz.prog 159 = some ⟨false, 1, 8, [.p .nilf], .other⟩ := by kernel_rfl
@[simp] theorem xt159 {f : Cont (TyI → Prop)} : @xTy Go.Proofs.Tryz.prog 159 f = f.k ⟨false, 1, 8, [.p .nilf], .other⟩ := by unfold xTy withTy; rw [ty159]
theorem ty160 : tyOf Go.Proofs.Tryz.prog 160 = some ⟨false, 1, 8, [.p .nilf], .other⟩ := by kernel_rfl
@[simp] theorem xt160 {f : Cont (TyI → Prop)} : @xTy Go.Proofs.Tryz.prog 160 f = f.k ⟨false, 1, 8, [.p .nilf], .other⟩ := by unfold xTy withTy; rw [ty160]
theorem ty161 : tyOf Go.Proofs.Tryz.prog 161 = some ⟨false, 1, 24, [.nils], .slice 69⟩ := by kernel_rfl
@[simp] theorem xt161 {f : Cont (TyI → Prop)} : @xTy Go.Proofs.Tryz.prog 161 f = f.k ⟨false, 1, 24, [.nils], .slice 69⟩ := by unfold xTy withTy; rw [ty161]
theorem ty162 : tyOf Go.Proofs.Tryz.prog 162 = some ⟨false, 1, 8, [.p .nilf], .other⟩ := by kernel_rfl
@[simp] theorem xt162 {f : Cont (TyI → Prop)} : @xTy Go.Proofs.Tryz.prog 162 f = f.k ⟨false, 1, 8, [.p .nilf], .other⟩ := by unfold xTy withTy; rw [ty162]
theorem ty163 : tyOf Go.Proofs.Tryz.prog 163 = some ⟨false, 1, 8, [.p .nilf], .other⟩ := by kernel_rfl
@[simp] theorem xt163 {f : Cont (TyI → Prop)} : @xTy Go.Proofs.Tryz.prog 163 f = f.k ⟨false, 1, 8, [.p .nilf], .other⟩ := by unfold xTy withTy; rw [ty163]
theorem ty164 : tyOf Go.Proofs.Tryz.prog 164 = some ⟨false, 1, 8, [.p .nilf], .other⟩ := by kernel_rfl
@[simp] theorem xt164 {f : Cont (TyI → Prop)} : @xTy Go.Proofs.Tryz.prog 164 f = f.k ⟨false, 1, 8, [.p .nilf], .other⟩ := by unfold xTy withTy; rw [ty164]
theorem ty165 : tyOf Go.Proofs.Tryz.prog 165 = some ⟨false, 1, 8, [.p .nilf], .other⟩ := by kernel_rfl
@[simp] theorem xt165 {f : Cont (TyI → Prop)} : @xTy Go.Proofs.Tryz.prog 165 f = f.k ⟨false, 1, 8, [.p .nilf], .other⟩ := by unfold xTy withTy; rw [ty165]
theorem ty166 : tyOf Go.Proofs.Tryz.prog 166 = some ⟨false, 1, 8, [.nilm], .map 69 161⟩ := by kernel_rfl
@[simp] theorem xt166 {f : Cont (TyI → Prop)} : @xTy Go.Proofs.Tryz.prog 166 f = f.k ⟨false, 1, 8, [.nilm], .map 69 161⟩ := by unfold xTy withTy; rw [ty166]
theorem ty167 : tyOf Go.Proofs.Tryz.prog 167 = some ⟨true, 4, 80, [.nils, .nils, .nils, .nilm], .struct [(0, 2, true), (2, 1, false), (3, 1, false)]⟩ := by kernel_rfl
@[simp] theorem xt167 {f : Cont (TyI → Prop)} : @xTy Go.Proofs.Tryz.prog 167 f = f.k ⟨true, 4, 80, [.nils, .nils, .nils, .nilm], .struct [(0, 2, true), (2, 1, false), (3, 1, false)]⟩ := by unfold xTy withTy; rw [ty167]
theorem ty168 : tyOf Go.Proofs.Tryz.prog 168 = some ⟨true, 4, 80, [.nils, .nils, .nils, .nilm], .struct [(0, 2, true), (2, 1, false), (3, 1, false)]⟩ := by kernel_rfl
@[simp] theorem xt168 {f : Cont (TyI → Prop)} : @xTy Go.Proofs.Tryz.prog 168 f = f.k ⟨true, 4, 80, [.nils, .nils, .nils, .nilm], .struct [(0, 2, true), (2, 1, false), (3, 1, false)]⟩ := by unfold xTy withTy; rw [ty168]
theorem ty169 : tyOf Go.Proofs.Tryz.prog 169 = some ⟨false, 1, 0, [.any], .other⟩ := by kernel_rfl
@[simp] theorem xt169 {f : Cont (TyI → Prop)} : @xTy Go.Proofs.Tryz.prog 169 f = f.k ⟨false, 1, 0, [.any], .other⟩ := by unfold xTy withTy; rw [ty169]
theorem ty170 : tyOf Go.Proofs.Tryz.prog 170 = some ⟨false, 1, 8, [.p .nilf], .other⟩ := by kernel_rfl
@[simp] theorem xt170 {f : Cont (TyI → Prop)} : @xTy Go.Proofs.Tryz.prog 170 f = f.k ⟨false, 1, 8, [.p .nilf], .other⟩ := by unfold xTy withTy; rw [ty170]
theorem ty171 : tyOf Go.Proofs.Tryz.prog 171 = some ⟨false, 1, 8, [.p .nilf], .other⟩ := by kernel_rfl
@[simp] theorem xt171 {f : Cont (TyI → Prop)} : @xTy Go.Proofs.Tryz.prog 171 f = f.k ⟨false, 1, 8, [.p .nilf], .other⟩ := by unfold xTy withTy; rw [ty171]
theorem ty172 : tyOf Go.Proofs.Tryz.prog 172 = some ⟨false, 1, 8, [.p .nilf], .other⟩ := by kernel_rfl
@[simp] theorem xt172 {f : Cont (TyI → Prop)} : @xTy Go.Proofs.Tryz.prog 172 f = f.k ⟨false, 1, 8, [.p .nilf], .other⟩ := by unfold xTy withTy; rw [ty172]
theorem ty173 : tyOf Go.Proofs.Tryz.prog 173 = some ⟨false, 1, 8, [.p .nilf], .other⟩ := by kernel_rfl
@[simp] theorem xt173 {f : Cont (TyI → Prop)} : @xTy Go.Proofs.Tryz.prog 173 f = f.k ⟨false, 1, 8, [.p .nilf], .other⟩ := by unfold xTy withTy; rw [ty173]
theorem ty174 : tyOf Go.Proofs.Tryz.prog 174 = some ⟨false, 1, 8, [.p .nilf], .other⟩ := by kernel_rfl
@[simp] theorem xt174 {f : Cont (TyI → Prop)} : @xTy Go.Proofs.Tryz.prog 174 f = f.k ⟨false, 1, 8, [.p .nilf], .other⟩ := by unfold xTy withTy; rw [ty174]
theorem ty175 : tyOf Go.Proofs.Tryz.prog 175 = some ⟨false, 1, 8, [.p .nilf], .other⟩ := by kernel_rfl
@[simp] theorem xt175 {f : Cont (TyI → Prop)} : @xTy Go.Proofs.Tryz.prog 175 f = f.k ⟨false, 1, 8, [.p .nilf], .other⟩ := by unfold xTy withTy; rw [ty175]
theorem ty176 : tyOf Go.Proofs.Tryz.prog 176 = some ⟨false, 1, 8, [.p .nilf], .other⟩ := by kernel_rfl
@[simp] theorem xt176 {f : Cont (TyI → Prop)} : @xTy Go.Proofs.Tryz.prog 176 f = f.k ⟨false, 1, 8, [.p .nilf], .other⟩ := by unfold xTy withTy; rw [ty176]
theorem ty177 : tyOf Go.Proofs.Tryz.prog 177 = some ⟨false, 1, 8, [.p .nilf], .other⟩ := by kernel_rfl
@[simp] theorem xt177 {f : Cont (TyI → Prop)} : @xTy Go.Proofs.Tryz.prog 177 f = f.k ⟨false, 1, 8, [.p .nilf], .other⟩ := by unfold xTy withTy; rw [ty177]
theorem ty178 : tyOf Go.Proofs.Tryz.prog 178 = some ⟨false, 1, 8, [.p .nilf], .other⟩ := by kernel_rfl
@[simp] theorem xt178 {f : Cont (TyI → Prop)} : @xTy Go.Proofs.Tryz.prog 178 f = f.k ⟨false, 1, 8, [.p .nilf], .other⟩ := by unfold xTy withTy; rw [ty178]
theorem ty179 : tyOf Go.Proofs.Tryz.prog 179 = some ⟨false, 1, 8, [.p .nilf], .other⟩ := by kernel_rfl
@[simp] theorem xt179 {f : Cont (TyI → Prop)} : @xTy Go.Proofs.Tryz.prog 179 f = f.k ⟨false, 1, 8, [.p .nilf], .other⟩ := by unfold xTy withTy; rw [ty179]
theorem ty180 : tyOf Go.Proofs.Tryz.prog 180 = some ⟨false, 1, 0, [.any], .other⟩ := by kernel_rfl
@[simp] theorem xt180 {f : Cont (TyI → Prop)} : @xTy Go.Proofs.Tryz.prog 180 f = f.k ⟨false, 1, 0, [.any], .other⟩ := by unfold xTy withTy; rw [ty180]
theorem ty181 : tyOf Go.Proofs.Tryz.prog 181 = some ⟨false, 1, 8, [.p .nilf], .other⟩ := by kernel_rfl
@[simp] theorem xt181 {f : Cont (TyI → Prop)} : @xTy Go.Proofs.Tryz.prog 181 f = f.k ⟨false, 1, 8, [.p .nilf], .other⟩ := by unfold xTy withTy; rw [ty181]
theorem ty182 : tyOf Go.Proofs.Tryz.prog 182 = some ⟨false, 1, 8, [.p .nilf], .other⟩ := by kernel_rfl
@[simp] theorem xt182 {f : Cont (TyI → Prop)} : @xTy Go.Proofs.Tryz.prog 182 f = f.k ⟨false, 1, 8, [.p .nilf], .other⟩ := by unfold xTy withTy; rw [ty182]
theorem ty183 : tyOf Go.Proofs.Tryz.prog 183 = some ⟨false, 1, 8, [.nilp], .other⟩ := by kernel_rfl
@[simp] theorem xt183 {f : Cont (TyI → Prop)} : @xTy Go.Proofs.Tryz.prog 183 f = f.k ⟨false, 1, 8, [.nilp], .other⟩ := by unfold xTy withTy; rw [ty183]
theorem ty184 : tyOf Go.Proofs.Tryz.prog 184 = some ⟨false, 1, 24, [.nils], .slice 5⟩ := by kernel_rfl
@[simp] theorem xt184 {f : Cont (TyI → Prop)} : @xTy Go.Proofs.Tryz.prog 184 f = f.k ⟨false, 1, 24, [.nils], .slice 5⟩ := by unfold xTy withTy; rw [ty184]
theorem ty185 : tyOf Go.Proofs.Tryz.prog 185 = some ⟨true, 2, 32, [.nilp, .nils], .struct [(0, 1, false), (1, 1, false)]⟩ := by kernel_rfl
@[simp] theorem xt185 {f : Cont (TyI → Prop)} : @xTy Go.Proofs.Tryz.prog 185 f = f.k ⟨true, 2, 32, [.nilp, .nils], .struct [(0, 1, false), (1, 1, false)]⟩ := by unfold xTy withTy; rw [ty185]
theorem ty186 : tyOf Go.Proofs.Tryz.prog 186 = some ⟨true, 2, 32, [.nilp, .nils], .struct [(0, 1, false), (1, 1, false)]⟩ := by kernel_rfl
@[simp] theorem xt186 {f : Cont (TyI → Prop)} : @xTy Go.Proofs.Tryz.prog 186 f = f.k ⟨true, 2, 32, [.nilp, .nils], .struct [(0, 1, false), (1, 1, false)]⟩ := by unfold xTy withTy; rw [ty186]
theorem ty187 : tyOf Go.Proofs.Tryz.prog 187 = some ⟨false, 1, 8, [.p .nilf], .other⟩ := by kernel_rfl
@[simp] theorem xt187 {f : Cont (TyI → Prop)} : @xTy Go.Proofs.Tryz.prog 187 f = f.k ⟨false, 1, 8, [.p .nilf], .other⟩ := by unfold xTy withTy; rw [ty187]
theorem ty188 : tyOf Go.Proofs.Tryz.prog 188 = some ⟨false, 1, 16, [.p .nilif], .other⟩ := by kernel_rfl
@[simp] theorem xt188 {f : Cont (TyI → Prop)} : @xTy Go.Proofs.Tryz.prog 188 f = f.k ⟨false, 1, 16, [.p .nilif], .other⟩ := by unfold xTy withTy; rw [ty188]
theorem ty189 : tyOf Go.Proofs.Tryz.prog 189 = some ⟨false, 1, 16, [.p .nilif], .other⟩ := by kernel_rfl
@[simp] theorem xt189 {f : Cont (TyI → Prop)} : @xTy Go.Proofs.Tryz.prog 189 f = f.k ⟨false, 1, 16, [.p .nilif], .other⟩ := by unfold xTy withTy; rw [ty189]
theorem ty190 : tyOf Go.Proofs.Tryz.prog 190 = some ⟨false, 1, 0, [.any], .other⟩ := by kernel_rfl
@[simp] theorem xt190 {f : Cont (TyI → Prop)} : @xTy Go.Proofs.Tryz.prog 190 f = f.k ⟨false, 1, 0, [.any], .other⟩ := by unfold xTy withTy; rw [ty190]
theorem ty191 : tyOf Go.Proofs.Tryz.prog 191 = some ⟨false, 1, 8, [.p .nilf], .other⟩ := by kernel_rfl
@[simp] theorem xt191 {f : Cont (TyI → Prop)} : @xTy Go.Proofs.Tryz.prog 191 f = f.k ⟨false, 1, 8, [.p .nilf], .other⟩ := by unfold xTy withTy; rw [ty191]
theorem ty192 : tyOf Go.Proofs.Tryz.prog 192 = some ⟨false, 1, 8, [.p .nilf], .other⟩ := by kernel_rfl
@[simp] theorem xt192 {f : Cont (TyI → Prop)} : @xTy Go.Proofs.Tryz.prog 192 f = f.k ⟨false, 1, 8, [.p .nilf], .other⟩ := by unfold xTy withTy; rw [ty192]
theorem ty193 : tyOf Go.Proofs.Tryz.prog 193 = some ⟨false, 1, 8, [.p .nilf], .other⟩ := by kernel_rfl
@[simp] theorem xt193 {f : Cont (TyI → Prop)} : @xTy Go.Proofs.Tryz.prog 193 f = f.k ⟨false, 1, 8, [.p .nilf], .other⟩ := by unfold xTy withTy; rw [ty193]
theorem ty194 : tyOf Go.Proofs.Tryz.prog 194 = some ⟨false, 1, 8, [.p .nilf], .other⟩ := by kernel_rfl
@[simp] theorem xt194 {f : Cont (TyI → Prop)} : @xTy Go.Proofs.Tryz.prog 194 f = f.k ⟨false, 1, 8, [.p .nilf], .other⟩ := by unfold xTy withTy; rw [ty194]
theorem ty197 : tyOf Go.Proofs.Tryz.prog 197 = some ⟨false, 1, 0, [.any], .other⟩ := by kernel_rfl
@[simp] theorem xt197 {f : Cont (TyI → Prop)} : @xTy Go.Proofs.Tryz.prog 197 f = f.k ⟨false, 1, 0, [.any], .other⟩ := by unfold xTy withTy; rw [ty197]
theorem ty198 : tyOf Go.Proofs.Tryz.prog 198 = some ⟨false, 1, 8, [.p .nilf], .other⟩ := by kernel_rfl
@[simp] theorem xt198 {f : Cont (TyI → Prop)} : @xTy Go.Proofs.Tryz.prog 198 f = f.k ⟨false, 1, 8, [.p .nilf], .other⟩ := by unfold xTy withTy; rw [ty198]
theorem ty199 : tyOf Go.Proofs.Tryz.prog 199 = some ⟨false, 1, 8, [.p .nilf], .other⟩ := by kernel_rfl
@[simp] theorem xt199 {f : Cont (TyI → Prop)} : @xTy Go.Proofs.Tryz.prog 199 f = f.k ⟨false, 1, 8, [.p .nilf], .other⟩ := by unfold xTy withTy; rw [ty199]
theorem ty200 : tyOf Go.Proofs.Tryz.prog 200 = some ⟨false, 1, 8, [.nilp], .arrp 256 4⟩ := by kernel_rfl
@[simp] theorem xt200 {f : Cont (TyI → Prop)} : @xTy Go.Proofs.Tryz.prog 200 f = f.k ⟨false, 1, 8, [.nilp], .arrp 256 4⟩ := by unfold xTy withTy; rw [ty200]
theorem ty201 : tyOf Go.Proofs.Tryz.prog 201 = some ⟨false, 1, 24, [.nils], .slice 203⟩ := by kernel_rfl
@[simp] theorem xt201 {f : Cont (TyI → Prop)} : @xTy Go.Proofs.Tryz.prog 201 f = f.k ⟨false, 1, 24, [.nils], .slice 203⟩ := by unfold xTy withTy; rw [ty201]
theorem ty202 : tyOf Go.Proofs.Tryz.prog 202 = some ⟨true, 2, 16, [.p (.int .i64 0), .p (.int .i64 0)], .struct [(0, 1, false), (1, 1, false)]⟩ := by kernel_rfl
@[simp] theorem xt202 {f : Cont (TyI → Prop)} : @xTy Go.Proofs.Tryz.prog 202 f = f.k ⟨true, 2, 16, [.p (.int .i64 0), .p (.int .i64 0)], .struct [(0, 1, false), (1, 1, false)]⟩ := by unfold xTy withTy; rw [ty202]
theorem ty203 : tyOf Go.Proofs.Tryz.prog 203 = some ⟨true, 2, 16, [.p (.int .i64 0), .p (.int .i64 0)], .struct [(0, 1, false), (1, 1, false)]⟩ := by kernel_rfl
@[simp] theorem xt203 {f : Cont (TyI → Prop)} : @xTy Go.Proofs.Tryz.prog 203 f = f.k ⟨true, 2, 16, [.p (.int .i64 0), .p (.int .i64 0)], .struct [(0, 1, false), (1, 1, false)]⟩ := by unfold xTy withTy; rw [ty203]
theorem ty204 : tyOf Go.Proofs.Tryz.prog 204 = some ⟨false, 1, 8, [.p .nilf], .other⟩ := by kernel_rfl
@[simp] theorem xt204 {f : Cont (TyI → Prop)} : @xTy Go.Proofs.Tryz.prog 204 f = f.k ⟨false, 1, 8, [.p .nilf], .other⟩ := by unfold xTy withTy; rw [ty204]
theorem ty205 : tyOf Go.Proofs.Tryz.prog 205 = some ⟨false, 1, 8, [.nilp], .other⟩ := by kernel_rfl
@[simp] theorem xt205 {f : Cont (TyI → Prop)} : @xTy Go.Proofs.Tryz.prog 205 f = f.k ⟨false, 1, 8, [.nilp], .other⟩ := by unfold xTy withTy; rw [ty205]
theorem ty206 : tyOf Go.Proofs.Tryz.prog 206 = some ⟨false, 1, 8, [.nilp], .other⟩ := by kernel_rfl
@[simp] theorem xt206 {f : Cont (TyI → Prop)} : @xTy Go.Proofs.Tryz.prog 206 f = f.k ⟨false, 1, 8, [.nilp], .other⟩ := by unfold xTy withTy; rw [ty206]
theorem ty207 : tyOf Go.Proofs.Tryz.prog 207 = some ⟨false, 1, 8, [.p .nilf], .other⟩ := by kernel_rfl
@[simp] theorem xt207 {f : Cont (TyI → Prop)} : @xTy Go.Proofs.Tryz.prog 207 f = f.k ⟨false, 1, 8, [.p .nilf], .other⟩ := by unfold xTy withTy; rw [ty207]
theorem ty208 : tyOf Go.Proofs.Tryz.prog 208 = some ⟨true, 168, 2912, [.p (.str []), .p (.str []), .nils, .nils, .nils, .nils, .nils, .p (.str []), .p (.str []), .p (.int .i64 0), .p .nilf, .p .nilf, .p (.str []), .p (.str []), .nils, .nils, .nils, .nils, .nils, .p (.str []), .p (.str []), .p (.int .i64 0), .p .nilf, .p .nilf, .p (.str []), .p (.str []), .nils, .nils, .nils, .nils, .nils, .p (.str []), .p (.str []), .p (.int .i64 0), .p .nilf, .p .nilf, .p (.str []), .p (.str []), .nils, .nils, .nils, .nils, .nils, .p (.str []), .p (.str []), .p (.int .i64 0), .p .nilf, .p .nilf, .p (.str []), .p (.str []), .nils, .nils, .nils, .nils, .nils, .p (.str []), .p (.str []), .p (.int .i64 0), .p .nilf, .p .nilf, .p (.str []), .p (.str []), .nils, .nils, .nils, .nils, .nils, .p (.str []), .p (.str []), .p (.int .i64 0), .p .nilf, .p .nilf, .p (.str []), .p (.str []), .nils, .nils, .nils, .nils, .nils, .p (.str []), .p (.str []), .p (.int .i64 0), .p .nilf, .p .nilf, .p (.str []), .p (.str []), .nils, .nils, .nils, .nils, .nils, .p (.str []), .p (.str []), .p (.int .i64 0), .p .nilf, .p .nilf, .p (.str []), .p (.str []), .nils, .nils, .nils, .nils, .nils, .p (.str []), .p (.str []), .p (.int .i64 0), .p .nilf, .p .nilf, .p (.str []), .p (.str []), .nils, .nils, .nils, .nils, .nils, .p (.str []), .p (.str []), .p (.int .i64 0), .p .nilf, .p .nilf, .p (.str []), .p (.str []), .nils, .nils, .nils, .nils, .nils, .p (.str []), .p (.str []), .p (.int .i64 0), .p .nilf, .p .nilf, .p (.str []), .p (.str []), .nils, .nils, .nils, .nils, .nils, .p (.str []), .p (.str []), .p (.int .i64 0), .p .nilf, .p .nilf, .p (.str []), .p (.str []), .nils, .nils, .nils, .nils, .nils, .p (.str []), .p (.str []), .p (.int .i64 0), .p .nilf, .p .nilf, .p (.str []), .p (.str []), .nils, .nils, .nils, .nils, .nils, .p (.str []), .p (.str []), .p (.int .i64 0), .p .nilf, .p .nilf], .array 14 156⟩ := by kernel_rfl
@[simp] theorem xt208 {f : Cont (TyI → Prop)} : @xTy Go.Proofs.Tryz.prog 208 f = f.k ⟨true, 168, 2912, [.p (.str []), .p (.str []), .nils, .nils, .nils, .nils, .nils, .p (.str []), .p (.str []), .p (.int .i64 0), .p .nilf, .p .nilf, .p (.str []), .p (.str []), .nils, .nils, .nils, .nils, .nils, .p (.str []), .p (.str []), .p (.int .i64 0), .p .nilf, .p .nilf, .p (.str []), .p (.str []), .nils, .nils, .nils, .nils, .nils, .p (.str []), .p (.str []), .p (.int .i64 0), .p .nilf, .p .nilf, .p (.str []), .p (.str []), .nils, .nils, .nils, .nils, .nils, .p (.str []), .p (.str []), .p (.int .i64 0), .p .nilf, .p .nilf, .p (.str []), .p (.str []), .nils, .nils, .nils, .nils, .nils, .p (.str []), .p (.str []), .p (.int .i64 0), .p .nilf, .p .nilf, .p (.str []), .p (.str []), .nils, .nils, .nils, .nils, .nils, .p (.str []), .p (.str []), .p (.int .i64 0), .p .nilf, .p .nilf, .p (.str []), .p (.str []), .nils, .nils, .nils, .nils, .nils, .p (.str []), .p (.str []), .p (.int .i64 0), .p .nilf, .p .nilf, .p (.str []), .p (.str []), .nils, .nils, .nils, .nils, .nils, .p (.str []), .p (.str []), .p (.int .i64 0), .p .nilf, .p .nilf, .p (.str []), .p (.str []), .nils, .nils, .nils, .nils, .nils, .p (.str []), .p (.str []), .p (.int .i64 0), .p .nilf, .p .nilf, .p (.str []), .p (.str []), .nils, .nils, .nils, .nils, .nils, .p (.str []), .p (.str []), .p (.int .i64 0), .p .nilf, .p .nilf, .p (.str []), .p (.str []), .nils, .nils, .nils, .nils, .nils, .p (.str []), .p (.str []), .p (.int .i64 0), .p .nilf, .p .nilf, .p (.str []), .p (.str []), .nils, .nils, .nils, .nils, .nils, .p (.str []), .p (.str []), .p (.int .i64 0), .p .nilf, .p .nilf, .p (.str []), .p (.str []), .nils, .nils, .nils, .nils, .nils, .p (.str []), .p (.str []), .p (.int .i64 0), .p .nilf, .p .nilf, .p (.str []), .p (.str []), .nils, .nils, .nils, .nils, .nils, .p (.str []), .p (.str []), .p (.int .i64 0), .p .nilf, .p .nilf], .array 14 156⟩ := by unfold xTy withTy; rw [ty208]
theorem ty209 : tyOf Go.Proofs.Tryz.prog 209 = some ⟨false, 1, 8, [.p .nilf], .other⟩ := by kernel_rfl
@[simp] theorem xt209 {f : Cont (TyI → Prop)} : @xTy Go.Proofs.Tryz.prog 209 f = f.k ⟨false, 1, 8, [.p .nilf], .other⟩ := by unfold xTy withTy; rw [ty209]
theorem ty210 : tyOf Go.Proofs.Tryz.prog 210 = some ⟨false, 1, 8, [.p .nilf], .other⟩ := by kernel_rfl
@[simp] theorem xt210 {f : Cont (TyI → Prop)} : @xTy Go.Proofs.Tryz.prog 210 f = f.k ⟨false, 1, 8, [.p .nilf], .other⟩ := by unfold xTy withTy; rw [ty210]
theorem ty211 : tyOf Go.Proofs.Tryz.prog 211 = some ⟨false, 1, 8, [.p .nilf], .other⟩ := by kernel_rfl
@[simp] theorem xt211 {f : Cont (TyI → Prop)} : @xTy Go.Proofs.Tryz.prog 211 f = f.k ⟨false, 1, 8, [.p .nilf], .other⟩ := by unfold xTy withTy; rw [ty211]
theorem ty212 : tyOf Go.Proofs.Tryz.prog 212 = some ⟨false, 1, 8, [.p .nilf], .other⟩ := by kernel_rfl
@[simp] theorem xt212 {f : Cont (TyI → Prop)} : @xTy Go.Proofs.Tryz.prog 212 f = f.k ⟨false, 1, 8, [.p .nilf], .other⟩ := by unfold xTy withTy; rw [ty212]
theorem ty213 : tyOf Go.Proofs.Tryz.prog 213 = some ⟨false, 1, 8, [.p .nilf], .other⟩ := by kernel_rfl
@[simp] theorem xt213 {f : Cont (TyI → Prop)} : @xTy Go.Proofs.Tryz.prog 213 f = f.k ⟨false, 1, 8, [.p .nilf], .other⟩ := by unfold xTy withTy; rw [ty213]
theorem ty214 : tyOf Go.Proofs.Tryz.prog 214 = some ⟨false, 1, 8, [.p .nilf], .other⟩ := by kernel_rfl
@[simp] theorem xt214 {f : Cont (TyI → Prop)} : @xTy Go.Proofs.Tryz.prog 214 f = f.k ⟨false, 1, 8, [.p .nilf], .other⟩ := by unfold xTy withTy; rw [ty214]
theorem ty215 : tyOf Go.Proofs.Tryz.prog 215 = some ⟨false, 1, 8, [.p .nilf], .other⟩ := by kernel_rfl
@[simp] theorem xt215 {f : Cont (TyI → Prop)} : @xTy Go.Proofs.Tryz.prog 215 f = f.k ⟨false, 1, 8, [.p .nilf], .other⟩ := by unfold xTy withTy; rw [ty215]
theorem ty216 : tyOf Go.Proofs.Tryz.prog 216 = some ⟨false, 1, 8, [.p .nilf], .other⟩ := by kernel_rfl
@[simp] theorem xt216 {f : Cont (TyI → Prop)} : @xTy Go.Proofs.Tryz.prog 216 f = f.k ⟨false, 1, 8, [.p .nilf], .other⟩ := by unfold xTy withTy; rw [ty216]
theorem ty217 : tyOf Go.Proofs.Tryz.prog 217 = some ⟨false, 1, 8, [.p .nilf], .other⟩ := by kernel_rfl
@[simp] theorem xt217 {f : Cont (TyI → Prop)} : @xTy Go.Proofs.Tryz.prog 217 f = f.k ⟨false, 1, 8, [.p .nilf], .other⟩ := by unfold xTy withTy; rw [ty217]
theorem ty218 : tyOf Go.Proofs.Tryz.prog 218 = some ⟨false, 1, 8, [.p .nilf], .other⟩ := by kernel_rfl
@[simp] theorem xt218 {f : Cont (TyI → Prop)} : @xTy Go.Proofs.Tryz.prog 218 f = f.k ⟨false, 1, 8, [.p .nilf], .other⟩ := by unfold xTy withTy; rw [ty218]
theorem ty219 : tyOf Go.Proofs.Tryz.prog 219 = some ⟨false, 1, 8, [.p .nilf], .other⟩ := by kernel_rfl
@[simp] theorem xt219 {f : Cont (TyI → Prop)} : @xTy Go.Proofs.Tryz.prog 219 f = f.k ⟨false, 1, 8, [.p .nilf], .other⟩ := by unfold xTy withTy; rw [ty219]
theorem ty220 : tyOf Go.Proofs.Tryz.prog 220 = some ⟨false, 1, 0, [.any], .other⟩ := by kernel_rfl
@[simp] theorem xt220 {f : Cont (TyI → Prop)} : @xTy Go.Proofs.Tryz.prog 220 f = f.k ⟨false, 1, 0, [.any], .other⟩ := by unfold xTy withTy; rw [ty220]
theorem ty221 : tyOf Go.Proofs.Tryz.prog 221 = some ⟨false, 1, 8, [.p .nilf], .other⟩ := by kernel_rfl
@[simp] theorem xt221 {f : Cont (TyI → Prop)} : @xTy Go.Proofs.Tryz.prog 221 f = f.k ⟨false, 1, 8, [.p .nilf], .other⟩ := by unfold xTy withTy; rw [ty221]
theorem ty222 : tyOf Go.Proofs.Tryz.prog 222 = some ⟨false, 1, 24, [.nils], .slice 161⟩ := by kernel_rfl
@[simp] theorem xt222 {f : Cont (TyI → Prop)} : @xTy Go.Proofs.Tryz.prog 222 f = f.k ⟨false, 1, 24, [.nils], .slice 161⟩ := by unfold xTy withTy; rw [ty222]
theorem ty223 : tyOf Go.Proofs.Tryz.prog 223 = some ⟨false, 1, 0, [.any], .other⟩ := by kernel_rfl
@[simp] theorem xt223 {f : Cont (TyI → Prop)} : @xTy Go.Proofs.Tryz.prog 223 f = f.k ⟨false, 1, 0, [.any], .other⟩ := by unfold xTy withTy; rw [ty223]
theorem ty224 : tyOf Go.Proofs.Tryz.prog 224 = some ⟨false, 1, 8, [.p .nilf], .other⟩ := by kernel_rfl
@[simp] theorem xt224 {f : Cont (TyI → Prop)} : @xTy Go.Proofs.Tryz.prog 224 f = f.k ⟨false, 1, 8, [.p .nilf], .other⟩ := by unfold xTy withTy; rw [ty224]
theorem ty225 : tyOf Go.Proofs.Tryz.prog 225 = some ⟨false, 1, 8, [.p .nilf], .other⟩ := by kernel_rfl
@[simp] theorem xt225 {f : Cont (TyI → Prop)} : @xTy Go.Proofs.Tryz.prog 225 f = f.k ⟨false, 1, 8, [.p .nilf], .other⟩ := by unfold xTy withTy; rw [ty225]
theorem ty226 : tyOf Go.Proofs.Tryz.prog 226 = some ⟨false, 1, 8, [.p .nilf], .other⟩ := by kernel_rfl
@[simp] theorem xt226 {f : Cont (TyI → Prop)} : @xTy Go.Proofs.Tryz.prog 226 f = f.k ⟨false, 1, 8, [.p .nilf], .other⟩ := by unfold xTy withTy; rw [ty226]
theorem ty227 : tyOf Go.Proofs.Tryz.prog 227 = some ⟨false, 1, 8, [.p .nilf], .other⟩ := by kernel_rfl
@[simp] theorem xt227 {f : Cont (TyI → Prop)} : @xTy Go.Proofs.Tryz.prog 227 f = f.k ⟨false, 1, 8, [.p .nilf], .other⟩ := by unfold xTy withTy; rw [ty227]
theorem ty228 : tyOf Go.Proofs.Tryz.prog 228 = some ⟨false, 1, 8, [.p .nilf], .other⟩ := by kernel_rfl
@[simp] theorem xt228 {f : Cont (TyI → Prop)} : @xTy Go.Proofs.Tryz.prog 228 f = f.k ⟨false, 1, 8, [.p .nilf], .other⟩ := by unfold xTy withTy; rw [ty228]
theorem ty229 : tyOf Go.Proofs.Tryz.prog 229 = some ⟨false, 1, 8, [.p .nilf], .other⟩ := by kernel_rfl
@[simp] theorem xt229 {f : Cont (TyI → Prop)} : @xTy Go.Proofs.Tryz.prog 229 f = f.k ⟨false, 1, 8, [.p .nilf], .other⟩ := by unfold xTy withTy; rw [ty229]
theorem ty230 : tyOf Go.Proofs.Tryz.prog 230 = some ⟨false, 1, 0, [.any], .other⟩ := by kernel_rfl
@[simp] theorem xt230 {f : Cont (TyI → Prop)} : @xTy Go.Proofs.Tryz.prog 230 f = f.k ⟨false, 1, 0, [.any], .other⟩ := by unfold xTy withTy; rw [ty230]
theorem ty231 : tyOf Go.Proofs.Tryz.prog 231 = some ⟨false, 1, 8, [.p .nilf], .other⟩ := by kernel_rfl
@[simp] theorem xt231 {f : Cont (TyI → Prop)} : @xTy Go.Proofs.Tryz.prog 231 f = f.k ⟨false, 1, 8, [.p .nilf], .other⟩ := by unfold xTy withTy; rw [ty231]
theorem ty232 : tyOf Go.Proofs.Tryz.prog 232 = some ⟨false, 1, 0, [.any], .other⟩ := by kernel_rfl
@[simp] theorem xt232 {f : Cont (TyI → Prop)} : @xTy Go.Proofs.Tryz.prog 232 f = f.k ⟨false, 1, 0, [.any], .other⟩ := by unfold xTy withTy; rw [ty232]
theorem ty233 : tyOf Go.Proofs.Tryz.prog 233 = some ⟨false, 1, 8, [.p .nilf], .other⟩ := by kernel_rfl
@[simp] theorem xt233 {f : Cont (TyI → Prop)} : @xTy Go.Proofs.Tryz.prog 233 f = f.k ⟨false, 1, 8, [.p .nilf], .other⟩ := by unfold xTy withTy; rw [ty233]
theorem ty234 : tyOf Go.Proofs.Tryz.prog 234 = some ⟨false, 1, 8, [.nilp], .other⟩ := by kernel_rfl
@[simp] theorem xt234 {f : Cont (TyI → Prop)} : @xTy Go.Proofs.Tryz.prog 234 f = f.k ⟨false, 1, 8, [.nilp], .other⟩ := by unfold xTy withTy; rw [ty234]
theorem ty235 : tyOf Go.Proofs.Tryz.prog 235 = some ⟨false, 1, 8, [.p .nilf], .other⟩ := by kernel_rfl
@[simp] theorem xt235 {f : Cont (TyI → Prop)} : @xTy Go.Proofs.Tryz.prog 235 f = f.k ⟨false, 1, 8, [.p .nilf], .other⟩ := by unfold xTy withTy; rw [ty235]
theorem ty236 : tyOf Go.Proofs.Tryz.prog 236 = some ⟨false, 1, 0, [.any], .other⟩ := by kernel_rfl
@[simp] theorem xt236 {f : Cont (TyI → Prop)} : @xTy Go.Proofs.Tryz.prog 236 f = f.k ⟨false, 1, 0, [.any], .other⟩ := by unfold xTy withTy; rw [ty236]
theorem ty237 : tyOf Go.Proofs.Tryz.prog 237 = some ⟨false, 1, 8, [.p .nilf], .other⟩ := by kernel_rfl
@[simp] theorem xt237 {f : Cont (TyI → Prop)} : @xTy Go.Proofs.Tryz.prog 237 f = f.k ⟨false, 1, 8, [.p .nilf], .other⟩ := by unfold xTy withTy; rw [ty237]
theorem ty238 : tyOf Go.Proofs.Tryz.prog 238 = some ⟨false, 1, 8, [.p .nilf], .other⟩ := by kernel_rfl
@[simp] theorem xt238 {f : Cont (TyI → Prop)} : @xTy Go.Proofs.Tryz.prog 238 f = f.k ⟨false, 1, 8, [.p .nilf], .other⟩ := by unfold xTy withTy; rw [ty238]
theorem ty239 : tyOf Go.Proofs.Tryz.prog 239 = some ⟨false, 1, 24, [.nils], .slice 245⟩ := by kernel_rfl
@[simp] theorem xt239 {f : Cont (TyI → Prop)} : @xTy Go.Proofs.Tryz.prog 239 f = f.k ⟨false, 1, 24, [.nils], .slice 245⟩ := by unfold xTy withTy; rw [ty239]
theorem ty240 : tyOf Go.Proofs.Tryz.prog 240 = some ⟨false, 1, 24, [.nils], .slice 248⟩ := by kernel_rfl
@[simp] theorem xt240 {f : Cont (TyI → Prop)} : @xTy Go.Proofs.Tryz.prog 240 f = f.k ⟨false, 1, 24, [.nils], .slice 248⟩ := by unfold xTy withTy; rw [ty240]
theorem ty241 : tyOf Go.Proofs.Tryz.prog 241 = some ⟨true, 3, 56, [.nils, .nils, .p (.int .i64 0)], .struct [(0, 1, false), (1, 1, false), (2, 1, false)]⟩ := by kernel_rfl
@[simp] theorem xt241 {f : Cont (TyI → Prop)} : @xTy Go.Proofs.Tryz.prog 241 f = f.k ⟨true, 3, 56, [.nils, .nils, .p (.int .i64 0)], .struct [(0, 1, false), (1, 1, false), (2, 1, false)]⟩ := by unfold xTy withTy; rw [ty241]
theorem ty242 : tyOf Go.Proofs.Tryz.prog 242 = some ⟨true, 3, 56, [.nils, .nils, .p (.int .i64 0)], .struct [(0, 1, false), (1, 1, false), (2, 1, false)]⟩ := by kernel_rfl
@[simp] theorem xt242 {f : Cont (TyI → Prop)} : @xTy Go.Proofs.Tryz.prog 242 f = f.k ⟨true, 3, 56, [.nils, .nils, .p (.int .i64 0)], .struct [(0, 1, false), (1, 1, false), (2, 1, false)]⟩ := by unfold xTy withTy; rw [ty242]
theorem ty243 : tyOf Go.Proofs.Tryz.prog 243 = some ⟨false, 1, 2, [.p (.int .u16 0)], .int .u16⟩ := by kernel_rfl
@[simp] theorem xt243 {f : Cont (TyI → Prop)} : @xTy Go.Proofs.Tryz.prog 243 f = f.k ⟨false, 1, 2, [.p (.int .u16 0)], .int .u16⟩ := by unfold xTy withTy; rw [ty243]
theorem ty244 : tyOf Go.Proofs.Tryz.prog 244 = some ⟨true, 3, 6, [.p (.int .u16 0), .p (.int .u16 0), .p (.int .u16 0)], .struct [(0, 1, false), (1, 1, false), (2, 1, false)]⟩ := by kernel_rfl
@[simp] theorem xt244 {f : Cont (TyI → Prop)} : @xTy Go.Proofs.Tryz.prog 244 f = f.k ⟨true, 3, 6, [.p (.int .u16 0), .p (.int .u16 0), .p (.int .u16 0)], .struct [(0, 1, false), (1, 1, false), (2, 1, false)]⟩ := by unfold xTy withTy; rw [ty244]
theorem ty245 : tyOf Go.Proofs.Tryz.prog 245 = some ⟨true, 3, 6, [.p (.int .u16 0), .p (.int .u16 0), .p (.int .u16 0)], .struct [(0, 1, false), (1, 1, false), (2, 1, false)]⟩ := by kernel_rfl
@[simp] theorem xt245 {f : Cont (TyI → Prop)} : @xTy Go.Proofs.Tryz.prog 245 f = f.k ⟨true, 3, 6, [.p (.int .u16 0), .p (.int .u16 0), .p (.int .u16 0)], .struct [(0, 1, false), (1, 1, false), (2, 1, false)]⟩ := by unfold xTy withTy; rw [ty245]
theorem ty246 : tyOf Go.Proofs.Tryz.prog 246 = some ⟨false, 1, 8, [.p .nilf], .other⟩ := by kernel_rfl
@[simp] theorem xt246 {f : Cont (TyI → Prop)} : @xTy Go.Proofs.Tryz.prog 246 f = f.k ⟨false, 1, 8, [.p .nilf], .other⟩ := by unfold xTy withTy; rw [ty246]
theorem ty247 : tyOf Go.Proofs.Tryz.prog 247 = some ⟨true, 3, 12, [.p (.int .u32 0), .p (.int .u32 0), .p (.int .u32 0)], .struct [(0, 1, false), (1, 1, false), (2, 1, false)]⟩ := by kernel_rfl
@[simp] theorem xt247 {f : Cont (TyI → Prop)} : @xTy Go.Proofs.Tryz.prog 247 f = f.k ⟨true, 3, 12, [.p (.int .u32 0), .p (.int .u32 0), .p (.int .u32 0)], .struct [(0, 1, false), (1, 1, false), (2, 1, false)]⟩ := by unfold xTy withTy; rw [ty247]
theorem ty248 : tyOf Go.Proofs.Tryz.prog 248 = some ⟨true, 3, 12, [.p (.int .u32 0), .p (.int .u32 0), .p (.int .u32 0)], .struct [(0, 1, false), (1, 1, false), (2, 1, false)]⟩ := by kernel_rfl
@[simp] theorem xt248 {f : Cont (TyI → Prop)} : @xTy Go.Proofs.Tryz.prog 248 f = f.k ⟨true, 3, 12, [.p (.int .u32 0), .p (.int .u32 0), .p (.int .u32 0)], .struct [(0, 1, false), (1, 1, false), (2, 1, false)]⟩ := by unfold xTy withTy; rw [ty248]
theorem ty249 : tyOf Go.Proofs.Tryz.prog 249 = some ⟨false, 1, 8, [.p .nilf], .other⟩ := by kernel_rfl
@[simp] theorem xt249 {f : Cont (TyI → Prop)} : @xTy Go.Proofs.Tryz.prog 249 f = f.k ⟨false, 1, 8, [.p .nilf], .other⟩ := by unfold xTy withTy; rw [ty249]
theorem ty250 : tyOf Go.Proofs.Tryz.prog 250 = some ⟨false, 1, 8, [.p .nilf], .other⟩ := by kernel_rfl
@[simp] theorem xt250 {f : Cont (TyI → Prop)} : @xTy Go.Proofs.Tryz.prog 250 f = f.k ⟨false, 1, 8, [.p .nilf], .other⟩ := by unfold xTy withTy; rw [ty250]
theorem ty251 : tyOf Go.Proofs.Tryz.prog 251 = some ⟨false, 1, 8, [.p .nilf], .other⟩ := by kernel_rfl
@[simp] theorem xt251 {f : Cont (TyI → Prop)} : @xTy Go.Proofs.Tryz.prog 251 f = f.k ⟨false, 1, 8, [.p .nilf], .other⟩ := by unfold xTy withTy; rw [ty251]
theorem ty252 : tyOf Go.Proofs.Tryz.prog 252 = some ⟨false, 1, 8, [.p .nilf], .other⟩ := by kernel_rfl
@[simp] theorem xt252 {f : Cont (TyI → Prop)} : @xTy Go.Proofs.Tryz.prog 252 f = f.k ⟨false, 1, 8, [.p .nilf], .other⟩ := by unfold xTy withTy; rw [ty252]
theorem ty253 : tyOf Go.Proofs.Tryz.prog 253 = some ⟨true, 3, 3, [.p (.int .u8 0), .p (.int .u8 0), .p (.int .u8 0)], .array 3 5⟩ := by kernel_rfl
@[simp] theorem xt253 {f : Cont (TyI → Prop)} : @xTy Go.Proofs.Tryz.prog 253 f = f.k ⟨true, 3, 3, [.p (.int .u8 0), .p (.int .u8 0), .p (.int .u8 0)], .array 3 5⟩ := by unfold xTy withTy; rw [ty253]
theorem ty254 : tyOf Go.Proofs.Tryz.prog 254 = some ⟨true, 18, 18, [.p (.int .u8 0), .p (.int .u8 0), .p (.int .u8 0), .p (.int .u8 0), .p (.int .u8 0), .p (.int .u8 0), .p (.int .u8 0), .p (.int .u8 0), .p (.int .u8 0), .p (.int .u8 0), .p (.int .u8 0), .p (.int .u8 0), .p (.int .u8 0), .p (.int .u8 0), .p (.int .u8 0), .p (.int .u8 0), .p (.int .u8 0), .p (.int .u8 0)], .array 6 253⟩ := by kernel_rfl
@[simp] theorem xt254 {f : Cont (TyI → Prop)} : @xTy Go.Proofs.Tryz.prog 254 f = f.k ⟨true, 18, 18, [.p (.int .u8 0), .p (.int .u8 0), .p (.int .u8 0), .p (.int .u8 0), .p (.int .u8 0), .p (.int .u8 0), .p (.int .u8 0), .p (.int .u8 0), .p (.int .u8 0), .p (.int .u8 0), .p (.int .u8 0), .p (.int .u8 0), .p (.int .u8 0), .p (.int .u8 0), .p (.int .u8 0), .p (.int .u8 0), .p (.int .u8 0), .p (.int .u8 0)], .array 6 253⟩ := by unfold xTy withTy; rw [ty254]
theorem ty255 : tyOf Go.Proofs.Tryz.prog 255 = some ⟨false, 1, 8, [.p .nilf], .other⟩ := by kernel_rfl
@[simp] theorem xt255 {f : Cont (TyI → Prop)} : @xTy Go.Proofs.Tryz.prog 255 f = f.k ⟨false, 1, 8, [.p .nilf], .other⟩ := by unfold xTy withTy; rw [ty255]
theorem ty256 : tyOf Go.Proofs.Tryz.prog 256 = some ⟨false, 1, 8, [.p .nilf], .other⟩ := by kernel_rfl
@[simp] theorem xt256 {f : Cont (TyI → Prop)} : @xTy Go.Proofs.Tryz.prog 256 f = f.k ⟨false, 1, 8, [.p .nilf], .other⟩ := by unfold xTy withTy; rw [ty256]
theorem ty257 : tyOf Go.Proofs.Tryz.prog 257 = some ⟨false, 1, 24, [.nils], .slice 55⟩ := by kernel_rfl
@[simp] theorem xt257 {f : Cont (TyI → Prop)} : @xTy Go.Proofs.Tryz.prog 257 f = f.k ⟨false, 1, 24, [.nils], .slice 55⟩ := by unfold xTy withTy; rw [ty257]
theorem ty258 : tyOf Go.Proofs.Tryz.prog 258 = some ⟨false, 1, 8, [.p .nilf], .other⟩ := by kernel_rfl
@[simp] theorem xt258 {f : Cont (TyI → Prop)} : @xTy Go.Proofs.Tryz.prog 258 f = f.k ⟨false, 1, 8, [.p .nilf], .other⟩ := by unfold xTy withTy; rw [ty258]
theorem ty259 : tyOf Go.Proofs.Tryz.prog 259 = some ⟨false, 1, 8, [.p .nilf], .other⟩ := by kernel_rfl
@[simp] theorem xt259 {f : Cont (TyI → Prop)} : @xTy Go.Proofs.Tryz.prog 259 f = f.k ⟨false, 1, 8, [.p .nilf], .other⟩ := by unfold xTy withTy; rw [ty259]
theorem ty260 : tyOf Go.Proofs.Tryz.prog 260 = some ⟨false, 1, 8, [.p .nilf], .other⟩ := by kernel_rfl
@[simp] theorem xt260 {f : Cont (TyI → Prop)} : @xTy Go.Proofs.Tryz.prog 260 f = f.k ⟨false, 1, 8, [.p .nilf], .other⟩ := by unfold xTy withTy; rw [ty260]
theorem ty261 : tyOf Go.Proofs.Tryz.prog 261 = some ⟨false, 1, 8, [.p .nilf], .other⟩ := by kernel_rfl
@[simp] theorem xt261 {f : Cont (TyI → Prop)} : @xTy Go.Proofs.Tryz.prog 261 f = f.k ⟨false, 1, 8, [.p .nilf], .other⟩ := by unfold xTy withTy; rw [ty261]
theorem ty262 : tyOf Go.Proofs.Tryz.prog 262 = some ⟨false, 1, 8, [.p .nilf], .other⟩ := by kernel_rfl
@[simp] theorem xt262 {f : Cont (TyI → Prop)} : @xTy Go.Proofs.Tryz.prog 262 f = f.k ⟨false, 1, 8, [.p .nilf], .other⟩ := by unfold xTy withTy; rw [ty262]
theorem ty263 : tyOf Go.Proofs.Tryz.prog 263 = some ⟨false, 1, 8, [.p .nilf], .other⟩ := by kernel_rfl
@[simp] theorem xt263 {f : Cont (TyI → Prop)} : @xTy Go.Proofs.Tryz.prog 263 f = f.k ⟨false, 1, 8, [.p .nilf], .other⟩ := by unfold xTy withTy; rw [ty263]
theorem ty264 : tyOf Go.Proofs.Tryz.prog 264 = some ⟨false, 1, 8, [.nilp], .other⟩ := by kernel_rfl
@[simp] theorem xt264 {f : Cont (TyI → Prop)} : @xTy Go.Proofs.Tryz.prog 264 f = f.k ⟨false, 1, 8, [.nilp], .other⟩ := by unfold xTy withTy; rw [ty264]
theorem ty265 : tyOf Go.Proofs.Tryz.prog 265 = some ⟨false, 1, 8, [.p .nilf], .other⟩ := by kernel_rfl
@[simp] theorem xt265 {f : Cont (TyI → Prop)} : @xTy Go.Proofs.Tryz.prog 265 f = f.k ⟨false, 1, 8, [.p .nilf], .other⟩ := by unfold xTy withTy; rw [ty265]
theorem ty266 : tyOf Go.Proofs.Tryz.prog 266 = some ⟨false, 1, 8, [.p .nilf], .other⟩ := by kernel_rfl
@[simp] theorem xt266 {f : Cont (TyI → Prop)} : @xTy Go.Proofs.Tryz.prog 266 f = f.k ⟨false, 1, 8, [.p .nilf], .other⟩ := by unfold xTy withTy; rw [ty266]
theorem ty267 : tyOf Go.Proofs.Tryz.prog 267 = some ⟨false, 1, 8, [.p .nilf], .other⟩ := by kernel_rfl
@[simp] theorem xt267 {f : Cont (TyI → Prop)} : @xTy Go.Proofs.Tryz.prog 267 f = f.k ⟨false, 1, 8, [.p .nilf], .other⟩ := by unfold xTy withTy; rw [ty267]
theorem ty268 : tyOf Go.Proofs.Tryz.prog 268 = some ⟨false, 1, 8, [.nilp], .other⟩ := by kernel_rfl
@[simp] theorem xt268 {f : Cont (TyI → Prop)} : @xTy Go.Proofs.Tryz.prog 268 f = f.k ⟨false, 1, 8, [.nilp], .other⟩ := by unfold xTy withTy; rw [ty268]
theorem ty269 : tyOf Go.Proofs.Tryz.prog 269 = some ⟨false, 1, 8, [.nilp], .other⟩ := by kernel_rfl
@[simp] theorem xt269 {f : Cont (TyI → Prop)} : @xTy Go.Proofs.Tryz.prog 269 f = f.k ⟨false, 1, 8, [.nilp], .other⟩ := by unfold xTy withTy; rw [ty269]
theorem ty270 : tyOf Go.Proofs.Tryz.prog 270 = some ⟨false, 1, 24, [.nils], .slice 273⟩ := by kernel_rfl
@[simp] theorem xt270 {f : Cont (TyI → Prop)} : @xTy Go.Proofs.Tryz.prog 270 f = f.k ⟨false, 1, 24, [.nils], .slice 273⟩ := by unfold xTy withTy; rw [ty270]
theorem ty271 : tyOf Go.Proofs.Tryz.prog 271 = some ⟨false, 1, 8, [.p .nilf], .other⟩ := by kernel_rfl
@[simp] theorem xt271 {f : Cont (TyI → Prop)} : @xTy Go.Proofs.Tryz.prog 271 f = f.k ⟨false, 1, 8, [.p .nilf], .other⟩ := by unfold xTy withTy; rw [ty271]
theorem ty272 : tyOf Go.Proofs.Tryz.prog 272 = some ⟨true, 3, 48, [.p (.str []), .nils, .p (.bool false)], .struct [(0, 1, false), (1, 1, false), (2, 1, false)]⟩ := by kernel_rfl
@[simp] theorem xt272 {f : Cont (TyI → Prop)} : @xTy Go.Proofs.Tryz.prog 272 f = f.k ⟨true, 3, 48, [.p (.str []), .nils, .p (.bool false)], .struct [(0, 1, false), (1, 1, false), (2, 1, false)]⟩ := by unfold xTy withTy; rw [ty272]
theorem ty273 : tyOf Go.Proofs.Tryz.prog 273 = some ⟨true, 3, 48, [.p (.str []), .nils, .p (.bool false)], .struct [(0, 1, false), (1, 1, false), (2, 1, false)]⟩ := by kernel_rfl
@[simp] theorem xt273 {f : Cont (TyI → Prop)} : @xTy Go.Proofs.Tryz.prog 273 f = f.k ⟨true, 3, 48, [.p (.str []), .nils, .p (.bool false)], .struct [(0, 1, false), (1, 1, false), (2, 1, false)]⟩ := by unfold xTy withTy; rw [ty273]
theorem ty274 : tyOf Go.Proofs.Tryz.prog 274 = some ⟨false, 1, 8, [.p .nilf], .other⟩ := by kernel_rfl
@[simp] theorem xt274 {f : Cont (TyI → Prop)} : @xTy Go.Proofs.Tryz.prog 274 f = f.k ⟨false, 1, 8, [.p .nilf], .other⟩ := by unfold xTy withTy; rw [ty274]
theorem ty275 : tyOf Go.Proofs.Tryz.prog 275 = some ⟨false, 1, 8, [.p .nilf], .other⟩ := by kernel_rfl
@[simp] theorem xt275 {f : Cont (TyI → Prop)} : @xTy Go.Proofs.Tryz.prog 275 f = f.k ⟨false, 1, 8, [.p .nilf], .other⟩ := by unfold xTy withTy; rw [ty275]
theorem ty276 : tyOf Go.Proofs.Tryz.prog 276 = some ⟨false, 1, 8, [.p .nilf], .other⟩ := by kernel_rfl
@[simp] theorem xt276 {f : Cont (TyI → Prop)} : @xTy Go.Proofs.Tryz.prog 276 f = f.k ⟨false, 1, 8, [.p .nilf], .other⟩ := by unfold xTy withTy; rw [ty276]
theorem ty277 : tyOf Go.Proofs.Tryz.prog 277 = some ⟨false, 1, 8, [.nilm], .map 69 69⟩ := by kernel_rfl
@[simp] theorem xt277 {f : Cont (TyI → Prop)} : @xTy Go.Proofs.Tryz.prog 277 f = f.k ⟨false, 1, 8, [.nilm], .map 69 69⟩ := by unfold xTy withTy; rw [ty277]
theorem ty278 : tyOf Go.Proofs.Tryz.prog 278 = some ⟨false, 1, 0, [.any], .other⟩ := by kernel_rfl
@[simp] theorem xt278 {f : Cont (TyI → Prop)} : @xTy Go.Proofs.Tryz.prog 278 f = f.k ⟨false, 1, 0, [.any], .other⟩ := by unfold xTy withTy; rw [ty278]
theorem ty279 : tyOf Go.Proofs.Tryz.prog 279 = some ⟨false, 1, 8, [.p .nilf], .other⟩ := by kernel_rfl
@[simp] theorem xt279 {f : Cont (TyI → Prop)} : @xTy Go.Proofs.Tryz.prog 279 f = f.k ⟨false, 1, 8, [.p .nilf], .other⟩ := by unfold xTy withTy; rw [ty279]
theorem ty280 : tyOf Go.Proofs.Tryz.prog 280 = some ⟨false, 1, 8, [.nilm], .map 69 3⟩ := by kernel_rfl
@[simp] theorem xt280 {f : Cont (TyI → Prop)} : @xTy Go.Proofs.Tryz.prog 280 f = f.k ⟨false, 1, 8, [.nilm], .map 69 3⟩ := by unfold xTy withTy; rw [ty280]
theorem ty281 : tyOf Go.Proofs.Tryz.prog 281 = some ⟨false, 1, 8, [.p .nilf], .other⟩ := by kernel_rfl
@[simp] theorem xt281 {f : Cont (TyI → Prop)} : @xTy Go.Proofs.Tryz.prog 281 f = f.k ⟨false, 1, 8, [.p .nilf], .other⟩ := by unfold xTy withTy; rw [ty281]
theorem ty282 : tyOf Go.Proofs.Tryz.prog 282 = some ⟨false, 1, 8, [.p .nilf], .other⟩ := by kernel_rfl
@[simp] theorem xt282 {f : Cont (TyI → Prop)} : @xTy Go.Proofs.Tryz.prog 282 f = f.k ⟨false, 1, 8, [.p .nilf], .other⟩ := by unfold xTy withTy; rw [ty282]
theorem ty283 : tyOf Go.Proofs.Tryz.prog 283 = some ⟨false, 1, 8, [.p .nilf], .other⟩ := by kernel_rfl
@[simp] theorem xt283 {f : Cont (TyI → Prop)} : @xTy Go.Proofs.Tryz.prog 283 f = f.k ⟨false, 1, 8, [.p .nilf], .other⟩ := by unfold xTy withTy; rw [ty283]
theorem ty284 : tyOf Go.Proofs.Tryz.prog 284 = some ⟨false, 1, 8, [.p .nilf], .other⟩ := by kernel_rfl
@[simp] theorem xt284 {f : Cont (TyI → Prop)} : @xTy Go.Proofs.Tryz.prog 284 f = f.k ⟨false, 1, 8, [.p .nilf], .other⟩ := by unfold xTy withTy; rw [ty284]
theorem ty285 : tyOf Go.Proofs.Tryz.prog 285 = some ⟨false, 1, 8, [.p .nilf], .other⟩ := by kernel_rfl
@[simp] theorem xt285 {f : Cont (TyI → Prop)} : @xTy Go.Proofs.Tryz.prog 285 f = f.k ⟨false, 1, 8, [.p .nilf], .other⟩ := by unfold xTy withTy; rw [ty285]
theorem ty286 : tyOf Go.Proofs.Tryz.prog 286 = some ⟨false, 1, 8, [.p .nilf], .other⟩ := by kernel_rfl
@[simp] theorem xt286 {f : Cont (TyI → Prop)} : @xTy Go.Proofs.Tryz.prog 286 f = f.k ⟨false, 1, 8, [.p .nilf], .other⟩ := by unfold xTy withTy; rw [ty286]
theorem ty287 : tyOf Go.Proofs.Tryz.prog 287 = some ⟨false, 1, 8, [.p .nilf], .other⟩ := by kernel_rfl
@[simp] theorem xt287 {f : Cont (TyI → Prop)} : @xTy Go.Proofs.Tryz.prog 287 f = f.k ⟨false, 1, 8, [.p .nilf], .other⟩ := by unfold xTy withTy; rw [ty287]
theorem ty288 : tyOf Go.Proofs.Tryz.prog 288 = some ⟨true, 2, 2, [.p (.int .u8 0), .p (.int .u8 0)], .struct [(0, 1, false), (1, 1, false)]⟩ := by kernel_rfl
@[simp] theorem xt288 {f : Cont (TyI → Prop)} : @xTy Go.Proofs.Tryz.prog 288 f = f.k ⟨true, 2, 2, [.p (.int .u8 0), .p (.int .u8 0)], .struct [(0, 1, false), (1, 1, false)]⟩ := by unfold xTy withTy; rw [ty288]
theorem ty289 : tyOf Go.Proofs.Tryz.prog 289 = some ⟨true, 2, 2, [.p (.int .u8 0), .p (.int .u8 0)], .struct [(0, 1, false), (1, 1, false)]⟩ := by kernel_rfl
@[simp] theorem xt289 {f : Cont (TyI → Prop)} : @xTy Go.Proofs.Tryz.prog 289 f = f.k ⟨true, 2, 2, [.p (.int .u8 0), .p (.int .u8 0)], .struct [(0, 1, false), (1, 1, false)]⟩ := by unfold xTy withTy; rw [ty289]
theorem ty290 : tyOf Go.Proofs.Tryz.prog 290 = some ⟨true, 32, 32, [.p (.int .u8 0), .p (.int .u8 0), .p (.int .u8 0), .p (.int .u8 0), .p (.int .u8 0), .p (.int .u8 0), .p (.int .u8 0), .p (.int .u8 0), .p (.int .u8 0), .p (.int .u8 0), .p (.int .u8 0), .p (.int .u8 0), .p (.int .u8 0), .p (.int .u8 0), .p (.int .u8 0), .p (.int .u8 0), .p (.int .u8 0), .p (.int .u8 0), .p (.int .u8 0), .p (.int .u8 0), .p (.int .u8 0), .p (.int .u8 0), .p (.int .u8 0), .p (.int .u8 0), .p (.int .u8 0), .p (.int .u8 0), .p (.int .u8 0), .p (.int .u8 0), .p (.int .u8 0), .p (.int .u8 0), .p (.int .u8 0), .p (.int .u8 0)], .array 16 289⟩ := by kernel_rfl
@[simp] theorem xt290 {f : Cont (TyI → Prop)} : @xTy Go.Proofs.Tryz.prog 290 f = f.k ⟨true, 32, 32, [.p (.int .u8 0), .p (.int .u8 0), .p (.int .u8 0), .p (.int .u8 0), .p (.int .u8 0), .p (.int .u8 0), .p (.int .u8 0), .p (.int .u8 0), .p (.int .u8 0), .p (.int .u8 0), .p (.int .u8 0), .p (.int .u8 0), .p (.int .u8 0), .p (.int .u8 0), .p (.int .u8 0), .p (.int .u8 0), .p (.int .u8 0), .p (.int .u8 0), .p (.int .u8 0), .p (.int .u8 0), .p (.int .u8 0), .p (.int .u8 0), .p (.int .u8 0), .p (.int .u8 0), .p (.int .u8 0), .p (.int .u8 0), .p (.int .u8 0), .p (.int .u8 0), .p (.int .u8 0), .p (.int .u8 0), .p (.int .u8 0), .p (.int .u8 0)], .array 16 289⟩ := by unfold xTy withTy; rw [ty290]
theorem ty291 : tyOf Go.Proofs.Tryz.prog 291 = some ⟨false, 1, 8, [.p .nilf], .other⟩ := by kernel_rfl
@[simp] theorem xt291 {f : Cont (TyI → Prop)} : @xTy Go.Proofs.Tryz.prog 291 f = f.k ⟨false, 1, 8, [.p .nilf], .other⟩ := by unfold xTy withTy; rw [ty291]
theorem ty292 : tyOf Go.Proofs.Tryz.prog 292 = some ⟨false, 1, 8, [.p .nilf], .other⟩ := by kernel_rfl
@[simp] theorem xt292 {f : Cont (TyI → Prop)} : @xTy Go.Proofs.Tryz.prog 292 f = f.k ⟨false, 1, 8, [.p .nilf], .other⟩ := by unfold xTy withTy; rw [ty292]
theorem ty293 : tyOf Go.Proofs.Tryz.prog 293 = some ⟨false, 1, 8, [.p .nilf], .other⟩ := by kernel_rfl
@[simp] theorem xt293 {f : Cont (TyI → Prop)} : @xTy Go.Proofs.Tryz.prog 293 f = f.k ⟨false, 1, 8, [.p .nilf], .other⟩ := by unfold xTy withTy; rw [ty293]
theorem ty294 : tyOf Go.Proofs.Tryz.prog 294 = some ⟨true, 4, 40, [.nilp, .nilp, .nilp, .p (.str [])], .struct [(0, 1, false), (1, 1, false), (2, 1, false), (3, 1, false)]⟩ := by kernel_rfl
@[simp] theorem xt294 {f : Cont (TyI → Prop)} : @xTy Go.Proofs.Tryz.prog 294 f = f.k ⟨true, 4, 40, [.nilp, .nilp, .nilp, .p (.str [])], .struct [(0, 1, false), (1, 1, false), (2, 1, false), (3, 1, false)]⟩ := by unfold xTy withTy; rw [ty294]
theorem ty295 : tyOf Go.Proofs.Tryz.prog 295 = some ⟨true, 4, 40, [.nilp, .nilp, .nilp, .p (.str [])], .struct [(0, 1, false), (1, 1, false), (2, 1, false), (3, 1, false)]⟩ := by kernel_rfl
@[simp] theorem xt295 {f : Cont (TyI → Prop)} : @xTy Go.Proofs.Tryz.prog 295 f = f.k ⟨true, 4, 40, [.nilp, .nilp, .nilp, .p (.str [])], .struct [(0, 1, false), (1, 1, false), (2, 1, false), (3, 1, false)]⟩ := by unfold xTy withTy; rw [ty295]
theorem ty296 : tyOf Go.Proofs.Tryz.prog 296 = some ⟨true, 0, 0, [], .array 0 16⟩ := by kernel_rfl
@[simp] theorem xt296 {f : Cont (TyI → Prop)} : @xTy Go.Proofs.Tryz.prog 296 f = f.k ⟨true, 0, 0, [], .array 0 16⟩ := by unfold xTy withTy; rw [ty296]
theorem ty297 : tyOf Go.Proofs.Tryz.prog 297 = some ⟨true, 0, 0, [], .struct [(0, 0, true)]⟩ := by kernel_rfl
@[simp] theorem xt297 {f : Cont (TyI → Prop)} : @xTy Go.Proofs.Tryz.prog 297 f = f.k ⟨true, 0, 0, [], .struct [(0, 0, true)]⟩ := by unfold xTy withTy; rw [ty297]
theorem ty298 : tyOf Go.Proofs.Tryz.prog 298 = some ⟨true, 0, 0, [], .struct [(0, 0, true)]⟩ := by kernel_rfl
@[simp] theorem xt298 {f : Cont (TyI → Prop)} : @xTy Go.Proofs.Tryz.prog 298 f = f.k ⟨true, 0, 0, [], .struct [(0, 0, true)]⟩ := by unfold xTy withTy; rw [ty298]
theorem ty299 : tyOf Go.Proofs.Tryz.prog 299 = some ⟨false, 1, 1, [.p (.int .u8 0)], .int .u8⟩ := by kernel_rfl
@[simp] theorem xt299 {f : Cont (TyI → Prop)} : @xTy Go.Proofs.Tryz.prog 299 f = f.k ⟨false, 1, 1, [.p (.int .u8 0)], .int .u8⟩ := by unfold xTy withTy; rw [ty299]
theorem ty300 : tyOf Go.Proofs.Tryz.prog 300 = some ⟨false, 1, 1, [.p (.int .u8 0)], .int .u8⟩ := by kernel_rfl
@[simp] theorem xt300 {f : Cont (TyI → Prop)} : @xTy Go.Proofs.Tryz.prog 300 f = f.k ⟨false, 1, 1, [.p (.int .u8 0)], .int .u8⟩ := by unfold xTy withTy; rw [ty300]
theorem ty301 : tyOf Go.Proofs.Tryz.prog 301 = some ⟨false, 1, 8, [.p .nilf], .other⟩ := by kernel_rfl
@[simp] theorem xt301 {f : Cont (TyI → Prop)} : @xTy Go.Proofs.Tryz.prog 301 f = f.k ⟨false, 1, 8, [.p .nilf], .other⟩ := by unfold xTy withTy; rw [ty301]
theorem ty302 : tyOf Go.Proofs.Tryz.prog 302 = some ⟨false, 1, 4, [.p (.int .i32 0)], .int .i32⟩ := by kernel_rfl
@[simp] theorem xt302 {f : Cont (TyI → Prop)} : @xTy Go.Proofs.Tryz.prog 302 f = f.k ⟨false, 1, 4, [.p (.int .i32 0)], .int .i32⟩ := by unfold xTy withTy; rw [ty302]
theorem ty303 : tyOf Go.Proofs.Tryz.prog 303 = some ⟨false, 1, 4, [.p (.int .i32 0)], .int .i32⟩ := by kernel_rfl
@[simp] theorem xt303 {f : Cont (TyI → Prop)} : @xTy Go.Proofs.Tryz.prog 303 f = f.k ⟨false, 1, 4, [.p (.int .i32 0)], .int .i32⟩ := by unfold xTy withTy; rw [ty303]
theorem ty304 : tyOf Go.Proofs.Tryz.prog 304 = some ⟨true, 11, 48, [.p (.int .u64 0), .p (.int .u64 0), .p (.int .u32 0), .p (.int .u8 0), .p (.int .u8 0), .p (.int .u8 0), .p (.int .u8 0), .p .nilf, .nilp, .p (.int .i32 0), .p (.int .i32 0)], .struct [(0, 1, false), (1, 1, false), (2, 1, false), (3, 1, false), (4, 1, false), (5, 1, false), (6, 1, false), (7, 1, false), (8, 1, false), (9, 1, false), (10, 1, false)]⟩ := by kernel_rfl
@[simp] theorem xt304 {f : Cont (TyI → Prop)} : @xTy Go.Proofs.Tryz.prog 304 f = f.k ⟨true, 11, 48, [.p (.int .u64 0), .p (.int .u64 0), .p (.int .u32 0), .p (.int .u8 0), .p (.int .u8 0), .p (.int .u8 0), .p (.int .u8 0), .p .nilf, .nilp, .p (.int .i32 0), .p (.int .i32 0)], .struct [(0, 1, false), (1, 1, false), (2, 1, false), (3, 1, false), (4, 1, false), (5, 1, false), (6, 1, false), (7, 1, false), (8, 1, false), (9, 1, false), (10, 1, false)]⟩ := by unfold xTy withTy; rw [ty304]
theorem ty305 : tyOf Go.Proofs.Tryz.prog 305 = some ⟨true, 11, 48, [.p (.int .u64 0), .p (.int .u64 0), .p (.int .u32 0), .p (.int .u8 0), .p (.int .u8 0), .p (.int .u8 0), .p (.int .u8 0), .p .nilf, .nilp, .p (.int .i32 0), .p (.int .i32 0)], .struct [(0, 1, false), (1, 1, false), (2, 1, false), (3, 1, false), (4, 1, false), (5, 1, false), (6, 1, false), (7, 1, false), (8, 1, false), (9, 1, false), (10, 1, false)]⟩ := by kernel_rfl
@[simp] theorem xt305 {f : Cont (TyI → Prop)} : @xTy Go.Proofs.Tryz.prog 305 f = f.k ⟨true, 11, 48, [.p (.int .u64 0), .p (.int .u64 0), .p (.int .u32 0), .p (.int .u8 0), .p (.int .u8 0), .p (.int .u8 0), .p (.int .u8 0), .p .nilf, .nilp, .p (.int .i32 0), .p (.int .i32 0)], .struct [(0, 1, false), (1, 1, false), (2, 1, false), (3, 1, false), (4, 1, false), (5, 1, false), (6, 1, false), (7, 1, false), (8, 1, false), (9, 1, false), (10, 1, false)]⟩ := by unfold xTy withTy; rw [ty305]
theorem eq41 {a0 b0 : Int} {a1 b1 : Int} : eqA Go.Proofs.Tryz.prog 8 41 (.agg [.p (.int .i64 a0), .p (.int .i64 a1)]) (.agg [.p (.int .i64 b0), .p (.int .i64 b1)]) = some (decide (a0 = b0) && (decide (a1 = b1) && true)) := by kernel_rfl
@[simp] theorem xeq41 {a0 b0 : Int} {a1 b1 : Int} {f : Cont (Bool → Prop)} : @xEq Go.Proofs.Tryz.prog 41 [.p (.int .i64 a0), .p (.int .i64 a1)] [.p (.int .i64 b0), .p (.int .i64 b1)] f = f.k (decide (a0 = b0 ∧ a1 = b1)) := by
  have h1 : Go.Proofs.Tryz.prog.eqGuardType Go.Proofs.Tryz.prog.depth 41 = false := by kernel_rfl
  have h2 : (decide (a0 = b0) && (decide (a1 = b1) && true)) = decide (a0 = b0 ∧ a1 = b1) := by simp [Bool.decide_and, Bool.and_assoc, Bool.beq_eq_decide_eq]
  simp only [xEq, VEq, eq41, h1, h2, withSome_some, true_and]
theorem eq69 {a0 b0 : Int} {a1 b1 : List UInt8} : eqA Go.Proofs.Tryz.prog 8 69 (.agg [.p (.int .i64 a0), .p (.str a1)]) (.agg [.p (.int .i64 b0), .p (.str b1)]) = some (decide (a0 = b0) && (decide (a1 = b1) && true)) := by kernel_rfl
@[simp] theorem xeq69 {a0 b0 : Int} {a1 b1 : List UInt8} {f : Cont (Bool → Prop)} : @xEq Go.Proofs.Tryz.prog 69 [.p (.int .i64 a0), .p (.str a1)] [.p (.int .i64 b0), .p (.str b1)] f = f.k (decide (a0 = b0 ∧ a1 = b1)) := by
  have h1 : Go.Proofs.Tryz.prog.eqGuardType Go.Proofs.Tryz.prog.depth 69 = false := by kernel_rfl
  have h2 : (decide (a0 = b0) && (decide (a1 = b1) && true)) = decide (a0 = b0 ∧ a1 = b1) := by simp [Bool.decide_and, Bool.and_assoc, Bool.beq_eq_decide_eq]
  simp only [xEq, VEq, eq69, h1, h2, withSome_some, true_and]
theorem eq71 {a0 b0 : Int} {a1 b1 : List UInt8} {a2 b2 : Int} {a3 b3 : List UInt8} : eqA Go.Proofs.Tryz.prog 8 71 (.agg [.p (.int .i64 a0), .p (.str a1), .p (.int .i64 a2), .p (.str a3)]) (.agg [.p (.int .i64 b0), .p (.str b1), .p (.int .i64 b2), .p (.str b3)]) = some ((decide (a0 = b0) && (decide (a1 = b1) && true)) && ((decide (a2 = b2) && (decide (a3 = b3) && true)) && true)) := by kernel_rfl
@[simp] theorem xeq71 {a0 b0 : Int} {a1 b1 : List UInt8} {a2 b2 : Int} {a3 b3 : List UInt8} {f : Cont (Bool → Prop)} : @xEq Go.Proofs.Tryz.prog 71 [.p (.int .i64 a0), .p (.str a1), .p (.int .i64 a2), .p (.str a3)] [.p (.int .i64 b0), .p (.str b1), .p (.int .i64 b2), .p (.str b3)] f = f.k (decide (a0 = b0 ∧ a1 = b1 ∧ a2 = b2 ∧ a3 = b3)) := by
  have h1 : Go.Proofs.Tryz.prog.eqGuardType Go.Proofs.Tryz.prog.depth 71 = false := by kernel_rfl
  have h2 : ((decide (a0 = b0) && (decide (a1 = b1) && true)) && ((decide (a2 = b2) && (decide (a3 = b3) && true)) && true)) = decide (a0 = b0 ∧ a1 = b1 ∧ a2 = b2 ∧ a3 = b3) := by simp [Bool.decide_and, Bool.and_assoc, Bool.beq_eq_decide_eq]
  simp only [xEq, VEq, eq71, h1, h2, withSome_some, true_and]
theorem eq94 {a0 b0 : Int} {a1 b1 : List UInt8} {a2 b2 : Int} : eqA Go.Proofs.Tryz.prog 8 94 (.agg [.p (.int .i64 a0), .p (.str a1), .p (.int .i64 a2)]) (.agg [.p (.int .i64 b0), .p (.str b1), .p (.int .i64 b2)]) = some (decide (a0 = b0) && (decide (a1 = b1) && (decide (a2 = b2) && true))) := by kernel_rfl
@[simp] theorem xeq94 {a0 b0 : Int} {a1 b1 : List UInt8} {a2 b2 : Int} {f : Cont (Bool → Prop)} : @xEq Go.Proofs.Tryz.prog 94 [.p (.int .i64 a0), .p (.str a1), .p (.int .i64 a2)] [.p (.int .i64 b0), .p (.str b1), .p (.int .i64 b2)] f = f.k (decide (a0 = b0 ∧ a1 = b1 ∧ a2 = b2)) := by
  have h1 : Go.Proofs.Tryz.prog.eqGuardType Go.Proofs.Tryz.prog.depth 94 = false := by kernel_rfl
  have h2 : (decide (a0 = b0) && (decide (a1 = b1) && (decide (a2 = b2) && true))) = decide (a0 = b0 ∧ a1 = b1 ∧ a2 = b2) := by simp [Bool.decide_and, Bool.and_assoc, Bool.beq_eq_decide_eq]
  simp only [xEq, VEq, eq94, h1, h2, withSome_some, true_and]
theorem eq203 {a0 b0 : Int} {a1 b1 : Int} : eqA Go.Proofs.Tryz.prog 8 203 (.agg [.p (.int .i64 a0), .p (.int .i64 a1)]) (.agg [.p (.int .i64 b0), .p (.int .i64 b1)]) = some (decide (a0 = b0) && (decide (a1 = b1) && true)) := by kernel_rfl
@[simp] theorem xeq203 {a0 b0 : Int} {a1 b1 : Int} {f : Cont (Bool → Prop)} : @xEq Go.Proofs.Tryz.prog 203 [.p (.int .i64 a0), .p (.int .i64 a1)] [.p (.int .i64 b0), .p (.int .i64 b1)] f = f.k (decide (a0 = b0 ∧ a1 = b1)) := by
  have h1 : Go.Proofs.Tryz.prog.eqGuardType Go.Proofs.Tryz.prog.depth 203 = false := by kernel_rfl
  have h2 : (decide (a0 = b0) && (decide (a1 = b1) && true)) = decide (a0 = b0 ∧ a1 = b1) := by simp [Bool.decide_and, Bool.and_assoc, Bool.beq_eq_decide_eq]
  simp only [xEq, VEq, eq203, h1, h2, withSome_some, true_and]
theorem eq245 {a0 b0 : Int} {a1 b1 : Int} {a2 b2 : Int} : eqA Go.Proofs.Tryz.prog 8 245 (.agg [.p (.int .u16 a0), .p (.int .u16 a1), .p (.int .u16 a2)]) (.agg [.p (.int .u16 b0), .p (.int .u16 b1), .p (.int .u16 b2)]) = some (decide (a0 = b0) && (decide (a1 = b1) && (decide (a2 = b2) && true))) := by kernel_rfl
@[simp] theorem xeq245 {a0 b0 : Int} {a1 b1 : Int} {a2 b2 : Int} {f : Cont (Bool → Prop)} : @xEq Go.Proofs.Tryz.prog 245 [.p (.int .u16 a0), .p (.int .u16 a1), .p (.int .u16 a2)] [.p (.int .u16 b0), .p (.int .u16 b1), .p (.int .u16 b2)] f = f.k (decide (a0 = b0 ∧ a1 = b1 ∧ a2 = b2)) := by
  have h1 : Go.Proofs.Tryz.prog.eqGuardType Go.Proofs.Tryz.prog.depth 245 = false := by kernel_rfl
  have h2 : (decide (a0 = b0) && (decide (a1 = b1) && (decide (a2 = b2) && true))) = decide (a0 = b0 ∧ a1 = b1 ∧ a2 = b2) := by simp [Bool.decide_and, Bool.and_assoc, Bool.beq_eq_decide_eq]
  simp only [xEq, VEq, eq245, h1, h2, withSome_some, true_and]
theorem eq248 {a0 b0 : Int} {a1 b1 : Int} {a2 b2 : Int} : eqA Go.Proofs.Tryz.prog 8 248 (.agg [.p (.int .u32 a0), .p (.int .u32 a1), .p (.int .u32 a2)]) (.agg [.p (.int .u32 b0), .p (.int .u32 b1), .p (.int .u32 b2)]) = some (decide (a0 = b0) && (decide (a1 = b1) && (decide (a2 = b2) && true))) := by kernel_rfl
@[simp] theorem xeq248 {a0 b0 : Int} {a1 b1 : Int} {a2 b2 : Int} {f : Cont (Bool → Prop)} : @xEq Go.Proofs.Tryz.prog 248 [.p (.int .u32 a0), .p (.int .u32 a1), .p (.int .u32 a2)] [.p (.int .u32 b0), .p (.int .u32 b1), .p (.int .u32 b2)] f = f.k (decide (a0 = b0 ∧ a1 = b1 ∧ a2 = b2)) := by
  have h1 : Go.Proofs.Tryz.prog.eqGuardType Go.Proofs.Tryz.prog.depth 248 = false := by kernel_rfl
  have h2 : (decide (a0 = b0) && (decide (a1 = b1) && (decide (a2 = b2) && true))) = decide (a0 = b0 ∧ a1 = b1 ∧ a2 = b2) := by simp [Bool.decide_and, Bool.and_assoc, Bool.beq_eq_decide_eq]
  simp only [xEq, VEq, eq248, h1, h2, withSome_some, true_and]
theorem eq289 {a0 b0 : Int} {a1 b1 : Int} : eqA Go.Proofs.Tryz.prog 8 289 (.agg [.p (.int .u8 a0), .p (.int .u8 a1)]) (.agg [.p (.int .u8 b0), .p (.int .u8 b1)]) = some (decide (a0 = b0) && (decide (a1 = b1) && true)) := by kernel_rfl
@[simp] theorem xeq289 {a0 b0 : Int} {a1 b1 : Int} {f : Cont (Bool → Prop)} : @xEq Go.Proofs.Tryz.prog 289 [.p (.int .u8 a0), .p (.int .u8 a1)] [.p (.int .u8 b0), .p (.int .u8 b1)] f = f.k (decide (a0 = b0 ∧ a1 = b1)) := by
  have h1 : Go.Proofs.Tryz.prog.eqGuardType Go.Proofs.Tryz.prog.depth 289 = false := by kernel_rfl
  have h2 : (decide (a0 = b0) && (decide (a1 = b1) && true)) = decide (a0 = b0 ∧ a1 = b1) := by simp [Bool.decide_and, Bool.and_assoc, Bool.beq_eq_decide_eq]
  simp only [xEq, VEq, eq289, h1, h2, withSome_some, true_and]
end Go.Am
