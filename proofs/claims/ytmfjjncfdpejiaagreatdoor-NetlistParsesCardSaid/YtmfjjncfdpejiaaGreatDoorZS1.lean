/- Type facts of the seat's program, printed by gentypes.py. -/
import Derived.Test.YtmfjjncfdpejiaaGreatDoorProg
import Derived.Test.YtmfjjncfdpejiaaGreatDoorZA4
set_option linter.unusedVariables false
set_option linter.unusedSimpArgs false
namespace Go.Am
open Go
theorem ty3 : tyOf Go.Proofs.Tryz.prog 3 = some ⟨false, 1, 8, [.p (.int .i64 0)], .int .i64⟩ := by kernel_rfl
@[simp] theorem xt3 {f : Cont (TyI -> Prop)} : @xTy Go.Proofs.Tryz.prog 3 f = f.k ⟨false, 1, 8, [.p (.int .i64 0)], .int .i64⟩ := by unfold xTy Jae; rw [ty3]
theorem ty4 : tyOf Go.Proofs.Tryz.prog 4 = some ⟨false, 1, 1, [.p (.bool false)], .bool⟩ := by kernel_rfl
@[simp] theorem xt4 {f : Cont (TyI -> Prop)} : @xTy Go.Proofs.Tryz.prog 4 f = f.k ⟨false, 1, 1, [.p (.bool false)], .bool⟩ := by unfold xTy Jae; rw [ty4]
theorem ty5 : tyOf Go.Proofs.Tryz.prog 5 = some ⟨false, 1, 1, [.p (.int .u8 0)], .int .u8⟩ := by kernel_rfl
@[simp] theorem xt5 {f : Cont (TyI -> Prop)} : @xTy Go.Proofs.Tryz.prog 5 f = f.k ⟨false, 1, 1, [.p (.int .u8 0)], .int .u8⟩ := by unfold xTy Jae; rw [ty5]
theorem ty9 : tyOf Go.Proofs.Tryz.prog 9 = some ⟨false, 1, 16, [.p (.str [])], .str⟩ := by kernel_rfl
@[simp] theorem xt9 {f : Cont (TyI -> Prop)} : @xTy Go.Proofs.Tryz.prog 9 f = f.k ⟨false, 1, 16, [.p (.str [])], .str⟩ := by unfold xTy Jae; rw [ty9]
theorem ty24 : tyOf Go.Proofs.Tryz.prog 24 = some ⟨false, 1, 24, [.nils], .slice 72⟩ := by kernel_rfl
@[simp] theorem xt24 {f : Cont (TyI -> Prop)} : @xTy Go.Proofs.Tryz.prog 24 f = f.k ⟨false, 1, 24, [.nils], .slice 72⟩ := by unfold xTy Jae; rw [ty24]
theorem ty25 : tyOf Go.Proofs.Tryz.prog 25 = some ⟨false, 1, 24, [.nils], .slice 67⟩ := by kernel_rfl
@[simp] theorem xt25 {f : Cont (TyI -> Prop)} : @xTy Go.Proofs.Tryz.prog 25 f = f.k ⟨false, 1, 24, [.nils], .slice 67⟩ := by unfold xTy Jae; rw [ty25]
theorem ty27 : tyOf Go.Proofs.Tryz.prog 27 = some ⟨true, 2, 48, [.nils, .nils], .struct [(0, 1, false), (1, 1, false)]⟩ := by kernel_rfl
@[simp] theorem xt27 {f : Cont (TyI -> Prop)} : @xTy Go.Proofs.Tryz.prog 27 f = f.k ⟨true, 2, 48, [.nils, .nils], .struct [(0, 1, false), (1, 1, false)]⟩ := by unfold xTy Jae; rw [ty27]
theorem ty28 : tyOf Go.Proofs.Tryz.prog 28 = some ⟨false, 1, 8, [.p (.int .i64 0)], .int .i64⟩ := by kernel_rfl
@[simp] theorem xt28 {f : Cont (TyI -> Prop)} : @xTy Go.Proofs.Tryz.prog 28 f = f.k ⟨false, 1, 8, [.p (.int .i64 0)], .int .i64⟩ := by unfold xTy Jae; rw [ty28]
theorem ty45 : tyOf Go.Proofs.Tryz.prog 45 = some ⟨false, 1, 24, [.nils], .slice 3⟩ := by kernel_rfl
@[simp] theorem xt45 {f : Cont (TyI -> Prop)} : @xTy Go.Proofs.Tryz.prog 45 f = f.k ⟨false, 1, 24, [.nils], .slice 3⟩ := by unfold xTy Jae; rw [ty45]
theorem ty55 : tyOf Go.Proofs.Tryz.prog 55 = some ⟨true, 2, 24, [.p (.int .i64 0), .p (.str [])], .struct [(0, 1, false), (1, 1, false)]⟩ := by kernel_rfl
@[simp] theorem xt55 {f : Cont (TyI -> Prop)} : @xTy Go.Proofs.Tryz.prog 55 f = f.k ⟨true, 2, 24, [.p (.int .i64 0), .p (.str [])], .struct [(0, 1, false), (1, 1, false)]⟩ := by unfold xTy Jae; rw [ty55]
theorem ty67 : tyOf Go.Proofs.Tryz.prog 67 = some ⟨true, 4, 48, [.p (.int .i64 0), .p (.str []), .p (.int .i64 0), .p (.str [])], .struct [(0, 2, true), (2, 2, true)]⟩ := by kernel_rfl
@[simp] theorem xt67 {f : Cont (TyI -> Prop)} : @xTy Go.Proofs.Tryz.prog 67 f = f.k ⟨true, 4, 48, [.p (.int .i64 0), .p (.str []), .p (.int .i64 0), .p (.str [])], .struct [(0, 2, true), (2, 2, true)]⟩ := by unfold xTy Jae; rw [ty67]
theorem ty68 : tyOf Go.Proofs.Tryz.prog 68 = some ⟨false, 1, 24, [.nils], .slice 55⟩ := by kernel_rfl
@[simp] theorem xt68 {f : Cont (TyI -> Prop)} : @xTy Go.Proofs.Tryz.prog 68 f = f.k ⟨false, 1, 24, [.nils], .slice 55⟩ := by unfold xTy Jae; rw [ty68]
theorem ty72 : tyOf Go.Proofs.Tryz.prog 72 = some ⟨true, 3, 32, [.p (.int .i64 0), .p (.str []), .p (.int .i64 0)], .struct [(0, 1, false), (1, 1, false), (2, 1, false)]⟩ := by kernel_rfl
@[simp] theorem xt72 {f : Cont (TyI -> Prop)} : @xTy Go.Proofs.Tryz.prog 72 f = f.k ⟨true, 3, 32, [.p (.int .i64 0), .p (.str []), .p (.int .i64 0)], .struct [(0, 1, false), (1, 1, false), (2, 1, false)]⟩ := by unfold xTy Jae; rw [ty72]
theorem ty75 : tyOf Go.Proofs.Tryz.prog 75 = some ⟨false, 1, 24, [.nils], .slice 9⟩ := by kernel_rfl
@[simp] theorem xt75 {f : Cont (TyI -> Prop)} : @xTy Go.Proofs.Tryz.prog 75 f = f.k ⟨false, 1, 24, [.nils], .slice 9⟩ := by unfold xTy Jae; rw [ty75]
theorem J58 : tyOf Go.Proofs.Tryz.prog 111 = some ⟨false, 1, 8, [.p .nilf], .other⟩ := by kernel_rfl
@[simp] theorem Kei {f : Cont (TyI -> Prop)} : @xTy Go.Proofs.Tryz.prog 111 f = f.k ⟨false, 1, 8, [.p .nilf], .other⟩ := by unfold xTy Jae; rw [J58]
theorem J59 : tyOf Go.Proofs.Tryz.prog 112 = some ⟨false, 1, 8, [.nilm], .map 9 111⟩ := by kernel_rfl
@[simp] theorem Kej {f : Cont (TyI -> Prop)} : @xTy Go.Proofs.Tryz.prog 112 f = f.k ⟨false, 1, 8, [.nilm], .map 9 111⟩ := by unfold xTy Jae; rw [J59]
theorem J6a : tyOf Go.Proofs.Tryz.prog 122 = some ⟨false, 1, 24, [.nils], .slice 162⟩ := by kernel_rfl
@[simp] theorem Kek {f : Cont (TyI -> Prop)} : @xTy Go.Proofs.Tryz.prog 122 f = f.k ⟨false, 1, 24, [.nils], .slice 162⟩ := by unfold xTy Jae; rw [J6a]
theorem J6b : tyOf Go.Proofs.Tryz.prog 124 = some ⟨true, 2, 48, [.nils, .nils], .struct [(0, 1, false), (1, 1, false)]⟩ := by kernel_rfl
@[simp] theorem Kel {f : Cont (TyI -> Prop)} : @xTy Go.Proofs.Tryz.prog 124 f = f.k ⟨true, 2, 48, [.nils, .nils], .struct [(0, 1, false), (1, 1, false)]⟩ := by unfold xTy Jae; rw [J6b]
theorem J6c : tyOf Go.Proofs.Tryz.prog 129 = some ⟨false, 1, 8, [.nilm], .map 9 9⟩ := by kernel_rfl
@[simp] theorem Kem {f : Cont (TyI -> Prop)} : @xTy Go.Proofs.Tryz.prog 129 f = f.k ⟨false, 1, 8, [.nilm], .map 9 9⟩ := by unfold xTy Jae; rw [J6c]
theorem J6d : tyOf Go.Proofs.Tryz.prog 132 = some ⟨false, 1, 8, [.nilm], .map 9 72⟩ := by kernel_rfl
@[simp] theorem Ken {f : Cont (TyI -> Prop)} : @xTy Go.Proofs.Tryz.prog 132 f = f.k ⟨false, 1, 8, [.nilm], .map 9 72⟩ := by unfold xTy Jae; rw [J6d]
theorem J6e : tyOf Go.Proofs.Tryz.prog 133 = some ⟨false, 1, 8, [.nilm], .map 139 4⟩ := by kernel_rfl
@[simp] theorem Keo {f : Cont (TyI -> Prop)} : @xTy Go.Proofs.Tryz.prog 133 f = f.k ⟨false, 1, 8, [.nilm], .map 139 4⟩ := by unfold xTy Jae; rw [J6e]
theorem J6f : tyOf Go.Proofs.Tryz.prog 135 = some ⟨true, 2, 16, [.nilm, .nilm], .struct [(0, 1, false), (1, 1, false)]⟩ := by kernel_rfl
@[simp] theorem Kep {f : Cont (TyI -> Prop)} : @xTy Go.Proofs.Tryz.prog 135 f = f.k ⟨true, 2, 16, [.nilm, .nilm], .struct [(0, 1, false), (1, 1, false)]⟩ := by unfold xTy Jae; rw [J6f]
theorem J6g : tyOf Go.Proofs.Tryz.prog 137 = some ⟨true, 2, 32, [.p (.str []), .p (.str [])], .struct [(0, 1, false), (1, 1, false)]⟩ := by kernel_rfl
@[simp] theorem Keq {f : Cont (TyI -> Prop)} : @xTy Go.Proofs.Tryz.prog 137 f = f.k ⟨true, 2, 32, [.p (.str []), .p (.str [])], .struct [(0, 1, false), (1, 1, false)]⟩ := by unfold xTy Jae; rw [J6g]
theorem J6h : tyOf Go.Proofs.Tryz.prog 139 = some ⟨true, 4, 64, [.p (.str []), .p (.str []), .p (.str []), .p (.str [])], .array 2 137⟩ := by kernel_rfl
@[simp] theorem Ker {f : Cont (TyI -> Prop)} : @xTy Go.Proofs.Tryz.prog 139 f = f.k ⟨true, 4, 64, [.p (.str []), .p (.str []), .p (.str []), .p (.str [])], .array 2 137⟩ := by unfold xTy Jae; rw [J6h]
theorem J6i : tyOf Go.Proofs.Tryz.prog 161 = some ⟨true, 2, 32, [.p (.str []), .p (.str [])], .struct [(0, 1, false), (1, 1, false)]⟩ := by kernel_rfl
@[simp] theorem Kes {f : Cont (TyI -> Prop)} : @xTy Go.Proofs.Tryz.prog 161 f = f.k ⟨true, 2, 32, [.p (.str []), .p (.str [])], .struct [(0, 1, false), (1, 1, false)]⟩ := by unfold xTy Jae; rw [J6i]
theorem J6j : tyOf Go.Proofs.Tryz.prog 162 = some ⟨true, 4, 64, [.p (.str []), .p (.str []), .p (.str []), .p (.str [])], .array 2 161⟩ := by kernel_rfl
@[simp] theorem Ket {f : Cont (TyI -> Prop)} : @xTy Go.Proofs.Tryz.prog 162 f = f.k ⟨true, 4, 64, [.p (.str []), .p (.str []), .p (.str []), .p (.str [])], .array 2 161⟩ := by unfold xTy Jae; rw [J6j]
theorem J6k : tyOf Go.Proofs.Tryz.prog 221 = some ⟨false, 1, 8, [.nilm], .map 9 3⟩ := by kernel_rfl
@[simp] theorem Keu {f : Cont (TyI -> Prop)} : @xTy Go.Proofs.Tryz.prog 221 f = f.k ⟨false, 1, 8, [.nilm], .map 9 3⟩ := by unfold xTy Jae; rw [J6k]
theorem J6l : tyOf Go.Proofs.Tryz.prog 223 = some ⟨false, 1, 24, [.nils], .slice 139⟩ := by kernel_rfl
@[simp] theorem Kev {f : Cont (TyI -> Prop)} : @xTy Go.Proofs.Tryz.prog 223 f = f.k ⟨false, 1, 24, [.nils], .slice 139⟩ := by unfold xTy Jae; rw [J6l]
theorem J6m : tyOf Go.Proofs.Tryz.prog 240 = some ⟨true, 5, 120, [.nils, .nils, .nils, .nils, .nils], .array 5 75⟩ := by kernel_rfl
@[simp] theorem Kew {f : Cont (TyI -> Prop)} : @xTy Go.Proofs.Tryz.prog 240 f = f.k ⟨true, 5, 120, [.nils, .nils, .nils, .nils, .nils], .array 5 75⟩ := by unfold xTy Jae; rw [J6m]
theorem J6n : tyOf Go.Proofs.Tryz.prog 243 = some ⟨true, 12, 208, [.p (.str []), .p (.str []), .nils, .nils, .nils, .nils, .nils, .p (.str []), .p (.str []), .p (.int .i64 0), .p .nilf, .p .nilf], .struct [(0, 1, false), (1, 1, false), (2, 5, true), (7, 1, false), (8, 1, false), (9, 1, false), (10, 1, false), (11, 1, false)]⟩ := by kernel_rfl
@[simp] theorem Kex {f : Cont (TyI -> Prop)} : @xTy Go.Proofs.Tryz.prog 243 f = f.k ⟨true, 12, 208, [.p (.str []), .p (.str []), .nils, .nils, .nils, .nils, .nils, .p (.str []), .p (.str []), .p (.int .i64 0), .p .nilf, .p .nilf], .struct [(0, 1, false), (1, 1, false), (2, 5, true), (7, 1, false), (8, 1, false), (9, 1, false), (10, 1, false), (11, 1, false)]⟩ := by unfold xTy Jae; rw [J6n]
theorem J6o : tyOf Go.Proofs.Tryz.prog 261 = some ⟨true, 5, 80, [.p (.str []), .p (.str []), .p (.str []), .p (.str []), .p (.str [])], .array 5 9⟩ := by kernel_rfl
@[simp] theorem Kez {f : Cont (TyI -> Prop)} : @xTy Go.Proofs.Tryz.prog 261 f = f.k ⟨true, 5, 80, [.p (.str []), .p (.str []), .p (.str []), .p (.str []), .p (.str [])], .array 5 9⟩ := by unfold xTy Jae; rw [J6o]
theorem J6p : tyOf Go.Proofs.Tryz.prog 263 = some ⟨true, 7, 112, [.p (.str []), .p (.str []), .p (.str []), .p (.str []), .p (.str []), .p (.str []), .p (.str [])], .struct [(0, 1, false), (1, 1, false), (2, 5, true)]⟩ := by kernel_rfl
@[simp] theorem Ke0 {f : Cont (TyI -> Prop)} : @xTy Go.Proofs.Tryz.prog 263 f = f.k ⟨true, 7, 112, [.p (.str []), .p (.str []), .p (.str []), .p (.str []), .p (.str []), .p (.str []), .p (.str [])], .struct [(0, 1, false), (1, 1, false), (2, 5, true)]⟩ := by unfold xTy Jae; rw [J6p]
theorem J6q : tyOf Go.Proofs.Tryz.prog 264 = some ⟨false, 1, 24, [.nils], .slice 263⟩ := by kernel_rfl
@[simp] theorem Ke1 {f : Cont (TyI -> Prop)} : @xTy Go.Proofs.Tryz.prog 264 f = f.k ⟨false, 1, 24, [.nils], .slice 263⟩ := by unfold xTy Jae; rw [J6q]
theorem J6r : tyOf Go.Proofs.Tryz.prog 299 = some ⟨true, 168, 2912, [.p (.str []), .p (.str []), .nils, .nils, .nils, .nils, .nils, .p (.str []), .p (.str []), .p (.int .i64 0), .p .nilf, .p .nilf, .p (.str []), .p (.str []), .nils, .nils, .nils, .nils, .nils, .p (.str []), .p (.str []), .p (.int .i64 0), .p .nilf, .p .nilf, .p (.str []), .p (.str []), .nils, .nils, .nils, .nils, .nils, .p (.str []), .p (.str []), .p (.int .i64 0), .p .nilf, .p .nilf, .p (.str []), .p (.str []), .nils, .nils, .nils, .nils, .nils, .p (.str []), .p (.str []), .p (.int .i64 0), .p .nilf, .p .nilf, .p (.str []), .p (.str []), .nils, .nils, .nils, .nils, .nils, .p (.str []), .p (.str []), .p (.int .i64 0), .p .nilf, .p .nilf, .p (.str []), .p (.str []), .nils, .nils, .nils, .nils, .nils, .p (.str []), .p (.str []), .p (.int .i64 0), .p .nilf, .p .nilf, .p (.str []), .p (.str []), .nils, .nils, .nils, .nils, .nils, .p (.str []), .p (.str []), .p (.int .i64 0), .p .nilf, .p .nilf, .p (.str []), .p (.str []), .nils, .nils, .nils, .nils, .nils, .p (.str []), .p (.str []), .p (.int .i64 0), .p .nilf, .p .nilf, .p (.str []), .p (.str []), .nils, .nils, .nils, .nils, .nils, .p (.str []), .p (.str []), .p (.int .i64 0), .p .nilf, .p .nilf, .p (.str []), .p (.str []), .nils, .nils, .nils, .nils, .nils, .p (.str []), .p (.str []), .p (.int .i64 0), .p .nilf, .p .nilf, .p (.str []), .p (.str []), .nils, .nils, .nils, .nils, .nils, .p (.str []), .p (.str []), .p (.int .i64 0), .p .nilf, .p .nilf, .p (.str []), .p (.str []), .nils, .nils, .nils, .nils, .nils, .p (.str []), .p (.str []), .p (.int .i64 0), .p .nilf, .p .nilf, .p (.str []), .p (.str []), .nils, .nils, .nils, .nils, .nils, .p (.str []), .p (.str []), .p (.int .i64 0), .p .nilf, .p .nilf, .p (.str []), .p (.str []), .nils, .nils, .nils, .nils, .nils, .p (.str []), .p (.str []), .p (.int .i64 0), .p .nilf, .p .nilf], .array 14 243⟩ := by kernel_rfl
@[simp] theorem Ke2 {f : Cont (TyI -> Prop)} : @xTy Go.Proofs.Tryz.prog 299 f = f.k ⟨true, 168, 2912, [.p (.str []), .p (.str []), .nils, .nils, .nils, .nils, .nils, .p (.str []), .p (.str []), .p (.int .i64 0), .p .nilf, .p .nilf, .p (.str []), .p (.str []), .nils, .nils, .nils, .nils, .nils, .p (.str []), .p (.str []), .p (.int .i64 0), .p .nilf, .p .nilf, .p (.str []), .p (.str []), .nils, .nils, .nils, .nils, .nils, .p (.str []), .p (.str []), .p (.int .i64 0), .p .nilf, .p .nilf, .p (.str []), .p (.str []), .nils, .nils, .nils, .nils, .nils, .p (.str []), .p (.str []), .p (.int .i64 0), .p .nilf, .p .nilf, .p (.str []), .p (.str []), .nils, .nils, .nils, .nils, .nils, .p (.str []), .p (.str []), .p (.int .i64 0), .p .nilf, .p .nilf, .p (.str []), .p (.str []), .nils, .nils, .nils, .nils, .nils, .p (.str []), .p (.str []), .p (.int .i64 0), .p .nilf, .p .nilf, .p (.str []), .p (.str []), .nils, .nils, .nils, .nils, .nils, .p (.str []), .p (.str []), .p (.int .i64 0), .p .nilf, .p .nilf, .p (.str []), .p (.str []), .nils, .nils, .nils, .nils, .nils, .p (.str []), .p (.str []), .p (.int .i64 0), .p .nilf, .p .nilf, .p (.str []), .p (.str []), .nils, .nils, .nils, .nils, .nils, .p (.str []), .p (.str []), .p (.int .i64 0), .p .nilf, .p .nilf, .p (.str []), .p (.str []), .nils, .nils, .nils, .nils, .nils, .p (.str []), .p (.str []), .p (.int .i64 0), .p .nilf, .p .nilf, .p (.str []), .p (.str []), .nils, .nils, .nils, .nils, .nils, .p (.str []), .p (.str []), .p (.int .i64 0), .p .nilf, .p .nilf, .p (.str []), .p (.str []), .nils, .nils, .nils, .nils, .nils, .p (.str []), .p (.str []), .p (.int .i64 0), .p .nilf, .p .nilf, .p (.str []), .p (.str []), .nils, .nils, .nils, .nils, .nils, .p (.str []), .p (.str []), .p (.int .i64 0), .p .nilf, .p .nilf, .p (.str []), .p (.str []), .nils, .nils, .nils, .nils, .nils, .p (.str []), .p (.str []), .p (.int .i64 0), .p .nilf, .p .nilf], .array 14 243⟩ := by unfold xTy Jae; rw [J6r]
theorem J6s : tyOf Go.Proofs.Tryz.prog 302 = some ⟨false, 1, 24, [.nils], .slice 243⟩ := by kernel_rfl
@[simp] theorem Ke3 {f : Cont (TyI -> Prop)} : @xTy Go.Proofs.Tryz.prog 302 f = f.k ⟨false, 1, 24, [.nils], .slice 243⟩ := by unfold xTy Jae; rw [J6s]
theorem J6t : tyOf Go.Proofs.Tryz.prog 310 = some ⟨false, 1, 8, [.p (.int .u64 0)], .int .u64⟩ := by kernel_rfl
@[simp] theorem Ke4 {f : Cont (TyI -> Prop)} : @xTy Go.Proofs.Tryz.prog 310 f = f.k ⟨false, 1, 8, [.p (.int .u64 0)], .int .u64⟩ := by unfold xTy Jae; rw [J6t]
theorem J6u : tyOf Go.Proofs.Tryz.prog 357 = some ⟨false, 1, 8, [.p (.int .u64 0)], .int .u64⟩ := by kernel_rfl
@[simp] theorem Ke5 {f : Cont (TyI -> Prop)} : @xTy Go.Proofs.Tryz.prog 357 f = f.k ⟨false, 1, 8, [.p (.int .u64 0)], .int .u64⟩ := by unfold xTy Jae; rw [J6u]
theorem J6v : tyOf Go.Proofs.Tryz.prog 368 = some ⟨false, 1, 24, [.nils], .slice 75⟩ := by kernel_rfl
@[simp] theorem Ke6 {f : Cont (TyI -> Prop)} : @xTy Go.Proofs.Tryz.prog 368 f = f.k ⟨false, 1, 24, [.nils], .slice 75⟩ := by unfold xTy Jae; rw [J6v]
theorem J6w : tyOf Go.Proofs.Tryz.prog 392 = some ⟨true, 3, 3, [.p (.int .u8 0), .p (.int .u8 0), .p (.int .u8 0)], .array 3 5⟩ := by kernel_rfl
@[simp] theorem Ke7 {f : Cont (TyI -> Prop)} : @xTy Go.Proofs.Tryz.prog 392 f = f.k ⟨true, 3, 3, [.p (.int .u8 0), .p (.int .u8 0), .p (.int .u8 0)], .array 3 5⟩ := by unfold xTy Jae; rw [J6w]
theorem J6x : tyOf Go.Proofs.Tryz.prog 393 = some ⟨true, 18, 18, [.p (.int .u8 0), .p (.int .u8 0), .p (.int .u8 0), .p (.int .u8 0), .p (.int .u8 0), .p (.int .u8 0), .p (.int .u8 0), .p (.int .u8 0), .p (.int .u8 0), .p (.int .u8 0), .p (.int .u8 0), .p (.int .u8 0), .p (.int .u8 0), .p (.int .u8 0), .p (.int .u8 0), .p (.int .u8 0), .p (.int .u8 0), .p (.int .u8 0)], .array 6 392⟩ := by kernel_rfl
@[simp] theorem Ke9 {f : Cont (TyI -> Prop)} : @xTy Go.Proofs.Tryz.prog 393 f = f.k ⟨true, 18, 18, [.p (.int .u8 0), .p (.int .u8 0), .p (.int .u8 0), .p (.int .u8 0), .p (.int .u8 0), .p (.int .u8 0), .p (.int .u8 0), .p (.int .u8 0), .p (.int .u8 0), .p (.int .u8 0), .p (.int .u8 0), .p (.int .u8 0), .p (.int .u8 0), .p (.int .u8 0), .p (.int .u8 0), .p (.int .u8 0), .p (.int .u8 0), .p (.int .u8 0)], .array 6 392⟩ := by unfold xTy Jae; rw [J6x]
theorem eq55 {a0 b0 : Int} {a1 b1 : List UInt8} : eqA Go.Proofs.Tryz.prog 8 55 (.agg [.p (.int .i64 a0), .p (.str a1)]) (.agg [.p (.int .i64 b0), .p (.str b1)]) = some (decide (a0 = b0) && (decide (a1 = b1) && true)) := by kernel_rfl
@[simp] theorem Kb2 {a0 b0 : Int} {a1 b1 : List UInt8} {f : Cont (Bool -> Prop)} : @xEq Go.Proofs.Tryz.prog 55 [.p (.int .i64 a0), .p (.str a1)] [.p (.int .i64 b0), .p (.str b1)] f = f.k (decide (a0 = b0 /\ a1 = b1)) := by
 have h1 : Go.Proofs.Tryz.prog.eqGuardType Go.Proofs.Tryz.prog.depth 55 = false := by kernel_rfl
 have h2 : (decide (a0 = b0) && (decide (a1 = b1) && true)) = decide (a0 = b0 /\ a1 = b1) := by simp [Bool.decide_and, Bool.and_assoc, Bool.beq_eq_decide_eq]
 simp only [xEq, VEq, eq55, h1, h2, Jc6, true_and]
theorem eq67 {a0 b0 : Int} {a1 b1 : List UInt8} {a2 b2 : Int} {a3 b3 : List UInt8} : eqA Go.Proofs.Tryz.prog 8 67 (.agg [.p (.int .i64 a0), .p (.str a1), .p (.int .i64 a2), .p (.str a3)]) (.agg [.p (.int .i64 b0), .p (.str b1), .p (.int .i64 b2), .p (.str b3)]) = some ((decide (a0 = b0) && (decide (a1 = b1) && true)) && ((decide (a2 = b2) && (decide (a3 = b3) && true)) && true)) := by kernel_rfl
@[simp] theorem Kb3 {a0 b0 : Int} {a1 b1 : List UInt8} {a2 b2 : Int} {a3 b3 : List UInt8} {f : Cont (Bool -> Prop)} : @xEq Go.Proofs.Tryz.prog 67 [.p (.int .i64 a0), .p (.str a1), .p (.int .i64 a2), .p (.str a3)] [.p (.int .i64 b0), .p (.str b1), .p (.int .i64 b2), .p (.str b3)] f = f.k (decide (a0 = b0 /\ a1 = b1 /\ a2 = b2 /\ a3 = b3)) := by
 have h1 : Go.Proofs.Tryz.prog.eqGuardType Go.Proofs.Tryz.prog.depth 67 = false := by kernel_rfl
 have h2 : ((decide (a0 = b0) && (decide (a1 = b1) && true)) && ((decide (a2 = b2) && (decide (a3 = b3) && true)) && true)) = decide (a0 = b0 /\ a1 = b1 /\ a2 = b2 /\ a3 = b3) := by simp [Bool.decide_and, Bool.and_assoc, Bool.beq_eq_decide_eq]
 simp only [xEq, VEq, eq67, h1, h2, Jc6, true_and]
theorem eq72 {a0 b0 : Int} {a1 b1 : List UInt8} {a2 b2 : Int} : eqA Go.Proofs.Tryz.prog 8 72 (.agg [.p (.int .i64 a0), .p (.str a1), .p (.int .i64 a2)]) (.agg [.p (.int .i64 b0), .p (.str b1), .p (.int .i64 b2)]) = some (decide (a0 = b0) && (decide (a1 = b1) && (decide (a2 = b2) && true))) := by kernel_rfl
@[simp] theorem Kb4 {a0 b0 : Int} {a1 b1 : List UInt8} {a2 b2 : Int} {f : Cont (Bool -> Prop)} : @xEq Go.Proofs.Tryz.prog 72 [.p (.int .i64 a0), .p (.str a1), .p (.int .i64 a2)] [.p (.int .i64 b0), .p (.str b1), .p (.int .i64 b2)] f = f.k (decide (a0 = b0 /\ a1 = b1 /\ a2 = b2)) := by
 have h1 : Go.Proofs.Tryz.prog.eqGuardType Go.Proofs.Tryz.prog.depth 72 = false := by kernel_rfl
 have h2 : (decide (a0 = b0) && (decide (a1 = b1) && (decide (a2 = b2) && true))) = decide (a0 = b0 /\ a1 = b1 /\ a2 = b2) := by simp [Bool.decide_and, Bool.and_assoc, Bool.beq_eq_decide_eq]
 simp only [xEq, VEq, eq72, h1, h2, Jc6, true_and]
theorem Jzv {a0 b0 : List UInt8} {a1 b1 : List UInt8} : eqA Go.Proofs.Tryz.prog 8 137 (.agg [.p (.str a0), .p (.str a1)]) (.agg [.p (.str b0), .p (.str b1)]) = some (decide (a0 = b0) && (decide (a1 = b1) && true)) := by kernel_rfl
@[simp] theorem Kb0 {a0 b0 : List UInt8} {a1 b1 : List UInt8} {f : Cont (Bool -> Prop)} : @xEq Go.Proofs.Tryz.prog 137 [.p (.str a0), .p (.str a1)] [.p (.str b0), .p (.str b1)] f = f.k (decide (a0 = b0 /\ a1 = b1)) := by
 have h1 : Go.Proofs.Tryz.prog.eqGuardType Go.Proofs.Tryz.prog.depth 137 = false := by kernel_rfl
 have h2 : (decide (a0 = b0) && (decide (a1 = b1) && true)) = decide (a0 = b0 /\ a1 = b1) := by simp [Bool.decide_and, Bool.and_assoc, Bool.beq_eq_decide_eq]
 simp only [xEq, VEq, Jzv, h1, h2, Jc6, true_and]
theorem Jzw {a0 b0 : List UInt8} {a1 b1 : List UInt8} : eqA Go.Proofs.Tryz.prog 8 161 (.agg [.p (.str a0), .p (.str a1)]) (.agg [.p (.str b0), .p (.str b1)]) = some (decide (a0 = b0) && (decide (a1 = b1) && true)) := by kernel_rfl
@[simp] theorem Kb1 {a0 b0 : List UInt8} {a1 b1 : List UInt8} {f : Cont (Bool -> Prop)} : @xEq Go.Proofs.Tryz.prog 161 [.p (.str a0), .p (.str a1)] [.p (.str b0), .p (.str b1)] f = f.k (decide (a0 = b0 /\ a1 = b1)) := by
 have h1 : Go.Proofs.Tryz.prog.eqGuardType Go.Proofs.Tryz.prog.depth 161 = false := by kernel_rfl
 have h2 : (decide (a0 = b0) && (decide (a1 = b1) && true)) = decide (a0 = b0 /\ a1 = b1) := by simp [Bool.decide_and, Bool.and_assoc, Bool.beq_eq_decide_eq]
 simp only [xEq, VEq, Jzw, h1, h2, Jc6, true_and]
end Go.Am
