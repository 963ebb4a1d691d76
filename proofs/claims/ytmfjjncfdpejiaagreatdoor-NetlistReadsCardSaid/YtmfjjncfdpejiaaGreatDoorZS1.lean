/- Type facts of the seat's program, printed by gentypes.py. -/
import Derived.Test.YtmfjjncfdpejiaaGreatDoorProg
import Derived.Test.YtmfjjncfdpejiaaGreatDoorZA4
set_option linter.unusedVariables false
set_option linter.unusedSimpArgs false
namespace Go.Am
open Go
theorem ty3 : tyOf Go.Proofs.Tryz.prog 3 = some ⟨false, 1, 8, [.p (.int .i64 0)], .int .i64⟩ := by kernel_rfl
@[simp] theorem xt3 {f : Cont (TyI -> Prop)} : @xTy Go.Proofs.Tryz.prog 3 f = f.k ⟨false, 1, 8, [.p (.int .i64 0)], .int .i64⟩ := by unfold xTy Jaf; rw [ty3]
theorem ty4 : tyOf Go.Proofs.Tryz.prog 4 = some ⟨false, 1, 1, [.p (.bool false)], .bool⟩ := by kernel_rfl
@[simp] theorem xt4 {f : Cont (TyI -> Prop)} : @xTy Go.Proofs.Tryz.prog 4 f = f.k ⟨false, 1, 1, [.p (.bool false)], .bool⟩ := by unfold xTy Jaf; rw [ty4]
theorem ty5 : tyOf Go.Proofs.Tryz.prog 5 = some ⟨false, 1, 1, [.p (.int .u8 0)], .int .u8⟩ := by kernel_rfl
@[simp] theorem xt5 {f : Cont (TyI -> Prop)} : @xTy Go.Proofs.Tryz.prog 5 f = f.k ⟨false, 1, 1, [.p (.int .u8 0)], .int .u8⟩ := by unfold xTy Jaf; rw [ty5]
theorem ty9 : tyOf Go.Proofs.Tryz.prog 9 = some ⟨false, 1, 16, [.p (.str [])], .str⟩ := by kernel_rfl
@[simp] theorem xt9 {f : Cont (TyI -> Prop)} : @xTy Go.Proofs.Tryz.prog 9 f = f.k ⟨false, 1, 16, [.p (.str [])], .str⟩ := by unfold xTy Jaf; rw [ty9]
theorem ty24 : tyOf Go.Proofs.Tryz.prog 24 = some ⟨false, 1, 24, [.nils], .slice 72⟩ := by kernel_rfl
@[simp] theorem xt24 {f : Cont (TyI -> Prop)} : @xTy Go.Proofs.Tryz.prog 24 f = f.k ⟨false, 1, 24, [.nils], .slice 72⟩ := by unfold xTy Jaf; rw [ty24]
theorem ty25 : tyOf Go.Proofs.Tryz.prog 25 = some ⟨false, 1, 24, [.nils], .slice 67⟩ := by kernel_rfl
@[simp] theorem xt25 {f : Cont (TyI -> Prop)} : @xTy Go.Proofs.Tryz.prog 25 f = f.k ⟨false, 1, 24, [.nils], .slice 67⟩ := by unfold xTy Jaf; rw [ty25]
theorem ty27 : tyOf Go.Proofs.Tryz.prog 27 = some ⟨true, 2, 48, [.nils, .nils], .struct [(0, 1, false), (1, 1, false)]⟩ := by kernel_rfl
@[simp] theorem xt27 {f : Cont (TyI -> Prop)} : @xTy Go.Proofs.Tryz.prog 27 f = f.k ⟨true, 2, 48, [.nils, .nils], .struct [(0, 1, false), (1, 1, false)]⟩ := by unfold xTy Jaf; rw [ty27]
theorem ty28 : tyOf Go.Proofs.Tryz.prog 28 = some ⟨false, 1, 8, [.p (.int .i64 0)], .int .i64⟩ := by kernel_rfl
@[simp] theorem xt28 {f : Cont (TyI -> Prop)} : @xTy Go.Proofs.Tryz.prog 28 f = f.k ⟨false, 1, 8, [.p (.int .i64 0)], .int .i64⟩ := by unfold xTy Jaf; rw [ty28]
theorem ty35 : tyOf Go.Proofs.Tryz.prog 35 = some ⟨false, 1, 24, [.nils], .slice 27⟩ := by kernel_rfl
@[simp] theorem xt35 {f : Cont (TyI -> Prop)} : @xTy Go.Proofs.Tryz.prog 35 f = f.k ⟨false, 1, 24, [.nils], .slice 27⟩ := by unfold xTy Jaf; rw [ty35]
theorem ty45 : tyOf Go.Proofs.Tryz.prog 45 = some ⟨false, 1, 24, [.nils], .slice 3⟩ := by kernel_rfl
@[simp] theorem xt45 {f : Cont (TyI -> Prop)} : @xTy Go.Proofs.Tryz.prog 45 f = f.k ⟨false, 1, 24, [.nils], .slice 3⟩ := by unfold xTy Jaf; rw [ty45]
theorem ty55 : tyOf Go.Proofs.Tryz.prog 55 = some ⟨true, 2, 24, [.p (.int .i64 0), .p (.str [])], .struct [(0, 1, false), (1, 1, false)]⟩ := by kernel_rfl
@[simp] theorem xt55 {f : Cont (TyI -> Prop)} : @xTy Go.Proofs.Tryz.prog 55 f = f.k ⟨true, 2, 24, [.p (.int .i64 0), .p (.str [])], .struct [(0, 1, false), (1, 1, false)]⟩ := by unfold xTy Jaf; rw [ty55]
theorem ty67 : tyOf Go.Proofs.Tryz.prog 67 = some ⟨true, 4, 48, [.p (.int .i64 0), .p (.str []), .p (.int .i64 0), .p (.str [])], .struct [(0, 2, true), (2, 2, true)]⟩ := by kernel_rfl
@[simp] theorem xt67 {f : Cont (TyI -> Prop)} : @xTy Go.Proofs.Tryz.prog 67 f = f.k ⟨true, 4, 48, [.p (.int .i64 0), .p (.str []), .p (.int .i64 0), .p (.str [])], .struct [(0, 2, true), (2, 2, true)]⟩ := by unfold xTy Jaf; rw [ty67]
theorem ty68 : tyOf Go.Proofs.Tryz.prog 68 = some ⟨false, 1, 24, [.nils], .slice 55⟩ := by kernel_rfl
@[simp] theorem xt68 {f : Cont (TyI -> Prop)} : @xTy Go.Proofs.Tryz.prog 68 f = f.k ⟨false, 1, 24, [.nils], .slice 55⟩ := by unfold xTy Jaf; rw [ty68]
theorem ty72 : tyOf Go.Proofs.Tryz.prog 72 = some ⟨true, 3, 32, [.p (.int .i64 0), .p (.str []), .p (.int .i64 0)], .struct [(0, 1, false), (1, 1, false), (2, 1, false)]⟩ := by kernel_rfl
@[simp] theorem xt72 {f : Cont (TyI -> Prop)} : @xTy Go.Proofs.Tryz.prog 72 f = f.k ⟨true, 3, 32, [.p (.int .i64 0), .p (.str []), .p (.int .i64 0)], .struct [(0, 1, false), (1, 1, false), (2, 1, false)]⟩ := by unfold xTy Jaf; rw [ty72]
theorem ty75 : tyOf Go.Proofs.Tryz.prog 75 = some ⟨false, 1, 24, [.nils], .slice 9⟩ := by kernel_rfl
@[simp] theorem xt75 {f : Cont (TyI -> Prop)} : @xTy Go.Proofs.Tryz.prog 75 f = f.k ⟨false, 1, 24, [.nils], .slice 9⟩ := by unfold xTy Jaf; rw [ty75]
theorem J61 : tyOf Go.Proofs.Tryz.prog 111 = some ⟨false, 1, 8, [.p .nilf], .other⟩ := by kernel_rfl
@[simp] theorem Kga {f : Cont (TyI -> Prop)} : @xTy Go.Proofs.Tryz.prog 111 f = f.k ⟨false, 1, 8, [.p .nilf], .other⟩ := by unfold xTy Jaf; rw [J61]
theorem J62 : tyOf Go.Proofs.Tryz.prog 112 = some ⟨false, 1, 8, [.nilm], .map 9 111⟩ := by kernel_rfl
@[simp] theorem Kgb {f : Cont (TyI -> Prop)} : @xTy Go.Proofs.Tryz.prog 112 f = f.k ⟨false, 1, 8, [.nilm], .map 9 111⟩ := by unfold xTy Jaf; rw [J62]
theorem J63 : tyOf Go.Proofs.Tryz.prog 129 = some ⟨false, 1, 8, [.nilm], .map 9 9⟩ := by kernel_rfl
@[simp] theorem Kgc {f : Cont (TyI -> Prop)} : @xTy Go.Proofs.Tryz.prog 129 f = f.k ⟨false, 1, 8, [.nilm], .map 9 9⟩ := by unfold xTy Jaf; rw [J63]
theorem J64 : tyOf Go.Proofs.Tryz.prog 132 = some ⟨false, 1, 8, [.nilm], .map 9 72⟩ := by kernel_rfl
@[simp] theorem Kgd {f : Cont (TyI -> Prop)} : @xTy Go.Proofs.Tryz.prog 132 f = f.k ⟨false, 1, 8, [.nilm], .map 9 72⟩ := by unfold xTy Jaf; rw [J64]
theorem J65 : tyOf Go.Proofs.Tryz.prog 133 = some ⟨false, 1, 8, [.nilm], .map 139 4⟩ := by kernel_rfl
@[simp] theorem Kge {f : Cont (TyI -> Prop)} : @xTy Go.Proofs.Tryz.prog 133 f = f.k ⟨false, 1, 8, [.nilm], .map 139 4⟩ := by unfold xTy Jaf; rw [J65]
theorem J66 : tyOf Go.Proofs.Tryz.prog 135 = some ⟨true, 2, 16, [.nilm, .nilm], .struct [(0, 1, false), (1, 1, false)]⟩ := by kernel_rfl
@[simp] theorem Kgf {f : Cont (TyI -> Prop)} : @xTy Go.Proofs.Tryz.prog 135 f = f.k ⟨true, 2, 16, [.nilm, .nilm], .struct [(0, 1, false), (1, 1, false)]⟩ := by unfold xTy Jaf; rw [J66]
theorem J67 : tyOf Go.Proofs.Tryz.prog 137 = some ⟨true, 2, 32, [.p (.str []), .p (.str [])], .struct [(0, 1, false), (1, 1, false)]⟩ := by kernel_rfl
@[simp] theorem Kgg {f : Cont (TyI -> Prop)} : @xTy Go.Proofs.Tryz.prog 137 f = f.k ⟨true, 2, 32, [.p (.str []), .p (.str [])], .struct [(0, 1, false), (1, 1, false)]⟩ := by unfold xTy Jaf; rw [J67]
theorem J68 : tyOf Go.Proofs.Tryz.prog 139 = some ⟨true, 4, 64, [.p (.str []), .p (.str []), .p (.str []), .p (.str [])], .array 2 137⟩ := by kernel_rfl
@[simp] theorem Kgh {f : Cont (TyI -> Prop)} : @xTy Go.Proofs.Tryz.prog 139 f = f.k ⟨true, 4, 64, [.p (.str []), .p (.str []), .p (.str []), .p (.str [])], .array 2 137⟩ := by unfold xTy Jaf; rw [J68]
theorem J69 : tyOf Go.Proofs.Tryz.prog 221 = some ⟨false, 1, 8, [.nilm], .map 9 3⟩ := by kernel_rfl
@[simp] theorem Kgi {f : Cont (TyI -> Prop)} : @xTy Go.Proofs.Tryz.prog 221 f = f.k ⟨false, 1, 8, [.nilm], .map 9 3⟩ := by unfold xTy Jaf; rw [J69]
theorem J7a : tyOf Go.Proofs.Tryz.prog 223 = some ⟨false, 1, 24, [.nils], .slice 139⟩ := by kernel_rfl
@[simp] theorem Kgj {f : Cont (TyI -> Prop)} : @xTy Go.Proofs.Tryz.prog 223 f = f.k ⟨false, 1, 24, [.nils], .slice 139⟩ := by unfold xTy Jaf; rw [J7a]
theorem J7b : tyOf Go.Proofs.Tryz.prog 240 = some ⟨true, 5, 120, [.nils, .nils, .nils, .nils, .nils], .array 5 75⟩ := by kernel_rfl
@[simp] theorem Kgk {f : Cont (TyI -> Prop)} : @xTy Go.Proofs.Tryz.prog 240 f = f.k ⟨true, 5, 120, [.nils, .nils, .nils, .nils, .nils], .array 5 75⟩ := by unfold xTy Jaf; rw [J7b]
theorem J7c : tyOf Go.Proofs.Tryz.prog 243 = some ⟨true, 12, 208, [.p (.str []), .p (.str []), .nils, .nils, .nils, .nils, .nils, .p (.str []), .p (.str []), .p (.int .i64 0), .p .nilf, .p .nilf], .struct [(0, 1, false), (1, 1, false), (2, 5, true), (7, 1, false), (8, 1, false), (9, 1, false), (10, 1, false), (11, 1, false)]⟩ := by kernel_rfl
@[simp] theorem Kgl {f : Cont (TyI -> Prop)} : @xTy Go.Proofs.Tryz.prog 243 f = f.k ⟨true, 12, 208, [.p (.str []), .p (.str []), .nils, .nils, .nils, .nils, .nils, .p (.str []), .p (.str []), .p (.int .i64 0), .p .nilf, .p .nilf], .struct [(0, 1, false), (1, 1, false), (2, 5, true), (7, 1, false), (8, 1, false), (9, 1, false), (10, 1, false), (11, 1, false)]⟩ := by unfold xTy Jaf; rw [J7c]
theorem J7d : tyOf Go.Proofs.Tryz.prog 261 = some ⟨true, 5, 80, [.p (.str []), .p (.str []), .p (.str []), .p (.str []), .p (.str [])], .array 5 9⟩ := by kernel_rfl
@[simp] theorem Kgm {f : Cont (TyI -> Prop)} : @xTy Go.Proofs.Tryz.prog 261 f = f.k ⟨true, 5, 80, [.p (.str []), .p (.str []), .p (.str []), .p (.str []), .p (.str [])], .array 5 9⟩ := by unfold xTy Jaf; rw [J7d]
theorem J7e : tyOf Go.Proofs.Tryz.prog 263 = some ⟨true, 7, 112, [.p (.str []), .p (.str []), .p (.str []), .p (.str []), .p (.str []), .p (.str []), .p (.str [])], .struct [(0, 1, false), (1, 1, false), (2, 5, true)]⟩ := by kernel_rfl
@[simp] theorem Kgn {f : Cont (TyI -> Prop)} : @xTy Go.Proofs.Tryz.prog 263 f = f.k ⟨true, 7, 112, [.p (.str []), .p (.str []), .p (.str []), .p (.str []), .p (.str []), .p (.str []), .p (.str [])], .struct [(0, 1, false), (1, 1, false), (2, 5, true)]⟩ := by unfold xTy Jaf; rw [J7e]
theorem J7f : tyOf Go.Proofs.Tryz.prog 264 = some ⟨false, 1, 24, [.nils], .slice 263⟩ := by kernel_rfl
@[simp] theorem Kgo {f : Cont (TyI -> Prop)} : @xTy Go.Proofs.Tryz.prog 264 f = f.k ⟨false, 1, 24, [.nils], .slice 263⟩ := by unfold xTy Jaf; rw [J7f]
theorem J7g : tyOf Go.Proofs.Tryz.prog 299 = some ⟨true, 168, 2912, [.p (.str []), .p (.str []), .nils, .nils, .nils, .nils, .nils, .p (.str []), .p (.str []), .p (.int .i64 0), .p .nilf, .p .nilf, .p (.str []), .p (.str []), .nils, .nils, .nils, .nils, .nils, .p (.str []), .p (.str []), .p (.int .i64 0), .p .nilf, .p .nilf, .p (.str []), .p (.str []), .nils, .nils, .nils, .nils, .nils, .p (.str []), .p (.str []), .p (.int .i64 0), .p .nilf, .p .nilf, .p (.str []), .p (.str []), .nils, .nils, .nils, .nils, .nils, .p (.str []), .p (.str []), .p (.int .i64 0), .p .nilf, .p .nilf, .p (.str []), .p (.str []), .nils, .nils, .nils, .nils, .nils, .p (.str []), .p (.str []), .p (.int .i64 0), .p .nilf, .p .nilf, .p (.str []), .p (.str []), .nils, .nils, .nils, .nils, .nils, .p (.str []), .p (.str []), .p (.int .i64 0), .p .nilf, .p .nilf, .p (.str []), .p (.str []), .nils, .nils, .nils, .nils, .nils, .p (.str []), .p (.str []), .p (.int .i64 0), .p .nilf, .p .nilf, .p (.str []), .p (.str []), .nils, .nils, .nils, .nils, .nils, .p (.str []), .p (.str []), .p (.int .i64 0), .p .nilf, .p .nilf, .p (.str []), .p (.str []), .nils, .nils, .nils, .nils, .nils, .p (.str []), .p (.str []), .p (.int .i64 0), .p .nilf, .p .nilf, .p (.str []), .p (.str []), .nils, .nils, .nils, .nils, .nils, .p (.str []), .p (.str []), .p (.int .i64 0), .p .nilf, .p .nilf, .p (.str []), .p (.str []), .nils, .nils, .nils, .nils, .nils, .p (.str []), .p (.str []), .p (.int .i64 0), .p .nilf, .p .nilf, .p (.str []), .p (.str []), .nils, .nils, .nils, .nils, .nils, .p (.str []), .p (.str []), .p (.int .i64 0), .p .nilf, .p .nilf, .p (.str []), .p (.str []), .nils, .nils, .nils, .nils, .nils, .p (.str []), .p (.str []), .p (.int .i64 0), .p .nilf, .p .nilf, .p (.str []), .p (.str []), .nils, .nils, .nils, .nils, .nils, .p (.str []), .p (.str []), .p (.int .i64 0), .p .nilf, .p .nilf], .array 14 243⟩ := by kernel_rfl
@[simp] theorem Kgp {f : Cont (TyI -> Prop)} : @xTy Go.Proofs.Tryz.prog 299 f = f.k ⟨true, 168, 2912, [.p (.str []), .p (.str []), .nils, .nils, .nils, .nils, .nils, .p (.str []), .p (.str []), .p (.int .i64 0), .p .nilf, .p .nilf, .p (.str []), .p (.str []), .nils, .nils, .nils, .nils, .nils, .p (.str []), .p (.str []), .p (.int .i64 0), .p .nilf, .p .nilf, .p (.str []), .p (.str []), .nils, .nils, .nils, .nils, .nils, .p (.str []), .p (.str []), .p (.int .i64 0), .p .nilf, .p .nilf, .p (.str []), .p (.str []), .nils, .nils, .nils, .nils, .nils, .p (.str []), .p (.str []), .p (.int .i64 0), .p .nilf, .p .nilf, .p (.str []), .p (.str []), .nils, .nils, .nils, .nils, .nils, .p (.str []), .p (.str []), .p (.int .i64 0), .p .nilf, .p .nilf, .p (.str []), .p (.str []), .nils, .nils, .nils, .nils, .nils, .p (.str []), .p (.str []), .p (.int .i64 0), .p .nilf, .p .nilf, .p (.str []), .p (.str []), .nils, .nils, .nils, .nils, .nils, .p (.str []), .p (.str []), .p (.int .i64 0), .p .nilf, .p .nilf, .p (.str []), .p (.str []), .nils, .nils, .nils, .nils, .nils, .p (.str []), .p (.str []), .p (.int .i64 0), .p .nilf, .p .nilf, .p (.str []), .p (.str []), .nils, .nils, .nils, .nils, .nils, .p (.str []), .p (.str []), .p (.int .i64 0), .p .nilf, .p .nilf, .p (.str []), .p (.str []), .nils, .nils, .nils, .nils, .nils, .p (.str []), .p (.str []), .p (.int .i64 0), .p .nilf, .p .nilf, .p (.str []), .p (.str []), .nils, .nils, .nils, .nils, .nils, .p (.str []), .p (.str []), .p (.int .i64 0), .p .nilf, .p .nilf, .p (.str []), .p (.str []), .nils, .nils, .nils, .nils, .nils, .p (.str []), .p (.str []), .p (.int .i64 0), .p .nilf, .p .nilf, .p (.str []), .p (.str []), .nils, .nils, .nils, .nils, .nils, .p (.str []), .p (.str []), .p (.int .i64 0), .p .nilf, .p .nilf, .p (.str []), .p (.str []), .nils, .nils, .nils, .nils, .nils, .p (.str []), .p (.str []), .p (.int .i64 0), .p .nilf, .p .nilf], .array 14 243⟩ := by unfold xTy Jaf; rw [J7g]
theorem J7h : tyOf Go.Proofs.Tryz.prog 302 = some ⟨false, 1, 24, [.nils], .slice 243⟩ := by kernel_rfl
@[simp] theorem Kgq {f : Cont (TyI -> Prop)} : @xTy Go.Proofs.Tryz.prog 302 f = f.k ⟨false, 1, 24, [.nils], .slice 243⟩ := by unfold xTy Jaf; rw [J7h]
theorem J7i : tyOf Go.Proofs.Tryz.prog 310 = some ⟨false, 1, 8, [.p (.int .u64 0)], .int .u64⟩ := by kernel_rfl
@[simp] theorem Kgr {f : Cont (TyI -> Prop)} : @xTy Go.Proofs.Tryz.prog 310 f = f.k ⟨false, 1, 8, [.p (.int .u64 0)], .int .u64⟩ := by unfold xTy Jaf; rw [J7i]
theorem J7j : tyOf Go.Proofs.Tryz.prog 357 = some ⟨false, 1, 8, [.p (.int .u64 0)], .int .u64⟩ := by kernel_rfl
@[simp] theorem Kgs {f : Cont (TyI -> Prop)} : @xTy Go.Proofs.Tryz.prog 357 f = f.k ⟨false, 1, 8, [.p (.int .u64 0)], .int .u64⟩ := by unfold xTy Jaf; rw [J7j]
theorem J7k : tyOf Go.Proofs.Tryz.prog 368 = some ⟨false, 1, 24, [.nils], .slice 75⟩ := by kernel_rfl
@[simp] theorem Kgt {f : Cont (TyI -> Prop)} : @xTy Go.Proofs.Tryz.prog 368 f = f.k ⟨false, 1, 24, [.nils], .slice 75⟩ := by unfold xTy Jaf; rw [J7k]
theorem J7l : tyOf Go.Proofs.Tryz.prog 392 = some ⟨true, 3, 3, [.p (.int .u8 0), .p (.int .u8 0), .p (.int .u8 0)], .array 3 5⟩ := by kernel_rfl
@[simp] theorem Kgu {f : Cont (TyI -> Prop)} : @xTy Go.Proofs.Tryz.prog 392 f = f.k ⟨true, 3, 3, [.p (.int .u8 0), .p (.int .u8 0), .p (.int .u8 0)], .array 3 5⟩ := by unfold xTy Jaf; rw [J7l]
theorem J7m : tyOf Go.Proofs.Tryz.prog 393 = some ⟨true, 18, 18, [.p (.int .u8 0), .p (.int .u8 0), .p (.int .u8 0), .p (.int .u8 0), .p (.int .u8 0), .p (.int .u8 0), .p (.int .u8 0), .p (.int .u8 0), .p (.int .u8 0), .p (.int .u8 0), .p (.int .u8 0), .p (.int .u8 0), .p (.int .u8 0), .p (.int .u8 0), .p (.int .u8 0), .p (.int .u8 0), .p (.int .u8 0), .p (.int .u8 0)], .array 6 392⟩ := by kernel_rfl
@[simp] theorem Kgv {f : Cont (TyI -> Prop)} : @xTy Go.Proofs.Tryz.prog 393 f = f.k ⟨true, 18, 18, [.p (.int .u8 0), .p (.int .u8 0), .p (.int .u8 0), .p (.int .u8 0), .p (.int .u8 0), .p (.int .u8 0), .p (.int .u8 0), .p (.int .u8 0), .p (.int .u8 0), .p (.int .u8 0), .p (.int .u8 0), .p (.int .u8 0), .p (.int .u8 0), .p (.int .u8 0), .p (.int .u8 0), .p (.int .u8 0), .p (.int .u8 0), .p (.int .u8 0)], .array 6 392⟩ := by unfold xTy Jaf; rw [J7m]
theorem eq55 {a0 b0 : Int} {a1 b1 : List UInt8} : eqA Go.Proofs.Tryz.prog 8 55 (.agg [.p (.int .i64 a0), .p (.str a1)]) (.agg [.p (.int .i64 b0), .p (.str b1)]) = some (decide (a0 = b0) && (decide (a1 = b1) && true)) := by kernel_rfl
@[simp] theorem Kdr {a0 b0 : Int} {a1 b1 : List UInt8} {f : Cont (Bool -> Prop)} : @xEq Go.Proofs.Tryz.prog 55 [.p (.int .i64 a0), .p (.str a1)] [.p (.int .i64 b0), .p (.str b1)] f = f.k (decide (a0 = b0 /\ a1 = b1)) := by
 have h1 : Go.Proofs.Tryz.prog.eqGuardType Go.Proofs.Tryz.prog.depth 55 = false := by kernel_rfl
 have h2 : (decide (a0 = b0) && (decide (a1 = b1) && true)) = decide (a0 = b0 /\ a1 = b1) := by simp [Bool.decide_and, Bool.and_assoc, Bool.beq_eq_decide_eq]
 simp only [xEq, VEq, eq55, h1, h2, Jl7, true_and]
theorem eq67 {a0 b0 : Int} {a1 b1 : List UInt8} {a2 b2 : Int} {a3 b3 : List UInt8} : eqA Go.Proofs.Tryz.prog 8 67 (.agg [.p (.int .i64 a0), .p (.str a1), .p (.int .i64 a2), .p (.str a3)]) (.agg [.p (.int .i64 b0), .p (.str b1), .p (.int .i64 b2), .p (.str b3)]) = some ((decide (a0 = b0) && (decide (a1 = b1) && true)) && ((decide (a2 = b2) && (decide (a3 = b3) && true)) && true)) := by kernel_rfl
@[simp] theorem Kds {a0 b0 : Int} {a1 b1 : List UInt8} {a2 b2 : Int} {a3 b3 : List UInt8} {f : Cont (Bool -> Prop)} : @xEq Go.Proofs.Tryz.prog 67 [.p (.int .i64 a0), .p (.str a1), .p (.int .i64 a2), .p (.str a3)] [.p (.int .i64 b0), .p (.str b1), .p (.int .i64 b2), .p (.str b3)] f = f.k (decide (a0 = b0 /\ a1 = b1 /\ a2 = b2 /\ a3 = b3)) := by
 have h1 : Go.Proofs.Tryz.prog.eqGuardType Go.Proofs.Tryz.prog.depth 67 = false := by kernel_rfl
 have h2 : ((decide (a0 = b0) && (decide (a1 = b1) && true)) && ((decide (a2 = b2) && (decide (a3 = b3) && true)) && true)) = decide (a0 = b0 /\ a1 = b1 /\ a2 = b2 /\ a3 = b3) := by simp [Bool.decide_and, Bool.and_assoc, Bool.beq_eq_decide_eq]
 simp only [xEq, VEq, eq67, h1, h2, Jl7, true_and]
theorem eq72 {a0 b0 : Int} {a1 b1 : List UInt8} {a2 b2 : Int} : eqA Go.Proofs.Tryz.prog 8 72 (.agg [.p (.int .i64 a0), .p (.str a1), .p (.int .i64 a2)]) (.agg [.p (.int .i64 b0), .p (.str b1), .p (.int .i64 b2)]) = some (decide (a0 = b0) && (decide (a1 = b1) && (decide (a2 = b2) && true))) := by kernel_rfl
@[simp] theorem Kdt {a0 b0 : Int} {a1 b1 : List UInt8} {a2 b2 : Int} {f : Cont (Bool -> Prop)} : @xEq Go.Proofs.Tryz.prog 72 [.p (.int .i64 a0), .p (.str a1), .p (.int .i64 a2)] [.p (.int .i64 b0), .p (.str b1), .p (.int .i64 b2)] f = f.k (decide (a0 = b0 /\ a1 = b1 /\ a2 = b2)) := by
 have h1 : Go.Proofs.Tryz.prog.eqGuardType Go.Proofs.Tryz.prog.depth 72 = false := by kernel_rfl
 have h2 : (decide (a0 = b0) && (decide (a1 = b1) && (decide (a2 = b2) && true))) = decide (a0 = b0 /\ a1 = b1 /\ a2 = b2) := by simp [Bool.decide_and, Bool.and_assoc, Bool.beq_eq_decide_eq]
 simp only [xEq, VEq, eq72, h1, h2, Jl7, true_and]
theorem J0o {a0 b0 : List UInt8} {a1 b1 : List UInt8} : eqA Go.Proofs.Tryz.prog 8 137 (.agg [.p (.str a0), .p (.str a1)]) (.agg [.p (.str b0), .p (.str b1)]) = some (decide (a0 = b0) && (decide (a1 = b1) && true)) := by kernel_rfl
@[simp] theorem Kdq {a0 b0 : List UInt8} {a1 b1 : List UInt8} {f : Cont (Bool -> Prop)} : @xEq Go.Proofs.Tryz.prog 137 [.p (.str a0), .p (.str a1)] [.p (.str b0), .p (.str b1)] f = f.k (decide (a0 = b0 /\ a1 = b1)) := by
 have h1 : Go.Proofs.Tryz.prog.eqGuardType Go.Proofs.Tryz.prog.depth 137 = false := by kernel_rfl
 have h2 : (decide (a0 = b0) && (decide (a1 = b1) && true)) = decide (a0 = b0 /\ a1 = b1) := by simp [Bool.decide_and, Bool.and_assoc, Bool.beq_eq_decide_eq]
 simp only [xEq, VEq, J0o, h1, h2, Jl7, true_and]
end Go.Am
