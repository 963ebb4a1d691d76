/- Type facts of the seat's program, printed by gentypes.py. -/
import Derived.Test.YtmfjjncfdpejiaaGreatDoorProg
import Derived.Test.YtmfjjncfdpejiaaGreatDoorZA4
set_option linter.unusedVariables false
set_option linter.unusedSimpArgs false
namespace Go.Am
open Go
theorem ty3 : tyOf Go.Proofs.Tryz.prog 3 = some ⟨false, 1, 8, [.p (.int .i64 0)], .int .i64⟩ := by kernel_rfl
@[simp] theorem xt3 {f : Cont (TyI -> Prop)} : @xTy Go.Proofs.Tryz.prog 3 f = f.k ⟨false, 1, 8, [.p (.int .i64 0)], .int .i64⟩ := by unfold xTy Jaf; rw [ty3]
theorem ty4 : tyOf Go.Proofs.Tryz.prog 4 = some ⟨false, 1, 1, [.p (.bool false)], .bool⟩ := by kernel_rfl
@[simp] theorem xt4 {f : Cont (TyI -> Prop)} : @xTy Go.Proofs.Tryz.prog 4 f = f.k ⟨false, 1, 1, [.p (.bool false)], .bool⟩ := by unfold xTy Jaf; rw [ty4]
theorem ty5 : tyOf Go.Proofs.Tryz.prog 5 = some ⟨false, 1, 1, [.p (.int .u8 0)], .int .u8⟩ := by kernel_rfl
@[simp] theorem xt5 {f : Cont (TyI -> Prop)} : @xTy Go.Proofs.Tryz.prog 5 f = f.k ⟨false, 1, 1, [.p (.int .u8 0)], .int .u8⟩ := by unfold xTy Jaf; rw [ty5]
theorem ty9 : tyOf Go.Proofs.Tryz.prog 9 = some ⟨false, 1, 16, [.p (.str [])], .str⟩ := by kernel_rfl
@[simp] theorem xt9 {f : Cont (TyI -> Prop)} : @xTy Go.Proofs.Tryz.prog 9 f = f.k ⟨false, 1, 16, [.p (.str [])], .str⟩ := by unfold xTy Jaf; rw [ty9]
theorem ty24 : tyOf Go.Proofs.Tryz.prog 24 = some ⟨false, 1, 24, [.nils], .slice 72⟩ := by kernel_rfl
@[simp] theorem xt24 {f : Cont (TyI -> Prop)} : @xTy Go.Proofs.Tryz.prog 24 f = f.k ⟨false, 1, 24, [.nils], .slice 72⟩ := by unfold xTy Jaf; rw [ty24]
theorem ty25 : tyOf Go.Proofs.Tryz.prog 25 = some ⟨false, 1, 24, [.nils], .slice 67⟩ := by kernel_rfl
@[simp] theorem xt25 {f : Cont (TyI -> Prop)} : @xTy Go.Proofs.Tryz.prog 25 f = f.k ⟨false, 1, 24, [.nils], .slice 67⟩ := by unfold xTy Jaf; rw [ty25]
theorem ty27 : tyOf Go.Proofs.Tryz.prog 27 = some ⟨true, 2, 48, [.nils, .nils], .struct [(0, 1, false), (1, 1, false)]⟩ := by kernel_rfl
@[simp] theorem xt27 {f : Cont (TyI -> Prop)} : @xTy Go.Proofs.Tryz.prog 27 f = f.k ⟨true, 2, 48, [.nils, .nils], .struct [(0, 1, false), (1, 1, false)]⟩ := by unfold xTy Jaf; rw [ty27]
theorem ty28 : tyOf Go.Proofs.Tryz.prog 28 = some ⟨false, 1, 8, [.p (.int .i64 0)], .int .i64⟩ := by kernel_rfl
@[simp] theorem xt28 {f : Cont (TyI -> Prop)} : @xTy Go.Proofs.Tryz.prog 28 f = f.k ⟨false, 1, 8, [.p (.int .i64 0)], .int .i64⟩ := by unfold xTy Jaf; rw [ty28]
theorem ty45 : tyOf Go.Proofs.Tryz.prog 45 = some ⟨false, 1, 24, [.nils], .slice 3⟩ := by kernel_rfl
@[simp] theorem xt45 {f : Cont (TyI -> Prop)} : @xTy Go.Proofs.Tryz.prog 45 f = f.k ⟨false, 1, 24, [.nils], .slice 3⟩ := by unfold xTy Jaf; rw [ty45]
theorem ty55 : tyOf Go.Proofs.Tryz.prog 55 = some ⟨true, 2, 24, [.p (.int .i64 0), .p (.str [])], .struct [(0, 1, false), (1, 1, false)]⟩ := by kernel_rfl
@[simp] theorem xt55 {f : Cont (TyI -> Prop)} : @xTy Go.Proofs.Tryz.prog 55 f = f.k ⟨true, 2, 24, [.p (.int .i64 0), .p (.str [])], .struct [(0, 1, false), (1, 1, false)]⟩ := by unfold xTy Jaf; rw [ty55]
theorem ty63 : tyOf Go.Proofs.Tryz.prog 63 = some ⟨false, 1, 24, [.nils], .slice 68⟩ := by kernel_rfl
@[simp] theorem xt63 {f : Cont (TyI -> Prop)} : @xTy Go.Proofs.Tryz.prog 63 f = f.k ⟨false, 1, 24, [.nils], .slice 68⟩ := by unfold xTy Jaf; rw [ty63]
theorem ty67 : tyOf Go.Proofs.Tryz.prog 67 = some ⟨true, 4, 48, [.p (.int .i64 0), .p (.str []), .p (.int .i64 0), .p (.str [])], .struct [(0, 2, true), (2, 2, true)]⟩ := by kernel_rfl
@[simp] theorem xt67 {f : Cont (TyI -> Prop)} : @xTy Go.Proofs.Tryz.prog 67 f = f.k ⟨true, 4, 48, [.p (.int .i64 0), .p (.str []), .p (.int .i64 0), .p (.str [])], .struct [(0, 2, true), (2, 2, true)]⟩ := by unfold xTy Jaf; rw [ty67]
theorem ty68 : tyOf Go.Proofs.Tryz.prog 68 = some ⟨false, 1, 24, [.nils], .slice 55⟩ := by kernel_rfl
@[simp] theorem xt68 {f : Cont (TyI -> Prop)} : @xTy Go.Proofs.Tryz.prog 68 f = f.k ⟨false, 1, 24, [.nils], .slice 55⟩ := by unfold xTy Jaf; rw [ty68]
theorem ty72 : tyOf Go.Proofs.Tryz.prog 72 = some ⟨true, 3, 32, [.p (.int .i64 0), .p (.str []), .p (.int .i64 0)], .struct [(0, 1, false), (1, 1, false), (2, 1, false)]⟩ := by kernel_rfl
@[simp] theorem xt72 {f : Cont (TyI -> Prop)} : @xTy Go.Proofs.Tryz.prog 72 f = f.k ⟨true, 3, 32, [.p (.int .i64 0), .p (.str []), .p (.int .i64 0)], .struct [(0, 1, false), (1, 1, false), (2, 1, false)]⟩ := by unfold xTy Jaf; rw [ty72]
theorem ty75 : tyOf Go.Proofs.Tryz.prog 75 = some ⟨false, 1, 24, [.nils], .slice 9⟩ := by kernel_rfl
@[simp] theorem xt75 {f : Cont (TyI -> Prop)} : @xTy Go.Proofs.Tryz.prog 75 f = f.k ⟨false, 1, 24, [.nils], .slice 9⟩ := by unfold xTy Jaf; rw [ty75]
theorem ty93 : tyOf Go.Proofs.Tryz.prog 93 = some ⟨false, 1, 24, [.nils], .slice 99⟩ := by kernel_rfl
@[simp] theorem xt93 {f : Cont (TyI -> Prop)} : @xTy Go.Proofs.Tryz.prog 93 f = f.k ⟨false, 1, 24, [.nils], .slice 99⟩ := by unfold xTy Jaf; rw [ty93]
theorem ty99 : tyOf Go.Proofs.Tryz.prog 99 = some ⟨true, 3, 32, [.p (.int .i64 0), .p (.int .i64 0), .p (.str [])], .struct [(0, 1, false), (1, 2, true)]⟩ := by kernel_rfl
@[simp] theorem xt99 {f : Cont (TyI -> Prop)} : @xTy Go.Proofs.Tryz.prog 99 f = f.k ⟨true, 3, 32, [.p (.int .i64 0), .p (.int .i64 0), .p (.str [])], .struct [(0, 1, false), (1, 2, true)]⟩ := by unfold xTy Jaf; rw [ty99]
theorem J89 : tyOf Go.Proofs.Tryz.prog 100 = some ⟨false, 1, 8, [.nilm], .map 55 3⟩ := by kernel_rfl
@[simp] theorem Kh6 {f : Cont (TyI -> Prop)} : @xTy Go.Proofs.Tryz.prog 100 f = f.k ⟨false, 1, 8, [.nilm], .map 55 3⟩ := by unfold xTy Jaf; rw [J89]
theorem J9a : tyOf Go.Proofs.Tryz.prog 111 = some ⟨false, 1, 8, [.p .nilf], .other⟩ := by kernel_rfl
@[simp] theorem Kh7 {f : Cont (TyI -> Prop)} : @xTy Go.Proofs.Tryz.prog 111 f = f.k ⟨false, 1, 8, [.p .nilf], .other⟩ := by unfold xTy Jaf; rw [J9a]
theorem J9b : tyOf Go.Proofs.Tryz.prog 112 = some ⟨false, 1, 8, [.nilm], .map 9 111⟩ := by kernel_rfl
@[simp] theorem Kh9 {f : Cont (TyI -> Prop)} : @xTy Go.Proofs.Tryz.prog 112 f = f.k ⟨false, 1, 8, [.nilm], .map 9 111⟩ := by unfold xTy Jaf; rw [J9b]
theorem J9c : tyOf Go.Proofs.Tryz.prog 132 = some ⟨false, 1, 8, [.nilm], .map 9 72⟩ := by kernel_rfl
@[simp] theorem Kia {f : Cont (TyI -> Prop)} : @xTy Go.Proofs.Tryz.prog 132 f = f.k ⟨false, 1, 8, [.nilm], .map 9 72⟩ := by unfold xTy Jaf; rw [J9c]
theorem J9d : tyOf Go.Proofs.Tryz.prog 133 = some ⟨false, 1, 8, [.nilm], .map 139 4⟩ := by kernel_rfl
@[simp] theorem Kib {f : Cont (TyI -> Prop)} : @xTy Go.Proofs.Tryz.prog 133 f = f.k ⟨false, 1, 8, [.nilm], .map 139 4⟩ := by unfold xTy Jaf; rw [J9d]
theorem J9e : tyOf Go.Proofs.Tryz.prog 135 = some ⟨true, 2, 16, [.nilm, .nilm], .struct [(0, 1, false), (1, 1, false)]⟩ := by kernel_rfl
@[simp] theorem Kic {f : Cont (TyI -> Prop)} : @xTy Go.Proofs.Tryz.prog 135 f = f.k ⟨true, 2, 16, [.nilm, .nilm], .struct [(0, 1, false), (1, 1, false)]⟩ := by unfold xTy Jaf; rw [J9e]
theorem J9f : tyOf Go.Proofs.Tryz.prog 137 = some ⟨true, 2, 32, [.p (.str []), .p (.str [])], .struct [(0, 1, false), (1, 1, false)]⟩ := by kernel_rfl
@[simp] theorem Kid {f : Cont (TyI -> Prop)} : @xTy Go.Proofs.Tryz.prog 137 f = f.k ⟨true, 2, 32, [.p (.str []), .p (.str [])], .struct [(0, 1, false), (1, 1, false)]⟩ := by unfold xTy Jaf; rw [J9f]
theorem J9g : tyOf Go.Proofs.Tryz.prog 139 = some ⟨true, 4, 64, [.p (.str []), .p (.str []), .p (.str []), .p (.str [])], .array 2 137⟩ := by kernel_rfl
@[simp] theorem Kie {f : Cont (TyI -> Prop)} : @xTy Go.Proofs.Tryz.prog 139 f = f.k ⟨true, 4, 64, [.p (.str []), .p (.str []), .p (.str []), .p (.str [])], .array 2 137⟩ := by unfold xTy Jaf; rw [J9g]
theorem J9h : tyOf Go.Proofs.Tryz.prog 189 = some ⟨false, 1, 8, [.nilm], .map 55 68⟩ := by kernel_rfl
@[simp] theorem Kif {f : Cont (TyI -> Prop)} : @xTy Go.Proofs.Tryz.prog 189 f = f.k ⟨false, 1, 8, [.nilm], .map 55 68⟩ := by unfold xTy Jaf; rw [J9h]
theorem J9i : tyOf Go.Proofs.Tryz.prog 191 = some ⟨true, 4, 80, [.nils, .nils, .nils, .nilm], .struct [(0, 2, true), (2, 1, false), (3, 1, false)]⟩ := by kernel_rfl
@[simp] theorem Kig {f : Cont (TyI -> Prop)} : @xTy Go.Proofs.Tryz.prog 191 f = f.k ⟨true, 4, 80, [.nils, .nils, .nils, .nilm], .struct [(0, 2, true), (2, 1, false), (3, 1, false)]⟩ := by unfold xTy Jaf; rw [J9i]
theorem J9j : tyOf Go.Proofs.Tryz.prog 196 = some ⟨false, 1, 8, [.p .nilf], .other⟩ := by kernel_rfl
@[simp] theorem Kih {f : Cont (TyI -> Prop)} : @xTy Go.Proofs.Tryz.prog 196 f = f.k ⟨false, 1, 8, [.p .nilf], .other⟩ := by unfold xTy Jaf; rw [J9j]
theorem J9k : tyOf Go.Proofs.Tryz.prog 198 = some ⟨true, 2, 24, [.p (.str []), .p .nilf], .struct [(0, 1, false), (1, 1, false)]⟩ := by kernel_rfl
@[simp] theorem Kii {f : Cont (TyI -> Prop)} : @xTy Go.Proofs.Tryz.prog 198 f = f.k ⟨true, 2, 24, [.p (.str []), .p .nilf], .struct [(0, 1, false), (1, 1, false)]⟩ := by unfold xTy Jaf; rw [J9k]
theorem J9l : tyOf Go.Proofs.Tryz.prog 199 = some ⟨true, 16, 192, [.p (.str []), .p .nilf, .p (.str []), .p .nilf, .p (.str []), .p .nilf, .p (.str []), .p .nilf, .p (.str []), .p .nilf, .p (.str []), .p .nilf, .p (.str []), .p .nilf, .p (.str []), .p .nilf], .array 8 198⟩ := by kernel_rfl
@[simp] theorem Kij {f : Cont (TyI -> Prop)} : @xTy Go.Proofs.Tryz.prog 199 f = f.k ⟨true, 16, 192, [.p (.str []), .p .nilf, .p (.str []), .p .nilf, .p (.str []), .p .nilf, .p (.str []), .p .nilf, .p (.str []), .p .nilf, .p (.str []), .p .nilf, .p (.str []), .p .nilf, .p (.str []), .p .nilf], .array 8 198⟩ := by unfold xTy Jaf; rw [J9l]
theorem J9m : tyOf Go.Proofs.Tryz.prog 221 = some ⟨false, 1, 8, [.nilm], .map 9 3⟩ := by kernel_rfl
@[simp] theorem Kik {f : Cont (TyI -> Prop)} : @xTy Go.Proofs.Tryz.prog 221 f = f.k ⟨false, 1, 8, [.nilm], .map 9 3⟩ := by unfold xTy Jaf; rw [J9m]
theorem J9n : tyOf Go.Proofs.Tryz.prog 223 = some ⟨false, 1, 24, [.nils], .slice 139⟩ := by kernel_rfl
@[simp] theorem Kil {f : Cont (TyI -> Prop)} : @xTy Go.Proofs.Tryz.prog 223 f = f.k ⟨false, 1, 24, [.nils], .slice 139⟩ := by unfold xTy Jaf; rw [J9n]
theorem J9o : tyOf Go.Proofs.Tryz.prog 240 = some ⟨true, 5, 120, [.nils, .nils, .nils, .nils, .nils], .array 5 75⟩ := by kernel_rfl
@[simp] theorem Kim {f : Cont (TyI -> Prop)} : @xTy Go.Proofs.Tryz.prog 240 f = f.k ⟨true, 5, 120, [.nils, .nils, .nils, .nils, .nils], .array 5 75⟩ := by unfold xTy Jaf; rw [J9o]
theorem J9p : tyOf Go.Proofs.Tryz.prog 243 = some ⟨true, 12, 208, [.p (.str []), .p (.str []), .nils, .nils, .nils, .nils, .nils, .p (.str []), .p (.str []), .p (.int .i64 0), .p .nilf, .p .nilf], .struct [(0, 1, false), (1, 1, false), (2, 5, true), (7, 1, false), (8, 1, false), (9, 1, false), (10, 1, false), (11, 1, false)]⟩ := by kernel_rfl
@[simp] theorem Kin {f : Cont (TyI -> Prop)} : @xTy Go.Proofs.Tryz.prog 243 f = f.k ⟨true, 12, 208, [.p (.str []), .p (.str []), .nils, .nils, .nils, .nils, .nils, .p (.str []), .p (.str []), .p (.int .i64 0), .p .nilf, .p .nilf], .struct [(0, 1, false), (1, 1, false), (2, 5, true), (7, 1, false), (8, 1, false), (9, 1, false), (10, 1, false), (11, 1, false)]⟩ := by unfold xTy Jaf; rw [J9p]
theorem J9q : tyOf Go.Proofs.Tryz.prog 250 = some ⟨false, 1, 8, [.nilm], .map 55 55⟩ := by kernel_rfl
@[simp] theorem Kio {f : Cont (TyI -> Prop)} : @xTy Go.Proofs.Tryz.prog 250 f = f.k ⟨false, 1, 8, [.nilm], .map 55 55⟩ := by unfold xTy Jaf; rw [J9q]
theorem J9r : tyOf Go.Proofs.Tryz.prog 261 = some ⟨true, 5, 80, [.p (.str []), .p (.str []), .p (.str []), .p (.str []), .p (.str [])], .array 5 9⟩ := by kernel_rfl
@[simp] theorem Kip {f : Cont (TyI -> Prop)} : @xTy Go.Proofs.Tryz.prog 261 f = f.k ⟨true, 5, 80, [.p (.str []), .p (.str []), .p (.str []), .p (.str []), .p (.str [])], .array 5 9⟩ := by unfold xTy Jaf; rw [J9r]
theorem J9s : tyOf Go.Proofs.Tryz.prog 263 = some ⟨true, 7, 112, [.p (.str []), .p (.str []), .p (.str []), .p (.str []), .p (.str []), .p (.str []), .p (.str [])], .struct [(0, 1, false), (1, 1, false), (2, 5, true)]⟩ := by kernel_rfl
@[simp] theorem Kiq {f : Cont (TyI -> Prop)} : @xTy Go.Proofs.Tryz.prog 263 f = f.k ⟨true, 7, 112, [.p (.str []), .p (.str []), .p (.str []), .p (.str []), .p (.str []), .p (.str []), .p (.str [])], .struct [(0, 1, false), (1, 1, false), (2, 5, true)]⟩ := by unfold xTy Jaf; rw [J9s]
theorem J9t : tyOf Go.Proofs.Tryz.prog 264 = some ⟨false, 1, 24, [.nils], .slice 263⟩ := by kernel_rfl
@[simp] theorem Kir {f : Cont (TyI -> Prop)} : @xTy Go.Proofs.Tryz.prog 264 f = f.k ⟨false, 1, 24, [.nils], .slice 263⟩ := by unfold xTy Jaf; rw [J9t]
theorem J9u : tyOf Go.Proofs.Tryz.prog 299 = some ⟨true, 168, 2912, [.p (.str []), .p (.str []), .nils, .nils, .nils, .nils, .nils, .p (.str []), .p (.str []), .p (.int .i64 0), .p .nilf, .p .nilf, .p (.str []), .p (.str []), .nils, .nils, .nils, .nils, .nils, .p (.str []), .p (.str []), .p (.int .i64 0), .p .nilf, .p .nilf, .p (.str []), .p (.str []), .nils, .nils, .nils, .nils, .nils, .p (.str []), .p (.str []), .p (.int .i64 0), .p .nilf, .p .nilf, .p (.str []), .p (.str []), .nils, .nils, .nils, .nils, .nils, .p (.str []), .p (.str []), .p (.int .i64 0), .p .nilf, .p .nilf, .p (.str []), .p (.str []), .nils, .nils, .nils, .nils, .nils, .p (.str []), .p (.str []), .p (.int .i64 0), .p .nilf, .p .nilf, .p (.str []), .p (.str []), .nils, .nils, .nils, .nils, .nils, .p (.str []), .p (.str []), .p (.int .i64 0), .p .nilf, .p .nilf, .p (.str []), .p (.str []), .nils, .nils, .nils, .nils, .nils, .p (.str []), .p (.str []), .p (.int .i64 0), .p .nilf, .p .nilf, .p (.str []), .p (.str []), .nils, .nils, .nils, .nils, .nils, .p (.str []), .p (.str []), .p (.int .i64 0), .p .nilf, .p .nilf, .p (.str []), .p (.str []), .nils, .nils, .nils, .nils, .nils, .p (.str []), .p (.str []), .p (.int .i64 0), .p .nilf, .p .nilf, .p (.str []), .p (.str []), .nils, .nils, .nils, .nils, .nils, .p (.str []), .p (.str []), .p (.int .i64 0), .p .nilf, .p .nilf, .p (.str []), .p (.str []), .nils, .nils, .nils, .nils, .nils, .p (.str []), .p (.str []), .p (.int .i64 0), .p .nilf, .p .nilf, .p (.str []), .p (.str []), .nils, .nils, .nils, .nils, .nils, .p (.str []), .p (.str []), .p (.int .i64 0), .p .nilf, .p .nilf, .p (.str []), .p (.str []), .nils, .nils, .nils, .nils, .nils, .p (.str []), .p (.str []), .p (.int .i64 0), .p .nilf, .p .nilf, .p (.str []), .p (.str []), .nils, .nils, .nils, .nils, .nils, .p (.str []), .p (.str []), .p (.int .i64 0), .p .nilf, .p .nilf], .array 14 243⟩ := by kernel_rfl
@[simp] theorem Kis {f : Cont (TyI -> Prop)} : @xTy Go.Proofs.Tryz.prog 299 f = f.k ⟨true, 168, 2912, [.p (.str []), .p (.str []), .nils, .nils, .nils, .nils, .nils, .p (.str []), .p (.str []), .p (.int .i64 0), .p .nilf, .p .nilf, .p (.str []), .p (.str []), .nils, .nils, .nils, .nils, .nils, .p (.str []), .p (.str []), .p (.int .i64 0), .p .nilf, .p .nilf, .p (.str []), .p (.str []), .nils, .nils, .nils, .nils, .nils, .p (.str []), .p (.str []), .p (.int .i64 0), .p .nilf, .p .nilf, .p (.str []), .p (.str []), .nils, .nils, .nils, .nils, .nils, .p (.str []), .p (.str []), .p (.int .i64 0), .p .nilf, .p .nilf, .p (.str []), .p (.str []), .nils, .nils, .nils, .nils, .nils, .p (.str []), .p (.str []), .p (.int .i64 0), .p .nilf, .p .nilf, .p (.str []), .p (.str []), .nils, .nils, .nils, .nils, .nils, .p (.str []), .p (.str []), .p (.int .i64 0), .p .nilf, .p .nilf, .p (.str []), .p (.str []), .nils, .nils, .nils, .nils, .nils, .p (.str []), .p (.str []), .p (.int .i64 0), .p .nilf, .p .nilf, .p (.str []), .p (.str []), .nils, .nils, .nils, .nils, .nils, .p (.str []), .p (.str []), .p (.int .i64 0), .p .nilf, .p .nilf, .p (.str []), .p (.str []), .nils, .nils, .nils, .nils, .nils, .p (.str []), .p (.str []), .p (.int .i64 0), .p .nilf, .p .nilf, .p (.str []), .p (.str []), .nils, .nils, .nils, .nils, .nils, .p (.str []), .p (.str []), .p (.int .i64 0), .p .nilf, .p .nilf, .p (.str []), .p (.str []), .nils, .nils, .nils, .nils, .nils, .p (.str []), .p (.str []), .p (.int .i64 0), .p .nilf, .p .nilf, .p (.str []), .p (.str []), .nils, .nils, .nils, .nils, .nils, .p (.str []), .p (.str []), .p (.int .i64 0), .p .nilf, .p .nilf, .p (.str []), .p (.str []), .nils, .nils, .nils, .nils, .nils, .p (.str []), .p (.str []), .p (.int .i64 0), .p .nilf, .p .nilf, .p (.str []), .p (.str []), .nils, .nils, .nils, .nils, .nils, .p (.str []), .p (.str []), .p (.int .i64 0), .p .nilf, .p .nilf], .array 14 243⟩ := by unfold xTy Jaf; rw [J9u]
theorem J9v : tyOf Go.Proofs.Tryz.prog 302 = some ⟨false, 1, 24, [.nils], .slice 243⟩ := by kernel_rfl
@[simp] theorem Kiu {f : Cont (TyI -> Prop)} : @xTy Go.Proofs.Tryz.prog 302 f = f.k ⟨false, 1, 24, [.nils], .slice 243⟩ := by unfold xTy Jaf; rw [J9v]
theorem J9w : tyOf Go.Proofs.Tryz.prog 310 = some ⟨false, 1, 8, [.p (.int .u64 0)], .int .u64⟩ := by kernel_rfl
@[simp] theorem Kiv {f : Cont (TyI -> Prop)} : @xTy Go.Proofs.Tryz.prog 310 f = f.k ⟨false, 1, 8, [.p (.int .u64 0)], .int .u64⟩ := by unfold xTy Jaf; rw [J9w]
theorem J9x : tyOf Go.Proofs.Tryz.prog 357 = some ⟨false, 1, 8, [.p (.int .u64 0)], .int .u64⟩ := by kernel_rfl
@[simp] theorem Kiw {f : Cont (TyI -> Prop)} : @xTy Go.Proofs.Tryz.prog 357 f = f.k ⟨false, 1, 8, [.p (.int .u64 0)], .int .u64⟩ := by unfold xTy Jaf; rw [J9x]
theorem J9y : tyOf Go.Proofs.Tryz.prog 368 = some ⟨false, 1, 24, [.nils], .slice 75⟩ := by kernel_rfl
@[simp] theorem Kix {f : Cont (TyI -> Prop)} : @xTy Go.Proofs.Tryz.prog 368 f = f.k ⟨false, 1, 24, [.nils], .slice 75⟩ := by unfold xTy Jaf; rw [J9y]
theorem J9z : tyOf Go.Proofs.Tryz.prog 392 = some ⟨true, 3, 3, [.p (.int .u8 0), .p (.int .u8 0), .p (.int .u8 0)], .array 3 5⟩ := by kernel_rfl
@[simp] theorem Kiy {f : Cont (TyI -> Prop)} : @xTy Go.Proofs.Tryz.prog 392 f = f.k ⟨true, 3, 3, [.p (.int .u8 0), .p (.int .u8 0), .p (.int .u8 0)], .array 3 5⟩ := by unfold xTy Jaf; rw [J9z]
theorem J90 : tyOf Go.Proofs.Tryz.prog 393 = some ⟨true, 18, 18, [.p (.int .u8 0), .p (.int .u8 0), .p (.int .u8 0), .p (.int .u8 0), .p (.int .u8 0), .p (.int .u8 0), .p (.int .u8 0), .p (.int .u8 0), .p (.int .u8 0), .p (.int .u8 0), .p (.int .u8 0), .p (.int .u8 0), .p (.int .u8 0), .p (.int .u8 0), .p (.int .u8 0), .p (.int .u8 0), .p (.int .u8 0), .p (.int .u8 0)], .array 6 392⟩ := by kernel_rfl
@[simp] theorem Kiz {f : Cont (TyI -> Prop)} : @xTy Go.Proofs.Tryz.prog 393 f = f.k ⟨true, 18, 18, [.p (.int .u8 0), .p (.int .u8 0), .p (.int .u8 0), .p (.int .u8 0), .p (.int .u8 0), .p (.int .u8 0), .p (.int .u8 0), .p (.int .u8 0), .p (.int .u8 0), .p (.int .u8 0), .p (.int .u8 0), .p (.int .u8 0), .p (.int .u8 0), .p (.int .u8 0), .p (.int .u8 0), .p (.int .u8 0), .p (.int .u8 0), .p (.int .u8 0)], .array 6 392⟩ := by unfold xTy Jaf; rw [J90]
theorem eq55 {a0 b0 : Int} {a1 b1 : List UInt8} : eqA Go.Proofs.Tryz.prog 8 55 (.agg [.p (.int .i64 a0), .p (.str a1)]) (.agg [.p (.int .i64 b0), .p (.str b1)]) = some (decide (a0 = b0) && (decide (a1 = b1) && true)) := by kernel_rfl
@[simp] theorem Kfs {a0 b0 : Int} {a1 b1 : List UInt8} {f : Cont (Bool -> Prop)} : @xEq Go.Proofs.Tryz.prog 55 [.p (.int .i64 a0), .p (.str a1)] [.p (.int .i64 b0), .p (.str b1)] f = f.k (decide (a0 = b0 /\ a1 = b1)) := by
 have h1 : Go.Proofs.Tryz.prog.eqGuardType Go.Proofs.Tryz.prog.depth 55 = false := by kernel_rfl
 have h2 : (decide (a0 = b0) && (decide (a1 = b1) && true)) = decide (a0 = b0 /\ a1 = b1) := by simp [Bool.decide_and, Bool.and_assoc, Bool.beq_eq_decide_eq]
 simp only [xEq, VEq, eq55, h1, h2, Jgw, true_and]
theorem eq67 {a0 b0 : Int} {a1 b1 : List UInt8} {a2 b2 : Int} {a3 b3 : List UInt8} : eqA Go.Proofs.Tryz.prog 8 67 (.agg [.p (.int .i64 a0), .p (.str a1), .p (.int .i64 a2), .p (.str a3)]) (.agg [.p (.int .i64 b0), .p (.str b1), .p (.int .i64 b2), .p (.str b3)]) = some ((decide (a0 = b0) && (decide (a1 = b1) && true)) && ((decide (a2 = b2) && (decide (a3 = b3) && true)) && true)) := by kernel_rfl
@[simp] theorem Kft {a0 b0 : Int} {a1 b1 : List UInt8} {a2 b2 : Int} {a3 b3 : List UInt8} {f : Cont (Bool -> Prop)} : @xEq Go.Proofs.Tryz.prog 67 [.p (.int .i64 a0), .p (.str a1), .p (.int .i64 a2), .p (.str a3)] [.p (.int .i64 b0), .p (.str b1), .p (.int .i64 b2), .p (.str b3)] f = f.k (decide (a0 = b0 /\ a1 = b1 /\ a2 = b2 /\ a3 = b3)) := by
 have h1 : Go.Proofs.Tryz.prog.eqGuardType Go.Proofs.Tryz.prog.depth 67 = false := by kernel_rfl
 have h2 : ((decide (a0 = b0) && (decide (a1 = b1) && true)) && ((decide (a2 = b2) && (decide (a3 = b3) && true)) && true)) = decide (a0 = b0 /\ a1 = b1 /\ a2 = b2 /\ a3 = b3) := by simp [Bool.decide_and, Bool.and_assoc, Bool.beq_eq_decide_eq]
 simp only [xEq, VEq, eq67, h1, h2, Jgw, true_and]
theorem eq72 {a0 b0 : Int} {a1 b1 : List UInt8} {a2 b2 : Int} : eqA Go.Proofs.Tryz.prog 8 72 (.agg [.p (.int .i64 a0), .p (.str a1), .p (.int .i64 a2)]) (.agg [.p (.int .i64 b0), .p (.str b1), .p (.int .i64 b2)]) = some (decide (a0 = b0) && (decide (a1 = b1) && (decide (a2 = b2) && true))) := by kernel_rfl
@[simp] theorem Kfu {a0 b0 : Int} {a1 b1 : List UInt8} {a2 b2 : Int} {f : Cont (Bool -> Prop)} : @xEq Go.Proofs.Tryz.prog 72 [.p (.int .i64 a0), .p (.str a1), .p (.int .i64 a2)] [.p (.int .i64 b0), .p (.str b1), .p (.int .i64 b2)] f = f.k (decide (a0 = b0 /\ a1 = b1 /\ a2 = b2)) := by
 have h1 : Go.Proofs.Tryz.prog.eqGuardType Go.Proofs.Tryz.prog.depth 72 = false := by kernel_rfl
 have h2 : (decide (a0 = b0) && (decide (a1 = b1) && (decide (a2 = b2) && true))) = decide (a0 = b0 /\ a1 = b1 /\ a2 = b2) := by simp [Bool.decide_and, Bool.and_assoc, Bool.beq_eq_decide_eq]
 simp only [xEq, VEq, eq72, h1, h2, Jgw, true_and]
theorem eq99 {a0 b0 : Int} {a1 b1 : Int} {a2 b2 : List UInt8} : eqA Go.Proofs.Tryz.prog 8 99 (.agg [.p (.int .i64 a0), .p (.int .i64 a1), .p (.str a2)]) (.agg [.p (.int .i64 b0), .p (.int .i64 b1), .p (.str b2)]) = some (decide (a0 = b0) && ((decide (a1 = b1) && (decide (a2 = b2) && true)) && true)) := by kernel_rfl
@[simp] theorem Kfv {a0 b0 : Int} {a1 b1 : Int} {a2 b2 : List UInt8} {f : Cont (Bool -> Prop)} : @xEq Go.Proofs.Tryz.prog 99 [.p (.int .i64 a0), .p (.int .i64 a1), .p (.str a2)] [.p (.int .i64 b0), .p (.int .i64 b1), .p (.str b2)] f = f.k (decide (a0 = b0 /\ a1 = b1 /\ a2 = b2)) := by
 have h1 : Go.Proofs.Tryz.prog.eqGuardType Go.Proofs.Tryz.prog.depth 99 = false := by kernel_rfl
 have h2 : (decide (a0 = b0) && ((decide (a1 = b1) && (decide (a2 = b2) && true)) && true)) = decide (a0 = b0 /\ a1 = b1 /\ a2 = b2) := by simp [Bool.decide_and, Bool.and_assoc, Bool.beq_eq_decide_eq]
 simp only [xEq, VEq, eq99, h1, h2, Jgw, true_and]
theorem J2v {a0 b0 : List UInt8} {a1 b1 : List UInt8} : eqA Go.Proofs.Tryz.prog 8 137 (.agg [.p (.str a0), .p (.str a1)]) (.agg [.p (.str b0), .p (.str b1)]) = some (decide (a0 = b0) && (decide (a1 = b1) && true)) := by kernel_rfl
@[simp] theorem Kfr {a0 b0 : List UInt8} {a1 b1 : List UInt8} {f : Cont (Bool -> Prop)} : @xEq Go.Proofs.Tryz.prog 137 [.p (.str a0), .p (.str a1)] [.p (.str b0), .p (.str b1)] f = f.k (decide (a0 = b0 /\ a1 = b1)) := by
 have h1 : Go.Proofs.Tryz.prog.eqGuardType Go.Proofs.Tryz.prog.depth 137 = false := by kernel_rfl
 have h2 : (decide (a0 = b0) && (decide (a1 = b1) && true)) = decide (a0 = b0 /\ a1 = b1) := by simp [Bool.decide_and, Bool.and_assoc, Bool.beq_eq_decide_eq]
 simp only [xEq, VEq, J2v, h1, h2, Jgw, true_and]
end Go.Am
