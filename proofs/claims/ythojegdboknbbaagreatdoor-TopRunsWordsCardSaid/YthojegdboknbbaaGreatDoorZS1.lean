/- Type facts of the seat's program, printed by gentypes.py. -/
import Derived.Test.YthojegdboknbbaaGreatDoorProg
import Derived.Test.YthojegdboknbbaaGreatDoorZA4
set_option linter.unusedVariables false
set_option linter.unusedSimpArgs false
namespace Go.Am
open Go
theorem ty3 : tyOf Go.Proofs.Tryz.prog 3 = some ⟨false, 1, 8, [.p (.int .i64 0)], .int .i64⟩ := by kernel_rfl
@[simp] theorem xt3 {f : Cont (TyI -> Prop)} : @xTy Go.Proofs.Tryz.prog 3 f = f.k ⟨false, 1, 8, [.p (.int .i64 0)], .int .i64⟩ := by unfold xTy Jad; rw [ty3]
theorem ty4 : tyOf Go.Proofs.Tryz.prog 4 = some ⟨false, 1, 1, [.p (.bool false)], .bool⟩ := by kernel_rfl
@[simp] theorem xt4 {f : Cont (TyI -> Prop)} : @xTy Go.Proofs.Tryz.prog 4 f = f.k ⟨false, 1, 1, [.p (.bool false)], .bool⟩ := by unfold xTy Jad; rw [ty4]
theorem ty5 : tyOf Go.Proofs.Tryz.prog 5 = some ⟨false, 1, 1, [.p (.int .u8 0)], .int .u8⟩ := by kernel_rfl
@[simp] theorem xt5 {f : Cont (TyI -> Prop)} : @xTy Go.Proofs.Tryz.prog 5 f = f.k ⟨false, 1, 1, [.p (.int .u8 0)], .int .u8⟩ := by unfold xTy Jad; rw [ty5]
theorem ty9 : tyOf Go.Proofs.Tryz.prog 9 = some ⟨false, 1, 16, [.p (.str [])], .str⟩ := by kernel_rfl
@[simp] theorem xt9 {f : Cont (TyI -> Prop)} : @xTy Go.Proofs.Tryz.prog 9 f = f.k ⟨false, 1, 16, [.p (.str [])], .str⟩ := by unfold xTy Jad; rw [ty9]
theorem ty21 : tyOf Go.Proofs.Tryz.prog 21 = some ⟨false, 1, 4, [.p (.int .i32 0)], .int .i32⟩ := by kernel_rfl
@[simp] theorem xt21 {f : Cont (TyI -> Prop)} : @xTy Go.Proofs.Tryz.prog 21 f = f.k ⟨false, 1, 4, [.p (.int .i32 0)], .int .i32⟩ := by unfold xTy Jad; rw [ty21]
theorem ty22 : tyOf Go.Proofs.Tryz.prog 22 = some ⟨false, 1, 24, [.nils], .slice 9⟩ := by kernel_rfl
@[simp] theorem xt22 {f : Cont (TyI -> Prop)} : @xTy Go.Proofs.Tryz.prog 22 f = f.k ⟨false, 1, 24, [.nils], .slice 9⟩ := by unfold xTy Jad; rw [ty22]
theorem ty23 : tyOf Go.Proofs.Tryz.prog 23 = some ⟨false, 1, 24, [.nils], .slice 55⟩ := by kernel_rfl
@[simp] theorem xt23 {f : Cont (TyI -> Prop)} : @xTy Go.Proofs.Tryz.prog 23 f = f.k ⟨false, 1, 24, [.nils], .slice 55⟩ := by unfold xTy Jad; rw [ty23]
theorem ty24 : tyOf Go.Proofs.Tryz.prog 24 = some ⟨false, 1, 24, [.nils], .slice 3⟩ := by kernel_rfl
@[simp] theorem xt24 {f : Cont (TyI -> Prop)} : @xTy Go.Proofs.Tryz.prog 24 f = f.k ⟨false, 1, 24, [.nils], .slice 3⟩ := by unfold xTy Jad; rw [ty24]
theorem ty26 : tyOf Go.Proofs.Tryz.prog 26 = some ⟨true, 5, 104, [.p (.int .i64 0), .nils, .nils, .nils, .nils], .struct [(0, 1, false), (1, 1, false), (2, 1, false), (3, 1, false), (4, 1, false)]⟩ := by kernel_rfl
@[simp] theorem xt26 {f : Cont (TyI -> Prop)} : @xTy Go.Proofs.Tryz.prog 26 f = f.k ⟨true, 5, 104, [.p (.int .i64 0), .nils, .nils, .nils, .nils], .struct [(0, 1, false), (1, 1, false), (2, 1, false), (3, 1, false), (4, 1, false)]⟩ := by unfold xTy Jad; rw [ty26]
theorem ty27 : tyOf Go.Proofs.Tryz.prog 27 = some ⟨false, 1, 24, [.nils], .slice 76⟩ := by kernel_rfl
@[simp] theorem xt27 {f : Cont (TyI -> Prop)} : @xTy Go.Proofs.Tryz.prog 27 f = f.k ⟨false, 1, 24, [.nils], .slice 76⟩ := by unfold xTy Jad; rw [ty27]
theorem ty31 : tyOf Go.Proofs.Tryz.prog 31 = some ⟨false, 1, 24, [.nils], .slice 4⟩ := by kernel_rfl
@[simp] theorem xt31 {f : Cont (TyI -> Prop)} : @xTy Go.Proofs.Tryz.prog 31 f = f.k ⟨false, 1, 24, [.nils], .slice 4⟩ := by unfold xTy Jad; rw [ty31]
theorem ty33 : tyOf Go.Proofs.Tryz.prog 33 = some ⟨true, 5, 120, [.nils, .nils, .nils, .nils, .nils], .struct [(0, 1, false), (1, 1, false), (2, 1, false), (3, 1, false), (4, 1, false)]⟩ := by kernel_rfl
@[simp] theorem xt33 {f : Cont (TyI -> Prop)} : @xTy Go.Proofs.Tryz.prog 33 f = f.k ⟨true, 5, 120, [.nils, .nils, .nils, .nils, .nils], .struct [(0, 1, false), (1, 1, false), (2, 1, false), (3, 1, false), (4, 1, false)]⟩ := by unfold xTy Jad; rw [ty33]
theorem ty34 : tyOf Go.Proofs.Tryz.prog 34 = some ⟨false, 1, 8, [.p (.int .i64 0)], .int .i64⟩ := by kernel_rfl
@[simp] theorem xt34 {f : Cont (TyI -> Prop)} : @xTy Go.Proofs.Tryz.prog 34 f = f.k ⟨false, 1, 8, [.p (.int .i64 0)], .int .i64⟩ := by unfold xTy Jad; rw [ty34]
theorem ty37 : tyOf Go.Proofs.Tryz.prog 37 = some ⟨false, 1, 24, [.nils], .slice 47⟩ := by kernel_rfl
@[simp] theorem xt37 {f : Cont (TyI -> Prop)} : @xTy Go.Proofs.Tryz.prog 37 f = f.k ⟨false, 1, 24, [.nils], .slice 47⟩ := by unfold xTy Jad; rw [ty37]
theorem ty40 : tyOf Go.Proofs.Tryz.prog 40 = some ⟨false, 1, 24, [.nils], .slice 37⟩ := by kernel_rfl
@[simp] theorem xt40 {f : Cont (TyI -> Prop)} : @xTy Go.Proofs.Tryz.prog 40 f = f.k ⟨false, 1, 24, [.nils], .slice 37⟩ := by unfold xTy Jad; rw [ty40]
theorem ty42 : tyOf Go.Proofs.Tryz.prog 42 = some ⟨true, 7, 168, [.nils, .nils, .nils, .nils, .nils, .nils, .nils], .struct [(0, 5, true), (5, 1, false), (6, 1, false)]⟩ := by kernel_rfl
@[simp] theorem xt42 {f : Cont (TyI -> Prop)} : @xTy Go.Proofs.Tryz.prog 42 f = f.k ⟨true, 7, 168, [.nils, .nils, .nils, .nils, .nils, .nils, .nils], .struct [(0, 5, true), (5, 1, false), (6, 1, false)]⟩ := by unfold xTy Jad; rw [ty42]
theorem ty47 : tyOf Go.Proofs.Tryz.prog 47 = some ⟨true, 2, 16, [.p (.int .i64 0), .p (.bool false)], .struct [(0, 1, false), (1, 1, false)]⟩ := by kernel_rfl
@[simp] theorem xt47 {f : Cont (TyI -> Prop)} : @xTy Go.Proofs.Tryz.prog 47 f = f.k ⟨true, 2, 16, [.p (.int .i64 0), .p (.bool false)], .struct [(0, 1, false), (1, 1, false)]⟩ := by unfold xTy Jad; rw [ty47]
theorem ty51 : tyOf Go.Proofs.Tryz.prog 51 = some ⟨false, 1, 24, [.nils], .slice 53⟩ := by kernel_rfl
@[simp] theorem xt51 {f : Cont (TyI -> Prop)} : @xTy Go.Proofs.Tryz.prog 51 f = f.k ⟨false, 1, 24, [.nils], .slice 53⟩ := by unfold xTy Jad; rw [ty51]
theorem ty53 : tyOf Go.Proofs.Tryz.prog 53 = some ⟨true, 3, 40, [.p (.int .i64 0), .p (.int .i64 0), .nils], .struct [(0, 1, false), (1, 1, false), (2, 1, false)]⟩ := by kernel_rfl
@[simp] theorem xt53 {f : Cont (TyI -> Prop)} : @xTy Go.Proofs.Tryz.prog 53 f = f.k ⟨true, 3, 40, [.p (.int .i64 0), .p (.int .i64 0), .nils], .struct [(0, 1, false), (1, 1, false), (2, 1, false)]⟩ := by unfold xTy Jad; rw [ty53]
theorem ty55 : tyOf Go.Proofs.Tryz.prog 55 = some ⟨true, 10, 120, [.p (.str []), .p (.int .i64 0), .p (.int .i64 0), .p (.int .i64 0), .nils, .p (.int .i64 0), .p (.int .i64 0), .nils, .p (.int .i64 0), .p (.bool false)], .struct [(0, 1, false), (1, 1, false), (2, 3, true), (5, 3, true), (8, 1, false), (9, 1, false)]⟩ := by kernel_rfl
@[simp] theorem xt55 {f : Cont (TyI -> Prop)} : @xTy Go.Proofs.Tryz.prog 55 f = f.k ⟨true, 10, 120, [.p (.str []), .p (.int .i64 0), .p (.int .i64 0), .p (.int .i64 0), .nils, .p (.int .i64 0), .p (.int .i64 0), .nils, .p (.int .i64 0), .p (.bool false)], .struct [(0, 1, false), (1, 1, false), (2, 3, true), (5, 3, true), (8, 1, false), (9, 1, false)]⟩ := by unfold xTy Jad; rw [ty55]
theorem ty64 : tyOf Go.Proofs.Tryz.prog 64 = some ⟨false, 1, 8, [.nilp], .other⟩ := by kernel_rfl
@[simp] theorem xt64 {f : Cont (TyI -> Prop)} : @xTy Go.Proofs.Tryz.prog 64 f = f.k ⟨false, 1, 8, [.nilp], .other⟩ := by unfold xTy Jad; rw [ty64]
theorem ty67 : tyOf Go.Proofs.Tryz.prog 67 = some ⟨false, 1, 24, [.nils], .slice 93⟩ := by kernel_rfl
@[simp] theorem xt67 {f : Cont (TyI -> Prop)} : @xTy Go.Proofs.Tryz.prog 67 f = f.k ⟨false, 1, 24, [.nils], .slice 93⟩ := by unfold xTy Jad; rw [ty67]
theorem ty68 : tyOf Go.Proofs.Tryz.prog 68 = some ⟨false, 1, 8, [.nilm], .map 9 3⟩ := by kernel_rfl
@[simp] theorem xt68 {f : Cont (TyI -> Prop)} : @xTy Go.Proofs.Tryz.prog 68 f = f.k ⟨false, 1, 8, [.nilm], .map 9 3⟩ := by unfold xTy Jad; rw [ty68]
theorem ty69 : tyOf Go.Proofs.Tryz.prog 69 = some ⟨false, 1, 24, [.nils], .slice 24⟩ := by kernel_rfl
@[simp] theorem xt69 {f : Cont (TyI -> Prop)} : @xTy Go.Proofs.Tryz.prog 69 f = f.k ⟨false, 1, 24, [.nils], .slice 24⟩ := by unfold xTy Jad; rw [ty69]
theorem ty70 : tyOf Go.Proofs.Tryz.prog 70 = some ⟨false, 1, 8, [.nilm], .map 47 4⟩ := by kernel_rfl
@[simp] theorem xt70 {f : Cont (TyI -> Prop)} : @xTy Go.Proofs.Tryz.prog 70 f = f.k ⟨false, 1, 8, [.nilm], .map 47 4⟩ := by unfold xTy Jad; rw [ty70]
theorem ty72 : tyOf Go.Proofs.Tryz.prog 72 = some ⟨true, 12, 192, [.p (.int .i64 0), .nils, .nils, .nils, .nils, .p (.bool false), .p (.int .i64 0), .nils, .nilm, .nils, .nilm, .p (.int .i64 0)], .struct [(0, 5, true), (5, 1, false), (6, 1, false), (7, 1, false), (8, 1, false), (9, 1, false), (10, 1, false), (11, 1, false)]⟩ := by kernel_rfl
@[simp] theorem xt72 {f : Cont (TyI -> Prop)} : @xTy Go.Proofs.Tryz.prog 72 f = f.k ⟨true, 12, 192, [.p (.int .i64 0), .nils, .nils, .nils, .nils, .p (.bool false), .p (.int .i64 0), .nils, .nilm, .nils, .nilm, .p (.int .i64 0)], .struct [(0, 5, true), (5, 1, false), (6, 1, false), (7, 1, false), (8, 1, false), (9, 1, false), (10, 1, false), (11, 1, false)]⟩ := by unfold xTy Jad; rw [ty72]
theorem ty76 : tyOf Go.Proofs.Tryz.prog 76 = some ⟨true, 3, 24, [.p (.int .i64 0), .p (.int .i64 0), .p (.bool false)], .struct [(0, 1, false), (1, 1, false), (2, 1, false)]⟩ := by kernel_rfl
@[simp] theorem xt76 {f : Cont (TyI -> Prop)} : @xTy Go.Proofs.Tryz.prog 76 f = f.k ⟨true, 3, 24, [.p (.int .i64 0), .p (.int .i64 0), .p (.bool false)], .struct [(0, 1, false), (1, 1, false), (2, 1, false)]⟩ := by unfold xTy Jad; rw [ty76]
theorem ty83 : tyOf Go.Proofs.Tryz.prog 83 = some ⟨false, 1, 8, [.p .nilf], .other⟩ := by kernel_rfl
@[simp] theorem xt83 {f : Cont (TyI -> Prop)} : @xTy Go.Proofs.Tryz.prog 83 f = f.k ⟨false, 1, 8, [.p .nilf], .other⟩ := by unfold xTy Jad; rw [ty83]
theorem ty93 : tyOf Go.Proofs.Tryz.prog 93 = some ⟨true, 9, 152, [.nils, .nils, .nils, .nils, .nils, .p (.int .i64 0), .p (.int .i64 0), .p (.int .i64 0), .p (.bool false)], .struct [(0, 5, true), (5, 1, false), (6, 3, true)]⟩ := by kernel_rfl
@[simp] theorem xt93 {f : Cont (TyI -> Prop)} : @xTy Go.Proofs.Tryz.prog 93 f = f.k ⟨true, 9, 152, [.nils, .nils, .nils, .nils, .nils, .p (.int .i64 0), .p (.int .i64 0), .p (.int .i64 0), .p (.bool false)], .struct [(0, 5, true), (5, 1, false), (6, 3, true)]⟩ := by unfold xTy Jad; rw [ty93]
theorem ty98 : tyOf Go.Proofs.Tryz.prog 98 = some ⟨false, 1, 8, [.p .nilf], .other⟩ := by kernel_rfl
@[simp] theorem xt98 {f : Cont (TyI -> Prop)} : @xTy Go.Proofs.Tryz.prog 98 f = f.k ⟨false, 1, 8, [.p .nilf], .other⟩ := by unfold xTy Jad; rw [ty98]
theorem J2x : tyOf Go.Proofs.Tryz.prog 103 = some ⟨true, 5, 120, [.nils, .nils, .nils, .nils, .nils], .struct [(0, 5, true)]⟩ := by kernel_rfl
@[simp] theorem Kae {f : Cont (TyI -> Prop)} : @xTy Go.Proofs.Tryz.prog 103 f = f.k ⟨true, 5, 120, [.nils, .nils, .nils, .nils, .nils], .struct [(0, 5, true)]⟩ := by unfold xTy Jad; rw [J2x]
theorem J2y : tyOf Go.Proofs.Tryz.prog 104 = some ⟨false, 1, 8, [.p .nilf], .other⟩ := by kernel_rfl
@[simp] theorem Kaf {f : Cont (TyI -> Prop)} : @xTy Go.Proofs.Tryz.prog 104 f = f.k ⟨false, 1, 8, [.p .nilf], .other⟩ := by unfold xTy Jad; rw [J2y]
theorem J2z : tyOf Go.Proofs.Tryz.prog 105 = some ⟨true, 3, 24, [.p .nilf, .p .nilf, .p .nilf], .array 3 104⟩ := by kernel_rfl
@[simp] theorem Kag {f : Cont (TyI -> Prop)} : @xTy Go.Proofs.Tryz.prog 105 f = f.k ⟨true, 3, 24, [.p .nilf, .p .nilf, .p .nilf], .array 3 104⟩ := by unfold xTy Jad; rw [J2z]
theorem J20 : tyOf Go.Proofs.Tryz.prog 117 = some ⟨true, 2, 16, [.p (.int .i64 0), .p (.int .i64 0)], .array 2 3⟩ := by kernel_rfl
@[simp] theorem Kah {f : Cont (TyI -> Prop)} : @xTy Go.Proofs.Tryz.prog 117 f = f.k ⟨true, 2, 16, [.p (.int .i64 0), .p (.int .i64 0)], .array 2 3⟩ := by unfold xTy Jad; rw [J20]
theorem J21 : tyOf Go.Proofs.Tryz.prog 130 = some ⟨false, 1, 24, [.nils], .slice 31⟩ := by kernel_rfl
@[simp] theorem Kai {f : Cont (TyI -> Prop)} : @xTy Go.Proofs.Tryz.prog 130 f = f.k ⟨false, 1, 24, [.nils], .slice 31⟩ := by unfold xTy Jad; rw [J21]
theorem J22 : tyOf Go.Proofs.Tryz.prog 143 = some ⟨false, 1, 8, [.nilp], .other⟩ := by kernel_rfl
@[simp] theorem Kaj {f : Cont (TyI -> Prop)} : @xTy Go.Proofs.Tryz.prog 143 f = f.k ⟨false, 1, 8, [.nilp], .other⟩ := by unfold xTy Jad; rw [J22]
theorem J23 : tyOf Go.Proofs.Tryz.prog 144 = some ⟨true, 3, 24, [.p .nilf, .p .nilf, .p .nilf], .array 3 98⟩ := by kernel_rfl
@[simp] theorem Kak {f : Cont (TyI -> Prop)} : @xTy Go.Proofs.Tryz.prog 144 f = f.k ⟨true, 3, 24, [.p .nilf, .p .nilf, .p .nilf], .array 3 98⟩ := by unfold xTy Jad; rw [J23]
theorem J24 : tyOf Go.Proofs.Tryz.prog 146 = some ⟨true, 9, 136, [.p (.int .i64 0), .nils, .nils, .nils, .nils, .nilm, .p .nilf, .p .nilf, .p .nilf], .struct [(0, 5, true), (5, 1, false), (6, 3, true)]⟩ := by kernel_rfl
@[simp] theorem Kal {f : Cont (TyI -> Prop)} : @xTy Go.Proofs.Tryz.prog 146 f = f.k ⟨true, 9, 136, [.p (.int .i64 0), .nils, .nils, .nils, .nils, .nilm, .p .nilf, .p .nilf, .p .nilf], .struct [(0, 5, true), (5, 1, false), (6, 3, true)]⟩ := by unfold xTy Jad; rw [J24]
theorem J25 : tyOf Go.Proofs.Tryz.prog 158 = some ⟨true, 11, 232, [.p (.int .i64 0), .nils, .nils, .nils, .nils, .nils, .nils, .nils, .nils, .nils, .p (.int .i64 0)], .struct [(0, 5, true), (5, 5, true), (10, 1, false)]⟩ := by kernel_rfl
@[simp] theorem Kam {f : Cont (TyI -> Prop)} : @xTy Go.Proofs.Tryz.prog 158 f = f.k ⟨true, 11, 232, [.p (.int .i64 0), .nils, .nils, .nils, .nils, .nils, .nils, .nils, .nils, .nils, .p (.int .i64 0)], .struct [(0, 5, true), (5, 5, true), (10, 1, false)]⟩ := by unfold xTy Jad; rw [J25]
theorem J26 : tyOf Go.Proofs.Tryz.prog 173 = some ⟨false, 1, 8, [.p .nilf], .other⟩ := by kernel_rfl
@[simp] theorem Kan {f : Cont (TyI -> Prop)} : @xTy Go.Proofs.Tryz.prog 173 f = f.k ⟨false, 1, 8, [.p .nilf], .other⟩ := by unfold xTy Jad; rw [J26]
theorem J27 : tyOf Go.Proofs.Tryz.prog 185 = some ⟨true, 3, 24, [.p (.int .i64 0), .p (.int .i64 0), .p .nilf], .struct [(0, 1, false), (1, 1, false), (2, 1, false)]⟩ := by kernel_rfl
@[simp] theorem Kao {f : Cont (TyI -> Prop)} : @xTy Go.Proofs.Tryz.prog 185 f = f.k ⟨true, 3, 24, [.p (.int .i64 0), .p (.int .i64 0), .p .nilf], .struct [(0, 1, false), (1, 1, false), (2, 1, false)]⟩ := by unfold xTy Jad; rw [J27]
theorem J28 : tyOf Go.Proofs.Tryz.prog 186 = some ⟨true, 15, 120, [.p (.int .i64 0), .p (.int .i64 0), .p .nilf, .p (.int .i64 0), .p (.int .i64 0), .p .nilf, .p (.int .i64 0), .p (.int .i64 0), .p .nilf, .p (.int .i64 0), .p (.int .i64 0), .p .nilf, .p (.int .i64 0), .p (.int .i64 0), .p .nilf], .array 5 185⟩ := by kernel_rfl
@[simp] theorem Kap {f : Cont (TyI -> Prop)} : @xTy Go.Proofs.Tryz.prog 186 f = f.k ⟨true, 15, 120, [.p (.int .i64 0), .p (.int .i64 0), .p .nilf, .p (.int .i64 0), .p (.int .i64 0), .p .nilf, .p (.int .i64 0), .p (.int .i64 0), .p .nilf, .p (.int .i64 0), .p (.int .i64 0), .p .nilf, .p (.int .i64 0), .p (.int .i64 0), .p .nilf], .array 5 185⟩ := by unfold xTy Jad; rw [J28]
theorem J29 : tyOf Go.Proofs.Tryz.prog 200 = some ⟨false, 1, 8, [.p .nilf], .other⟩ := by kernel_rfl
@[simp] theorem Kaq {f : Cont (TyI -> Prop)} : @xTy Go.Proofs.Tryz.prog 200 f = f.k ⟨false, 1, 8, [.p .nilf], .other⟩ := by unfold xTy Jad; rw [J29]
theorem J3a : tyOf Go.Proofs.Tryz.prog 202 = some ⟨false, 1, 8, [.p .nilf], .other⟩ := by kernel_rfl
@[simp] theorem Kar {f : Cont (TyI -> Prop)} : @xTy Go.Proofs.Tryz.prog 202 f = f.k ⟨false, 1, 8, [.p .nilf], .other⟩ := by unfold xTy Jad; rw [J3a]
theorem J3b : tyOf Go.Proofs.Tryz.prog 207 = some ⟨false, 1, 8, [.p .nilf], .other⟩ := by kernel_rfl
@[simp] theorem Kas {f : Cont (TyI -> Prop)} : @xTy Go.Proofs.Tryz.prog 207 f = f.k ⟨false, 1, 8, [.p .nilf], .other⟩ := by unfold xTy Jad; rw [J3b]
theorem J3c : tyOf Go.Proofs.Tryz.prog 208 = some ⟨true, 3, 24, [.p .nilf, .p .nilf, .p .nilf], .array 3 207⟩ := by kernel_rfl
@[simp] theorem Kat {f : Cont (TyI -> Prop)} : @xTy Go.Proofs.Tryz.prog 208 f = f.k ⟨true, 3, 24, [.p .nilf, .p .nilf, .p .nilf], .array 3 207⟩ := by unfold xTy Jad; rw [J3c]
theorem J3d : tyOf Go.Proofs.Tryz.prog 211 = some ⟨true, 3, 24, [.p (.bool false), .p (.int .i64 0), .p (.bool false)], .struct [(0, 1, false), (1, 1, false), (2, 1, false)]⟩ := by kernel_rfl
@[simp] theorem Kau {f : Cont (TyI -> Prop)} : @xTy Go.Proofs.Tryz.prog 211 f = f.k ⟨true, 3, 24, [.p (.bool false), .p (.int .i64 0), .p (.bool false)], .struct [(0, 1, false), (1, 1, false), (2, 1, false)]⟩ := by unfold xTy Jad; rw [J3d]
theorem eq47 {a0 b0 : Int} {a1 b1 : Bool} : eqA Go.Proofs.Tryz.prog 8 47 (.agg [.p (.int .i64 a0), .p (.bool a1)]) (.agg [.p (.int .i64 b0), .p (.bool b1)]) = some (decide (a0 = b0) && ((a1 == b1) && true)) := by kernel_rfl
@[simp] theorem J79 {a0 b0 : Int} {a1 b1 : Bool} {f : Cont (Bool -> Prop)} : @xEq Go.Proofs.Tryz.prog 47 [.p (.int .i64 a0), .p (.bool a1)] [.p (.int .i64 b0), .p (.bool b1)] f = f.k (decide (a0 = b0 /\ a1 = b1)) := by
 have h1 : Go.Proofs.Tryz.prog.eqGuardType Go.Proofs.Tryz.prog.depth 47 = false := by kernel_rfl
 have h2 : (decide (a0 = b0) && ((a1 == b1) && true)) = decide (a0 = b0 /\ a1 = b1) := by simp [Bool.decide_and, Bool.and_assoc, Bool.beq_eq_decide_eq]
 simp only [xEq, VEq, eq47, h1, h2, J3l, true_and]
end Go.Am
