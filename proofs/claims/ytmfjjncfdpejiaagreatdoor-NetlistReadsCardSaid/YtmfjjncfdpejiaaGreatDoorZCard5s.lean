/- The table of powers, and the variable that holds some number, among the listed variables: chapter 23. -/
import Derived.Test.YtmfjjncfdpejiaaGreatDoorZCard5r
import Derived.Test.YtmfjjncfdpejiaaGreatDoorZW4
import Derived.Shelf.Vars
set_option linter.unusedVariables false
set_option linter.unusedSimpArgs false
namespace Go.Proofs.YtmfjjncfdpejiaaGreatDoor
open Go Go.Am Go.Pn Go.ChangeShapes Go.WideShapes Go.ChangeAt Go.RowKit
theorem u64u : Tryz.prog.underlying 357 = some (.int .u64) := by kernel_rfl
theorem u64a : Tryz.prog.underlying 403 = some (.array 20 357) := by kernel_rfl
theorem Khg : Tryz.prog.cellsOf 357 = 1 := by kernel_rfl
theorem Khh : Tryz.prog.cellsOf 403 = 20 := by kernel_rfl
theorem Kh7 : (Rows.laid_internal_strconv_uint64pow10 : DataW Unit) = .agg (Lib.pow10Tab.map fun n => .lit (.int .u64 n)) := by kernel_rfl
set_option maxRecDepth 100000 in
theorem Khm {W : World} (h : laidMetH Tryz.prog Khu W) : Jeq GL5 (fun _ => False) W := by
 have hGL := Khl h
 rw [MakeChecks.laidMetH_plain _ _ _ (by kernel_rfl)] at h
 obtain ⟨ps, hps, _, _⟩ := h
 obtain ⟨g, t, cs, fuel, p, hg, ht, hv, hd⟩ := Khv (n := "internal/strconv.uint64pow10") (d := Rows.laid_internal_strconv_uint64pow10) hps (by simp [Khu])
 have gR : (Tryz.prog).globalNamed "internal/strconv.uint64pow10" = some 4 := by kernel_rfl
 have tR : ((Tryz.prog).globals[4]?).map (·.type) = some 403 := by kernel_rfl
 obtain rfl := Option.some.inj (gR.symm.trans hg)
 obtain rfl := Option.some.inj (tR.symm.trans ht)
 obtain ⟨xs, m, _, hx, hl, hn, hf⟩ := DataW.trod_array u64a hd
 rw [Khh] at hl
 rw [Kh7] at hx
 have hxs : xs.map (·.1) = Lib.pow10Tab.map fun n => DataW.lit (.int .u64 n) := by
   have := (Prod.mk.inj hx).1
   exact (DataW.agg.inj this).symm
 have hcells : ∀ i, i < 20 -> cs.toList[i]? = (Lib.pow10Tab[i]?).map (Value.int .u64) := fun i hi => by
   have h1 := hf i hi
   rw [Khg, Nat.mul_one] at h1
   have hi2 : i < cs.toList.length := by omega
   have h2 : ((cs.toList.drop i).take 1) = [cs.toList[i]] := by rw [List.drop_eq_getElem_cons hi2]; rfl
   rw [h2] at h1
   have hix : i < xs.length := by omega
   rw [List.getElem?_eq_getElem hix] at h1
   obtain ⟨n, e1, e2, _⟩ := DataW.trod_int u64u h1
   have e3 : (xs.map (·.1))[i]? = some (DataW.lit (.int .u64 n)) := by rw [List.getElem?_map, List.getElem?_eq_getElem hix, e2]; rfl
   rw [hxs, List.getElem?_map] at e3
   obtain ⟨k, e4, e5⟩ := Option.map_eq_some_iff.1 e3
   cases e5
   rw [List.getElem?_eq_getElem hi2, e4]
   simp only [List.cons.injEq, and_true] at e1
   rw [e1]; rfl
 have hcell := fun off => World.var?_cell hg hv off
 intro g k rows hmem
 rcases List.mem_append.1 hmem with hmem | hmem
 . exact hGL g k rows hmem
 simp only [List.mem_singleton, Prod.mk.injEq] at hmem
 obtain ⟨rfl, rfl, rfl⟩ := hmem
 obtain ⟨T, fz, e⟩ := Kin hg hv
 refine ⟨(Array.getElem?_eq_some_iff.1 e).1, fun h => h, ⟨fun i j row x hrow hx => ?_, cs, T, fz, e, by simpa using hl⟩⟩
 match i with
 | 0 =>
   simp only [List.getElem?_cons_zero, Option.some.injEq] at hrow
   subst hrow
   rw [List.getElem?_map, Option.map_eq_some_iff] at hx
   obtain ⟨n, hn, rfl⟩ := hx
   have hj : j < 20 := by have := (List.getElem?_eq_some_iff.1 hn).1; rwa [Lib.pow10Tab_length] at this
   refine ⟨.int .u64 n, ?_, .int ..⟩
   rw [Nat.zero_mul, Nat.zero_add, hcell j]
   have := hcells j hj
   rw [hn] at this
   simpa using this
 | i + 1 => simp at hrow
theorem Kh3 {W : World} (h : W.ShapedOpen Tryz.prog) : ∃ m, 0 < W.heap.size /\ GlobAt (fun _ => False) W 1 [[.int .i64 m]] 0 := by
 have h0 : ((begin Tryz.prog (fun _ _ => 0) default).world.heap[0]?).bind Obj.row? = some (#[.int .i64 0], 3) := by kernel_rfl
 obtain ⟨m, hm⟩ := cell_of_shapedOpen_int h (g := 0) (of_decide_eq_true (by kernel_rfl)) h0 rfl (by kernel_rfl) (by kernel_rfl) Tryz.underlying3
 obtain ⟨cs, hh, hs, _⟩ := h.1 0 _ _ (of_decide_eq_true (by kernel_rfl)) h0
 refine ⟨m, (Array.getElem?_eq_some_iff.1 hh).1, ⟨fun i j row x hrow hx => ?_, cs, _, _, hh, by simpa using hs⟩⟩
 match i, j with
 | 0, 0 => cases hrow; cases hx; exact ⟨_, hm, .int ..⟩
 | 0, j + 1 => cases hrow; simp at hx
 | i + 1, _ => simp at hrow
theorem Khn {W : World} {m : Int} (h : laidMetH Tryz.prog Khu W) (h1 : 0 < W.heap.size) (h2 : GlobAt (fun _ => False) W 1 [[.int .i64 m]] 0) : Jeq (GL6 m) (fun _ => False) W := by
 intro g k rows hmem
 rcases List.mem_append.1 hmem with hmem | hmem
 . exact Khm h g k rows hmem
 simp only [List.mem_singleton, Prod.mk.injEq] at hmem
 obtain ⟨rfl, rfl, rfl⟩ := hmem
 exact ⟨h1, fun h => h, h2⟩
end Go.Proofs.YtmfjjncfdpejiaaGreatDoor
