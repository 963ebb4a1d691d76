/- Lemmas and contracts for the proof of a statement of this seat. -/
import Derived.Test.YtmfjjncfdpejiaaGreatDoorZP2
import Derived.Test.YtmfjjncfdpejiaaGreatDoorZP3
import Derived.Test.YtmfjjncfdpejiaaGreatDoorZC7
import Derived.Test.YtmfjjncfdpejiaaGreatDoorZCQ
import Derived.Test.YtmfjjncfdpejiaaGreatDoorZF6
set_option linter.unusedVariables false
set_option linter.unusedSimpArgs false
namespace Go.Am
open Go Go.Proofs Go.Pn
def Jqx : Txt := [112, 105, 112, 101, 32, 65, 46, 50, 32, 86, 46, 50, 10]
def Jqy : Txt := [112, 97, 114, 116, 32, 86, 32, 118, 97, 108, 118, 101, 53, 50, 115, 10, 112, 97, 114, 116, 32, 65, 48, 32, 108, 105, 109, 105, 116, 10, 112, 97, 114, 116, 32, 65, 32, 99, 121, 108, 105, 110, 100, 101, 114, 10, 112, 97, 114, 116, 32, 83, 32, 115, 117, 112, 112, 108, 121, 10, 112, 105, 112, 101, 32, 86, 46, 50, 32, 65, 46, 50, 10, 112, 105, 112, 101, 32, 86, 46, 49, 32, 83, 46, 49, 10, 112, 105, 112, 101, 32, 86, 46, 52, 32, 65, 46, 52, 10, 112, 105, 112, 101, 32, 83, 46, 49, 32, 65, 48, 46, 49, 10]
theorem Jya : prsE Jqx = 6 /\ prsC Jqx = noC := by decide +kernel
theorem Jyb : prsE Jqy = 0 /\ prsC Jqy = Jej := by decide +kernel
theorem Jx9 : Jad Jej = 0 /\ (Jf8 Jej).length = 2 := by decide +kernel
theorem Jx8 : Jbm Jej [65] = 0 /\ Jbx Jej [65] = (3, true) := by decide +kernel
set_option maxRecDepth 20000 in
theorem Kau (_ : Unit) : Pure Tryz.prog GL 54 [] (.p (.bool true)) := by
 refine Pure.of_walk (N := 66) Tryz.func54 rfl rfl rfl (by simp) (by first | (simp; done) | simp [*]) ?_
 have h1 := Jsx Jqx (by decide)
 have h2 := Jsx Jqy (by decide)
 rw [Jya.1, Jya.2] at h1
 rw [Jyb.1, Jyb.2] at h2
 have hS : Sized Jej := ⟨by decide, by decide, by decide⟩
 have hF := J0p Jej hS
 rw [Jx9.1, if_pos rfl] at hF
 have hD := J0o Jej [65] hS
 rw [Jx8.1, Jx8.2] at hD
 have hSm := J1r Jej Jej hS hS
 simp
 refine Jab h1 ?_
 simp [noC]
 refine Jab h2 ?_
 simp
 refine Jab hF ?_
 simp
 refine Jab hD ?_
 simp
 refine Jag.intro (by kernel_rfl) ?_
 simp
 refine Jab (J1d) ?_
 simp
 refine Jab hSm ?_
 simp [Jx9.2]
 refine ⟨.of (by kernel_rfl), ?_⟩
 simp [Jaa]
end Go.Am
namespace Go.Am
open Go Go.Proofs Go.Pn
theorem Jux (l : List Fnd) : ((kntL l).map fun n => AV.p (PV.int .i64 n)) = [.p (.int .i64 (cntF l 0)), .p (.int .i64 (cntF l 1)), .p (.int .i64 (cntF l 2)), .p (.int .i64 (cntF l 3)), .p (.int .i64 (cntF l 4)), .p (.int .i64 (cntF l 5)), .p (.int .i64 (cntF l 6)), .p (.int .i64 (cntF l 7))] := rfl
theorem J2i {l : List Fnd} {k : Nat} : 0 <= cntF l k /\ cntF l k <= l.length := by
 unfold cntF
 have := List.length_filter_le (fun f : Fnd => decide (f.kind = (k : Int))) l
 omega
set_option maxRecDepth 20000 in
theorem Kav (l : List Fnd) (hl : l.length < 4611686018427387904) (hk : ∀ f ∈ l, 0 <= f.kind /\ f.kind < 8) : Pure Tryz.prog GL 62 [.p (.lst 3 (l.map Fnd.enc))] (.tup [.agg ((kntL l).map fun n => .p (.int .i64 n)), .p (.bool true)]) := by
 refine Pure.of_walk (N := 30) Tryz.func62 rfl rfl rfl (by simp) (by first | (simp; done) | simp [*]) ?_
 simp
 refine Jaj.go [2, 4, 7, 8] [0] 0 [] (fun _ => []) (fun _ (k : Nat) => [(9, .p (.int .i64 k))]) (fun _ k => [(1, some (.cells 8 [(kntL (l.take k)).map fun n => .p (.int .i64 n)]))]) (fun k => k <= l.length) (fun k => l.length - k) 0 (by omega) ?_ ?_
 . simp [J4s]
   try decide
 intro k hkl
 simp
 refine Jac (fun h3 => ?_) (fun h3 => ?_)
 . simp at h3
   obtain ⟨f, e⟩ := Jah h3
   obtain ⟨k1, k2⟩ := hk f (List.mem_of_getElem? e)
   obtain ⟨j, hj⟩ : ∃ j : Nat, f.kind = j := ⟨f.kind.toNat, by omega⟩
   have c1 : ¬ ((j : Int) < 0) := by omega
   have c2 : ¬ ((8 : Int) <= (j : Int)) := by omega
   have c3 : (j : Int) < 8 := by omega
   have c4 : j < 8 := by omega
   have hlen := @Jl2 (l.take k)
   have hat := @Jpf (l.take k) j c4
   have hs := J4t e hj c4
   have hb := @J2i (l.take k) j
   have hbl : (l.take k).length <= k := by simp; omega
   simp [h3, e, Fnd.enc, hj, c1, c2, c3, c4, hlen, hat, -getElem?_pos, List.getElem?_cons_zero, List.getElem?_cons_succ]
   refine ⟨wrap_i64 (by omega) (by omega), by omega, wrap_i64 (by omega) (by omega), k + 1, by omega, by omega, by omega, ?_⟩
   rw [hs, List.map_set]
   exact Jhp _
 . simp at h3
   have hkl : k = l.length := by omega
   subst hkl
   simp only [List.take_length, Jux]
   simp [Jaa]
   rw [Jux]
   simp
end Go.Am
