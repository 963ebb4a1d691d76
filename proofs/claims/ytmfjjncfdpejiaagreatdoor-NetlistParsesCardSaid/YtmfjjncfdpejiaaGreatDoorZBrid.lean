/- The bridge: what the rows read is what the contracts are about. -/
import Derived.Test.YtmfjjncfdpejiaaGreatDoorZC7
import Derived.Test.YtmfjjncfdpejiaaGreatDoorCards
import Derived.Test.YtmfjjncfdpejiaaGreatDoorTie
import Derived.ProofKit
import Derived.LaidMore
import Derived.OpenShut
import Derived.Carry
import Derived.SizedLaws
import Derived.ChangeMaps5
set_option linter.unusedVariables false
set_option linter.unusedSimpArgs false
namespace Go.Am
open Go Go.Proofs Go.Pn
section
variable {H : Type} {enc : TypeId × Value -> H} {W : World} {own : Nat -> Prop}
theorem Kfy {α : Type} {l : List α} (h : l.length = 3) : ∃ a b c, l = [a, b, c] := by
 match l, h with
 | [a, b, c], _ => exact ⟨a, b, c, rfl⟩
set_option maxRecDepth 100000 in
theorem Kf6 {base : Nat} {v : Value} {d : DataW H} {ps : List MemPlace} (hval : Value.okWide Tryz.prog W .any base 9 v) (h : DataW.Trod enc Tryz.prog W 0 (fun _ => true) true 9 v d ps) :
   ∃ s : Txt, VR (fun _ => none) own W (.p (.str s)) v /\ ((∀ n ∈ d.weights Tryz.prog 9, n <= reachBytes) -> s.length < 4611686018427387900) := by
 obtain ⟨b, rfl, rfl, _, _⟩ := Go.ChangeMaps.open_string Tryz.underlying9 hval h
 obtain ⟨s, hs⟩ : ∃ s : Txt, s = b.data.toList := ⟨_, rfl⟩
 obtain rfl : b = ⟨⟨s⟩⟩ := by rw [hs]
 refine ⟨s, .p _ _ (.str _), fun hw => ?_⟩
 have hreach : reachBytes = 140737488351232 := rfl
 have := hw s.length (by simp [DataW.weights])
 omega
theorem Kfl : (Tryz.prog).cellsOf 392 = 3 := by kernel_rfl
theorem Kfm : (Tryz.prog).cellsOf 393 = 18 := by kernel_rfl
theorem cells5 : (Tryz.prog).cellsOf 5 = 1 := by kernel_rfl
theorem Kf9 {n : Nat} {cs : List Value} {a : Int} {ps : List MemPlace} (h : DataW.trod (fun _ => ()) Tryz.prog W 0 (fun _ => true) false n 5 cs = some (.lit (.int .u8 a), ps)) : cs = [.int .u8 a] := by
 obtain ⟨m, h1, h2, _⟩ := DataW.trod_int Tryz.underlying5 h
 simp at h2
 rw [h1, h2.1]
theorem Kf7 {n : Nat} {cs : List Value} {a b c : Int} {ps : List MemPlace} (h : DataW.trod (fun _ => ()) Tryz.prog W 0 (fun _ => true) false n 392 cs = some (.agg [.lit (.int .u8 a), .lit (.int .u8 b), .lit (.int .u8 c)], ps)) :
   cs = [.int .u8 a, .int .u8 b, .int .u8 c] := by
 obtain ⟨xs, m, _, hx, hl, hn, hf⟩ := DataW.trod_array Tryz.underlying392 h
 rw [Kfl] at hl
 obtain ⟨u, v, w, rfl⟩ := Kfy hl
 obtain ⟨x0, x1, x2, rfl⟩ := Kfy hn
 simp at hx
 obtain ⟨⟨e0, e1, e2⟩, _⟩ := hx
 have h0 : DataW.trod (fun _ => ()) Tryz.prog W 0 (fun _ => true) false m 5 [u] = some x0 := by simpa [cells5] using hf 0 (by omega)
 have h1 : DataW.trod (fun _ => ()) Tryz.prog W 0 (fun _ => true) false m 5 [v] = some x1 := by simpa [cells5] using hf 1 (by omega)
 have h2 : DataW.trod (fun _ => ()) Tryz.prog W 0 (fun _ => true) false m 5 [w] = some x2 := by simpa [cells5] using hf 2 (by omega)
 obtain ⟨d0, q0⟩ := x0
 obtain ⟨d1, q1⟩ := x1
 obtain ⟨d2, q2⟩ := x2
 simp only at e0 e1 e2
 subst e0; subst e1; subst e2
 have k0 := Kf9 h0
 have k1 := Kf9 h1
 have k2 := Kf9 h2
 simp at k0 k1 k2
 rw [k0, k1, k2]
theorem Kfw {P : Program} {n : String} {d : DataW Unit} : ∀ {l : List (String × DataW Unit)} {ps : List MemPlace}, DataW.LaidVars P W l ps -> (n, d) ∈ l ->
   ∃ g t cs fuel p, P.globalNamed n = some g /\ (P.globals[g]?).map (·.type) = some t /\ W.var? P n = some cs /\ DataW.trod (fun _ => ()) P W 0 (fun _ => true) false fuel t cs.toList = some (d, p)
 | [], _, _, h => by cases h
 | (m, e) :: l, ps, hl, h => by
   obtain ⟨g, t, cs, fuel, p, q, h1, h2, h3, h4, h5, _⟩ := hl
   rcases List.mem_cons.1 h with h | h
   . cases h; exact ⟨g, t, cs, fuel, p, h1, h2, h3, h4⟩
   . exact Kfw h5 h
theorem Kgc {P : Program} {w : World} {n : String} {g : Nat} {cs : Array Value} (hg : P.globalNamed n = some g) (hv : w.var? P n = some cs) : ∃ T fz, w.heap[g]? = some (.cells cs T fz) := by
 unfold World.var? at hv
 rw [hg] at hv
 simp only [Option.bind_some] at hv
 split at hv
 . rename_i cs' T fz e
   cases hv
   exact ⟨T, fz, e⟩
 . cases hv
set_option maxRecDepth 100000 in
theorem Kfs {laid : List (String × DataW Unit)} (hpl : (laid.all fun x => x.2.handleName?.isNone) = true) (hm : ("pneumatic/lexer.ranges", Go.Proofs.YtmfjjncfdpejiaaGreatDoor.Rows.laid_pneumatic_lexer_ranges) ∈ laid) (h : laidMetH Tryz.prog laid W) : Jey GL (fun _ => False) W := by
 rw [MakeChecks.laidMetH_plain _ _ _ hpl] at h
 obtain ⟨ps, hps, _, _⟩ := h
 obtain ⟨g, t, cs, fuel, p, hg, ht, hv, hd⟩ := Kfw hps hm
 have gR : (Tryz.prog).globalNamed "pneumatic/lexer.ranges" = some 3 := by kernel_rfl
 have tR : ((Tryz.prog).globals[3]?).map (·.type) = some 393 := by kernel_rfl
 obtain rfl := Option.some.inj (gR.symm.trans hg)
 obtain rfl := Option.some.inj (tR.symm.trans ht)
 obtain ⟨xs, m, _, hx, hl, hn, hf⟩ := DataW.trod_array Tryz.underlying393 hd
 rw [Kfm] at hl
 obtain ⟨L⟩ := cs
 simp only at hl hf hv
 obtain ⟨c0, c1, c2, c3, c4, c5, c6, c7, c8, c9, c10, c11, c12, c13, c14, c15, c16, c17, rfl⟩ : ∃ c0 c1 c2 c3 c4 c5 c6 c7 c8 c9 c10 c11 c12 c13 c14 c15 c16 c17, L = [c0, c1, c2, c3, c4, c5, c6, c7, c8, c9, c10, c11, c12, c13, c14, c15, c16, c17] := by
   match L, hl with
   | [c0, c1, c2, c3, c4, c5, c6, c7, c8, c9, c10, c11, c12, c13, c14, c15, c16, c17], _ => exact ⟨c0, c1, c2, c3, c4, c5, c6, c7, c8, c9, c10, c11, c12, c13, c14, c15, c16, c17, rfl⟩
 obtain ⟨x0, x1, x2, x3, x4, x5, rfl⟩ : ∃ x0 x1 x2 x3 x4 x5, xs = [x0, x1, x2, x3, x4, x5] := by
   match xs, hn with
   | [x0, x1, x2, x3, x4, x5], _ => exact ⟨x0, x1, x2, x3, x4, x5, rfl⟩
 simp [Go.Proofs.YtmfjjncfdpejiaaGreatDoor.Rows.laid_pneumatic_lexer_ranges] at hx
 obtain ⟨⟨e0, e1, e2, e3, e4, e5⟩, _⟩ := hx
 have h0 : DataW.trod (fun _ => ()) Tryz.prog W 0 (fun _ => true) false m 392 [c0, c1, c2] = some x0 := by simpa [Kfl] using hf 0 (by omega)
 have h1 : DataW.trod (fun _ => ()) Tryz.prog W 0 (fun _ => true) false m 392 [c3, c4, c5] = some x1 := by simpa [Kfl] using hf 1 (by omega)
 have h2 : DataW.trod (fun _ => ()) Tryz.prog W 0 (fun _ => true) false m 392 [c6, c7, c8] = some x2 := by simpa [Kfl] using hf 2 (by omega)
 have h3 : DataW.trod (fun _ => ()) Tryz.prog W 0 (fun _ => true) false m 392 [c9, c10, c11] = some x3 := by simpa [Kfl] using hf 3 (by omega)
 have h4 : DataW.trod (fun _ => ()) Tryz.prog W 0 (fun _ => true) false m 392 [c12, c13, c14] = some x4 := by simpa [Kfl] using hf 4 (by omega)
 have h5 : DataW.trod (fun _ => ()) Tryz.prog W 0 (fun _ => true) false m 392 [c15, c16, c17] = some x5 := by simpa [Kfl] using hf 5 (by omega)
 obtain ⟨d0, q0⟩ := x0
 obtain ⟨d1, q1⟩ := x1
 obtain ⟨d2, q2⟩ := x2
 obtain ⟨d3, q3⟩ := x3
 obtain ⟨d4, q4⟩ := x4
 obtain ⟨d5, q5⟩ := x5
 simp only at e0 e1 e2 e3 e4 e5
 subst e0; subst e1; subst e2; subst e3; subst e4; subst e5
 have k0 := Kf7 h0
 have k1 := Kf7 h1
 have k2 := Kf7 h2
 have k3 := Kf7 h3
 have k4 := Kf7 h4
 have k5 := Kf7 h5
 simp only [List.cons.injEq, and_true] at k0 k1 k2 k3 k4 k5
 obtain ⟨rfl, rfl, rfl⟩ := k0
 obtain ⟨rfl, rfl, rfl⟩ := k1
 obtain ⟨rfl, rfl, rfl⟩ := k2
 obtain ⟨rfl, rfl, rfl⟩ := k3
 obtain ⟨rfl, rfl, rfl⟩ := k4
 obtain ⟨rfl, rfl, rfl⟩ := k5
 have hcell := fun off => World.var?_cell hg hv off
 intro g k rows hmem
 simp only [GL, List.mem_singleton, Prod.mk.injEq] at hmem
 obtain ⟨rfl, rfl, rfl⟩ := hmem
 refine ⟨World.block_lt_of_cell? W ⟨3, 0, none⟩ ((hcell 0).trans rfl), fun h => h, ⟨fun i j row x hrow hx => ?_, ?_⟩⟩
 . match i with
   | 0 =>
     simp only [List.getElem?_cons_zero, Option.some.injEq] at hrow
     subst hrow
     have hx2 : (([65, 90, 1, 97, 122, 1, 48, 57, 2, 95, 95, 3, 32, 32, 5, 10, 10, 5] : List Int).map (PV.int .u8))[j]? = some x := hx
     rw [List.getElem?_map, Option.map_eq_some_iff] at hx2
     obtain ⟨n, hn, rfl⟩ := hx2
     refine ⟨.int .u8 n, ?_, .int ..⟩
     rw [Nat.zero_mul, Nat.zero_add, hcell j]
     have h9 : (([65, 90, 1, 97, 122, 1, 48, 57, 2, 95, 95, 3, 32, 32, 5, 10, 10, 5] : List Int).map (Value.int .u8))[j]? = some (.int .u8 n) := by rw [List.getElem?_map, hn]; rfl
     rw [<- h9]
     exact List.getElem?_toArray
   | i + 1 => simp at hrow
 . obtain ⟨T, fz, e⟩ := Kgc hg hv
   exact ⟨_, T, fz, e, rfl⟩
end
end Go.Am
