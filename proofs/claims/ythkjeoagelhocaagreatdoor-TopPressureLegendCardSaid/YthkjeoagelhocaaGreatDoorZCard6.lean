/- What the cards of this seat share: the witness's start, the readings' sizes. -/
import Derived.Test.YthkjeoagelhocaaGreatDoorZBrid9
import Derived.Test.YthkjeoagelhocaaGreatDoorZF6
import Derived.LaidLaws
import Derived.Test.YthkjeoagelhocaaGreatDoorZA7
import Derived.SevenTiedAt
import Derived.Lay
import Derived.Stop.Joined
set_option linter.unusedVariables false
set_option linter.unusedSimpArgs false
namespace Go.Proofs.YthkjeoagelhocaaGreatDoor
open Go Go.Am Go.Pn Go.ChangeShapes Go.WideShapes Go.ChangeAt Go.RowKit
abbrev Krm : List (String × DataW Unit) := [("math/bits.deBruijn32tab", Rows.laid_math_bits_deBruijn32tab), ("math/bits.deBruijn64tab", Rows.laid_math_bits_deBruijn64tab), ("internal/strconv.uint64pow10", Rows.laid_internal_strconv_uint64pow10), ("unicode/utf8.acceptRanges", Rows.laid_unicode_utf8_acceptRanges), ("strconv.ErrRange", Rows.laid_strconv_ErrRange), ("strconv.ErrSyntax", Rows.laid_strconv_ErrSyntax), ("pneumatic/lexer.ranges", Rows.laid_pneumatic_lexer_ranges), ("unicode/utf8.first", Rows.laid_unicode_utf8_first)]
theorem Kri {W : World} (h : laidMetH Tryz.prog Krm W) : Jka GL (fun _ => False) W := Krj (laid := Krm) (by kernel_rfl) (by simp) h
theorem Krg {W : World} {ps : List MemPlace} (h : DataW.LaidVars Tryz.prog W Krm ps) {n : String} {d : DataW Unit} {G : Nat} (hm : (n, DataW.iface "*errors.errorString" d) ∈ Krm) (gR : Tryz.prog.globalNamed n = some G)
   (tR : (Tryz.prog.globals[G]?).map (·.type) = some 82) : G < W.heap.size /\ GlobAt (fun _ => False) W 1 [[PV.ifc]] G := by
 obtain ⟨g, t, cs, fuel, p, hg, ht, hv, hd⟩ := Krn h hm
 obtain rfl := Option.some.inj (gR.symm.trans hg)
 obtain rfl := Option.some.inj (tR.symm.trans ht)
 obtain ⟨f', u, v, h1, _, _⟩ := iface_of_trod Tryz.underlying82 hd
 have hcell := World.var?_cell hg hv 0
 obtain ⟨T, fz, e⟩ := Kr7 hg hv
 have hsz : cs.size = 1 := by
   have := congrArg List.length h1
   simpa using this
 refine ⟨(Array.getElem?_eq_some_iff.1 e).1, ⟨fun i j row x hrow hx => ?_, cs, T, fz, e, by simpa using hsz⟩⟩
 match i, j with
 | 0, 0 =>
   simp only [List.getElem?_cons_zero, Option.some.injEq] at hrow
   subst hrow
   simp only [List.getElem?_cons_zero, Option.some.injEq] at hx
   subst hx
   refine ⟨.iface u v, hcell.trans ?_, .ifc _ _⟩
   rw [<- Array.getElem?_toList, h1]; rfl
 | 0, j + 1 =>
   simp only [List.getElem?_cons_zero, Option.some.injEq] at hrow
   subst hrow
   simp at hx
 | i + 1, _ => simp at hrow
set_option maxRecDepth 100000 in
theorem Krh {W : World} (h : laidMetH Tryz.prog Krm W) : Jka GL4 (fun _ => False) W := by
 have h1 := Kri h
 rw [MakeChecks.laidMetH_plain _ _ _ (by kernel_rfl)] at h
 obtain ⟨ps, hps, _, _⟩ := h
 have hS := Krg hps (n := "strconv.ErrSyntax") (G := 1) (List.mem_cons_of_mem _ (List.mem_cons_of_mem _ (List.mem_cons_of_mem _ (List.mem_cons_of_mem _ (List.mem_cons_of_mem _ (List.mem_cons_self ..)))))) (by kernel_rfl) (by kernel_rfl)
 have hR := Krg hps (n := "strconv.ErrRange") (G := 2) (List.mem_cons_of_mem _ (List.mem_cons_of_mem _ (List.mem_cons_of_mem _ (List.mem_cons_of_mem _ (List.mem_cons_self ..))))) (by kernel_rfl) (by kernel_rfl)
 intro g k rows hmem
 rcases List.mem_append.1 hmem with hmem | hmem
 . exact h1 g k rows hmem
 . simp only [List.mem_cons, List.not_mem_nil, or_false, Prod.mk.injEq] at hmem
   rcases hmem with ⟨rfl, rfl, rfl⟩ | ⟨rfl, rfl, rfl⟩
   . exact ⟨hS.1, fun h => h, hS.2⟩
   . exact ⟨hR.1, fun h => h, hR.2⟩
theorem ownK : ownKnob Tryz.prog.godebug = none := by kernel_rfl
theorem laidOutP : laidOutB Tryz.prog = true := by kernel_rfl
theorem Krv : Tryz.prog.mayEnter = true := by kernel_rfl
theorem Kro : Tryz.prog.liftsFinal = Rows.topPressureLegendRow.lifted := by kernel_rfl
theorem Kru : Tryz.prog.make = some Rows.topPressureLegendRow.make := by kernel_rfl
theorem Krw : Tryz.prog.plainKeys = false := by kernel_rfl
theorem Krk : Tryz.prog.stopsHeard = true := by kernel_rfl
theorem Krs : Tryz.prog.looks [] = true := by kernel_rfl
theorem Krt : Tryz.prog.mainIs = some (true, ("c7414661c559602cec66dbfa3eba74e7d728c5a1d83bfdc81187772e773527ff" : String).toList) := by kernel_rfl
theorem Kr6 : mapsRowed Tryz.prog = true := by kernel_rfl
theorem Krl {P : Program} {f : FuncId} {fn : Func} {s : ChangeSpec} {c : OpenClaim} (k2 : laidOutB P = true) (k3 : mapsRowed P = true) (k10 : P.inPlace f = c.inPlace) (k11 : P.unfollowed f = c.unfollowed) (k12 : P.recurses f = c.recurses) (k13 : P.varsNamed f = c.named)
   (k20 : P.plainKeys = c.plainKeys) (k21 : P.stopsHeard = true) (k22 : P.mayEnter = true) (k23 : P.liftsFinal = c.lifted) (k24 : P.make = some c.make)
   (r1 : (c.wf (OpenSpec.ofChange s) && fn.params.all (P.readableRec ·) && namedTie P c.named s.vars && (c.stops == []) && (P.stops == []) && (c.knobs == []) && (P.stopKnobs == [])) = true)
   (r2 : ((c.maps == (fn.params.toList ++ s.plain.varTypes P).any (P.mapsRec ·)) && (c.ifaces == (fn.params.toList ++ s.plain.varTypes P).any (P.ifacesRec ·)) && (c.mapsOut == P.mapsAmong fn.resultTypes.toList) &&
     (c.loops == (fn.params.toList ++ s.plain.varTypes P).any (P.loopsFrom ·)) && (c.wideKeys == (fn.params.toList ++ s.plain.varTypes P ++ fn.resultTypes.toList).any (P.wideKeysFrom ·)) &&
     s.vars.all (P.varReadable ·) && fn.resultTypes.all (fun t => P.readableRec t && decide (t < P.types.size)) && (c.ifacesOut == fn.resultTypes.toList.any (P.ifacesRec ·)) && (c.loopsOut == fn.resultTypes.toList.any (P.loopsFrom ·))) = true)
   (r3 : (c.shortTexts.isNone && (c.kinds == (if c.domain.isEmpty then [] else fn.params.toList.map fun t => match P.underlying t with | some (.int k) => some k | _ => none)) && (c.pinned == c.pinnedBy) &&
     (c.veiled == (fn.params.toList ++ s.plain.varTypes P ++ fn.resultTypes.toList).any (P.veiledRec ·)) && c.veiledFits P fn.params.toList (fn.params.toList ++ s.plain.varTypes P ++ fn.resultTypes.toList)) = true) : joinedFacts P f fn s c = true := by
 unfold joinedFacts
 simp only [Bool.and_eq_true] at r1 r2 r3 ⊢
 obtain ⟨⟨⟨⟨⟨⟨a1, a2⟩, a3⟩, a4⟩, a5⟩, a6⟩, a7⟩ := r1
 obtain ⟨⟨⟨⟨⟨⟨⟨⟨b1, b2⟩, b3⟩, b4⟩, b5⟩, b6⟩, b7⟩, b8⟩, b9⟩ := r2
 obtain ⟨⟨⟨⟨d1, d2⟩, d3⟩, d4⟩, d5⟩ := r3
 rw [k10, k11, k12, k13, k20, k23, k24]
 exact ⟨⟨⟨⟨⟨⟨⟨⟨⟨⟨⟨⟨⟨⟨⟨⟨⟨⟨⟨⟨⟨⟨⟨⟨⟨⟨⟨⟨⟨⟨⟨a1, k2⟩, k3⟩, a2⟩, a3⟩, a4⟩, a5⟩, a6⟩, a7⟩, beq_self_eq_true _⟩, beq_self_eq_true _⟩, beq_self_eq_true _⟩, beq_self_eq_true _⟩, b1⟩, b2⟩, b3⟩, b4⟩, b5⟩, b6⟩, b7⟩, b8⟩, b9⟩, beq_self_eq_true _⟩, d1⟩, k21⟩, k22⟩, beq_self_eq_true _⟩, beq_self_eq_true _⟩, d2⟩, d3⟩, d4⟩, d5⟩
theorem door_met (os : Os) (args : Array Value) : laidMetH Tryz.prog Krm ((World.laidAll Tryz.prog os Krm).forCall (fun _ _ => 0) ⟨#[], args, []⟩).memory := by
 rw [MakeChecks.laidMetH_plain _ _ _ (by kernel_rfl)]; exact laidMet_laidAll _ (by kernel_rfl) (by kernel_rfl)
section
variable {H : Type}
theorem Krf {t : TypeId} {d : DataW H} (h : (DataW.weightsEach Tryz.prog ([t] ++ []) ([d] ++ [])).all (· <= reachBytes) = true) : ∀ n ∈ d.weights Tryz.prog t, n <= reachBytes := by
 intro n hn
 have := List.all_eq_true.1 h n (by simp [DataW.weightsEach, hn])
 simpa using this
end
end Go.Proofs.YthkjeoagelhocaaGreatDoor
