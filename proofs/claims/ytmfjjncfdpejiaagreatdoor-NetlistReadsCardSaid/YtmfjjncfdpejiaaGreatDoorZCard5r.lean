/- What the cards of this seat share: the witness's start, the readings' sizes. -/
import Derived.Test.YtmfjjncfdpejiaaGreatDoorZBrid9
import Derived.Test.YtmfjjncfdpejiaaGreatDoorZA7
import Derived.SevenTiedAt
import Derived.Lay
import Derived.Stop.Joined
set_option linter.unusedVariables false
set_option linter.unusedSimpArgs false
namespace Go.Proofs.YtmfjjncfdpejiaaGreatDoor
open Go Go.Am Go.Pn Go.ChangeShapes Go.WideShapes Go.ChangeAt Go.RowKit
abbrev Khu : List (String × DataW Unit) := [("math/bits.deBruijn32tab", Rows.laid_math_bits_deBruijn32tab), ("math/bits.deBruijn64tab", Rows.laid_math_bits_deBruijn64tab), ("internal/strconv.uint64pow10", Rows.laid_internal_strconv_uint64pow10), ("unicode/utf8.acceptRanges", Rows.laid_unicode_utf8_acceptRanges), ("strconv.ErrRange", Rows.laid_strconv_ErrRange), ("strconv.ErrSyntax", Rows.laid_strconv_ErrSyntax), ("pneumatic/lexer.ranges", Rows.laid_pneumatic_lexer_ranges), ("unicode/utf8.first", Rows.laid_unicode_utf8_first)]
theorem Khl {W : World} (h : laidMetH Tryz.prog Khu W) : Jeq GL (fun _ => False) W := Kho (laid := Khu) (by kernel_rfl) (by simp) h
theorem ownK : ownKnob Tryz.prog.godebug = none := by kernel_rfl
theorem laidOutP : laidOutB Tryz.prog = true := by kernel_rfl
theorem Kh4 : Tryz.prog.mayEnter = true := by kernel_rfl
theorem Khw : Tryz.prog.liftsFinal = Rows.netlistParsesRow.lifted := by kernel_rfl
theorem Kh2 : Tryz.prog.make = some Rows.netlistParsesRow.make := by kernel_rfl
theorem Kh5 : Tryz.prog.plainKeys = false := by kernel_rfl
theorem Khp : Tryz.prog.stopsHeard = true := by kernel_rfl
theorem Kh0 : Tryz.prog.looks [] = true := by kernel_rfl
theorem Kh1 : Tryz.prog.mainIs = some (true, ("d706d9b092086e3714bce1edafacee044936f05f64434f028ef86f1ab378c0e0" : String).toList) := by kernel_rfl
theorem Kik : mapsRowed Tryz.prog = true := by kernel_rfl
theorem Kht {P : Program} {f : FuncId} {fn : Func} {s : ChangeSpec} {c : OpenClaim} (k2 : laidOutB P = true) (k3 : mapsRowed P = true) (k10 : P.inPlace f = c.inPlace) (k11 : P.unfollowed f = c.unfollowed) (k12 : P.recurses f = c.recurses) (k13 : P.varsNamed f = c.named)
   (k20 : P.plainKeys = c.plainKeys) (k21 : P.stopsHeard = true) (k22 : P.mayEnter = true) (k23 : P.liftsFinal = c.lifted) (k24 : P.make = some c.make)
   (r1 : (c.wf (OpenSpec.ofChange s) && fn.params.all (P.readableRec ·) && namedTie P c.named s.vars && (c.stops == []) && (P.stops == []) && (c.knobs == []) && (P.stopKnobs == [])) = true)
   (r2 : ((c.maps == (fn.params.toList ++ s.plain.varTypes P).any (P.mapsRec ·)) && (c.ifaces == (fn.params.toList ++ s.plain.varTypes P).any (P.ifacesRec ·)) && (c.mapsOut == P.mapsAmong fn.resultTypes.toList) &&
     (c.loops == (fn.params.toList ++ s.plain.varTypes P).any (P.loopsFrom ·)) && (c.wideKeys == (fn.params.toList ++ s.plain.varTypes P ++ fn.resultTypes.toList).any (P.wideKeysFrom ·)) &&
     s.vars.all (P.varReadable ·) && fn.resultTypes.all (fun t => P.readableRec t && decide (t < P.types.size)) && (c.ifacesOut == fn.resultTypes.toList.any (P.ifacesRec ·)) && (c.loopsOut == fn.resultTypes.toList.any (P.loopsFrom ·))) = true)
   (r3 : (c.shortTexts.isNone && (c.kinds == (if c.domain.isEmpty then [] else fn.params.toList.map fun t => match P.underlying t with | some (.int k) => some k | _ => none)) && (c.pinned == c.pinnedBy) &&
     (c.veiled == (fn.params.toList ++ s.plain.varTypes P ++ fn.resultTypes.toList).any (P.veiledRec ·)) && c.veiledFits P fn.params.toList (fn.params.toList ++ s.plain.varTypes P ++ fn.resultTypes.toList)) = true) : joinedFacts P f fn s c = true := by
 unfold joinedFacts
 simp only [Bool.and_eq_true] at r1 r2 r3 ⊢
 obtain ⟨⟨⟨⟨⟨⟨a1, a2⟩, a3⟩, a4⟩, a5⟩, a6⟩, a7⟩ := r1
 obtain ⟨⟨⟨⟨⟨⟨⟨⟨b1, b2⟩, b3⟩, b4⟩, b5⟩, b6⟩, b7⟩, b8⟩, b9⟩ := r2
 obtain ⟨⟨⟨⟨d1, d2⟩, d3⟩, d4⟩, d5⟩ := r3
 rw [k10, k11, k12, k13, k20, k23, k24]
 exact ⟨⟨⟨⟨⟨⟨⟨⟨⟨⟨⟨⟨⟨⟨⟨⟨⟨⟨⟨⟨⟨⟨⟨⟨⟨⟨⟨⟨⟨⟨⟨a1, k2⟩, k3⟩, a2⟩, a3⟩, a4⟩, a5⟩, a6⟩, a7⟩, beq_self_eq_true _⟩, beq_self_eq_true _⟩, beq_self_eq_true _⟩, beq_self_eq_true _⟩, b1⟩, b2⟩, b3⟩, b4⟩, b5⟩, b6⟩, b7⟩, b8⟩, b9⟩, beq_self_eq_true _⟩, d1⟩, k21⟩, k22⟩, beq_self_eq_true _⟩, beq_self_eq_true _⟩, d2⟩, d3⟩, d4⟩, d5⟩
theorem door_met (os : Os) (args : Array Value) : laidMetH Tryz.prog Khu ((World.laidAll Tryz.prog os Khu).forCall (fun _ _ => 0) ⟨#[], args, []⟩).memory := by
 rw [MakeChecks.laidMetH_plain _ _ _ (by kernel_rfl)]; exact laidMet_laidAll _ (by kernel_rfl) (by kernel_rfl)
section
variable {H : Type}
theorem Khi {t t' : TypeId} {d d' : DataW H} (h : (DataW.weightsEach Tryz.prog ([t, t'] ++ []) ([d, d'] ++ [])).all (· <= reachBytes) = true) : (∀ n ∈ d.weights Tryz.prog t, n <= reachBytes) /\ ∀ n ∈ d'.weights Tryz.prog t', n <= reachBytes := by
 refine ⟨fun n hn => ?_, fun n hn => ?_⟩ <;>
 . have := List.all_eq_true.1 h n (by simp [DataW.weightsEach, hn])
   simpa using this
end
end Go.Proofs.YtmfjjncfdpejiaaGreatDoor
