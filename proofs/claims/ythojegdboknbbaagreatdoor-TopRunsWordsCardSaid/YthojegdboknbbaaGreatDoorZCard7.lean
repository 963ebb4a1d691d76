/- What the card of TopRunsWords needs: the witness's start, the readings' sizes. -/
import Derived.Test.YthojegdboknbbaaGreatDoorZBridR
import Derived.Test.YthojegdboknbbaaGreatDoorCards
import Derived.Test.YthojegdboknbbaaGreatDoorTie
import Derived.LaidLaws
import Derived.LaidMore
import Derived.Test.YthojegdboknbbaaGreatDoorZA7
import Derived.SevenTiedAt
import Derived.Lay
import Derived.Stop.Joined
set_option linter.unusedVariables false
set_option linter.unusedSimpArgs false
namespace Go.Proofs.YthojegdboknbbaaGreatDoor
open Go Go.Am Go.Pn Go.ChangeShapes Go.WideShapes Go.ChangeAt Go.RowKit
abbrev Kbf : List (String × DataW Unit) := [("math/bits.deBruijn32tab", Rows.laid_math_bits_deBruijn32tab), ("math/bits.deBruijn64tab", Rows.laid_math_bits_deBruijn64tab), ("internal/strconv.uint64pow10", Rows.laid_internal_strconv_uint64pow10)]
theorem Kbc {W : World} : Jcu GL (fun _ => False) W := fun g k rows h => by cases h
theorem ownK : ownKnob Tryz.prog.godebug = none := by kernel_rfl
theorem laidOutP : laidOutB Tryz.prog = true := by kernel_rfl
theorem Kbo : Tryz.prog.mayEnter = true := by kernel_rfl
theorem Kbg : Tryz.prog.liftsFinal = Rows.topRunsWordsRow.lifted := by kernel_rfl
theorem Kbn : Tryz.prog.make = some Rows.topRunsWordsRow.make := by kernel_rfl
theorem Kbq : Tryz.prog.plainKeys = false := by kernel_rfl
theorem Kbd : Tryz.prog.stopsHeard = true := by kernel_rfl
theorem Kbl : Tryz.prog.looks [] = false := by kernel_rfl
theorem Kbm : Tryz.prog.mainIs = some (true, ("34bdde82e88dd1481853784e6092e463142c9cb1df05c417dc301f770997572a" : String).toList) := by kernel_rfl
theorem Kbw : mapsRowed Tryz.prog = true := by kernel_rfl
theorem Kbe {P : Program} {f : FuncId} {fn : Func} {s : ChangeSpec} {c : OpenClaim} (k2 : laidOutB P = true) (k3 : mapsRowed P = true) (k10 : P.inPlace f = c.inPlace) (k11 : P.unfollowed f = c.unfollowed) (k12 : P.recurses f = c.recurses) (k13 : P.varsNamed f = c.named)
   (k20 : P.plainKeys = c.plainKeys) (k21 : P.stopsHeard = true) (k22 : P.mayEnter = true) (k23 : P.liftsFinal = c.lifted) (k24 : P.make = some c.make)
   (r1 : (c.wf (OpenSpec.ofChange s) && fn.params.all (P.readableRec ·) && namedTie P c.named s.vars && (c.stops == []) && (P.stops == []) && (c.knobs == []) && (P.stopKnobs == [])) = true)
   (r2 : ((c.maps == (fn.params.toList ++ s.plain.varTypes P).any (P.mapsRec ·)) && (c.ifaces == (fn.params.toList ++ s.plain.varTypes P).any (P.ifacesRec ·)) && (c.mapsOut == P.mapsAmong fn.resultTypes.toList) &&
     (c.loops == (fn.params.toList ++ s.plain.varTypes P).any (P.loopsFrom ·)) && (c.wideKeys == (fn.params.toList ++ s.plain.varTypes P ++ fn.resultTypes.toList).any (P.wideKeysFrom ·)) &&
     s.vars.all (P.varReadable ·) && fn.resultTypes.all (fun t => P.readableRec t && decide (t < P.types.size)) && (c.ifacesOut == fn.resultTypes.toList.any (P.ifacesRec ·)) && (c.loopsOut == fn.resultTypes.toList.any (P.loopsFrom ·))) = true)
   (r3 : (c.shortTexts.isNone && (c.kinds == (if c.domain.isEmpty then [] else fn.params.toList.map fun t => match P.underlying t with | some (.int k) => some k | _ => none)) && (c.pinned == c.pinnedBy) &&
     (c.veiled == (fn.params.toList ++ s.plain.varTypes P ++ fn.resultTypes.toList).any (P.veiledRec ·)) && c.veiledFits P fn.params.toList (fn.params.toList ++ s.plain.varTypes P ++ fn.resultTypes.toList)) = true) : joinedFacts P f fn s c = true := by
 unfold joinedFacts
 simp only [Bool.and_eq_true] at r1 r2 r3 ⊢
 obtain ⟨⟨⟨⟨⟨⟨a1, a2⟩, a3⟩, a4⟩, a5⟩, a6⟩, a7⟩ := r1
 obtain ⟨⟨⟨⟨⟨⟨⟨⟨b1, b2⟩, b3⟩, b4⟩, b5⟩, b6⟩, b7⟩, b8⟩, b9⟩ := r2
 obtain ⟨⟨⟨⟨d1, d2⟩, d3⟩, d4⟩, d5⟩ := r3
 rw [k10, k11, k12, k13, k20, k23, k24]
 exact ⟨⟨⟨⟨⟨⟨⟨⟨⟨⟨⟨⟨⟨⟨⟨⟨⟨⟨⟨⟨⟨⟨⟨⟨⟨⟨⟨⟨⟨⟨⟨a1, k2⟩, k3⟩, a2⟩, a3⟩, a4⟩, a5⟩, a6⟩, a7⟩, beq_self_eq_true _⟩, beq_self_eq_true _⟩, beq_self_eq_true _⟩, beq_self_eq_true _⟩, b1⟩, b2⟩, b3⟩, b4⟩, b5⟩, b6⟩, b7⟩, b8⟩, b9⟩, beq_self_eq_true _⟩, d1⟩, k21⟩, k22⟩, beq_self_eq_true _⟩, beq_self_eq_true _⟩, d2⟩, d3⟩, d4⟩, d5⟩
theorem door_met (os : Os) (args : Array Value) : laidMetH Tryz.prog Kbf ((World.laidAll Tryz.prog os Kbf).forCall (fun _ _ => 0) ⟨#[], args, []⟩).memory := by
 rw [MakeChecks.laidMetH_plain _ _ _ (by kernel_rfl)]; exact laidMet_laidAll _ (by kernel_rfl) (by kernel_rfl)
section
variable {H : Type}
theorem Kbb {t t' : TypeId} {d d' : DataW H} (h : (DataW.weightsEach Tryz.prog ([t, t'] ++ []) ([d, d'] ++ [])).all (· <= reachBytes) = true) : (∀ n ∈ d.weights Tryz.prog t, n <= reachBytes) /\ ∀ n ∈ d'.weights Tryz.prog t', n <= reachBytes := by
 refine ⟨fun n hn => ?_, fun n hn => ?_⟩ <;>
 . have := List.all_eq_true.1 h n (by simp [DataW.weightsEach, hn])
   simpa using this
end
end Go.Proofs.YthojegdboknbbaaGreatDoor
