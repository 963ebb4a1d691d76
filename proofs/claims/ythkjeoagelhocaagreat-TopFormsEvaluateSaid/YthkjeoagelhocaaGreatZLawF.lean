/- What the laws of the forms share: the facts of the program. -/
import Derived.Test.YthkjeoagelhocaaGreatZX6
import Derived.Test.YthkjeoagelhocaaGreatZA7
import Derived.Test.YthkjeoagelhocaaGreatRows
import Derived.Stop.Joined
set_option linter.unusedVariables false
set_option linter.unusedSimpArgs false
namespace Go.Proofs.YthkjeoagelhocaaGreat
open Go Go.Am Go.Pn Go.ChangeShapes Go.WideShapes Go.ChangeAt Go.RowKit

theorem ownK : ownKnob Tryz.prog.godebug = none := by kernel_rfl
theorem laidOutP : laidOutB Tryz.prog = true := by kernel_rfl
theorem mayEnterP : Tryz.prog.mayEnter = true := by kernel_rfl
theorem liftsP : Tryz.prog.liftsFinal = Rows.topFormsHazardsRow.lifted := by kernel_rfl
theorem makeP : Tryz.prog.make = some Rows.topFormsHazardsRow.make := by kernel_rfl
theorem plainKeysP : Tryz.prog.plainKeys = Rows.topFormsHazardsRow.plainKeys := by kernel_rfl
theorem heardP : Tryz.prog.stopsHeard = true := by kernel_rfl
theorem rowedP : mapsRowed Tryz.prog = true := by kernel_rfl
theorem joined_of {P : Program} {f : FuncId} {fn : Func} {s : ChangeSpec} {c : OpenClaim} (k2 : laidOutB P = true) (k3 : mapsRowed P = true) (k10 : P.inPlace f = c.inPlace) (k11 : P.unfollowed f = c.unfollowed) (k12 : P.recurses f = c.recurses) (k13 : P.varsNamed f = c.named)
    (k20 : P.plainKeys = c.plainKeys) (k21 : P.stopsHeard = true) (k22 : P.mayEnter = true) (k23 : P.liftsFinal = c.lifted) (k24 : P.make = some c.make)
    (r1 : (c.wf (OpenSpec.ofChange s) && fn.params.all (P.readableRec ·) && namedTie P c.named s.vars && (c.stops == []) && (P.stops == []) && (c.knobs == []) && (P.stopKnobs == [])) = true)
    (r2 : ((c.maps == (fn.params.toList ++ s.plain.varTypes P).any (P.mapsRec ·)) && (c.ifaces == (fn.params.toList ++ s.plain.varTypes P).any (P.ifacesRec ·)) && (c.mapsOut == P.mapsAmong fn.resultTypes.toList) &&
      (c.loops == (fn.params.toList ++ s.plain.varTypes P).any (P.loopsFrom ·)) && (c.wideKeys == (fn.params.toList ++ s.plain.varTypes P ++ fn.resultTypes.toList).any (P.wideKeysFrom ·)) &&
      s.vars.all (P.varReadable ·) && fn.resultTypes.all (fun t => P.readableRec t && decide (t < P.types.size)) && (c.ifacesOut == fn.resultTypes.toList.any (P.ifacesRec ·)) && (c.loopsOut == fn.resultTypes.toList.any (P.loopsFrom ·))) = true)
    (r3 : (c.shortTexts.isNone && (c.kinds == (if c.domain.isEmpty then [] else fn.params.toList.map fun t => match P.underlying t with | some (.int k) => some k | _ => none)) && (c.pinned == c.pinnedBy) &&
      (c.veiled == (fn.params.toList ++ s.plain.varTypes P ++ fn.resultTypes.toList).any (P.veiledRec ·)) && c.veiledFits P fn.params.toList (fn.params.toList ++ s.plain.varTypes P ++ fn.resultTypes.toList)) = true) : joinedFacts P f fn s c = true := by
  unfold joinedFacts
  simp only [Bool.and_eq_true] at r1 r2 r3 ⊢
  obtain ⟨⟨⟨⟨⟨⟨a1, a2⟩, a3⟩, a4⟩, a5⟩, a6⟩, a7⟩ := r1
  obtain ⟨⟨⟨⟨⟨⟨⟨⟨b1, b2⟩, b3⟩, b4⟩, b5⟩, b6⟩, b7⟩, b8⟩, b9⟩ := r2
  obtain ⟨⟨⟨⟨d1, d2⟩, d3⟩, d4⟩, d5⟩ := r3
  rw [k10, k11, k12, k13, k20, k23, k24]
  exact ⟨⟨⟨⟨⟨⟨⟨⟨⟨⟨⟨⟨⟨⟨⟨⟨⟨⟨⟨⟨⟨⟨⟨⟨⟨⟨⟨⟨⟨⟨⟨a1, k2⟩, k3⟩, a2⟩, a3⟩, a4⟩, a5⟩, a6⟩, a7⟩, beq_self_eq_true _⟩, beq_self_eq_true _⟩, beq_self_eq_true _⟩, beq_self_eq_true _⟩, b1⟩, b2⟩, b3⟩, b4⟩, b5⟩, b6⟩, b7⟩, b8⟩, b9⟩, beq_self_eq_true _⟩, d1⟩, k21⟩, k22⟩, beq_self_eq_true _⟩, beq_self_eq_true _⟩, d2⟩, d3⟩, d4⟩, d5⟩

end Go.Proofs.YthkjeoagelhocaaGreat
