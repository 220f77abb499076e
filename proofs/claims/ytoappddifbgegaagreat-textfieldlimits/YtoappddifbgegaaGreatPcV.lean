/- Closed facts of the row of TextfieldLimits. -/
import Derived.Test.YtoappddifbgegaaGreatRows
import Derived.WalkKit
import Derived.ProofKit
import Derived.OpenShut
import Derived.ShutString
import Derived.ChangeOld
import Derived.Below
import Derived.Lib.SmallJoins
set_option linter.all false
namespace Go.Proofs.YtoappddifbgegaaGreat
open Go.ChangeShapes Go.WideShapes Go.ChangeAt Go.RowKit
set_option linter.unusedVariables false
theorem own : ownKnob Tryz.prog.godebug = none := by kernel_rfl
theorem laidOut : laidOutB Tryz.prog = true := by kernel_rfl
theorem jf1 : (Rows.textfieldLimitsRow.wf (OpenSpec.ofChange Rows.textfieldLimitsSpec)) = true := by kernel_rfl
theorem jf2 : (laidOutB Tryz.prog) = true := by kernel_rfl
theorem jf3 : (mapsRowed Tryz.prog) = true := by kernel_rfl
theorem jf4 : (Tryz.f4.params.all (Tryz.prog.readableRec ·)) = true := by kernel_rfl
theorem jf5 : (namedTie Tryz.prog Rows.textfieldLimitsRow.named Rows.textfieldLimitsSpec.vars) = true := by kernel_rfl
theorem jf6 : ((Rows.textfieldLimitsRow.stops == [])) = true := by kernel_rfl
theorem jf7 : ((Tryz.prog.stops == [])) = true := by kernel_rfl
theorem jf8 : ((Rows.textfieldLimitsRow.knobs == [])) = true := by kernel_rfl
theorem jf9 : ((Tryz.prog.stopKnobs == [])) = true := by kernel_rfl
theorem jf10 : ((Rows.textfieldLimitsRow.inPlace == Tryz.prog.inPlace 4)) = true := by kernel_rfl
theorem jf11 : ((Rows.textfieldLimitsRow.unfollowed == Tryz.prog.unfollowed 4)) = true := by kernel_rfl
theorem jf12 : ((Rows.textfieldLimitsRow.recurses == Tryz.prog.recurses 4)) = true := by kernel_rfl
theorem jf13 : ((Rows.textfieldLimitsRow.named == Tryz.prog.varsNamed 4)) = true := by kernel_rfl
theorem jf14 : ((Rows.textfieldLimitsRow.maps == (Tryz.f4.params.toList ++ Rows.textfieldLimitsSpec.plain.varTypes Tryz.prog).any (Tryz.prog.mapsRec ·))) = true := by kernel_rfl
theorem jf15 : ((Rows.textfieldLimitsRow.ifaces == (Tryz.f4.params.toList ++ Rows.textfieldLimitsSpec.plain.varTypes Tryz.prog).any (Tryz.prog.ifacesRec ·))) = true := by kernel_rfl
theorem jf16 : ((Rows.textfieldLimitsRow.mapsOut == Tryz.prog.mapsAmong Tryz.f4.resultTypes.toList)) = true := by kernel_rfl
theorem jf17 : ((Rows.textfieldLimitsRow.loops == (Tryz.f4.params.toList ++ Rows.textfieldLimitsSpec.plain.varTypes Tryz.prog).any (Tryz.prog.loopsFrom ·))) = true := by kernel_rfl
theorem jf18 : ((Rows.textfieldLimitsRow.wideKeys == (Tryz.f4.params.toList ++ Rows.textfieldLimitsSpec.plain.varTypes Tryz.prog ++ Tryz.f4.resultTypes.toList).any (Tryz.prog.wideKeysFrom ·))) = true := by kernel_rfl
theorem jf19 : (Rows.textfieldLimitsSpec.vars.all (Tryz.prog.varReadable ·)) = true := by kernel_rfl
theorem jf20 : (Tryz.f4.resultTypes.all (fun t => Tryz.prog.readableRec t && decide (t < Tryz.prog.types.size))) = true := by kernel_rfl
theorem jf21 : ((Rows.textfieldLimitsRow.ifacesOut == Tryz.f4.resultTypes.toList.any (Tryz.prog.ifacesRec ·))) = true := by kernel_rfl
theorem jf22 : ((Rows.textfieldLimitsRow.loopsOut == Tryz.f4.resultTypes.toList.any (Tryz.prog.loopsFrom ·))) = true := by kernel_rfl
theorem jf23 : ((Rows.textfieldLimitsRow.plainKeys == Tryz.prog.plainKeys)) = true := by kernel_rfl
theorem jf24 : (Rows.textfieldLimitsRow.shortTexts.isNone) = true := by kernel_rfl
theorem jf25 : (Tryz.prog.stopsHeard) = true := by kernel_rfl
theorem jf26 : (Tryz.prog.mayEnter) = true := by kernel_rfl
theorem jf27 : ((Rows.textfieldLimitsRow.lifted == Tryz.prog.liftsFinal)) = true := by kernel_rfl
theorem jf28 : ((Tryz.prog.make == some Rows.textfieldLimitsRow.make)) = true := by kernel_rfl
theorem jf30 : ((Rows.textfieldLimitsRow.pinned == Rows.textfieldLimitsRow.pinnedBy)) = true := by kernel_rfl
theorem jf31 : ((Rows.textfieldLimitsRow.veiled == (Tryz.f4.params.toList ++ Rows.textfieldLimitsSpec.plain.varTypes Tryz.prog ++ Tryz.f4.resultTypes.toList).any (Tryz.prog.veiledRec ·))) = true := by kernel_rfl
theorem jf32 : (Rows.textfieldLimitsRow.veiledFits Tryz.prog Tryz.f4.params.toList (Tryz.f4.params.toList ++ Rows.textfieldLimitsSpec.plain.varTypes Tryz.prog ++ Tryz.f4.resultTypes.toList)) = true := by kernel_rfl
theorem closed : joinedFacts Tryz.prog 4 Tryz.f4 Rows.textfieldLimitsSpec Rows.textfieldLimitsRow = true := by
  unfold joinedFacts
  simp only [Bool.and_eq_true]
  refine ⟨⟨⟨⟨⟨⟨⟨⟨⟨⟨⟨⟨⟨⟨⟨⟨⟨⟨⟨⟨⟨⟨⟨⟨⟨⟨⟨⟨⟨⟨⟨?_, ?_⟩, ?_⟩, ?_⟩, ?_⟩, ?_⟩, ?_⟩, ?_⟩, ?_⟩, ?_⟩, ?_⟩, ?_⟩, ?_⟩, ?_⟩, ?_⟩, ?_⟩, ?_⟩, ?_⟩, ?_⟩, ?_⟩, ?_⟩, ?_⟩, ?_⟩, ?_⟩, ?_⟩, ?_⟩, ?_⟩, ?_⟩, ?_⟩, ?_⟩, ?_⟩, ?_⟩
  · exact jf1
  · exact jf2
  · exact jf3
  · exact jf4
  · exact jf5
  · exact jf6
  · exact jf7
  · exact jf8
  · exact jf9
  · exact jf10
  · exact jf11
  · exact jf12
  · exact jf13
  · exact jf14
  · exact jf15
  · exact jf16
  · exact jf17
  · exact jf18
  · exact jf19
  · exact jf20
  · exact jf21
  · exact jf22
  · exact jf23
  · exact jf24
  · exact jf25
  · exact jf26
  · exact jf27
  · exact jf28
  · kernel_rfl
  · exact jf30
  · exact jf31
  · exact jf32
end Go.Proofs.YtoappddifbgegaaGreat
