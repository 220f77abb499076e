/- Closed facts of the row of TextfieldFonts. -/
import Derived.Test.YtoappddifbgegaaGreatRows
import Derived.WalkKit
import Derived.ProofKit
import Derived.OpenShut
import Derived.ShutString
import Derived.ChangeOld
import Derived.Below
import Derived.Lib.SmallJoins
set_option linter.all false
set_option linter.all false
namespace Go.Proofs.YtoappddifbgegaaGreat
open Go.ChangeShapes Go.WideShapes Go.ChangeAt Go.RowKit
theorem own:ownKnob Tryz.prog.godebug=none:=by kernel_rfl
theorem laidOut:laidOutB Tryz.prog=true:=by kernel_rfl
theorem jf1:(Rows.textfieldFontsRow.wf (OpenSpec.ofChange Rows.textfieldFontsSpec))=true:=by kernel_rfl
theorem jf2:(laidOutB Tryz.prog)=true:=by kernel_rfl
theorem jf3:(mapsRowed Tryz.prog)=true:=by kernel_rfl
theorem jf4:(Tryz.f5.params.all (Tryz.prog.readableRec ·))=true:=by kernel_rfl
theorem jf5:(namedTie Tryz.prog Rows.textfieldFontsRow.named Rows.textfieldFontsSpec.vars)=true:=by kernel_rfl
theorem jf6:((Rows.textfieldFontsRow.stops==[]))=true:=by kernel_rfl
theorem jf7:((Tryz.prog.stops==[]))=true:=by kernel_rfl
theorem jf8:((Rows.textfieldFontsRow.knobs==[]))=true:=by kernel_rfl
theorem jf9:((Tryz.prog.stopKnobs==[]))=true:=by kernel_rfl
theorem jf10:((Rows.textfieldFontsRow.inPlace==Tryz.prog.inPlace 5))=true:=by kernel_rfl
theorem jf11:((Rows.textfieldFontsRow.unfollowed==Tryz.prog.unfollowed 5))=true:=by kernel_rfl
theorem jf12:((Rows.textfieldFontsRow.recurses==Tryz.prog.recurses 5))=true:=by kernel_rfl
theorem jf13:((Rows.textfieldFontsRow.named==Tryz.prog.varsNamed 5))=true:=by kernel_rfl
theorem jf14:((Rows.textfieldFontsRow.maps==(Tryz.f5.params.toList++Rows.textfieldFontsSpec.plain.varTypes Tryz.prog).any (Tryz.prog.mapsRec ·)))=true:=by kernel_rfl
theorem jf15:((Rows.textfieldFontsRow.ifaces==(Tryz.f5.params.toList++Rows.textfieldFontsSpec.plain.varTypes Tryz.prog).any (Tryz.prog.ifacesRec ·)))=true:=by kernel_rfl
theorem jf16:((Rows.textfieldFontsRow.mapsOut==Tryz.prog.mapsAmong Tryz.f5.resultTypes.toList))=true:=by kernel_rfl
theorem jf17:((Rows.textfieldFontsRow.loops==(Tryz.f5.params.toList++Rows.textfieldFontsSpec.plain.varTypes Tryz.prog).any (Tryz.prog.loopsFrom ·)))=true:=by kernel_rfl
theorem jf18:((Rows.textfieldFontsRow.wideKeys==(Tryz.f5.params.toList++Rows.textfieldFontsSpec.plain.varTypes Tryz.prog++Tryz.f5.resultTypes.toList).any (Tryz.prog.wideKeysFrom ·)))=true:=by kernel_rfl
theorem jf19:(Rows.textfieldFontsSpec.vars.all (Tryz.prog.varReadable ·))=true:=by kernel_rfl
theorem jf20:(Tryz.f5.resultTypes.all (fun t=>Tryz.prog.readableRec t&&decide (t<Tryz.prog.types.size)))=true:=by kernel_rfl
theorem jf21:((Rows.textfieldFontsRow.ifacesOut==Tryz.f5.resultTypes.toList.any (Tryz.prog.ifacesRec ·)))=true:=by kernel_rfl
theorem jf22:((Rows.textfieldFontsRow.loopsOut==Tryz.f5.resultTypes.toList.any (Tryz.prog.loopsFrom ·)))=true:=by kernel_rfl
theorem jf23:((Rows.textfieldFontsRow.plainKeys==Tryz.prog.plainKeys))=true:=by kernel_rfl
theorem jf24:(Rows.textfieldFontsRow.shortTexts.isNone)=true:=by kernel_rfl
theorem jf25:(Tryz.prog.stopsHeard)=true:=by kernel_rfl
theorem jf26:(Tryz.prog.mayEnter)=true:=by kernel_rfl
theorem jf27:((Rows.textfieldFontsRow.lifted==Tryz.prog.liftsFinal))=true:=by kernel_rfl
theorem jf28:((Tryz.prog.make==some Rows.textfieldFontsRow.make))=true:=by kernel_rfl
theorem jf30:((Rows.textfieldFontsRow.pinned==Rows.textfieldFontsRow.pinnedBy))=true:=by kernel_rfl
theorem jf31:((Rows.textfieldFontsRow.veiled==(Tryz.f5.params.toList++Rows.textfieldFontsSpec.plain.varTypes Tryz.prog++Tryz.f5.resultTypes.toList).any (Tryz.prog.veiledRec ·)))=true:=by kernel_rfl
theorem jf32:(Rows.textfieldFontsRow.veiledFits Tryz.prog Tryz.f5.params.toList (Tryz.f5.params.toList++Rows.textfieldFontsSpec.plain.varTypes Tryz.prog++Tryz.f5.resultTypes.toList))=true:=by kernel_rfl
theorem closed:joinedFacts Tryz.prog 5 Tryz.f5 Rows.textfieldFontsSpec Rows.textfieldFontsRow=true:=by
 unfold joinedFacts;simp only[Bool.and_eq_true];refine⟨⟨⟨⟨⟨⟨⟨⟨⟨⟨⟨⟨⟨⟨⟨⟨⟨⟨⟨⟨⟨⟨⟨⟨⟨⟨⟨⟨⟨⟨⟨?_,?_⟩,?_⟩,?_⟩,?_⟩,?_⟩,?_⟩,?_⟩,?_⟩,?_⟩,?_⟩,?_⟩,?_⟩,?_⟩,?_⟩,?_⟩,?_⟩,?_⟩,?_⟩,?_⟩,?_⟩,?_⟩,?_⟩,?_⟩,?_⟩,?_⟩,?_⟩,?_⟩,?_⟩,?_⟩,?_⟩,?_⟩
 ·exact jf1
 ·exact jf2
 ·exact jf3
 ·exact jf4
 ·exact jf5
 ·exact jf6
 ·exact jf7
 ·exact jf8
 ·exact jf9
 ·exact jf10
 ·exact jf11
 ·exact jf12
 ·exact jf13
 ·exact jf14
 ·exact jf15
 ·exact jf16
 ·exact jf17
 ·exact jf18
 ·exact jf19
 ·exact jf20
 ·exact jf21
 ·exact jf22
 ·exact jf23
 ·exact jf24
 ·exact jf25
 ·exact jf26
 ·exact jf27
 ·exact jf28
 ·kernel_rfl
 ·exact jf30
 ·exact jf31
 ·exact jf32
end Go.Proofs.YtoappddifbgegaaGreat
