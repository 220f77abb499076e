/-
  No cell of these rows narrows 'for every input' (looked for: loops, veiled, ifaces, maps, wideKeys, modest, calm, conditions, laid).
  DERIVED. THE GIVEN ROWS OF THIS SEAT. 6 by the template 'for every input the law returns true; each argument reads behind the call as it read before'; 0 by the template 'total and deterministic' (their statements: YteddnfbjjbcmgaaGreatTotals.lean).
  GIVEN WITH THE SEED: the statements are not yours to turn. If you find one false, say at which input.
  Laid BY PROGRAM, IN A SANDBOX (cutbox-rows.mjs): the forced cells as the released guide's own fill.sh prints them over the translation 37a48a2fedcddaa4… (all of the seat's roots in one cut). By AI agents, Wed Nov 11 2026. No macro, syntax, notation, axiom, sorry.
-/
import Derived.Test.YteddnfbjjbcmgaaGreatChecked
import GoSem.Claim
import GoSem.ClaimJoined
import GoSem.ClaimMapViews
import Derived.JoinedTies
import Derived.KernelRfl
namespace Go.Proofs.YteddnfbjjbcmgaaGreat
/- THE CELL 'sum', in the pinned program and in every row, IS THE sha256 OF THE DUMP (.gsa) THAT YteddnfbjjbcmgaaGreatProg.lean LOADS. Nothing in Lean hashes anything: it is a label: what it is worth is what the hold of that sum in a sandbox is worth. -/
noncomputable def Tryz.pinned : Pinned := { name := "yteddnfbjjbcmgaagreat", sum := "37a48a2fedcddaa4280217096a1611b969fd094c82c13d1013945755c5815715", checked := Tryz.checked }
namespace Rows
def none {H : Type} : Left H := { results := [], args := [] }

/-- 'widgetrylaw09.ParagraphEnds': WHATEVER THE INPUT: true; the input reads as it did. -/
def paragraphEndsSpec : ChangeSpec := { name := "paragraphEnds", fn := fun _ => fun
  | [d] => { results := [.lit (.bool true)], args := [d] }
  | _ => none }
def paragraphEndsRow : OpenClaim := { program := "yteddnfbjjbcmgaagreat", sum := "37a48a2fedcddaa4280217096a1611b969fd094c82c13d1013945755c5815715", func := "widgetry/widgetrylaw09.ParagraphEnds", spec := "paragraphEnds", unfollowed := true, recurses := true, plainKeys := false, apart := false }
def ParagraphEndsSaid : Prop := paragraphEndsRow.holds Tryz.pinned (OpenSpec.ofChange paragraphEndsSpec)

/-- ITS FALSE NEIGHBOUR: 'it returns false'. Refute it at one input. -/
def paragraphEndsWrong : ChangeSpec := { name := "paragraphEnds", fn := fun _ => fun
  | [d] => { results := [.lit (.bool false)], args := [d] }
  | _ => none }
def ParagraphEndsWrongFalsely : Prop := paragraphEndsRow.holds Tryz.pinned (OpenSpec.ofChange paragraphEndsWrong)

/-- 'widgetrylaw09.ParagraphFits': WHATEVER THE INPUT: true; the input reads as it did. -/
def paragraphFitsSpec : ChangeSpec := { name := "paragraphFits", fn := fun _ => fun
  | [d] => { results := [.lit (.bool true)], args := [d] }
  | _ => none }
def paragraphFitsRow : OpenClaim := { program := "yteddnfbjjbcmgaagreat", sum := "37a48a2fedcddaa4280217096a1611b969fd094c82c13d1013945755c5815715", func := "widgetry/widgetrylaw09.ParagraphFits", spec := "paragraphFits", unfollowed := true, recurses := true, plainKeys := false, apart := false }
def ParagraphFitsSaid : Prop := paragraphFitsRow.holds Tryz.pinned (OpenSpec.ofChange paragraphFitsSpec)

/-- ITS FALSE NEIGHBOUR: 'it returns false'. Refute it at one input. -/
def paragraphFitsWrong : ChangeSpec := { name := "paragraphFits", fn := fun _ => fun
  | [d] => { results := [.lit (.bool false)], args := [d] }
  | _ => none }
def ParagraphFitsWrongFalsely : Prop := paragraphFitsRow.holds Tryz.pinned (OpenSpec.ofChange paragraphFitsWrong)

/-- 'widgetrylaw09.ParagraphWide': WHATEVER THE INPUT: true; the input reads as it did. -/
def paragraphWideSpec : ChangeSpec := { name := "paragraphWide", fn := fun _ => fun
  | [d] => { results := [.lit (.bool true)], args := [d] }
  | _ => none }
def paragraphWideRow : OpenClaim := { program := "yteddnfbjjbcmgaagreat", sum := "37a48a2fedcddaa4280217096a1611b969fd094c82c13d1013945755c5815715", func := "widgetry/widgetrylaw09.ParagraphWide", spec := "paragraphWide", unfollowed := true, recurses := true, plainKeys := false, apart := false }
def ParagraphWideSaid : Prop := paragraphWideRow.holds Tryz.pinned (OpenSpec.ofChange paragraphWideSpec)

/-- ITS FALSE NEIGHBOUR: 'it returns false'. Refute it at one input. -/
def paragraphWideWrong : ChangeSpec := { name := "paragraphWide", fn := fun _ => fun
  | [d] => { results := [.lit (.bool false)], args := [d] }
  | _ => none }
def ParagraphWideWrongFalsely : Prop := paragraphWideRow.holds Tryz.pinned (OpenSpec.ofChange paragraphWideWrong)

/-- 'widgetrylaw09.ParagraphAligns': WHATEVER THE INPUT: true; the input reads as it did. -/
def paragraphAlignsSpec : ChangeSpec := { name := "paragraphAligns", fn := fun _ => fun
  | [d] => { results := [.lit (.bool true)], args := [d] }
  | _ => none }
def paragraphAlignsRow : OpenClaim := { program := "yteddnfbjjbcmgaagreat", sum := "37a48a2fedcddaa4280217096a1611b969fd094c82c13d1013945755c5815715", func := "widgetry/widgetrylaw09.ParagraphAligns", spec := "paragraphAligns", unfollowed := true, recurses := true, plainKeys := false, apart := false }
def ParagraphAlignsSaid : Prop := paragraphAlignsRow.holds Tryz.pinned (OpenSpec.ofChange paragraphAlignsSpec)

/-- ITS FALSE NEIGHBOUR: 'it returns false'. Refute it at one input. -/
def paragraphAlignsWrong : ChangeSpec := { name := "paragraphAligns", fn := fun _ => fun
  | [d] => { results := [.lit (.bool false)], args := [d] }
  | _ => none }
def ParagraphAlignsWrongFalsely : Prop := paragraphAlignsRow.holds Tryz.pinned (OpenSpec.ofChange paragraphAlignsWrong)

/-- 'widgetrylaw09.ParagraphFonts': WHATEVER THE INPUT: true; the input reads as it did. -/
def paragraphFontsSpec : ChangeSpec := { name := "paragraphFonts", fn := fun _ => fun
  | [d] => { results := [.lit (.bool true)], args := [d] }
  | _ => none }
def paragraphFontsRow : OpenClaim := { program := "yteddnfbjjbcmgaagreat", sum := "37a48a2fedcddaa4280217096a1611b969fd094c82c13d1013945755c5815715", func := "widgetry/widgetrylaw09.ParagraphFonts", spec := "paragraphFonts", unfollowed := true, recurses := true, plainKeys := false, apart := false }
def ParagraphFontsSaid : Prop := paragraphFontsRow.holds Tryz.pinned (OpenSpec.ofChange paragraphFontsSpec)

/-- ITS FALSE NEIGHBOUR: 'it returns false'. Refute it at one input. -/
def paragraphFontsWrong : ChangeSpec := { name := "paragraphFonts", fn := fun _ => fun
  | [d] => { results := [.lit (.bool false)], args := [d] }
  | _ => none }
def ParagraphFontsWrongFalsely : Prop := paragraphFontsRow.holds Tryz.pinned (OpenSpec.ofChange paragraphFontsWrong)

/-- 'widgetrylaw09.ParagraphCovers': WHATEVER THE INPUT: true; the input reads as it did. -/
def paragraphCoversSpec : ChangeSpec := { name := "paragraphCovers", fn := fun _ => fun
  | [d] => { results := [.lit (.bool true)], args := [d] }
  | _ => none }
def paragraphCoversRow : OpenClaim := { program := "yteddnfbjjbcmgaagreat", sum := "37a48a2fedcddaa4280217096a1611b969fd094c82c13d1013945755c5815715", func := "widgetry/widgetrylaw09.ParagraphCovers", spec := "paragraphCovers", unfollowed := true, recurses := true, plainKeys := false, apart := false }
def ParagraphCoversSaid : Prop := paragraphCoversRow.holds Tryz.pinned (OpenSpec.ofChange paragraphCoversSpec)

/-- ITS FALSE NEIGHBOUR: 'it returns false'. Refute it at one input. -/
def paragraphCoversWrong : ChangeSpec := { name := "paragraphCovers", fn := fun _ => fun
  | [d] => { results := [.lit (.bool false)], args := [d] }
  | _ => none }
def ParagraphCoversWrongFalsely : Prop := paragraphCoversRow.holds Tryz.pinned (OpenSpec.ofChange paragraphCoversWrong)

/- THE SECOND FORM. 'bulk': how many values and letters a reading holds, each counted each time it is reached (what is shared counts as often as it is met; a slice's spare places count too). A statement '..UptoSaid' is the law's where the arguments, and the package variables that the reading takes, are together of bulk at most 1048576: NARROWER than '..Said'. Prove '..Said' where nothing that the law and all that it calls make is longer than what came in: it says more and counts as full. Else prove '..UptoSaid'. A law counts once. -/
mutual
def uptoBulk {H : Type} : DataW H → Nat
  | .lit (.string bytes) => bytes.length + 1
  | .lit _ => 1
  | .nil => 1
  | .ptr d => uptoBulk d + 1
  | .slice elems spare => uptoBulkAll elems + uptoBulkAll spare + 1
  | .agg parts => uptoBulkAll parts + 1
  | .iface _ d => uptoBulk d + 1
  | .map entries => uptoBulkEntries entries + 1
  | .held _ => 1
def uptoBulkAll {H : Type} : List (DataW H) → Nat
  | [] => 0
  | d :: r => uptoBulk d + uptoBulkAll r
def uptoBulkEntries {H : Type} : List (Lit × DataW H) → Nat
  | [] => 0
  | x :: r => uptoBulkEntry x + uptoBulkEntries r
def uptoBulkEntry {H : Type} : Lit × DataW H → Nat
  | (.string bytes, d) => bytes.length + uptoBulk d + 1
  | (_, d) => uptoBulk d + 1
 end
def uptoSmall : (H : Type) → List (DataW H) → Bool := fun _ ds => decide (uptoBulkAll ds ≤ 1048576)
def OpenSpec.upto (s : _root_.Go.ChangeSpec) : _root_.Go.OpenSpec := { _root_.Go.OpenSpec.ofChange s with cond := some uptoSmall }

/-- 'widgetrylaw09.ParagraphEnds', WHERE WHAT IT READS IS OF BULK AT MOST 1048576: true; the input reads as it did. -/
def paragraphEndsUptoRow : OpenClaim := { program := "yteddnfbjjbcmgaagreat", sum := "37a48a2fedcddaa4280217096a1611b969fd094c82c13d1013945755c5815715", func := "widgetry/widgetrylaw09.ParagraphEnds", spec := "paragraphEnds", unfollowed := true, recurses := true, plainKeys := false, apart := false, narrowed := true }
def ParagraphEndsUptoSaid : Prop := paragraphEndsUptoRow.holds Tryz.pinned (OpenSpec.upto paragraphEndsSpec)

/-- 'widgetrylaw09.ParagraphFits', WHERE WHAT IT READS IS OF BULK AT MOST 1048576: true; the input reads as it did. -/
def paragraphFitsUptoRow : OpenClaim := { program := "yteddnfbjjbcmgaagreat", sum := "37a48a2fedcddaa4280217096a1611b969fd094c82c13d1013945755c5815715", func := "widgetry/widgetrylaw09.ParagraphFits", spec := "paragraphFits", unfollowed := true, recurses := true, plainKeys := false, apart := false, narrowed := true }
def ParagraphFitsUptoSaid : Prop := paragraphFitsUptoRow.holds Tryz.pinned (OpenSpec.upto paragraphFitsSpec)

/-- 'widgetrylaw09.ParagraphWide', WHERE WHAT IT READS IS OF BULK AT MOST 1048576: true; the input reads as it did. -/
def paragraphWideUptoRow : OpenClaim := { program := "yteddnfbjjbcmgaagreat", sum := "37a48a2fedcddaa4280217096a1611b969fd094c82c13d1013945755c5815715", func := "widgetry/widgetrylaw09.ParagraphWide", spec := "paragraphWide", unfollowed := true, recurses := true, plainKeys := false, apart := false, narrowed := true }
def ParagraphWideUptoSaid : Prop := paragraphWideUptoRow.holds Tryz.pinned (OpenSpec.upto paragraphWideSpec)

/-- 'widgetrylaw09.ParagraphAligns', WHERE WHAT IT READS IS OF BULK AT MOST 1048576: true; the input reads as it did. -/
def paragraphAlignsUptoRow : OpenClaim := { program := "yteddnfbjjbcmgaagreat", sum := "37a48a2fedcddaa4280217096a1611b969fd094c82c13d1013945755c5815715", func := "widgetry/widgetrylaw09.ParagraphAligns", spec := "paragraphAligns", unfollowed := true, recurses := true, plainKeys := false, apart := false, narrowed := true }
def ParagraphAlignsUptoSaid : Prop := paragraphAlignsUptoRow.holds Tryz.pinned (OpenSpec.upto paragraphAlignsSpec)

/-- 'widgetrylaw09.ParagraphFonts', WHERE WHAT IT READS IS OF BULK AT MOST 1048576: true; the input reads as it did. -/
def paragraphFontsUptoRow : OpenClaim := { program := "yteddnfbjjbcmgaagreat", sum := "37a48a2fedcddaa4280217096a1611b969fd094c82c13d1013945755c5815715", func := "widgetry/widgetrylaw09.ParagraphFonts", spec := "paragraphFonts", unfollowed := true, recurses := true, plainKeys := false, apart := false, narrowed := true }
def ParagraphFontsUptoSaid : Prop := paragraphFontsUptoRow.holds Tryz.pinned (OpenSpec.upto paragraphFontsSpec)

/-- 'widgetrylaw09.ParagraphCovers', WHERE WHAT IT READS IS OF BULK AT MOST 1048576: true; the input reads as it did. -/
def paragraphCoversUptoRow : OpenClaim := { program := "yteddnfbjjbcmgaagreat", sum := "37a48a2fedcddaa4280217096a1611b969fd094c82c13d1013945755c5815715", func := "widgetry/widgetrylaw09.ParagraphCovers", spec := "paragraphCovers", unfollowed := true, recurses := true, plainKeys := false, apart := false, narrowed := true }
def ParagraphCoversUptoSaid : Prop := paragraphCoversUptoRow.holds Tryz.pinned (OpenSpec.upto paragraphCoversSpec)

end Rows
end Go.Proofs.YteddnfbjjbcmgaaGreat
