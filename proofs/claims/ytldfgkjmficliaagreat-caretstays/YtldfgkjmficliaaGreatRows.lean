/-
  No cell of these rows narrows 'for every input' (looked for: loops, veiled, ifaces, maps, wideKeys, modest, calm, conditions, laid).
  DERIVED. THE GIVEN ROWS OF THIS SEAT. 3 by the template 'for every input the law returns true; each argument reads behind the call as it read before'; 0 by the template 'total and deterministic' (their statements: YtldfgkjmficliaaGreatTotals.lean).
  GIVEN WITH THE SEED: the statements are not yours to turn. If you find one false, say at which input.
  Laid BY PROGRAM, IN A SANDBOX (cutbox-rows.mjs): the forced cells as the released guide's own fill.sh prints them over the translation f1aab9ea470d39a4… (all of the seat's roots in one cut). By AI agents, Wed Nov 11 2026. No macro, syntax, notation, axiom, sorry.
-/
import Derived.Test.YtldfgkjmficliaaGreatChecked
import GoSem.Claim
import GoSem.ClaimJoined
import GoSem.ClaimMapViews
import Derived.JoinedTies
import Derived.KernelRfl
namespace Go.Proofs.YtldfgkjmficliaaGreat
/- THE CELL 'sum', in the pinned program and in every row, IS THE sha256 OF THE DUMP (.gsa) THAT YtldfgkjmficliaaGreatProg.lean LOADS. Nothing in Lean hashes anything: it is a label: what it is worth is what the hold of that sum in a sandbox is worth. -/
noncomputable def Tryz.pinned : Pinned := { name := "ytldfgkjmficliaagreat", sum := "f1aab9ea470d39a48d01a30d6c263eb62e8500149e9b5d2b3d64c0cf4877059f", checked := Tryz.checked }
namespace Rows
def none {H : Type} : Left H := { results := [], args := [] }

/-- 'widgetrylaw09.ParagraphJoins': WHATEVER THE INPUT: true; the input reads as it did. -/
def paragraphJoinsSpec : ChangeSpec := { name := "paragraphJoins", fn := fun _ => fun
  | [d1, d2, d3, d4] => { results := [.lit (.bool true)], args := [d1, d2, d3, d4] }
  | _ => none }
def paragraphJoinsRow : OpenClaim := { program := "ytldfgkjmficliaagreat", sum := "f1aab9ea470d39a48d01a30d6c263eb62e8500149e9b5d2b3d64c0cf4877059f", func := "widgetry/widgetrylaw09.ParagraphJoins", spec := "paragraphJoins", unfollowed := true, recurses := true, plainKeys := false, apart := false }
def ParagraphJoinsSaid : Prop := paragraphJoinsRow.holds Tryz.pinned (OpenSpec.ofChange paragraphJoinsSpec)

/-- ITS FALSE NEIGHBOUR: 'it returns false'. Refute it at one input. -/
def paragraphJoinsWrong : ChangeSpec := { name := "paragraphJoins", fn := fun _ => fun
  | [d1, d2, d3, d4] => { results := [.lit (.bool false)], args := [d1, d2, d3, d4] }
  | _ => none }
def ParagraphJoinsWrongFalsely : Prop := paragraphJoinsRow.holds Tryz.pinned (OpenSpec.ofChange paragraphJoinsWrong)

/-- 'widgetrylaw10.CaretWalks': WHATEVER THE INPUT: true; the input reads as it did. -/
def caretWalksSpec : ChangeSpec := { name := "caretWalks", fn := fun _ => fun
  | [d] => { results := [.lit (.bool true)], args := [d] }
  | _ => none }
def caretWalksRow : OpenClaim := { program := "ytldfgkjmficliaagreat", sum := "f1aab9ea470d39a48d01a30d6c263eb62e8500149e9b5d2b3d64c0cf4877059f", func := "widgetry/widgetrylaw10.CaretWalks", spec := "caretWalks", unfollowed := true, recurses := true, plainKeys := false, apart := false }
def CaretWalksSaid : Prop := caretWalksRow.holds Tryz.pinned (OpenSpec.ofChange caretWalksSpec)

/-- ITS FALSE NEIGHBOUR: 'it returns false'. Refute it at one input. -/
def caretWalksWrong : ChangeSpec := { name := "caretWalks", fn := fun _ => fun
  | [d] => { results := [.lit (.bool false)], args := [d] }
  | _ => none }
def CaretWalksWrongFalsely : Prop := caretWalksRow.holds Tryz.pinned (OpenSpec.ofChange caretWalksWrong)

/-- 'widgetrylaw10.CaretStays': WHATEVER THE INPUT: true; the input reads as it did. -/
def caretStaysSpec : ChangeSpec := { name := "caretStays", fn := fun _ => fun
  | [d1, d2] => { results := [.lit (.bool true)], args := [d1, d2] }
  | _ => none }
def caretStaysRow : OpenClaim := { program := "ytldfgkjmficliaagreat", sum := "f1aab9ea470d39a48d01a30d6c263eb62e8500149e9b5d2b3d64c0cf4877059f", func := "widgetry/widgetrylaw10.CaretStays", spec := "caretStays", unfollowed := true, recurses := true, plainKeys := false, apart := false }
def CaretStaysSaid : Prop := caretStaysRow.holds Tryz.pinned (OpenSpec.ofChange caretStaysSpec)

/-- ITS FALSE NEIGHBOUR: 'it returns false'. Refute it at one input. -/
def caretStaysWrong : ChangeSpec := { name := "caretStays", fn := fun _ => fun
  | [d1, d2] => { results := [.lit (.bool false)], args := [d1, d2] }
  | _ => none }
def CaretStaysWrongFalsely : Prop := caretStaysRow.holds Tryz.pinned (OpenSpec.ofChange caretStaysWrong)

/- THE SECOND FORM. 'bulk': how many values and letters a reading holds, each counted each time it is reached (what is shared counts as often as it is met; a slice's spare places count too). A statement '..UptoSaid' is the law's where the arguments, and the package variables that the reading takes, are together of bulk at most 1048576: NARROWER than '..Said'. Prove '..Said' where nothing that the law and all that it calls make is longer than what came in: it says more and counts as full. Else prove '..UptoSaid'. A law counts once. -/
mutual
def uptoBulk {H : Type} : DataW H → Nat
  | .lit (.string bytes) => bytes.length + 1
  | .lit _ => 1
  | .nil => 1
  | .ptr d => uptoBulk d + 1
  | .slice elems spare => uptoBulkAll elems + uptoBulkAll spare + 1
  | .agg parts => uptoBulkAll parts + 1
  | .iface _ d => uptoBulk d + 1
  | .map entries => uptoBulkEntries entries + 1
  | .held _ => 1
def uptoBulkAll {H : Type} : List (DataW H) → Nat
  | [] => 0
  | d :: r => uptoBulk d + uptoBulkAll r
def uptoBulkEntries {H : Type} : List (Lit × DataW H) → Nat
  | [] => 0
  | x :: r => uptoBulkEntry x + uptoBulkEntries r
def uptoBulkEntry {H : Type} : Lit × DataW H → Nat
  | (.string bytes, d) => bytes.length + uptoBulk d + 1
  | (_, d) => uptoBulk d + 1
 end
def uptoSmall : (H : Type) → List (DataW H) → Bool := fun _ ds => decide (uptoBulkAll ds ≤ 1048576)
def OpenSpec.upto (s : _root_.Go.ChangeSpec) : _root_.Go.OpenSpec := { _root_.Go.OpenSpec.ofChange s with cond := some uptoSmall }

/-- 'widgetrylaw09.ParagraphJoins', WHERE WHAT IT READS IS OF BULK AT MOST 1048576: true; the input reads as it did. -/
def paragraphJoinsUptoRow : OpenClaim := { program := "ytldfgkjmficliaagreat", sum := "f1aab9ea470d39a48d01a30d6c263eb62e8500149e9b5d2b3d64c0cf4877059f", func := "widgetry/widgetrylaw09.ParagraphJoins", spec := "paragraphJoins", unfollowed := true, recurses := true, plainKeys := false, apart := false, narrowed := true }
def ParagraphJoinsUptoSaid : Prop := paragraphJoinsUptoRow.holds Tryz.pinned (OpenSpec.upto paragraphJoinsSpec)

/-- 'widgetrylaw10.CaretWalks', WHERE WHAT IT READS IS OF BULK AT MOST 1048576: true; the input reads as it did. -/
def caretWalksUptoRow : OpenClaim := { program := "ytldfgkjmficliaagreat", sum := "f1aab9ea470d39a48d01a30d6c263eb62e8500149e9b5d2b3d64c0cf4877059f", func := "widgetry/widgetrylaw10.CaretWalks", spec := "caretWalks", unfollowed := true, recurses := true, plainKeys := false, apart := false, narrowed := true }
def CaretWalksUptoSaid : Prop := caretWalksUptoRow.holds Tryz.pinned (OpenSpec.upto caretWalksSpec)

/-- 'widgetrylaw10.CaretStays', WHERE WHAT IT READS IS OF BULK AT MOST 1048576: true; the input reads as it did. -/
def caretStaysUptoRow : OpenClaim := { program := "ytldfgkjmficliaagreat", sum := "f1aab9ea470d39a48d01a30d6c263eb62e8500149e9b5d2b3d64c0cf4877059f", func := "widgetry/widgetrylaw10.CaretStays", spec := "caretStays", unfollowed := true, recurses := true, plainKeys := false, apart := false, narrowed := true }
def CaretStaysUptoSaid : Prop := caretStaysUptoRow.holds Tryz.pinned (OpenSpec.upto caretStaysSpec)

end Rows
end Go.Proofs.YtldfgkjmficliaaGreat
