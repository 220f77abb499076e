/-
  No cell of these rows narrows 'for every input' (looked for: loops, veiled, ifaces, maps, wideKeys, modest, calm, conditions, laid).
  DERIVED. THE GIVEN ROWS OF THIS SEAT. 3 by the template 'for every input the law returns true; each argument reads behind the call as it read before'; 0 by the template 'total and deterministic' (their statements: YteogajcegmejgaaGreatTotals.lean).
  GIVEN WITH THE SEED: the statements are not yours to turn. If you find one false, say at which input.
  Laid BY PROGRAM, IN A SANDBOX (cutbox-rows.mjs): the forced cells as the released guide's own fill.sh prints them over the translation 2eed86bc1710efa5… (all of the seat's roots in one cut). By AI agents, Wed Nov 11 2026. No macro, syntax, notation, axiom, sorry.
-/
import Derived.Test.YteogajcegmejgaaGreatChecked
import GoSem.Claim
import GoSem.ClaimJoined
import GoSem.ClaimMapViews
import Derived.JoinedTies
import Derived.KernelRfl
namespace Go.Proofs.YteogajcegmejgaaGreat
/- THE CELL 'sum', in the pinned program and in every row, IS THE sha256 OF THE DUMP (.gsa) THAT YteogajcegmejgaaGreatProg.lean LOADS. Nothing in Lean hashes anything: it is a label: what it is worth is what the hold of that sum in a sandbox is worth. -/
noncomputable def Tryz.pinned : Pinned := { name := "yteogajcegmejgaagreat", sum := "2eed86bc1710efa50dcec660ae59a7ea3462fb70dc8631f847174407b845bf98", checked := Tryz.checked }
namespace Rows
def none {H : Type} : Left H := { results := [], args := [] }

/-- 'widgetrylaw39.TextrangeExpands': WHATEVER THE INPUT: true; the input reads as it did. -/
def textrangeExpandsSpec : ChangeSpec := { name := "textrangeExpands", fn := fun _ => fun
  | [d] => { results := [.lit (.bool true)], args := [d] }
  | _ => none }
def textrangeExpandsRow : OpenClaim := { program := "yteogajcegmejgaagreat", sum := "2eed86bc1710efa50dcec660ae59a7ea3462fb70dc8631f847174407b845bf98", func := "widgetry/widgetrylaw39.TextrangeExpands", spec := "textrangeExpands", unfollowed := true, recurses := true, apart := false }
def TextrangeExpandsSaid : Prop := textrangeExpandsRow.holds Tryz.pinned (OpenSpec.ofChange textrangeExpandsSpec)

/-- ITS FALSE NEIGHBOUR: 'it returns false'. Refute it at one input. -/
def textrangeExpandsWrong : ChangeSpec := { name := "textrangeExpands", fn := fun _ => fun
  | [d] => { results := [.lit (.bool false)], args := [d] }
  | _ => none }
def TextrangeExpandsWrongFalsely : Prop := textrangeExpandsRow.holds Tryz.pinned (OpenSpec.ofChange textrangeExpandsWrong)

/-- 'widgetrylaw39.TextrangeCovers': WHATEVER THE INPUT: true; the input reads as it did. -/
def textrangeCoversSpec : ChangeSpec := { name := "textrangeCovers", fn := fun _ => fun
  | [d] => { results := [.lit (.bool true)], args := [d] }
  | _ => none }
def textrangeCoversRow : OpenClaim := { program := "yteogajcegmejgaagreat", sum := "2eed86bc1710efa50dcec660ae59a7ea3462fb70dc8631f847174407b845bf98", func := "widgetry/widgetrylaw39.TextrangeCovers", spec := "textrangeCovers", unfollowed := true, recurses := true, apart := false }
def TextrangeCoversSaid : Prop := textrangeCoversRow.holds Tryz.pinned (OpenSpec.ofChange textrangeCoversSpec)

/-- ITS FALSE NEIGHBOUR: 'it returns false'. Refute it at one input. -/
def textrangeCoversWrong : ChangeSpec := { name := "textrangeCovers", fn := fun _ => fun
  | [d] => { results := [.lit (.bool false)], args := [d] }
  | _ => none }
def TextrangeCoversWrongFalsely : Prop := textrangeCoversRow.holds Tryz.pinned (OpenSpec.ofChange textrangeCoversWrong)

/-- 'widgetrylaw39.TextrangeExtends': WHATEVER THE INPUT: true; the input reads as it did. -/
def textrangeExtendsSpec : ChangeSpec := { name := "textrangeExtends", fn := fun _ => fun
  | [d] => { results := [.lit (.bool true)], args := [d] }
  | _ => none }
def textrangeExtendsRow : OpenClaim := { program := "yteogajcegmejgaagreat", sum := "2eed86bc1710efa50dcec660ae59a7ea3462fb70dc8631f847174407b845bf98", func := "widgetry/widgetrylaw39.TextrangeExtends", spec := "textrangeExtends", unfollowed := true, recurses := true, apart := false }
def TextrangeExtendsSaid : Prop := textrangeExtendsRow.holds Tryz.pinned (OpenSpec.ofChange textrangeExtendsSpec)

/-- ITS FALSE NEIGHBOUR: 'it returns false'. Refute it at one input. -/
def textrangeExtendsWrong : ChangeSpec := { name := "textrangeExtends", fn := fun _ => fun
  | [d] => { results := [.lit (.bool false)], args := [d] }
  | _ => none }
def TextrangeExtendsWrongFalsely : Prop := textrangeExtendsRow.holds Tryz.pinned (OpenSpec.ofChange textrangeExtendsWrong)

/- THE SECOND FORM. 'bulk': how many values and letters a reading holds, each counted each time it is reached (what is shared counts as often as it is met; a slice's spare places count too). A statement '..UptoSaid' is the law's where the arguments, and the package variables that the reading takes, are together of bulk at most 1048576: NARROWER than '..Said'. Prove '..Said' where nothing that the law and all that it calls make is longer than what came in: it says more and counts as full. Else prove '..UptoSaid'. A law counts once. -/
mutual
def uptoBulk {H : Type} : DataW H → Nat
  | .lit (.string bytes) => bytes.length + 1
  | .lit _ => 1
  | .nil => 1
  | .ptr d => uptoBulk d + 1
  | .slice elems spare => uptoBulkAll elems + uptoBulkAll spare + 1
  | .agg parts => uptoBulkAll parts + 1
  | .iface _ d => uptoBulk d + 1
  | .map entries => uptoBulkEntries entries + 1
  | .held _ => 1
def uptoBulkAll {H : Type} : List (DataW H) → Nat
  | [] => 0
  | d :: r => uptoBulk d + uptoBulkAll r
def uptoBulkEntries {H : Type} : List (Lit × DataW H) → Nat
  | [] => 0
  | x :: r => uptoBulkEntry x + uptoBulkEntries r
def uptoBulkEntry {H : Type} : Lit × DataW H → Nat
  | (.string bytes, d) => bytes.length + uptoBulk d + 1
  | (_, d) => uptoBulk d + 1
 end
def uptoSmall : (H : Type) → List (DataW H) → Bool := fun _ ds => decide (uptoBulkAll ds ≤ 1048576)
def OpenSpec.upto (s : _root_.Go.ChangeSpec) : _root_.Go.OpenSpec := { _root_.Go.OpenSpec.ofChange s with cond := some uptoSmall }

/-- 'widgetrylaw39.TextrangeExpands', WHERE WHAT IT READS IS OF BULK AT MOST 1048576: true; the input reads as it did. -/
def textrangeExpandsUptoRow : OpenClaim := { program := "yteogajcegmejgaagreat", sum := "2eed86bc1710efa50dcec660ae59a7ea3462fb70dc8631f847174407b845bf98", func := "widgetry/widgetrylaw39.TextrangeExpands", spec := "textrangeExpands", unfollowed := true, recurses := true, apart := false, narrowed := true }
def TextrangeExpandsUptoSaid : Prop := textrangeExpandsUptoRow.holds Tryz.pinned (OpenSpec.upto textrangeExpandsSpec)

/-- 'widgetrylaw39.TextrangeCovers', WHERE WHAT IT READS IS OF BULK AT MOST 1048576: true; the input reads as it did. -/
def textrangeCoversUptoRow : OpenClaim := { program := "yteogajcegmejgaagreat", sum := "2eed86bc1710efa50dcec660ae59a7ea3462fb70dc8631f847174407b845bf98", func := "widgetry/widgetrylaw39.TextrangeCovers", spec := "textrangeCovers", unfollowed := true, recurses := true, apart := false, narrowed := true }
def TextrangeCoversUptoSaid : Prop := textrangeCoversUptoRow.holds Tryz.pinned (OpenSpec.upto textrangeCoversSpec)

/-- 'widgetrylaw39.TextrangeExtends', WHERE WHAT IT READS IS OF BULK AT MOST 1048576: true; the input reads as it did. -/
def textrangeExtendsUptoRow : OpenClaim := { program := "yteogajcegmejgaagreat", sum := "2eed86bc1710efa50dcec660ae59a7ea3462fb70dc8631f847174407b845bf98", func := "widgetry/widgetrylaw39.TextrangeExtends", spec := "textrangeExtends", unfollowed := true, recurses := true, apart := false, narrowed := true }
def TextrangeExtendsUptoSaid : Prop := textrangeExtendsUptoRow.holds Tryz.pinned (OpenSpec.upto textrangeExtendsSpec)

end Rows
end Go.Proofs.YteogajcegmejgaaGreat
