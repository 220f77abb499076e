/-
  No cell of these rows narrows 'for every input' (looked for: loops, veiled, ifaces, maps, wideKeys, modest, calm, conditions, laid).
  DERIVED. THE GIVEN ROWS OF THIS SEAT. 8 by the template 'for every input the law returns true; each argument reads behind the call as it read before'; 0 by the template 'total and deterministic' (their statements: YtcedojbifnangaaTotals.lean).
  GIVEN WITH THE SEED: the statements are not yours to turn. If you find one false, say at which input.
  Laid BY PROGRAM, IN A SANDBOX (cutbox-rows.mjs): the forced cells as the released guide's own fill.sh prints them over the translation 9dbdfc8b83234407… (all of the seat's roots in one cut). By AI agents, Wed Nov 11 2026. No macro, syntax, notation, axiom, sorry.
-/
import Derived.Test.YtcedojbifnangaaChecked
import GoSem.Claim
import GoSem.ClaimJoined
import GoSem.ClaimMapViews
import Derived.JoinedTies
import Derived.KernelRfl
namespace Go.Proofs.Ytcedojbifnangaa
/- THE CELL 'sum', in the pinned program and in every row, IS THE sha256 OF THE DUMP (.gsa) THAT YtcedojbifnangaaProg.lean LOADS. Nothing in Lean hashes anything: it is a label: what it is worth is what the hold of that sum in a sandbox is worth. -/
noncomputable def Try.pinned : Pinned := { name := "ytcedojbifnangaa", sum := "9dbdfc8b83234407dc1da556e0e72abe96e3b5ce79fce6b22657c58eff379fd0", checked := Try.checked }
namespace Rows
def none {H : Type} : Left H := { results := [], args := [] }

/-- 'widgetrylaw06.BidiExplicit': WHATEVER THE INPUT: true; the input reads as it did. -/
def bidiExplicitSpec : ChangeSpec := { name := "bidiExplicit", fn := fun _ => fun
  | [d1, d2] => { results := [.lit (.bool true)], args := [d1, d2] }
  | _ => none }
def bidiExplicitRow : OpenClaim := { program := "ytcedojbifnangaa", sum := "9dbdfc8b83234407dc1da556e0e72abe96e3b5ce79fce6b22657c58eff379fd0", func := "widgetry/widgetrylaw06.BidiExplicit", spec := "bidiExplicit", unfollowed := true, recurses := true, apart := false }
def BidiExplicitSaid : Prop := bidiExplicitRow.holds Try.pinned (OpenSpec.ofChange bidiExplicitSpec)

/-- ITS FALSE NEIGHBOUR: 'it returns false'. Refute it at one input. -/
def bidiExplicitWrong : ChangeSpec := { name := "bidiExplicit", fn := fun _ => fun
  | [d1, d2] => { results := [.lit (.bool false)], args := [d1, d2] }
  | _ => none }
def BidiExplicitWrongFalsely : Prop := bidiExplicitRow.holds Try.pinned (OpenSpec.ofChange bidiExplicitWrong)

/-- 'widgetrylaw06.BidiDeep': WHATEVER THE INPUT: true; the input reads as it did. -/
def bidiDeepSpec : ChangeSpec := { name := "bidiDeep", fn := fun _ => fun
  | [d1, d2, d3] => { results := [.lit (.bool true)], args := [d1, d2, d3] }
  | _ => none }
def bidiDeepRow : OpenClaim := { program := "ytcedojbifnangaa", sum := "9dbdfc8b83234407dc1da556e0e72abe96e3b5ce79fce6b22657c58eff379fd0", func := "widgetry/widgetrylaw06.BidiDeep", spec := "bidiDeep", unfollowed := true, recurses := true, apart := false }
def BidiDeepSaid : Prop := bidiDeepRow.holds Try.pinned (OpenSpec.ofChange bidiDeepSpec)

/-- ITS FALSE NEIGHBOUR: 'it returns false'. Refute it at one input. -/
def bidiDeepWrong : ChangeSpec := { name := "bidiDeep", fn := fun _ => fun
  | [d1, d2, d3] => { results := [.lit (.bool false)], args := [d1, d2, d3] }
  | _ => none }
def BidiDeepWrongFalsely : Prop := bidiDeepRow.holds Try.pinned (OpenSpec.ofChange bidiDeepWrong)

/-- 'widgetrylaw06.BidiPermutes': WHATEVER THE INPUT: true; the input reads as it did. -/
def bidiPermutesSpec : ChangeSpec := { name := "bidiPermutes", fn := fun _ => fun
  | [d] => { results := [.lit (.bool true)], args := [d] }
  | _ => none }
def bidiPermutesRow : OpenClaim := { program := "ytcedojbifnangaa", sum := "9dbdfc8b83234407dc1da556e0e72abe96e3b5ce79fce6b22657c58eff379fd0", func := "widgetry/widgetrylaw06.BidiPermutes", spec := "bidiPermutes", unfollowed := true, recurses := true, apart := false }
def BidiPermutesSaid : Prop := bidiPermutesRow.holds Try.pinned (OpenSpec.ofChange bidiPermutesSpec)

/-- ITS FALSE NEIGHBOUR: 'it returns false'. Refute it at one input. -/
def bidiPermutesWrong : ChangeSpec := { name := "bidiPermutes", fn := fun _ => fun
  | [d] => { results := [.lit (.bool false)], args := [d] }
  | _ => none }
def BidiPermutesWrongFalsely : Prop := bidiPermutesRow.holds Try.pinned (OpenSpec.ofChange bidiPermutesWrong)

/-- 'widgetrylaw06.BidiPlain': WHATEVER THE INPUT: true; the input reads as it did. -/
def bidiPlainSpec : ChangeSpec := { name := "bidiPlain", fn := fun _ => fun
  | [d] => { results := [.lit (.bool true)], args := [d] }
  | _ => none }
def bidiPlainRow : OpenClaim := { program := "ytcedojbifnangaa", sum := "9dbdfc8b83234407dc1da556e0e72abe96e3b5ce79fce6b22657c58eff379fd0", func := "widgetry/widgetrylaw06.BidiPlain", spec := "bidiPlain", unfollowed := true, recurses := true, apart := false }
def BidiPlainSaid : Prop := bidiPlainRow.holds Try.pinned (OpenSpec.ofChange bidiPlainSpec)

/-- ITS FALSE NEIGHBOUR: 'it returns false'. Refute it at one input. -/
def bidiPlainWrong : ChangeSpec := { name := "bidiPlain", fn := fun _ => fun
  | [d] => { results := [.lit (.bool false)], args := [d] }
  | _ => none }
def BidiPlainWrongFalsely : Prop := bidiPlainRow.holds Try.pinned (OpenSpec.ofChange bidiPlainWrong)

/-- 'widgetrylaw06.BidiIsolates': WHATEVER THE INPUT: true; the input reads as it did. -/
def bidiIsolatesSpec : ChangeSpec := { name := "bidiIsolates", fn := fun _ => fun
  | [d1, d2, d3, d4, d5] => { results := [.lit (.bool true)], args := [d1, d2, d3, d4, d5] }
  | _ => none }
def bidiIsolatesRow : OpenClaim := { program := "ytcedojbifnangaa", sum := "9dbdfc8b83234407dc1da556e0e72abe96e3b5ce79fce6b22657c58eff379fd0", func := "widgetry/widgetrylaw06.BidiIsolates", spec := "bidiIsolates", unfollowed := true, recurses := true, apart := false }
def BidiIsolatesSaid : Prop := bidiIsolatesRow.holds Try.pinned (OpenSpec.ofChange bidiIsolatesSpec)

/-- ITS FALSE NEIGHBOUR: 'it returns false'. Refute it at one input. -/
def bidiIsolatesWrong : ChangeSpec := { name := "bidiIsolates", fn := fun _ => fun
  | [d1, d2, d3, d4, d5] => { results := [.lit (.bool false)], args := [d1, d2, d3, d4, d5] }
  | _ => none }
def BidiIsolatesWrongFalsely : Prop := bidiIsolatesRow.holds Try.pinned (OpenSpec.ofChange bidiIsolatesWrong)

/-- 'widgetrylaw06.BidiOrders': WHATEVER THE INPUT: true; the input reads as it did. -/
def bidiOrdersSpec : ChangeSpec := { name := "bidiOrders", fn := fun _ => fun
  | [d] => { results := [.lit (.bool true)], args := [d] }
  | _ => none }
def bidiOrdersRow : OpenClaim := { program := "ytcedojbifnangaa", sum := "9dbdfc8b83234407dc1da556e0e72abe96e3b5ce79fce6b22657c58eff379fd0", func := "widgetry/widgetrylaw06.BidiOrders", spec := "bidiOrders", unfollowed := true, recurses := true, apart := false }
def BidiOrdersSaid : Prop := bidiOrdersRow.holds Try.pinned (OpenSpec.ofChange bidiOrdersSpec)

/-- ITS FALSE NEIGHBOUR: 'it returns false'. Refute it at one input. -/
def bidiOrdersWrong : ChangeSpec := { name := "bidiOrders", fn := fun _ => fun
  | [d] => { results := [.lit (.bool false)], args := [d] }
  | _ => none }
def BidiOrdersWrongFalsely : Prop := bidiOrdersRow.holds Try.pinned (OpenSpec.ofChange bidiOrdersWrong)

/-- 'widgetrylaw06.BidiRaw': WHATEVER THE INPUT: true; the input reads as it did. -/
def bidiRawSpec : ChangeSpec := { name := "bidiRaw", fn := fun _ => fun
  | [d1, d2, d3, d4] => { results := [.lit (.bool true)], args := [d1, d2, d3, d4] }
  | _ => none }
def bidiRawRow : OpenClaim := { program := "ytcedojbifnangaa", sum := "9dbdfc8b83234407dc1da556e0e72abe96e3b5ce79fce6b22657c58eff379fd0", func := "widgetry/widgetrylaw06.BidiRaw", spec := "bidiRaw", unfollowed := true, recurses := true, apart := false }
def BidiRawSaid : Prop := bidiRawRow.holds Try.pinned (OpenSpec.ofChange bidiRawSpec)

/-- ITS FALSE NEIGHBOUR: 'it returns false'. Refute it at one input. -/
def bidiRawWrong : ChangeSpec := { name := "bidiRaw", fn := fun _ => fun
  | [d1, d2, d3, d4] => { results := [.lit (.bool false)], args := [d1, d2, d3, d4] }
  | _ => none }
def BidiRawWrongFalsely : Prop := bidiRawRow.holds Try.pinned (OpenSpec.ofChange bidiRawWrong)

/-- 'widgetrylaw06.BidiBuilt': WHATEVER THE INPUT: true; the input reads as it did. -/
def bidiBuiltSpec : ChangeSpec := { name := "bidiBuilt", fn := fun _ => fun
  | [d] => { results := [.lit (.bool true)], args := [d] }
  | _ => none }
def bidiBuiltRow : OpenClaim := { program := "ytcedojbifnangaa", sum := "9dbdfc8b83234407dc1da556e0e72abe96e3b5ce79fce6b22657c58eff379fd0", func := "widgetry/widgetrylaw06.BidiBuilt", spec := "bidiBuilt", unfollowed := true, recurses := true, apart := false }
def BidiBuiltSaid : Prop := bidiBuiltRow.holds Try.pinned (OpenSpec.ofChange bidiBuiltSpec)

/-- ITS FALSE NEIGHBOUR: 'it returns false'. Refute it at one input. -/
def bidiBuiltWrong : ChangeSpec := { name := "bidiBuilt", fn := fun _ => fun
  | [d] => { results := [.lit (.bool false)], args := [d] }
  | _ => none }
def BidiBuiltWrongFalsely : Prop := bidiBuiltRow.holds Try.pinned (OpenSpec.ofChange bidiBuiltWrong)

/- THE SECOND FORM. 'bulk': how many values and letters a reading holds, each counted each time it is reached (what is shared counts as often as it is met; a slice's spare places count too). A statement '..UptoSaid' is the law's where the arguments, and the package variables that the reading takes, are together of bulk at most 1048576: NARROWER than '..Said'. Prove '..Said' where nothing that the law and all that it calls make is longer than what came in: it says more and counts as full. Else prove '..UptoSaid'. A law counts once. -/
mutual
def uptoBulk {H : Type} : DataW H → Nat
  | .lit (.string bytes) => bytes.length + 1
  | .lit _ => 1
  | .nil => 1
  | .ptr d => uptoBulk d + 1
  | .slice elems spare => uptoBulkAll elems + uptoBulkAll spare + 1
  | .agg parts => uptoBulkAll parts + 1
  | .iface _ d => uptoBulk d + 1
  | .map entries => uptoBulkEntries entries + 1
  | .held _ => 1
def uptoBulkAll {H : Type} : List (DataW H) → Nat
  | [] => 0
  | d :: r => uptoBulk d + uptoBulkAll r
def uptoBulkEntries {H : Type} : List (Lit × DataW H) → Nat
  | [] => 0
  | x :: r => uptoBulkEntry x + uptoBulkEntries r
def uptoBulkEntry {H : Type} : Lit × DataW H → Nat
  | (.string bytes, d) => bytes.length + uptoBulk d + 1
  | (_, d) => uptoBulk d + 1
 end
def uptoSmall : (H : Type) → List (DataW H) → Bool := fun _ ds => decide (uptoBulkAll ds ≤ 1048576)
def OpenSpec.upto (s : _root_.Go.ChangeSpec) : _root_.Go.OpenSpec := { _root_.Go.OpenSpec.ofChange s with cond := some uptoSmall }

/-- 'widgetrylaw06.BidiExplicit', WHERE WHAT IT READS IS OF BULK AT MOST 1048576: true; the input reads as it did. -/
def bidiExplicitUptoRow : OpenClaim := { program := "ytcedojbifnangaa", sum := "9dbdfc8b83234407dc1da556e0e72abe96e3b5ce79fce6b22657c58eff379fd0", func := "widgetry/widgetrylaw06.BidiExplicit", spec := "bidiExplicit", unfollowed := true, recurses := true, apart := false, narrowed := true }
def BidiExplicitUptoSaid : Prop := bidiExplicitUptoRow.holds Try.pinned (OpenSpec.upto bidiExplicitSpec)

/-- 'widgetrylaw06.BidiDeep', WHERE WHAT IT READS IS OF BULK AT MOST 1048576: true; the input reads as it did. -/
def bidiDeepUptoRow : OpenClaim := { program := "ytcedojbifnangaa", sum := "9dbdfc8b83234407dc1da556e0e72abe96e3b5ce79fce6b22657c58eff379fd0", func := "widgetry/widgetrylaw06.BidiDeep", spec := "bidiDeep", unfollowed := true, recurses := true, apart := false, narrowed := true }
def BidiDeepUptoSaid : Prop := bidiDeepUptoRow.holds Try.pinned (OpenSpec.upto bidiDeepSpec)

/-- 'widgetrylaw06.BidiPermutes', WHERE WHAT IT READS IS OF BULK AT MOST 1048576: true; the input reads as it did. -/
def bidiPermutesUptoRow : OpenClaim := { program := "ytcedojbifnangaa", sum := "9dbdfc8b83234407dc1da556e0e72abe96e3b5ce79fce6b22657c58eff379fd0", func := "widgetry/widgetrylaw06.BidiPermutes", spec := "bidiPermutes", unfollowed := true, recurses := true, apart := false, narrowed := true }
def BidiPermutesUptoSaid : Prop := bidiPermutesUptoRow.holds Try.pinned (OpenSpec.upto bidiPermutesSpec)

/-- 'widgetrylaw06.BidiPlain', WHERE WHAT IT READS IS OF BULK AT MOST 1048576: true; the input reads as it did. -/
def bidiPlainUptoRow : OpenClaim := { program := "ytcedojbifnangaa", sum := "9dbdfc8b83234407dc1da556e0e72abe96e3b5ce79fce6b22657c58eff379fd0", func := "widgetry/widgetrylaw06.BidiPlain", spec := "bidiPlain", unfollowed := true, recurses := true, apart := false, narrowed := true }
def BidiPlainUptoSaid : Prop := bidiPlainUptoRow.holds Try.pinned (OpenSpec.upto bidiPlainSpec)

/-- 'widgetrylaw06.BidiIsolates', WHERE WHAT IT READS IS OF BULK AT MOST 1048576: true; the input reads as it did. -/
def bidiIsolatesUptoRow : OpenClaim := { program := "ytcedojbifnangaa", sum := "9dbdfc8b83234407dc1da556e0e72abe96e3b5ce79fce6b22657c58eff379fd0", func := "widgetry/widgetrylaw06.BidiIsolates", spec := "bidiIsolates", unfollowed := true, recurses := true, apart := false, narrowed := true }
def BidiIsolatesUptoSaid : Prop := bidiIsolatesUptoRow.holds Try.pinned (OpenSpec.upto bidiIsolatesSpec)

/-- 'widgetrylaw06.BidiOrders', WHERE WHAT IT READS IS OF BULK AT MOST 1048576: true; the input reads as it did. -/
def bidiOrdersUptoRow : OpenClaim := { program := "ytcedojbifnangaa", sum := "9dbdfc8b83234407dc1da556e0e72abe96e3b5ce79fce6b22657c58eff379fd0", func := "widgetry/widgetrylaw06.BidiOrders", spec := "bidiOrders", unfollowed := true, recurses := true, apart := false, narrowed := true }
def BidiOrdersUptoSaid : Prop := bidiOrdersUptoRow.holds Try.pinned (OpenSpec.upto bidiOrdersSpec)

/-- 'widgetrylaw06.BidiRaw', WHERE WHAT IT READS IS OF BULK AT MOST 1048576: true; the input reads as it did. -/
def bidiRawUptoRow : OpenClaim := { program := "ytcedojbifnangaa", sum := "9dbdfc8b83234407dc1da556e0e72abe96e3b5ce79fce6b22657c58eff379fd0", func := "widgetry/widgetrylaw06.BidiRaw", spec := "bidiRaw", unfollowed := true, recurses := true, apart := false, narrowed := true }
def BidiRawUptoSaid : Prop := bidiRawUptoRow.holds Try.pinned (OpenSpec.upto bidiRawSpec)

/-- 'widgetrylaw06.BidiBuilt', WHERE WHAT IT READS IS OF BULK AT MOST 1048576: true; the input reads as it did. -/
def bidiBuiltUptoRow : OpenClaim := { program := "ytcedojbifnangaa", sum := "9dbdfc8b83234407dc1da556e0e72abe96e3b5ce79fce6b22657c58eff379fd0", func := "widgetry/widgetrylaw06.BidiBuilt", spec := "bidiBuilt", unfollowed := true, recurses := true, apart := false, narrowed := true }
def BidiBuiltUptoSaid : Prop := bidiBuiltUptoRow.holds Try.pinned (OpenSpec.upto bidiBuiltSpec)

end Rows
end Go.Proofs.Ytcedojbifnangaa
