/-
  No cell of these rows narrows 'for every input' (looked for: loops, veiled, ifaces, maps, wideKeys, modest, calm, conditions, laid).
  DERIVED. THE GIVEN ROWS OF THIS SEAT. 3 by the template 'for every input the law returns true; each argument reads behind the call as it read before'; 0 by the template 'total and deterministic' (their statements: YtoappddifbgegaaGreatTotals.lean).
  GIVEN WITH THE SEED: the statements are not yours to turn. If you find one false, say at which input.
  Laid BY PROGRAM, IN A SANDBOX (cutbox-rows.mjs): the forced cells as the released guide's own fill.sh prints them over the translation 4f2c6b67a3ccf77a… (all of the seat's roots in one cut). By AI agents, Wed Nov 11 2026. No macro, syntax, notation, axiom, sorry.
-/
import Derived.Test.YtoappddifbgegaaGreatChecked
import GoSem.Claim
import GoSem.ClaimJoined
import GoSem.ClaimMapViews
import Derived.JoinedTies
import Derived.KernelRfl
namespace Go.Proofs.YtoappddifbgegaaGreat
/- THE CELL 'sum', in the pinned program and in every row, IS THE sha256 OF THE DUMP (.gsa) THAT YtoappddifbgegaaGreatProg.lean LOADS. Nothing in Lean hashes anything: it is a label: what it is worth is what the hold of that sum in a sandbox is worth. -/
noncomputable def Tryz.pinned : Pinned := { name := "ytoappddifbgegaagreat", sum := "4f2c6b67a3ccf77a5fa7a069b735d6d4f8e24c3509ee6f0764d46ec61d4aaa0d", checked := Tryz.checked }
namespace Rows
def none {H : Type} : Left H := { results := [], args := [] }

/-- 'widgetrylaw28.TextfieldConfigs': WHATEVER THE INPUT: true; the input reads as it did. -/
def textfieldConfigsSpec : ChangeSpec := { name := "textfieldConfigs", fn := fun _ => fun
  | [d1, d2, d3, d4] => { results := [.lit (.bool true)], args := [d1, d2, d3, d4] }
  | _ => none }
def textfieldConfigsRow : OpenClaim := { program := "ytoappddifbgegaagreat", sum := "4f2c6b67a3ccf77a5fa7a069b735d6d4f8e24c3509ee6f0764d46ec61d4aaa0d", func := "widgetry/widgetrylaw28.TextfieldConfigs", spec := "textfieldConfigs", unfollowed := true, recurses := true, plainKeys := false, apart := false }
def TextfieldConfigsSaid : Prop := textfieldConfigsRow.holds Tryz.pinned (OpenSpec.ofChange textfieldConfigsSpec)

/-- ITS FALSE NEIGHBOUR: 'it returns false'. Refute it at one input. -/
def textfieldConfigsWrong : ChangeSpec := { name := "textfieldConfigs", fn := fun _ => fun
  | [d1, d2, d3, d4] => { results := [.lit (.bool false)], args := [d1, d2, d3, d4] }
  | _ => none }
def TextfieldConfigsWrongFalsely : Prop := textfieldConfigsRow.holds Tryz.pinned (OpenSpec.ofChange textfieldConfigsWrong)

/-- 'widgetrylaw28.TextfieldLimits': WHATEVER THE INPUT: true; the input reads as it did. -/
def textfieldLimitsSpec : ChangeSpec := { name := "textfieldLimits", fn := fun _ => fun
  | [d1, d2] => { results := [.lit (.bool true)], args := [d1, d2] }
  | _ => none }
def textfieldLimitsRow : OpenClaim := { program := "ytoappddifbgegaagreat", sum := "4f2c6b67a3ccf77a5fa7a069b735d6d4f8e24c3509ee6f0764d46ec61d4aaa0d", func := "widgetry/widgetrylaw28.TextfieldLimits", spec := "textfieldLimits", unfollowed := true, recurses := true, plainKeys := false, apart := false }
def TextfieldLimitsSaid : Prop := textfieldLimitsRow.holds Tryz.pinned (OpenSpec.ofChange textfieldLimitsSpec)

/-- ITS FALSE NEIGHBOUR: 'it returns false'. Refute it at one input. -/
def textfieldLimitsWrong : ChangeSpec := { name := "textfieldLimits", fn := fun _ => fun
  | [d1, d2] => { results := [.lit (.bool false)], args := [d1, d2] }
  | _ => none }
def TextfieldLimitsWrongFalsely : Prop := textfieldLimitsRow.holds Tryz.pinned (OpenSpec.ofChange textfieldLimitsWrong)

/-- 'widgetrylaw28.TextfieldFonts': WHATEVER THE INPUT: true; the input reads as it did. -/
def textfieldFontsSpec : ChangeSpec := { name := "textfieldFonts", fn := fun _ => fun
  | [d] => { results := [.lit (.bool true)], args := [d] }
  | _ => none }
def textfieldFontsRow : OpenClaim := { program := "ytoappddifbgegaagreat", sum := "4f2c6b67a3ccf77a5fa7a069b735d6d4f8e24c3509ee6f0764d46ec61d4aaa0d", func := "widgetry/widgetrylaw28.TextfieldFonts", spec := "textfieldFonts", unfollowed := true, recurses := true, plainKeys := false, apart := false }
def TextfieldFontsSaid : Prop := textfieldFontsRow.holds Tryz.pinned (OpenSpec.ofChange textfieldFontsSpec)

/-- ITS FALSE NEIGHBOUR: 'it returns false'. Refute it at one input. -/
def textfieldFontsWrong : ChangeSpec := { name := "textfieldFonts", fn := fun _ => fun
  | [d] => { results := [.lit (.bool false)], args := [d] }
  | _ => none }
def TextfieldFontsWrongFalsely : Prop := textfieldFontsRow.holds Tryz.pinned (OpenSpec.ofChange textfieldFontsWrong)

/- THE SECOND FORM. 'bulk': how many values and letters a reading holds, each counted each time it is reached (what is shared counts as often as it is met; a slice's spare places count too). A statement '..UptoSaid' is the law's where the arguments, and the package variables that the reading takes, are together of bulk at most 1048576: NARROWER than '..Said'. Prove '..Said' where nothing that the law and all that it calls make is longer than what came in: it says more and counts as full. Else prove '..UptoSaid'. A law counts once. -/
mutual
def uptoBulk {H : Type} : DataW H → Nat
  | .lit (.string bytes) => bytes.length + 1
  | .lit _ => 1
  | .nil => 1
  | .ptr d => uptoBulk d + 1
  | .slice elems spare => uptoBulkAll elems + uptoBulkAll spare + 1
  | .agg parts => uptoBulkAll parts + 1
  | .iface _ d => uptoBulk d + 1
  | .map entries => uptoBulkEntries entries + 1
  | .held _ => 1
def uptoBulkAll {H : Type} : List (DataW H) → Nat
  | [] => 0
  | d :: r => uptoBulk d + uptoBulkAll r
def uptoBulkEntries {H : Type} : List (Lit × DataW H) → Nat
  | [] => 0
  | x :: r => uptoBulkEntry x + uptoBulkEntries r
def uptoBulkEntry {H : Type} : Lit × DataW H → Nat
  | (.string bytes, d) => bytes.length + uptoBulk d + 1
  | (_, d) => uptoBulk d + 1
 end
def uptoSmall : (H : Type) → List (DataW H) → Bool := fun _ ds => decide (uptoBulkAll ds ≤ 1048576)
def OpenSpec.upto (s : _root_.Go.ChangeSpec) : _root_.Go.OpenSpec := { _root_.Go.OpenSpec.ofChange s with cond := some uptoSmall }

/-- 'widgetrylaw28.TextfieldConfigs', WHERE WHAT IT READS IS OF BULK AT MOST 1048576: true; the input reads as it did. -/
def textfieldConfigsUptoRow : OpenClaim := { program := "ytoappddifbgegaagreat", sum := "4f2c6b67a3ccf77a5fa7a069b735d6d4f8e24c3509ee6f0764d46ec61d4aaa0d", func := "widgetry/widgetrylaw28.TextfieldConfigs", spec := "textfieldConfigs", unfollowed := true, recurses := true, plainKeys := false, apart := false, narrowed := true }
def TextfieldConfigsUptoSaid : Prop := textfieldConfigsUptoRow.holds Tryz.pinned (OpenSpec.upto textfieldConfigsSpec)

/-- 'widgetrylaw28.TextfieldLimits', WHERE WHAT IT READS IS OF BULK AT MOST 1048576: true; the input reads as it did. -/
def textfieldLimitsUptoRow : OpenClaim := { program := "ytoappddifbgegaagreat", sum := "4f2c6b67a3ccf77a5fa7a069b735d6d4f8e24c3509ee6f0764d46ec61d4aaa0d", func := "widgetry/widgetrylaw28.TextfieldLimits", spec := "textfieldLimits", unfollowed := true, recurses := true, plainKeys := false, apart := false, narrowed := true }
def TextfieldLimitsUptoSaid : Prop := textfieldLimitsUptoRow.holds Tryz.pinned (OpenSpec.upto textfieldLimitsSpec)

/-- 'widgetrylaw28.TextfieldFonts', WHERE WHAT IT READS IS OF BULK AT MOST 1048576: true; the input reads as it did. -/
def textfieldFontsUptoRow : OpenClaim := { program := "ytoappddifbgegaagreat", sum := "4f2c6b67a3ccf77a5fa7a069b735d6d4f8e24c3509ee6f0764d46ec61d4aaa0d", func := "widgetry/widgetrylaw28.TextfieldFonts", spec := "textfieldFonts", unfollowed := true, recurses := true, plainKeys := false, apart := false, narrowed := true }
def TextfieldFontsUptoSaid : Prop := textfieldFontsUptoRow.holds Tryz.pinned (OpenSpec.upto textfieldFontsSpec)

end Rows
end Go.Proofs.YtoappddifbgegaaGreat
