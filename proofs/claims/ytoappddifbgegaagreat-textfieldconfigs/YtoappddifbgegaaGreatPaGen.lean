/- Several texts of this proof in one. -/
import Derived.Test.YtoappddifbgegaaGreatAbW7
import Derived.Test.YtoappddifbgegaaGreatPaRef
import Derived.Test.YtoappddifbgegaaGreatPaRef2
set_option linter.all false
namespace Go.Ab
open Go.Proofs
namespace Bi
section
variable {prim : FuncId → Option Prim} (d : Nat) (cfg : Cfg) (h : Heap)
@[simp] theorem cv3_21 {h : Heap} {k : IntKind} {n : Int} : convV Tryz.prog h 3 21 (.int k n) = some (.int .i32 (IntKind.i32.wrap n), h) := by kernel_rfl
end
end Bi
end Go.Ab
namespace Go.Ab
open Go.Proofs
namespace Bi
structure Fnt where
  u : Int
  a : Int
  d : Int
  g : Int
  df : Int
  adv : List (Int × Int × Int)
  ker : List (Int × Int × Int)
  lig : List (Int × Int × Int × Int)
def advC (x : Int × Int × Int) : List V := [.int .i32 x.1, .int .i32 x.2.1, .int .i64 x.2.2]
def ligC (x : Int × Int × Int × Int) : List V := [.int .i32 x.1, .int .i32 x.2.1, .int .i64 x.2.2.1, .int .i64 x.2.2.2]
def fntC (f : Fnt) : List V := [.int .i64 f.u, .int .i64 f.a, .int .i64 f.d, .int .i64 f.g, .int .i64 f.df, .lst (f.adv.map advC), .lst (f.ker.map advC), .lst (f.lig.map ligC)]
structure FntOK (f : Fnt) : Prop where
  u : 16 ≤ f.u ∧ f.u ≤ 200
  a : 1 ≤ f.a ∧ f.a ≤ 100
  d : 0 ≤ f.d ∧ f.d < 40
  g : 0 ≤ f.g ∧ f.g < 30
  df : 0 ≤ f.df ∧ f.df < 120
  adv : ∀ x ∈ f.adv, 0 ≤ x.1 ∧ x.1 ≤ x.2.1 ∧ x.2.1 ≤ 1114111 ∧ 0 ≤ x.2.2 ∧ x.2.2 < 200
  advA : f.adv.Pairwise fun x y => x.2.1 < y.1
  advL : f.adv.length ≤ 4
  ker : ∀ x ∈ f.ker, 0 ≤ x.1 ∧ x.1 ≤ 1114111 ∧ 0 ≤ x.2.1 ∧ x.2.1 ≤ 1114111 ∧ -60 ≤ x.2.2 ∧ x.2.2 ≤ 60
  kerA : f.ker.Pairwise fun x y => x.1 < y.1 ∨ x.1 = y.1 ∧ x.2.1 < y.2.1
  kerL : f.ker.length ≤ 5
  lig : ∀ x ∈ f.lig, 0 ≤ x.1 ∧ x.1 ≤ 1114111 ∧ 0 ≤ x.2.1 ∧ x.2.1 ≤ 1114111 ∧ 1114112 ≤ x.2.2.1 ∧ x.2.2.1 ≤ 1114120 ∧ 0 ≤ x.2.2.2 ∧ x.2.2.2 < 200
  ligA : f.lig.Pairwise fun x y => x.1 < y.1 ∨ x.1 = y.1 ∧ x.2.1 < y.2.1
  ligL : f.lig.length ≤ 4
section
variable {prim : FuncId → Option Prim} (d : Nat) (cfg : Cfg) (h : Heap)
structure Rd (H : Heap) (b : Nat) (L : List Int) (k : Nat) : Prop where
  blk : blockOf H b = some [il L, .int .i64 k]
  le : k ≤ L.length
abbrev hk (h : Heap) (b : Nat) (L : List Int) (k : Nat) : Heap := h.set b (some [il L, .int .i64 k])
structure Gn (h : Heap) (b : Nat) (L : List Int) (k : Nat) (X H : Heap) (os : List Own) : Prop where
  le : k ≤ L.length
  hp : Hp H (hk h b L k ++ X) os
attribute [local congr] wGp_ctx
end
end Bi
end Go.Ab
