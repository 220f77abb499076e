/- Closed calls, by tables: what awake comes to (the rest). -/
import Derived.Test.YtoappddifbgegaaGreatPbW1
set_option linter.all false
namespace Go.Ab
open Go.Proofs
namespace Aw
def t8 : Tbl := [(⟨⟨0, [], 0⟩, [(.agg c28), (.agg c5)], []⟩, (i 0), [some c28, some c5]),
  (⟨⟨0, [], 0⟩, [(.agg c6), (.agg c5)], []⟩, (i 0), [some c6, some c5]),
  (⟨⟨0, [], 0⟩, [(.agg c7), (.agg c5)], []⟩, (i 0), [some c7, some c5]),
  (⟨⟨0, [], 0⟩, [(.agg c25), (.agg c5)], []⟩, (i 0), [some c25, some c5])]
theorem r8x0 : ∀ k r, t8[0]? = some (k, r) → KT ps25 k.cfg 8 k.args k.h = some r := by
  intro k r hk
  cases hk
  kernel_rfl
theorem r8x1 : ∀ k r, t8[1]? = some (k, r) → KT ps25 k.cfg 8 k.args k.h = some r := by
  intro k r hk
  cases hk
  kernel_rfl
theorem r8x2 : ∀ k r, t8[2]? = some (k, r) → KT ps25 k.cfg 8 k.args k.h = some r := by
  intro k r hk
  cases hk
  kernel_rfl
theorem r8x3 : ∀ k r, t8[3]? = some (k, r) → KT ps25 k.cfg 8 k.args k.h = some r := by
  intro k r hk
  cases hk
  kernel_rfl
theorem ok8 : RowsOK Tryz.prog md28 (primB bC ps25) 10000 40 8 t8 := (rows_cons (r8x0 _ _ rfl) (rows_cons (r8x1 _ _ rfl) (rows_cons (r8x2 _ _ rfl) (rows_cons (r8x3 _ _ rfl) rows_nil))))
def ps26 : List (FuncId × Tbl) := (8, t8) :: ps25
theorem pk26 : ∀ f t, (f, t) ∈ ps26 → PrimOK Tryz.prog f (memoP t) := memo_cons pk25 (memo_ok hfol hnam (primB_ok bC_ok pk25) ok8)
def t95 : Tbl := [(⟨⟨0, [], 0⟩, [(.ptr 5 0)], [some c7, some c5, some c39, some c15, some [.nils, .nils, .nils], some [(.bool false), (.bool false), (i 100), (i 0), (i 1), (i 10), (i 1000), (i 0), (i 0), c2, (i 9), .nils, .nils, .nils, (i 0), (i 0), (.bool false), (i 0), (i 0), (i 0), (i 0), (i 0), (i 0), .nils, (i 0), (rl [97, 98]), (.lst [(is [2, 0])]), (i 2), (i 2), (.bool false), (.bool false), (i 0), (i 0), (.lst []), (.lst []), (i 0), (i 0), (.lst []), c59, (.lst []), (.bool false), (i 0), (i (-1)), (i (-1)), (rl [97, 98]), (.lst [(is [0, 2, 0, 10])]), (i 0), (i 0), (i 1000), (.lst [c24]), .nils, .nils, .nils], some c8, some c3]⟩, (i 0), [some c7, some c5, some c39, some c15, some [.nils, .nils, .nils], some c33, some c8, some c3, some [c59, (.lst []), (.bool false), (i 0)], some [(.lst []), c59, (.bool true), (i 0)], some [(.lst []), (.lst [])], some [(i 0), (i 0), (.bool false)], some [(.sl 19 0 2 2 4)], some [c1], some c41, some c42, none, some c17, some c43, some c53, some c42, some c42, some c42, none, some c43, some c43, some c43, some c53])]
theorem r95x0 : ∀ k r, t95[0]? = some (k, r) → rfPrim Tryz.prog md28 (primB bC ps26) 10000 40 95 k.cfg k.args k.h = some r := by
  intro k r hk
  cases hk
  kernel_rfl
def ps27 : List (FuncId × Tbl) := (95, t95) :: ps26
theorem pk27 : ∀ f t, (f, t) ∈ ps27 → PrimOK Tryz.prog f (memoP t) := memo_cons pk26 (memo_of (rfPrim_ok hfol hnam (primB_ok bC_ok pk26)) (rowsq_cons (r95x0 _ _ rfl) rowsq_nil))
def t55 : Tbl := [(⟨⟨0, [], 0⟩, [(.ptr 5 0)], [some c28, some c5, some c57, some c15, some [.nils, .nils, .nils], some [(.bool false), (.bool false), (i 100), (i 0), (i 1), (i 10), (i 1000), (i 0), (i 0), c2, (i 1), (rl [97]), (.lst []), (.lst []), (i 0), (i 0), (.bool false), (i 0), (i 0), (i 0), (i 0), (i 0), (i 0), (.lst []), (i 0), (.lst []), (.lst []), (i 0), (i 0), (.bool false), (.bool false), (i 0), (i 0), (.lst []), (.lst []), (i 0), (i 0), (.lst []), (.lst []), (.lst []), (.bool false), (i 0), (i (-1)), (i (-1)), (.lst []), (.lst [(is [0, 0, 0, 10])]), (i 0), (i 0), (i 1000), (.lst [c51]), .nils, .nils, .nils], some c18]⟩, (i 0), [some c28, some c5, some c57, some c15, some [.nils, .nils, .nils], some [(.bool false), (.bool false), (i 100), (i 0), (i 1), (i 10), (i 1000), (i 0), (i 0), c2, (i 1), (rl [97]), (.lst []), (.lst []), (i 0), (i 0), (.bool false), (i 0), (i 0), (i 0), (i 0), (i 0), (i 0), (.lst []), (i 0), (rl [97]), (.lst [(is [1, 0])]), (i 1), (i 1), (.bool false), (.bool false), (i 0), (i 0), (.lst []), (.lst []), (i 0), (i 0), (.lst []), c70, (.lst []), (.bool false), (i 0), (i (-1)), (i (-1)), (.lst []), (.lst [(is [0, 0, 0, 10])]), (i 0), (i 0), (i 1000), (.lst [c51]), (.sl 18 0 1 1 4), .nils, .nils], some c18, some c3, some c68, some [(i 0)], some c68, some c46, some c68, some [(i 1), (i 1), (.bool false)], some c17, some [c70, (.lst []), (.bool false), (i 0)], some c46, some c46, some c46]),
  (⟨⟨0, [], 0⟩, [(.ptr 5 0)], [some c6, some c5, some c56, some c15, some [.nils, .nils, .nils], some [(.bool false), (.bool false), (i 100), (i 0), (i 1), (i 10), (i 1000), (i 0), (i 0), c2, (i 1), (rl [98]), (.lst []), (.lst []), (i 0), (i 0), (.bool false), (i 0), (i 0), (i 0), (i 0), (i 0), (i 0), (.lst []), (i 0), (rl [97]), (.lst [(is [1, 0])]), (i 1), (i 1), (.bool false), (.bool false), (i 0), (i 0), (.lst []), (.lst []), (i 0), (i 0), (.lst []), c70, (.lst []), (.bool false), (i 0), (i (-1)), (i (-1)), (rl [97]), (.lst [(is [0, 1, 0, 10])]), (i 0), (i 0), (i 1000), (.lst [c40]), .nils, .nils, .nils], some c13]⟩, (i 0), [some c6, some c5, some c56, some c15, some [.nils, .nils, .nils], some [(.bool false), (.bool false), (i 100), (i 0), (i 1), (i 10), (i 1000), (i 0), (i 0), c2, (i 1), (rl [98]), (.lst []), (.lst []), (i 0), (i 0), (.bool false), (i 0), (i 0), (i 0), (i 0), (i 0), (i 0), (.lst []), (i 0), (rl [97, 98]), (.lst [(is [2, 0])]), (i 2), (i 2), (.bool false), (.bool false), (i 0), (i 0), (.lst []), (.lst []), (i 0), (i 0), (.lst []), c59, (.lst []), (.bool false), (i 0), (i (-1)), (i (-1)), (rl [97]), (.lst [(is [0, 1, 0, 10])]), (i 0), (i 0), (i 1000), (.lst [c40]), (.sl 18 0 1 1 4), .nils, .nils], some c13, some c3, some [(rl [98]), (.lst [(is [1, 0])])], some [(i 1)], some [(rl [98]), (.lst [(is [1, 0])])], some c45, some [(rl [97, 98]), (.lst [(is [2, 0])])], some [(i 2), (i 2), (.bool false)], some c41, some [c59, (.lst []), (.bool false), (i 0)], some c45, some c45, some c45]),
  (⟨⟨0, [], 0⟩, [(.ptr 5 0)], [some c7, some c5, some c39, some c15, some [.nils, .nils, .nils], some [(.bool false), (.bool false), (i 100), (i 0), (i 1), (i 10), (i 1000), (i 0), (i 0), c2, (i 9), .nils, .nils, .nils, (i 0), (i 0), (.bool false), (i 0), (i 0), (i 0), (i 0), (i 0), (i 0), .nils, (i 0), (rl [97, 98]), (.lst [(is [2, 0])]), (i 2), (i 2), (.bool false), (.bool false), (i 0), (i 0), (.lst []), (.lst []), (i 0), (i 0), (.lst []), c59, (.lst []), (.bool false), (i 0), (i (-1)), (i (-1)), (rl [97, 98]), (.lst [(is [0, 2, 0, 10])]), (i 0), (i 0), (i 1000), (.lst [c24]), .nils, .nils, .nils], some c8]⟩, (i 0), [some c7, some c5, some c39, some c15, some [.nils, .nils, .nils], some c33, some c8, some c3, some [c59, (.lst []), (.bool false), (i 0)], some [(.lst []), c59, (.bool true), (i 0)], some [(.lst []), (.lst [])], some [(i 0), (i 0), (.bool false)], some [(.sl 19 0 2 2 4)], some [c1], some c41, some c42, none, some c17, some c43, some c53, some c42, some c42, some c42, none, some c43, some c43, some c43, some c53]),
  (⟨⟨0, [], 0⟩, [(.ptr 5 0)], [some c25, some c5, some c60, some c15, some [.nils, .nils, .nils], some [(.bool false), (.bool false), (i 100), (i 0), (i 1), (i 10), (i 1000), (i 0), (i 0), c2, (i 2), .nils, .nils, .nils, (i 1), (i 0), (.bool false), (i 0), (i 0), (i 0), (i 0), (i 0), (i 0), .nils, (i 0), (rl [101, 769]), (.lst [(is [2, 0])]), (i 2), (i 2), (.bool false), (.bool false), (i 0), (i 0), (.lst []), (.lst []), (i 0), (i 0), (.lst []), (.lst []), (.lst []), (.bool false), (i 0), (i (-1)), (i (-1)), (rl [101, 769]), (.lst [(is [0, 2, 0, 10])]), (i 0), (i 0), (i 1000), (.lst [c32]), .nils, .nils, .nils], some c11]⟩, (i 0), [some c25, some c5, some c60, some c15, some [.nils, .nils, .nils], some [(.bool false), (.bool false), (i 100), (i 0), (i 1), (i 10), (i 1000), (i 0), (i 0), c2, (i 2), .nils, .nils, .nils, (i 1), (i 0), (.bool false), (i 0), (i 0), (i 0), (i 0), (i 0), (i 0), .nils, (i 0), (.lst []), (.lst []), (i 0), (i 0), (.bool false), (.bool false), (i 0), (i 0), (.lst []), (.lst []), (i 0), (i 0), (.lst []), (.lst [[(i 2), (i 0), (.lst [c19])]]), (.lst []), (.bool false), (i 0), (i (-1)), (i (-1)), (rl [101, 769]), (.lst [(is [0, 2, 0, 10])]), (i 0), (i 0), (i 1000), (.lst [c32]), (.sl 17 0 1 1 4), .nils, .nils], some c11, some c3, some [(i 0)], some [.nils, .nils], some [(i 0), (i 2), .nils, .nils], some [(.lst []), (.lst [])], some [(i 0), (i 0), (.bool false)], some c19, some [(.lst [[(i 2), (i 0), (.lst [c19])]]), (.lst []), (.bool false), (i 0)], some c64, some c64, some c64])]
theorem r55x0 : ∀ k r, t55[0]? = some (k, r) → KT ps27 k.cfg 55 k.args k.h = some r := by
  intro k r hk
  cases hk
  kernel_rfl
theorem r55x1 : ∀ k r, t55[1]? = some (k, r) → KT ps27 k.cfg 55 k.args k.h = some r := by
  intro k r hk
  cases hk
  kernel_rfl
theorem r55x2 : ∀ k r, t55[2]? = some (k, r) → KT ps27 k.cfg 55 k.args k.h = some r := by
  intro k r hk
  cases hk
  kernel_rfl
theorem r55x3 : ∀ k r, t55[3]? = some (k, r) → KT ps27 k.cfg 55 k.args k.h = some r := by
  intro k r hk
  cases hk
  kernel_rfl
theorem ok55 : RowsOK Tryz.prog md28 (primB bC ps27) 10000 40 55 t55 := (rows_cons (r55x0 _ _ rfl) (rows_cons (r55x1 _ _ rfl) (rows_cons (r55x2 _ _ rfl) (rows_cons (r55x3 _ _ rfl) rows_nil))))
def ps28 : List (FuncId × Tbl) := (55, t55) :: ps27
theorem pk28 : ∀ f t, (f, t) ∈ ps28 → PrimOK Tryz.prog f (memoP t) := memo_cons pk27 (memo_ok hfol hnam (primB_ok bC_ok pk27) ok55)
def t18 : Tbl := [(⟨⟨0, [], 0⟩, [(.agg c28), (.agg c5), c2, (.agg c57)], []⟩, (.tup [(.agg c6), (.agg [(.sl 18 0 1 1 4), .nils, .nils]), (i 0)]), [some c28, some c5, some c57, some c6, some [(.sl 18 0 1 1 4), .nils, .nils], some [(.bool false), (.bool false), (i 100), (i 0), (i 1), (i 10), (i 1000), (i 0), (i 0), c2, (i 1), (rl [97]), (.lst []), (.lst []), (i 0), (i 0), (.bool false), (i 0), (i 0), (i 0), (i 0), (i 0), (i 0), (.lst []), (i 0), (rl [97]), (.lst [(is [1, 0])]), (i 1), (i 1), (.bool false), (.bool false), (i 0), (i 0), (.lst []), (.lst []), (i 0), (i 0), (.lst []), c70, (.lst []), (.bool false), (i 0), (i (-1)), (i (-1)), (.lst []), (.lst [(is [0, 0, 0, 10])]), (i 0), (i 0), (i 1000), (.lst [c51]), (.sl 18 0 1 1 4), .nils, .nils], some c18, some c3, some c68, some [(i 0)], some c68, some c46, some c68, some [(i 1), (i 1), (.bool false)], some c17, some [c70, (.lst []), (.bool false), (i 0)], some c46, some c46, some c46]),
  (⟨⟨0, [], 0⟩, [(.agg c6), (.agg c5), c2, (.agg c56)], []⟩, (.tup [(.agg c7), (.agg [(.sl 18 0 1 1 4), .nils, .nils]), (i 0)]), [some c6, some c5, some c56, some c7, some [(.sl 18 0 1 1 4), .nils, .nils], some [(.bool false), (.bool false), (i 100), (i 0), (i 1), (i 10), (i 1000), (i 0), (i 0), c2, (i 1), (rl [98]), (.lst []), (.lst []), (i 0), (i 0), (.bool false), (i 0), (i 0), (i 0), (i 0), (i 0), (i 0), (.lst []), (i 0), (rl [97, 98]), (.lst [(is [2, 0])]), (i 2), (i 2), (.bool false), (.bool false), (i 0), (i 0), (.lst []), (.lst []), (i 0), (i 0), (.lst []), c59, (.lst []), (.bool false), (i 0), (i (-1)), (i (-1)), (rl [97]), (.lst [(is [0, 1, 0, 10])]), (i 0), (i 0), (i 1000), (.lst [c40]), (.sl 18 0 1 1 4), .nils, .nils], some c13, some c3, some [(rl [98]), (.lst [(is [1, 0])])], some [(i 1)], some [(rl [98]), (.lst [(is [1, 0])])], some c45, some [(rl [97, 98]), (.lst [(is [2, 0])])], some [(i 2), (i 2), (.bool false)], some c41, some [c59, (.lst []), (.bool false), (i 0)], some c45, some c45, some c45]),
  (⟨⟨0, [], 0⟩, [(.agg c7), (.agg c5), c2, (.agg c39)], []⟩, (.tup [(.agg c31), (.agg [(.sl 27 0 2 2 4), .nils, .nils]), (i 0)]), [some c7, some c5, some c39, some c31, some [(.sl 27 0 2 2 4), .nils, .nils], some c33, some c8, some c3, some [c59, (.lst []), (.bool false), (i 0)], some [(.lst []), c59, (.bool true), (i 0)], some [(.lst []), (.lst [])], some [(i 0), (i 0), (.bool false)], some [(.sl 19 0 2 2 4)], some [c1], some c41, some c42, none, some c17, some c43, some c53, some c42, some c42, some c42, none, some c43, some c43, some c43, some c53]),
  (⟨⟨0, [], 0⟩, [(.agg c25), (.agg c5), c2, (.agg c60)], []⟩, (.tup [(.agg c61), (.agg [(.sl 17 0 1 1 4), .nils, .nils]), (i 0)]), [some c25, some c5, some c60, some c61, some [(.sl 17 0 1 1 4), .nils, .nils], some [(.bool false), (.bool false), (i 100), (i 0), (i 1), (i 10), (i 1000), (i 0), (i 0), c2, (i 2), .nils, .nils, .nils, (i 1), (i 0), (.bool false), (i 0), (i 0), (i 0), (i 0), (i 0), (i 0), .nils, (i 0), (.lst []), (.lst []), (i 0), (i 0), (.bool false), (.bool false), (i 0), (i 0), (.lst []), (.lst []), (i 0), (i 0), (.lst []), (.lst [[(i 2), (i 0), (.lst [c19])]]), (.lst []), (.bool false), (i 0), (i (-1)), (i (-1)), (rl [101, 769]), (.lst [(is [0, 2, 0, 10])]), (i 0), (i 0), (i 1000), (.lst [c32]), (.sl 17 0 1 1 4), .nils, .nils], some c11, some c3, some [(i 0)], some [.nils, .nils], some [(i 0), (i 2), .nils, .nils], some [(.lst []), (.lst [])], some [(i 0), (i 0), (.bool false)], some c19, some [(.lst [[(i 2), (i 0), (.lst [c19])]]), (.lst []), (.bool false), (i 0)], some c64, some c64, some c64])]
theorem r18x0 : ∀ k r, t18[0]? = some (k, r) → KT ps28 k.cfg 18 k.args k.h = some r := by
  intro k r hk
  cases hk
  kernel_rfl
theorem r18x1 : ∀ k r, t18[1]? = some (k, r) → KT ps28 k.cfg 18 k.args k.h = some r := by
  intro k r hk
  cases hk
  kernel_rfl
theorem r18x2 : ∀ k r, t18[2]? = some (k, r) → KT ps28 k.cfg 18 k.args k.h = some r := by
  intro k r hk
  cases hk
  kernel_rfl
theorem r18x3 : ∀ k r, t18[3]? = some (k, r) → KT ps28 k.cfg 18 k.args k.h = some r := by
  intro k r hk
  cases hk
  kernel_rfl
theorem ok18 : RowsOK Tryz.prog md28 (primB bC ps28) 10000 40 18 t18 := (rows_cons (r18x0 _ _ rfl) (rows_cons (r18x1 _ _ rfl) (rows_cons (r18x2 _ _ rfl) (rows_cons (r18x3 _ _ rfl) rows_nil))))
def ps29 : List (FuncId × Tbl) := (18, t18) :: ps28
theorem pk29 : ∀ f t, (f, t) ∈ ps29 → PrimOK Tryz.prog f (memoP t) := memo_cons pk28 (memo_ok hfol hnam (primB_ok bC_ok pk28) ok18)
def t13 : Tbl := [(⟨⟨0, [], 0⟩, [], []⟩, (.bool true), [some c31, some [(.lst [c46]), (.lst []), (.lst [])], some [(.lst [c45]), (.lst []), (.lst [])], some [(.lst [c42, c43]), (.lst []), (.lst [])], some (rs [101, 769]), some c61, some [(.lst [c64]), (.lst []), (.lst [])]])]
theorem r13x0 : ∀ k r, t13[0]? = some (k, r) → KT ps29 k.cfg 13 k.args k.h = some r := by
  intro k r hk
  cases hk
  kernel_rfl
theorem ok13 : RowsOK Tryz.prog md28 (primB bC ps29) 10000 40 13 t13 := (rows_cons (r13x0 _ _ rfl) rows_nil)
def ps30 : List (FuncId × Tbl) := (13, t13) :: ps29
theorem pk30 : ∀ f t, (f, t) ∈ ps30 → PrimOK Tryz.prog f (memoP t) := memo_cons pk29 (memo_ok hfol hnam (primB_ok bC_ok pk29) ok13)
end Aw
end Go.Ab
