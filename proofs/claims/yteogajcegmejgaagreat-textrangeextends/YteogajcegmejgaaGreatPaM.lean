/- Closed calls, by tables: what awake comes to. Printed by wip/tools/Memo.lean. -/
import Derived.Test.YteogajcegmejgaaGreatAbMemo
namespace Go.Ab
open Go.Proofs
namespace Bi
theorem hfol : Tryz.prog.follows .mixedOrders = true := by kernel_rfl
theorem hnam : Named Tryz.prog := by
  have h : (Tryz.prog.funcs.toList.all fun fn => !(fn.name == "runtime.NumGoroutine")) = true := by kernel_rfl
  intro g fn hg
  have := List.all_eq_true.1 h fn (List.mem_of_getElem? (by simpa using hg))
  simpa using this
abbrev i (n : Int) : V := .int .i64 n
abbrev r (n : Int) : V := .int .i32 n
abbrev is (l : List Int) : List V := l.map i
abbrev rs (l : List Int) : List V := l.map r
abbrev c1 : List V := [(.sl 1 0 7 7 1), (.sl 2 0 1 1 4), (i 0), (i 0), (i 1000)]
abbrev c2 : List V := [(i 0), (i 7), (i 0), (il [0, 0, 0, 0, 0, 0, 0])]
abbrev c3 : List V := [(i 0), (i (-1)), (.bool false)]
abbrev c4 : List V := (rs [111, 110, 101, 32, 116, 119, 111])
abbrev c5 : List V := [.nils, .nils, (i 0), (i 0), (i 0)]
abbrev c6 : List V := [(i 16), (i 12), (i 4), (i 0), (i 16), (.lst []), (.lst []), (.lst [])]
abbrev c7 : V := (rl [111, 110, 101, 32, 116, 119, 111])
abbrev c8 : List V := (is [111, 0, 0, 1, 0, 10, 0, 10, 110, 0, 1, 2, 10, 10, 0, 10, 101, 0, 2, 3, 20, 10, 0, 10, 32, 0, 3, 4, 30, 10, 0, 10, 116, 0, 4, 5, 40, 10, 0, 10, 119, 0, 5, 6, 50, 10, 0, 10, 111, 0, 6, 7, 60, 10, 0, 10])
abbrev c11 : List V := [(i 0), (i 7), (i 0), (i 0), (i 0), (i 0), (i 0), (i 0), (i 0), .nils]
abbrev c12 : V := (il [3, 3, 3, 2, 3, 3, 3])
abbrev c13 : List V := [(r 0), (r 0), (i 0), (i 0)]
abbrev c14 : List V := (is [0, 0, 0, 0, 0, 0, 0])
abbrev c10 : Heap := [some c14, some (is [0, 0, 0, 12, 0, 0, 0]), some c3, some c3, some c3, some c3, some c3, some c3, some c3, some c3]
abbrev c15 : Heap := [some c5, some c4, some (is [0, 7, 0, 10]), some c1, some c1, some c2, some c1, some c2]
abbrev c16 : V := (il [0, 1, 2, 3, 4, 5, 6, 7])
abbrev c17 : List V := (is [0, 1, 2, 3, 4, 5, 6, 7])
abbrev c18 : List V := (is [111, 0, 0, 1, 0, 10, 0, 10, 110, 0, 1, 2, 10, 10, 0, 10, 101, 0, 2, 3, 20, 10, 0, 10, 32, 0, 3, 4, 30, 10, 0, 10])
abbrev c19 : List V := (is [111, 0, 0, 1, 0, 10, 0, 10])
abbrev c9 : V := (.lst [[(i 0), (i 7), (i 0), (i 0), (i 0), (i 70), (i 8), (i 3), (i 11), (.lst [c19, (is [110, 0, 1, 2, 10, 10, 0, 10]), (is [101, 0, 2, 3, 20, 10, 0, 10]), (is [32, 0, 3, 4, 30, 10, 0, 10]), (is [116, 0, 4, 5, 40, 10, 0, 10]), (is [119, 0, 5, 6, 50, 10, 0, 10]), (is [111, 0, 6, 7, 60, 10, 0, 10])])]])
abbrev c20 : List V := (is [110, 0, 1, 2, 0, 10, 0, 10])
abbrev c21 : List V := (is [101, 0, 2, 3, 0, 10, 0, 10])
abbrev c22 : V := (.lst [(is [0, 7, 0, 10])])
abbrev c23 : List V := (is [32, 0, 3, 4, 0, 10, 0, 10])
def t132 : Tbl := [(⟨⟨0, none, 0⟩, [(r 111)], []⟩, (.agg (is [0, 3, 0, 0, 0])), [some (is [0, 3, 0, 0, 0])]),
  (⟨⟨0, none, 0⟩, [(r 110)], []⟩, (.agg (is [0, 3, 0, 0, 0])), [some (is [0, 3, 0, 0, 0])]),
  (⟨⟨0, none, 0⟩, [(r 101)], []⟩, (.agg (is [0, 3, 0, 0, 0])), [some (is [0, 3, 0, 0, 0])]),
  (⟨⟨0, none, 0⟩, [(r 32)], []⟩, (.agg (is [0, 2, 4, 12, 0])), [some (is [0, 2, 4, 12, 0])]),
  (⟨⟨0, none, 0⟩, [(r 116)], []⟩, (.agg (is [0, 3, 0, 0, 0])), [some (is [0, 3, 0, 0, 0])]),
  (⟨⟨0, none, 0⟩, [(r 119)], []⟩, (.agg (is [0, 3, 0, 0, 0])), [some (is [0, 3, 0, 0, 0])])]
theorem r132x0 : ∀ k r, t132[0]? = some (k, r) → K (primOf []) 40 k.cfg 132 k.args k.h = some r := by
  intro k r hk
  cases hk
  kernel_rfl
theorem r132x1 : ∀ k r, t132[1]? = some (k, r) → K (primOf []) 40 k.cfg 132 k.args k.h = some r := by
  intro k r hk
  cases hk
  kernel_rfl
theorem r132x2 : ∀ k r, t132[2]? = some (k, r) → K (primOf []) 40 k.cfg 132 k.args k.h = some r := by
  intro k r hk
  cases hk
  kernel_rfl
theorem r132x3 : ∀ k r, t132[3]? = some (k, r) → K (primOf []) 40 k.cfg 132 k.args k.h = some r := by
  intro k r hk
  cases hk
  kernel_rfl
theorem r132x4 : ∀ k r, t132[4]? = some (k, r) → K (primOf []) 40 k.cfg 132 k.args k.h = some r := by
  intro k r hk
  cases hk
  kernel_rfl
theorem r132x5 : ∀ k r, t132[5]? = some (k, r) → K (primOf []) 40 k.cfg 132 k.args k.h = some r := by
  intro k r hk
  cases hk
  kernel_rfl
theorem ok132 : RowsOK Tryz.prog md (primOf []) 10000 40 132 t132 := (rows_cons (r132x0 _ _ rfl) (rows_cons (r132x1 _ _ rfl) (rows_cons (r132x2 _ _ rfl) (rows_cons (r132x3 _ _ rfl) (rows_cons (r132x4 _ _ rfl) (rows_cons (r132x5 _ _ rfl) rows_nil))))))
def ps1 : List (FuncId × Tbl) := (132, t132) :: []
theorem pk1 : ∀ f t, (f, t) ∈ ps1 → PrimOK Tryz.prog f (memoP t) := memo_cons (by simp) (memo_ok hfol hnam (primOf_ok _ (by simp)) ok132)
def t63 : Tbl := [(⟨⟨0, none, 0⟩, [(il [0, 0, 0, 0])], []⟩, (.sl 0 0 4 4 1), [some (is [0, 1, 2, 3])]),
  (⟨⟨0, none, 0⟩, [(il [0, 0, 0, 0, 0, 0, 0])], []⟩, (.sl 0 0 7 7 1), [some (is [0, 1, 2, 3, 4, 5, 6])])]
theorem r63x0 : ∀ k r, t63[0]? = some (k, r) → K (primOf ps1) 40 k.cfg 63 k.args k.h = some r := by
  intro k r hk
  cases hk
  exact order0_ok (prim := primOf ps1) 39 rfl 4 (by omega)
theorem r63x1 : ∀ k r, t63[1]? = some (k, r) → K (primOf ps1) 40 k.cfg 63 k.args k.h = some r := by
  intro k r hk
  cases hk
  exact order0_ok (prim := primOf ps1) 39 rfl 7 (by omega)
theorem ok63 : RowsOK Tryz.prog md (primOf ps1) 10000 40 63 t63 := (rows_cons (r63x0 _ _ rfl) (rows_cons (r63x1 _ _ rfl) rows_nil))
def ps2 : List (FuncId × Tbl) := (63, t63) :: ps1
theorem pk2 : ∀ f t, (f, t) ∈ ps2 → PrimOK Tryz.prog f (memoP t) := memo_cons pk1 (memo_ok hfol hnam (primOf_ok _ pk1) ok63)
def t54 : Tbl := [(⟨⟨0, none, 0⟩, [(.agg c6)], []⟩, (i 0), [some c6])]
theorem r54x0 : ∀ k r, t54[0]? = some (k, r) → K (primOf ps2) 40 k.cfg 54 k.args k.h = some r := by
  intro k r hk
  cases hk
  kernel_rfl
theorem ok54 : RowsOK Tryz.prog md (primOf ps2) 10000 40 54 t54 := (rows_cons (r54x0 _ _ rfl) rows_nil)
def ps3 : List (FuncId × Tbl) := (54, t54) :: ps2
theorem pk3 : ∀ f t, (f, t) ∈ ps3 → PrimOK Tryz.prog f (memoP t) := memo_cons pk2 (memo_ok hfol hnam (primOf_ok _ pk2) ok54)
def t99 : Tbl := [(⟨⟨0, none, 0⟩, [(r 111)], []⟩, (i 0), []),
  (⟨⟨0, none, 0⟩, [(r 110)], []⟩, (i 0), []),
  (⟨⟨0, none, 0⟩, [(r 101)], []⟩, (i 0), []),
  (⟨⟨0, none, 0⟩, [(r 32)], []⟩, (i 12), []),
  (⟨⟨0, none, 0⟩, [(r 116)], []⟩, (i 0), []),
  (⟨⟨0, none, 0⟩, [(r 119)], []⟩, (i 0), [])]
theorem r99x0 : ∀ k r, t99[0]? = some (k, r) → K (primOf ps3) 40 k.cfg 99 k.args k.h = some r := by
  intro k r hk
  cases hk
  kernel_rfl
theorem r99x1 : ∀ k r, t99[1]? = some (k, r) → K (primOf ps3) 40 k.cfg 99 k.args k.h = some r := by
  intro k r hk
  cases hk
  kernel_rfl
theorem r99x2 : ∀ k r, t99[2]? = some (k, r) → K (primOf ps3) 40 k.cfg 99 k.args k.h = some r := by
  intro k r hk
  cases hk
  kernel_rfl
theorem r99x3 : ∀ k r, t99[3]? = some (k, r) → K (primOf ps3) 40 k.cfg 99 k.args k.h = some r := by
  intro k r hk
  cases hk
  kernel_rfl
theorem r99x4 : ∀ k r, t99[4]? = some (k, r) → K (primOf ps3) 40 k.cfg 99 k.args k.h = some r := by
  intro k r hk
  cases hk
  kernel_rfl
theorem r99x5 : ∀ k r, t99[5]? = some (k, r) → K (primOf ps3) 40 k.cfg 99 k.args k.h = some r := by
  intro k r hk
  cases hk
  kernel_rfl
theorem ok99 : RowsOK Tryz.prog md (primOf ps3) 10000 40 99 t99 := (rows_cons (r99x0 _ _ rfl) (rows_cons (r99x1 _ _ rfl) (rows_cons (r99x2 _ _ rfl) (rows_cons (r99x3 _ _ rfl) (rows_cons (r99x4 _ _ rfl) (rows_cons (r99x5 _ _ rfl) rows_nil))))))
def ps4 : List (FuncId × Tbl) := (99, t99) :: ps3
theorem pk4 : ∀ f t, (f, t) ∈ ps4 → PrimOK Tryz.prog f (memoP t) := memo_cons pk3 (memo_ok hfol hnam (primOf_ok _ pk3) ok99)
def t110 : Tbl := [(⟨⟨0, none, 0⟩, [(r 111)], []⟩, (i 0), []),
  (⟨⟨0, none, 0⟩, [(r 110)], []⟩, (i 0), []),
  (⟨⟨0, none, 0⟩, [(r 101)], []⟩, (i 0), []),
  (⟨⟨0, none, 0⟩, [(r 32)], []⟩, (i 4), []),
  (⟨⟨0, none, 0⟩, [(r 116)], []⟩, (i 0), []),
  (⟨⟨0, none, 0⟩, [(r 119)], []⟩, (i 0), [])]
theorem r110x0 : ∀ k r, t110[0]? = some (k, r) → K (primOf ps4) 40 k.cfg 110 k.args k.h = some r := by
  intro k r hk
  cases hk
  kernel_rfl
theorem r110x1 : ∀ k r, t110[1]? = some (k, r) → K (primOf ps4) 40 k.cfg 110 k.args k.h = some r := by
  intro k r hk
  cases hk
  kernel_rfl
theorem r110x2 : ∀ k r, t110[2]? = some (k, r) → K (primOf ps4) 40 k.cfg 110 k.args k.h = some r := by
  intro k r hk
  cases hk
  kernel_rfl
theorem r110x3 : ∀ k r, t110[3]? = some (k, r) → K (primOf ps4) 40 k.cfg 110 k.args k.h = some r := by
  intro k r hk
  cases hk
  kernel_rfl
theorem r110x4 : ∀ k r, t110[4]? = some (k, r) → K (primOf ps4) 40 k.cfg 110 k.args k.h = some r := by
  intro k r hk
  cases hk
  kernel_rfl
theorem r110x5 : ∀ k r, t110[5]? = some (k, r) → K (primOf ps4) 40 k.cfg 110 k.args k.h = some r := by
  intro k r hk
  cases hk
  kernel_rfl
theorem ok110 : RowsOK Tryz.prog md (primOf ps4) 10000 40 110 t110 := (rows_cons (r110x0 _ _ rfl) (rows_cons (r110x1 _ _ rfl) (rows_cons (r110x2 _ _ rfl) (rows_cons (r110x3 _ _ rfl) (rows_cons (r110x4 _ _ rfl) (rows_cons (r110x5 _ _ rfl) rows_nil))))))
def ps5 : List (FuncId × Tbl) := (110, t110) :: ps4
theorem pk5 : ∀ f t, (f, t) ∈ ps5 → PrimOK Tryz.prog f (memoP t) := memo_cons pk4 (memo_ok hfol hnam (primOf_ok _ pk4) ok110)
def t139 : Tbl := [(⟨⟨0, none, 0⟩, [(r 111)], []⟩, (i 0), []),
  (⟨⟨0, none, 0⟩, [(r 110)], []⟩, (i 0), []),
  (⟨⟨0, none, 0⟩, [(r 101)], []⟩, (i 0), []),
  (⟨⟨0, none, 0⟩, [(r 32)], []⟩, (i 0), []),
  (⟨⟨0, none, 0⟩, [(r 116)], []⟩, (i 0), []),
  (⟨⟨0, none, 0⟩, [(r 119)], []⟩, (i 0), [])]
theorem r139x0 : ∀ k r, t139[0]? = some (k, r) → K (primOf ps5) 40 k.cfg 139 k.args k.h = some r := by
  intro k r hk
  cases hk
  kernel_rfl
theorem r139x1 : ∀ k r, t139[1]? = some (k, r) → K (primOf ps5) 40 k.cfg 139 k.args k.h = some r := by
  intro k r hk
  cases hk
  kernel_rfl
theorem r139x2 : ∀ k r, t139[2]? = some (k, r) → K (primOf ps5) 40 k.cfg 139 k.args k.h = some r := by
  intro k r hk
  cases hk
  kernel_rfl
theorem r139x3 : ∀ k r, t139[3]? = some (k, r) → K (primOf ps5) 40 k.cfg 139 k.args k.h = some r := by
  intro k r hk
  cases hk
  kernel_rfl
theorem r139x4 : ∀ k r, t139[4]? = some (k, r) → K (primOf ps5) 40 k.cfg 139 k.args k.h = some r := by
  intro k r hk
  cases hk
  kernel_rfl
theorem r139x5 : ∀ k r, t139[5]? = some (k, r) → K (primOf ps5) 40 k.cfg 139 k.args k.h = some r := by
  intro k r hk
  cases hk
  kernel_rfl
theorem ok139 : RowsOK Tryz.prog md (primOf ps5) 10000 40 139 t139 := (rows_cons (r139x0 _ _ rfl) (rows_cons (r139x1 _ _ rfl) (rows_cons (r139x2 _ _ rfl) (rows_cons (r139x3 _ _ rfl) (rows_cons (r139x4 _ _ rfl) (rows_cons (r139x5 _ _ rfl) rows_nil))))))
def ps6 : List (FuncId × Tbl) := (139, t139) :: ps5
theorem pk6 : ∀ f t, (f, t) ∈ ps6 → PrimOK Tryz.prog f (memoP t) := memo_cons pk5 (memo_ok hfol hnam (primOf_ok _ pk5) ok139)
def t140 : Tbl := [(⟨⟨0, none, 0⟩, [(r 111)], []⟩, (i 0), []),
  (⟨⟨0, none, 0⟩, [(r 110)], []⟩, (i 0), []),
  (⟨⟨0, none, 0⟩, [(r 101)], []⟩, (i 0), []),
  (⟨⟨0, none, 0⟩, [(r 32)], []⟩, (i 0), []),
  (⟨⟨0, none, 0⟩, [(r 116)], []⟩, (i 0), []),
  (⟨⟨0, none, 0⟩, [(r 119)], []⟩, (i 0), [])]
theorem r140x0 : ∀ k r, t140[0]? = some (k, r) → K (primOf ps6) 40 k.cfg 140 k.args k.h = some r := by
  intro k r hk
  cases hk
  kernel_rfl
theorem r140x1 : ∀ k r, t140[1]? = some (k, r) → K (primOf ps6) 40 k.cfg 140 k.args k.h = some r := by
  intro k r hk
  cases hk
  kernel_rfl
theorem r140x2 : ∀ k r, t140[2]? = some (k, r) → K (primOf ps6) 40 k.cfg 140 k.args k.h = some r := by
  intro k r hk
  cases hk
  kernel_rfl
theorem r140x3 : ∀ k r, t140[3]? = some (k, r) → K (primOf ps6) 40 k.cfg 140 k.args k.h = some r := by
  intro k r hk
  cases hk
  kernel_rfl
theorem r140x4 : ∀ k r, t140[4]? = some (k, r) → K (primOf ps6) 40 k.cfg 140 k.args k.h = some r := by
  intro k r hk
  cases hk
  kernel_rfl
theorem r140x5 : ∀ k r, t140[5]? = some (k, r) → K (primOf ps6) 40 k.cfg 140 k.args k.h = some r := by
  intro k r hk
  cases hk
  kernel_rfl
theorem ok140 : RowsOK Tryz.prog md (primOf ps6) 10000 40 140 t140 := (rows_cons (r140x0 _ _ rfl) (rows_cons (r140x1 _ _ rfl) (rows_cons (r140x2 _ _ rfl) (rows_cons (r140x3 _ _ rfl) (rows_cons (r140x4 _ _ rfl) (rows_cons (r140x5 _ _ rfl) rows_nil))))))
def ps7 : List (FuncId × Tbl) := (140, t140) :: ps6
theorem pk7 : ∀ f t, (f, t) ∈ ps7 → PrimOK Tryz.prog f (memoP t) := memo_cons pk6 (memo_ok hfol hnam (primOf_ok _ pk6) ok140)
def t143 : Tbl := [(⟨⟨0, none, 0⟩, [(r 111)], []⟩, (.tup [(i 0), (r 0)]), []),
  (⟨⟨0, none, 0⟩, [(r 110)], []⟩, (.tup [(i 0), (r 0)]), []),
  (⟨⟨0, none, 0⟩, [(r 101)], []⟩, (.tup [(i 0), (r 0)]), []),
  (⟨⟨0, none, 0⟩, [(r 32)], []⟩, (.tup [(i 0), (r 0)]), []),
  (⟨⟨0, none, 0⟩, [(r 116)], []⟩, (.tup [(i 0), (r 0)]), []),
  (⟨⟨0, none, 0⟩, [(r 119)], []⟩, (.tup [(i 0), (r 0)]), [])]
theorem r143x0 : ∀ k r, t143[0]? = some (k, r) → K (primOf ps7) 40 k.cfg 143 k.args k.h = some r := by
  intro k r hk
  cases hk
  kernel_rfl
theorem r143x1 : ∀ k r, t143[1]? = some (k, r) → K (primOf ps7) 40 k.cfg 143 k.args k.h = some r := by
  intro k r hk
  cases hk
  kernel_rfl
theorem r143x2 : ∀ k r, t143[2]? = some (k, r) → K (primOf ps7) 40 k.cfg 143 k.args k.h = some r := by
  intro k r hk
  cases hk
  kernel_rfl
theorem r143x3 : ∀ k r, t143[3]? = some (k, r) → K (primOf ps7) 40 k.cfg 143 k.args k.h = some r := by
  intro k r hk
  cases hk
  kernel_rfl
theorem r143x4 : ∀ k r, t143[4]? = some (k, r) → K (primOf ps7) 40 k.cfg 143 k.args k.h = some r := by
  intro k r hk
  cases hk
  kernel_rfl
theorem r143x5 : ∀ k r, t143[5]? = some (k, r) → K (primOf ps7) 40 k.cfg 143 k.args k.h = some r := by
  intro k r hk
  cases hk
  kernel_rfl
theorem ok143 : RowsOK Tryz.prog md (primOf ps7) 10000 40 143 t143 := (rows_cons (r143x0 _ _ rfl) (rows_cons (r143x1 _ _ rfl) (rows_cons (r143x2 _ _ rfl) (rows_cons (r143x3 _ _ rfl) (rows_cons (r143x4 _ _ rfl) (rows_cons (r143x5 _ _ rfl) rows_nil))))))
def ps8 : List (FuncId × Tbl) := (143, t143) :: ps7
theorem pk8 : ∀ f t, (f, t) ∈ ps8 → PrimOK Tryz.prog f (memoP t) := memo_cons pk7 (memo_ok hfol hnam (primOf_ok _ pk7) ok143)
def t12 : Tbl := [(⟨⟨0, none, 0⟩, [c16, (i 1)], []⟩, (.bool true), []),
  (⟨⟨0, none, 0⟩, [c16, (i 2)], []⟩, (.bool true), []),
  (⟨⟨0, none, 0⟩, [c16, (i 4)], []⟩, (.bool true), []),
  (⟨⟨0, none, 0⟩, [c16, (i 5)], []⟩, (.bool true), []),
  (⟨⟨0, none, 0⟩, [c16, (i 6)], []⟩, (.bool true), []),
  (⟨⟨0, none, 0⟩, [c16, (i 3)], []⟩, (.bool true), []),
  (⟨⟨0, none, 0⟩, [c16, (i 0)], []⟩, (.bool true), []),
  (⟨⟨0, none, 0⟩, [c16, (i 7)], []⟩, (.bool true), [])]
theorem r12x0 : ∀ k r, t12[0]? = some (k, r) → K (primOf ps8) 40 k.cfg 12 k.args k.h = some r := by
  intro k r hk
  cases hk
  kernel_rfl
theorem r12x1 : ∀ k r, t12[1]? = some (k, r) → K (primOf ps8) 40 k.cfg 12 k.args k.h = some r := by
  intro k r hk
  cases hk
  kernel_rfl
theorem r12x2 : ∀ k r, t12[2]? = some (k, r) → K (primOf ps8) 40 k.cfg 12 k.args k.h = some r := by
  intro k r hk
  cases hk
  kernel_rfl
theorem r12x3 : ∀ k r, t12[3]? = some (k, r) → K (primOf ps8) 40 k.cfg 12 k.args k.h = some r := by
  intro k r hk
  cases hk
  kernel_rfl
theorem r12x4 : ∀ k r, t12[4]? = some (k, r) → K (primOf ps8) 40 k.cfg 12 k.args k.h = some r := by
  intro k r hk
  cases hk
  kernel_rfl
theorem r12x5 : ∀ k r, t12[5]? = some (k, r) → K (primOf ps8) 40 k.cfg 12 k.args k.h = some r := by
  intro k r hk
  cases hk
  kernel_rfl
theorem r12x6 : ∀ k r, t12[6]? = some (k, r) → K (primOf ps8) 40 k.cfg 12 k.args k.h = some r := by
  intro k r hk
  cases hk
  kernel_rfl
theorem r12x7 : ∀ k r, t12[7]? = some (k, r) → K (primOf ps8) 40 k.cfg 12 k.args k.h = some r := by
  intro k r hk
  cases hk
  kernel_rfl
theorem ok12 : RowsOK Tryz.prog md (primOf ps8) 10000 40 12 t12 := (rows_cons (r12x0 _ _ rfl) (rows_cons (r12x1 _ _ rfl) (rows_cons (r12x2 _ _ rfl) (rows_cons (r12x3 _ _ rfl) (rows_cons (r12x4 _ _ rfl) (rows_cons (r12x5 _ _ rfl) (rows_cons (r12x6 _ _ rfl) (rows_cons (r12x7 _ _ rfl) rows_nil))))))))
def ps9 : List (FuncId × Tbl) := (12, t12) :: ps8
theorem pk9 : ∀ f t, (f, t) ∈ ps9 → PrimOK Tryz.prog f (memoP t) := memo_cons pk8 (memo_ok hfol hnam (primOf_ok _ pk8) ok12)
def t60 : Tbl := [(⟨⟨6, none, 6⟩, [(.sl 1 0 7 7 1)], [some c5, some c4, some (is [0, 7, 0, 10]), some c1, some c1, some c1]⟩, (.sl 20 0 8 8 1), [some c5, some c4, some (is [0, 7, 0, 10]), some c1, some c1, some c1, none, some [(i 1)], none, some [(i 2)], none, some [(i 3)], none, some [(i 4)], none, some [(i 5)], none, some [(i 6)], none, some [(i 7)], some c17]),
  (⟨⟨8, none, 8⟩, [(.sl 1 0 7 7 1)], c15⟩, (.sl 22 0 8 8 1), [some c5, some c4, some (is [0, 7, 0, 10]), some c1, some c1, some c2, some c1, some c2, none, some [(i 1)], none, some [(i 2)], none, some [(i 3)], none, some [(i 4)], none, some [(i 5)], none, some [(i 6)], none, some [(i 7)], some c17]),
  (⟨⟨15, none, 15⟩, [(.sl 1 0 7 7 1)], [some c5, some c4, some (is [0, 7, 0, 10]), some c1, some c1, some c2, some c1, some c2, some c1, some c2, some c1, some c2, some c1, some c2, some (is [0, 0, 0, 0])]⟩, (.sl 29 0 8 8 1), [some c5, some c4, some (is [0, 7, 0, 10]), some c1, some c1, some c2, some c1, some c2, some c1, some c2, some c1, some c2, some c1, some c2, some (is [0, 0, 0, 0]), none, some [(i 1)], none, some [(i 2)], none, some [(i 3)], none, some [(i 4)], none, some [(i 5)], none, some [(i 6)], none, some [(i 7)], some c17]),
  (⟨⟨14, none, 14⟩, [(.sl 1 0 7 7 1)], [some c5, some c4, some (is [0, 7, 0, 10]), some c1, some c1, some c2, some c1, some c2, some c1, some c2, some c1, some c2, some (is [0, 7, 0, 10]), some c6]⟩, (.sl 28 0 8 8 1), [some c5, some c4, some (is [0, 7, 0, 10]), some c1, some c1, some c2, some c1, some c2, some c1, some c2, some c1, some c2, some (is [0, 7, 0, 10]), some c6, none, some [(i 1)], none, some [(i 2)], none, some [(i 3)], none, some [(i 4)], none, some [(i 5)], none, some [(i 6)], none, some [(i 7)], some c17]),
  (⟨⟨15, none, 15⟩, [(.sl 1 0 7 7 1)], [some c5, some c4, some (is [0, 7, 0, 10]), some c1, some c1, some c2, some c1, some c2, some c1, some c2, some c1, some c2, some c1, some c2, some c14]⟩, (.sl 29 0 8 8 1), [some c5, some c4, some (is [0, 7, 0, 10]), some c1, some c1, some c2, some c1, some c2, some c1, some c2, some c1, some c2, some c1, some c2, some c14, none, some [(i 1)], none, some [(i 2)], none, some [(i 3)], none, some [(i 4)], none, some [(i 5)], none, some [(i 6)], none, some [(i 7)], some c17]),
  (⟨⟨12, none, 12⟩, [(.sl 1 0 7 7 1)], [some c5, some c4, some (is [0, 7, 0, 10]), some c1, some c1, some c2, some c11, some c1, some c2, some c1, some c2, some c14]⟩, (.sl 26 0 8 8 1), [some c5, some c4, some (is [0, 7, 0, 10]), some c1, some c1, some c2, some c11, some c1, some c2, some c1, some c2, some c14, none, some [(i 1)], none, some [(i 2)], none, some [(i 3)], none, some [(i 4)], none, some [(i 5)], none, some [(i 6)], none, some [(i 7)], some c17]),
  (⟨⟨11, none, 11⟩, [(.sl 1 0 7 7 1)], [some c5, some c4, some (is [0, 7, 0, 10]), some c1, some c1, some c2, some c11, some c1, some c2, some (is [0, 7, 0, 10]), some c6]⟩, (.sl 25 0 8 8 1), [some c5, some c4, some (is [0, 7, 0, 10]), some c1, some c1, some c2, some c11, some c1, some c2, some (is [0, 7, 0, 10]), some c6, none, some [(i 1)], none, some [(i 2)], none, some [(i 3)], none, some [(i 4)], none, some [(i 5)], none, some [(i 6)], none, some [(i 7)], some c17])]
theorem r60x0 : ∀ k r, t60[0]? = some (k, r) → K (primOf ps9) 40 k.cfg 60 k.args k.h = some r := by
  intro k r hk
  cases hk
  kernel_rfl
theorem r60x1 : ∀ k r, t60[1]? = some (k, r) → K (primOf ps9) 40 k.cfg 60 k.args k.h = some r := by
  intro k r hk
  cases hk
  kernel_rfl
theorem r60x2 : ∀ k r, t60[2]? = some (k, r) → K (primOf ps9) 40 k.cfg 60 k.args k.h = some r := by
  intro k r hk
  cases hk
  kernel_rfl
theorem r60x3 : ∀ k r, t60[3]? = some (k, r) → K (primOf ps9) 40 k.cfg 60 k.args k.h = some r := by
  intro k r hk
  cases hk
  kernel_rfl
theorem r60x4 : ∀ k r, t60[4]? = some (k, r) → K (primOf ps9) 40 k.cfg 60 k.args k.h = some r := by
  intro k r hk
  cases hk
  kernel_rfl
theorem r60x5 : ∀ k r, t60[5]? = some (k, r) → K (primOf ps9) 40 k.cfg 60 k.args k.h = some r := by
  intro k r hk
  cases hk
  kernel_rfl
theorem r60x6 : ∀ k r, t60[6]? = some (k, r) → K (primOf ps9) 40 k.cfg 60 k.args k.h = some r := by
  intro k r hk
  cases hk
  kernel_rfl
theorem ok60 : RowsOK Tryz.prog md (primOf ps9) 10000 40 60 t60 := (rows_cons (r60x0 _ _ rfl) (rows_cons (r60x1 _ _ rfl) (rows_cons (r60x2 _ _ rfl) (rows_cons (r60x3 _ _ rfl) (rows_cons (r60x4 _ _ rfl) (rows_cons (r60x5 _ _ rfl) (rows_cons (r60x6 _ _ rfl) rows_nil)))))))
def ps10 : List (FuncId × Tbl) := (60, t60) :: ps9
theorem pk10 : ∀ f t, (f, t) ∈ ps10 → PrimOK Tryz.prog f (memoP t) := memo_cons pk9 (memo_ok hfol hnam (primOf_ok _ pk9) ok60)
def t56 : Tbl := [(⟨⟨6, none, 6⟩, [(.sl 1 0 7 7 1)], [some c5, some c4, some (is [0, 7, 0, 10]), some c1, some c1, some c1]⟩, (.sl 6 0 7 7 1), [some c5, some c4, some (is [0, 7, 0, 10]), some c1, some c1, some c1, some (is [0, 0, 0, 1, 0, 0, 2])]),
  (⟨⟨8, none, 8⟩, [(.sl 1 0 7 7 1)], c15⟩, (.sl 8 0 7 7 1), [some c5, some c4, some (is [0, 7, 0, 10]), some c1, some c1, some c2, some c1, some c2, some (is [0, 0, 0, 1, 0, 0, 2])])]
theorem r56x0 : ∀ k r, t56[0]? = some (k, r) → K (primOf ps10) 40 k.cfg 56 k.args k.h = some r := by
  intro k r hk
  cases hk
  kernel_rfl
theorem r56x1 : ∀ k r, t56[1]? = some (k, r) → K (primOf ps10) 40 k.cfg 56 k.args k.h = some r := by
  intro k r hk
  cases hk
  kernel_rfl
theorem ok56 : RowsOK Tryz.prog md (primOf ps10) 10000 40 56 t56 := (rows_cons (r56x0 _ _ rfl) (rows_cons (r56x1 _ _ rfl) rows_nil))
def ps11 : List (FuncId × Tbl) := (56, t56) :: ps10
theorem pk11 : ∀ f t, (f, t) ∈ ps11 → PrimOK Tryz.prog f (memoP t) := memo_cons pk10 (memo_ok hfol hnam (primOf_ok _ pk10) ok56)
def t65 : Tbl := [(⟨⟨13, none, 13⟩, [(.agg c6), (i 0), (i 10), (.sl 1 0 7 7 1), (i 0), (i 4), (.bool false)], [some c5, some c4, some (is [0, 7, 0, 10]), some c1, some c1, some c2, some c1, some c2, some c1, some c2, some c1, some c2, some (is [0, 7, 0, 10])]⟩, (.sl 28 0 4 4 8), [some c5, some c4, some (is [0, 7, 0, 10]), some c1, some c1, some c2, some c1, some c2, some c1, some c2, some c1, some c2, some (is [0, 7, 0, 10]), some c6, some c19, some c19, none, some c13, some c20, some c20, none, some c13, some c21, some c21, none, some c13, some c23, some c23, some c18]),
  (⟨⟨13, none, 13⟩, [(.agg c6), (i 0), (i 10), (.sl 1 0 7 7 1), (i 0), (i 7), (.bool false)], [some c5, some c4, some (is [0, 7, 0, 10]), some c1, some c1, some c2, some c1, some c2, some c1, some c2, some c1, some c2, some (is [0, 7, 0, 10])]⟩, (.sl 40 0 7 7 8), [some c5, some c4, some (is [0, 7, 0, 10]), some c1, some c1, some c2, some c1, some c2, some c1, some c2, some c1, some c2, some (is [0, 7, 0, 10]), some c6, some c19, some c19, none, some c13, some c20, some c20, none, some c13, some c21, some c21, none, some c13, some c23, some c23, none, some c13, some (is [116, 0, 4, 5, 0, 10, 0, 10]), some (is [116, 0, 4, 5, 0, 10, 0, 10]), none, some c13, some (is [119, 0, 5, 6, 0, 10, 0, 10]), some (is [119, 0, 5, 6, 0, 10, 0, 10]), none, some c13, some (is [111, 0, 6, 7, 0, 10, 0, 10]), some (is [111, 0, 6, 7, 0, 10, 0, 10]), some c8]),
  (⟨⟨10, none, 10⟩, [(.agg c6), (i 0), (i 10), (.sl 1 0 7 7 1), (i 0), (i 7), (.bool false)], [some c5, some c4, some (is [0, 7, 0, 10]), some c1, some c1, some c2, some c11, some c1, some c2, some (is [0, 7, 0, 10])]⟩, (.sl 37 0 7 7 8), [some c5, some c4, some (is [0, 7, 0, 10]), some c1, some c1, some c2, some c11, some c1, some c2, some (is [0, 7, 0, 10]), some c6, some c19, some c19, none, some c13, some c20, some c20, none, some c13, some c21, some c21, none, some c13, some c23, some c23, none, some c13, some (is [116, 0, 4, 5, 0, 10, 0, 10]), some (is [116, 0, 4, 5, 0, 10, 0, 10]), none, some c13, some (is [119, 0, 5, 6, 0, 10, 0, 10]), some (is [119, 0, 5, 6, 0, 10, 0, 10]), none, some c13, some (is [111, 0, 6, 7, 0, 10, 0, 10]), some (is [111, 0, 6, 7, 0, 10, 0, 10]), some c8])]
theorem r65x0 : ∀ k r, t65[0]? = some (k, r) → K (primOf ps11) 40 k.cfg 65 k.args k.h = some r := by
  intro k r hk
  cases hk
  kernel_rfl
theorem r65x1 : ∀ k r, t65[1]? = some (k, r) → K (primOf ps11) 40 k.cfg 65 k.args k.h = some r := by
  intro k r hk
  cases hk
  kernel_rfl
theorem r65x2 : ∀ k r, t65[2]? = some (k, r) → K (primOf ps11) 40 k.cfg 65 k.args k.h = some r := by
  intro k r hk
  cases hk
  kernel_rfl
theorem ok65 : RowsOK Tryz.prog md (primOf ps11) 10000 40 65 t65 := (rows_cons (r65x0 _ _ rfl) (rows_cons (r65x1 _ _ rfl) (rows_cons (r65x2 _ _ rfl) rows_nil)))
def ps12 : List (FuncId × Tbl) := (65, t65) :: ps11
theorem pk12 : ∀ f t, (f, t) ∈ ps12 → PrimOK Tryz.prog f (memoP t) := memo_cons pk11 (memo_ok hfol hnam (primOf_ok _ pk11) ok65)
def t62 : Tbl := [(⟨⟨12, none, 12⟩, [(.agg c1), (.agg c2), (i 0), (i 4)], [some c5, some c4, some (is [0, 7, 0, 10]), some c1, some c1, some c2, some c1, some c2, some c1, some c2, some c1, some c2]⟩, (.sl 14 0 4 4 1), [some c5, some c4, some (is [0, 7, 0, 10]), some c1, some c1, some c2, some c1, some c2, some c1, some c2, some c1, some c2, some c1, some c2, some (is [0, 0, 0, 0])]),
  (⟨⟨12, none, 12⟩, [(.agg c1), (.agg c2), (i 0), (i 7)], [some c5, some c4, some (is [0, 7, 0, 10]), some c1, some c1, some c2, some c1, some c2, some c1, some c2, some c1, some c2]⟩, (.sl 14 0 7 7 1), [some c5, some c4, some (is [0, 7, 0, 10]), some c1, some c1, some c2, some c1, some c2, some c1, some c2, some c1, some c2, some c1, some c2, some c14]),
  (⟨⟨9, none, 9⟩, [(.agg c1), (.agg c2), (i 0), (i 7)], [some c5, some c4, some (is [0, 7, 0, 10]), some c1, some c1, some c2, some c11, some c1, some c2]⟩, (.sl 11 0 7 7 1), [some c5, some c4, some (is [0, 7, 0, 10]), some c1, some c1, some c2, some c11, some c1, some c2, some c1, some c2, some c14])]
theorem r62x0 : ∀ k r, t62[0]? = some (k, r) → K (primOf ps12) 40 k.cfg 62 k.args k.h = some r := by
  intro k r hk
  cases hk
  kernel_rfl
theorem r62x1 : ∀ k r, t62[1]? = some (k, r) → K (primOf ps12) 40 k.cfg 62 k.args k.h = some r := by
  intro k r hk
  cases hk
  kernel_rfl
theorem r62x2 : ∀ k r, t62[2]? = some (k, r) → K (primOf ps12) 40 k.cfg 62 k.args k.h = some r := by
  intro k r hk
  cases hk
  kernel_rfl
theorem ok62 : RowsOK Tryz.prog md (primOf ps12) 10000 40 62 t62 := (rows_cons (r62x0 _ _ rfl) (rows_cons (r62x1 _ _ rfl) (rows_cons (r62x2 _ _ rfl) rows_nil)))
def ps13 : List (FuncId × Tbl) := (62, t62) :: ps12
theorem pk13 : ∀ f t, (f, t) ∈ ps13 → PrimOK Tryz.prog f (memoP t) := memo_cons pk12 (memo_ok hfol hnam (primOf_ok _ pk12) ok62)
def t45 : Tbl := [(⟨⟨0, none, 0⟩, [(.agg [c7, c12, c12]), (i 1)], []⟩, (.bool false), [some [c7, c12, c12]]),
  (⟨⟨0, none, 0⟩, [(.agg [c7, c12, c12]), (i 2)], []⟩, (.bool false), [some [c7, c12, c12]]),
  (⟨⟨0, none, 0⟩, [(.agg [c7, c12, c12]), (i 3)], []⟩, (.bool true), [some [c7, c12, c12]]),
  (⟨⟨0, none, 0⟩, [(.agg [c7, c12, c12]), (i 4)], []⟩, (.bool true), [some [c7, c12, c12]]),
  (⟨⟨0, none, 0⟩, [(.agg [c7, c12, c12]), (i 5)], []⟩, (.bool false), [some [c7, c12, c12]]),
  (⟨⟨0, none, 0⟩, [(.agg [c7, c12, c12]), (i 6)], []⟩, (.bool false), [some [c7, c12, c12]])]
theorem r45x0 : ∀ k r, t45[0]? = some (k, r) → K (primOf ps13) 40 k.cfg 45 k.args k.h = some r := by
  intro k r hk
  cases hk
  kernel_rfl
theorem r45x1 : ∀ k r, t45[1]? = some (k, r) → K (primOf ps13) 40 k.cfg 45 k.args k.h = some r := by
  intro k r hk
  cases hk
  kernel_rfl
theorem r45x2 : ∀ k r, t45[2]? = some (k, r) → K (primOf ps13) 40 k.cfg 45 k.args k.h = some r := by
  intro k r hk
  cases hk
  kernel_rfl
theorem r45x3 : ∀ k r, t45[3]? = some (k, r) → K (primOf ps13) 40 k.cfg 45 k.args k.h = some r := by
  intro k r hk
  cases hk
  kernel_rfl
theorem r45x4 : ∀ k r, t45[4]? = some (k, r) → K (primOf ps13) 40 k.cfg 45 k.args k.h = some r := by
  intro k r hk
  cases hk
  kernel_rfl
theorem r45x5 : ∀ k r, t45[5]? = some (k, r) → K (primOf ps13) 40 k.cfg 45 k.args k.h = some r := by
  intro k r hk
  cases hk
  kernel_rfl
theorem ok45 : RowsOK Tryz.prog md (primOf ps13) 10000 40 45 t45 := (rows_cons (r45x0 _ _ rfl) (rows_cons (r45x1 _ _ rfl) (rows_cons (r45x2 _ _ rfl) (rows_cons (r45x3 _ _ rfl) (rows_cons (r45x4 _ _ rfl) (rows_cons (r45x5 _ _ rfl) rows_nil))))))
def ps14 : List (FuncId × Tbl) := (45, t45) :: ps13
theorem pk14 : ∀ f t, (f, t) ∈ ps14 → PrimOK Tryz.prog f (memoP t) := memo_cons pk13 (memo_ok hfol hnam (primOf_ok _ pk13) ok45)
def t72 : Tbl := [(⟨⟨0, none, 0⟩, [(r 111)], []⟩, (i 3), []),
  (⟨⟨0, none, 0⟩, [(r 110)], []⟩, (i 3), []),
  (⟨⟨0, none, 0⟩, [(r 101)], []⟩, (i 3), []),
  (⟨⟨0, none, 0⟩, [(r 32)], []⟩, (i 2), []),
  (⟨⟨0, none, 0⟩, [(r 116)], []⟩, (i 3), []),
  (⟨⟨0, none, 0⟩, [(r 119)], []⟩, (i 3), [])]
theorem r72x0 : ∀ k r, t72[0]? = some (k, r) → K (primOf ps14) 40 k.cfg 72 k.args k.h = some r := by
  intro k r hk
  cases hk
  kernel_rfl
theorem r72x1 : ∀ k r, t72[1]? = some (k, r) → K (primOf ps14) 40 k.cfg 72 k.args k.h = some r := by
  intro k r hk
  cases hk
  kernel_rfl
theorem r72x2 : ∀ k r, t72[2]? = some (k, r) → K (primOf ps14) 40 k.cfg 72 k.args k.h = some r := by
  intro k r hk
  cases hk
  kernel_rfl
theorem r72x3 : ∀ k r, t72[3]? = some (k, r) → K (primOf ps14) 40 k.cfg 72 k.args k.h = some r := by
  intro k r hk
  cases hk
  kernel_rfl
theorem r72x4 : ∀ k r, t72[4]? = some (k, r) → K (primOf ps14) 40 k.cfg 72 k.args k.h = some r := by
  intro k r hk
  cases hk
  kernel_rfl
theorem r72x5 : ∀ k r, t72[5]? = some (k, r) → K (primOf ps14) 40 k.cfg 72 k.args k.h = some r := by
  intro k r hk
  cases hk
  kernel_rfl
theorem ok72 : RowsOK Tryz.prog md (primOf ps14) 10000 40 72 t72 := (rows_cons (r72x0 _ _ rfl) (rows_cons (r72x1 _ _ rfl) (rows_cons (r72x2 _ _ rfl) (rows_cons (r72x3 _ _ rfl) (rows_cons (r72x4 _ _ rfl) (rows_cons (r72x5 _ _ rfl) rows_nil))))))
def ps15 : List (FuncId × Tbl) := (72, t72) :: ps14
theorem pk15 : ∀ f t, (f, t) ∈ ps15 → PrimOK Tryz.prog f (memoP t) := memo_cons pk14 (memo_ok hfol hnam (primOf_ok _ pk14) ok72)
def t44 : Tbl := [(⟨⟨0, none, 0⟩, [c7], []⟩, (.agg [c7, (.sl 1 0 7 7 1), (.sl 2 0 7 7 1)]), [some [c7, (.sl 1 0 7 7 1), (.sl 2 0 7 7 1)], some (is [3, 3, 3, 2, 3, 3, 3]), some (is [3, 3, 3, 2, 3, 3, 3]), some [c7, (.sl 1 0 7 7 1), (.sl 2 0 7 7 1)]])]
theorem r44x0 : ∀ k r, t44[0]? = some (k, r) → K (primOf ps15) 40 k.cfg 44 k.args k.h = some r := by
  intro k r hk
  cases hk
  kernel_rfl
theorem ok44 : RowsOK Tryz.prog md (primOf ps15) 10000 40 44 t44 := (rows_cons (r44x0 _ _ rfl) rows_nil)
def ps16 : List (FuncId × Tbl) := (44, t44) :: ps15
theorem pk16 : ∀ f t, (f, t) ∈ ps16 → PrimOK Tryz.prog f (memoP t) := memo_cons pk15 (memo_ok hfol hnam (primOf_ok _ pk15) ok44)
def t22 : Tbl := [(⟨⟨0, none, 0⟩, [c7], []⟩, (.sl 7 0 4 4 1), [some [c7, c12, c12], none, some [(i 3)], none, some [(i 4)], none, some [(i 7)], some (is [0, 3, 4, 7])])]
theorem r22x0 : ∀ k r, t22[0]? = some (k, r) → K (primOf ps16) 40 k.cfg 22 k.args k.h = some r := by
  intro k r hk
  cases hk
  kernel_rfl
theorem ok22 : RowsOK Tryz.prog md (primOf ps16) 10000 40 22 t22 := (rows_cons (r22x0 _ _ rfl) rows_nil)
def ps17 : List (FuncId × Tbl) := (22, t22) :: ps16
theorem pk17 : ∀ f t, (f, t) ∈ ps17 → PrimOK Tryz.prog f (memoP t) := memo_cons pk16 (memo_ok hfol hnam (primOf_ok _ pk16) ok22)
def t11 : Tbl := [(⟨⟨0, none, 0⟩, [(.agg [c7, c22, (i 0), (i 0), (i 1000)]), c9, (i 2)], []⟩, (.sl 2 0 4 6 1), [some [c7, c22, (i 0), (i 0), (i 1000)], none, some (is [0, 3, 4, 7, 0, 0])])]
theorem r11x0 : ∀ k r, t11[0]? = some (k, r) → K (primOf ps17) 40 k.cfg 11 k.args k.h = some r := by
  intro k r hk
  cases hk
  kernel_rfl
theorem ok11 : RowsOK Tryz.prog md (primOf ps17) 10000 40 11 t11 := (rows_cons (r11x0 _ _ rfl) rows_nil)
def ps18 : List (FuncId × Tbl) := (11, t11) :: ps17
theorem pk18 : ∀ f t, (f, t) ∈ ps18 → PrimOK Tryz.prog f (memoP t) := memo_cons pk17 (memo_ok hfol hnam (primOf_ok _ pk17) ok11)
def t10 : Tbl := [(⟨⟨0, none, 0⟩, [(.agg [c7, c22, (i 0), (i 0), (i 1000)]), c9, (.agg (is [4, 4])), (i 2)], []⟩, (.agg (is [4, 7])), [some [c7, c22, (i 0), (i 0), (i 1000)], some (is [4, 4]), some (is [4, 7])])]
theorem r10x0 : ∀ k r, t10[0]? = some (k, r) → K (primOf ps18) 40 k.cfg 10 k.args k.h = some r := by
  intro k r hk
  cases hk
  kernel_rfl
theorem ok10 : RowsOK Tryz.prog md (primOf ps18) 10000 40 10 t10 := (rows_cons (r10x0 _ _ rfl) rows_nil)
def ps19 : List (FuncId × Tbl) := (10, t10) :: ps18
theorem pk19 : ∀ f t, (f, t) ∈ ps19 → PrimOK Tryz.prog f (memoP t) := memo_cons pk18 (memo_ok hfol hnam (primOf_ok _ pk18) ok10)
def t14 : Tbl := [(⟨⟨0, none, 0⟩, [(.agg [c7, c22, (i 0), (i 0), (i 1000)]), c9, (.agg (is [0, 3])), (i 2), (i 2)], []⟩, (.tup [(.agg (is [4, 7])), (i 2)]), [some [c7, c22, (i 0), (i 0), (i 1000)], some (is [0, 3]), some (is [4, 7]), some [(i 7)], none, some (is [0, 3, 4, 0])])]
theorem r14x0 : ∀ k r, t14[0]? = some (k, r) → K (primOf ps19) 40 k.cfg 14 k.args k.h = some r := by
  intro k r hk
  cases hk
  kernel_rfl
theorem ok14 : RowsOK Tryz.prog md (primOf ps19) 10000 40 14 t14 := (rows_cons (r14x0 _ _ rfl) rows_nil)
def ps20 : List (FuncId × Tbl) := (14, t14) :: ps19
theorem pk20 : ∀ f t, (f, t) ∈ ps20 → PrimOK Tryz.prog f (memoP t) := memo_cons pk19 (memo_ok hfol hnam (primOf_ok _ pk19) ok14)
def t102 : Tbl := [(⟨⟨0, none, 0⟩, [c7, (i 0)], []⟩, (.tup [(.sl 0 0 7 7 1), (.sl 1 0 7 7 1)]), c10)]
theorem r102x0 : ∀ k r, t102[0]? = some (k, r) → K (primOf ps20) 40 k.cfg 102 k.args k.h = some r := by
  intro k r hk
  cases hk
  kernel_rfl
theorem ok102 : RowsOK Tryz.prog md (primOf ps20) 10000 40 102 t102 := (rows_cons (r102x0 _ _ rfl) rows_nil)
def ps21 : List (FuncId × Tbl) := (102, t102) :: ps20
theorem pk21 : ∀ f t, (f, t) ∈ ps21 → PrimOK Tryz.prog f (memoP t) := memo_cons pk20 (memo_ok hfol hnam (primOf_ok _ pk20) ok102)
def t105 : Tbl := [(⟨⟨0, none, 10⟩, [c7, (.sl 1 0 7 7 1), (il [0, 1, 2, 3, 4, 5, 6]), (i 0)], c10⟩, (.tup []), c10)]
theorem r105x0 : ∀ k r, t105[0]? = some (k, r) → K (primOf ps21) 40 k.cfg 105 k.args k.h = some r := by
  intro k r hk
  cases hk
  kernel_rfl
theorem ok105 : RowsOK Tryz.prog md (primOf ps21) 10000 40 105 t105 := (rows_cons (r105x0 _ _ rfl) rows_nil)
def ps22 : List (FuncId × Tbl) := (105, t105) :: ps21
theorem pk22 : ∀ f t, (f, t) ∈ ps22 → PrimOK Tryz.prog f (memoP t) := memo_cons pk21 (memo_ok hfol hnam (primOf_ok _ pk21) ok105)
def t107 : Tbl := [(⟨⟨0, none, 10⟩, [(.sl 1 0 7 7 1), (il [0, 1, 2, 3, 4, 5, 6]), (i 0), (i 0), (i 0)], c10⟩, (.tup []), [some c14, some c14, some c3, some c3, some c3, some c3, some c3, some c3, some c3, some c3])]
theorem r107x0 : ∀ k r, t107[0]? = some (k, r) → K (primOf ps22) 40 k.cfg 107 k.args k.h = some r := by
  intro k r hk
  cases hk
  kernel_rfl
theorem ok107 : RowsOK Tryz.prog md (primOf ps22) 10000 40 107 t107 := (rows_cons (r107x0 _ _ rfl) rows_nil)
def ps23 : List (FuncId × Tbl) := (107, t107) :: ps22
theorem pk23 : ∀ f t, (f, t) ∈ ps23 → PrimOK Tryz.prog f (memoP t) := memo_cons pk22 (memo_ok hfol hnam (primOf_ok _ pk22) ok107)
def t108 : Tbl := [(⟨⟨0, none, 0⟩, [(r 111)], []⟩, (.bool false), []),
  (⟨⟨0, none, 0⟩, [(r 110)], []⟩, (.bool false), []),
  (⟨⟨0, none, 0⟩, [(r 101)], []⟩, (.bool false), []),
  (⟨⟨0, none, 0⟩, [(r 32)], []⟩, (.bool false), []),
  (⟨⟨0, none, 0⟩, [(r 116)], []⟩, (.bool false), []),
  (⟨⟨0, none, 0⟩, [(r 119)], []⟩, (.bool false), [])]
theorem r108x0 : ∀ k r, t108[0]? = some (k, r) → K (primOf ps23) 40 k.cfg 108 k.args k.h = some r := by
  intro k r hk
  cases hk
  kernel_rfl
theorem r108x1 : ∀ k r, t108[1]? = some (k, r) → K (primOf ps23) 40 k.cfg 108 k.args k.h = some r := by
  intro k r hk
  cases hk
  kernel_rfl
theorem r108x2 : ∀ k r, t108[2]? = some (k, r) → K (primOf ps23) 40 k.cfg 108 k.args k.h = some r := by
  intro k r hk
  cases hk
  kernel_rfl
theorem r108x3 : ∀ k r, t108[3]? = some (k, r) → K (primOf ps23) 40 k.cfg 108 k.args k.h = some r := by
  intro k r hk
  cases hk
  kernel_rfl
theorem r108x4 : ∀ k r, t108[4]? = some (k, r) → K (primOf ps23) 40 k.cfg 108 k.args k.h = some r := by
  intro k r hk
  cases hk
  kernel_rfl
theorem r108x5 : ∀ k r, t108[5]? = some (k, r) → K (primOf ps23) 40 k.cfg 108 k.args k.h = some r := by
  intro k r hk
  cases hk
  kernel_rfl
theorem ok108 : RowsOK Tryz.prog md (primOf ps23) 10000 40 108 t108 := (rows_cons (r108x0 _ _ rfl) (rows_cons (r108x1 _ _ rfl) (rows_cons (r108x2 _ _ rfl) (rows_cons (r108x3 _ _ rfl) (rows_cons (r108x4 _ _ rfl) (rows_cons (r108x5 _ _ rfl) rows_nil))))))
def ps24 : List (FuncId × Tbl) := (108, t108) :: ps23
theorem pk24 : ∀ f t, (f, t) ∈ ps24 → PrimOK Tryz.prog f (memoP t) := memo_cons pk23 (memo_ok hfol hnam (primOf_ok _ pk23) ok108)
def t103 : Tbl := [(⟨⟨0, none, 0⟩, [c7, (il [0, 0, 0, 0, 0, 0, 0])], []⟩, (.sl 18 0 1 1 1), [none, some [(.sl 0 0 1 1 1)], some [(.sl 14 0 7 7 1)], some [(i 1)], none, some [(i 2)], none, some [(i 3)], none, some [(i 4)], none, some [(i 5)], none, some [(i 6)], some (is [0, 1, 2, 3, 4, 5, 6]), some [(.bool true)], some (is [0, 1, 2, 3, 4, 5, 6]), some [(.sl 16 0 7 7 1)], some [(.sl 16 0 7 7 1)]])]
theorem r103x0 : ∀ k r, t103[0]? = some (k, r) → K (primOf ps24) 40 k.cfg 103 k.args k.h = some r := by
  intro k r hk
  cases hk
  kernel_rfl
theorem ok103 : RowsOK Tryz.prog md (primOf ps24) 10000 40 103 t103 := (rows_cons (r103x0 _ _ rfl) rows_nil)
def ps25 : List (FuncId × Tbl) := (103, t103) :: ps24
theorem pk25 : ∀ f t, (f, t) ∈ ps25 → PrimOK Tryz.prog f (memoP t) := memo_cons pk24 (memo_ok hfol hnam (primOf_ok _ pk24) ok103)
def t104 : Tbl := [(⟨⟨0, none, 0⟩, [c7, (il [0, 0, 0, 0, 0, 0, 0]), (i 0), (il [0, 1, 2, 3, 4, 5, 6])], []⟩, (.tup (is [0, 0])), [])]
theorem r104x0 : ∀ k r, t104[0]? = some (k, r) → K (primOf ps25) 40 k.cfg 104 k.args k.h = some r := by
  intro k r hk
  cases hk
  kernel_rfl
theorem ok104 : RowsOK Tryz.prog md (primOf ps25) 10000 40 104 t104 := (rows_cons (r104x0 _ _ rfl) rows_nil)
def ps26 : List (FuncId × Tbl) := (104, t104) :: ps25
theorem pk26 : ∀ f t, (f, t) ∈ ps26 → PrimOK Tryz.prog f (memoP t) := memo_cons pk25 (memo_ok hfol hnam (primOf_ok _ pk25) ok104)
def t135 : Tbl := [(⟨⟨0, none, 0⟩, [c7, (il [0, 0, 0, 12, 0, 0, 0]), (il [0, 1, 2, 3, 4, 5, 6])], []⟩, .nils, [])]
theorem r135x0 : ∀ k r, t135[0]? = some (k, r) → K (primOf ps26) 40 k.cfg 135 k.args k.h = some r := by
  intro k r hk
  cases hk
  kernel_rfl
theorem ok135 : RowsOK Tryz.prog md (primOf ps26) 10000 40 135 t135 := (rows_cons (r135x0 _ _ rfl) rows_nil)
def ps27 : List (FuncId × Tbl) := (135, t135) :: ps26
theorem pk27 : ∀ f t, (f, t) ∈ ps27 → PrimOK Tryz.prog f (memoP t) := memo_cons pk26 (memo_ok hfol hnam (primOf_ok _ pk26) ok135)
def t106 : Tbl := [(⟨⟨0, none, 10⟩, [c7, (.sl 1 0 7 7 1), (il [0, 1, 2, 3, 4, 5, 6]), (i 0), (i 0)], c10⟩, (.tup []), c10)]
theorem r106x0 : ∀ k r, t106[0]? = some (k, r) → K (primOf ps27) 40 k.cfg 106 k.args k.h = some r := by
  intro k r hk
  cases hk
  kernel_rfl
theorem ok106 : RowsOK Tryz.prog md (primOf ps27) 10000 40 106 t106 := (rows_cons (r106x0 _ _ rfl) rows_nil)
def ps28 : List (FuncId × Tbl) := (106, t106) :: ps27
theorem pk28 : ∀ f t, (f, t) ∈ ps28 → PrimOK Tryz.prog f (memoP t) := memo_cons pk27 (memo_ok hfol hnam (primOf_ok _ pk27) ok106)
def t58 : Tbl := [(⟨⟨0, none, 0⟩, [c7, (i 0)], []⟩, (.sl 10 0 7 7 1), [some c14, some c14, some c3, some c3, some c3, some c3, some c3, some c3, some c3, some c3, some c14])]
theorem r58x0 : ∀ k r, t58[0]? = some (k, r) → K (primOf ps28) 40 k.cfg 58 k.args k.h = some r := by
  intro k r hk
  cases hk
  kernel_rfl
theorem ok58 : RowsOK Tryz.prog md (primOf ps28) 10000 40 58 t58 := (rows_cons (r58x0 _ _ rfl) rows_nil)
def ps29 : List (FuncId × Tbl) := (58, t58) :: ps28
theorem pk29 : ∀ f t, (f, t) ∈ ps29 → PrimOK Tryz.prog f (memoP t) := memo_cons pk28 (memo_ok hfol hnam (primOf_ok _ pk28) ok58)
def t34 : Tbl := [(⟨⟨5, none, 5⟩, [(.agg c1)], [some c5, some c4, some (is [0, 7, 0, 10]), some c1, some c1]⟩, (.sl 7 0 1 1 4), [some c5, some c4, some (is [0, 7, 0, 10]), some c1, some c1, some c1, some c2, some c2])]
theorem r34x0 : ∀ k r, t34[0]? = some (k, r) → K (primOf ps29) 40 k.cfg 34 k.args k.h = some r := by
  intro k r hk
  cases hk
  kernel_rfl
theorem ok34 : RowsOK Tryz.prog md (primOf ps29) 10000 40 34 t34 := (rows_cons (r34x0 _ _ rfl) rows_nil)
def ps30 : List (FuncId × Tbl) := (34, t34) :: ps29
theorem pk30 : ∀ f t, (f, t) ∈ ps30 → PrimOK Tryz.prog f (memoP t) := memo_cons pk29 (memo_ok hfol hnam (primOf_ok _ pk29) ok34)
def t36 : Tbl := [(⟨⟨8, none, 8⟩, [(.agg c1), (.lst [c6]), (.agg c2), (i 0), (i 4)], [some c5, some c4, some (is [0, 7, 0, 10]), some c1, some c1, some c2, some c1, some c2, some c1, some c2]⟩, (.sl 13 0 4 4 8), [some c5, some c4, some (is [0, 7, 0, 10]), some c1, some c1, some c2, some c1, some c2, some c1, some c2, some c1, some c2, some (is [0, 7, 0, 10]), some c18]),
  (⟨⟨8, none, 8⟩, [(.agg c1), (.lst [c6]), (.agg c2), (i 0), (i 7)], [some c5, some c4, some (is [0, 7, 0, 10]), some c1, some c1, some c2, some c1, some c2, some c1, some c2]⟩, (.sl 13 0 7 7 8), [some c5, some c4, some (is [0, 7, 0, 10]), some c1, some c1, some c2, some c1, some c2, some c1, some c2, some c1, some c2, some (is [0, 7, 0, 10]), some c8]),
  (⟨⟨4, none, 4⟩, [(.agg c1), (.lst [c6]), (.agg c2), (i 0), (i 7)], [some c5, some c4, some (is [0, 7, 0, 10]), some c1, some c1, some c2, some c11]⟩, (.sl 10 0 7 7 8), [some c5, some c4, some (is [0, 7, 0, 10]), some c1, some c1, some c2, some c11, some c1, some c2, some (is [0, 7, 0, 10]), some c8])]
theorem r36x0 : ∀ k r, t36[0]? = some (k, r) → K (primOf ps30) 40 k.cfg 36 k.args k.h = some r := by
  intro k r hk
  cases hk
  kernel_rfl
theorem r36x1 : ∀ k r, t36[1]? = some (k, r) → K (primOf ps30) 40 k.cfg 36 k.args k.h = some r := by
  intro k r hk
  cases hk
  kernel_rfl
theorem r36x2 : ∀ k r, t36[2]? = some (k, r) → K (primOf ps30) 40 k.cfg 36 k.args k.h = some r := by
  intro k r hk
  cases hk
  kernel_rfl
theorem ok36 : RowsOK Tryz.prog md (primOf ps30) 10000 40 36 t36 := (rows_cons (r36x0 _ _ rfl) (rows_cons (r36x1 _ _ rfl) (rows_cons (r36x2 _ _ rfl) rows_nil)))
def ps31 : List (FuncId × Tbl) := (36, t36) :: ps30
theorem pk31 : ∀ f t, (f, t) ∈ ps31 → PrimOK Tryz.prog f (memoP t) := memo_cons pk30 (memo_ok hfol hnam (primOf_ok _ pk30) ok36)
def t61 : Tbl := [(⟨⟨8, none, 8⟩, [(.agg c1), (.lst [c6]), (.agg c2), (i 0), (i 4)], c15⟩, (i 30), [some c5, some c4, some (is [0, 7, 0, 10]), some c1, some c1, some c2, some c1, some c2, some c1, some c2, some c1, some c2, some (is [0, 7, 0, 10]), some c18]),
  (⟨⟨8, none, 8⟩, [(.agg c1), (.lst [c6]), (.agg c2), (i 0), (i 7)], c15⟩, (i 70), [some c5, some c4, some (is [0, 7, 0, 10]), some c1, some c1, some c2, some c1, some c2, some c1, some c2, some c1, some c2, some (is [0, 7, 0, 10]), some c8])]
theorem r61x0 : ∀ k r, t61[0]? = some (k, r) → K (primOf ps31) 40 k.cfg 61 k.args k.h = some r := by
  intro k r hk
  cases hk
  kernel_rfl
theorem r61x1 : ∀ k r, t61[1]? = some (k, r) → K (primOf ps31) 40 k.cfg 61 k.args k.h = some r := by
  intro k r hk
  cases hk
  kernel_rfl
theorem ok61 : RowsOK Tryz.prog md (primOf ps31) 10000 40 61 t61 := (rows_cons (r61x0 _ _ rfl) (rows_cons (r61x1 _ _ rfl) rows_nil))
def ps32 : List (FuncId × Tbl) := (61, t61) :: ps31
theorem pk32 : ∀ f t, (f, t) ∈ ps32 → PrimOK Tryz.prog f (memoP t) := memo_cons pk31 (memo_ok hfol hnam (primOf_ok _ pk31) ok61)
def t35 : Tbl := [(⟨⟨6, none, 6⟩, [(.agg c1), (.lst [c6]), (.agg c2)], [some c5, some c4, some (is [0, 7, 0, 10]), some c1, some c1, some c2]⟩, (.sl 9 0 1 1 1), [some c5, some c4, some (is [0, 7, 0, 10]), some c1, some c1, some c2, some c1, some c2, some [(i 7)], some [(i 7)]])]
theorem r35x0 : ∀ k r, t35[0]? = some (k, r) → K (primOf ps32) 40 k.cfg 35 k.args k.h = some r := by
  intro k r hk
  cases hk
  kernel_rfl
theorem ok35 : RowsOK Tryz.prog md (primOf ps32) 10000 40 35 t35 := (rows_cons (r35x0 _ _ rfl) rows_nil)
def ps33 : List (FuncId × Tbl) := (35, t35) :: ps32
theorem pk33 : ∀ f t, (f, t) ∈ ps33 → PrimOK Tryz.prog f (memoP t) := memo_cons pk32 (memo_ok hfol hnam (primOf_ok _ pk32) ok35)
def t18 : Tbl := [(⟨⟨4, none, 4⟩, [(.agg c1), (.lst [c6])], [some c5, some c4, some (is [0, 7, 0, 10]), some c1]⟩, (.tup [(.sl 14 0 1 1 10), (i 0)]), [some c5, some c4, some (is [0, 7, 0, 10]), some c1, some c1, some c2, some [(i 0), (i 7), (i 0), (i 0), (i 0), (i 70), (i 8), (i 3), (i 11), (.sl 10 0 7 7 8)], some c1, some c2, some (is [0, 7, 0, 10]), some c8, some (is [0, 7, 0, 10]), some c6, some [(i 0), (i 7), (i 0), (i 0), (i 0), (i 70), (i 8), (i 3), (i 11), (.sl 10 0 7 7 8)], some [(i 0), (i 7), (i 0), (i 0), (i 0), (i 70), (i 8), (i 3), (i 11), (.sl 10 0 7 7 8)]])]
theorem r18x0 : ∀ k r, t18[0]? = some (k, r) → K (primOf ps33) 40 k.cfg 18 k.args k.h = some r := by
  intro k r hk
  cases hk
  kernel_rfl
theorem ok18 : RowsOK Tryz.prog md (primOf ps33) 10000 40 18 t18 := (rows_cons (r18x0 _ _ rfl) rows_nil)
def ps34 : List (FuncId × Tbl) := (18, t18) :: ps33
theorem pk34 : ∀ f t, (f, t) ∈ ps34 → PrimOK Tryz.prog f (memoP t) := memo_cons pk33 (memo_ok hfol hnam (primOf_ok _ pk33) ok18)
def t26 : Tbl := [(⟨⟨0, none, 0⟩, [(.str ⟨#[111, 110, 101, 32, 116, 119, 111]⟩), (i 1000)], []⟩, (.tup [(.agg c1), c9]), [some c1, some c4, some (is [0, 7, 0, 10]), some c1])]
theorem r26x0 : ∀ k r, t26[0]? = some (k, r) → K (primOf ps34) 40 k.cfg 26 k.args k.h = some r := by
  intro k r hk
  cases hk
  kernel_rfl
theorem ok26 : RowsOK Tryz.prog md (primOf ps34) 10000 40 26 t26 := (rows_cons (r26x0 _ _ rfl) rows_nil)
def ps35 : List (FuncId × Tbl) := (26, t26) :: ps34
theorem pk35 : ∀ f t, (f, t) ∈ ps35 → PrimOK Tryz.prog f (memoP t) := memo_cons pk34 (memo_ok hfol hnam (primOf_ok _ pk34) ok26)
def t13 : Tbl := [(⟨⟨0, none, 0⟩, [], []⟩, (.bool true), [some [c7, c22, (i 0), (i 0), (i 1000)], some (is [4, 7])])]
theorem r13x0 : ∀ k r, t13[0]? = some (k, r) → K (primOf ps35) 40 k.cfg 13 k.args k.h = some r := by
  intro k r hk
  cases hk
  kernel_rfl
theorem ok13 : RowsOK Tryz.prog md (primOf ps35) 10000 40 13 t13 := (rows_cons (r13x0 _ _ rfl) rows_nil)
def ps36 : List (FuncId × Tbl) := (13, t13) :: ps35
theorem pk36 : ∀ f t, (f, t) ∈ ps36 → PrimOK Tryz.prog f (memoP t) := memo_cons pk35 (memo_ok hfol hnam (primOf_ok _ pk35) ok13)
end Bi
end Go.Ab
