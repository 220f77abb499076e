/- Closed calls, by tables: what awake comes to. Printed by wip/tools/Memo.lean. -/
import Derived.Test.YtamjkkpdopiofaaGreatPiF
import Derived.Test.YtamjkkpdopiofaaGreatAbMemo
namespace Go.Ab
open Go.Proofs
namespace Bi
theorem hfol : Tryz.prog.follows .mixedOrders = true := by kernel_rfl
theorem hnam : Named Tryz.prog := by
  have h : (Tryz.prog.funcs.toList.all fun fn => !(fn.name == "runtime.NumGoroutine")) = true := by kernel_rfl
  intro g fn hg
  have := List.all_eq_true.1 h fn (List.mem_of_getElem? (by simpa using hg))
  simpa using this
abbrev i (n : Int) : V := .int .i64 n
abbrev r (n : Int) : V := .int .i32 n
abbrev is (l : List Int) : List V := l.map i
abbrev rs (l : List Int) : List V := l.map r
abbrev c1 : List V := [(.mq [[(.agg [(i 0), (i 100), (r 97), (r 0), (.bool true)]), (i 50)], [(.agg [(i 0), (i 100), (r 98), (r 0), (.bool true)]), (i 50)], [(.agg [(i 0), (i 100), (r 32), (r 0), (.bool true)]), (i 50)], [(.agg [(i 0), (i 100), (r 97), (r 98), (.bool false)]), (i 0)], [(.agg [(i 0), (i 100), (r 98), (r 32), (.bool false)]), (i 0)], [(.agg [(i 0), (i 100), (r 99), (r 0), (.bool true)]), (i 50)], [(.agg [(i 0), (i 100), (r 100), (r 0), (.bool true)]), (i 50)], [(.agg [(i 0), (i 100), (r 32), (r 99), (.bool false)]), (i 0)], [(.agg [(i 0), (i 100), (r 99), (r 100), (.bool false)]), (i 0)]])]
abbrev c6 : List V := [(i 0), (i 5), (i 0), (il [0, 0, 0, 0, 0])]
abbrev c7 : List V := [(.bool true), (.bool true), (.bool true), (.bool true), (.bool true), (.bool true)]
abbrev c11 : List V := [(i 100), (i 80), (i 20), (i 0), (i 50), (.lst []), (.lst []), (.lst [])]
abbrev c12 : List V := [(.mq [[(.agg [(i 0), (i 100), (r 97), (r 0), (.bool true)]), (i 50)], [(.agg [(i 0), (i 100), (r 98), (r 0), (.bool true)]), (i 50)], [(.agg [(i 0), (i 100), (r 32), (r 0), (.bool true)]), (i 50)], [(.agg [(i 0), (i 100), (r 97), (r 98), (.bool false)]), (i 0)], [(.agg [(i 0), (i 100), (r 98), (r 32), (.bool false)]), (i 0)]])]
abbrev c17 : List V := [(.mq [[(.agg [(i 0), (i 100), (r 97), (r 0), (.bool true)]), (i 50)], [(.agg [(i 0), (i 100), (r 98), (r 0), (.bool true)]), (i 50)], [(.agg [(i 0), (i 100), (r 32), (r 0), (.bool true)]), (i 50)], [(.agg [(i 0), (i 100), (r 97), (r 98), (.bool false)]), (i 0)], [(.agg [(i 0), (i 100), (r 98), (r 32), (.bool false)]), (i 0)], [(.agg [(i 0), (i 100), (r 99), (r 0), (.bool true)]), (i 50)], [(.agg [(i 0), (i 100), (r 100), (r 0), (.bool true)]), (i 50)], [(.agg [(i 0), (i 100), (r 99), (r 100), (.bool false)]), (i 0)]])]
abbrev c18 : List V := [(r 0), (r 0), (i 0), (i 0), (.bool false)]
abbrev c5 : List V := [(.mq [[(.agg [(i 0), (i 0), (r 97), (r 98), (.bool false)]), (.agg c18)], [(.agg [(i 0), (i 0), (r 98), (r 32), (.bool false)]), (.agg c18)], [(.agg [(i 0), (i 0), (r 32), (r 99), (.bool false)]), (.agg c18)], [(.agg [(i 0), (i 0), (r 99), (r 100), (.bool false)]), (.agg c18)]])]
abbrev c15 : List V := [(.mq [[(.agg [(i 0), (i 0), (r 97), (r 98), (.bool false)]), (.agg c18)], [(.agg [(i 0), (i 0), (r 98), (r 32), (.bool false)]), (.agg c18)]])]
abbrev c19 : List V := [(il [0, 0, 4, 0, 0]), (il [0, 0, 4, 0, 0]), (.lst [[(.bool true)], [(.bool true)], [(.bool true)], [(.bool true)], [(.bool true)], [(.bool true)]])]
abbrev c20 : List V := (is [99, 0, 3, 4, 0, 50, 0, 100])
abbrev c21 : List V := (is [97, 0, 0, 1, 0, 50, 0, 100])
abbrev c8 : List V := [(i 0), (i 3), (i 0), (i 0), (i 0), (i 100), (i 80), (i 20), (i 100), (.lst [c21, (is [98, 0, 1, 2, 50, 50, 0, 100]), (is [32, 0, 2, 3, 100, 0, 0, 100])])]
abbrev c22 : List V := (is [97, 0, 0, 1, 0, 50, 0, 100, 98, 0, 1, 2, 50, 50, 0, 100, 32, 0, 2, 3, 100, 50, 0, 100, 99, 0, 3, 4, 150, 50, 0, 100, 100, 0, 4, 5, 200, 50, 0, 100])
abbrev c23 : List V := [(il [0, 1, 2, 3, 4]), (i 0), (i 0), (i 0)]
abbrev c24 : List V := (is [97, 0, 0, 1, 0, 50, 0, 100, 98, 0, 1, 2, 50, 50, 0, 100, 32, 0, 2, 3, 100, 50, 0, 100])
abbrev c25 : List V := (is [100, 0, 4, 5, 0, 50, 0, 100])
abbrev c26 : List V := (is [98, 0, 1, 2, 0, 50, 0, 100])
abbrev c27 : List V := (is [32, 0, 2, 3, 0, 50, 0, 100])
abbrev c28 : List V := [(r 97), (r 122), (.int .u8 0), (.int .u8 3), (.int .u8 0), (.int .u8 0), (.int .u8 0)]
abbrev c4 : V := (.lst [[(r 0), (r 8), (.int .u8 3), (.int .u8 0), (.int .u8 7), (.int .u8 9), (.int .u8 0)], [(r 9), (r 9), (.int .u8 3), (.int .u8 0), (.int .u8 10), (.int .u8 11), (.int .u8 0)], [(r 10), (r 10), (.int .u8 2), (.int .u8 1), (.int .u8 3), (.int .u8 10), (.int .u8 0)], [(r 11), (r 11), (.int .u8 3), (.int .u8 1), (.int .u8 1), (.int .u8 11), (.int .u8 0)], [(r 12), (r 12), (.int .u8 3), (.int .u8 1), (.int .u8 1), (.int .u8 12), (.int .u8 0)], [(r 13), (r 13), (.int .u8 1), (.int .u8 1), (.int .u8 2), (.int .u8 10), (.int .u8 0)], [(r 14), (r 31), (.int .u8 3), (.int .u8 0), (.int .u8 7), (.int .u8 9), (.int .u8 0)], [(r 32), (r 32), (.int .u8 0), (.int .u8 2), (.int .u8 4), (.int .u8 12), (.int .u8 0)], [(r 33), (r 33), (.int .u8 0), (.int .u8 0), (.int .u8 15), (.int .u8 13), (.int .u8 0)], [(r 34), (r 34), (.int .u8 0), (.int .u8 0), (.int .u8 14), (.int .u8 13), (.int .u8 0)], [(r 35), (r 37), (.int .u8 0), (.int .u8 0), (.int .u8 0), (.int .u8 5), (.int .u8 0)], [(r 38), (r 38), (.int .u8 0), (.int .u8 0), (.int .u8 0), (.int .u8 13), (.int .u8 0)], [(r 39), (r 39), (.int .u8 0), (.int .u8 7), (.int .u8 14), (.int .u8 13), (.int .u8 0)], [(r 40), (r 40), (.int .u8 0), (.int .u8 0), (.int .u8 12), (.int .u8 13), (.int .u8 0)], [(r 41), (r 41), (.int .u8 0), (.int .u8 0), (.int .u8 13), (.int .u8 13), (.int .u8 0)], [(r 42), (r 42), (.int .u8 0), (.int .u8 0), (.int .u8 0), (.int .u8 13), (.int .u8 0)], [(r 43), (r 43), (.int .u8 0), (.int .u8 0), (.int .u8 0), (.int .u8 4), (.int .u8 0)], [(r 44), (r 44), (.int .u8 0), (.int .u8 6), (.int .u8 16), (.int .u8 7), (.int .u8 0)], [(r 45), (r 45), (.int .u8 0), (.int .u8 0), (.int .u8 11), (.int .u8 4), (.int .u8 0)], [(r 46), (r 46), (.int .u8 0), (.int .u8 7), (.int .u8 16), (.int .u8 7), (.int .u8 0)], [(r 47), (r 47), (.int .u8 0), (.int .u8 0), (.int .u8 10), (.int .u8 7), (.int .u8 0)], [(r 48), (r 57), (.int .u8 0), (.int .u8 4), (.int .u8 17), (.int .u8 3), (.int .u8 0)], [(r 58), (r 58), (.int .u8 0), (.int .u8 5), (.int .u8 16), (.int .u8 7), (.int .u8 0)], [(r 59), (r 59), (.int .u8 0), (.int .u8 6), (.int .u8 16), (.int .u8 13), (.int .u8 0)], [(r 60), (r 62), (.int .u8 0), (.int .u8 0), (.int .u8 0), (.int .u8 13), (.int .u8 0)], [(r 63), (r 63), (.int .u8 0), (.int .u8 0), (.int .u8 15), (.int .u8 13), (.int .u8 0)], [(r 64), (r 64), (.int .u8 0), (.int .u8 0), (.int .u8 0), (.int .u8 13), (.int .u8 0)], [(r 65), (r 90), (.int .u8 0), (.int .u8 3), (.int .u8 0), (.int .u8 0), (.int .u8 0)], [(r 91), (r 91), (.int .u8 0), (.int .u8 0), (.int .u8 12), (.int .u8 13), (.int .u8 0)], [(r 92), (r 92), (.int .u8 0), (.int .u8 0), (.int .u8 0), (.int .u8 13), (.int .u8 0)], [(r 93), (r 93), (.int .u8 0), (.int .u8 0), (.int .u8 13), (.int .u8 13), (.int .u8 0)], [(r 94), (r 94), (.int .u8 0), (.int .u8 0), (.int .u8 0), (.int .u8 13), (.int .u8 0)], [(r 95), (r 95), (.int .u8 0), (.int .u8 8), (.int .u8 0), (.int .u8 13), (.int .u8 0)], [(r 96), (r 96), (.int .u8 0), (.int .u8 0), (.int .u8 0), (.int .u8 13), (.int .u8 0)], c28, [(r 123), (r 123), (.int .u8 0), (.int .u8 0), (.int .u8 12), (.int .u8 13), (.int .u8 0)], [(r 124), (r 124), (.int .u8 0), (.int .u8 0), (.int .u8 10), (.int .u8 13), (.int .u8 0)], [(r 125), (r 125), (.int .u8 0), (.int .u8 0), (.int .u8 13), (.int .u8 13), (.int .u8 0)], [(r 126), (r 126), (.int .u8 0), (.int .u8 0), (.int .u8 0), (.int .u8 13), (.int .u8 0)], [(r 127), (r 132), (.int .u8 3), (.int .u8 0), (.int .u8 7), (.int .u8 9), (.int .u8 0)], [(r 133), (r 133), (.int .u8 3), (.int .u8 1), (.int .u8 1), (.int .u8 10), (.int .u8 0)], [(r 134), (r 159), (.int .u8 3), (.int .u8 0), (.int .u8 7), (.int .u8 9), (.int .u8 0)], [(r 160), (r 160), (.int .u8 0), (.int .u8 0), (.int .u8 9), (.int .u8 7), (.int .u8 0)], [(r 161), (r 161), (.int .u8 0), (.int .u8 0), (.int .u8 12), (.int .u8 13), (.int .u8 0)]])
abbrev c29 : List V := [(.mq [[(.agg [(i 0), (i 0), (r 97), (r 98), (.bool false)]), (.agg c18)], [(.agg [(i 0), (i 0), (r 98), (r 32), (.bool false)]), (.agg c18)], [(.agg [(i 0), (i 0), (r 99), (r 100), (.bool false)]), (.agg c18)]])]
abbrev c30 : List V := (is [99, 0, 3, 4, 0, 50, 0, 100, 100, 0, 4, 5, 50, 50, 0, 100])
abbrev c31 : List V := [(i 0), (i 0), (i 0), (i 0), (i 0), (i 0), (i 0), (i 0), (i 0), .nils]
abbrev c32 : V := (rl [97, 98, 32, 99, 100])
abbrev c2 : List V := [c32, (il [0, 0, 0, 0, 0]), (.sl 3 0 6 6 1), (.mref 4), (.mref 5)]
abbrev c3 : List V := [c32, (.lst [(is [0, 5, 0, 100])]), (i 0), (i 0), (i 120), (.lst [c11]), (il [0, 0, 1, 0, 2]), (il [0, 1, 2, 3, 4, 5]), (.sl 7 0 6 6 1), (.sl 19 0 5 5 1), c32, (il [0, 0, 0, 0, 0]), (.sl 3 0 6 6 1), (.mref 4), (.mref 5), (.sl 21 0 1 1 4)]
abbrev c9 : List V := [c32, (.lst [(is [0, 5, 0, 100])]), (i 0), (i 0), (i 0), (.lst [c11]), (il [0, 0, 1, 0, 2]), (il [0, 1, 2, 3, 4, 5]), (.sl 7 0 6 6 1), (.sl 19 0 5 5 1), c32, (il [0, 0, 0, 0, 0]), (.sl 3 0 6 6 1), (.mref 4), (.mref 5), (.sl 21 0 1 1 4)]
abbrev c10 : List V := [c32, (.lst [(is [0, 5, 0, 100])]), (i 0), (i 0), (i 120)]
abbrev c13 : List V := [c32, (.lst [(is [0, 5, 0, 100])]), (i 0), (i 0), (i 0)]
abbrev c14 : List V := [c32, (il [0, 0, 12, 0, 0]), (.sl 1 0 5 5 1), (il [-1, -1, -1, -1, -1]), (.sl 2 0 5 5 1), (i 0)]
abbrev c16 : Heap := [none, some (is [0, 0, 0, 0, 0]), some (is [0, 0, 0, 0, 0]), some c14, some c23]
abbrev c33 : List V := [(i 0), (i (-1)), (.bool false)]
abbrev c34 : List V := [(.ptr 8 0), (.agg c6), (i 3), (i 5)]
abbrev c35 : List V := [(.ptr 8 0), (.agg c6), (i 0), (i 3)]
/- (widgetry/linebreak.scan).before -/
def t55 : Tbl := [(⟨⟨0, [], 0⟩, [(.agg c19), (i 1)], []⟩, (i 0), [some c19, some (is [1, 3, 2]), some (is [1, 2, 3, 4, 5]), some (is [13, 15, 16]), some (is [17, 11, 16]), some (is [0, 16])]),
  (⟨⟨0, [], 0⟩, [(.agg c19), (i 2)], []⟩, (i 0), [some c19, some (is [1, 3, 2]), some (is [1, 2, 3, 4, 5])]),
  (⟨⟨0, [], 0⟩, [(.agg c19), (i 3)], []⟩, (i 1), [some c19, some (is [1, 3, 2]), some (is [1, 2, 3, 4, 5]), some (is [13, 15, 16])]),
  (⟨⟨0, [], 0⟩, [(.agg c19), (i 4)], []⟩, (i 0), [some c19, some (is [1, 3, 2]), some (is [1, 2, 3, 4, 5]), some (is [13, 15, 16]), some (is [17, 11, 16]), some (is [0, 16])])]
theorem r55x0 : ∀ k r, t55[0]? = some (k, r) → K (primOf []) 40 k.cfg 55 k.args k.h = some r := by
  intro k r hk
  cases hk
  kernel_rfl
theorem r55x1 : ∀ k r, t55[1]? = some (k, r) → K (primOf []) 40 k.cfg 55 k.args k.h = some r := by
  intro k r hk
  cases hk
  kernel_rfl
theorem r55x2 : ∀ k r, t55[2]? = some (k, r) → K (primOf []) 40 k.cfg 55 k.args k.h = some r := by
  intro k r hk
  cases hk
  kernel_rfl
theorem r55x3 : ∀ k r, t55[3]? = some (k, r) → K (primOf []) 40 k.cfg 55 k.args k.h = some r := by
  intro k r hk
  cases hk
  kernel_rfl
theorem ok55 : RowsOK Tryz.prog md (primOf []) 10000 40 55 t55 := (rows_cons (r55x0 _ _ rfl) (rows_cons (r55x1 _ _ rfl) (rows_cons (r55x2 _ _ rfl) (rows_cons (r55x3 _ _ rfl) rows_nil))))
def ps1 : List (FuncId × Tbl) := (55, t55) :: []
theorem pk1 : ∀ f t, (f, t) ∈ ps1 → PrimOK Tryz.prog f (memoP t) := memo_cons (by simp) (memo_ok hfol hnam (primOf_ok _ (by simp)) ok55)
/- segment.parts -/
def t57 : Tbl := [(⟨⟨2, [], 2⟩, [(.sl 0 0 5 5 1), (i 1)], [some (is [0, 0, 0, 0, 0]), some [(i 0)]]⟩, (.bool true), [some (is [0, 0, 0, 0, 0]), some [(i 0)]]),
  (⟨⟨4, [], 4⟩, [(.sl 0 0 5 5 1), (i 2)], [some (is [0, 0, 0, 0, 0]), none, some [(i 1)], some (is [0, 1])]⟩, (.bool true), [some (is [0, 0, 0, 0, 0]), none, some [(i 1)], some (is [0, 1])]),
  (⟨⟨6, [], 6⟩, [(.sl 0 0 5 5 1), (i 3)], [some (is [0, 0, 0, 0, 0]), none, some [(i 1)], none, some [(i 2)], some (is [0, 1, 2])]⟩, (.bool true), [some (is [0, 0, 0, 0, 0]), none, some [(i 1)], none, some [(i 2)], some (is [0, 1, 2])]),
  (⟨⟨8, [], 8⟩, [(.sl 0 0 5 5 1), (i 4)], [some (is [0, 0, 0, 0, 0]), none, some [(i 1)], none, some [(i 2)], none, some [(i 3)], some (is [0, 1, 2, 3])]⟩, (.bool true), [some (is [0, 0, 0, 0, 0]), none, some [(i 1)], none, some [(i 2)], none, some [(i 3)], some (is [0, 1, 2, 3])])]
theorem r57x0 : ∀ k r, t57[0]? = some (k, r) → K (primOf ps1) 40 k.cfg 57 k.args k.h = some r := by
  intro k r hk
  cases hk
  kernel_rfl
theorem r57x1 : ∀ k r, t57[1]? = some (k, r) → K (primOf ps1) 40 k.cfg 57 k.args k.h = some r := by
  intro k r hk
  cases hk
  kernel_rfl
theorem r57x2 : ∀ k r, t57[2]? = some (k, r) → K (primOf ps1) 40 k.cfg 57 k.args k.h = some r := by
  intro k r hk
  cases hk
  kernel_rfl
theorem r57x3 : ∀ k r, t57[3]? = some (k, r) → K (primOf ps1) 40 k.cfg 57 k.args k.h = some r := by
  intro k r hk
  cases hk
  kernel_rfl
theorem ok57 : RowsOK Tryz.prog md (primOf ps1) 10000 40 57 t57 := (rows_cons (r57x0 _ _ rfl) (rows_cons (r57x1 _ _ rfl) (rows_cons (r57x2 _ _ rfl) (rows_cons (r57x3 _ _ rfl) rows_nil))))
def ps2 : List (FuncId × Tbl) := (57, t57) :: ps1
theorem pk2 : ∀ f t, (f, t) ∈ ps2 → PrimOK Tryz.prog f (memoP t) := memo_cons pk1 (memo_ok hfol hnam (primOf_ok _ pk1) ok57)
/- bidi.Order -/
def t63 : Tbl := [(⟨⟨0, [], 0⟩, [(il [0, 0, 0])], []⟩, (.sl 0 0 3 3 1), [some (is [0, 1, 2])]),
  (⟨⟨0, [], 0⟩, [(il [0, 0, 0, 0, 0])], []⟩, (.sl 0 0 5 5 1), [some (is [0, 1, 2, 3, 4])]),
  (⟨⟨0, [], 0⟩, [(il [0, 0])], []⟩, (.sl 0 0 2 2 1), [some (is [0, 1])])]
theorem r63x0 : ∀ k r, t63[0]? = some (k, r) → K (primOf ps2) 40 k.cfg 63 k.args k.h = some r := by
  intro k r hk
  cases hk
  kernel_rfl
theorem r63x1 : ∀ k r, t63[1]? = some (k, r) → K (primOf ps2) 40 k.cfg 63 k.args k.h = some r := by
  intro k r hk
  cases hk
  kernel_rfl
theorem r63x2 : ∀ k r, t63[2]? = some (k, r) → K (primOf ps2) 40 k.cfg 63 k.args k.h = some r := by
  intro k r hk
  cases hk
  kernel_rfl
theorem ok63 : RowsOK Tryz.prog md (primOf ps2) 10000 40 63 t63 := (rows_cons (r63x0 _ _ rfl) (rows_cons (r63x1 _ _ rfl) (rows_cons (r63x2 _ _ rfl) rows_nil)))
def ps3 : List (FuncId × Tbl) := (63, t63) :: ps2
theorem pk3 : ∀ f t, (f, t) ∈ ps3 → PrimOK Tryz.prog f (memoP t) := memo_cons pk2 (memo_ok hfol hnam (primOf_ok _ pk2) ok63)
/- bidi.matching -/
def t84 : Tbl := [(⟨⟨0, [], 0⟩, [(il [0, 0, 12, 0, 0])], []⟩, (.sl 0 0 5 5 1), [some (is [-1, -1, -1, -1, -1])])]
theorem r84x0 : ∀ k r, t84[0]? = some (k, r) → K (primOf ps3) 40 k.cfg 84 k.args k.h = some r := by
  intro k r hk
  cases hk
  kernel_rfl
theorem ok84 : RowsOK Tryz.prog md (primOf ps3) 10000 40 84 t84 := (rows_cons (r84x0 _ _ rfl) rows_nil)
def ps4 : List (FuncId × Tbl) := (84, t84) :: ps3
theorem pk4 : ∀ f t, (f, t) ∈ ps4 → PrimOK Tryz.prog f (memoP t) := memo_cons pk3 (memo_ok hfol hnam (primOf_ok _ pk3) ok84)
/- (*widgetry/bidi.paragraph).explicit -/
def t86 : Tbl := [(⟨⟨0, [], 4⟩, [(.ptr 3 0)], [none, some (is [0, 0, 12, 0, 0]), some (is [0, 0, 0, 0, 0]), some c14]⟩, (.tup []), [none, some (is [0, 0, 12, 0, 0]), some (is [0, 0, 0, 0, 0]), some c14, some [(.ptr 3 0)], some c33, some [(.sl 5 0 1 1 3)], some [(i 0)], some c33, some [(i 1)], some c33, some [(i 2)], some c33, some [(i 3)], some c33, some [(i 4)], some c33])]
theorem r86x0 : ∀ k r, t86[0]? = some (k, r) → K (primOf ps4) 40 k.cfg 86 k.args k.h = some r := by
  intro k r hk
  cases hk
  kernel_rfl
theorem ok86 : RowsOK Tryz.prog md (primOf ps4) 10000 40 86 t86 := (rows_cons (r86x0 _ _ rfl) rows_nil)
def ps5 : List (FuncId × Tbl) := (86, t86) :: ps4
theorem pk5 : ∀ f t, (f, t) ∈ ps5 → PrimOK Tryz.prog f (memoP t) := memo_cons pk4 (memo_ok hfol hnam (primOf_ok _ pk4) ok86)
/- (*widgetry/bidi.paragraph).weak -/
def t88 : Tbl := [(⟨⟨0, [], 5⟩, [(.ptr 3 0), (.agg c23)], [none, some (is [0, 0, 12, 0, 0]), some (is [0, 0, 0, 0, 0]), some c14, some c23]⟩, (.tup []), [none, some (is [0, 0, 12, 0, 0]), some (is [0, 0, 0, 0, 0]), some c14, some c23, some [(.ptr 3 0)], some c23])]
theorem r88x0 : ∀ k r, t88[0]? = some (k, r) → K (primOf ps5) 40 k.cfg 88 k.args k.h = some r := by
  intro k r hk
  cases hk
  kernel_rfl
theorem ok88 : RowsOK Tryz.prog md (primOf ps5) 10000 40 88 t88 := (rows_cons (r88x0 _ _ rfl) rows_nil)
def ps6 : List (FuncId × Tbl) := (88, t88) :: ps5
theorem pk6 : ∀ f t, (f, t) ∈ ps6 → PrimOK Tryz.prog f (memoP t) := memo_cons pk5 (memo_ok hfol hnam (primOf_ok _ pk5) ok88)
/- (*widgetry/bidi.paragraph).neutrals -/
def t90 : Tbl := [(⟨⟨0, [], 5⟩, [(.ptr 3 0), (.agg c23)], [none, some (is [0, 0, 12, 0, 0]), some (is [0, 0, 0, 0, 0]), some c14, some c23]⟩, (.tup []), [none, some (is [0, 0, 0, 0, 0]), some (is [0, 0, 0, 0, 0]), some c14, some c23, some c23])]
theorem r90x0 : ∀ k r, t90[0]? = some (k, r) → K (primOf ps6) 40 k.cfg 90 k.args k.h = some r := by
  intro k r hk
  cases hk
  kernel_rfl
theorem ok90 : RowsOK Tryz.prog md (primOf ps6) 10000 40 90 t90 := (rows_cons (r90x0 _ _ rfl) rows_nil)
def ps7 : List (FuncId × Tbl) := (90, t90) :: ps6
theorem pk7 : ∀ f t, (f, t) ∈ ps7 → PrimOK Tryz.prog f (memoP t) := memo_cons pk6 (memo_ok hfol hnam (primOf_ok _ pk6) ok90)
/- (*widgetry/bidi.paragraph).implicit -/
def t91 : Tbl := [(⟨⟨0, [], 5⟩, [(.ptr 3 0), (.agg c23)], c16⟩, (.tup []), [none, some (is [0, 0, 0, 0, 0]), some (is [0, 0, 0, 0, 0]), some c14, some c23, some c23])]
theorem r91x0 : ∀ k r, t91[0]? = some (k, r) → K (primOf ps7) 40 k.cfg 91 k.args k.h = some r := by
  intro k r hk
  cases hk
  kernel_rfl
theorem ok91 : RowsOK Tryz.prog md (primOf ps7) 10000 40 91 t91 := (rows_cons (r91x0 _ _ rfl) rows_nil)
def ps8 : List (FuncId × Tbl) := (91, t91) :: ps7
theorem pk8 : ∀ f t, (f, t) ∈ ps8 → PrimOK Tryz.prog f (memoP t) := memo_cons pk7 (memo_ok hfol hnam (primOf_ok _ pk7) ok91)
/- (*widgetry/bidi.paragraph).removed -/
def t92 : Tbl := [(⟨⟨4, [], 4⟩, [(.ptr 3 0), (i 0)], [none, some (is [0, 0, 12, 0, 0]), some (is [0, 0, 0, 0, 0]), some c14]⟩, (.bool false), [none, some (is [0, 0, 12, 0, 0]), some (is [0, 0, 0, 0, 0]), some c14]),
  (⟨⟨6, [], 6⟩, [(.ptr 3 0), (i 1)], [none, some (is [0, 0, 12, 0, 0]), some (is [0, 0, 0, 0, 0]), some c14, some [(i 0)], some [(i 0)]]⟩, (.bool false), [none, some (is [0, 0, 12, 0, 0]), some (is [0, 0, 0, 0, 0]), some c14, some [(i 0)], some [(i 0)]]),
  (⟨⟨8, [], 8⟩, [(.ptr 3 0), (i 2)], [none, some (is [0, 0, 12, 0, 0]), some (is [0, 0, 0, 0, 0]), some c14, some [(i 0)], none, some [(i 1)], some (is [0, 1])]⟩, (.bool false), [none, some (is [0, 0, 12, 0, 0]), some (is [0, 0, 0, 0, 0]), some c14, some [(i 0)], none, some [(i 1)], some (is [0, 1])]),
  (⟨⟨10, [], 10⟩, [(.ptr 3 0), (i 3)], [none, some (is [0, 0, 12, 0, 0]), some (is [0, 0, 0, 0, 0]), some c14, some [(i 0)], none, some [(i 1)], none, some [(i 2)], some (is [0, 1, 2])]⟩, (.bool false), [none, some (is [0, 0, 12, 0, 0]), some (is [0, 0, 0, 0, 0]), some c14, some [(i 0)], none, some [(i 1)], none, some [(i 2)], some (is [0, 1, 2])]),
  (⟨⟨12, [], 12⟩, [(.ptr 3 0), (i 4)], [none, some (is [0, 0, 12, 0, 0]), some (is [0, 0, 0, 0, 0]), some c14, some [(i 0)], none, some [(i 1)], none, some [(i 2)], none, some [(i 3)], some (is [0, 1, 2, 3])]⟩, (.bool false), [none, some (is [0, 0, 12, 0, 0]), some (is [0, 0, 0, 0, 0]), some c14, some [(i 0)], none, some [(i 1)], none, some [(i 2)], none, some [(i 3)], some (is [0, 1, 2, 3])]),
  (⟨⟨5, [], 5⟩, [(.ptr 3 0), (i 0)], c16⟩, (.bool false), c16),
  (⟨⟨5, [], 5⟩, [(.ptr 3 0), (i 1)], c16⟩, (.bool false), c16),
  (⟨⟨5, [], 5⟩, [(.ptr 3 0), (i 2)], c16⟩, (.bool false), c16),
  (⟨⟨5, [], 5⟩, [(.ptr 3 0), (i 3)], c16⟩, (.bool false), c16),
  (⟨⟨5, [], 5⟩, [(.ptr 3 0), (i 4)], c16⟩, (.bool false), c16)]
theorem r92x0 : ∀ k r, t92[0]? = some (k, r) → K (primOf ps8) 40 k.cfg 92 k.args k.h = some r := by
  intro k r hk
  cases hk
  kernel_rfl
theorem r92x1 : ∀ k r, t92[1]? = some (k, r) → K (primOf ps8) 40 k.cfg 92 k.args k.h = some r := by
  intro k r hk
  cases hk
  kernel_rfl
theorem r92x2 : ∀ k r, t92[2]? = some (k, r) → K (primOf ps8) 40 k.cfg 92 k.args k.h = some r := by
  intro k r hk
  cases hk
  kernel_rfl
theorem r92x3 : ∀ k r, t92[3]? = some (k, r) → K (primOf ps8) 40 k.cfg 92 k.args k.h = some r := by
  intro k r hk
  cases hk
  kernel_rfl
theorem r92x4 : ∀ k r, t92[4]? = some (k, r) → K (primOf ps8) 40 k.cfg 92 k.args k.h = some r := by
  intro k r hk
  cases hk
  kernel_rfl
theorem r92x5 : ∀ k r, t92[5]? = some (k, r) → K (primOf ps8) 40 k.cfg 92 k.args k.h = some r := by
  intro k r hk
  cases hk
  kernel_rfl
theorem r92x6 : ∀ k r, t92[6]? = some (k, r) → K (primOf ps8) 40 k.cfg 92 k.args k.h = some r := by
  intro k r hk
  cases hk
  kernel_rfl
theorem r92x7 : ∀ k r, t92[7]? = some (k, r) → K (primOf ps8) 40 k.cfg 92 k.args k.h = some r := by
  intro k r hk
  cases hk
  kernel_rfl
theorem r92x8 : ∀ k r, t92[8]? = some (k, r) → K (primOf ps8) 40 k.cfg 92 k.args k.h = some r := by
  intro k r hk
  cases hk
  kernel_rfl
theorem r92x9 : ∀ k r, t92[9]? = some (k, r) → K (primOf ps8) 40 k.cfg 92 k.args k.h = some r := by
  intro k r hk
  cases hk
  kernel_rfl
theorem ok92 : RowsOK Tryz.prog md (primOf ps8) 10000 40 92 t92 := (rows_cons (r92x0 _ _ rfl) (rows_cons (r92x1 _ _ rfl) (rows_cons (r92x2 _ _ rfl) (rows_cons (r92x3 _ _ rfl) (rows_cons (r92x4 _ _ rfl) (rows_cons (r92x5 _ _ rfl) (rows_cons (r92x6 _ _ rfl) (rows_cons (r92x7 _ _ rfl) (rows_cons (r92x8 _ _ rfl) (rows_cons (r92x9 _ _ rfl) rows_nil))))))))))
def ps9 : List (FuncId × Tbl) := (92, t92) :: ps8
theorem pk9 : ∀ f t, (f, t) ∈ ps9 → PrimOK Tryz.prog f (memoP t) := memo_cons pk8 (memo_ok hfol hnam (primOf_ok _ pk8) ok92)
/- (*widgetry/bidi.paragraph).pairs -/
def t113 : Tbl := [(⟨⟨6, [], 6⟩, [(.ptr 3 0), (.agg c23)], [none, some (is [0, 0, 12, 0, 0]), some (is [0, 0, 0, 0, 0]), some c14, some c23, some c23]⟩, .nils, [none, some (is [0, 0, 12, 0, 0]), some (is [0, 0, 0, 0, 0]), some c14, some c23, some c23, some c23])]
theorem r113x0 : ∀ k r, t113[0]? = some (k, r) → K (primOf ps9) 40 k.cfg 113 k.args k.h = some r := by
  intro k r hk
  cases hk
  kernel_rfl
theorem ok113 : RowsOK Tryz.prog md (primOf ps9) 10000 40 113 t113 := (rows_cons (r113x0 _ _ rfl) rows_nil)
def ps10 : List (FuncId × Tbl) := (113, t113) :: ps9
theorem pk10 : ∀ f t, (f, t) ∈ ps10 → PrimOK Tryz.prog f (memoP t) := memo_cons pk9 (memo_ok hfol hnam (primOf_ok _ pk9) ok113)
/- char.search -/
def t103 : Tbl := [(⟨⟨0, [], 0⟩, [c4, (r 97)], []⟩, (.agg c28), [some c28]),
  (⟨⟨0, [], 0⟩, [c4, (r 98)], []⟩, (.agg c28), [some c28]),
  (⟨⟨0, [], 0⟩, [c4, (r 32)], []⟩, (.agg [(r 32), (r 32), (.int .u8 0), (.int .u8 2), (.int .u8 4), (.int .u8 12), (.int .u8 0)]), [some [(r 32), (r 32), (.int .u8 0), (.int .u8 2), (.int .u8 4), (.int .u8 12), (.int .u8 0)]]),
  (⟨⟨0, [], 0⟩, [c4, (r 99)], []⟩, (.agg c28), [some c28]),
  (⟨⟨0, [], 0⟩, [c4, (r 100)], []⟩, (.agg c28), [some c28])]
theorem r103x0 : ∀ k r, t103[0]? = some (k, r) → K (primOf ps10) 40 k.cfg 103 k.args k.h = some r := by
  intro k r hk
  cases hk
  kernel_rfl
theorem r103x1 : ∀ k r, t103[1]? = some (k, r) → K (primOf ps10) 40 k.cfg 103 k.args k.h = some r := by
  intro k r hk
  cases hk
  kernel_rfl
theorem r103x2 : ∀ k r, t103[2]? = some (k, r) → K (primOf ps10) 40 k.cfg 103 k.args k.h = some r := by
  intro k r hk
  cases hk
  kernel_rfl
theorem r103x3 : ∀ k r, t103[3]? = some (k, r) → K (primOf ps10) 40 k.cfg 103 k.args k.h = some r := by
  intro k r hk
  cases hk
  kernel_rfl
theorem r103x4 : ∀ k r, t103[4]? = some (k, r) → K (primOf ps10) 40 k.cfg 103 k.args k.h = some r := by
  intro k r hk
  cases hk
  kernel_rfl
theorem ok103 : RowsOK Tryz.prog md (primOf ps10) 10000 40 103 t103 := (rows_cons (r103x0 _ _ rfl) (rows_cons (r103x1 _ _ rfl) (rows_cons (r103x2 _ _ rfl) (rows_cons (r103x3 _ _ rfl) (rows_cons (r103x4 _ _ rfl) rows_nil)))))
def ps11 : List (FuncId × Tbl) := (103, t103) :: ps10
theorem pk11 : ∀ f t, (f, t) ∈ ps11 → PrimOK Tryz.prog f (memoP t) := memo_cons pk10 (memo_ok hfol hnam (primOf_ok _ pk10) ok103)
/- segment.Clusters -/
def t40 : Tbl := [(⟨⟨0, [], 0⟩, [c32], []⟩, (.sl 11 0 6 6 1), [some (is [0, 0, 0, 0, 0]), none, some [(i 1)], none, some [(i 2)], none, some [(i 3)], none, some [(i 4)], none, some [(i 5)], some (is [0, 1, 2, 3, 4, 5])])]
theorem r40x0 : ∀ k r, t40[0]? = some (k, r) → K (primOf ps11) 40 k.cfg 40 k.args k.h = some r := by
  intro k r hk
  cases hk
  kernel_rfl
theorem ok40 : RowsOK Tryz.prog md (primOf ps11) 10000 40 40 t40 := (rows_cons (r40x0 _ _ rfl) rows_nil)
def ps12 : List (FuncId × Tbl) := (40, t40) :: ps11
theorem pk12 : ∀ f t, (f, t) ∈ ps12 → PrimOK Tryz.prog f (memoP t) := memo_cons pk11 (memo_ok hfol hnam (primOf_ok _ pk11) ok40)
/- linebreak.classify -/
def t54 : Tbl := [(⟨⟨0, [], 0⟩, [c32], []⟩, (.agg [(.sl 1 0 5 5 1), (.sl 2 0 5 5 1), (.sl 3 0 6 6 1)]), [some [(.sl 1 0 5 5 1), (.sl 2 0 5 5 1), (.sl 3 0 6 6 1)], some (is [0, 0, 4, 0, 0]), some (is [0, 0, 4, 0, 0]), some c7, some [(.sl 1 0 5 5 1), (.sl 2 0 5 5 1), (.sl 3 0 6 6 1)]])]
theorem r54x0 : ∀ k r, t54[0]? = some (k, r) → K (primOf ps12) 40 k.cfg 54 k.args k.h = some r := by
  intro k r hk
  cases hk
  kernel_rfl
theorem ok54 : RowsOK Tryz.prog md (primOf ps12) 10000 40 54 t54 := (rows_cons (r54x0 _ _ rfl) rows_nil)
def ps13 : List (FuncId × Tbl) := (54, t54) :: ps12
theorem pk13 : ∀ f t, (f, t) ∈ ps13 → PrimOK Tryz.prog f (memoP t) := memo_cons pk12 (memo_ok hfol hnam (primOf_ok _ pk12) ok54)
/- linebreak.Breaks -/
def t39 : Tbl := [(⟨⟨0, [], 0⟩, [c32], []⟩, (.sl 1 0 5 5 1), [some c19, some (is [0, 0, 1, 0, 2])])]
theorem r39x0 : ∀ k r, t39[0]? = some (k, r) → K (primOf ps13) 40 k.cfg 39 k.args k.h = some r := by
  intro k r hk
  cases hk
  kernel_rfl
theorem ok39 : RowsOK Tryz.prog md (primOf ps13) 10000 40 39 t39 := (rows_cons (r39x0 _ _ rfl) rows_nil)
def ps14 : List (FuncId × Tbl) := (39, t39) :: ps13
theorem pk14 : ∀ f t, (f, t) ∈ ps14 → PrimOK Tryz.prog f (memoP t) := memo_cons pk13 (memo_ok hfol hnam (primOf_ok _ pk13) ok39)
/- shape.Forms -/
def t58 : Tbl := [(⟨⟨0, [], 0⟩, [c32], []⟩, (.sl 0 0 5 5 1), [some (is [0, 0, 0, 0, 0])])]
theorem r58x0 : ∀ k r, t58[0]? = some (k, r) → K (primOf ps14) 40 k.cfg 58 k.args k.h = some r := by
  intro k r hk
  cases hk
  kernel_rfl
theorem ok58 : RowsOK Tryz.prog md (primOf ps14) 10000 40 58 t58 := (rows_cons (r58x0 _ _ rfl) rows_nil)
def ps15 : List (FuncId × Tbl) := (58, t58) :: ps14
theorem pk15 : ∀ f t, (f, t) ∈ ps15 → PrimOK Tryz.prog f (memoP t) := memo_cons pk14 (memo_ok hfol hnam (primOf_ok _ pk14) ok58)
/- shape.Prepare -/
def t41 : Tbl := [(⟨⟨2, [], 2⟩, [c32], [some c10, some c10]⟩, (.agg c2), [some c10, some c10, some c2, some c7, some [(.mq [])], some [(.mq [])], some c2]),
  (⟨⟨2, [], 2⟩, [c32], [some c13, some c13]⟩, (.agg c2), [some c13, some c13, some c2, some c7, some [(.mq [])], some [(.mq [])], some c2])]
theorem r41x0 : ∀ k r, t41[0]? = some (k, r) → K (primOf ps15) 40 k.cfg 41 k.args k.h = some r := by
  intro k r hk
  cases hk
  kernel_rfl
theorem r41x1 : ∀ k r, t41[1]? = some (k, r) → K (primOf ps15) 40 k.cfg 41 k.args k.h = some r := by
  intro k r hk
  cases hk
  kernel_rfl
theorem ok41 : RowsOK Tryz.prog md (primOf ps15) 10000 40 41 t41 := (rows_cons (r41x0 _ _ rfl) (rows_cons (r41x1 _ _ rfl) rows_nil))
def ps16 : List (FuncId × Tbl) := (41, t41) :: ps15
theorem pk16 : ∀ f t, (f, t) ∈ ps16 → PrimOK Tryz.prog f (memoP t) := memo_cons pk15 (memo_ok hfol hnam (primOf_ok _ pk15) ok41)
/- bidi.Reset -/
def t62 : Tbl := [(⟨⟨0, [], 0⟩, [c32, (il [0, 0, 0, 0, 0]), (i 0), (i 0), (i 3)], []⟩, (.sl 1 0 3 3 1), [none, some (is [0, 0, 0])]),
  (⟨⟨0, [], 0⟩, [c32, (il [0, 0, 0, 0, 0]), (i 0), (i 0), (i 5)], []⟩, (.sl 1 0 5 5 1), [none, some (is [0, 0, 0, 0, 0])]),
  (⟨⟨0, [], 0⟩, [c32, (il [0, 0, 0, 0, 0]), (i 0), (i 3), (i 5)], []⟩, (.sl 1 0 2 2 1), [none, some (is [0, 0])])]
theorem r62x0 : ∀ k r, t62[0]? = some (k, r) → K (primOf ps16) 40 k.cfg 62 k.args k.h = some r := by
  intro k r hk
  cases hk
  kernel_rfl
theorem r62x1 : ∀ k r, t62[1]? = some (k, r) → K (primOf ps16) 40 k.cfg 62 k.args k.h = some r := by
  intro k r hk
  cases hk
  kernel_rfl
theorem r62x2 : ∀ k r, t62[2]? = some (k, r) → K (primOf ps16) 40 k.cfg 62 k.args k.h = some r := by
  intro k r hk
  cases hk
  kernel_rfl
theorem ok62 : RowsOK Tryz.prog md (primOf ps16) 10000 40 62 t62 := (rows_cons (r62x0 _ _ rfl) (rows_cons (r62x1 _ _ rfl) (rows_cons (r62x2 _ _ rfl) rows_nil)))
def ps17 : List (FuncId × Tbl) := (62, t62) :: ps16
theorem pk17 : ∀ f t, (f, t) ∈ ps17 → PrimOK Tryz.prog f (memoP t) := memo_cons pk16 (memo_ok hfol hnam (primOf_ok _ pk16) ok62)
/- bidi.classes -/
def t82 : Tbl := [(⟨⟨0, [], 0⟩, [c32], []⟩, (.sl 0 0 5 5 1), [some (is [0, 0, 12, 0, 0])])]
theorem r82x0 : ∀ k r, t82[0]? = some (k, r) → K (primOf ps17) 40 k.cfg 82 k.args k.h = some r := by
  intro k r hk
  cases hk
  kernel_rfl
theorem ok82 : RowsOK Tryz.prog md (primOf ps17) 10000 40 82 t82 := (rows_cons (r82x0 _ _ rfl) rows_nil)
def ps18 : List (FuncId × Tbl) := (82, t82) :: ps17
theorem pk18 : ∀ f t, (f, t) ∈ ps18 → PrimOK Tryz.prog f (memoP t) := memo_cons pk17 (memo_ok hfol hnam (primOf_ok _ pk17) ok82)
/- bidi.Levels -/
def t60 : Tbl := [(⟨⟨0, [], 0⟩, [c32, (i 0)], []⟩, (.sl 2 0 5 5 1), c16)]
theorem r60x0 : ∀ k r, t60[0]? = some (k, r) → K (primOf ps18) 40 k.cfg 60 k.args k.h = some r := by
  intro k r hk
  cases hk
  kernel_rfl
theorem ok60 : RowsOK Tryz.prog md (primOf ps18) 10000 40 60 t60 := (rows_cons (r60x0 _ _ rfl) rows_nil)
def ps19 : List (FuncId × Tbl) := (60, t60) :: ps18
theorem pk19 : ∀ f t, (f, t) ∈ ps19 → PrimOK Tryz.prog f (memoP t) := memo_cons pk18 (memo_ok hfol hnam (primOf_ok _ pk18) ok60)
/- (*widgetry/paragraph.text).section -/
def t42 : Tbl := [(⟨⟨20, [], 20⟩, [(.ptr 8 0), (i 0), (i 5)], [some c10, some c10, some c2, some c7, some [(.mq [])], some [(.mq [])], some c2, some c7, some [c32, (.lst [(is [0, 5, 0, 100])]), (i 0), (i 0), (i 120), (.lst [c11]), (il [0, 0, 1, 0, 2]), (il [0, 1, 2, 3, 4, 5]), (.sl 7 0 6 6 1), (.sl 19 0 5 5 1), c32, (il [0, 0, 0, 0, 0]), (.sl 3 0 6 6 1), (.mref 4), (.mref 5), .nils], some (is [0, 5, 0, 100]), some [(i 0)], none, some [(i 0)], none, some [(i 0)], none, some [(i 0)], none, some [(i 0)], some (is [0, 0, 0, 0, 0])]⟩, (.agg c6), [some c10, some c10, some c2, some c7, some [(.mq [])], some [(.mq [])], some c2, some c7, some [c32, (.lst [(is [0, 5, 0, 100])]), (i 0), (i 0), (i 120), (.lst [c11]), (il [0, 0, 1, 0, 2]), (il [0, 1, 2, 3, 4, 5]), (.sl 7 0 6 6 1), (.sl 19 0 5 5 1), c32, (il [0, 0, 0, 0, 0]), (.sl 3 0 6 6 1), (.mref 4), (.mref 5), .nils], some (is [0, 5, 0, 100]), some [(i 0)], none, some [(i 0)], none, some [(i 0)], none, some [(i 0)], none, some [(i 0)], some (is [0, 0, 0, 0, 0]), some c6]),
  (⟨⟨20, [], 20⟩, [(.ptr 8 0), (i 0), (i 5)], [some c13, some c13, some c2, some c7, some [(.mq [])], some [(.mq [])], some c2, some c7, some [c32, (.lst [(is [0, 5, 0, 100])]), (i 0), (i 0), (i 0), (.lst [c11]), (il [0, 0, 1, 0, 2]), (il [0, 1, 2, 3, 4, 5]), (.sl 7 0 6 6 1), (.sl 19 0 5 5 1), c32, (il [0, 0, 0, 0, 0]), (.sl 3 0 6 6 1), (.mref 4), (.mref 5), .nils], some (is [0, 5, 0, 100]), some [(i 0)], none, some [(i 0)], none, some [(i 0)], none, some [(i 0)], none, some [(i 0)], some (is [0, 0, 0, 0, 0])]⟩, (.agg c6), [some c13, some c13, some c2, some c7, some [(.mq [])], some [(.mq [])], some c2, some c7, some [c32, (.lst [(is [0, 5, 0, 100])]), (i 0), (i 0), (i 0), (.lst [c11]), (il [0, 0, 1, 0, 2]), (il [0, 1, 2, 3, 4, 5]), (.sl 7 0 6 6 1), (.sl 19 0 5 5 1), c32, (il [0, 0, 0, 0, 0]), (.sl 3 0 6 6 1), (.mref 4), (.mref 5), .nils], some (is [0, 5, 0, 100]), some [(i 0)], none, some [(i 0)], none, some [(i 0)], none, some [(i 0)], none, some [(i 0)], some (is [0, 0, 0, 0, 0]), some c6])]
theorem r42x0 : ∀ k r, t42[0]? = some (k, r) → K (primOf ps19) 40 k.cfg 42 k.args k.h = some r := by
  intro k r hk
  cases hk
  kernel_rfl
theorem r42x1 : ∀ k r, t42[1]? = some (k, r) → K (primOf ps19) 40 k.cfg 42 k.args k.h = some r := by
  intro k r hk
  cases hk
  kernel_rfl
theorem ok42 : RowsOK Tryz.prog md (primOf ps19) 10000 40 42 t42 := (rows_cons (r42x0 _ _ rfl) (rows_cons (r42x1 _ _ rfl) rows_nil))
def ps20 : List (FuncId × Tbl) := (42, t42) :: ps19
theorem pk20 : ∀ f t, (f, t) ∈ ps20 → PrimOK Tryz.prog f (memoP t) := memo_cons pk19 (memo_ok hfol hnam (primOf_ok _ pk19) ok42)
/- paragraph.analyze -/
def t30 : Tbl := [(⟨⟨0, [], 0⟩, [(.agg c10), (.lst [c11])], [some c10]⟩, (.ptr 8 0), [some c10, some c10, some c2, some c7, some [(.mq [])], some [(.mq [])], some c2, some c7, some c3, some (is [0, 5, 0, 100]), some [(i 0)], none, some [(i 0)], none, some [(i 0)], none, some [(i 0)], none, some [(i 0)], some (is [0, 0, 0, 0, 0]), some c6, some c6]),
  (⟨⟨0, [], 0⟩, [(.agg c13), (.lst [c11])], [some c13]⟩, (.ptr 8 0), [some c13, some c13, some c2, some c7, some [(.mq [])], some [(.mq [])], some c2, some c7, some c9, some (is [0, 5, 0, 100]), some [(i 0)], none, some [(i 0)], none, some [(i 0)], none, some [(i 0)], none, some [(i 0)], some (is [0, 0, 0, 0, 0]), some c6, some c6])]
theorem r30x0 : ∀ k r, t30[0]? = some (k, r) → K (primOf ps20) 40 k.cfg 30 k.args k.h = some r := by
  intro k r hk
  cases hk
  kernel_rfl
theorem r30x1 : ∀ k r, t30[1]? = some (k, r) → K (primOf ps20) 40 k.cfg 30 k.args k.h = some r := by
  intro k r hk
  cases hk
  kernel_rfl
theorem ok30 : RowsOK Tryz.prog md (primOf ps20) 10000 40 30 t30 := (rows_cons (r30x0 _ _ rfl) (rows_cons (r30x1 _ _ rfl) rows_nil))
def ps21 : List (FuncId × Tbl) := (30, t30) :: ps20
theorem pk21 : ∀ f t, (f, t) ∈ ps21 → PrimOK Tryz.prog f (memoP t) := memo_cons pk20 (memo_ok hfol hnam (primOf_ok _ pk20) ok30)
/- font.Validate -/
def t14 : Tbl := [(⟨⟨0, [], 0⟩, [(.agg c11)], []⟩, (i 0), [some c11])]
theorem r14x0 : ∀ k r, t14[0]? = some (k, r) → K (primOf ps21) 40 k.cfg 14 k.args k.h = some r := by
  intro k r hk
  cases hk
  kernel_rfl
theorem ok14 : RowsOK Tryz.prog md (primOf ps21) 10000 40 14 t14 := (rows_cons (r14x0 _ _ rfl) rows_nil)
def ps22 : List (FuncId × Tbl) := (14, t14) :: ps21
theorem pk22 : ∀ f t, (f, t) ∈ ps22 → PrimOK Tryz.prog f (memoP t) := memo_cons pk21 (memo_ok hfol hnam (primOf_ok _ pk21) ok14)
/- paragraph.Validate -/
def t9 : Tbl := [(⟨⟨0, [], 0⟩, [(.agg c10), (.lst [c11])], []⟩, (i 0), [some c10, some (is [0, 5, 0, 100]), some c11]),
  (⟨⟨0, [], 0⟩, [(.agg c13), (.lst [c11])], []⟩, (i 0), [some c13, some (is [0, 5, 0, 100]), some c11])]
theorem r9x0 : ∀ k r, t9[0]? = some (k, r) → K (primOf ps22) 40 k.cfg 9 k.args k.h = some r := by
  intro k r hk
  cases hk
  kernel_rfl
theorem r9x1 : ∀ k r, t9[1]? = some (k, r) → K (primOf ps22) 40 k.cfg 9 k.args k.h = some r := by
  intro k r hk
  cases hk
  kernel_rfl
theorem ok9 : RowsOK Tryz.prog md (primOf ps22) 10000 40 9 t9 := (rows_cons (r9x0 _ _ rfl) (rows_cons (r9x1 _ _ rfl) rows_nil))
def ps23 : List (FuncId × Tbl) := (9, t9) :: ps22
theorem pk23 : ∀ f t, (f, t) ∈ ps23 → PrimOK Tryz.prog f (memoP t) := memo_cons pk22 (memo_ok hfol hnam (primOf_ok _ pk22) ok9)
/- font.Advance -/
def t116 : Tbl := [(⟨⟨0, [], 0⟩, [(.agg c11), (i 100), (r 97)], []⟩, (i 50), [some c11]),
  (⟨⟨0, [], 0⟩, [(.agg c11), (i 100), (r 98)], []⟩, (i 50), [some c11]),
  (⟨⟨0, [], 0⟩, [(.agg c11), (i 100), (r 32)], []⟩, (i 50), [some c11]),
  (⟨⟨0, [], 0⟩, [(.agg c11), (i 100), (r 99)], []⟩, (i 50), [some c11]),
  (⟨⟨0, [], 0⟩, [(.agg c11), (i 100), (r 100)], []⟩, (i 50), [some c11])]
theorem r116x0 : ∀ k r, t116[0]? = some (k, r) → K (primOf ps23) 40 k.cfg 116 k.args k.h = some r := by
  intro k r hk
  cases hk
  kernel_rfl
theorem r116x1 : ∀ k r, t116[1]? = some (k, r) → K (primOf ps23) 40 k.cfg 116 k.args k.h = some r := by
  intro k r hk
  cases hk
  kernel_rfl
theorem r116x2 : ∀ k r, t116[2]? = some (k, r) → K (primOf ps23) 40 k.cfg 116 k.args k.h = some r := by
  intro k r hk
  cases hk
  kernel_rfl
theorem r116x3 : ∀ k r, t116[3]? = some (k, r) → K (primOf ps23) 40 k.cfg 116 k.args k.h = some r := by
  intro k r hk
  cases hk
  kernel_rfl
theorem r116x4 : ∀ k r, t116[4]? = some (k, r) → K (primOf ps23) 40 k.cfg 116 k.args k.h = some r := by
  intro k r hk
  cases hk
  kernel_rfl
theorem ok116 : RowsOK Tryz.prog md (primOf ps23) 10000 40 116 t116 := (rows_cons (r116x0 _ _ rfl) (rows_cons (r116x1 _ _ rfl) (rows_cons (r116x2 _ _ rfl) (rows_cons (r116x3 _ _ rfl) (rows_cons (r116x4 _ _ rfl) rows_nil)))))
def ps24 : List (FuncId × Tbl) := (116, t116) :: ps23
theorem pk24 : ∀ f t, (f, t) ∈ ps24 → PrimOK Tryz.prog f (memoP t) := memo_cons pk23 (memo_ok hfol hnam (primOf_ok _ pk23) ok116)
/- font.Descent -/
def t48 : Tbl := [(⟨⟨0, [], 0⟩, [(.agg c11), (i 100)], []⟩, (i 20), [some c11])]
theorem r48x0 : ∀ k r, t48[0]? = some (k, r) → K (primOf ps24) 40 k.cfg 48 k.args k.h = some r := by
  intro k r hk
  cases hk
  kernel_rfl
theorem ok48 : RowsOK Tryz.prog md (primOf ps24) 10000 40 48 t48 := (rows_cons (r48x0 _ _ rfl) rows_nil)
def ps25 : List (FuncId × Tbl) := (48, t48) :: ps24
theorem pk25 : ∀ f t, (f, t) ∈ ps25 → PrimOK Tryz.prog f (memoP t) := memo_cons pk24 (memo_ok hfol hnam (primOf_ok _ pk24) ok48)
/- font.Ascent -/
def t47 : Tbl := [(⟨⟨0, [], 0⟩, [(.agg c11), (i 100)], []⟩, (i 80), [some c11])]
theorem r47x0 : ∀ k r, t47[0]? = some (k, r) → K (primOf ps25) 40 k.cfg 47 k.args k.h = some r := by
  intro k r hk
  cases hk
  kernel_rfl
theorem ok47 : RowsOK Tryz.prog md (primOf ps25) 10000 40 47 t47 := (rows_cons (r47x0 _ _ rfl) rows_nil)
def ps26 : List (FuncId × Tbl) := (47, t47) :: ps25
theorem pk26 : ∀ f t, (f, t) ∈ ps26 → PrimOK Tryz.prog f (memoP t) := memo_cons pk25 (memo_ok hfol hnam (primOf_ok _ pk25) ok47)
/- font.Height -/
def t49 : Tbl := [(⟨⟨0, [], 0⟩, [(.agg c11), (i 100)], []⟩, (i 100), [some c11])]
theorem r49x0 : ∀ k r, t49[0]? = some (k, r) → K (primOf ps26) 40 k.cfg 49 k.args k.h = some r := by
  intro k r hk
  cases hk
  kernel_rfl
theorem ok49 : RowsOK Tryz.prog md (primOf ps26) 10000 40 49 t49 := (rows_cons (r49x0 _ _ rfl) rows_nil)
def ps27 : List (FuncId × Tbl) := (49, t49) :: ps26
theorem pk27 : ∀ f t, (f, t) ∈ ps27 → PrimOK Tryz.prog f (memoP t) := memo_cons pk26 (memo_ok hfol hnam (primOf_ok _ pk26) ok49)
/- (widgetry/shape.Prepared).Run -/
def t64 : Tbl := [(⟨⟨24, [4, 5], 31⟩, [(.agg c2), (.agg c11), (i 0), (i 100), (i 0), (i 3), (.bool false)], [some c10, some c10, some c2, some c7, some [(.mq [])], some [(.mq [])], some c2, some c7, some c3, some (is [0, 5, 0, 100]), some [(i 0)], none, some [(i 0)], none, some [(i 0)], none, some [(i 0)], none, some [(i 0)], some (is [0, 0, 0, 0, 0]), some c6, some c6, some c6, some c6, some c6, some c6, some (is [0, 0, 0]), some (is [0, 0]), some (is [0, 3]), some [(.bool true)], some (is [0, 5, 0, 100])]⟩, (.sl 54 0 3 3 8), [some c10, some c10, some c2, some c7, some c12, some c15, some c2, some c7, some c3, some (is [0, 5, 0, 100]), some [(i 0)], none, some [(i 0)], none, some [(i 0)], none, some [(i 0)], none, some [(i 0)], some (is [0, 0, 0, 0, 0]), some c6, some c6, some c6, some c6, some c6, some c6, some (is [0, 0, 0]), some (is [0, 0]), some (is [0, 3]), some [(.bool true)], some (is [0, 5, 0, 100]), some c2, some c11, some c21, some c21, none, some c26, some c26, none, some c27, some c27, some (is [97, 0, 0, 1, 0, 50, 0, 100, 98, 0, 1, 2, 0, 50, 0, 100, 32, 0, 2, 3, 0, 50, 0, 100]), some c2, some c11, some c21, some c18, some c21, none, some c26, some c18, some c26, none, some c27, some c27, some c24, some c2, some c11]),
  (⟨⟨24, [4, 5], 31⟩, [(.agg c2), (.agg c11), (i 0), (i 100), (i 0), (i 5), (.bool false)], [some c10, some c10, some c2, some c7, some c12, some c15, some c2, some c7, some c3, some (is [0, 5, 0, 100]), some [(i 0)], none, some [(i 0)], none, some [(i 0)], none, some [(i 0)], none, some [(i 0)], some (is [0, 0, 0, 0, 0]), some c6, some c6, some c6, some c6, some c6, some c6, some (is [0, 0, 0, 0, 0]), some (is [0, 0]), some (is [0, 5]), some [(.bool true)], some (is [0, 5, 0, 100])]⟩, (.sl 68 0 5 5 8), [some c10, some c10, some c2, some c7, some c1, some c5, some c2, some c7, some c3, some (is [0, 5, 0, 100]), some [(i 0)], none, some [(i 0)], none, some [(i 0)], none, some [(i 0)], none, some [(i 0)], some (is [0, 0, 0, 0, 0]), some c6, some c6, some c6, some c6, some c6, some c6, some (is [0, 0, 0, 0, 0]), some (is [0, 0]), some (is [0, 5]), some [(.bool true)], some (is [0, 5, 0, 100]), some c2, some c11, some c21, some c21, none, some c26, some c26, none, some c27, some c27, none, some c20, some c20, none, some c25, some c25, some (is [97, 0, 0, 1, 0, 50, 0, 100, 98, 0, 1, 2, 0, 50, 0, 100, 32, 0, 2, 3, 0, 50, 0, 100, 99, 0, 3, 4, 0, 50, 0, 100, 100, 0, 4, 5, 0, 50, 0, 100]), some c2, some c11, some c21, some c18, some c21, none, some c26, some c18, some c26, none, some c27, some c18, some c27, none, some c20, some c18, some c20, none, some c25, some c25, some c22, some c2, some c11]),
  (⟨⟨25, [4, 5], 31⟩, [(.agg c2), (.agg c11), (i 0), (i 100), (i 0), (i 3), (.bool false)], [some c10, some c10, some c2, some c7, some c1, some c5, some c2, some c7, some c3, some (is [0, 5, 0, 100]), some [(i 0)], none, some [(i 0)], none, some [(i 0)], none, some [(i 0)], none, some [(i 0)], some (is [0, 0, 0, 0, 0]), some c6, some c6, some c6, some c6, some c31, some c6, some (is [0, 0, 0]), some (is [0, 0]), some (is [0, 3]), some [(.bool true)], some (is [0, 5, 0, 100])]⟩, (.sl 54 0 3 3 8), [some c10, some c10, some c2, some c7, some c1, some c5, some c2, some c7, some c3, some (is [0, 5, 0, 100]), some [(i 0)], none, some [(i 0)], none, some [(i 0)], none, some [(i 0)], none, some [(i 0)], some (is [0, 0, 0, 0, 0]), some c6, some c6, some c6, some c6, some c31, some c6, some (is [0, 0, 0]), some (is [0, 0]), some (is [0, 3]), some [(.bool true)], some (is [0, 5, 0, 100]), some c2, some c11, some c21, some c21, none, some c26, some c26, none, some c27, some c27, some (is [97, 0, 0, 1, 0, 50, 0, 100, 98, 0, 1, 2, 0, 50, 0, 100, 32, 0, 2, 3, 0, 50, 0, 100]), some c2, some c11, some c21, some c18, some c21, none, some c26, some c18, some c26, none, some c27, some c27, some c24, some c2, some c11]),
  (⟨⟨27, [4, 5], 34⟩, [(.agg c2), (.agg c11), (i 0), (i 100), (i 3), (i 5), (.bool false)], [some c10, some c10, some c2, some c7, some c1, some c5, some c2, some c7, some c3, some (is [0, 5, 0, 100]), some [(i 0)], none, some [(i 0)], none, some [(i 0)], none, some [(i 0)], none, some [(i 0)], some (is [0, 0, 0, 0, 0]), some c6, some c6, some c6, some c8, some c8, some c8, some c6, some c6, some c6, some (is [0, 0]), some (is [3, 3]), some (is [3, 5]), some [(.bool true)], some (is [0, 5, 0, 100])]⟩, (.sl 50 0 2 2 8), [some c10, some c10, some c2, some c7, some c1, some c5, some c2, some c7, some c3, some (is [0, 5, 0, 100]), some [(i 0)], none, some [(i 0)], none, some [(i 0)], none, some [(i 0)], none, some [(i 0)], some (is [0, 0, 0, 0, 0]), some c6, some c6, some c6, some c8, some c8, some c8, some c6, some c6, some c6, some (is [0, 0]), some (is [3, 3]), some (is [3, 5]), some [(.bool true)], some (is [0, 5, 0, 100]), some c2, some c11, some c20, some c20, none, some c25, some c25, some (is [99, 0, 3, 4, 0, 50, 0, 100, 100, 0, 4, 5, 0, 50, 0, 100]), some c2, some c11, some c20, some c18, some c20, none, some c25, some c25, some c30, some c2, some c11]),
  (⟨⟨28, [4, 5], 34⟩, [(.agg c2), (.agg c11), (i 0), (i 100), (i 3), (i 5), (.bool false)], [some c10, some c10, some c2, some c7, some c1, some c5, some c2, some c7, some c3, some (is [0, 5, 0, 100]), some [(i 0)], none, some [(i 0)], none, some [(i 0)], none, some [(i 0)], none, some [(i 0)], some (is [0, 0, 0, 0, 0]), some c6, some c6, some c6, some c8, some c8, some c8, some c6, some c31, some c6, some (is [0, 0]), some (is [3, 3]), some (is [3, 5]), some [(.bool true)], some (is [0, 5, 0, 100])]⟩, (.sl 50 0 2 2 8), [some c10, some c10, some c2, some c7, some c1, some c5, some c2, some c7, some c3, some (is [0, 5, 0, 100]), some [(i 0)], none, some [(i 0)], none, some [(i 0)], none, some [(i 0)], none, some [(i 0)], some (is [0, 0, 0, 0, 0]), some c6, some c6, some c6, some c8, some c8, some c8, some c6, some c31, some c6, some (is [0, 0]), some (is [3, 3]), some (is [3, 5]), some [(.bool true)], some (is [0, 5, 0, 100]), some c2, some c11, some c20, some c20, none, some c25, some c25, some (is [99, 0, 3, 4, 0, 50, 0, 100, 100, 0, 4, 5, 0, 50, 0, 100]), some c2, some c11, some c20, some c18, some c20, none, some c25, some c25, some c30, some c2, some c11]),
  (⟨⟨0, [], 30⟩, [(.agg c2), (.agg c11), (i 0), (i 100), (i 0), (i 3), (.bool false)], [some c13, some c13, some c2, some c7, some [(.mq [])], some [(.mq [])], some c2, some c7, some c9, some (is [0, 5, 0, 100]), some [(i 0)], none, some [(i 0)], none, some [(i 0)], none, some [(i 0)], none, some [(i 0)], some (is [0, 0, 0, 0, 0]), some c6, some c6, some c6, some c6, some c6, some (is [0, 0, 0]), some (is [0, 0]), some (is [0, 3]), some [(.bool true)], some (is [0, 5, 0, 100])]⟩, (.sl 53 0 3 3 8), [some c13, some c13, some c2, some c7, some c12, some c15, some c2, some c7, some c9, some (is [0, 5, 0, 100]), some [(i 0)], none, some [(i 0)], none, some [(i 0)], none, some [(i 0)], none, some [(i 0)], some (is [0, 0, 0, 0, 0]), some c6, some c6, some c6, some c6, some c6, some (is [0, 0, 0]), some (is [0, 0]), some (is [0, 3]), some [(.bool true)], some (is [0, 5, 0, 100]), some c2, some c11, some c21, some c21, none, some c26, some c26, none, some c27, some c27, some (is [97, 0, 0, 1, 0, 50, 0, 100, 98, 0, 1, 2, 0, 50, 0, 100, 32, 0, 2, 3, 0, 50, 0, 100]), some c2, some c11, some c21, some c18, some c21, none, some c26, some c18, some c26, none, some c27, some c27, some c24, some c2, some c11]),
  (⟨⟨0, [], 30⟩, [(.agg c2), (.agg c11), (i 0), (i 100), (i 3), (i 5), (.bool false)], [some c13, some c13, some c2, some c7, some c12, some c15, some c2, some c7, some c9, some (is [0, 5, 0, 100]), some [(i 0)], none, some [(i 0)], none, some [(i 0)], none, some [(i 0)], none, some [(i 0)], some (is [0, 0, 0, 0, 0]), some c6, some c6, some c6, some c6, some c6, some (is [0, 0]), some (is [3, 3]), some (is [3, 5]), some [(.bool true)], some (is [0, 5, 0, 100])]⟩, (.sl 46 0 2 2 8), [some c13, some c13, some c2, some c7, some c17, some c29, some c2, some c7, some c9, some (is [0, 5, 0, 100]), some [(i 0)], none, some [(i 0)], none, some [(i 0)], none, some [(i 0)], none, some [(i 0)], some (is [0, 0, 0, 0, 0]), some c6, some c6, some c6, some c6, some c6, some (is [0, 0]), some (is [3, 3]), some (is [3, 5]), some [(.bool true)], some (is [0, 5, 0, 100]), some c2, some c11, some c20, some c20, none, some c25, some c25, some (is [99, 0, 3, 4, 0, 50, 0, 100, 100, 0, 4, 5, 0, 50, 0, 100]), some c2, some c11, some c20, some c18, some c20, none, some c25, some c25, some c30, some c2, some c11]),
  (⟨⟨0, [], 30⟩, [(.agg c2), (.agg c11), (i 0), (i 100), (i 0), (i 5), (.bool false)], [some c13, some c13, some c2, some c7, some c12, some c15, some c2, some c7, some c9, some (is [0, 5, 0, 100]), some [(i 0)], none, some [(i 0)], none, some [(i 0)], none, some [(i 0)], none, some [(i 0)], some (is [0, 0, 0, 0, 0]), some c6, some c6, some c6, some c6, some c6, some (is [0, 0, 0, 0, 0]), some (is [0, 0]), some (is [0, 5]), some [(.bool true)], some (is [0, 5, 0, 100])]⟩, (.sl 67 0 5 5 8), [some c13, some c13, some c2, some c7, some c1, some c5, some c2, some c7, some c9, some (is [0, 5, 0, 100]), some [(i 0)], none, some [(i 0)], none, some [(i 0)], none, some [(i 0)], none, some [(i 0)], some (is [0, 0, 0, 0, 0]), some c6, some c6, some c6, some c6, some c6, some (is [0, 0, 0, 0, 0]), some (is [0, 0]), some (is [0, 5]), some [(.bool true)], some (is [0, 5, 0, 100]), some c2, some c11, some c21, some c21, none, some c26, some c26, none, some c27, some c27, none, some c20, some c20, none, some c25, some c25, some (is [97, 0, 0, 1, 0, 50, 0, 100, 98, 0, 1, 2, 0, 50, 0, 100, 32, 0, 2, 3, 0, 50, 0, 100, 99, 0, 3, 4, 0, 50, 0, 100, 100, 0, 4, 5, 0, 50, 0, 100]), some c2, some c11, some c21, some c18, some c21, none, some c26, some c18, some c26, none, some c27, some c18, some c27, none, some c20, some c18, some c20, none, some c25, some c25, some c22, some c2, some c11])]
theorem r64x0 : ∀ k r, t64[0]? = some (k, r) → K (primOf ps27) 40 k.cfg 64 k.args k.h = some r := by
  intro k r hk
  cases hk
  kernel_rfl
theorem r64x1 : ∀ k r, t64[1]? = some (k, r) → K (primOf ps27) 40 k.cfg 64 k.args k.h = some r := by
  intro k r hk
  cases hk
  kernel_rfl
theorem r64x2 : ∀ k r, t64[2]? = some (k, r) → K (primOf ps27) 40 k.cfg 64 k.args k.h = some r := by
  intro k r hk
  cases hk
  kernel_rfl
theorem r64x3 : ∀ k r, t64[3]? = some (k, r) → K (primOf ps27) 40 k.cfg 64 k.args k.h = some r := by
  intro k r hk
  cases hk
  kernel_rfl
theorem r64x4 : ∀ k r, t64[4]? = some (k, r) → K (primOf ps27) 40 k.cfg 64 k.args k.h = some r := by
  intro k r hk
  cases hk
  kernel_rfl
theorem r64x5 : ∀ k r, t64[5]? = some (k, r) → K (primOf ps27) 40 k.cfg 64 k.args k.h = some r := by
  intro k r hk
  cases hk
  kernel_rfl
theorem r64x6 : ∀ k r, t64[6]? = some (k, r) → K (primOf ps27) 40 k.cfg 64 k.args k.h = some r := by
  intro k r hk
  cases hk
  kernel_rfl
theorem r64x7 : ∀ k r, t64[7]? = some (k, r) → K (primOf ps27) 40 k.cfg 64 k.args k.h = some r := by
  intro k r hk
  cases hk
  kernel_rfl
theorem ok64 : RowsOK Tryz.prog md (primOf ps27) 10000 40 64 t64 := (rows_cons (r64x0 _ _ rfl) (rows_cons (r64x1 _ _ rfl) (rows_cons (r64x2 _ _ rfl) (rows_cons (r64x3 _ _ rfl) (rows_cons (r64x4 _ _ rfl) (rows_cons (r64x5 _ _ rfl) (rows_cons (r64x6 _ _ rfl) (rows_cons (r64x7 _ _ rfl) rows_nil))))))))
def ps28 : List (FuncId × Tbl) := (64, t64) :: ps27
theorem pk28 : ∀ f t, (f, t) ∈ ps28 → PrimOK Tryz.prog f (memoP t) := memo_cons pk27 (memo_ok hfol hnam (primOf_ok _ pk27) ok64)
/- (*widgetry/paragraph.text).glyphs -/
def t45 : Tbl := [(⟨⟨24, [4, 5], 24⟩, c35, [some c10, some c10, some c2, some c7, some [(.mq [])], some [(.mq [])], some c2, some c7, some c3, some (is [0, 5, 0, 100]), some [(i 0)], none, some [(i 0)], none, some [(i 0)], none, some [(i 0)], none, some [(i 0)], some (is [0, 0, 0, 0, 0]), some c6, some c6, some c6, some c6, some c6]⟩, (.sl 31 0 3 3 8), [some c10, some c10, some c2, some c7, some c12, some c15, some c2, some c7, some c3, some (is [0, 5, 0, 100]), some [(i 0)], none, some [(i 0)], none, some [(i 0)], none, some [(i 0)], none, some [(i 0)], some (is [0, 0, 0, 0, 0]), some c6, some c6, some c6, some c6, some c6, some c6, some (is [0, 0, 0]), some (is [0, 0]), some (is [0, 3]), some [(.bool true)], some (is [0, 5, 0, 100]), some c24]),
  (⟨⟨24, [4, 5], 24⟩, [(.ptr 8 0), (.agg c6), (i 0), (i 5)], [some c10, some c10, some c2, some c7, some c12, some c15, some c2, some c7, some c3, some (is [0, 5, 0, 100]), some [(i 0)], none, some [(i 0)], none, some [(i 0)], none, some [(i 0)], none, some [(i 0)], some (is [0, 0, 0, 0, 0]), some c6, some c6, some c6, some c6, some c6]⟩, (.sl 31 0 5 5 8), [some c10, some c10, some c2, some c7, some c1, some c5, some c2, some c7, some c3, some (is [0, 5, 0, 100]), some [(i 0)], none, some [(i 0)], none, some [(i 0)], none, some [(i 0)], none, some [(i 0)], some (is [0, 0, 0, 0, 0]), some c6, some c6, some c6, some c6, some c6, some c6, some (is [0, 0, 0, 0, 0]), some (is [0, 0]), some (is [0, 5]), some [(.bool true)], some (is [0, 5, 0, 100]), some c22]),
  (⟨⟨25, [4, 5], 25⟩, c35, [some c10, some c10, some c2, some c7, some c1, some c5, some c2, some c7, some c3, some (is [0, 5, 0, 100]), some [(i 0)], none, some [(i 0)], none, some [(i 0)], none, some [(i 0)], none, some [(i 0)], some (is [0, 0, 0, 0, 0]), some c6, some c6, some c6, some c6, some c31]⟩, (.sl 31 0 3 3 8), [some c10, some c10, some c2, some c7, some c1, some c5, some c2, some c7, some c3, some (is [0, 5, 0, 100]), some [(i 0)], none, some [(i 0)], none, some [(i 0)], none, some [(i 0)], none, some [(i 0)], some (is [0, 0, 0, 0, 0]), some c6, some c6, some c6, some c6, some c31, some c6, some (is [0, 0, 0]), some (is [0, 0]), some (is [0, 3]), some [(.bool true)], some (is [0, 5, 0, 100]), some c24]),
  (⟨⟨27, [4, 5], 27⟩, c34, [some c10, some c10, some c2, some c7, some c1, some c5, some c2, some c7, some c3, some (is [0, 5, 0, 100]), some [(i 0)], none, some [(i 0)], none, some [(i 0)], none, some [(i 0)], none, some [(i 0)], some (is [0, 0, 0, 0, 0]), some c6, some c6, some c6, some c8, some c8, some c8, some c6, some c6]⟩, (.sl 34 0 2 2 8), [some c10, some c10, some c2, some c7, some c1, some c5, some c2, some c7, some c3, some (is [0, 5, 0, 100]), some [(i 0)], none, some [(i 0)], none, some [(i 0)], none, some [(i 0)], none, some [(i 0)], some (is [0, 0, 0, 0, 0]), some c6, some c6, some c6, some c8, some c8, some c8, some c6, some c6, some c6, some (is [0, 0]), some (is [3, 3]), some (is [3, 5]), some [(.bool true)], some (is [0, 5, 0, 100]), some c30]),
  (⟨⟨28, [4, 5], 28⟩, c34, [some c10, some c10, some c2, some c7, some c1, some c5, some c2, some c7, some c3, some (is [0, 5, 0, 100]), some [(i 0)], none, some [(i 0)], none, some [(i 0)], none, some [(i 0)], none, some [(i 0)], some (is [0, 0, 0, 0, 0]), some c6, some c6, some c6, some c8, some c8, some c8, some c6, some c31]⟩, (.sl 34 0 2 2 8), [some c10, some c10, some c2, some c7, some c1, some c5, some c2, some c7, some c3, some (is [0, 5, 0, 100]), some [(i 0)], none, some [(i 0)], none, some [(i 0)], none, some [(i 0)], none, some [(i 0)], some (is [0, 0, 0, 0, 0]), some c6, some c6, some c6, some c8, some c8, some c8, some c6, some c31, some c6, some (is [0, 0]), some (is [3, 3]), some (is [3, 5]), some [(.bool true)], some (is [0, 5, 0, 100]), some c30]),
  (⟨⟨0, [], 23⟩, c35, [some c13, some c13, some c2, some c7, some [(.mq [])], some [(.mq [])], some c2, some c7, some c9, some (is [0, 5, 0, 100]), some [(i 0)], none, some [(i 0)], none, some [(i 0)], none, some [(i 0)], none, some [(i 0)], some (is [0, 0, 0, 0, 0]), some c6, some c6, some c6, some c6]⟩, (.sl 30 0 3 3 8), [some c13, some c13, some c2, some c7, some c12, some c15, some c2, some c7, some c9, some (is [0, 5, 0, 100]), some [(i 0)], none, some [(i 0)], none, some [(i 0)], none, some [(i 0)], none, some [(i 0)], some (is [0, 0, 0, 0, 0]), some c6, some c6, some c6, some c6, some c6, some (is [0, 0, 0]), some (is [0, 0]), some (is [0, 3]), some [(.bool true)], some (is [0, 5, 0, 100]), some c24]),
  (⟨⟨0, [], 23⟩, c34, [some c13, some c13, some c2, some c7, some c12, some c15, some c2, some c7, some c9, some (is [0, 5, 0, 100]), some [(i 0)], none, some [(i 0)], none, some [(i 0)], none, some [(i 0)], none, some [(i 0)], some (is [0, 0, 0, 0, 0]), some c6, some c6, some c6, some c6]⟩, (.sl 30 0 2 2 8), [some c13, some c13, some c2, some c7, some c17, some c29, some c2, some c7, some c9, some (is [0, 5, 0, 100]), some [(i 0)], none, some [(i 0)], none, some [(i 0)], none, some [(i 0)], none, some [(i 0)], some (is [0, 0, 0, 0, 0]), some c6, some c6, some c6, some c6, some c6, some (is [0, 0]), some (is [3, 3]), some (is [3, 5]), some [(.bool true)], some (is [0, 5, 0, 100]), some c30]),
  (⟨⟨0, [], 23⟩, [(.ptr 8 0), (.agg c6), (i 0), (i 5)], [some c13, some c13, some c2, some c7, some c12, some c15, some c2, some c7, some c9, some (is [0, 5, 0, 100]), some [(i 0)], none, some [(i 0)], none, some [(i 0)], none, some [(i 0)], none, some [(i 0)], some (is [0, 0, 0, 0, 0]), some c6, some c6, some c6, some c6]⟩, (.sl 30 0 5 5 8), [some c13, some c13, some c2, some c7, some c1, some c5, some c2, some c7, some c9, some (is [0, 5, 0, 100]), some [(i 0)], none, some [(i 0)], none, some [(i 0)], none, some [(i 0)], none, some [(i 0)], some (is [0, 0, 0, 0, 0]), some c6, some c6, some c6, some c6, some c6, some (is [0, 0, 0, 0, 0]), some (is [0, 0]), some (is [0, 5]), some [(.bool true)], some (is [0, 5, 0, 100]), some c22])]
theorem r45x0 : ∀ k r, t45[0]? = some (k, r) → K (primOf ps28) 40 k.cfg 45 k.args k.h = some r := by
  intro k r hk
  cases hk
  kernel_rfl
theorem r45x1 : ∀ k r, t45[1]? = some (k, r) → K (primOf ps28) 40 k.cfg 45 k.args k.h = some r := by
  intro k r hk
  cases hk
  kernel_rfl
theorem r45x2 : ∀ k r, t45[2]? = some (k, r) → K (primOf ps28) 40 k.cfg 45 k.args k.h = some r := by
  intro k r hk
  cases hk
  kernel_rfl
theorem r45x3 : ∀ k r, t45[3]? = some (k, r) → K (primOf ps28) 40 k.cfg 45 k.args k.h = some r := by
  intro k r hk
  cases hk
  kernel_rfl
theorem r45x4 : ∀ k r, t45[4]? = some (k, r) → K (primOf ps28) 40 k.cfg 45 k.args k.h = some r := by
  intro k r hk
  cases hk
  kernel_rfl
theorem r45x5 : ∀ k r, t45[5]? = some (k, r) → K (primOf ps28) 40 k.cfg 45 k.args k.h = some r := by
  intro k r hk
  cases hk
  kernel_rfl
theorem r45x6 : ∀ k r, t45[6]? = some (k, r) → K (primOf ps28) 40 k.cfg 45 k.args k.h = some r := by
  intro k r hk
  cases hk
  kernel_rfl
theorem r45x7 : ∀ k r, t45[7]? = some (k, r) → K (primOf ps28) 40 k.cfg 45 k.args k.h = some r := by
  intro k r hk
  cases hk
  kernel_rfl
theorem ok45 : RowsOK Tryz.prog md (primOf ps28) 10000 40 45 t45 := (rows_cons (r45x0 _ _ rfl) (rows_cons (r45x1 _ _ rfl) (rows_cons (r45x2 _ _ rfl) (rows_cons (r45x3 _ _ rfl) (rows_cons (r45x4 _ _ rfl) (rows_cons (r45x5 _ _ rfl) (rows_cons (r45x6 _ _ rfl) (rows_cons (r45x7 _ _ rfl) rows_nil))))))))
def ps29 : List (FuncId × Tbl) := (45, t45) :: ps28
theorem pk29 : ∀ f t, (f, t) ∈ ps29 → PrimOK Tryz.prog f (memoP t) := memo_cons pk28 (memo_ok hfol hnam (primOf_ok _ pk28) ok45)
/- (*widgetry/paragraph.text).line -/
def t32 : Tbl := [(⟨⟨0, [], 23⟩, [(.ptr 8 0), (.agg c6), (i 0), (i 3), (i 0)], [some c10, some c10, some c2, some c7, some c1, some c5, some c2, some c7, some c3, some (is [0, 5, 0, 100]), some [(i 0)], none, some [(i 0)], none, some [(i 0)], none, some [(i 0)], none, some [(i 0)], some (is [0, 0, 0, 0, 0]), some c6, some c6, some c6]⟩, (.agg [(i 0), (i 3), (i 0), (i 0), (i 0), (i 100), (i 80), (i 20), (i 100), (.sl 31 0 3 3 8)]), [some c10, some c10, some c2, some c7, some c1, some c5, some c2, some c7, some c3, some (is [0, 5, 0, 100]), some [(i 0)], none, some [(i 0)], none, some [(i 0)], none, some [(i 0)], none, some [(i 0)], some (is [0, 0, 0, 0, 0]), some c6, some c6, some c6, some c6, some [(i 0), (i 3), (i 0), (i 0), (i 0), (i 100), (i 80), (i 20), (i 100), (.sl 31 0 3 3 8)], some c6, some (is [0, 0, 0]), some (is [0, 0]), some (is [0, 3]), some [(.bool true)], some (is [0, 5, 0, 100]), some (is [97, 0, 0, 1, 0, 50, 0, 100, 98, 0, 1, 2, 50, 50, 0, 100, 32, 0, 2, 3, 100, 0, 0, 100]), some [(i 0), (i 3), (i 0), (i 0), (i 0), (i 100), (i 80), (i 20), (i 100), (.sl 31 0 3 3 8)], some [(i 0)], some c11, some c11, some c11]),
  (⟨⟨0, [], 26⟩, [(.ptr 8 0), (.agg c6), (i 3), (i 5), (i 100)], [some c10, some c10, some c2, some c7, some c1, some c5, some c2, some c7, some c3, some (is [0, 5, 0, 100]), some [(i 0)], none, some [(i 0)], none, some [(i 0)], none, some [(i 0)], none, some [(i 0)], some (is [0, 0, 0, 0, 0]), some c6, some c6, some c6, some c8, some c8, some c8]⟩, (.agg [(i 3), (i 5), (i 0), (i 0), (i 100), (i 100), (i 80), (i 20), (i 100), (.sl 34 0 2 2 8)]), [some c10, some c10, some c2, some c7, some c1, some c5, some c2, some c7, some c3, some (is [0, 5, 0, 100]), some [(i 0)], none, some [(i 0)], none, some [(i 0)], none, some [(i 0)], none, some [(i 0)], some (is [0, 0, 0, 0, 0]), some c6, some c6, some c6, some c8, some c8, some c8, some c6, some [(i 3), (i 5), (i 0), (i 0), (i 100), (i 100), (i 80), (i 20), (i 100), (.sl 34 0 2 2 8)], some c6, some (is [0, 0]), some (is [3, 3]), some (is [3, 5]), some [(.bool true)], some (is [0, 5, 0, 100]), some c30, some [(i 3), (i 5), (i 0), (i 0), (i 100), (i 100), (i 80), (i 20), (i 100), (.sl 34 0 2 2 8)], some [(i 0)], some c11, some c11])]
theorem r32x0 : ∀ k r, t32[0]? = some (k, r) → K (primOf ps29) 40 k.cfg 32 k.args k.h = some r := by
  intro k r hk
  cases hk
  kernel_rfl
theorem r32x1 : ∀ k r, t32[1]? = some (k, r) → K (primOf ps29) 40 k.cfg 32 k.args k.h = some r := by
  intro k r hk
  cases hk
  kernel_rfl
theorem ok32 : RowsOK Tryz.prog md (primOf ps29) 10000 40 32 t32 := (rows_cons (r32x0 _ _ rfl) (rows_cons (r32x1 _ _ rfl) rows_nil))
def ps30 : List (FuncId × Tbl) := (32, t32) :: ps29
theorem pk30 : ∀ f t, (f, t) ∈ ps30 → PrimOK Tryz.prog f (memoP t) := memo_cons pk29 (memo_ok hfol hnam (primOf_ok _ pk29) ok32)
/- (*widgetry/paragraph.text).fitting -/
def t33 : Tbl := [(⟨⟨24, [4, 5], 24⟩, c35, [some c10, some c10, some c2, some c7, some [(.mq [])], some [(.mq [])], some c2, some c7, some c3, some (is [0, 5, 0, 100]), some [(i 0)], none, some [(i 0)], none, some [(i 0)], none, some [(i 0)], none, some [(i 0)], some (is [0, 0, 0, 0, 0]), some c6, some c6, some c6, some c6]⟩, (i 100), [some c10, some c10, some c2, some c7, some c12, some c15, some c2, some c7, some c3, some (is [0, 5, 0, 100]), some [(i 0)], none, some [(i 0)], none, some [(i 0)], none, some [(i 0)], none, some [(i 0)], some (is [0, 0, 0, 0, 0]), some c6, some c6, some c6, some c6, some c6, some c6, some (is [0, 0, 0]), some (is [0, 0]), some (is [0, 3]), some [(.bool true)], some (is [0, 5, 0, 100]), some c24, some c21, some (is [98, 0, 1, 2, 50, 50, 0, 100]), some (is [32, 0, 2, 3, 100, 50, 0, 100])]),
  (⟨⟨24, [4, 5], 24⟩, [(.ptr 8 0), (.agg c6), (i 0), (i 5)], [some c10, some c10, some c2, some c7, some c12, some c15, some c2, some c7, some c3, some (is [0, 5, 0, 100]), some [(i 0)], none, some [(i 0)], none, some [(i 0)], none, some [(i 0)], none, some [(i 0)], some (is [0, 0, 0, 0, 0]), some c6, some c6, some c6, some c6]⟩, (i 250), [some c10, some c10, some c2, some c7, some c1, some c5, some c2, some c7, some c3, some (is [0, 5, 0, 100]), some [(i 0)], none, some [(i 0)], none, some [(i 0)], none, some [(i 0)], none, some [(i 0)], some (is [0, 0, 0, 0, 0]), some c6, some c6, some c6, some c6, some c6, some c6, some (is [0, 0, 0, 0, 0]), some (is [0, 0]), some (is [0, 5]), some [(.bool true)], some (is [0, 5, 0, 100]), some c22, some c21, some (is [98, 0, 1, 2, 50, 50, 0, 100]), some (is [32, 0, 2, 3, 100, 50, 0, 100]), some (is [99, 0, 3, 4, 150, 50, 0, 100]), some (is [100, 0, 4, 5, 200, 50, 0, 100])]),
  (⟨⟨27, [4, 5], 27⟩, c34, [some c10, some c10, some c2, some c7, some c1, some c5, some c2, some c7, some c3, some (is [0, 5, 0, 100]), some [(i 0)], none, some [(i 0)], none, some [(i 0)], none, some [(i 0)], none, some [(i 0)], some (is [0, 0, 0, 0, 0]), some c6, some c6, some c6, some c8, some c8, some c8, some c6]⟩, (i 100), [some c10, some c10, some c2, some c7, some c1, some c5, some c2, some c7, some c3, some (is [0, 5, 0, 100]), some [(i 0)], none, some [(i 0)], none, some [(i 0)], none, some [(i 0)], none, some [(i 0)], some (is [0, 0, 0, 0, 0]), some c6, some c6, some c6, some c8, some c8, some c8, some c6, some c6, some c6, some (is [0, 0]), some (is [3, 3]), some (is [3, 5]), some [(.bool true)], some (is [0, 5, 0, 100]), some c30, some c20, some (is [100, 0, 4, 5, 50, 50, 0, 100])]),
  (⟨⟨0, [], 23⟩, c35, [some c13, some c13, some c2, some c7, some [(.mq [])], some [(.mq [])], some c2, some c7, some c9, some (is [0, 5, 0, 100]), some [(i 0)], none, some [(i 0)], none, some [(i 0)], none, some [(i 0)], none, some [(i 0)], some (is [0, 0, 0, 0, 0]), some c6, some c6, some c6]⟩, (i 100), [some c13, some c13, some c2, some c7, some c12, some c15, some c2, some c7, some c9, some (is [0, 5, 0, 100]), some [(i 0)], none, some [(i 0)], none, some [(i 0)], none, some [(i 0)], none, some [(i 0)], some (is [0, 0, 0, 0, 0]), some c6, some c6, some c6, some c6, some c6, some (is [0, 0, 0]), some (is [0, 0]), some (is [0, 3]), some [(.bool true)], some (is [0, 5, 0, 100]), some c24, some c21, some (is [98, 0, 1, 2, 50, 50, 0, 100]), some (is [32, 0, 2, 3, 100, 50, 0, 100])]),
  (⟨⟨0, [], 23⟩, c34, [some c13, some c13, some c2, some c7, some c12, some c15, some c2, some c7, some c9, some (is [0, 5, 0, 100]), some [(i 0)], none, some [(i 0)], none, some [(i 0)], none, some [(i 0)], none, some [(i 0)], some (is [0, 0, 0, 0, 0]), some c6, some c6, some c6]⟩, (i 100), [some c13, some c13, some c2, some c7, some c17, some c29, some c2, some c7, some c9, some (is [0, 5, 0, 100]), some [(i 0)], none, some [(i 0)], none, some [(i 0)], none, some [(i 0)], none, some [(i 0)], some (is [0, 0, 0, 0, 0]), some c6, some c6, some c6, some c6, some c6, some (is [0, 0]), some (is [3, 3]), some (is [3, 5]), some [(.bool true)], some (is [0, 5, 0, 100]), some c30, some c20, some (is [100, 0, 4, 5, 50, 50, 0, 100])]),
  (⟨⟨0, [], 23⟩, [(.ptr 8 0), (.agg c6), (i 0), (i 5)], [some c13, some c13, some c2, some c7, some c12, some c15, some c2, some c7, some c9, some (is [0, 5, 0, 100]), some [(i 0)], none, some [(i 0)], none, some [(i 0)], none, some [(i 0)], none, some [(i 0)], some (is [0, 0, 0, 0, 0]), some c6, some c6, some c6]⟩, (i 250), [some c13, some c13, some c2, some c7, some c1, some c5, some c2, some c7, some c9, some (is [0, 5, 0, 100]), some [(i 0)], none, some [(i 0)], none, some [(i 0)], none, some [(i 0)], none, some [(i 0)], some (is [0, 0, 0, 0, 0]), some c6, some c6, some c6, some c6, some c6, some (is [0, 0, 0, 0, 0]), some (is [0, 0]), some (is [0, 5]), some [(.bool true)], some (is [0, 5, 0, 100]), some c22, some c21, some (is [98, 0, 1, 2, 50, 50, 0, 100]), some (is [32, 0, 2, 3, 100, 50, 0, 100]), some (is [99, 0, 3, 4, 150, 50, 0, 100]), some (is [100, 0, 4, 5, 200, 50, 0, 100])])]
theorem r33x0 : ∀ k r, t33[0]? = some (k, r) → K (primOf ps30) 40 k.cfg 33 k.args k.h = some r := by
  intro k r hk
  cases hk
  kernel_rfl
theorem r33x1 : ∀ k r, t33[1]? = some (k, r) → K (primOf ps30) 40 k.cfg 33 k.args k.h = some r := by
  intro k r hk
  cases hk
  kernel_rfl
theorem r33x2 : ∀ k r, t33[2]? = some (k, r) → K (primOf ps30) 40 k.cfg 33 k.args k.h = some r := by
  intro k r hk
  cases hk
  kernel_rfl
theorem r33x3 : ∀ k r, t33[3]? = some (k, r) → K (primOf ps30) 40 k.cfg 33 k.args k.h = some r := by
  intro k r hk
  cases hk
  kernel_rfl
theorem r33x4 : ∀ k r, t33[4]? = some (k, r) → K (primOf ps30) 40 k.cfg 33 k.args k.h = some r := by
  intro k r hk
  cases hk
  kernel_rfl
theorem r33x5 : ∀ k r, t33[5]? = some (k, r) → K (primOf ps30) 40 k.cfg 33 k.args k.h = some r := by
  intro k r hk
  cases hk
  kernel_rfl
theorem ok33 : RowsOK Tryz.prog md (primOf ps30) 10000 40 33 t33 := (rows_cons (r33x0 _ _ rfl) (rows_cons (r33x1 _ _ rfl) (rows_cons (r33x2 _ _ rfl) (rows_cons (r33x3 _ _ rfl) (rows_cons (r33x4 _ _ rfl) (rows_cons (r33x5 _ _ rfl) rows_nil))))))
def ps31 : List (FuncId × Tbl) := (33, t33) :: ps30
theorem pk31 : ∀ f t, (f, t) ∈ ps31 → PrimOK Tryz.prog f (memoP t) := memo_cons pk30 (memo_ok hfol hnam (primOf_ok _ pk30) ok33)
/- paragraph.Least -/
def t21 : Tbl := [(⟨⟨0, [], 0⟩, [(.agg c13), (.lst [c11])], []⟩, (i 100), [some c13, some c13, some c2, some c7, some c17, some c29, some c2, some c7, some c9, some (is [0, 5, 0, 100]), some [(i 0)], none, some [(i 0)], none, some [(i 0)], none, some [(i 0)], none, some [(i 0)], some (is [0, 0, 0, 0, 0]), some c6, some c6, some c6])]
theorem r21x0 : ∀ k r, t21[0]? = some (k, r) → K (primOf ps31) 40 k.cfg 21 k.args k.h = some r := by
  intro k r hk
  cases hk
  kernel_rfl
theorem ok21 : RowsOK Tryz.prog md (primOf ps31) 10000 40 21 t21 := (rows_cons (r21x0 _ _ rfl) rows_nil)
def ps32 : List (FuncId × Tbl) := (21, t21) :: ps31
theorem pk32 : ∀ f t, (f, t) ∈ ps32 → PrimOK Tryz.prog f (memoP t) := memo_cons pk31 (memo_ok hfol hnam (primOf_ok _ pk31) ok21)
/- paragraph.Most -/
def t22 : Tbl := [(⟨⟨0, [], 0⟩, [(.agg c13), (.lst [c11])], []⟩, (i 250), [some c13, some c13, some c2, some c7, some c1, some c5, some c2, some c7, some c9, some (is [0, 5, 0, 100]), some [(i 0)], none, some [(i 0)], none, some [(i 0)], none, some [(i 0)], none, some [(i 0)], some (is [0, 0, 0, 0, 0]), some c6, some c6, some c6])]
theorem r22x0 : ∀ k r, t22[0]? = some (k, r) → K (primOf ps32) 40 k.cfg 22 k.args k.h = some r := by
  intro k r hk
  cases hk
  kernel_rfl
theorem ok22 : RowsOK Tryz.prog md (primOf ps32) 10000 40 22 t22 := (rows_cons (r22x0 _ _ rfl) rows_nil)
def ps33 : List (FuncId × Tbl) := (22, t22) :: ps32
theorem pk33 : ∀ f t, (f, t) ∈ ps33 → PrimOK Tryz.prog f (memoP t) := memo_cons pk32 (memo_ok hfol hnam (primOf_ok _ pk32) ok22)
/- (*widgetry/paragraph.text).end -/
def t31 : Tbl := [(⟨⟨0, [], 23⟩, [(.ptr 8 0), (.agg c6), (i 0)], [some c10, some c10, some c2, some c7, some [(.mq [])], some [(.mq [])], some c2, some c7, some c3, some (is [0, 5, 0, 100]), some [(i 0)], none, some [(i 0)], none, some [(i 0)], none, some [(i 0)], none, some [(i 0)], some (is [0, 0, 0, 0, 0]), some c6, some c6, some c6]⟩, (i 3), [some c10, some c10, some c2, some c7, some c1, some c5, some c2, some c7, some c3, some (is [0, 5, 0, 100]), some [(i 0)], none, some [(i 0)], none, some [(i 0)], none, some [(i 0)], none, some [(i 0)], some (is [0, 0, 0, 0, 0]), some c6, some c6, some c6, some c6]),
  (⟨⟨0, [], 26⟩, [(.ptr 8 0), (.agg c6), (i 3)], [some c10, some c10, some c2, some c7, some c1, some c5, some c2, some c7, some c3, some (is [0, 5, 0, 100]), some [(i 0)], none, some [(i 0)], none, some [(i 0)], none, some [(i 0)], none, some [(i 0)], some (is [0, 0, 0, 0, 0]), some c6, some c6, some c6, some c8, some c8, some c8]⟩, (i 5), [some c10, some c10, some c2, some c7, some c1, some c5, some c2, some c7, some c3, some (is [0, 5, 0, 100]), some [(i 0)], none, some [(i 0)], none, some [(i 0)], none, some [(i 0)], none, some [(i 0)], some (is [0, 0, 0, 0, 0]), some c6, some c6, some c6, some c8, some c8, some c8, some c6])]
theorem r31x0 : ∀ k r, t31[0]? = some (k, r) → K (primOf ps33) 40 k.cfg 31 k.args k.h = some r := by
  intro k r hk
  cases hk
  kernel_rfl
theorem r31x1 : ∀ k r, t31[1]? = some (k, r) → K (primOf ps33) 40 k.cfg 31 k.args k.h = some r := by
  intro k r hk
  cases hk
  kernel_rfl
theorem ok31 : RowsOK Tryz.prog md (primOf ps33) 10000 40 31 t31 := (rows_cons (r31x0 _ _ rfl) (rows_cons (r31x1 _ _ rfl) rows_nil))
def ps34 : List (FuncId × Tbl) := (31, t31) :: ps33
theorem pk34 : ∀ f t, (f, t) ∈ ps34 → PrimOK Tryz.prog f (memoP t) := memo_cons pk33 (memo_ok hfol hnam (primOf_ok _ pk33) ok31)
/- paragraph.Lines -/
def t18 : Tbl := [(⟨⟨0, [], 0⟩, [(.agg c10), (.lst [c11])], []⟩, (.tup [(.sl 28 0 2 2 10), (i 0)]), [some c10, some c10, some c2, some c7, some c1, some c5, some c2, some c7, some c3, some (is [0, 5, 0, 100]), some [(i 0)], none, some [(i 0)], none, some [(i 0)], none, some [(i 0)], none, some [(i 0)], some (is [0, 0, 0, 0, 0]), some c6, some c6, some c6, some c8, some c8, none, some [(i 3), (i 5), (i 0), (i 0), (i 100), (i 100), (i 80), (i 20), (i 100), (.lst [c20, (is [100, 0, 4, 5, 50, 50, 0, 100])])], some [(i 3), (i 5), (i 0), (i 0), (i 100), (i 100), (i 80), (i 20), (i 100), (.lst [c20, (is [100, 0, 4, 5, 50, 50, 0, 100])])], some [(i 0), (i 3), (i 0), (i 0), (i 0), (i 100), (i 80), (i 20), (i 100), (.lst [c21, (is [98, 0, 1, 2, 50, 50, 0, 100]), (is [32, 0, 2, 3, 100, 0, 0, 100])]), (i 3), (i 5), (i 0), (i 0), (i 100), (i 100), (i 80), (i 20), (i 100), (.lst [c20, (is [100, 0, 4, 5, 50, 50, 0, 100])])]])]
theorem r18x0 : ∀ k r, t18[0]? = some (k, r) → K (primOf ps34) 40 k.cfg 18 k.args k.h = some r := by
  intro k r hk
  cases hk
  kernel_rfl
theorem ok18 : RowsOK Tryz.prog md (primOf ps34) 10000 40 18 t18 := (rows_cons (r18x0 _ _ rfl) rows_nil)
def ps35 : List (FuncId × Tbl) := (18, t18) :: ps34
theorem pk35 : ∀ f t, (f, t) ∈ ps35 → PrimOK Tryz.prog f (memoP t) := memo_cons pk34 (memo_ok hfol hnam (primOf_ok _ pk34) ok18)
/- widgetrylaw09.awake -/
def t11 : Tbl := [(⟨⟨0, [], 0⟩, [], []⟩, (.bool true), [])]
theorem r11x0 : ∀ k r, t11[0]? = some (k, r) → K (primOf ps35) 40 k.cfg 11 k.args k.h = some r := by
  intro k r hk
  cases hk
  kernel_rfl
theorem ok11 : RowsOK Tryz.prog md (primOf ps35) 10000 40 11 t11 := (rows_cons (r11x0 _ _ rfl) rows_nil)
def ps36 : List (FuncId × Tbl) := (11, t11) :: ps35
theorem pk36 : ∀ f t, (f, t) ∈ ps36 → PrimOK Tryz.prog f (memoP t) := memo_cons pk35 (memo_ok hfol hnam (primOf_ok _ pk35) ok11)
end Bi
end Go.Ab
