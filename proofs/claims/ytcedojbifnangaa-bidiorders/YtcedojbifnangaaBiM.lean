/- Closed calls, by tables: what awake comes to. Printed by wip/tools/Memo.lean. -/
import Derived.Test.YtcedojbifnangaaBiA
import Derived.Test.YtcedojbifnangaaAbMemo
namespace Go.Ab
open Go.Proofs
namespace Bi
theorem hfol : Try.prog.follows .mixedOrders = true := by kernel_rfl
theorem hnam : Named Try.prog := by
  have h : (Try.prog.funcs.toList.all fun fn => !(fn.name == "runtime.NumGoroutine")) = true := by kernel_rfl
  intro g fn hg
  have := List.all_eq_true.1 h fn (List.mem_of_getElem? (by simpa using hg))
  simpa using this
/- char.Bidi -/
def t20 : Tbl := [(⟨⟨0, none, 0⟩, [(.int .i32 1488)], []⟩, (.int .i64 1), []),
  (⟨⟨0, none, 0⟩, [(.int .i32 97)], []⟩, (.int .i64 0), [])]
theorem r20x0 : ∀ k r, t20[0]? = some (k, r) → K (primOf []) 40 k.cfg 20 k.args k.h = some r := by
  intro k r hk
  cases hk
  kernel_rfl
theorem r20x1 : ∀ k r, t20[1]? = some (k, r) → K (primOf []) 40 k.cfg 20 k.args k.h = some r := by
  intro k r hk
  cases hk
  kernel_rfl
theorem ok20 : RowsOK Try.prog md (primOf []) 10000 40 20 t20 := (rows_cons (r20x0 _ _ rfl) (rows_cons (r20x1 _ _ rfl) rows_nil))
def ps1 : List (FuncId × Tbl) := (20, t20) :: []
theorem pk1 : ∀ f t, (f, t) ∈ ps1 → PrimOK Try.prog f (memoP t) := memo_cons (by simp) (memo_ok hfol hnam (primOf_ok _ (by simp)) ok20)
/- bidi.Levels -/
def t15 : Tbl := [(⟨⟨0, none, 0⟩, [(.lst [[(.int .i32 1488)], [(.int .i32 97)]]), (.int .i64 (-1))], []⟩, (.sl 2 0 2 2 1), [none, some [(.int .i64 1), (.int .i64 0)], some [(.int .i64 1), (.int .i64 2)], some [(.lst [[(.int .i32 1488)], [(.int .i32 97)]]), (.lst [[(.int .i64 1)], [(.int .i64 0)]]), (.sl 1 0 2 2 1), (.lst [[(.int .i64 (-1))], [(.int .i64 (-1))]]), (.sl 2 0 2 2 1), (.int .i64 1)], some [(.lst [[(.int .i64 0)], [(.int .i64 1)]]), (.int .i64 1), (.int .i64 1), (.int .i64 1)]])]
theorem r15x0 : ∀ k r, t15[0]? = some (k, r) → K (primOf ps1) 40 k.cfg 15 k.args k.h = some r := by
  intro k r hk
  cases hk
  kernel_rfl
theorem ok15 : RowsOK Try.prog md (primOf ps1) 10000 40 15 t15 := (rows_cons (r15x0 _ _ rfl) rows_nil)
def ps2 : List (FuncId × Tbl) := (15, t15) :: ps1
theorem pk2 : ∀ f t, (f, t) ∈ ps2 → PrimOK Try.prog f (memoP t) := memo_cons pk1 (memo_ok hfol hnam (primOf_ok _ pk1) ok15)
/- bidi.Order -/
def t19 : Tbl := [(⟨⟨0, none, 0⟩, [(.lst [[(.int .i64 1)], [(.int .i64 2)]])], []⟩, (.sl 0 0 2 2 1), [some [(.int .i64 1), (.int .i64 0)]])]
theorem r19x0 : ∀ k r, t19[0]? = some (k, r) → K (primOf ps2) 40 k.cfg 19 k.args k.h = some r := by
  intro k r hk
  cases hk
  kernel_rfl
theorem ok19 : RowsOK Try.prog md (primOf ps2) 10000 40 19 t19 := (rows_cons (r19x0 _ _ rfl) rows_nil)
def ps3 : List (FuncId × Tbl) := (19, t19) :: ps2
theorem pk3 : ∀ f t, (f, t) ∈ ps3 → PrimOK Try.prog f (memoP t) := memo_cons pk2 (memo_ok hfol hnam (primOf_ok _ pk2) ok19)
/- widgetryref01.Equal -/
def t14 : Tbl := [(⟨⟨0, none, 0⟩, [(.lst [[(.int .i64 1)], [(.int .i64 2)]]), (.lst [[(.int .i64 1)], [(.int .i64 2)]])], []⟩, (.bool true), []),
  (⟨⟨0, none, 0⟩, [(.lst [[(.int .i64 1)], [(.int .i64 0)]]), (.lst [[(.int .i64 1)], [(.int .i64 0)]])], []⟩, (.bool true), [])]
theorem r14x0 : ∀ k r, t14[0]? = some (k, r) → K (primOf ps3) 40 k.cfg 14 k.args k.h = some r := by
  intro k r hk
  cases hk
  kernel_rfl
theorem r14x1 : ∀ k r, t14[1]? = some (k, r) → K (primOf ps3) 40 k.cfg 14 k.args k.h = some r := by
  intro k r hk
  cases hk
  kernel_rfl
theorem ok14 : RowsOK Try.prog md (primOf ps3) 10000 40 14 t14 := (rows_cons (r14x0 _ _ rfl) (rows_cons (r14x1 _ _ rfl) rows_nil))
def ps4 : List (FuncId × Tbl) := (14, t14) :: ps3
theorem pk4 : ∀ f t, (f, t) ∈ ps4 → PrimOK Try.prog f (memoP t) := memo_cons pk3 (memo_ok hfol hnam (primOf_ok _ pk3) ok14)
/- widgetrylaw06.awake -/
def t17 : Tbl := [(⟨⟨0, none, 0⟩, [], []⟩, (.bool true), [some [(.int .i32 1488), (.int .i32 97)], some [(.int .i64 1), (.int .i64 2)], some [(.int .i64 1), (.int .i64 0)]])]
theorem r17x0 : ∀ k r, t17[0]? = some (k, r) → K (primOf ps4) 40 k.cfg 17 k.args k.h = some r := by
  intro k r hk
  cases hk
  kernel_rfl
theorem ok17 : RowsOK Try.prog md (primOf ps4) 10000 40 17 t17 := (rows_cons (r17x0 _ _ rfl) rows_nil)
def ps5 : List (FuncId × Tbl) := (17, t17) :: ps4
theorem pk5 : ∀ f t, (f, t) ∈ ps5 → PrimOK Try.prog f (memoP t) := memo_cons pk4 (memo_ok hfol hnam (primOf_ok _ pk4) ok17)
end Bi
end Go.Ab
