/- Closed calls, by tables: what awake comes to. Printed by wip/tools/Memo11.lean and mkpam3.py. -/
import Derived.Test.YtoappddifbgegaaGreatAbRm
import Derived.Test.YtoappddifbgegaaGreatAbW3
import Derived.Test.YtoappddifbgegaaGreatProg
set_option linter.all false
namespace Go.Ab
open Go.Proofs
namespace Aw
theorem hfol : Tryz.prog.follows .mixedOrders = true := by kernel_rfl
theorem hnam : Named Tryz.prog := by
  have h : (Tryz.prog.funcs.toList.all fun fn => !(fn.name == "runtime.NumGoroutine")) = true := by kernel_rfl
  intro g fn hg
  have := List.all_eq_true.1 h fn (List.mem_of_getElem? (by simpa using hg))
  simpa using this
def md28 : FuncId → Nat
  | 16 | 48 | 80 | 120 | 121 | 262 | 275 | 280 | 282 | 283 | 284 | 285 | 289 | 305 | 324 | 331 | 335 | 336 | 337 | 339 | 340 | 341 | 342 | 345 | 347 | 348 | 349 | 350 => 1
  | 14 | 51 | 54 | 55 | 76 | 87 | 88 | 89 | 90 | 91 | 92 | 93 | 94 | 95 | 96 | 97 | 98 | 99 | 100 | 101 | 102 | 103 | 106 | 123 | 126 | 135 | 141 | 145 | 149 | 150 | 153 | 168 | 191 | 197 | 237 | 261 | 276 | 279 | 294 | 319 | 320 | 329 => 2
  | 180 | 183 | 235 | 236 | 238 | 297 => 3
  | 107 | 108 | 171 | 172 | 239 | 290 | 318 => 4
  | 173 | 292 | 293 => 5
  | _ => 0
noncomputable def clB (f : FuncId) : Prim := fun cfg args h => callN Tryz.prog md28 (fun _ => none) 10000 30 cfg f args h
theorem clB_ok (f : FuncId) : PrimOK Tryz.prog f (clB f) := fun _ _ _ _ _ hx => callN_ok hfol hnam (fun _ _ h => by cases h) 30 _ _ _ _ _ _ hx
theorem cl61 : PrimOK Tryz.prog 61 (cloneP (clB 61)) := cloneP_ok (clB_ok _) (b2 := 1) (k := 1) (h2' := [none, some []]) (by kernel_rfl) (by kernel_rfl)
theorem cl83 : PrimOK Tryz.prog 83 (cloneP (clB 83)) := cloneP_ok (clB_ok _) (b2 := 1) (k := 2) (h2' := [none, some []]) (by kernel_rfl) (by kernel_rfl)
theorem cl122 : PrimOK Tryz.prog 122 (cloneP (clB 122)) := cloneP_ok (clB_ok _) (b2 := 1) (k := 2) (h2' := [none, some []]) (by kernel_rfl) (by kernel_rfl)
theorem cl279 : PrimOK Tryz.prog 279 (cloneP (clB 279)) := cloneP_ok (clB_ok _) (b2 := 1) (k := 1) (h2' := [none, some []]) (by kernel_rfl) (by kernel_rfl)
noncomputable def bC (f : FuncId) : Option Prim := match [61, 83, 122, 279].find? (fun x => x == f) with
  | some a => some (cloneP (clB a))
  | none => none
theorem bC_ok : ∀ f p, bC f = some p → PrimOK Tryz.prog f p := by
  intro f p h
  unfold bC at h
  split at h
  · rename_i a ha
    have h1 := List.mem_of_find?_eq_some ha
    have h2 := List.find?_some ha
    simp only [beq_iff_eq] at h2
    subst h2
    cases h
    simp only [List.mem_cons, List.not_mem_nil, or_false] at h1
    rcases h1 with rfl | rfl | rfl | rfl
    · exact cl61
    · exact cl83
    · exact cl122
    · exact cl279
  · cases h
noncomputable abbrev KT (l : List (FuncId × Tbl)) : Callf := callN Tryz.prog md28 (primB bC l) 10000 40
abbrev il (l : List Int) : V := .lst (l.map fun n => [.int .i64 n])
abbrev rl (l : List Int) : V := .lst (l.map fun n => [.int .i32 n])
abbrev i (n : Int) : V := .int .i64 n
abbrev r (n : Int) : V := .int .i32 n
abbrev is (l : List Int) : List V := l.map i
abbrev rs (l : List Int) : List V := l.map r
abbrev c3 : List V := [(.mq [[(i 1), (.func (.func 89) [] [])], [(i 2), (.func (.func 90) [] [])], [(i 3), (.func (.func 90) [] [])], [(i 4), (.func (.func 91) [] [])], [(i 5), (.func (.func 92) [] [])], [(i 6), (.func (.func 93) [] [])], [(i 7), (.func (.func 93) [] [])], [(i 8), (.func (.func 94) [] [])], [(i 9), (.func (.func 95) [] [])], [(i 10), (.func (.func 95) [] [])], [(i 11), (.func (.func 96) [] [])], [(i 12), (.func (.func 97) [] [])], [(i 13), (.func (.func 98) [] [])], [(i 14), (.func (.func 99) [] [])], [(i 15), (.func (.func 100) [] [])], [(i 16), (.func (.func 101) [] [])], [(i 17), (.func (.func 87) [] [])], [(i 18), (.func (.func 102) [] [])], [(i 19), (.func (.func 103) [] [])]])]
abbrev c5 : List V := [(.bool false), (.bool false), (i 100), (i 0), (i 1), (i 10), (i 1000), (i 0), (i 0)]
abbrev c8 : List V := [(rl [97, 98]), (.lst [(is [0, 2, 0, 10])]), (i 0), (i 0), (i 1000)]
abbrev c9 : List V := [(i 0), (i 2), (i 0), (il [0, 0])]
abbrev c10 : List V := [(rl [101, 769]), (.sl 0 0 2 2 1), (.sl 2 0 2 2 1), (il [-1, -1]), (.sl 3 0 2 2 1), (i 0)]
abbrev c11 : List V := [(rl [101, 769]), (.lst [(is [0, 2, 0, 10])]), (i 0), (i 0), (i 1000)]
abbrev c12 : List V := [(rl [97, 98]), (.sl 0 0 2 2 1), (.sl 2 0 2 2 1), (il [-1, -1]), (.sl 3 0 2 2 1), (i 0)]
abbrev c13 : List V := [(rl [97]), (.lst [(is [0, 1, 0, 10])]), (i 0), (i 0), (i 1000)]
abbrev c14 : List V := [(il [0, 1]), (i 0), (i 0), (i 0)]
abbrev c15 : List V := [.nils, .nils, (i 0), (i 0), (.bool false), (.bool false), (i 0), (i 0), .nils, .nils, (i 0), (i 0), .nils, .nils, .nils, (.bool false), (i 0), (i 0), (i 0)]
abbrev c16 : List V := [(i 16), (i 12), (i 4), (i 0), (i 16), (.lst []), (.lst []), (.lst [])]
abbrev c17 : List V := [(i 0), (i 1), (.lst []), (.lst []), (i 0), (i 0), (rl [97]), (.lst [(is [1, 0])]), (i 0), (i 0), (.bool false), (i 1), (i 1), (.bool false)]
abbrev c18 : List V := [(.lst []), (.lst [(is [0, 0, 0, 10])]), (i 0), (i 0), (i 1000)]
abbrev c19 : List V := [(i 0), (i 0), (rl [101, 769]), (.lst [(is [2, 0])]), (i 0), (i 2), (.lst []), (.lst []), (i 2), (i 2), (.bool false), (i 0), (i 0), (.bool false)]
abbrev c20 : List V := [(rl [97]), (.sl 0 0 1 1 1), (.sl 2 0 1 1 1), (il [-1]), (.sl 3 0 1 1 1), (i 0)]
abbrev c23 : List V := [(rl [101, 769]), (il [0, 0]), (.sl 3 0 3 3 1), (.mref 4), (.mref 5)]
abbrev c24 : List V := [(i 0), (i 2), (i 0), (i 0), (i 0), (i 20), (i 8), (i 3), (i 11), (.lst [(is [97, 0, 0, 1, 0, 10, 0, 10]), (is [98, 0, 1, 2, 10, 10, 0, 10])])]
abbrev c25 : List V := [(rl [101, 769]), (.lst [(is [2, 0])]), (i 2), (i 2), (.bool false), (.bool false), (i 0), (i 0), (.lst []), (.lst []), (i 0), (i 0), (.lst []), (.lst []), (.lst []), (.bool false), (i 0), (i (-1)), (i (-1))]
abbrev c26 : List V := [(rl [97, 98]), (il [0, 0]), (.sl 3 0 3 3 1), (.mref 4), (.mref 5)]
abbrev c28 : List V := [(.lst []), (.lst []), (i 0), (i 0), (.bool false), (.bool false), (i 0), (i 0), (.lst []), (.lst []), (i 0), (i 0), (.lst []), (.lst []), (.lst []), (.bool false), (i 0), (i (-1)), (i (-1))]
abbrev c29 : List V := [(rl [97]), (il [0]), (.sl 3 0 2 2 1), (.mref 4), (.mref 5)]
abbrev c30 : List V := [(i 0), (i 1), (i 0), (il [0])]
abbrev c32 : List V := [(i 0), (i 2), (i 0), (i 0), (i 0), (i 10), (i 8), (i 3), (i 11), (.lst [(is [101, 0, 0, 1, 0, 10, 0, 10]), (is [769, 0, 1, 2, 10, 0, 0, 10])])]
abbrev c34 : List V := [(.lst []), (.lst []), (.sl 3 0 1 1 1), (.mref 4), (.mref 5)]
abbrev c35 : List V := [(il [0]), (i 0), (i 0), (i 0)]
abbrev c36 : List V := [(.bool true), (.bool false), (.bool true)]
abbrev c37 : Heap := [some (is [0, 0]), none, some (is [0, 0]), some (is [0, 0]), some c12, some c14]
abbrev c38 : List V := [(.bool true), (.bool true), (.bool true)]
abbrev c39 : List V := [(i 9), .nils, .nils, .nils, (i 0), (i 0), (.bool false), (i 0), (i 0), (i 0), (i 0), (i 0), (i 0), .nils, (i 0)]
abbrev c40 : List V := [(i 0), (i 1), (i 0), (i 0), (i 0), (i 10), (i 8), (i 3), (i 11), (.lst [(is [97, 0, 0, 1, 0, 10, 0, 10])])]
abbrev c41 : List V := [(i 1), (i 1), (.lst []), (.lst []), (i 1), (i 0), (rl [98]), (.lst [(is [1, 0])]), (i 1), (i 1), (.bool false), (i 2), (i 2), (.bool false)]
abbrev c1 : V := (.lst [c17, c41])
abbrev c42 : List V := [(i 1), (i 1), (.lst []), (.lst [])]
abbrev c43 : List V := [(i 0), (i 1), (.lst []), (.lst [])]
abbrev c44 : List V := [(i 0), (i 0), (i 0), (i 0), (i 0), (i 0), (i 0), (i 0), (i 0), .nils]
abbrev c45 : List V := [(i 1), (i 0), (rl [98]), (.lst [(is [1, 0])])]
abbrev c46 : List V := [(i 0), (i 0), (rl [97]), (.lst [(is [1, 0])])]
abbrev c48 : Heap := [some (is [0, 8]), none, some (is [0, 0]), some (is [0, 0]), some c10, some c14]
abbrev c49 : List V := [(i 0), (i 0), (i 0), (.lst [])]
abbrev c50 : List V := [(r 97), (r 122), (.int .u8 0), (.int .u8 3), (.int .u8 0), (.int .u8 0), (.int .u8 0)]
abbrev c4 : V := (.lst [[(r 0), (r 8), (.int .u8 3), (.int .u8 0), (.int .u8 7), (.int .u8 9), (.int .u8 0)], [(r 9), (r 9), (.int .u8 3), (.int .u8 0), (.int .u8 10), (.int .u8 11), (.int .u8 0)], [(r 10), (r 10), (.int .u8 2), (.int .u8 1), (.int .u8 3), (.int .u8 10), (.int .u8 0)], [(r 11), (r 11), (.int .u8 3), (.int .u8 1), (.int .u8 1), (.int .u8 11), (.int .u8 0)], [(r 12), (r 12), (.int .u8 3), (.int .u8 1), (.int .u8 1), (.int .u8 12), (.int .u8 0)], [(r 13), (r 13), (.int .u8 1), (.int .u8 1), (.int .u8 2), (.int .u8 10), (.int .u8 0)], [(r 14), (r 31), (.int .u8 3), (.int .u8 0), (.int .u8 7), (.int .u8 9), (.int .u8 0)], [(r 32), (r 32), (.int .u8 0), (.int .u8 2), (.int .u8 4), (.int .u8 12), (.int .u8 0)], [(r 33), (r 33), (.int .u8 0), (.int .u8 0), (.int .u8 15), (.int .u8 13), (.int .u8 0)], [(r 34), (r 34), (.int .u8 0), (.int .u8 0), (.int .u8 14), (.int .u8 13), (.int .u8 0)], [(r 35), (r 37), (.int .u8 0), (.int .u8 0), (.int .u8 0), (.int .u8 5), (.int .u8 0)], [(r 38), (r 38), (.int .u8 0), (.int .u8 0), (.int .u8 0), (.int .u8 13), (.int .u8 0)], [(r 39), (r 39), (.int .u8 0), (.int .u8 7), (.int .u8 14), (.int .u8 13), (.int .u8 0)], [(r 40), (r 40), (.int .u8 0), (.int .u8 0), (.int .u8 12), (.int .u8 13), (.int .u8 0)], [(r 41), (r 41), (.int .u8 0), (.int .u8 0), (.int .u8 13), (.int .u8 13), (.int .u8 0)], [(r 42), (r 42), (.int .u8 0), (.int .u8 0), (.int .u8 0), (.int .u8 13), (.int .u8 0)], [(r 43), (r 43), (.int .u8 0), (.int .u8 0), (.int .u8 0), (.int .u8 4), (.int .u8 0)], [(r 44), (r 44), (.int .u8 0), (.int .u8 6), (.int .u8 16), (.int .u8 7), (.int .u8 0)], [(r 45), (r 45), (.int .u8 0), (.int .u8 0), (.int .u8 11), (.int .u8 4), (.int .u8 0)], [(r 46), (r 46), (.int .u8 0), (.int .u8 7), (.int .u8 16), (.int .u8 7), (.int .u8 0)], [(r 47), (r 47), (.int .u8 0), (.int .u8 0), (.int .u8 10), (.int .u8 7), (.int .u8 0)], [(r 48), (r 57), (.int .u8 0), (.int .u8 4), (.int .u8 17), (.int .u8 3), (.int .u8 0)], [(r 58), (r 58), (.int .u8 0), (.int .u8 5), (.int .u8 16), (.int .u8 7), (.int .u8 0)], [(r 59), (r 59), (.int .u8 0), (.int .u8 6), (.int .u8 16), (.int .u8 13), (.int .u8 0)], [(r 60), (r 62), (.int .u8 0), (.int .u8 0), (.int .u8 0), (.int .u8 13), (.int .u8 0)], [(r 63), (r 63), (.int .u8 0), (.int .u8 0), (.int .u8 15), (.int .u8 13), (.int .u8 0)], [(r 64), (r 64), (.int .u8 0), (.int .u8 0), (.int .u8 0), (.int .u8 13), (.int .u8 0)], [(r 65), (r 90), (.int .u8 0), (.int .u8 3), (.int .u8 0), (.int .u8 0), (.int .u8 0)], [(r 91), (r 91), (.int .u8 0), (.int .u8 0), (.int .u8 12), (.int .u8 13), (.int .u8 0)], [(r 92), (r 92), (.int .u8 0), (.int .u8 0), (.int .u8 0), (.int .u8 13), (.int .u8 0)], [(r 93), (r 93), (.int .u8 0), (.int .u8 0), (.int .u8 13), (.int .u8 13), (.int .u8 0)], [(r 94), (r 94), (.int .u8 0), (.int .u8 0), (.int .u8 0), (.int .u8 13), (.int .u8 0)], [(r 95), (r 95), (.int .u8 0), (.int .u8 8), (.int .u8 0), (.int .u8 13), (.int .u8 0)], [(r 96), (r 96), (.int .u8 0), (.int .u8 0), (.int .u8 0), (.int .u8 13), (.int .u8 0)], c50, [(r 123), (r 123), (.int .u8 0), (.int .u8 0), (.int .u8 12), (.int .u8 13), (.int .u8 0)], [(r 124), (r 124), (.int .u8 0), (.int .u8 0), (.int .u8 10), (.int .u8 13), (.int .u8 0)], [(r 125), (r 125), (.int .u8 0), (.int .u8 0), (.int .u8 13), (.int .u8 13), (.int .u8 0)], [(r 126), (r 126), (.int .u8 0), (.int .u8 0), (.int .u8 0), (.int .u8 13), (.int .u8 0)], [(r 127), (r 132), (.int .u8 3), (.int .u8 0), (.int .u8 7), (.int .u8 9), (.int .u8 0)], [(r 133), (r 133), (.int .u8 3), (.int .u8 1), (.int .u8 1), (.int .u8 10), (.int .u8 0)], [(r 134), (r 159), (.int .u8 3), (.int .u8 0), (.int .u8 7), (.int .u8 9), (.int .u8 0)], [(r 160), (r 160), (.int .u8 0), (.int .u8 0), (.int .u8 9), (.int .u8 7), (.int .u8 0)], [(r 161), (r 161), (.int .u8 0), (.int .u8 0), (.int .u8 12), (.int .u8 13), (.int .u8 0)]])
abbrev c51 : List V := [(i 0), (i 0), (i 0), (i 0), (i 0), (i 0), (i 8), (i 3), (i 11), (.lst [])]
abbrev c52 : List V := [(.bool true), (.bool true)]
abbrev c53 : List V := [(i 1), (i 1), (.lst []), (.lst []), (i 0), (i 1), (.lst []), (.lst [])]
abbrev c54 : List V := [(i 16), (i 12), (i 4), (i 0), (i 20), (.lst []), (.lst []), (.lst [])]
abbrev c2 : V := (.lst [c16, c54])
abbrev c21 : List V := [(rl [101, 769]), (.lst [(is [0, 2, 0, 10])]), (i 0), (i 0), (i 1000), c2, (il [0, 2]), (il [0, 2]), (.sl 7 0 3 3 1), (.sl 13 0 2 2 1), (rl [101, 769]), (il [0, 0]), (.sl 3 0 3 3 1), (.mref 4), (.mref 5), (.sl 15 0 1 1 4)]
abbrev c22 : List V := [(rl [97, 98]), (.lst [(is [0, 2, 0, 10])]), (i 0), (i 0), (i 1000), c2, (il [0, 2]), (il [0, 1, 2]), (.sl 7 0 3 3 1), (.sl 13 0 2 2 1), (rl [97, 98]), (il [0, 0]), (.sl 3 0 3 3 1), (.mref 4), (.mref 5), (.sl 15 0 1 1 4)]
abbrev c27 : List V := [(rl [97]), (.lst [(is [0, 1, 0, 10])]), (i 0), (i 0), (i 1000), c2, (il [2]), (il [0, 1]), (.sl 7 0 2 2 1), (.sl 11 0 1 1 1), (rl [97]), (il [0]), (.sl 3 0 2 2 1), (.mref 4), (.mref 5), (.sl 13 0 1 1 4)]
abbrev c47 : List V := [(.lst []), (.lst [(is [0, 0, 0, 10])]), (i 0), (i 0), (i 1000), c2, (.lst []), (.lst []), (.sl 7 0 1 1 1), .nils, (.lst []), (.lst []), (.sl 3 0 1 1 1), (.mref 4), (.mref 5), (.sl 11 0 1 1 4)]
abbrev c55 : Heap := [some [(i 0)], none, some [(i 0)], some [(i 0)], some c20, some c35]
abbrev c56 : List V := [(i 1), (rl [98]), (.lst []), (.lst []), (i 0), (i 0), (.bool false), (i 0), (i 0), (i 0), (i 0), (i 0), (i 0), (.lst []), (i 0)]
abbrev c57 : List V := [(i 1), (rl [97]), (.lst []), (.lst []), (i 0), (i 0), (.bool false), (i 0), (i 0), (i 0), (i 0), (i 0), (i 0), (.lst []), (i 0)]
abbrev c58 : List V := [(.agg [(i 0), (i 10), (r 97), (r 0), (.bool true)]), (i 10)]
abbrev c59 : V := (.lst [[(i 1), (i 0), c1]])
abbrev c7 : List V := [(rl [97, 98]), (.lst [(is [2, 0])]), (i 2), (i 2), (.bool false), (.bool false), (i 0), (i 0), (.lst []), (.lst []), (i 0), (i 0), (.lst []), c59, (.lst []), (.bool false), (i 0), (i (-1)), (i (-1))]
abbrev c31 : List V := [(.lst []), (.lst []), (i 0), (i 0), (.bool false), (.bool false), (i 0), (i 0), (.lst []), (.lst []), (i 0), (i 0), (.lst []), (.lst []), c59, (.bool true), (i 0), (i (-1)), (i (-1))]
abbrev c33 : List V := [(.bool false), (.bool false), (i 100), (i 0), (i 1), (i 10), (i 1000), (i 0), (i 0), c2, (i 9), .nils, .nils, .nils, (i 0), (i 0), (.bool false), (i 0), (i 0), (i 0), (i 0), (i 0), (i 0), .nils, (i 0), (.lst []), (.lst []), (i 0), (i 0), (.bool false), (.bool false), (i 0), (i 0), (.lst []), (.lst []), (i 0), (i 0), (.lst []), (.lst []), c59, (.bool true), (i 0), (i (-1)), (i (-1)), (rl [97, 98]), (.lst [(is [0, 2, 0, 10])]), (i 0), (i 0), (i 1000), (.lst [c24]), (.sl 27 0 2 2 4), .nils, .nils]
abbrev c60 : List V := [(i 2), .nils, .nils, .nils, (i 1), (i 0), (.bool false), (i 0), (i 0), (i 0), (i 0), (i 0), (i 0), .nils, (i 0)]
abbrev c61 : List V := [(.lst []), (.lst []), (i 0), (i 0), (.bool false), (.bool false), (i 0), (i 0), (.lst []), (.lst []), (i 0), (i 0), (.lst []), (.lst [[(i 2), (i 0), (.lst [c19])]]), (.lst []), (.bool false), (i 0), (i (-1)), (i (-1))]
abbrev c62 : List V := [(i 0), (i (-1)), (.bool false)]
abbrev c63 : List V := [(.sl 1 0 2 2 1), (.sl 2 0 2 2 1), (.sl 3 0 3 3 1)]
abbrev c64 : List V := [(i 0), (i 2), (.lst []), (.lst [])]
abbrev c65 : List V := [(.mq [c58, [(.agg [(i 0), (i 10), (r 98), (r 0), (.bool true)]), (i 10)], [(.agg [(i 0), (i 10), (r 97), (r 98), (.bool false)]), (i 0)]])]
abbrev c66 : List V := [(.mq [[(.agg [(i 0), (i 10), (r 101), (r 0), (.bool true)]), (i 10)], [(.agg [(i 0), (i 10), (r 769), (r 0), (.bool true)]), (i 0)]])]
abbrev c67 : List V := [(.ptr 4 0), (.agg c14)]
abbrev c68 : List V := [(rl [97]), (.lst [(is [1, 0])])]
abbrev c69 : List V := [(.mq [[(.agg [(i 0), (i 0), (r 97), (r 98), (.bool false)]), (.agg [(r 0), (r 0), (i 0), (i 0), (.bool false)])]])]
abbrev c70 : V := (.lst [[(i 1), (i 0), (.lst [c17])]])
abbrev c6 : List V := [(rl [97]), (.lst [(is [1, 0])]), (i 1), (i 1), (.bool false), (.bool false), (i 0), (i 0), (.lst []), (.lst []), (i 0), (i 0), (.lst []), c70, (.lst []), (.bool false), (i 0), (i (-1)), (i (-1))]
def t233 : Tbl := [(⟨⟨0, [], 0⟩, [(.agg [(il [0, 0]), (il [0, 0]), (.lst [[(.bool true)], [(.bool true)], [(.bool true)]])]), (i 1)], []⟩, (i 0), [some [(il [0, 0]), (il [0, 0]), (.lst [[(.bool true)], [(.bool true)], [(.bool true)]])], some (is [1, 3, 2]), some (is [1, 2, 3, 4, 5]), some (is [13, 15, 16]), some (is [17, 11, 16]), some (is [0, 16])]),
  (⟨⟨0, [], 0⟩, [(.agg [(il [0, 7]), (il [0, 0]), (.lst [[(.bool true)], [(.bool false)], [(.bool true)]])]), (i 1)], []⟩, (i 0), [some [(il [0, 7]), (il [0, 0]), (.lst [[(.bool true)], [(.bool false)], [(.bool true)]])], some (is [1, 3, 2]), some (is [1, 2, 3, 4, 5])])]
theorem r233x0 : ∀ k r, t233[0]? = some (k, r) → KT [] k.cfg 233 k.args k.h = some r := by
  intro k r hk
  cases hk
  kernel_rfl
theorem r233x1 : ∀ k r, t233[1]? = some (k, r) → KT [] k.cfg 233 k.args k.h = some r := by
  intro k r hk
  cases hk
  kernel_rfl
theorem ok233 : RowsOK Tryz.prog md28 (primB bC []) 10000 40 233 t233 := (rows_cons (r233x0 _ _ rfl) (rows_cons (r233x1 _ _ rfl) rows_nil))
def ps1 : List (FuncId × Tbl) := (233, t233) :: []
theorem pk1 : ∀ f t, (f, t) ∈ ps1 → PrimOK Tryz.prog f (memoP t) := memo_cons (by simp) (memo_ok hfol hnam (primB_ok bC_ok (by simp)) ok233)
def t238 : Tbl := [(⟨⟨0, [], 0⟩, [(.lst [])], []⟩, (.sl 0 0 0 0 1), [some []]),
  (⟨⟨0, [], 0⟩, [(il [0])], []⟩, (.sl 0 0 1 1 1), [some [(i 0)]]),
  (⟨⟨0, [], 0⟩, [(il [0, 0])], []⟩, (.sl 0 0 2 2 1), [some (is [0, 1])])]
theorem r238x0 : ∀ k r, t238[0]? = some (k, r) → KT ps1 k.cfg 238 k.args k.h = some r := by
  intro k r hk
  cases hk
  kernel_rfl
theorem r238x1 : ∀ k r, t238[1]? = some (k, r) → KT ps1 k.cfg 238 k.args k.h = some r := by
  intro k r hk
  cases hk
  kernel_rfl
theorem r238x2 : ∀ k r, t238[2]? = some (k, r) → KT ps1 k.cfg 238 k.args k.h = some r := by
  intro k r hk
  cases hk
  kernel_rfl
theorem ok238 : RowsOK Tryz.prog md28 (primB bC ps1) 10000 40 238 t238 := (rows_cons (r238x0 _ _ rfl) (rows_cons (r238x1 _ _ rfl) (rows_cons (r238x2 _ _ rfl) rows_nil)))
def ps2 : List (FuncId × Tbl) := (238, t238) :: ps1
theorem pk2 : ∀ f t, (f, t) ∈ ps2 → PrimOK Tryz.prog f (memoP t) := memo_cons pk1 (memo_ok hfol hnam (primB_ok bC_ok pk1) ok238)
def t278 : Tbl := [(⟨⟨2, [], 2⟩, [(.sl 0 0 0 0 1)], [some [], some []]⟩, (.sl 2 0 0 0 1), [some [], some [], some []]),
  (⟨⟨3, [], 3⟩, [(.sl 0 0 1 1 1)], [some [(i 0)], none, some [(i 0)]]⟩, (.sl 3 0 1 1 1), [some [(i 0)], none, some [(i 0)], some [(i (-1))]]),
  (⟨⟨3, [], 3⟩, [(.sl 0 0 2 2 1)], [some (is [0, 0]), none, some (is [0, 0])]⟩, (.sl 3 0 2 2 1), [some (is [0, 0]), none, some (is [0, 0]), some (is [-1, -1])]),
  (⟨⟨3, [], 3⟩, [(.sl 0 0 2 2 1)], [some (is [0, 8]), none, some (is [0, 8])]⟩, (.sl 3 0 2 2 1), [some (is [0, 8]), none, some (is [0, 8]), some (is [-1, -1])])]
theorem r278x0 : ∀ k r, t278[0]? = some (k, r) → KT ps2 k.cfg 278 k.args k.h = some r := by
  intro k r hk
  cases hk
  kernel_rfl
theorem r278x1 : ∀ k r, t278[1]? = some (k, r) → KT ps2 k.cfg 278 k.args k.h = some r := by
  intro k r hk
  cases hk
  kernel_rfl
theorem r278x2 : ∀ k r, t278[2]? = some (k, r) → KT ps2 k.cfg 278 k.args k.h = some r := by
  intro k r hk
  cases hk
  kernel_rfl
theorem r278x3 : ∀ k r, t278[3]? = some (k, r) → KT ps2 k.cfg 278 k.args k.h = some r := by
  intro k r hk
  cases hk
  kernel_rfl
theorem ok278 : RowsOK Tryz.prog md28 (primB bC ps2) 10000 40 278 t278 := (rows_cons (r278x0 _ _ rfl) (rows_cons (r278x1 _ _ rfl) (rows_cons (r278x2 _ _ rfl) (rows_cons (r278x3 _ _ rfl) rows_nil))))
def ps3 : List (FuncId × Tbl) := (278, t278) :: ps2
theorem pk3 : ∀ f t, (f, t) ∈ ps3 → PrimOK Tryz.prog f (memoP t) := memo_cons pk2 (memo_ok hfol hnam (primB_ok bC_ok pk2) ok278)
def t280 : Tbl := [(⟨⟨0, [], 4⟩, [(.ptr 3 0)], [some [], some [], some [], some [(.lst []), (.sl 0 0 0 0 1), (.sl 1 0 0 0 1), (.lst []), (.sl 2 0 0 0 1), (i 0)]]⟩, (.tup []), [some [], some [], some [], some [(.lst []), (.sl 0 0 0 0 1), (.sl 1 0 0 0 1), (.lst []), (.sl 2 0 0 0 1), (i 0)], some [(.ptr 3 0)], some c62, some [(.sl 5 0 1 1 3)]]),
  (⟨⟨0, [], 5⟩, [(.ptr 4 0)], [some [(i 0)], none, some [(i 0)], some [(i 0)], some c20]⟩, (.tup []), [some [(i 0)], none, some [(i 0)], some [(i 0)], some c20, some [(.ptr 4 0)], some c62, some [(.sl 6 0 1 1 3)], some [(i 0)], some c62]),
  (⟨⟨0, [], 5⟩, [(.ptr 4 0)], [some (is [0, 0]), none, some (is [0, 0]), some (is [0, 0]), some c12]⟩, (.tup []), [some (is [0, 0]), none, some (is [0, 0]), some (is [0, 0]), some c12, some [(.ptr 4 0)], some c62, some [(.sl 6 0 1 1 3)], some [(i 0)], some c62, some [(i 1)], some c62]),
  (⟨⟨0, [], 5⟩, [(.ptr 4 0)], [some (is [0, 8]), none, some (is [0, 8]), some (is [0, 0]), some c10]⟩, (.tup []), [some (is [0, 8]), none, some (is [0, 8]), some (is [0, 0]), some c10, some [(.ptr 4 0)], some c62, some [(.sl 6 0 1 1 3)], some [(i 0)], some c62, some [(i 1)], some c62])]
theorem r280x0 : ∀ k r, t280[0]? = some (k, r) → KT ps3 k.cfg 280 k.args k.h = some r := by
  intro k r hk
  cases hk
  kernel_rfl
theorem r280x1 : ∀ k r, t280[1]? = some (k, r) → KT ps3 k.cfg 280 k.args k.h = some r := by
  intro k r hk
  cases hk
  kernel_rfl
theorem r280x2 : ∀ k r, t280[2]? = some (k, r) → KT ps3 k.cfg 280 k.args k.h = some r := by
  intro k r hk
  cases hk
  kernel_rfl
theorem r280x3 : ∀ k r, t280[3]? = some (k, r) → KT ps3 k.cfg 280 k.args k.h = some r := by
  intro k r hk
  cases hk
  kernel_rfl
theorem ok280 : RowsOK Tryz.prog md28 (primB bC ps3) 10000 40 280 t280 := (rows_cons (r280x0 _ _ rfl) (rows_cons (r280x1 _ _ rfl) (rows_cons (r280x2 _ _ rfl) (rows_cons (r280x3 _ _ rfl) rows_nil))))
def ps4 : List (FuncId × Tbl) := (280, t280) :: ps3
theorem pk4 : ∀ f t, (f, t) ∈ ps4 → PrimOK Tryz.prog f (memoP t) := memo_cons pk3 (memo_ok hfol hnam (primB_ok bC_ok pk3) ok280)
def t282 : Tbl := [(⟨⟨0, [], 6⟩, [(.ptr 4 0), (.agg c35)], c55⟩, (.tup []), [some [(i 0)], none, some [(i 0)], some [(i 0)], some c20, some c35, some [(.ptr 4 0)], some c35]),
  (⟨⟨0, [], 6⟩, c67, c37⟩, (.tup []), [some (is [0, 0]), none, some (is [0, 0]), some (is [0, 0]), some c12, some c14, some [(.ptr 4 0)], some c14]),
  (⟨⟨0, [], 6⟩, c67, [some (is [0, 8]), none, some (is [0, 8]), some (is [0, 0]), some c10, some c14]⟩, (.tup []), [some (is [0, 8]), none, some (is [0, 0]), some (is [0, 0]), some c10, some c14, some [(.ptr 4 0)], some c14])]
theorem r282x0 : ∀ k r, t282[0]? = some (k, r) → KT ps4 k.cfg 282 k.args k.h = some r := by
  intro k r hk
  cases hk
  kernel_rfl
theorem r282x1 : ∀ k r, t282[1]? = some (k, r) → KT ps4 k.cfg 282 k.args k.h = some r := by
  intro k r hk
  cases hk
  kernel_rfl
theorem r282x2 : ∀ k r, t282[2]? = some (k, r) → KT ps4 k.cfg 282 k.args k.h = some r := by
  intro k r hk
  cases hk
  kernel_rfl
theorem ok282 : RowsOK Tryz.prog md28 (primB bC ps4) 10000 40 282 t282 := (rows_cons (r282x0 _ _ rfl) (rows_cons (r282x1 _ _ rfl) (rows_cons (r282x2 _ _ rfl) rows_nil)))
def ps5 : List (FuncId × Tbl) := (282, t282) :: ps4
theorem pk5 : ∀ f t, (f, t) ∈ ps5 → PrimOK Tryz.prog f (memoP t) := memo_cons pk4 (memo_ok hfol hnam (primB_ok bC_ok pk4) ok282)
def t284 : Tbl := [(⟨⟨0, [], 6⟩, [(.ptr 4 0), (.agg c35)], c55⟩, (.tup []), [some [(i 0)], none, some [(i 0)], some [(i 0)], some c20, some c35, some c35]),
  (⟨⟨0, [], 6⟩, c67, c37⟩, (.tup []), [some (is [0, 0]), none, some (is [0, 0]), some (is [0, 0]), some c12, some c14, some c14]),
  (⟨⟨0, [], 6⟩, c67, c48⟩, (.tup []), [some (is [0, 8]), none, some (is [0, 0]), some (is [0, 0]), some c10, some c14, some c14])]
theorem r284x0 : ∀ k r, t284[0]? = some (k, r) → KT ps5 k.cfg 284 k.args k.h = some r := by
  intro k r hk
  cases hk
  kernel_rfl
theorem r284x1 : ∀ k r, t284[1]? = some (k, r) → KT ps5 k.cfg 284 k.args k.h = some r := by
  intro k r hk
  cases hk
  kernel_rfl
theorem r284x2 : ∀ k r, t284[2]? = some (k, r) → KT ps5 k.cfg 284 k.args k.h = some r := by
  intro k r hk
  cases hk
  kernel_rfl
theorem ok284 : RowsOK Tryz.prog md28 (primB bC ps5) 10000 40 284 t284 := (rows_cons (r284x0 _ _ rfl) (rows_cons (r284x1 _ _ rfl) (rows_cons (r284x2 _ _ rfl) rows_nil)))
def ps6 : List (FuncId × Tbl) := (284, t284) :: ps5
theorem pk6 : ∀ f t, (f, t) ∈ ps6 → PrimOK Tryz.prog f (memoP t) := memo_cons pk5 (memo_ok hfol hnam (primB_ok bC_ok pk5) ok284)
def t285 : Tbl := [(⟨⟨0, [], 6⟩, [(.ptr 4 0), (.agg c35)], c55⟩, (.tup []), [some [(i 0)], none, some [(i 0)], some [(i 0)], some c20, some c35, some c35]),
  (⟨⟨0, [], 6⟩, c67, c37⟩, (.tup []), [some (is [0, 0]), none, some (is [0, 0]), some (is [0, 0]), some c12, some c14, some c14]),
  (⟨⟨0, [], 6⟩, c67, c48⟩, (.tup []), [some (is [0, 8]), none, some (is [0, 0]), some (is [0, 0]), some c10, some c14, some c14])]
theorem r285x0 : ∀ k r, t285[0]? = some (k, r) → KT ps6 k.cfg 285 k.args k.h = some r := by
  intro k r hk
  cases hk
  kernel_rfl
theorem r285x1 : ∀ k r, t285[1]? = some (k, r) → KT ps6 k.cfg 285 k.args k.h = some r := by
  intro k r hk
  cases hk
  kernel_rfl
theorem r285x2 : ∀ k r, t285[2]? = some (k, r) → KT ps6 k.cfg 285 k.args k.h = some r := by
  intro k r hk
  cases hk
  kernel_rfl
theorem ok285 : RowsOK Tryz.prog md28 (primB bC ps6) 10000 40 285 t285 := (rows_cons (r285x0 _ _ rfl) (rows_cons (r285x1 _ _ rfl) (rows_cons (r285x2 _ _ rfl) rows_nil)))
def ps7 : List (FuncId × Tbl) := (285, t285) :: ps6
theorem pk7 : ∀ f t, (f, t) ∈ ps7 → PrimOK Tryz.prog f (memoP t) := memo_cons pk6 (memo_ok hfol hnam (primB_ok bC_ok pk6) ok285)
def t286 : Tbl := [(⟨⟨5, [], 5⟩, [(.ptr 4 0), (i 0)], [some [(i 0)], none, some [(i 0)], some [(i 0)], some c20]⟩, (.bool false), [some [(i 0)], none, some [(i 0)], some [(i 0)], some c20]),
  (⟨⟨6, [], 6⟩, [(.ptr 4 0), (i 0)], c55⟩, (.bool false), c55),
  (⟨⟨5, [], 5⟩, [(.ptr 4 0), (i 0)], [some (is [0, 0]), none, some (is [0, 0]), some (is [0, 0]), some c12]⟩, (.bool false), [some (is [0, 0]), none, some (is [0, 0]), some (is [0, 0]), some c12]),
  (⟨⟨7, [], 7⟩, [(.ptr 4 0), (i 1)], [some (is [0, 0]), none, some (is [0, 0]), some (is [0, 0]), some c12, some [(i 0)], some [(i 0)]]⟩, (.bool false), [some (is [0, 0]), none, some (is [0, 0]), some (is [0, 0]), some c12, some [(i 0)], some [(i 0)]]),
  (⟨⟨6, [], 6⟩, [(.ptr 4 0), (i 0)], c37⟩, (.bool false), c37),
  (⟨⟨6, [], 6⟩, [(.ptr 4 0), (i 1)], c37⟩, (.bool false), c37),
  (⟨⟨5, [], 5⟩, [(.ptr 4 0), (i 0)], [some (is [0, 8]), none, some (is [0, 8]), some (is [0, 0]), some c10]⟩, (.bool false), [some (is [0, 8]), none, some (is [0, 8]), some (is [0, 0]), some c10]),
  (⟨⟨7, [], 7⟩, [(.ptr 4 0), (i 1)], [some (is [0, 8]), none, some (is [0, 8]), some (is [0, 0]), some c10, some [(i 0)], some [(i 0)]]⟩, (.bool false), [some (is [0, 8]), none, some (is [0, 8]), some (is [0, 0]), some c10, some [(i 0)], some [(i 0)]]),
  (⟨⟨6, [], 6⟩, [(.ptr 4 0), (i 0)], c48⟩, (.bool false), c48),
  (⟨⟨6, [], 6⟩, [(.ptr 4 0), (i 1)], c48⟩, (.bool false), c48)]
theorem r286x0 : ∀ k r, t286[0]? = some (k, r) → KT ps7 k.cfg 286 k.args k.h = some r := by
  intro k r hk
  cases hk
  kernel_rfl
theorem r286x1 : ∀ k r, t286[1]? = some (k, r) → KT ps7 k.cfg 286 k.args k.h = some r := by
  intro k r hk
  cases hk
  kernel_rfl
theorem r286x2 : ∀ k r, t286[2]? = some (k, r) → KT ps7 k.cfg 286 k.args k.h = some r := by
  intro k r hk
  cases hk
  kernel_rfl
theorem r286x3 : ∀ k r, t286[3]? = some (k, r) → KT ps7 k.cfg 286 k.args k.h = some r := by
  intro k r hk
  cases hk
  kernel_rfl
theorem r286x4 : ∀ k r, t286[4]? = some (k, r) → KT ps7 k.cfg 286 k.args k.h = some r := by
  intro k r hk
  cases hk
  kernel_rfl
theorem r286x5 : ∀ k r, t286[5]? = some (k, r) → KT ps7 k.cfg 286 k.args k.h = some r := by
  intro k r hk
  cases hk
  kernel_rfl
theorem r286x6 : ∀ k r, t286[6]? = some (k, r) → KT ps7 k.cfg 286 k.args k.h = some r := by
  intro k r hk
  cases hk
  kernel_rfl
theorem r286x7 : ∀ k r, t286[7]? = some (k, r) → KT ps7 k.cfg 286 k.args k.h = some r := by
  intro k r hk
  cases hk
  kernel_rfl
theorem r286x8 : ∀ k r, t286[8]? = some (k, r) → KT ps7 k.cfg 286 k.args k.h = some r := by
  intro k r hk
  cases hk
  kernel_rfl
theorem r286x9 : ∀ k r, t286[9]? = some (k, r) → KT ps7 k.cfg 286 k.args k.h = some r := by
  intro k r hk
  cases hk
  kernel_rfl
theorem ok286 : RowsOK Tryz.prog md28 (primB bC ps7) 10000 40 286 t286 := (rows_cons (r286x0 _ _ rfl) (rows_cons (r286x1 _ _ rfl) (rows_cons (r286x2 _ _ rfl) (rows_cons (r286x3 _ _ rfl) (rows_cons (r286x4 _ _ rfl) (rows_cons (r286x5 _ _ rfl) (rows_cons (r286x6 _ _ rfl) (rows_cons (r286x7 _ _ rfl) (rows_cons (r286x8 _ _ rfl) (rows_cons (r286x9 _ _ rfl) rows_nil))))))))))
def ps8 : List (FuncId × Tbl) := (286, t286) :: ps7
theorem pk8 : ∀ f t, (f, t) ∈ ps8 → PrimOK Tryz.prog f (memoP t) := memo_cons pk7 (memo_ok hfol hnam (primB_ok bC_ok pk7) ok286)
def t310 : Tbl := [(⟨⟨7, [], 7⟩, [(.ptr 4 0), (.agg c35)], [some [(i 0)], none, some [(i 0)], some [(i 0)], some c20, some c35, some c35]⟩, .nils, [some [(i 0)], none, some [(i 0)], some [(i 0)], some c20, some c35, some c35, some c35]),
  (⟨⟨7, [], 7⟩, c67, [some (is [0, 0]), none, some (is [0, 0]), some (is [0, 0]), some c12, some c14, some c14]⟩, .nils, [some (is [0, 0]), none, some (is [0, 0]), some (is [0, 0]), some c12, some c14, some c14, some c14]),
  (⟨⟨7, [], 7⟩, c67, [some (is [0, 8]), none, some (is [0, 0]), some (is [0, 0]), some c10, some c14, some c14]⟩, .nils, [some (is [0, 8]), none, some (is [0, 0]), some (is [0, 0]), some c10, some c14, some c14, some c14])]
theorem r310x0 : ∀ k r, t310[0]? = some (k, r) → KT ps8 k.cfg 310 k.args k.h = some r := by
  intro k r hk
  cases hk
  kernel_rfl
theorem r310x1 : ∀ k r, t310[1]? = some (k, r) → KT ps8 k.cfg 310 k.args k.h = some r := by
  intro k r hk
  cases hk
  kernel_rfl
theorem r310x2 : ∀ k r, t310[2]? = some (k, r) → KT ps8 k.cfg 310 k.args k.h = some r := by
  intro k r hk
  cases hk
  kernel_rfl
theorem ok310 : RowsOK Tryz.prog md28 (primB bC ps8) 10000 40 310 t310 := (rows_cons (r310x0 _ _ rfl) (rows_cons (r310x1 _ _ rfl) (rows_cons (r310x2 _ _ rfl) rows_nil)))
def ps9 : List (FuncId × Tbl) := (310, t310) :: ps8
theorem pk9 : ∀ f t, (f, t) ∈ ps9 → PrimOK Tryz.prog f (memoP t) := memo_cons pk8 (memo_ok hfol hnam (primB_ok bC_ok pk8) ok310)
def t183 : Tbl := [(⟨⟨0, [], 0⟩, [c4, (r 97)], []⟩, (.agg c50), [some c50]),
  (⟨⟨0, [], 0⟩, [c4, (r 98)], []⟩, (.agg c50), [some c50]),
  (⟨⟨0, [], 0⟩, [c4, (r 101)], []⟩, (.agg c50), [some c50]),
  (⟨⟨0, [], 0⟩, [(.lst [[(r 162), (r 165), (.int .u8 0), (.int .u8 0), (.int .u8 0), (.int .u8 5), (.int .u8 0)], [(r 166), (r 169), (.int .u8 0), (.int .u8 0), (.int .u8 0), (.int .u8 13), (.int .u8 0)], [(r 170), (r 170), (.int .u8 0), (.int .u8 3), (.int .u8 0), (.int .u8 0), (.int .u8 0)], [(r 171), (r 171), (.int .u8 0), (.int .u8 0), (.int .u8 14), (.int .u8 13), (.int .u8 0)], [(r 172), (r 172), (.int .u8 0), (.int .u8 0), (.int .u8 0), (.int .u8 13), (.int .u8 0)], [(r 173), (r 173), (.int .u8 3), (.int .u8 10), (.int .u8 10), (.int .u8 9), (.int .u8 4)], [(r 174), (r 180), (.int .u8 0), (.int .u8 0), (.int .u8 0), (.int .u8 13), (.int .u8 0)], [(r 181), (r 181), (.int .u8 0), (.int .u8 3), (.int .u8 0), (.int .u8 0), (.int .u8 0)], [(r 182), (r 182), (.int .u8 0), (.int .u8 0), (.int .u8 0), (.int .u8 13), (.int .u8 0)], [(r 183), (r 183), (.int .u8 0), (.int .u8 5), (.int .u8 0), (.int .u8 13), (.int .u8 0)], [(r 184), (r 185), (.int .u8 0), (.int .u8 0), (.int .u8 0), (.int .u8 13), (.int .u8 0)], [(r 186), (r 186), (.int .u8 0), (.int .u8 3), (.int .u8 0), (.int .u8 0), (.int .u8 0)], [(r 187), (r 187), (.int .u8 0), (.int .u8 0), (.int .u8 14), (.int .u8 13), (.int .u8 0)], [(r 188), (r 191), (.int .u8 0), (.int .u8 0), (.int .u8 0), (.int .u8 13), (.int .u8 0)], [(r 192), (r 767), (.int .u8 0), (.int .u8 3), (.int .u8 0), (.int .u8 0), (.int .u8 0)], [(r 768), (r 879), (.int .u8 4), (.int .u8 10), (.int .u8 7), (.int .u8 8), (.int .u8 4)], [(r 880), (r 1423), (.int .u8 0), (.int .u8 3), (.int .u8 0), (.int .u8 0), (.int .u8 0)], [(r 1424), (r 1469), (.int .u8 4), (.int .u8 10), (.int .u8 7), (.int .u8 8), (.int .u8 4)], [(r 1470), (r 1470), (.int .u8 0), (.int .u8 0), (.int .u8 10), (.int .u8 1), (.int .u8 0)], [(r 1471), (r 1479), (.int .u8 4), (.int .u8 10), (.int .u8 7), (.int .u8 8), (.int .u8 4)], [(r 1488), (r 1514), (.int .u8 0), (.int .u8 3), (.int .u8 0), (.int .u8 1), (.int .u8 0)], [(r 1536), (r 1541), (.int .u8 7), (.int .u8 0), (.int .u8 0), (.int .u8 6), (.int .u8 0)], [(r 1548), (r 1548), (.int .u8 0), (.int .u8 6), (.int .u8 16), (.int .u8 7), (.int .u8 0)], [(r 1552), (r 1562), (.int .u8 4), (.int .u8 10), (.int .u8 7), (.int .u8 8), (.int .u8 4)], [(r 1563), (r 1563), (.int .u8 0), (.int .u8 0), (.int .u8 15), (.int .u8 2), (.int .u8 0)], [(r 1564), (r 1564), (.int .u8 3), (.int .u8 10), (.int .u8 7), (.int .u8 2), (.int .u8 4)], [(r 1567), (r 1567), (.int .u8 0), (.int .u8 0), (.int .u8 15), (.int .u8 2), (.int .u8 0)], [(r 1568), (r 1568), (.int .u8 0), (.int .u8 3), (.int .u8 0), (.int .u8 2), (.int .u8 2)], [(r 1569), (r 1569), (.int .u8 0), (.int .u8 3), (.int .u8 0), (.int .u8 2), (.int .u8 0)], [(r 1570), (r 1573), (.int .u8 0), (.int .u8 3), (.int .u8 0), (.int .u8 2), (.int .u8 1)], [(r 1574), (r 1574), (.int .u8 0), (.int .u8 3), (.int .u8 0), (.int .u8 2), (.int .u8 2)], [(r 1575), (r 1575), (.int .u8 0), (.int .u8 3), (.int .u8 0), (.int .u8 2), (.int .u8 1)], [(r 1576), (r 1576), (.int .u8 0), (.int .u8 3), (.int .u8 0), (.int .u8 2), (.int .u8 2)], [(r 1577), (r 1577), (.int .u8 0), (.int .u8 3), (.int .u8 0), (.int .u8 2), (.int .u8 1)], [(r 1578), (r 1582), (.int .u8 0), (.int .u8 3), (.int .u8 0), (.int .u8 2), (.int .u8 2)], [(r 1583), (r 1586), (.int .u8 0), (.int .u8 3), (.int .u8 0), (.int .u8 2), (.int .u8 1)], [(r 1587), (r 1599), (.int .u8 0), (.int .u8 3), (.int .u8 0), (.int .u8 2), (.int .u8 2)], [(r 1600), (r 1600), (.int .u8 0), (.int .u8 3), (.int .u8 0), (.int .u8 2), (.int .u8 3)], [(r 1601), (r 1607), (.int .u8 0), (.int .u8 3), (.int .u8 0), (.int .u8 2), (.int .u8 2)], [(r 1608), (r 1608), (.int .u8 0), (.int .u8 3), (.int .u8 0), (.int .u8 2), (.int .u8 1)], [(r 1609), (r 1610), (.int .u8 0), (.int .u8 3), (.int .u8 0), (.int .u8 2), (.int .u8 2)], [(r 1611), (r 1631), (.int .u8 4), (.int .u8 10), (.int .u8 7), (.int .u8 8), (.int .u8 4)], [(r 1632), (r 1641), (.int .u8 0), (.int .u8 4), (.int .u8 17), (.int .u8 6), (.int .u8 0)], [(r 1642), (r 1642), (.int .u8 0), (.int .u8 0), (.int .u8 0), (.int .u8 5), (.int .u8 0)]]), (r 769)], []⟩, (.agg [(r 768), (r 879), (.int .u8 4), (.int .u8 10), (.int .u8 7), (.int .u8 8), (.int .u8 4)]), [some [(r 768), (r 879), (.int .u8 4), (.int .u8 10), (.int .u8 7), (.int .u8 8), (.int .u8 4)]])]
theorem r183x0 : ∀ k r, t183[0]? = some (k, r) → KT ps9 k.cfg 183 k.args k.h = some r := by
  intro k r hk
  cases hk
  kernel_rfl
theorem r183x1 : ∀ k r, t183[1]? = some (k, r) → KT ps9 k.cfg 183 k.args k.h = some r := by
  intro k r hk
  cases hk
  kernel_rfl
theorem r183x2 : ∀ k r, t183[2]? = some (k, r) → KT ps9 k.cfg 183 k.args k.h = some r := by
  intro k r hk
  cases hk
  kernel_rfl
theorem r183x3 : ∀ k r, t183[3]? = some (k, r) → KT ps9 k.cfg 183 k.args k.h = some r := by
  intro k r hk
  cases hk
  kernel_rfl
theorem ok183 : RowsOK Tryz.prog md28 (primB bC ps9) 10000 40 183 t183 := (rows_cons (r183x0 _ _ rfl) (rows_cons (r183x1 _ _ rfl) (rows_cons (r183x2 _ _ rfl) (rows_cons (r183x3 _ _ rfl) rows_nil))))
def ps10 : List (FuncId × Tbl) := (183, t183) :: ps9
theorem pk10 : ∀ f t, (f, t) ∈ ps10 → PrimOK Tryz.prog f (memoP t) := memo_cons pk9 (memo_ok hfol hnam (primB_ok bC_ok pk9) ok183)
def t232 : Tbl := [(⟨⟨0, [], 0⟩, [(rl [97])], []⟩, (.agg [(.sl 1 0 1 1 1), (.sl 2 0 1 1 1), (.sl 3 0 2 2 1)]), [some [(.sl 1 0 1 1 1), (.sl 2 0 1 1 1), (.sl 3 0 2 2 1)], some [(i 0)], some [(i 0)], some c52, some [(.sl 1 0 1 1 1), (.sl 2 0 1 1 1), (.sl 3 0 2 2 1)]]),
  (⟨⟨0, [], 0⟩, [(rl [97, 98])], []⟩, (.agg c63), [some c63, some (is [0, 0]), some (is [0, 0]), some c38, some c63]),
  (⟨⟨0, [], 0⟩, [(rl [101, 769])], []⟩, (.agg c63), [some c63, some (is [0, 7]), some (is [0, 0]), some c36, some c63])]
theorem r232x0 : ∀ k r, t232[0]? = some (k, r) → KT ps10 k.cfg 232 k.args k.h = some r := by
  intro k r hk
  cases hk
  kernel_rfl
theorem r232x1 : ∀ k r, t232[1]? = some (k, r) → KT ps10 k.cfg 232 k.args k.h = some r := by
  intro k r hk
  cases hk
  kernel_rfl
theorem r232x2 : ∀ k r, t232[2]? = some (k, r) → KT ps10 k.cfg 232 k.args k.h = some r := by
  intro k r hk
  cases hk
  kernel_rfl
theorem ok232 : RowsOK Tryz.prog md28 (primB bC ps10) 10000 40 232 t232 := (rows_cons (r232x0 _ _ rfl) (rows_cons (r232x1 _ _ rfl) (rows_cons (r232x2 _ _ rfl) rows_nil)))
def ps11 : List (FuncId × Tbl) := (232, t232) :: ps10
theorem pk11 : ∀ f t, (f, t) ∈ ps11 → PrimOK Tryz.prog f (memoP t) := memo_cons pk10 (memo_ok hfol hnam (primB_ok bC_ok pk10) ok232)
def t167 : Tbl := [(⟨⟨0, [], 0⟩, [(.lst [])], []⟩, .nils, []),
  (⟨⟨0, [], 0⟩, [(rl [97])], []⟩, (.sl 1 0 1 1 1), [some [(il [0]), (il [0]), (.lst [[(.bool true)], [(.bool true)]])], some [(i 2)]]),
  (⟨⟨0, [], 0⟩, [(rl [97, 98])], []⟩, (.sl 1 0 2 2 1), [some [(il [0, 0]), (il [0, 0]), (.lst [[(.bool true)], [(.bool true)], [(.bool true)]])], some (is [0, 2])]),
  (⟨⟨0, [], 0⟩, [(rl [101, 769])], []⟩, (.sl 1 0 2 2 1), [some [(il [0, 7]), (il [0, 0]), (.lst [[(.bool true)], [(.bool false)], [(.bool true)]])], some (is [0, 2])])]
theorem r167x0 : ∀ k r, t167[0]? = some (k, r) → KT ps11 k.cfg 167 k.args k.h = some r := by
  intro k r hk
  cases hk
  kernel_rfl
theorem r167x1 : ∀ k r, t167[1]? = some (k, r) → KT ps11 k.cfg 167 k.args k.h = some r := by
  intro k r hk
  cases hk
  kernel_rfl
theorem r167x2 : ∀ k r, t167[2]? = some (k, r) → KT ps11 k.cfg 167 k.args k.h = some r := by
  intro k r hk
  cases hk
  kernel_rfl
theorem r167x3 : ∀ k r, t167[3]? = some (k, r) → KT ps11 k.cfg 167 k.args k.h = some r := by
  intro k r hk
  cases hk
  kernel_rfl
theorem ok167 : RowsOK Tryz.prog md28 (primB bC ps11) 10000 40 167 t167 := (rows_cons (r167x0 _ _ rfl) (rows_cons (r167x1 _ _ rfl) (rows_cons (r167x2 _ _ rfl) (rows_cons (r167x3 _ _ rfl) rows_nil))))
def ps12 : List (FuncId × Tbl) := (167, t167) :: ps11
theorem pk12 : ∀ f t, (f, t) ∈ ps12 → PrimOK Tryz.prog f (memoP t) := memo_cons pk11 (memo_ok hfol hnam (primB_ok bC_ok pk11) ok167)
def t168 : Tbl := [(⟨⟨2, [], 2⟩, [(.lst [])], [some c18, some c18]⟩, (.agg c34), [some c18, some c18, some c34, some [(.bool false)], some [(.mq [])], some [(.mq [])], some c34]),
  (⟨⟨2, [], 2⟩, [(rl [97])], [some c13, some c13]⟩, (.agg c29), [some c13, some c13, some c29, some c52, some [(.mq [])], some [(.mq [])], some c29]),
  (⟨⟨2, [], 2⟩, [(rl [97, 98])], [some c8, some c8]⟩, (.agg c26), [some c8, some c8, some c26, some c38, some [(.mq [])], some [(.mq [])], some c26]),
  (⟨⟨2, [], 2⟩, [(rl [101, 769])], [some c11, some c11]⟩, (.agg c23), [some c11, some c11, some c23, some c36, some [(.mq [])], some [(.mq [])], some c23])]
theorem r168x0 : ∀ k r, t168[0]? = some (k, r) → KT ps12 k.cfg 168 k.args k.h = some r := by
  intro k r hk
  cases hk
  kernel_rfl
theorem r168x1 : ∀ k r, t168[1]? = some (k, r) → KT ps12 k.cfg 168 k.args k.h = some r := by
  intro k r hk
  cases hk
  kernel_rfl
theorem r168x2 : ∀ k r, t168[2]? = some (k, r) → KT ps12 k.cfg 168 k.args k.h = some r := by
  intro k r hk
  cases hk
  kernel_rfl
theorem r168x3 : ∀ k r, t168[3]? = some (k, r) → KT ps12 k.cfg 168 k.args k.h = some r := by
  intro k r hk
  cases hk
  kernel_rfl
theorem ok168 : RowsOK Tryz.prog md28 (primB bC ps12) 10000 40 168 t168 := (rows_cons (r168x0 _ _ rfl) (rows_cons (r168x1 _ _ rfl) (rows_cons (r168x2 _ _ rfl) (rows_cons (r168x3 _ _ rfl) rows_nil))))
def ps13 : List (FuncId × Tbl) := (168, t168) :: ps12
theorem pk13 : ∀ f t, (f, t) ∈ ps13 → PrimOK Tryz.prog f (memoP t) := memo_cons pk12 (memo_ok hfol hnam (primB_ok bC_ok pk12) ok168)
def t237 : Tbl := [(⟨⟨15, [4, 5], 15⟩, [(.lst []), (.lst []), (i 0), (i 0), (i 0)], [some c18, some c18, some c34, some [(.bool false)], some [(.mq [])], some [(.mq [])], some c34, some [(.bool false)], some c47, some (is [0, 0, 0, 10]), some c49, some c49, some c49, some c49, some c44, some c49]⟩, (.lst []), [some c18, some c18, some c34, some [(.bool false)], some [(.mq [])], some [(.mq [])], some c34, some [(.bool false)], some c47, some (is [0, 0, 0, 10]), some c49, some c49, some c49, some c49, some c44, some c49]),
  (⟨⟨16, [4, 5], 16⟩, [(rl [97]), (il [0]), (i 0), (i 0), (i 1)], [some c13, some c13, some c29, some c52, some [(.mq [])], some [(.mq [])], some c29, some c52, some c27, some (is [0, 1, 0, 10]), some [(i 0)], some [(i 0)], some c30, some c30, some c30, some c30, some c30, some c30]⟩, (.sl 19 0 1 1 1), [some c13, some c13, some c29, some c52, some [(.mq [])], some [(.mq [])], some c29, some c52, some c27, some (is [0, 1, 0, 10]), some [(i 0)], some [(i 0)], some c30, some c30, some c30, some c30, some c30, some c30, none, some [(i 0)]]),
  (⟨⟨17, [4, 5], 17⟩, [(rl [97]), (il [0]), (i 0), (i 0), (i 1)], [some c13, some c13, some c29, some c52, some [(.mq [c58])], some [(.mq [])], some c29, some c52, some c27, some (is [0, 1, 0, 10]), some [(i 0)], some [(i 0)], some c30, some c30, some c30, some c30, some c44, some c30]⟩, (.sl 19 0 1 1 1), [some c13, some c13, some c29, some c52, some [(.mq [c58])], some [(.mq [])], some c29, some c52, some c27, some (is [0, 1, 0, 10]), some [(i 0)], some [(i 0)], some c30, some c30, some c30, some c30, some c44, some c30, none, some [(i 0)]]),
  (⟨⟨18, [4, 5], 18⟩, [(rl [97, 98]), (il [0, 0]), (i 0), (i 0), (i 2)], [some c8, some c8, some c26, some c38, some [(.mq [])], some [(.mq [])], some c26, some c38, some c22, some (is [0, 2, 0, 10]), some [(i 0)], none, some [(i 0)], some (is [0, 0]), some c9, some c9, some c9, some c9, some c9, some c9]⟩, (.sl 21 0 2 2 1), [some c8, some c8, some c26, some c38, some [(.mq [])], some [(.mq [])], some c26, some c38, some c22, some (is [0, 2, 0, 10]), some [(i 0)], none, some [(i 0)], some (is [0, 0]), some c9, some c9, some c9, some c9, some c9, some c9, none, some (is [0, 0])]),
  (⟨⟨19, [4, 5], 19⟩, [(rl [97, 98]), (il [0, 0]), (i 0), (i 0), (i 2)], [some c8, some c8, some c26, some c38, some c65, some c69, some c26, some c38, some c22, some (is [0, 2, 0, 10]), some [(i 0)], none, some [(i 0)], some (is [0, 0]), some c9, some c9, some c9, some c9, some c44, some c9]⟩, (.sl 21 0 2 2 1), [some c8, some c8, some c26, some c38, some c65, some c69, some c26, some c38, some c22, some (is [0, 2, 0, 10]), some [(i 0)], none, some [(i 0)], some (is [0, 0]), some c9, some c9, some c9, some c9, some c44, some c9, none, some (is [0, 0])]),
  (⟨⟨18, [4, 5], 18⟩, [(rl [101, 769]), (il [0, 0]), (i 0), (i 0), (i 2)], [some c11, some c11, some c23, some c36, some [(.mq [])], some [(.mq [])], some c23, some c36, some c21, some (is [0, 2, 0, 10]), some [(i 0)], none, some [(i 0)], some (is [0, 0]), some c9, some c9, some c9, some c9, some c9, some c9]⟩, (.sl 21 0 2 2 1), [some c11, some c11, some c23, some c36, some [(.mq [])], some [(.mq [])], some c23, some c36, some c21, some (is [0, 2, 0, 10]), some [(i 0)], none, some [(i 0)], some (is [0, 0]), some c9, some c9, some c9, some c9, some c9, some c9, none, some (is [0, 0])]),
  (⟨⟨19, [4, 5], 19⟩, [(rl [101, 769]), (il [0, 0]), (i 0), (i 0), (i 2)], [some c11, some c11, some c23, some c36, some c66, some [(.mq [])], some c23, some c36, some c21, some (is [0, 2, 0, 10]), some [(i 0)], none, some [(i 0)], some (is [0, 0]), some c9, some c9, some c9, some c9, some c44, some c9]⟩, (.sl 21 0 2 2 1), [some c11, some c11, some c23, some c36, some c66, some [(.mq [])], some c23, some c36, some c21, some (is [0, 2, 0, 10]), some [(i 0)], none, some [(i 0)], some (is [0, 0]), some c9, some c9, some c9, some c9, some c44, some c9, none, some (is [0, 0])])]
theorem r237x0 : ∀ k r, t237[0]? = some (k, r) → KT ps13 k.cfg 237 k.args k.h = some r := by
  intro k r hk
  cases hk
  kernel_rfl
theorem r237x1 : ∀ k r, t237[1]? = some (k, r) → KT ps13 k.cfg 237 k.args k.h = some r := by
  intro k r hk
  cases hk
  kernel_rfl
theorem r237x2 : ∀ k r, t237[2]? = some (k, r) → KT ps13 k.cfg 237 k.args k.h = some r := by
  intro k r hk
  cases hk
  kernel_rfl
theorem r237x3 : ∀ k r, t237[3]? = some (k, r) → KT ps13 k.cfg 237 k.args k.h = some r := by
  intro k r hk
  cases hk
  kernel_rfl
theorem r237x4 : ∀ k r, t237[4]? = some (k, r) → KT ps13 k.cfg 237 k.args k.h = some r := by
  intro k r hk
  cases hk
  kernel_rfl
theorem r237x5 : ∀ k r, t237[5]? = some (k, r) → KT ps13 k.cfg 237 k.args k.h = some r := by
  intro k r hk
  cases hk
  kernel_rfl
theorem r237x6 : ∀ k r, t237[6]? = some (k, r) → KT ps13 k.cfg 237 k.args k.h = some r := by
  intro k r hk
  cases hk
  kernel_rfl
theorem ok237 : RowsOK Tryz.prog md28 (primB bC ps13) 10000 40 237 t237 := (rows_cons (r237x0 _ _ rfl) (rows_cons (r237x1 _ _ rfl) (rows_cons (r237x2 _ _ rfl) (rows_cons (r237x3 _ _ rfl) (rows_cons (r237x4 _ _ rfl) (rows_cons (r237x5 _ _ rfl) (rows_cons (r237x6 _ _ rfl) rows_nil)))))))
def ps14 : List (FuncId × Tbl) := (237, t237) :: ps13
theorem pk14 : ∀ f t, (f, t) ∈ ps14 → PrimOK Tryz.prog f (memoP t) := memo_cons pk13 (memo_ok hfol hnam (primB_ok bC_ok pk13) ok237)
def t276 : Tbl := [(⟨⟨0, [], 0⟩, [(.lst [])], []⟩, (.sl 0 0 0 0 1), [some []]),
  (⟨⟨0, [], 0⟩, [(rl [97])], []⟩, (.sl 0 0 1 1 1), [some [(i 0)]]),
  (⟨⟨0, [], 0⟩, [(rl [97, 98])], []⟩, (.sl 0 0 2 2 1), [some (is [0, 0])]),
  (⟨⟨0, [], 0⟩, [(rl [101, 769])], []⟩, (.sl 0 0 2 2 1), [some (is [0, 8])])]
theorem r276x0 : ∀ k r, t276[0]? = some (k, r) → KT ps14 k.cfg 276 k.args k.h = some r := by
  intro k r hk
  cases hk
  kernel_rfl
theorem r276x1 : ∀ k r, t276[1]? = some (k, r) → KT ps14 k.cfg 276 k.args k.h = some r := by
  intro k r hk
  cases hk
  kernel_rfl
theorem r276x2 : ∀ k r, t276[2]? = some (k, r) → KT ps14 k.cfg 276 k.args k.h = some r := by
  intro k r hk
  cases hk
  kernel_rfl
theorem r276x3 : ∀ k r, t276[3]? = some (k, r) → KT ps14 k.cfg 276 k.args k.h = some r := by
  intro k r hk
  cases hk
  kernel_rfl
theorem ok276 : RowsOK Tryz.prog md28 (primB bC ps14) 10000 40 276 t276 := (rows_cons (r276x0 _ _ rfl) (rows_cons (r276x1 _ _ rfl) (rows_cons (r276x2 _ _ rfl) (rows_cons (r276x3 _ _ rfl) rows_nil))))
def ps15 : List (FuncId × Tbl) := (276, t276) :: ps14
theorem pk15 : ∀ f t, (f, t) ∈ ps15 → PrimOK Tryz.prog f (memoP t) := memo_cons pk14 (memo_ok hfol hnam (primB_ok bC_ok pk14) ok276)
def t236 : Tbl := [(⟨⟨0, [], 0⟩, [(.lst []), (i 0)], []⟩, (.sl 2 0 0 0 1), [some [], some [], some [], some [(.lst []), (.sl 0 0 0 0 1), (.sl 1 0 0 0 1), (.lst []), (.sl 2 0 0 0 1), (i 0)]]),
  (⟨⟨0, [], 0⟩, [(rl [97]), (i 0)], []⟩, (.sl 3 0 1 1 1), c55),
  (⟨⟨0, [], 0⟩, [(rl [97, 98]), (i 0)], []⟩, (.sl 3 0 2 2 1), c37),
  (⟨⟨0, [], 0⟩, [(rl [101, 769]), (i 0)], []⟩, (.sl 3 0 2 2 1), c48)]
theorem r236x0 : ∀ k r, t236[0]? = some (k, r) → KT ps15 k.cfg 236 k.args k.h = some r := by
  intro k r hk
  cases hk
  kernel_rfl
theorem r236x1 : ∀ k r, t236[1]? = some (k, r) → KT ps15 k.cfg 236 k.args k.h = some r := by
  intro k r hk
  cases hk
  kernel_rfl
theorem r236x2 : ∀ k r, t236[2]? = some (k, r) → KT ps15 k.cfg 236 k.args k.h = some r := by
  intro k r hk
  cases hk
  kernel_rfl
theorem r236x3 : ∀ k r, t236[3]? = some (k, r) → KT ps15 k.cfg 236 k.args k.h = some r := by
  intro k r hk
  cases hk
  kernel_rfl
theorem ok236 : RowsOK Tryz.prog md28 (primB bC ps15) 10000 40 236 t236 := (rows_cons (r236x0 _ _ rfl) (rows_cons (r236x1 _ _ rfl) (rows_cons (r236x2 _ _ rfl) (rows_cons (r236x3 _ _ rfl) rows_nil))))
def ps16 : List (FuncId × Tbl) := (236, t236) :: ps15
theorem pk16 : ∀ f t, (f, t) ∈ ps16 → PrimOK Tryz.prog f (memoP t) := memo_cons pk15 (memo_ok hfol hnam (primB_ok bC_ok pk15) ok236)
def t106 : Tbl := [(⟨⟨0, [], 0⟩, [(.agg c18), c2], [some c18]⟩, (.ptr 8 0), [some c18, some c18, some c34, some [(.bool false)], some [(.mq [])], some [(.mq [])], some c34, some [(.bool false)], some c47, some (is [0, 0, 0, 10]), some c49, some c49]),
  (⟨⟨0, [], 0⟩, [(.agg c13), c2], [some c13]⟩, (.ptr 8 0), [some c13, some c13, some c29, some c52, some [(.mq [])], some [(.mq [])], some c29, some c52, some c27, some (is [0, 1, 0, 10]), some [(i 0)], some [(i 0)], some c30, some c30]),
  (⟨⟨0, [], 0⟩, [(.agg c8), c2], [some c8]⟩, (.ptr 8 0), [some c8, some c8, some c26, some c38, some [(.mq [])], some [(.mq [])], some c26, some c38, some c22, some (is [0, 2, 0, 10]), some [(i 0)], none, some [(i 0)], some (is [0, 0]), some c9, some c9]),
  (⟨⟨0, [], 0⟩, [(.agg c11), c2], [some c11]⟩, (.ptr 8 0), [some c11, some c11, some c23, some c36, some [(.mq [])], some [(.mq [])], some c23, some c36, some c21, some (is [0, 2, 0, 10]), some [(i 0)], none, some [(i 0)], some (is [0, 0]), some c9, some c9])]
theorem r106x0 : ∀ k r, t106[0]? = some (k, r) → KT ps16 k.cfg 106 k.args k.h = some r := by
  intro k r hk
  cases hk
  kernel_rfl
theorem r106x1 : ∀ k r, t106[1]? = some (k, r) → KT ps16 k.cfg 106 k.args k.h = some r := by
  intro k r hk
  cases hk
  kernel_rfl
theorem r106x2 : ∀ k r, t106[2]? = some (k, r) → KT ps16 k.cfg 106 k.args k.h = some r := by
  intro k r hk
  cases hk
  kernel_rfl
theorem r106x3 : ∀ k r, t106[3]? = some (k, r) → KT ps16 k.cfg 106 k.args k.h = some r := by
  intro k r hk
  cases hk
  kernel_rfl
theorem ok106 : RowsOK Tryz.prog md28 (primB bC ps16) 10000 40 106 t106 := (rows_cons (r106x0 _ _ rfl) (rows_cons (r106x1 _ _ rfl) (rows_cons (r106x2 _ _ rfl) (rows_cons (r106x3 _ _ rfl) rows_nil))))
def ps17 : List (FuncId × Tbl) := (106, t106) :: ps16
theorem pk17 : ∀ f t, (f, t) ∈ ps17 → PrimOK Tryz.prog f (memoP t) := memo_cons pk16 (memo_ok hfol hnam (primB_ok bC_ok pk16) ok106)
def t28 : Tbl := [(⟨⟨0, [], 0⟩, [(.agg c16)], []⟩, (i 0), [some c16]),
  (⟨⟨0, [], 0⟩, [(.agg c54)], []⟩, (i 0), [some c54])]
theorem r28x0 : ∀ k r, t28[0]? = some (k, r) → KT ps17 k.cfg 28 k.args k.h = some r := by
  intro k r hk
  cases hk
  kernel_rfl
theorem r28x1 : ∀ k r, t28[1]? = some (k, r) → KT ps17 k.cfg 28 k.args k.h = some r := by
  intro k r hk
  cases hk
  kernel_rfl
theorem ok28 : RowsOK Tryz.prog md28 (primB bC ps17) 10000 40 28 t28 := (rows_cons (r28x0 _ _ rfl) (rows_cons (r28x1 _ _ rfl) rows_nil))
def ps18 : List (FuncId × Tbl) := (28, t28) :: ps17
theorem pk18 : ∀ f t, (f, t) ∈ ps18 → PrimOK Tryz.prog f (memoP t) := memo_cons pk17 (memo_ok hfol hnam (primB_ok bC_ok pk17) ok28)
def t105 : Tbl := [(⟨⟨0, [], 0⟩, [(.agg c18), c2], []⟩, (i 0), [some c18, some (is [0, 0, 0, 10]), some c16, some c54]),
  (⟨⟨0, [], 0⟩, [(.agg c13), c2], []⟩, (i 0), [some c13, some (is [0, 1, 0, 10]), some c16, some c54]),
  (⟨⟨0, [], 0⟩, [(.agg c8), c2], []⟩, (i 0), [some c8, some (is [0, 2, 0, 10]), some c16, some c54]),
  (⟨⟨0, [], 0⟩, [(.agg c11), c2], []⟩, (i 0), [some c11, some (is [0, 2, 0, 10]), some c16, some c54])]
theorem r105x0 : ∀ k r, t105[0]? = some (k, r) → KT ps18 k.cfg 105 k.args k.h = some r := by
  intro k r hk
  cases hk
  kernel_rfl
theorem r105x1 : ∀ k r, t105[1]? = some (k, r) → KT ps18 k.cfg 105 k.args k.h = some r := by
  intro k r hk
  cases hk
  kernel_rfl
theorem r105x2 : ∀ k r, t105[2]? = some (k, r) → KT ps18 k.cfg 105 k.args k.h = some r := by
  intro k r hk
  cases hk
  kernel_rfl
theorem r105x3 : ∀ k r, t105[3]? = some (k, r) → KT ps18 k.cfg 105 k.args k.h = some r := by
  intro k r hk
  cases hk
  kernel_rfl
theorem ok105 : RowsOK Tryz.prog md28 (primB bC ps18) 10000 40 105 t105 := (rows_cons (r105x0 _ _ rfl) (rows_cons (r105x1 _ _ rfl) (rows_cons (r105x2 _ _ rfl) (rows_cons (r105x3 _ _ rfl) rows_nil))))
def ps19 : List (FuncId × Tbl) := (105, t105) :: ps18
theorem pk19 : ∀ f t, (f, t) ∈ ps19 → PrimOK Tryz.prog f (memoP t) := memo_cons pk18 (memo_ok hfol hnam (primB_ok bC_ok pk18) ok105)
def t313 : Tbl := [(⟨⟨0, [], 0⟩, [(.agg c16), (i 10), (r 97)], []⟩, (i 10), [some c16]),
  (⟨⟨0, [], 0⟩, [(.agg c16), (i 10), (r 98)], []⟩, (i 10), [some c16]),
  (⟨⟨0, [], 0⟩, [(.agg c16), (i 10), (r 101)], []⟩, (i 10), [some c16]),
  (⟨⟨0, [], 0⟩, [(.agg c16), (i 10), (r 769)], []⟩, (i 0), [some c16])]
theorem r313x0 : ∀ k r, t313[0]? = some (k, r) → KT ps19 k.cfg 313 k.args k.h = some r := by
  intro k r hk
  cases hk
  kernel_rfl
theorem r313x1 : ∀ k r, t313[1]? = some (k, r) → KT ps19 k.cfg 313 k.args k.h = some r := by
  intro k r hk
  cases hk
  kernel_rfl
theorem r313x2 : ∀ k r, t313[2]? = some (k, r) → KT ps19 k.cfg 313 k.args k.h = some r := by
  intro k r hk
  cases hk
  kernel_rfl
theorem r313x3 : ∀ k r, t313[3]? = some (k, r) → KT ps19 k.cfg 313 k.args k.h = some r := by
  intro k r hk
  cases hk
  kernel_rfl
theorem ok313 : RowsOK Tryz.prog md28 (primB bC ps19) 10000 40 313 t313 := (rows_cons (r313x0 _ _ rfl) (rows_cons (r313x1 _ _ rfl) (rows_cons (r313x2 _ _ rfl) (rows_cons (r313x3 _ _ rfl) rows_nil))))
def ps20 : List (FuncId × Tbl) := (313, t313) :: ps19
theorem pk20 : ∀ f t, (f, t) ∈ ps20 → PrimOK Tryz.prog f (memoP t) := memo_cons pk19 (memo_ok hfol hnam (primB_ok bC_ok pk19) ok313)
def t176 : Tbl := [(⟨⟨0, [], 0⟩, [(.agg c16), (i 10)], []⟩, (i 3), [some c16])]
theorem r176x0 : ∀ k r, t176[0]? = some (k, r) → KT ps20 k.cfg 176 k.args k.h = some r := by
  intro k r hk
  cases hk
  kernel_rfl
theorem ok176 : RowsOK Tryz.prog md28 (primB bC ps20) 10000 40 176 t176 := (rows_cons (r176x0 _ _ rfl) rows_nil)
def ps21 : List (FuncId × Tbl) := (176, t176) :: ps20
theorem pk21 : ∀ f t, (f, t) ∈ ps21 → PrimOK Tryz.prog f (memoP t) := memo_cons pk20 (memo_ok hfol hnam (primB_ok bC_ok pk20) ok176)
def t175 : Tbl := [(⟨⟨0, [], 0⟩, [(.agg c16), (i 10)], []⟩, (i 8), [some c16])]
theorem r175x0 : ∀ k r, t175[0]? = some (k, r) → KT ps21 k.cfg 175 k.args k.h = some r := by
  intro k r hk
  cases hk
  kernel_rfl
theorem ok175 : RowsOK Tryz.prog md28 (primB bC ps21) 10000 40 175 t175 := (rows_cons (r175x0 _ _ rfl) rows_nil)
def ps22 : List (FuncId × Tbl) := (175, t175) :: ps21
theorem pk22 : ∀ f t, (f, t) ∈ ps22 → PrimOK Tryz.prog f (memoP t) := memo_cons pk21 (memo_ok hfol hnam (primB_ok bC_ok pk21) ok175)
def t177 : Tbl := [(⟨⟨0, [], 0⟩, [(.agg c16), (i 10)], []⟩, (i 11), [some c16])]
theorem r177x0 : ∀ k r, t177[0]? = some (k, r) → KT ps22 k.cfg 177 k.args k.h = some r := by
  intro k r hk
  cases hk
  kernel_rfl
theorem ok177 : RowsOK Tryz.prog md28 (primB bC ps22) 10000 40 177 t177 := (rows_cons (r177x0 _ _ rfl) rows_nil)
def ps23 : List (FuncId × Tbl) := (177, t177) :: ps22
theorem pk23 : ∀ f t, (f, t) ∈ ps23 → PrimOK Tryz.prog f (memoP t) := memo_cons pk22 (memo_ok hfol hnam (primB_ok bC_ok pk22) ok177)
def t63 : Tbl := [(⟨⟨0, [], 0⟩, [(.agg c18), c2], []⟩, (.tup [(.sl 15 0 1 1 10), (i 0)]), [some c18, some c18, some c34, some [(.bool false)], some [(.mq [])], some [(.mq [])], some c34, some [(.bool false)], some c47, some (is [0, 0, 0, 10]), some c49, some c49, some c49, some c51, some c51, some c51]),
  (⟨⟨0, [], 0⟩, [(.agg c13), c2], []⟩, (.tup [(.sl 17 0 1 1 10), (i 0)]), [some c13, some c13, some c29, some c52, some [(.mq [c58])], some [(.mq [])], some c29, some c52, some c27, some (is [0, 1, 0, 10]), some [(i 0)], some [(i 0)], some c30, some c30, some c30, some c40, some c40, some c40]),
  (⟨⟨0, [], 0⟩, [(.agg c8), c2], []⟩, (.tup [(.sl 19 0 1 1 10), (i 0)]), [some c8, some c8, some c26, some c38, some c65, some c69, some c26, some c38, some c22, some (is [0, 2, 0, 10]), some [(i 0)], none, some [(i 0)], some (is [0, 0]), some c9, some c9, some c9, some c24, some c24, some c24]),
  (⟨⟨0, [], 0⟩, [(.agg c11), c2], []⟩, (.tup [(.sl 19 0 1 1 10), (i 0)]), [some c11, some c11, some c23, some c36, some c66, some [(.mq [])], some c23, some c36, some c21, some (is [0, 2, 0, 10]), some [(i 0)], none, some [(i 0)], some (is [0, 0]), some c9, some c9, some c9, some c32, some c32, some c32])]
theorem r63x0 : ∀ k r, t63[0]? = some (k, r) → KT ps23 k.cfg 63 k.args k.h = some r := by
  intro k r hk
  cases hk
  kernel_rfl
theorem r63x1 : ∀ k r, t63[1]? = some (k, r) → KT ps23 k.cfg 63 k.args k.h = some r := by
  intro k r hk
  cases hk
  kernel_rfl
theorem r63x2 : ∀ k r, t63[2]? = some (k, r) → KT ps23 k.cfg 63 k.args k.h = some r := by
  intro k r hk
  cases hk
  kernel_rfl
theorem r63x3 : ∀ k r, t63[3]? = some (k, r) → KT ps23 k.cfg 63 k.args k.h = some r := by
  intro k r hk
  cases hk
  kernel_rfl
theorem ok63 : RowsOK Tryz.prog md28 (primB bC ps23) 10000 40 63 t63 := (rows_cons (r63x0 _ _ rfl) (rows_cons (r63x1 _ _ rfl) (rows_cons (r63x2 _ _ rfl) (rows_cons (r63x3 _ _ rfl) rows_nil))))
def ps24 : List (FuncId × Tbl) := (63, t63) :: ps23
theorem pk24 : ∀ f t, (f, t) ∈ ps24 → PrimOK Tryz.prog f (memoP t) := memo_cons pk23 (memo_ok hfol hnam (primB_ok bC_ok pk23) ok63)
def t10 : Tbl := [(⟨⟨0, [], 0⟩, [.nils, (.agg c5)], []⟩, (.tup [(.agg [(.lst []), (.lst []), (i 0), (i 0), (.bool false), (.bool false), (i 0), (i 0), .nils, .nils, (i 0), (i 0), .nils, .nils, .nils, (.bool false), (i 0), (i (-1)), (i (-1))]), (i 0)]), [some c5, some [(.lst []), (.lst []), (i 0), (i 0), (.bool false), (.bool false), (i 0), (i 0), .nils, .nils, (i 0), (i 0), .nils, .nils, .nils, (.bool false), (i 0), (i (-1)), (i (-1))], some [(.lst []), (.lst [])]]),
  (⟨⟨5, [], 5⟩, [(.sl 4 0 2 2 1), (.agg c5)], [some c31, some [(.lst [c46]), (.lst []), (.lst [])], some [(.lst [c45]), (.lst []), (.lst [])], some [(.lst [c42, c43]), (.lst []), (.lst [])], some (rs [101, 769])]⟩, (.tup [(.agg [(rl [101, 769]), (.lst [(is [2, 0])]), (i 2), (i 2), (.bool false), (.bool false), (i 0), (i 0), .nils, .nils, (i 0), (i 0), .nils, .nils, .nils, (.bool false), (i 0), (i (-1)), (i (-1))]), (i 0)]), [some c31, some [(.lst [c46]), (.lst []), (.lst [])], some [(.lst [c45]), (.lst []), (.lst [])], some [(.lst [c42, c43]), (.lst []), (.lst [])], some (rs [101, 769]), some c5, some [(rl [101, 769]), (.lst [(is [2, 0])]), (i 2), (i 2), (.bool false), (.bool false), (i 0), (i 0), .nils, .nils, (i 0), (i 0), .nils, .nils, .nils, (.bool false), (i 0), (i (-1)), (i (-1))], some [(rl [101, 769]), (.lst [(is [2, 0])])]])]
theorem r10x0 : ∀ k r, t10[0]? = some (k, r) → KT ps24 k.cfg 10 k.args k.h = some r := by
  intro k r hk
  cases hk
  kernel_rfl
theorem r10x1 : ∀ k r, t10[1]? = some (k, r) → KT ps24 k.cfg 10 k.args k.h = some r := by
  intro k r hk
  cases hk
  kernel_rfl
theorem ok10 : RowsOK Tryz.prog md28 (primB bC ps24) 10000 40 10 t10 := (rows_cons (r10x0 _ _ rfl) (rows_cons (r10x1 _ _ rfl) rows_nil))
def ps25 : List (FuncId × Tbl) := (10, t10) :: ps24
theorem pk25 : ∀ f t, (f, t) ∈ ps25 → PrimOK Tryz.prog f (memoP t) := memo_cons pk24 (memo_ok hfol hnam (primB_ok bC_ok pk24) ok10)
end Aw
end Go.Ab
