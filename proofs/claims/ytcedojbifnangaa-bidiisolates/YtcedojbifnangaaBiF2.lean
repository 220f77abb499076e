/- The classes of runes: the program's find. -/
import Derived.Test.YtcedojbifnangaaBiF
import Derived.Test.YtcedojbifnangaaBiG
namespace Go.Ab
open Go.Proofs
namespace Bi
/-- The table's rows are in ascending order. -/
def asc : List Row → Bool
  | a :: b :: r => decide (a.2.1 < b.2.1) && asc (b :: r)
  | _ => true
theorem asc_head : ∀ (t : List Row) (a : Row), asc (a :: t) = true → ∀ y ∈ t, a.2.1 < y.2.1
  | [], a, _, y, hy => by simp at hy
  | b :: t, a, h, y, hy => by
    simp only [asc, Bool.and_eq_true, decide_eq_true_eq] at h
    rcases List.mem_cons.1 hy with rfl | hy
    · exact h.1
    · have := asc_head t b h.2 y hy
      omega
theorem asc_tail {a : Row} {t : List Row} (h : asc (a :: t) = true) : asc t = true := by
  cases t with
  | nil => rfl
  | cons b t => simp only [asc, Bool.and_eq_true] at h; exact h.2
theorem asc_ok : ∀ (t : List Row), asc t = true → ∀ (i j : Nat) (x y : Row), i < j → t[i]? = some x → t[j]? = some y → x.2.1 < y.2.1
  | [], _, i, j, x, y, _, hx, _ => by simp at hx
  | a :: t, h, 0, j + 1, x, y, _, hx, hy => by
    simp at hx
    subst hx
    exact asc_head t a h y (List.mem_of_getElem? (by simpa using hy))
  | a :: t, h, i + 1, j + 1, x, y, hij, hx, hy => asc_ok t (asc_tail h) i j x y (by omega) (by simpa using hx) (by simpa using hy)
  | a :: t, h, i, 0, x, y, hij, _, _ => by omega

def findS (r : Int) : Row :=
  if 44032 ≤ r ∧ r ≤ 55203 then (if (r - 44032) % 28 = 0 then (0, 0, 12, 3, 18, 0, 0) else (0, 0, 13, 3, 18, 0, 0))
  else if r ≤ 161 then searchS tab1 r else if r ≤ 1642 then searchS tab2 r else if r ≤ 8237 then searchS tab3 r else searchS tab4 r
/-- The bidirectional class. -/
def bidi (r : Int) : Int := (findS r).2.2.2.2.2.1

theorem putAt_all (new cs : List V) (h : cs.length = new.length) : putAt cs 0 new = new := by
  have := putAt_mid new [] cs (by omega)
  simp only [List.nil_append, List.length_nil] at this
  rw [this, List.drop_eq_nil_of_le (by omega), List.append_nil]
def zcells (n : Nat) : List V := tcells (List.replicate n zrow)
theorem zcells_len (n : Nat) : (zcells n).length = n * 7 := by simp [zcells, tcells_len]

section
variable {prim : FuncId → Option Prim} (d : Nat) (cfg : Cfg) (h : Heap)
theorem tab1_ok (hp : prim 75 = none) : callM md (K prim (d + 1)) cfg 75 [] h = some (.agg (tcells tab1), h) := by
  have hk : K prim (d + 1) ⟨0, none, 0⟩ 75 [] [] = some (.agg (tcells tab1), [some (tcells tab1)]) := by
    simp only [K, callN, hp]
    kernel_rfl
  have hf : frz [some (tcells tab1)] 0 6 (.agg (tcells tab1)) = some (.agg (tcells tab1)) := by kernel_rfl
  simp only [callM, show md 75 = 0 from rfl, List.all_nil, if_true, hk, hf]
theorem tab2_ok (hp : prim 77 = none) : callM md (K prim (d + 1)) cfg 77 [] h = some (.agg (tcells tab2), h) := by
  have hk : K prim (d + 1) ⟨0, none, 0⟩ 77 [] [] = some (.agg (tcells tab2), [some (tcells tab2)]) := by
    simp only [K, callN, hp]
    kernel_rfl
  have hf : frz [some (tcells tab2)] 0 6 (.agg (tcells tab2)) = some (.agg (tcells tab2)) := by kernel_rfl
  simp only [callM, show md 77 = 0 from rfl, List.all_nil, if_true, hk, hf]
theorem tab3_ok (hp : prim 78 = none) : callM md (K prim (d + 1)) cfg 78 [] h = some (.agg (tcells tab3), h) := by
  have hk : K prim (d + 1) ⟨0, none, 0⟩ 78 [] [] = some (.agg (tcells tab3), [some (tcells tab3)]) := by
    simp only [K, callN, hp]
    kernel_rfl
  have hf : frz [some (tcells tab3)] 0 6 (.agg (tcells tab3)) = some (.agg (tcells tab3)) := by kernel_rfl
  simp only [callM, show md 78 = 0 from rfl, List.all_nil, if_true, hk, hf]
theorem tab4_ok (hp : prim 79 = none) : callM md (K prim (d + 1)) cfg 79 [] h = some (.agg (tcells tab4), h) := by
  have hk : K prim (d + 1) ⟨0, none, 0⟩ 79 [] [] = some (.agg (tcells tab4), [some (tcells tab4)]) := by
    simp only [K, callN, hp]
    kernel_rfl
  have hf : frz [some (tcells tab4)] 0 6 (.agg (tcells tab4)) = some (.agg (tcells tab4)) := by kernel_rfl
  simp only [callM, show md 79 = 0 from rfl, List.all_nil, if_true, hk, hf]

theorem z91 : zeroOf Try.prog 91 = some (.agg (zcells 44)) := by kernel_rfl
theorem z95 : zeroOf Try.prog 95 = some (.agg (zcells 41)) := by kernel_rfl
theorem ls1 : tab1.length = 44 := rfl
theorem ls2 : tab2.length = 44 := rfl
theorem ls3 : tab3.length = 44 := rfl
theorem ls4 : tab4.length = 41 := rfl
theorem sl91 {h : Heap} {b : Nat} : sliceV Try.prog h 91 (.ptr b 0) none none = (blockOf h b).bind fun cs => if 308 ≤ cs.length then some (.sl b 0 44 44 7) else none := by
  have hu : Try.prog.underlying 91 = some (.array 44 69) := by kernel_rfl
  have hs : szOf Try.prog 69 = some 7 := by kernel_rfl
  simp only [sliceV, hu, hs]
  cases blockOf h b <;> simp
theorem sl95 {h : Heap} {b : Nat} : sliceV Try.prog h 95 (.ptr b 0) none none = (blockOf h b).bind fun cs => if 287 ≤ cs.length then some (.sl b 0 41 41 7) else none := by
  have hu : Try.prog.underlying 95 = some (.array 41 69) := by kernel_rfl
  have hs : szOf Try.prog 69 = some 7 := by kernel_rfl
  simp only [sliceV, hu, hs]
  cases blockOf h b <;> simp
theorem wrap32 {n : Int} (h1 : -2147483648 ≤ n) (h2 : n ≤ 2147483647) : IntKind.i32.wrap n = n := by
  have := IntWalk.i32_in n ⟨by omega, by omega⟩
  exact this
/-- The search in one of the tables. -/
theorem search1 (hp : prim 76 = none) (t : List Row) (ht : t.length ≤ 100) (hs : asc t = true) (r : Int) (y : Option (List V)) (n : Nat) (hn : n = t.length) :
    callM md (K prim (d + 1)) ⟨0, none, 0⟩ 76 [.sl 1 0 n n 7, .int .i32 r] [y, some (tcells t)] = some (.agg (rowC (searchS t r)), [y, some (tcells t)]) := by
  subst hn
  refine search_ok (prim := prim) d _ _ hp t ht (asc_ok t hs) r ?_
  have hb : blockOf [y, some (tcells t)] 1 = some (tcells t) := by
    rw [blockOf_succ, blockOf_zero, tcells_map]; rfl
  simp [List.mapM_cons, frz_rows hb]
set_option maxHeartbeats 2000000 in
theorem find_ok (hp : ∀ f, f ≠ 17 ∧ f ≠ 82 ∧ f ≠ 15 → prim f = none) (r : Int) : callM md (K prim (d + 2)) cfg 50 [.int .i32 r] h = some (.agg (rowC (findS r)), h) := by
  refine call0 rfl (hp 50 (by decide)) Try.func50 rfl rfl rfl (by simp) ?_
  have h1 := fun cfg h => tab1_ok (prim := prim) d cfg h (hp 75 (by decide))
  have h2 := fun cfg h => tab2_ok (prim := prim) d cfg h (hp 77 (by decide))
  have h3 := fun cfg h => tab3_ok (prim := prim) d cfg h (hp 78 (by decide))
  have h4 := fun cfg h => tab4_ok (prim := prim) d cfg h (hp 79 (by decide))
  have s1 := fun y => search1 (prim := prim) d (hp 76 (by decide)) tab1 (by simp [ls1]) (by kernel_rfl) r y 44 ls1.symm
  have s2 := fun y => search1 (prim := prim) d (hp 76 (by decide)) tab2 (by simp [ls2]) (by kernel_rfl) r y 44 ls2.symm
  have s3 := fun y => search1 (prim := prim) d (hp 76 (by decide)) tab3 (by simp [ls3]) (by kernel_rfl) r y 44 ls3.symm
  have s4 := fun y => search1 (prim := prim) d (hp 76 (by decide)) tab4 (by simp [ls4]) (by kernel_rfl) r y 41 ls4.symm
  have fz : ∀ (H : Heap) (x : Row), frz H 0 6 (.agg (rowC x)) = some (.agg (rowC x)) := fun H ⟨a, b, c, d, e, f, g⟩ => rfl
  unfold findS
  have l1 : (tcells tab1).length = 308 := by rw [tcells_len, ls1]
  have l2 : (tcells tab2).length = 308 := by rw [tcells_len, ls2]
  have l3 : (tcells tab3).length = 308 := by rw [tcells_len, ls3]
  have l4 : (tcells tab4).length = 287 := by rw [tcells_len, ls4]
  have z1 : (zcells 44).length = 308 := zcells_len 44
  have z2 : (zcells 41).length = 287 := zcells_len 41
  have zm : ∀ n, isMap (zcells n) = false := fun n => tcells_map _
  have p1 := putAt_all (tcells tab1) (zcells 44) (by rw [l1, z1])
  have p2 := putAt_all (tcells tab2) (zcells 44) (by rw [l2, z1])
  have p3 := putAt_all (tcells tab3) (zcells 44) (by rw [l3, z1])
  have p4 := putAt_all (tcells tab4) (zcells 41) (by rw [l4, z2])
  have ro : ∀ x : Row, rowC x = [.int .i32 x.1, .int .i32 x.2.1, .int .u8 x.2.2.1, .int .u8 x.2.2.2.1, .int .u8 x.2.2.2.2.1, .int .u8 x.2.2.2.2.2.1, .int .u8 x.2.2.2.2.2.2] := fun ⟨a, b, c, d, e, f, g⟩ => rfl
  by_cases c1 : 44032 ≤ r ∧ r ≤ 55203
  · have m1 : (r - 44032).tmod 28 = (r - 44032) % 28 := Int.tmod_eq_emod_of_nonneg (by omega)
    by_cases c0 : (r - 44032) % 28 = 0
    · simp (disch := omega) [c1.1, c1.2, wrap32, m1, c0, rowC]
    · simp (disch := omega) [c1.1, c1.2, wrap32, m1, c0, rowC]
  · have n1 : (decide (44032 ≤ r) && decide (r ≤ 55203)) = false := by simpa using c1
    by_cases c2 : r ≤ 161
    · have n1 : ¬ 44032 ≤ r := by omega
      have s := s1 (some (rowC zrow))
      simp only [rowC, zrow] at s
      simp (disch := omega) [n1, c2, h1, z91, tcells_leaf, tcells_rf, tcells_map, zm, l1, z1, p1, sl91, s, ro, -Try.zr91]
    · by_cases c3 : r ≤ 1642
      · have n1 : ¬ 44032 ≤ r := by omega
        have s := s2 (some (rowC zrow))
        simp only [rowC, zrow] at s
        simp (disch := omega) [n1, c2, c3, h2, z91, tcells_leaf, tcells_rf, tcells_map, zm, l2, z1, p2, sl91, s, ro, -Try.zr91]
      · by_cases c4 : r ≤ 8237
        · have n1 : ¬ 44032 ≤ r := by omega
          have s := s3 (some (rowC zrow))
          simp only [rowC, zrow] at s
          simp (disch := omega) [n1, c2, c3, c4, h3, z91, tcells_leaf, tcells_rf, tcells_map, zm, l3, z1, p3, sl91, s, ro, -Try.zr91]
        · have s := s4 (some (rowC zrow))
          simp only [rowC, zrow] at s
          have c1' : 44032 ≤ r → ¬ r ≤ 55203 := fun a b => c1 ⟨a, b⟩
          by_cases n0 : 44032 ≤ r
          · simp (disch := omega) [n0, c1' n0, c2, c3, c4, h4, z95, tcells_leaf, tcells_rf, tcells_map, zm, l4, z2, p4, sl95, s, ro, -Try.zr95]
          · simp (disch := omega) [n0, c2, c3, c4, h4, z95, tcells_leaf, tcells_rf, tcells_map, zm, l4, z2, p4, sl95, s, ro, -Try.zr95]

theorem search_rng (t : List Row) (ht : t.all (fun x => decide (0 ≤ x.2.2.2.2.2.1) && decide (x.2.2.2.2.2.1 ≤ 22)) = true) (r : Int) : 0 ≤ (searchS t r).2.2.2.2.2.1 ∧ (searchS t r).2.2.2.2.2.1 ≤ 22 := by
  unfold searchS
  split
  · rename_i x hx
    have hm := List.mem_of_find?_eq_some hx
    have := List.all_eq_true.1 ht x hm
    simp at this
    split
    · exact this
    · simp [zrow]
  · simp [zrow]
theorem bidi_rng (r : Int) : 0 ≤ bidi r ∧ bidi r ≤ 22 := by
  unfold bidi findS
  split
  · split <;> simp
  · split
    · exact search_rng tab1 (by decide) r
    · split
      · exact search_rng tab2 (by decide) r
      · split
        · exact search_rng tab3 (by decide) r
        · exact search_rng tab4 (by decide) r
@[simp] theorem cv5_3 {h : Heap} {k : IntKind} {n : Int} : convV Try.prog h 5 3 (.int k n) = some (.int .i64 (IntKind.i64.wrap n), h) := by kernel_rfl
theorem bidi_ok (hp : ∀ f, f ≠ 17 ∧ f ≠ 82 ∧ f ≠ 15 → prim f = none) (r : Int) : callM md (K prim (d + 3)) cfg 20 [.int .i32 r] h = some (.int .i64 (bidi r), h) := by
  refine call0 rfl (hp 20 (by decide)) Try.func20 rfl rfl rfl (by simp) ?_
  have hf := fun cfg h => find_ok (prim := prim) d cfg h hp r
  have hb := bidi_rng r
  unfold bidi at hb ⊢
  generalize findS r = x at hf hb ⊢
  obtain ⟨a, b, c, d, e, f, g⟩ := x
  simp only [rowC] at hf
  simp only at hb
  simp (disch := omega) [hf, wrap64]
end
end Bi
end Go.Ab
