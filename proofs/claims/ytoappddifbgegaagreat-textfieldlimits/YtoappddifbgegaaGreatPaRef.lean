/- Several texts of this proof in one. -/
import Derived.Test.YtoappddifbgegaaGreatAbW7
import Derived.Test.YtoappddifbgegaaGreatAbW3
set_option linter.all false
namespace Go.Ab
open Go.Proofs
namespace Bi
def asc : List Row → Bool
  | a :: b :: r => decide (a.2.1 < b.2.1) && asc (b :: r)
  | _ => true
theorem asc_head : ∀ (t : List Row) (a : Row), asc (a :: t) = true → ∀ y ∈ t, a.2.1 < y.2.1
  | [], a, _, y, hy => by simp at hy
  | b :: t, a, h, y, hy => by
    simp only [asc, Bool.and_eq_true, decide_eq_true_eq] at h
    rcases List.mem_cons.1 hy with rfl | hy
    · exact h.1
    · have := asc_head t b h.2 y hy
      omega
theorem asc_tail {a : Row} {t : List Row} (h : asc (a :: t) = true) : asc t = true := by
  cases t with
  | nil => rfl
  | cons b t => simp only [asc, Bool.and_eq_true] at h; exact h.2
theorem asc_ok : ∀ (t : List Row), asc t = true → ∀ (i j : Nat) (x y : Row), i < j → t[i]? = some x → t[j]? = some y → x.2.1 < y.2.1
  | [], _, i, j, x, y, _, hx, _ => by simp at hx
  | a :: t, h, 0, j + 1, x, y, _, hx, hy => by
    simp at hx
    subst hx
    exact asc_head t a h y (List.mem_of_getElem? (by simpa using hy))
  | a :: t, h, i + 1, j + 1, x, y, hij, hx, hy => asc_ok t (asc_tail h) i j x y (by omega) (by simpa using hx) (by simpa using hy)
  | a :: t, h, i, 0, x, y, hij, _, _ => by omega
def findS (r : Int) : Row :=
  if 44032 ≤ r ∧ r ≤ 55203 then (if (r - 44032) % 28 = 0 then (0, 0, 12, 3, 18, 0, 0) else (0, 0, 13, 3, 18, 0, 0))
  else if r ≤ 161 then searchS tab1 r else if r ≤ 1642 then searchS tab2 r else if r ≤ 8237 then searchS tab3 r else searchS tab4 r
def bidi (r : Int) : Int := (findS r).2.2.2.2.2.1
theorem putAt_all (new cs : List V) (h : cs.length = new.length) : putAt cs 0 new = new := by
  have := putAt_mid new [] cs (by omega)
  simp only [List.nil_append, List.length_nil] at this
  rw [this, List.drop_eq_nil_of_le (by omega), List.append_nil]
def zcells (n : Nat) : List V := tcells (List.replicate n zrow)
theorem zcells_len (n : Nat) : (zcells n).length = n * 7 := by simp [zcells, tcells_len]
section
variable {prim : FuncId → Option Prim} (d : Nat) (cfg : Cfg) (h : Heap)
theorem tab1_ok (hp : prim 182 = none) : callM md (K prim (d + 1)) cfg 182 [] h = some (.agg (tcells tab1), h) := by
  have hk : K prim (d + 1) ⟨0, [], 0⟩ 182 [] [] = some (.agg (tcells tab1), [some (tcells tab1)]) := by
    simp only [K, callN, hp]
    kernel_rfl
  have hf : frz [some (tcells tab1)] 0 6 (.agg (tcells tab1)) = some (.agg (tcells tab1)) := by kernel_rfl
  simp only [callM, show md 182 = 0 from rfl, List.all_nil, if_true, hk, hf]
theorem tab2_ok (hp : prim 184 = none) : callM md (K prim (d + 1)) cfg 184 [] h = some (.agg (tcells tab2), h) := by
  have hk : K prim (d + 1) ⟨0, [], 0⟩ 184 [] [] = some (.agg (tcells tab2), [some (tcells tab2)]) := by
    simp only [K, callN, hp]
    kernel_rfl
  have hf : frz [some (tcells tab2)] 0 6 (.agg (tcells tab2)) = some (.agg (tcells tab2)) := by kernel_rfl
  simp only [callM, show md 184 = 0 from rfl, List.all_nil, if_true, hk, hf]
theorem tab3_ok (hp : prim 185 = none) : callM md (K prim (d + 1)) cfg 185 [] h = some (.agg (tcells tab3), h) := by
  have hk : K prim (d + 1) ⟨0, [], 0⟩ 185 [] [] = some (.agg (tcells tab3), [some (tcells tab3)]) := by
    simp only [K, callN, hp]
    kernel_rfl
  have hf : frz [some (tcells tab3)] 0 6 (.agg (tcells tab3)) = some (.agg (tcells tab3)) := by kernel_rfl
  simp only [callM, show md 185 = 0 from rfl, List.all_nil, if_true, hk, hf]
theorem tab4_ok (hp : prim 186 = none) : callM md (K prim (d + 1)) cfg 186 [] h = some (.agg (tcells tab4), h) := by
  have hk : K prim (d + 1) ⟨0, [], 0⟩ 186 [] [] = some (.agg (tcells tab4), [some (tcells tab4)]) := by
    simp only [K, callN, hp]
    kernel_rfl
  have hf : frz [some (tcells tab4)] 0 6 (.agg (tcells tab4)) = some (.agg (tcells tab4)) := by kernel_rfl
  simp only [callM, show md 186 = 0 from rfl, List.all_nil, if_true, hk, hf]
theorem z91 : zeroOf Tryz.prog 230 = some (.agg (zcells 44)) := by kernel_rfl
theorem z95 : zeroOf Tryz.prog 234 = some (.agg (zcells 41)) := by kernel_rfl
theorem ls1 : tab1.length = 44 := rfl
theorem ls2 : tab2.length = 44 := rfl
theorem ls3 : tab3.length = 44 := rfl
theorem ls4 : tab4.length = 41 := rfl
theorem sl91 {h : Heap} {b : Nat} : sliceV Tryz.prog h 230 (.ptr b 0) none none = (blockOf h b).bind fun cs => if 308 ≤ cs.length then some (.sl b 0 44 44 7) else none := by
  have hu : Tryz.prog.underlying 230 = some (.array 44 166) := by kernel_rfl
  have hs : szOf Tryz.prog 166 = some 7 := by kernel_rfl
  simp only [sliceV, hu, hs]
  cases blockOf h b <;> simp
theorem sl95 {h : Heap} {b : Nat} : sliceV Tryz.prog h 234 (.ptr b 0) none none = (blockOf h b).bind fun cs => if 287 ≤ cs.length then some (.sl b 0 41 41 7) else none := by
  have hu : Tryz.prog.underlying 234 = some (.array 41 166) := by kernel_rfl
  have hs : szOf Tryz.prog 166 = some 7 := by kernel_rfl
  simp only [sliceV, hu, hs]
  cases blockOf h b <;> simp
theorem wrap32 {n : Int} (h1 : -2147483648 ≤ n) (h2 : n ≤ 2147483647) : IntKind.i32.wrap n = n := by
  have := IntWalk.i32_in n ⟨by omega, by omega⟩
  exact this
theorem search1 (hp : prim 183 = none) (t : List Row) (ht : t.length ≤ 100) (hs : asc t = true) (r : Int) (y : Option (List V)) (n : Nat) (hn : n = t.length) :
    callM md (K prim (d + 1)) ⟨0, [], 0⟩ 183 [.sl 1 0 n n 7, .int .i32 r] [y, some (tcells t)] = some (.agg (rowC (searchS t r)), [y, some (tcells t)]) := by
  subst hn
  refine search_ok (prim := prim) d _ _ hp t ht (asc_ok t hs) r ?_
  have hb : blockOf [y, some (tcells t)] 1 = some (tcells t) := by
    rw [blockOf_succ, blockOf_zero, tcells_map]; rfl
  simp [List.mapM_cons, frz_rows hb]
set_option maxHeartbeats 2000000 in
theorem find_ok (hp : ∀ f, Np5 f → prim f = none) (r : Int) : callM md (K prim (d + 2)) cfg 113 [.int .i32 r] h = some (.agg (rowC (findS r)), h) := by
  refine call0 rfl (hp 113 (by decide)) Tryz.func113 rfl rfl rfl (by simp) ?_
  have h1 := fun cfg h => tab1_ok (prim := prim) d cfg h (hp 182 (by decide))
  have h2 := fun cfg h => tab2_ok (prim := prim) d cfg h (hp 184 (by decide))
  have h3 := fun cfg h => tab3_ok (prim := prim) d cfg h (hp 185 (by decide))
  have h4 := fun cfg h => tab4_ok (prim := prim) d cfg h (hp 186 (by decide))
  have s1 := fun y => search1 (prim := prim) d (hp 183 (by decide)) tab1 (by simp [ls1]) (by kernel_rfl) r y 44 ls1.symm
  have s2 := fun y => search1 (prim := prim) d (hp 183 (by decide)) tab2 (by simp [ls2]) (by kernel_rfl) r y 44 ls2.symm
  have s3 := fun y => search1 (prim := prim) d (hp 183 (by decide)) tab3 (by simp [ls3]) (by kernel_rfl) r y 44 ls3.symm
  have s4 := fun y => search1 (prim := prim) d (hp 183 (by decide)) tab4 (by simp [ls4]) (by kernel_rfl) r y 41 ls4.symm
  have fz : ∀ (H : Heap) (x : Row), frz H 0 6 (.agg (rowC x)) = some (.agg (rowC x)) := fun H ⟨a, b, c, d, e, f, g⟩ => rfl
  unfold findS
  have l1 : (tcells tab1).length = 308 := by rw [tcells_len, ls1]
  have l2 : (tcells tab2).length = 308 := by rw [tcells_len, ls2]
  have l3 : (tcells tab3).length = 308 := by rw [tcells_len, ls3]
  have l4 : (tcells tab4).length = 287 := by rw [tcells_len, ls4]
  have z1 : (zcells 44).length = 308 := zcells_len 44
  have z2 : (zcells 41).length = 287 := zcells_len 41
  have zm : ∀ n, isMap (zcells n) = false := fun n => tcells_map _
  have p1 := putAt_all (tcells tab1) (zcells 44) (by rw [l1, z1])
  have p2 := putAt_all (tcells tab2) (zcells 44) (by rw [l2, z1])
  have p3 := putAt_all (tcells tab3) (zcells 44) (by rw [l3, z1])
  have p4 := putAt_all (tcells tab4) (zcells 41) (by rw [l4, z2])
  have ro : ∀ x : Row, rowC x = [.int .i32 x.1, .int .i32 x.2.1, .int .u8 x.2.2.1, .int .u8 x.2.2.2.1, .int .u8 x.2.2.2.2.1, .int .u8 x.2.2.2.2.2.1, .int .u8 x.2.2.2.2.2.2] := fun ⟨a, b, c, d, e, f, g⟩ => rfl
  by_cases c1 : 44032 ≤ r ∧ r ≤ 55203
  · have m1 : (r - 44032).tmod 28 = (r - 44032) % 28 := Int.tmod_eq_emod_of_nonneg (by omega)
    by_cases c0 : (r - 44032) % 28 = 0
    · simp (disch := omega) [c1.1, c1.2, wrap32, m1, c0, rowC]
    · simp (disch := omega) [c1.1, c1.2, wrap32, m1, c0, rowC]
  · have n1 : (decide (44032 ≤ r) && decide (r ≤ 55203)) = false := by simpa using c1
    by_cases c2 : r ≤ 161
    · have n1 : ¬ 44032 ≤ r := by omega
      have s := s1 (some (rowC zrow))
      simp only [rowC, zrow] at s
      simp (disch := omega) [n1, c2, h1, z91, tcells_leaf, tcells_rf, tcells_map, zm, l1, z1, p1, sl91, s, ro, -Tryz.zr230]
    · by_cases c3 : r ≤ 1642
      · have n1 : ¬ 44032 ≤ r := by omega
        have s := s2 (some (rowC zrow))
        simp only [rowC, zrow] at s
        simp (disch := omega) [n1, c2, c3, h2, z91, tcells_leaf, tcells_rf, tcells_map, zm, l2, z1, p2, sl91, s, ro, -Tryz.zr230]
      · by_cases c4 : r ≤ 8237
        · have n1 : ¬ 44032 ≤ r := by omega
          have s := s3 (some (rowC zrow))
          simp only [rowC, zrow] at s
          simp (disch := omega) [n1, c2, c3, c4, h3, z91, tcells_leaf, tcells_rf, tcells_map, zm, l3, z1, p3, sl91, s, ro, -Tryz.zr230]
        · have s := s4 (some (rowC zrow))
          simp only [rowC, zrow] at s
          have c1' : 44032 ≤ r → ¬ r ≤ 55203 := fun a b => c1 ⟨a, b⟩
          by_cases n0 : 44032 ≤ r
          · simp (disch := omega) [n0, c1' n0, c2, c3, c4, h4, z95, tcells_leaf, tcells_rf, tcells_map, zm, l4, z2, p4, sl95, s, ro, -Tryz.zr234]
          · simp (disch := omega) [n0, c2, c3, c4, h4, z95, tcells_leaf, tcells_rf, tcells_map, zm, l4, z2, p4, sl95, s, ro, -Tryz.zr234]
@[simp] theorem cv5_3 {h : Heap} {k : IntKind} {n : Int} : convV Tryz.prog h 5 3 (.int k n) = some (.int .i64 (IntKind.i64.wrap n), h) := by kernel_rfl
end
end Bi
end Go.Ab
namespace Go.Ab
open Go.Proofs
namespace Bi
section
variable {prim : FuncId → Option Prim} (d : Nat)
def cBr (r : Int) : Int := IntKind.i64.wrap (findS r).2.2.1
def cLn (r : Int) : Int := IntKind.i64.wrap (findS r).2.2.2.2.1
theorem cbr_ok (hp : ∀ f, Np5 f → prim f = none) (cfg : Cfg) (h : Heap) (r : Int) : callM md (K prim (d + 3)) cfg 115 [.int .i32 r] h = some (.int .i64 (cBr r), h) := by
  refine call0 rfl (hp 115 (by decide)) Tryz.func115 rfl rfl rfl (by simp) ?_
  have hf := fun cfg h => find_ok (prim := prim) d cfg h hp r
  unfold cBr
  generalize findS r = x at hf ⊢
  obtain ⟨a, b, c, d, e, f, g⟩ := x
  simp only [rowC] at hf
  simp [hf]
theorem cln_ok (hp : ∀ f, Np5 f → prim f = none) (cfg : Cfg) (h : Heap) (r : Int) : callM md (K prim (d + 3)) cfg 70 [.int .i32 r] h = some (.int .i64 (cLn r), h) := by
  refine call0 rfl (hp 70 (by decide)) Tryz.func70 rfl rfl rfl (by simp) ?_
  have hf := fun cfg h => find_ok (prim := prim) d cfg h hp r
  unfold cLn
  generalize findS r = x at hf ⊢
  obtain ⟨a, b, c, d, e, f, g⟩ := x
  simp only [rowC] at hf
  simp [hf]
end
end Bi
end Go.Ab
namespace Go.Ab
open Go.Proofs
namespace Bi
abbrev ml (r : List (Int × Int)) : V := .lst (r.map fun x => [.int .i64 x.1, .int .i64 x.2])
def scal (r : Int) : Bool := decide (0 ≤ r) && decide (r ≤ 1114111) && (decide (r < 55296) || decide (57343 < r))
def badR (r : Int × Int) : Bool := decide (r.1 < 1) || decide (2000 < r.1) || decide (r.2 < 0) || decide (15 < r.2)
def sumL (l : List (Int × Int)) : Int := (l.map (·.1)).sum
def alikeL : List (Int × Int) → Bool
  | a :: b :: r => decide (a.2 = b.2) || alikeL (b :: r)
  | _ => false
def valB (t : List Int) (runs : List (Int × Int)) : Int :=
  if 2000 < t.length then 2
  else if t.all scal = false then 1
  else if runs.any badR then 1
  else if sumL runs ≠ t.length then 1
  else if alikeL runs then 10 else 0
theorem alike_snoc (x : Int × Int) : ∀ (l : List (Int × Int)), alikeL (l ++ [x]) = (alikeL l || (match l.getLast? with
    | some y => decide (y.2 = x.2)
    | none => false))
  | [] => rfl
  | [a] => by simp [alikeL]
  | a :: b :: r => by
    have ih := alike_snoc x (b :: r)
    simp only [List.cons_append] at ih ⊢
    simp only [alikeL]
    rw [ih, Bool.or_assoc]
    simp
theorem sum_snoc (l : List (Int × Int)) (x : Int × Int) : sumL (l ++ [x]) = sumL l + x.1 := by simp [sumL]
theorem take_snoc' {α : Type} (l : List α) (i : Nat) (x : α) (hx : l[i]? = some x) : l.take (i + 1) = l.take i ++ [x] := by rw [List.take_add_one, hx]; rfl
theorem last_take {α : Type} (l : List α) (i : Nat) (y : α) (hy : l[i]? = some y) : (l.take (i + 1)).getLast? = some y := by rw [take_snoc' l i y hy]; simp
theorem sum_bounds : ∀ (l : List (Int × Int)), l.any badR = false → l.length ≤ sumL l ∧ sumL l ≤ 2000 * l.length
  | [], _ => by simp [sumL]
  | a :: l, h => by
    simp only [List.any_cons, Bool.or_eq_false_iff] at h
    have ih := sum_bounds l h.2
    have hb : 1 ≤ a.1 ∧ a.1 ≤ 2000 := by
      have := h.1
      simp only [badR, Bool.or_eq_false_iff, decide_eq_false_iff_not] at this
      omega
    have : sumL (a :: l) = a.1 + sumL l := by simp [sumL]
    rw [this]
    simp
    omega
section
variable {prim : FuncId → Option Prim} (d : Nat) (cfg : Cfg) (h : Heap)
theorem scalar_ok (hp : prim 112 = none) (r : Int) : callM md (K prim (d + 1)) cfg 112 [.int .i32 r] h = some (.bool (scal r), h) := by
  refine call0 rfl hp Tryz.func112 rfl rfl rfl (by simp) ?_
  unfold scal
  simp
  by_cases h1 : 0 ≤ r <;> by_cases h2 : r ≤ 1114111 <;> by_cases h3 : r < 55296 <;> simp [h1, h2, h3]
theorem marked_ok (hp : prim 68 = none) (r : Int) : callM md (K prim (d + 1)) cfg 68 [.int .i64 r] h = some (.bool (decide (0 ≤ r) && decide (r ≤ 15)), h) := by
  refine call0 rfl hp Tryz.func68 rfl rfl rfl (by simp) ?_
  simp
  by_cases h1 : 0 ≤ r <;> simp [h1]
theorem all_take {α : Type} {p : α → Bool} {l : List α} {i : Nat} {x : α} (hx : l[i]? = some x) (hp : p x = false) : l.all p = false := by
  rw [List.all_eq_false]
  exact ⟨x, List.mem_of_getElem? hx, by simpa using hp⟩
theorem scalars_ok (hp : prim 67 = none) (hp1 : prim 112 = none) (t : List Int) (ht : t.length ≤ 2000) : callM md (K prim (d + 2)) cfg 67 [rl t] h = some (.bool (t.all scal), h) := by
  refine call0 rfl hp Tryz.func67 rfl rfl rfl (by simp) ?_
  simp
  refine wC_loop (fun m fr h => ∃ i : Nat, i ≤ t.length ∧ m = t.length - i ∧ (t.take i).all scal = true ∧ h = [] ∧ Slots 15 [(0, rl t), (5, rl t), (6, .int .i64 t.length), (7, .int .i64 i)] fr) (m := t.length) (by omega) ⟨0, by omega, by omega, by simp, rfl, by simp⟩ ?_
  rintro m fr h ⟨i, hi, rfl, hall, rfl, hs⟩
  obtain ⟨j, rfl⟩ := hs.ex
  clear hs
  by_cases hlt : i < t.length
  · obtain ⟨x, hx⟩ : ∃ x, t[i]? = some x := ⟨t[i], List.getElem?_eq_getElem hlt⟩
    cases hsc : scal x
    · have ha := all_take (p := scal) hx hsc
      simp [hlt, hx, scalar_ok d _ _ hp1, hsc, ha, -getElem?_pos]
    · simp (disch := omega) [hlt, hx, scalar_ok d _ _ hp1, hsc, wrap64, -getElem?_pos]
      exact Rnd_of (m' := t.length - (i + 1)) (by omega) ⟨i + 1, by omega, rfl, by rw [take_snoc' t i x hx]; simp [hsc] at hall ⊢; exact hall, rfl, by simp⟩
  · rw [List.take_of_length_le (by omega)] at hall
    simp [hlt, hall]
theorem ml_get {r : List (Int × Int)} {i : Nat} {x : Int × Int} (hx : r[i]? = some x) : (r.map fun x => [V.int .i64 x.1, V.int .i64 x.2])[i]? = some [V.int .i64 x.1, V.int .i64 x.2] := by simp [hx]
theorem any_bad {r : List (Int × Int)} {i : Nat} {x : Int × Int} (hx : r[i]? = some x) (hb : badR x = true) : r.any badR = true := List.any_eq_true.2 ⟨x, List.mem_of_getElem? hx, hb⟩
theorem any_snoc {r : List (Int × Int)} {x : Int × Int} (h : r.any badR = false) (hb : badR x = false) : (r ++ [x]).any badR = false := by simp [h, hb]
set_option maxHeartbeats 2000000 in
theorem validate_ok (hp : prim 29 = none) (hp1 : prim 67 = none) (hp2 : prim 112 = none) (hp3 : prim 68 = none) (t : List Int) (r : List (Int × Int)) (ht : t.length ≤ 2000) (hr : r.length ≤ 2000) :
    callM md (K prim (d + 3)) cfg 29 [.agg [rl t, ml r]] h = some (.int .i64 (valB t r), h) := by
  refine call0 rfl hp Tryz.func29 rfl rfl rfl (by simp) ?_
  have ht' : ¬ (2000 : Int) < t.length := by omega
  have ht2 : ¬ 2000 < t.length := by omega
  simp [ht', scalars_ok d _ _ hp1 hp2 t ht]
  cases hsc : t.all scal
  · simp [valB, ht2, hsc]
  · simp
    refine wC_loop (fun m fr h => ∃ (i : Nat) (T : Heap), i ≤ r.length ∧ m = r.length - i ∧ (r.take i).any badR = false ∧ h = some [rl t, ml r] :: T ∧
        Slots 67 [(1, .ptr 0 0), (3, .int .i64 (sumL (r.take i))), (4, .bool (alikeL (r.take i))), (16, ml r), (17, .int .i64 r.length), (18, .int .i64 i)] fr) (m := r.length) (by omega) ⟨0, [], by omega, by omega, by simp, rfl, by simp [sumL, alikeL]⟩ ?_
    rintro m fr h ⟨i, T, hi, rfl, hnb, rfl, hs⟩
    obtain ⟨j, rfl⟩ := hs.ex
    clear hs
    have hsb := sum_bounds _ hnb
    have hlen : (r.take i).length = i := by simp; omega
    rw [hlen] at hsb
    by_cases hlt : i < r.length
    · obtain ⟨x, hx⟩ : ∃ x, r[i]? = some x := ⟨r[i], List.getElem?_eq_getElem hlt⟩
      have hx' := ml_get hx
      have hsn := take_snoc' r i x hx
      cases hbd : badR x
      · have hb : 1 ≤ x.1 ∧ x.1 ≤ 2000 ∧ 0 ≤ x.2 ∧ x.2 ≤ 15 := by
          simp only [badR, Bool.or_eq_false_iff, decide_eq_false_iff_not] at hbd
          omega
        have h1 : ¬ x.1 < 1 := by omega
        have h2 : ¬ 2000 < x.1 := by omega
        have hm := marked_ok (prim := prim) (d + 1) ⟨0, [], 0⟩ (some [rl t, ml r] :: (T ++ [some [.int .i64 x.1, .int .i64 x.2]])) hp3 x.2
        simp [hb.2.2.1, hb.2.2.2] at hm
        simp (disch := omega) [hlt, hx', h1, h2, hm, wrap64, -getElem?_pos, -List.getElem?_map]
        refine wC_draw 14 (by kernel_rfl) ?_
        have hnb' : (r.take (i + 1)).any badR = false := by rw [hsn]; exact any_snoc hnb hbd
        have hsum : sumL (r.take i) + x.1 = sumL (r.take (i + 1)) := by rw [hsn, sum_snoc]
        cases hav : alikeL (r.take i)
        · by_cases hi0 : i = 0
          · have hni : ¬ 0 < i := by omega
            have hal : alikeL (r.take (i + 1)) = false := by
              rw [hsn, show r.take i = [] by simp [hi0]]
              rfl
            simp (disch := omega) [hni, wrap64, -getElem?_pos, -List.getElem?_map]
            exact Rnd_of (m' := r.length - (i + 1)) (by omega) ⟨i + 1, _, by omega, rfl, hnb', rfl, by simp [hal, hsum]⟩
          · obtain ⟨y, hy⟩ : ∃ y, r[i - 1]? = some y := ⟨r[i - 1], List.getElem?_eq_getElem (by omega)⟩
            have hy' := ml_get hy
            have e1 : ((i : Int) - 1).toNat = i - 1 := by omega
            have hi1 : 0 < i := by omega
            have hlast : (r.take i).getLast? = some y := by
              have := last_take r (i - 1) y hy
              rwa [show i - 1 + 1 = i by omega] at this
            have hal : alikeL (r.take (i + 1)) = decide (y.2 = x.2) := by rw [hsn, alike_snoc, hav, hlast]; simp
            simp (disch := omega) [hi1, e1, hy', wrap64, -getElem?_pos, -List.getElem?_map]
            exact Rnd_of (m' := r.length - (i + 1)) (by omega) ⟨i + 1, _, by omega, rfl, hnb', rfl, by simp [hal, hsum]⟩
        · have hal : alikeL (r.take (i + 1)) = true := by rw [hsn, alike_snoc, hav]; simp
          simp (disch := omega) [wrap64, -getElem?_pos, -List.getElem?_map]
          exact Rnd_of (m' := r.length - (i + 1)) (by omega) ⟨i + 1, _, by omega, rfl, hnb', rfl, by simp [hal, hsum]⟩
      · have hany := any_bad hx hbd
        have hv : valB t r = 1 := by simp [valB, ht2, hsc, hany]
        rw [hv]
        have hm := marked_ok (prim := prim) (d + 1) ⟨0, [], 0⟩ (some [rl t, ml r] :: (T ++ [some [.int .i64 x.1, .int .i64 x.2]])) hp3 x.2
        by_cases h1 : x.1 < 1
        · simp (disch := omega) [hlt, hx', h1, wrap64, -getElem?_pos, -List.getElem?_map]
        · by_cases h2 : 2000 < x.1
          · simp (disch := omega) [hlt, hx', h1, h2, wrap64, -getElem?_pos, -List.getElem?_map]
          · have h3 : (decide (0 ≤ x.2) && decide (x.2 ≤ 15)) = false := by
              simp only [badR, Bool.or_eq_true, decide_eq_true_eq] at hbd
              simp only [Bool.and_eq_false_iff, decide_eq_false_iff_not]
              omega
            rw [h3] at hm
            simp (disch := omega) [hlt, hx', h1, h2, hm, wrap64, -getElem?_pos, -List.getElem?_map]
    · have hall : r.take i = r := List.take_of_length_le (by omega)
      rw [hall] at hnb hsb ⊢
      by_cases hsum : sumL r = t.length
      · cases hal : alikeL r <;> simp [hlt, hsum, hal, valB, ht2, hsc, hnb]
      · simp [hlt, hsum, valB, ht2, hsc, hnb]
end
end Bi
end Go.Ab
namespace Go.Ab
open Go.Proofs
namespace Bi
def refTbl : List (Int × List Int) := [(-1, [0, 0, 0, 0, 0]), (8, [3, 0, 7, 9, 0]), (9, [3, 0, 10, 11, 0]), (10, [2, 1, 3, 10, 0]), (11, [3, 1, 1, 11, 0]), (12, [3, 1, 1, 12, 0]), (13, [1, 1, 2, 10, 0]), (31, [3, 0, 7, 9, 0]), (32, [0, 2, 4, 12, 0]), (33, [0, 0, 15, 13, 0]), (34, [0, 0, 14, 13, 0]), (37, [0, 0, 0, 5, 0]), (38, [0, 0, 0, 13, 0]), (39, [0, 7, 14, 13, 0]), (40, [0, 0, 12, 13, 0]), (41, [0, 0, 13, 13, 0]), (42, [0, 0, 0, 13, 0]), (43, [0, 0, 0, 4, 0]), (44, [0, 6, 16, 7, 0]), (45, [0, 0, 11, 4, 0]), (46, [0, 7, 16, 7, 0]), (47, [0, 0, 10, 7, 0]), (57, [0, 4, 17, 3, 0]), (58, [0, 5, 16, 7, 0]), (59, [0, 6, 16, 13, 0]), (62, [0, 0, 0, 13, 0]), (63, [0, 0, 15, 13, 0]), (64, [0, 0, 0, 13, 0]), (90, [0, 3, 0, 0, 0]), (91, [0, 0, 12, 13, 0]), (92, [0, 0, 0, 13, 0]), (93, [0, 0, 13, 13, 0]), (94, [0, 0, 0, 13, 0]), (95, [0, 8, 0, 13, 0]), (96, [0, 0, 0, 13, 0]), (122, [0, 3, 0, 0, 0]), (123, [0, 0, 12, 13, 0]), (124, [0, 0, 10, 13, 0]), (125, [0, 0, 13, 13, 0]), (126, [0, 0, 0, 13, 0]), (132, [3, 0, 7, 9, 0]), (133, [3, 1, 1, 10, 0]), (159, [3, 0, 7, 9, 0]), (160, [0, 0, 9, 7, 0]), (161, [0, 0, 12, 13, 0]), (165, [0, 0, 0, 5, 0]), (169, [0, 0, 0, 13, 0]), (170, [0, 3, 0, 0, 0]), (171, [0, 0, 14, 13, 0]), (172, [0, 0, 0, 13, 0]), (173, [3, 10, 10, 9, 4]), (180, [0, 0, 0, 13, 0]), (181, [0, 3, 0, 0, 0]), (182, [0, 0, 0, 13, 0]), (183, [0, 5, 0, 13, 0]), (185, [0, 0, 0, 13, 0]), (186, [0, 3, 0, 0, 0]), (187, [0, 0, 14, 13, 0]), (191, [0, 0, 0, 13, 0]), (767, [0, 3, 0, 0, 0]), (879, [4, 10, 7, 8, 4]), (1423, [0, 3, 0, 0, 0]), (1469, [4, 10, 7, 8, 4]), (1470, [0, 0, 10, 1, 0]), (1479, [4, 10, 7, 8, 4]), (1487, [0, 0, 0, 0, 0]), (1514, [0, 3, 0, 1, 0]), (1535, [0, 0, 0, 0, 0]), (1541, [7, 0, 0, 6, 0]), (1547, [0, 0, 0, 0, 0]), (1548, [0, 6, 16, 7, 0]), (1551, [0, 0, 0, 0, 0]), (1562, [4, 10, 7, 8, 4]), (1563, [0, 0, 15, 2, 0]), (1564, [3, 10, 7, 2, 4]), (1566, [0, 0, 0, 0, 0]), (1567, [0, 0, 15, 2, 0]), (1568, [0, 3, 0, 2, 2]), (1569, [0, 3, 0, 2, 0]), (1573, [0, 3, 0, 2, 1]), (1574, [0, 3, 0, 2, 2]), (1575, [0, 3, 0, 2, 1]), (1576, [0, 3, 0, 2, 2]), (1577, [0, 3, 0, 2, 1]), (1582, [0, 3, 0, 2, 2]), (1586, [0, 3, 0, 2, 1]), (1599, [0, 3, 0, 2, 2]), (1600, [0, 3, 0, 2, 3]), (1607, [0, 3, 0, 2, 2]), (1608, [0, 3, 0, 2, 1]), (1610, [0, 3, 0, 2, 2]), (1631, [4, 10, 7, 8, 4]), (1641, [0, 4, 17, 6, 0]), (1642, [0, 0, 0, 5, 0]), (1644, [0, 6, 16, 6, 0]), (1647, [0, 0, 0, 0, 0]), (1648, [4, 10, 7, 8, 4]), (1655, [0, 3, 0, 2, 1]), (1671, [0, 3, 0, 2, 2]), (1689, [0, 3, 0, 2, 1]), (1727, [0, 3, 0, 2, 2]), (1739, [0, 3, 0, 2, 1]), (1747, [0, 3, 0, 2, 2]), (1749, [0, 0, 0, 0, 0]), (1756, [4, 10, 7, 8, 4]), (1775, [0, 0, 0, 0, 0]), (1785, [0, 4, 17, 3, 0]), (2303, [0, 0, 0, 0, 0]), (2306, [4, 10, 7, 8, 0]), (2307, [8, 10, 7, 0, 0]), (2361, [0, 3, 0, 0, 0]), (2363, [0, 0, 0, 0, 0]), (2364, [4, 10, 7, 8, 0]), (2365, [0, 0, 0, 0, 0]), (2368, [8, 10, 7, 0, 0]), (2376, [4, 10, 7, 8, 0]), (2380, [8, 10, 7, 0, 0]), (2381, [4, 10, 7, 8, 0]), (2405, [0, 0, 0, 0, 0]), (2415, [0, 4, 17, 0, 0]), (4351, [0, 0, 0, 0, 0]), (4447, [9, 3, 18, 0, 0]), (4519, [10, 3, 18, 0, 0]), (4607, [11, 3, 18, 0, 0]), (8191, [0, 0, 0, 0, 0]), (8198, [0, 2, 10, 12, 0]), (8199, [0, 0, 9, 12, 0]), (8202, [0, 2, 10, 12, 0]), (8203, [3, 0, 5, 9, 0]), (8204, [4, 10, 7, 9, 0]), (8205, [5, 11, 6, 9, 3]), (8206, [3, 10, 7, 0, 4]), (8207, [3, 10, 7, 1, 4]), (8208, [0, 0, 10, 13, 0]), (8209, [0, 0, 9, 13, 0]), (8212, [0, 0, 10, 13, 0]), (8215, [0, 0, 0, 13, 0]), (8216, [0, 0, 14, 13, 0]), (8217, [0, 7, 14, 13, 0]), (8218, [0, 0, 12, 13, 0]), (8219, [0, 0, 0, 0, 0]), (8221, [0, 0, 14, 13, 0]), (8231, [0, 0, 0, 0, 0]), (8232, [3, 1, 1, 12, 0]), (8233, [3, 1, 1, 10, 0]), (8234, [3, 10, 7, 14, 4]), (8235, [3, 10, 7, 16, 4]), (8236, [3, 10, 7, 18, 4]), (8237, [3, 10, 7, 15, 4]), (8238, [3, 10, 7, 17, 4]), (8239, [0, 0, 0, 0, 0]), (8244, [0, 0, 0, 5, 0]), (8254, [0, 0, 0, 0, 0]), (8256, [0, 8, 0, 13, 0]), (8287, [0, 0, 0, 0, 0]), (8288, [3, 10, 8, 9, 4]), (8293, [0, 0, 0, 0, 0]), (8294, [3, 10, 7, 19, 0]), (8295, [3, 10, 7, 20, 0]), (8296, [3, 10, 7, 21, 0]), (8297, [3, 10, 7, 22, 0]), (8351, [0, 0, 0, 0, 0]), (8399, [0, 0, 0, 5, 0]), (8432, [4, 10, 7, 8, 4]), (8591, [0, 0, 0, 0, 0]), (8959, [0, 0, 0, 13, 0]), (9727, [0, 0, 0, 0, 0]), (10175, [14, 0, 18, 13, 0]), (12287, [0, 0, 0, 0, 0]), (12288, [0, 2, 10, 12, 0]), (12290, [0, 0, 13, 13, 0]), (12292, [0, 0, 0, 0, 0]), (12295, [0, 0, 18, 0, 0]), (12296, [0, 0, 12, 13, 0]), (12297, [0, 0, 13, 13, 0]), (12298, [0, 0, 12, 13, 0]), (12299, [0, 0, 13, 13, 0]), (12300, [0, 0, 12, 13, 0]), (12301, [0, 0, 13, 13, 0]), (12302, [0, 0, 12, 13, 0]), (12303, [0, 0, 13, 13, 0]), (12304, [0, 0, 12, 13, 0]), (12305, [0, 0, 13, 13, 0]), (12352, [0, 0, 0, 0, 0]), (12438, [0, 0, 18, 0, 0]), (12440, [0, 0, 0, 0, 0]), (12442, [4, 10, 7, 8, 4]), (12448, [0, 0, 0, 0, 0]), (12538, [0, 9, 18, 0, 0]), (12539, [0, 0, 0, 0, 0]), (12540, [0, 9, 18, 0, 0]), (13311, [0, 0, 0, 0, 0]), (40959, [0, 0, 18, 0, 0]), (64284, [0, 0, 0, 0, 0]), (64335, [0, 3, 0, 1, 0]), (65023, [0, 3, 0, 2, 0]), (65039, [4, 10, 7, 8, 4]), (65135, [0, 0, 0, 0, 0]), (65276, [0, 3, 0, 2, 0]), (65278, [0, 0, 0, 0, 0]), (65279, [3, 10, 8, 9, 4]), (127461, [0, 0, 0, 0, 0]), (127487, [6, 12, 19, 0, 0]), (127743, [0, 0, 0, 0, 0]), (127994, [14, 0, 18, 13, 0]), (127999, [4, 10, 7, 13, 4]), (129791, [14, 0, 18, 13, 0]), (131071, [0, 0, 0, 0, 0]), (262141, [0, 0, 18, 0, 0]), (917759, [0, 0, 0, 0, 0]), (917999, [4, 10, 7, 8, 4])]
def intsOf : List V → Option (List Int)
  | [] => some []
  | .int .i64 n :: r => (intsOf r).map (n :: ·)
  | _ => none
def constB : List (Nat × Operand) → Bool
  | [] => true
  | (_, .const _) :: r => constB r
  | _ => false
noncomputable def rowInts (ps : List (Nat × Operand)) : Option (List Int) :=
  if constB ps then match evParts [] ps with
    | some vs => match buildV Tryz.prog 144 vs with
      | some (.agg cs) => intsOf cs
      | _ => none
    | none => none
  else none
def bndOf (op : BinOp) (n : Int) : Option Int := match op with
  | .leq => some n
  | .lss => some (n - 1)
  | _ => none
def okT (a : Nat) : Bool := decide (3 ≤ a) && decide (a < 862)
theorem okT_iff {a : Nat} (h : okT a = true) : 3 ≤ a ∧ a < 862 := by
  unfold okT at h
  rw [Bool.and_eq_true, decide_eq_true_eq, decide_eq_true_eq] at h
  exact h
noncomputable def lk : Code → Option (Int × List Int × Code)
  | .seq (.region _ o1 false) (.cond (.tmp c) (.seq (.region _ o2 false) .ret) rest) =>
    match o1.toList, o2.toList with
    | [⟨some a, .move (.tmp 0), _, _, _, none⟩, ⟨some b, .binOp op 21 (.tmp a') (.const (.int .i32 n)) _, _, _, _, none⟩, ⟨some c', .assign (.tmp b'), _, _, _, none⟩], [⟨some e, .build 144 ps, _, _, _, none⟩, ⟨none, .store 144 (.tmp 2) (.tmp e'), _, _, _, none⟩] =>
      if a = a' ∧ b = b' ∧ c = c' ∧ e = e' ∧ okT a = true ∧ okT b = true ∧ okT c = true ∧ okT e = true then match bndOf op n, rowInts ps.toList with
        | some m, some l => if l.length = 5 then some (m, l, rest) else none
        | _, _ => none
      else none
    | _, _ => none
  | _ => none
theorem evParts_const {fr : List V} : ∀ {ps : List (Nat × Operand)}, constB ps = true → evParts fr ps = evParts [] ps
  | [], _ => rfl
  | (i, .const v) :: r, h => by
    have ih := evParts_const (fr := fr) (ps := r) h
    simp only [evParts, ev, ih]
  | (_, .tmp _) :: _, h => by simp [constB] at h
  | (_, .global _) :: _, h => by simp [constB] at h
  | (_, .func _) :: _, h => by simp [constB] at h
theorem intsOf_some : ∀ {cs : List V} {l : List Int}, intsOf cs = some l → cs = l.map (V.int .i64)
  | [], l, h => by simp [intsOf] at h; subst h; rfl
  | c :: r, l, h => by
    unfold intsOf at h
    split at h
    · rename_i heq; cases heq
    · rename_i n r' heq
      cases heq
      obtain ⟨l', h1, rfl⟩ := Option.map_eq_some_iff.1 h
      rw [intsOf_some h1]
      rfl
    · cases h
theorem rowInts_some {ps : List (Nat × Operand)} {l : List Int} (h : rowInts ps = some l) (fr : List V) : ∃ vs, evParts fr ps = some vs ∧ buildV Tryz.prog 144 vs = some (.agg (l.map (V.int .i64))) := by
  unfold rowInts at h
  split at h
  · rename_i hc
    rw [← evParts_const (fr := fr) hc] at h
    split at h
    · rename_i vs hv
      split at h
      · rename_i cs hb
        rw [intsOf_some h] at hb
        exact ⟨vs, hv, hb⟩
      · cases h
    · cases h
  · cases h
section
variable {md' : FuncId → Nat} {call : Callf} {cfg : Cfg} {n : Nat}
theorem put_self {fr : List V} {a : Nat} {v : V} (h : a < fr.length) : (put fr (some a) v)[a]? = some v := by
  simp only [put]
  rw [List.getElem?_set_self h]
theorem put_ne {fr : List V} {a k : Nat} {v : V} (h : a ≠ k) : (put fr (some a) v)[k]? = fr[k]? := by
  simp only [put]
  rw [List.getElem?_set_ne h]
theorem put_len {fr : List V} {a : Nat} {v : V} : (put fr (some a) v).length = fr.length := by simp [put]
theorem size88 : szOf Tryz.prog 144 = some 5 := by kernel_rfl
theorem lk_ok {C rest : Code} {m r : Int} {l : List Int} (hl : lk C = some (m, l, rest)) {fr : List V} {z : List V} {Q : Kont} (hz : z.length = 5) (hzm : isMap z = false) (hf : fr.length = 862) (h0 : fr[0]? = some (.int .i32 r)) (h2 : fr[2]? = some (.ptr 0 0)) (hw : cfg.wr 0 = true)
    (hy : r ≤ m → ∀ fr' : List V, fr'[2]? = some (.ptr 0 0) → Q .ret fr' [some (l.map (V.int .i64))])
    (hn : m < r → ∀ fr' : List V, fr'.length = 862 → fr'[0]? = some (.int .i32 r) → fr'[2]? = some (.ptr 0 0) → @wC Tryz.prog md' call cfg n ⟨rest⟩ fr' [some z] ⟨Q⟩) :
    @wC Tryz.prog md' call cfg n ⟨C⟩ fr [some z] ⟨Q⟩ := by
  unfold lk at hl
  split at hl
  · rename_i i1 o1 c i2 o2 rest'
    split at hl
    · rename_i a t1 p1 f1 b op a' m' g t2 p2 f2 c' b' t3 p3 f3 e ps t4 p4 f4 e' t5 p5 f5 ho1 ho2
      split at hl
      · rename_i hc
        obtain ⟨rfl, rfl, rfl, rfl, ha, hb, hcc, he⟩ := hc
        obtain ⟨a, rfl⟩ : ∃ x : Nat, a = x := ⟨a, rfl⟩
        obtain ⟨b, rfl⟩ : ∃ x : Nat, b = x := ⟨b, rfl⟩
        obtain ⟨c, rfl⟩ : ∃ x : Nat, c = x := ⟨c, rfl⟩
        obtain ⟨e, rfl⟩ : ∃ x : Nat, e = x := ⟨e, rfl⟩
        have ha := okT_iff ha
        have hb := okT_iff hb
        have hcc := okT_iff hcc
        have he := okT_iff he
        split at hl
        · rename_i m2 l2 hbd hr
          split at hl
          · rename_i hl5
            cases hl
            obtain ⟨vs, hv1, hv2⟩ := rowInts_some hr (put (put (put fr (some a) (.int .i32 r)) (some b) (.bool (decide (r ≤ m)))) (some c) (.bool (decide (r ≤ m))))
            have hbin : binV Tryz.prog op 21 (.int .i32 r) (.int .i32 m') = some (.bool (decide (r ≤ m))) := by
              unfold bndOf at hbd
              split at hbd
              · cases hbd; simp [binV, intBin]
              · cases hbd
                have hlt : decide (r < m') = decide (r ≤ m' - 1) := by rw [decide_eq_decide]; omega
                simp [binV, intBin, hlt]
              · cases hbd
            obtain ⟨F, hF⟩ : ∃ F, F = put (put (put fr (some a) (.int .i32 r)) (some b) (.bool (decide (r ≤ m)))) (some c) (.bool (decide (r ≤ m))) := ⟨_, rfl⟩
            rw [← hF] at hv1
            have hFl : F.length = 862 := by rw [hF, put_len, put_len, put_len]; exact hf
            have hF0 : F[0]? = some (.int .i32 r) := by rw [hF, put_ne (by omega), put_ne (by omega), put_ne (by omega)]; exact h0
            have hF2 : F[2]? = some (.ptr 0 0) := by rw [hF, put_ne (by omega), put_ne (by omega), put_ne (by omega)]; exact h2
            have hFc : F[c]? = some (.bool (decide (r ≤ m))) := by rw [hF, put_self (by rw [put_len, put_len]; omega)]
            have hrun : runOps Tryz.prog md' call cfg o1 o1.toList fr [some z] = some (F, [some z]) := by
              rw [ho1]
              have e1 : ev (put fr (some a) (.int .i32 r)) (.tmp a) = some (.int .i32 r) := put_self (by omega)
              have e2 : ev (put (put fr (some a) (.int .i32 r)) (some b) (.bool (decide (r ≤ m)))) (.tmp b) = some (.bool (decide (r ≤ m))) := put_self (by rw [put_len]; omega)
              have e0 : ev fr (.tmp 0) = some (.int .i32 r) := h0
              have hcst : ∀ fr, ev fr (.const (.int .i32 m')) = some (.int .i32 m') := fun _ => rfl
              simp only [runOps, stepOp, wantd, opEv, opV, e0, Option.map_some, e1, hcst, hbin, e2, hF]
            have hF3 : ev F (.tmp c) = some (.bool (decide (r ≤ m))) := hFc
            by_cases hrm : r ≤ m
            · have hrun2 : runOps Tryz.prog md' call cfg o2 o2.toList F [some z] = some (put F (some e) (.agg (l.map (V.int .i64))), [some (l.map (V.int .i64))]) := by
                rw [ho2]
                have e3 : ev (put F (some e) (.agg (l.map (V.int .i64)))) (.tmp 2) = some (.ptr 0 0) := by
                  show (put F (some e) _)[2]? = _
                  rw [put_ne (by omega)]
                  exact hF2
                have e4 : ev (put F (some e) (.agg (l.map (V.int .i64)))) (.tmp e) = some (.agg (l.map (V.int .i64))) := put_self (by omega)
                have hcl : cellsOf (.agg (l.map (V.int .i64))) = some (l.map (V.int .i64)) := by
                  show (if (l.map (V.int .i64)).all V.leaf = true then some (l.map (V.int .i64)) else none) = _
                  rw [if_pos]
                  rw [List.all_eq_true]
                  intro x hx
                  obtain ⟨y, _, rfl⟩ := List.mem_map.1 hx
                  rfl
                have hrf : (l.map (V.int .i64)).all V.rf = true := by simp
                have hst : storeV Tryz.prog cfg [some z] 144 (.ptr 0 0) (.agg (l.map (V.int .i64))) = some [some (l.map (V.int .i64))] := by
                  rw [store_eq size88, hcl, stv_some, if_pos (by simpa using hl5), storeCells_eq]
                  have hb : blockOf [some z] 0 = some z := by simp [blockOf, hzm]
                  rw [hb]
                  simp only [Option.bind_some, hw, hrf, Bool.or_true, Bool.and_true, List.length_map, hl5, hz, Nat.zero_add, Nat.le_refl, decide_true, if_true]
                  rw [putAt_all (l.map (V.int .i64)) z (by simp [hz, hl5])]
                  rfl
                simp only [runOps, stepOp, wantd, opEv, opV, hv1, hv2, Option.map_some, e3, e4, hst]
                rfl
              refine ⟨(.ret, put F (some e) (.agg (l.map (V.int .i64))), [some (l.map (V.int .i64))]), ?_, hy hrm _ ?_⟩
              · simp only [code, hrun, hF3, hrm, decide_true, hrun2]
              · show (put F (some e) _)[2]? = _
                rw [put_ne (by omega)]
                exact hF2
            · obtain ⟨st, h3, h4⟩ := hn (by omega) F hFl hF0 hF2
              refine ⟨st, ?_, h4⟩
              simp only [code, hrun, hF3, hrm, decide_false]
              exact h3
          · cases hl
        · cases hl
      · cases hl
    · cases hl
  · cases hl
noncomputable def chk : List (Int × List Int) → Code → Option Code
  | [], c => some c
  | (m, l) :: t, c => match lk c with
    | some (m', l', rest) => if m = m' ∧ l = l' then chk t rest else none
    | none => none
def look : List (Int × List Int) → Int → Option (List Int)
  | [], _ => none
  | (m, l) :: t, r => if r ≤ m then some l else look t r
theorem chk_ok : ∀ {t : List (Int × List Int)} {C rest : Code} {r : Int} {fr : List V} {z : List V} {Q : Kont}, chk t C = some rest → z.length = 5 → isMap z = false → fr.length = 862 → fr[0]? = some (.int .i32 r) → fr[2]? = some (.ptr 0 0) → cfg.wr 0 = true →
    (∀ l, look t r = some l → ∀ fr' : List V, fr'[2]? = some (.ptr 0 0) → Q .ret fr' [some (l.map (V.int .i64))]) →
    (look t r = none → ∀ fr' : List V, fr'.length = 862 → fr'[0]? = some (.int .i32 r) → fr'[2]? = some (.ptr 0 0) → @wC Tryz.prog md' call cfg n ⟨rest⟩ fr' [some z] ⟨Q⟩) →
    @wC Tryz.prog md' call cfg n ⟨C⟩ fr [some z] ⟨Q⟩
  | [], C, rest, r, fr, z, Q, h, _, _, hf, h0, h2, _, _, hn => by
    simp only [chk, Option.some.injEq] at h
    subst h
    exact hn rfl fr hf h0 h2
  | (m, l) :: t, C, rest, r, fr, z, Q, h, hz, hzm, hf, h0, h2, hw, hy, hn => by
    unfold chk at h
    split at h
    · rename_i m' l' rest' hl
      split at h
      · rename_i he
        obtain ⟨rfl, rfl⟩ := he
        refine lk_ok hl hz hzm hf h0 h2 hw (fun hr fr' hfr => hy l (by unfold look; rw [if_pos hr]) fr' hfr) ?_
        intro hr fr' g1 g2 g3
        have hlk : look ((m, l) :: t) r = look t r := by
          show (if r ≤ m then some l else look t r) = _
          rw [if_neg (by omega)]
        rw [hlk] at hy hn
        exact chk_ok h hz hzm g1 g2 g3 hw hy hn
      · cases h
    · cases h
end
noncomputable def ch71 : Code := match Tryz.f104.body with
  | some (.seq _ (.seq _ (.seq (.block _ c) _))) => c
  | _ => .skip
theorem ch71_ok : chk refTbl ch71 = some .skip := by kernel_rfl
theorem look_mem : ∀ {t : List (Int × List Int)} {r : Int} {l : List Int}, look t r = some l → ∃ m, (m, l) ∈ t
  | [], _, _, h => by simp [look] at h
  | (m, l') :: t, r, l, h => by
    unfold look at h
    split at h
    · cases h; exact ⟨m, List.mem_cons_self ..⟩
    · obtain ⟨m', h2⟩ := look_mem h
      exact ⟨m', List.mem_cons_of_mem _ h2⟩
theorem look_len {r : Int} {l : List Int} (h : look refTbl r = some l) : l.length = 5 := by
  obtain ⟨m, hm⟩ := look_mem h
  have ha : refTbl.all (fun x => decide (x.2.length = 5)) = true := by kernel_rfl
  have := List.all_eq_true.1 ha _ hm
  simpa using this
theorem mapM_five {h : Heap} {l : List Int} (h5 : l.length = 5) : List.mapM (frz h 0 5 ∘ V.int .i64) l = some (l.map (V.int .i64)) := by
  rcases l with _ | ⟨a, _ | ⟨b, _ | ⟨c, _ | ⟨e, _ | ⟨f, _ | ⟨g, l⟩⟩⟩⟩⟩⟩ <;> first | rfl | (simp at h5; done)
def refRow (r : Int) : List Int :=
  if 44032 ≤ r ∧ r ≤ 55203 then (if (r - 44032).tmod 28 = 0 then [12, 3, 18, 0, 0] else [13, 3, 18, 0, 0])
  else (look refTbl r).getD [0, 0, 0, 0, 0]
section
variable {prim : FuncId → Option Prim} (d : Nat) (cfg : Cfg) (h : Heap)
set_option maxRecDepth 100000 in
theorem rfind_ok (hp : prim 104 = none) (r : Int) : callM md (K prim (d + 1)) cfg 104 [.int .i32 r] h = some (.agg ((refRow r).map (V.int .i64)), h) := by
  refine call0 (c := Code.seq _ (Code.seq _ (Code.seq (Code.block 0 ch71) _))) rfl hp Tryz.func104 rfl rfl rfl (by simp) ?_
  have hz88 : zeroOf Tryz.prog 144 = some (.agg [.int .i64 0, .int .i64 0, .int .i64 0, .int .i64 0, .int .i64 0]) := by kernel_rfl
  by_cases h1 : 44032 ≤ r
  · by_cases h2 : r ≤ 55203
    · have hw : IntKind.i32.wrap (r - 44032) = r - 44032 := wrap32 (by omega) (by omega)
      have hR : refRow r = if (r - 44032).tmod 28 = 0 then [12, 3, 18, 0, 0] else [13, 3, 18, 0, 0] := by unfold refRow; rw [if_pos ⟨h1, h2⟩]
      by_cases h3 : (r - 44032).tmod 28 = 0
      · rw [if_pos h3] at hR
        simp (disch := omega) [h1, h2, hw, h3, hR]
      · rw [if_neg h3] at hR
        simp (disch := omega) [h1, h2, hw, h3, hR]
    · simp (disch := omega) [h1, h2]
      refine chk_ok ch71_ok rfl rfl rfl rfl rfl rfl (fun l hl fr' hf => ?_) (fun hl fr' g1 g2 g3 => ?_)
      · have hl5 := look_len hl
        have hR : refRow r = l := by unfold refRow; rw [if_neg (by omega), hl]; rfl
        rw [hR]
        have hs2 : slot fr' 2 = some (.ptr 0 0) := hf
        have htk : List.take 5 (l.map (V.int .i64)) = l.map (V.int .i64) := List.take_of_length_le (by simp [hl5])
        simp [hs2, hl5, htk]
        exact mapM_five hl5
      · have hR : refRow r = [0, 0, 0, 0, 0] := by unfold refRow; rw [if_neg (by omega), hl]; rfl
        rw [hR]
        have hsn : ∀ v, slot (setS fr' 861 v) 2 = some (.ptr 0 0) := fun v => by rw [slot, setS, List.getElem?_set_ne (by omega)]; exact g3
        have hse : ∀ v, slot (setS fr' 861 v) 861 = some v := fun v => by rw [slot, setS, List.getElem?_set_self (by omega)]
        simp [hsn, hse]
  · simp (disch := omega) [h1]
    refine chk_ok ch71_ok rfl rfl rfl rfl rfl rfl (fun l hl fr' hf => ?_) (fun hl fr' g1 g2 g3 => ?_)
    · have hl5 := look_len hl
      have hR : refRow r = l := by unfold refRow; rw [if_neg (by omega), hl]; rfl
      rw [hR]
      have hs2 : slot fr' 2 = some (.ptr 0 0) := hf
      have htk : List.take 5 (l.map (V.int .i64)) = l.map (V.int .i64) := List.take_of_length_le (by simp [hl5])
      simp [hs2, hl5, htk]
      exact mapM_five hl5
    · have hR : refRow r = [0, 0, 0, 0, 0] := by unfold refRow; rw [if_neg (by omega), hl]; rfl
      rw [hR]
      have hsn : ∀ v, slot (setS fr' 861 v) 2 = some (.ptr 0 0) := fun v => by rw [slot, setS, List.getElem?_set_ne (by omega)]; exact g3
      have hse : ∀ v, slot (setS fr' 861 v) 861 = some v := fun v => by rw [slot, setS, List.getElem?_set_self (by omega)]
      simp [hsn, hse]
end
end Bi
end Go.Ab
namespace Go.Ab
open Go.Proofs
namespace Bi
def tbk (t : List Row) : List Int := t.flatMap fun x => [x.2.1, x.1 - 1]
def brkB : List Int := 161 :: 1642 :: 8237 :: (tbk tab1 ++ tbk tab2 ++ tbk tab3 ++ tbk tab4 ++ refTbl.map (·.1))
theorem brkB_lt : brkB.all (fun b => decide (b ≤ 10000000)) = true := by kernel_rfl
def Sat (B : List Int) (r s : Int) : Prop := ∀ b ∈ B, r ≤ b ↔ s ≤ b
theorem searchS_sat {r s : Int} : ∀ {t : List Row}, Sat (tbk t) r s → searchS t r = searchS t s
  | [], _ => rfl
  | x :: t, h => by
    have h1 := h x.2.1 (by simp [tbk])
    have h2 := h (x.1 - 1) (by simp [tbk])
    have ih := searchS_sat (r := r) (s := s) (t := t) fun b hb => h b (by simp only [tbk, List.flatMap_cons] at hb ⊢; exact List.mem_append_right _ hb)
    unfold searchS at ih ⊢
    rw [List.find?_cons, List.find?_cons]
    by_cases hr : r ≤ x.2.1
    · have hs := h1.1 hr
      rw [decide_eq_true hr, decide_eq_true hs]
      simp only
      by_cases h3 : x.1 ≤ r
      · rw [if_pos h3, if_pos (by omega)]
      · rw [if_neg h3, if_neg (by omega)]
    · have hs : ¬ s ≤ x.2.1 := fun e => hr (h1.2 e)
      rw [decide_eq_false hr, decide_eq_false hs]
      exact ih
theorem look_sat {r s : Int} : ∀ {t : List (Int × List Int)}, Sat (t.map (·.1)) r s → look t r = look t s
  | [], _ => rfl
  | (m, l) :: t, h => by
    have h1 := h m (by simp)
    have ih := look_sat (r := r) (s := s) (t := t) fun b hb => h b (by simp only [List.map_cons]; exact List.mem_cons_of_mem _ hb)
    unfold look
    by_cases hr : r ≤ m
    · rw [if_pos hr, if_pos (h1.1 hr)]
    · rw [if_neg hr, if_neg (fun e => hr (h1.2 e)), ih]
theorem least : ∀ (L : List Int) (r : Int), (∃ b ∈ L, r ≤ b) → ∃ s ∈ L, r ≤ s ∧ ∀ b ∈ L, r ≤ b → s ≤ b
  | [], _, ⟨_, h, _⟩ => by simp at h
  | a :: L, r, h => by
    by_cases hL : ∃ b ∈ L, r ≤ b
    · obtain ⟨s, h1, h2, h3⟩ := least L r hL
      by_cases ha : r ≤ a ∧ a ≤ s
      · exact ⟨a, List.mem_cons_self .., ha.1, fun b hb hr => by
          rcases List.mem_cons.1 hb with rfl | hb
          · omega
          · have := h3 b hb hr; omega⟩
      · exact ⟨s, List.mem_cons_of_mem _ h1, h2, fun b hb hr => by
          rcases List.mem_cons.1 hb with rfl | hb
          · omega
          · exact h3 b hb hr⟩
    · obtain ⟨b, hb, hr⟩ := h
      rcases List.mem_cons.1 hb with rfl | hb
      · exact ⟨b, List.mem_cons_self .., hr, fun c hc hrc => by
          rcases List.mem_cons.1 hc with rfl | hc
          · omega
          · exact absurd ⟨c, hc, hrc⟩ hL⟩
      · exact absurd ⟨b, hb, hr⟩ hL
theorem rep (r : Int) : ∃ s ∈ (10000001 :: brkB), Sat brkB r s := by
  by_cases h : ∃ b ∈ brkB, r ≤ b
  · obtain ⟨s, h1, h2, h3⟩ := least brkB r h
    exact ⟨s, List.mem_cons_of_mem _ h1, fun b hb => ⟨fun hr => h3 b hb hr, fun hs => by omega⟩⟩
  · refine ⟨10000001, List.mem_cons_self .., fun b hb => ⟨fun hr => absurd ⟨b, hb, hr⟩ h, fun hs => ?_⟩⟩
    have := List.all_eq_true.1 brkB_lt b hb
    simp at this
    omega
section
variable {prim : FuncId → Option Prim} (d : Nat) (cfg : Cfg) (h : Heap)
theorem rrow_len (r : Int) : (refRow r).length = 5 := by
  unfold refRow
  split
  · split <;> rfl
  · cases hl : look refTbl r with
    | none => rfl
    | some l => exact look_len hl
end
end Bi
end Go.Ab
namespace Go.Ab
section
variable (P : Program) (md : FuncId → Nat) (call : Callf) (cfg : Cfg)
def wGp (e : Bool) (r : Option (V × Heap)) [dst : Hid (Option Tmp)] [ops : Hid (Array Oper)] [l : Hid (List Oper)] [fr : Hid (List V)] [h : Hid Heap] [Q : Hid KontO] : Prop :=
  @wIf e ⟨@wS P md call cfg dst fr r ops l Q⟩ ⟨@wO P md call cfg ops l (put fr.val dst.val .no) h.val Q⟩
end
section
variable {P : Program} {md : FuncId → Nat} {call : Callf} {cfg : Cfg}
theorem wGp_congr {e e' : Bool} {r r' : Option (V × Heap)} {dst : Hid (Option Tmp)} {ops : Hid (Array Oper)} {l : Hid (List Oper)} {fr : Hid (List V)} {h : Hid Heap} {Q : Hid KontO} (he : e = e') (hr : e' = true → r = r') :
    @wGp P md call cfg e r dst ops l fr h Q = @wGp P md call cfg e' r' dst ops l fr h Q := by
  subst he
  cases e
  · simp [wGp]
  · rw [hr rfl]
theorem wGp_ctx {e e' : Bool} {p : Prop} {r r' : Option (V × Heap)} {dst : Hid (Option Tmp)} {ops : Hid (Array Oper)} {l : Hid (List Oper)} {fr : Hid (List V)} {h : Hid Heap} {Q : Hid KontO} (he : e = e') (hp : (e' = true) = p) (hr : e' = true → p → r = r') :
    @wGp P md call cfg e r dst ops l fr h Q = @wGp P md call cfg e' r' dst ops l fr h Q := wGp_congr he fun h => hr h (hp ▸ h)
end
end Go.Ab
namespace Go.Ab
noncomputable def gq (p : Prop) (v : V) : V := by
  classical
  exact if p then v else .no
theorem gq_pos {p : Prop} {v : V} (h : p) : gq p v = v := by unfold gq; exact if_pos h
theorem gq_neg {p : Prop} {v : V} (h : ¬ p) : gq p v = .no := by unfold gq; exact if_neg h
theorem gq_true {v : V} : gq True v = v := gq_pos trivial
theorem gq_false {v : V} : gq False v = .no := gq_neg id
def lgI (l : List Int) (i : Nat) : Int := l.getD i 0
theorem atI {l : List Int} {i : Nat} (h : i < l.length) : l[i]? = some (lgI l i) := by
  rw [lgI, List.getD_eq_getElem?_getD, List.getElem?_eq_getElem h]; rfl
section
variable (P : Program) (md : FuncId → Nat) (call : Callf) (cfg : Cfg)
def wGq (p : Prop) (r : Option (V × Heap)) [dst : Hid (Option Tmp)] [ops : Hid (Array Oper)] [l : Hid (List Oper)] [fr : Hid (List V)] [h : Hid Heap] [Q : Hid KontO] : Prop :=
  (p ∧ @wS P md call cfg dst fr r ops l Q) ∨ (¬ p ∧ @wO P md call cfg ops l (put fr.val dst.val .no) h.val Q)
end
section
variable {P : Program} {md : FuncId → Nat} {call : Callf} {cfg : Cfg} {dst : Option Tmp} {op : Op} {ops : Array Oper} {l : List Oper} {fr : List V} {h : Heap} {Q : KontO}
theorem wGq_congr {p p' : Prop} {r r' : Option (V × Heap)} {dst : Hid (Option Tmp)} {ops : Hid (Array Oper)} {l : Hid (List Oper)} {fr : Hid (List V)} {h : Hid Heap} {Q : Hid KontO} (hp : p = p') (hr : p' → r = r') :
    @wGq P md call cfg p r dst ops l fr h Q = @wGq P md call cfg p' r' dst ops l fr h Q := by
  subst hp
  by_cases h : p
  · rw [hr h]
  · simp [wGq, h]
theorem wG_q {b want : Bool} : @wG P md call cfg (some (.bool b)) ⟨want⟩ ⟨dst⟩ ⟨op⟩ ⟨ops⟩ ⟨l⟩ ⟨fr⟩ ⟨h⟩ ⟨Q⟩ ↔ @wGq P md call cfg ((b == want) = true) (opEv P md call cfg fr h op) ⟨dst⟩ ⟨ops⟩ ⟨l⟩ ⟨fr⟩ ⟨h⟩ ⟨Q⟩ := by
  rw [wG_bool]
  cases hb : (b == want) <;> simp [wGq]
theorem wG_q2 {b want : Bool} {c : Prop} : @wG P md call cfg (some (gq c (.bool b))) ⟨want⟩ ⟨dst⟩ ⟨op⟩ ⟨ops⟩ ⟨l⟩ ⟨fr⟩ ⟨h⟩ ⟨Q⟩ ↔ @wGq P md call cfg (c ∧ (b == want) = true) (opEv P md call cfg fr h op) ⟨dst⟩ ⟨ops⟩ ⟨l⟩ ⟨fr⟩ ⟨h⟩ ⟨Q⟩ := by
  by_cases hc : c
  · rw [gq_pos hc, wG_q]
    simp [wGq, hc]
  · rw [gq_neg hc, wG_no]
    simp [wGq, hc]
theorem wGq_some {p : Prop} {v : V} : @wGq P md call cfg p (some (v, h)) ⟨dst⟩ ⟨ops⟩ ⟨l⟩ ⟨fr⟩ ⟨h⟩ ⟨Q⟩ ↔ @wO P md call cfg ⟨ops⟩ ⟨l⟩ (put fr dst (gq p v)) h ⟨Q⟩ := by
  by_cases hp : p
  · rw [gq_pos hp]; simp [wGq, hp]
  · rw [gq_neg hp]; simp [wGq, hp]
theorem wGq_true {r : Option (V × Heap)} : @wGq P md call cfg True r ⟨dst⟩ ⟨ops⟩ ⟨l⟩ ⟨fr⟩ ⟨h⟩ ⟨Q⟩ ↔ @wS P md call cfg ⟨dst⟩ ⟨fr⟩ r ⟨ops⟩ ⟨l⟩ ⟨Q⟩ := by simp [wGq]
theorem wGq_false {r : Option (V × Heap)} : @wGq P md call cfg False r ⟨dst⟩ ⟨ops⟩ ⟨l⟩ ⟨fr⟩ ⟨h⟩ ⟨Q⟩ ↔ @wO P md call cfg ⟨ops⟩ ⟨l⟩ (put fr dst .no) h ⟨Q⟩ := by simp [wGq]
theorem pickV_qA {p : Prop} {x y : Bool} {h : Heap} (hp : p ↔ x = true) : pickV (some (.bool x)) (some (gq p (.bool y))) (some (.bool false)) h = some (.bool (x && y), h) := by
  cases x
  · rfl
  · rw [gq_pos (hp.2 rfl)]; rfl
theorem pickV_qO {p : Prop} {x y : Bool} {h : Heap} (hp : p ↔ x = false) : pickV (some (.bool x)) (some (.bool true)) (some (gq p (.bool y))) h = some (.bool (x || y), h) := by
  cases x
  · rw [gq_pos (hp.2 rfl)]; rfl
  · rfl
end
end Go.Ab
namespace Go.Ab
def i1Of : List V → Int
  | [.int _ n] => n
  | _ => 0
def b1Of : List V → Bool
  | [.bool b] => b
  | _ => false
@[simp] theorem i1Of_mk {k : IntKind} {n : Int} : i1Of [.int k n] = n := rfl
@[simp] theorem b1Of_mk {b : Bool} : b1Of [.bool b] = b := rfl
def IsB (v : V) : Prop := ∃ b, v = .bool b
def IsI (k : IntKind) (v : V) : Prop := ∃ z, v = .int k z
@[simp] theorem isB_mk {b : Bool} : IsB (.bool b) := ⟨b, rfl⟩
@[simp] theorem isI_mk {k : IntKind} {z : Int} : IsI k (.int k z) := ⟨z, rfl⟩
section
variable {P : Program} {md : FuncId → Nat} {prim : FuncId → Option Prim} {n : Nat}
theorem call0e {d : Nat} {f : FuncId} {fn : Func} {c : Code} {k : Nat} {rs : List ResultVar} {args : List V} {Post : V → Prop} (hm : md f = 0) (hp : prim f = none) (hf : P.funcs[f]? = some fn) (hb : fn.body = some c) (hk : fn.ntmps = k)
    (hr : fn.results.toList = rs) (ha : args.all V.noref = true)
    (hw : @wC P md (callN P md prim n d) ⟨0, [], 0⟩ n ⟨c⟩ (args ++ List.replicate (k - args.length) .no) [] ⟨@kFn P ⟨rs⟩ ⟨fun r' h' => ∃ r, frz h' 0 6 r' = some r ∧ Post r⟩⟩) :
    ∃ r, Post r ∧ ∀ cfg h, callM md (callN P md prim n (d + 1)) cfg f args h = some (r, h) := by
  obtain ⟨r', h', h1, r, h2, h3⟩ := callN_of hp hf hb hk hr hw
  exact ⟨r, h3, fun cfg h => by simp only [callM, hm, ha, if_true, h1, h2]⟩
end
end Go.Ab
namespace Go.Ab
open Go.Proofs
namespace Bi
attribute [local congr] wGq_congr
def rcl (j : Nat) (r : Int) : Int := (refRow r).getD j 0
theorem rcl_at {j : Nat} (hj : j < 5) (r : Int) : (refRow r)[j]? = some (rcl j r) := by
  have hl := rrow_len r
  rw [rcl, List.getD_eq_getElem?_getD, List.getElem?_eq_getElem (by omega)]
  rfl
abbrev bl (l : List Bool) : V := .lst (l.map fun b => [.bool b])
section
variable {prim : FuncId → Option Prim} (d : Nat) (cfg : Cfg) (h : Heap)
theorem rline_ok (hp : ∀ f, Np5 f → prim f = none) (r : Int) : callM md (K prim (d + 2)) cfg 56 [.int .i32 r] h = some (.int .i64 (rcl 2 r), h) := by
  refine call0 rfl (hp 56 (by decide)) Tryz.func56 rfl rfl rfl (by simp) ?_
  have hF := fun cfg h r => rfind_ok (prim := prim) d cfg h (hp 104 (by decide)) r
  simp [hF, rcl_at (show 2 < 5 by omega) r]
end
end Bi
end Go.Ab
