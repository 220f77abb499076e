/- BinarySearch; what is removed: the program. -/
import Derived.Test.YtcedojbifnangaaBiN
import Derived.Test.YtcedojbifnangaaBiL
namespace Go.Ab
open Go.Proofs
namespace Bi
@[simp] theorem cv3_32 {h : Heap} {k : IntKind} {n : Int} : convV Try.prog h 3 32 (.int k n) = some (.int .u64 (IntKind.u64.wrap n), h) := by kernel_rfl
@[simp] theorem cv32_3 {h : Heap} {k : IntKind} {n : Int} : convV Try.prog h 32 3 (.int k n) = some (.int .i64 (IntKind.i64.wrap n), h) := by kernel_rfl
theorem wrapu64 {n : Int} (h1 : 0 ≤ n) (h2 : n ≤ 9223372036854775807) : IntKind.u64.wrap n = n := by
  rw [IntKind.wrap_u64]
  omega
def Asc (l : List Int) : Prop := ∀ (i j : Nat) (x y : Int), i < j → l[i]? = some x → l[j]? = some y → x < y
section
variable {prim : FuncId → Option Prim} (d : Nat) (cfg : Cfg) (h : Heap)
theorem nan92_ok (hp : prim 92 = none) (x : Int) : callM md (K prim (d + 1)) cfg 92 [.int .i64 x] h = some (.bool false, h) := by
  refine call0 rfl hp Try.func92 rfl rfl rfl (by simp) ?_
  simp
theorem nan86_ok (hp : prim 86 = none) (x : Int) : callM md (K prim (d + 1)) cfg 86 [.int .i64 x] h = some (.bool false, h) := by
  refine call0 rfl hp Try.func86 rfl rfl rfl (by simp) ?_
  simp
theorem less_ok (hp : prim 85 = none) (hp2 : prim 92 = none) (x y : Int) : callM md (K prim (d + 2)) cfg 85 [.int .i64 x, .int .i64 y] h = some (.bool (decide (x < y)), h) := by
  refine call0 rfl hp Try.func85 rfl rfl rfl (by simp) ?_
  have hN := fun cfg h x => nan92_ok (prim := prim) d cfg h hp2 x
  simp [hN]
set_option maxHeartbeats 2000000 in
theorem bsearch_ok (hp : ∀ f, f ≠ 17 ∧ f ≠ 82 → prim f = none) (l : List Int) (hl : l.length ≤ 2000) (ha : Asc l) (k : Nat) (x : Int) (hk : l[k]? = some x) {args : List V} (hargs : args.mapM (frzA h) = some [il l, .int .i64 x]) :
    callM md (K prim (d + 3)) cfg 80 args h = some (.tup [.int .i64 k, .bool true], h) := by
  refine call3 rfl (hp 80 (by decide)) Try.func80 rfl rfl rfl (args' := [il l, .int .i64 x]) hargs ?_
  have hL := fun cfg h x y => less_ok (prim := prim) d cfg h (hp 85 (by decide)) (hp 92 (by decide)) x y
  have hkl := (List.getElem?_eq_some_iff.1 hk).1
  simp
  refine wC_loop (fun m fr H => ∃ lo hi : Nat, lo ≤ k ∧ k ≤ hi ∧ hi ≤ l.length ∧ m = hi - lo ∧ H = [] ∧ Slots 54 [(0, il l), (1, .int .i64 x), (6, .int .i64 l.length), (7, .int .i64 lo), (8, .int .i64 hi)] fr) (m := l.length) (by omega) ⟨0, l.length, by omega, by omega, by omega, by omega, rfl, by simp⟩ ?_
  rintro m fr H ⟨lo, hi, h1, h2, h3, rfl, rfl, hs⟩
  obtain ⟨j, rfl⟩ := hs.ex
  clear hs
  by_cases hlt : lo < hi
  · obtain ⟨y, hy⟩ : ∃ y, l[(lo + hi) / 2]? = some y := ⟨_, List.getElem?_eq_getElem (by omega)⟩
    have hf : ((lo : Int) + hi).fdiv (2 ^ (min 1 IntKind.u64.bits)) = ((lo + hi) / 2 : Nat) := by
      rw [show (2 : Int) ^ (min 1 IntKind.u64.bits) = 2 from rfl, Int.fdiv_eq_ediv_of_nonneg _ (by omega)]
      omega
    have hm2 : (((lo : Int) + hi) / 2).toNat = (lo + hi) / 2 := by omega
    simp (disch := omega) [hlt, wrap64, wrapu64, hf, hm2, hy, hL, -getElem?_pos]
    by_cases hc : y < x
    · simp (disch := omega) [hc, wrap64, -getElem?_pos]
      refine Rnd_of (m' := hi - ((lo + hi) / 2 + 1)) (by omega) ⟨(lo + hi) / 2 + 1, hi, ?_, h2, h3, rfl, rfl, by simp (disch := omega)⟩
      rcases Nat.lt_or_ge k ((lo + hi) / 2 + 1) with hlt2 | hge
      · exfalso
        rcases Nat.lt_or_ge k ((lo + hi) / 2) with h4 | h4
        · have := ha _ _ _ _ h4 hk hy; omega
        · obtain rfl : k = (lo + hi) / 2 := by omega
          rw [hk] at hy; cases hy; omega
      · exact hge
    · simp (disch := omega) [hc, -getElem?_pos]
      refine Rnd_of (m' := (lo + hi) / 2 - lo) (by omega) ⟨lo, (lo + hi) / 2, h1, ?_, by omega, rfl, rfl, by simp (disch := omega)⟩
      rcases Nat.lt_or_ge ((lo + hi) / 2) k with hlt2 | hge
      · have := ha _ _ _ _ hlt2 hy hk; omega
      · exact hge
  · have : lo = k := by omega
    subst this
    simp (disch := omega) [hlt, hk, hkl, own, -getElem?_pos]
/-- Is rune i removed? -/
theorem removed_ok (hp : prim 36 = none) (t o M : List Int) (n : Nat) (e : Int) (y0 y1 y2 : Option (List V)) (T : Heap) (i : Nat) (x : Int) (hx : o[i]? = some x) :
    callM md (K prim (d + 1)) cfg 36 [.ptr 3 0, .int .i64 i] (y0 :: y1 :: y2 :: some (pcs t o M n e) :: T) = some (.bool (gone x), y0 :: y1 :: y2 :: some (pcs t o M n e) :: T) := by
  refine call0r rfl hp Try.func36 rfl rfl rfl (by simp) ?_
  unfold gone
  by_cases h16 : x = 16
  · simp (disch := omega) [hx, h16, -getElem?_pos]
  · by_cases h14 : x = 14
    · simp (disch := omega) [hx, h14, -getElem?_pos]
    · by_cases h17 : x = 17
      · simp (disch := omega) [hx, h17, -getElem?_pos]
      · by_cases h15 : x = 15
        · simp (disch := omega) [hx, h15, -getElem?_pos]
        · by_cases h18 : x = 18
          · simp (disch := omega) [hx, h18, -getElem?_pos]
          · by_cases h9 : x = 9
            · simp (disch := omega) [hx, h9, -getElem?_pos]
            · simp (disch := omega) [hx, h16, h14, h17, h15, h18, h9, -getElem?_pos]
end
end Bi
end Go.Ab
