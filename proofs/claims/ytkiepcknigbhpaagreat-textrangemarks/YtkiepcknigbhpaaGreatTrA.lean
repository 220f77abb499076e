/- The seat's functions, one contract each: looking for a text. -/
import Derived.Test.YtkiepcknigbhpaaGreatTrFacts
namespace Go.Ab
open Go.Proofs
namespace Tr
def md : FuncId → Nat
  | 8 => 2 | 37 => 2 | 34 => 2 | 36 => 2 | 123 => 2 | 52 => 2
  | 9 => 1 | 10 => 1 | 11 => 1 | 20 => 1 | 24 => 1 | 25 => 1 | 26 => 1 | 45 => 1 | 47 => 1 | 48 => 1 | 71 => 1 | 73 => 1 | 113 => 1 | 114 => 1
  | 33 => 1 | 100 => 1 | 63 => 1
  | 126 => 1 | 127 => 1 | 128 => 1 | 130 => 1 | 158 => 1
  | 18 => 3 | 19 => 3 | 21 => 3 | 40 => 3 | 27 => 3 | 46 => 3
  | _ => 0
noncomputable abbrev K (prim : FuncId → Option Prim) (d : Nat) : Callf := callN Tryz.prog md prim 10000 d
abbrev il (l : List Int) : V := .lst (l.map fun n => [.int .i64 n])
abbrev rl (l : List Int) : V := .lst (l.map fun n => [.int .i32 n])
@[simp] theorem frzA_lst {h : Heap} {xs : List (List V)} : frzA h (.lst xs) = some (.lst xs) := rfl
@[simp] theorem frzA_int {h : Heap} {k : IntKind} {i : Int} : frzA h (.int k i) = some (.int k i) := rfl
@[simp] theorem frzA_bool {h : Heap} {b : Bool} : frzA h (.bool b) = some (.bool b) := rfl
@[simp] theorem frzA_agg {h : Heap} {cs : List V} : frzA h (.agg cs) = (cs.mapM (frz h 0 5)).map .agg := by
  unfold frzA; rw [frz_agg]; cases cs.mapM (frz h 0 5) <;> rfl
@[simp] theorem frzA_nils {h : Heap} : frzA h .nils = some (.lst []) := rfl

section
variable {prim : FuncId → Option Prim} (d : Nat) (cfg : Cfg) (h : Heap)

theorem valid_ok (hp : prim 28 = none) (a b n : Int) : callM md (K prim (d + 1)) cfg 28 [.agg [.int .i64 a, .int .i64 b], .int .i64 n] h = some (.bool (decide (0 ≤ a) && decide (a ≤ b) && decide (b ≤ n)), h) := by
  refine call0 rfl hp Tryz.func28 rfl rfl rfl (by simp) ?_
  simp
  by_cases h1 : 0 ≤ a <;> by_cases h2 : a ≤ b <;> simp [h1, h2]

theorem valid'_ok (hp : prim 41 = none) (a b n : Int) : callM md (K prim (d + 1)) cfg 41 [.agg [.int .i64 a, .int .i64 b], .int .i64 n] h = some (.bool (decide (0 ≤ a) && decide (a ≤ b) && decide (b ≤ n)), h) := by
  refine call0 rfl hp Tryz.func41 rfl rfl rfl (by simp) ?_
  simp
  by_cases h1 : 0 ≤ a <;> by_cases h2 : a ≤ b <;> simp [h1, h2]

theorem equal_ok (hp : prim 40 = none) (a b : List Int) (ha : a.length < 5000) : callM md (K prim (d + 1)) cfg 40 [rl a, rl b] h = some (.bool (decide (a = b)), h) := by
  refine call3 rfl hp Tryz.func40 rfl rfl rfl (args' := [rl a, rl b]) (by simp) ?_
  simp
  by_cases hl : a.length = b.length
  · simp [hl]
    refine wC_loop (fun m fr h => ∃ i : Nat, i ≤ a.length ∧ m = a.length - i ∧ a.take i = b.take i ∧ h = [] ∧ Slots 26 [(0, rl a), (1, rl b), (12, .int .i64 a.length), (13, .int .i64 i)] fr) (m := a.length) (by omega) ⟨0, by omega, by omega, rfl, rfl, by simp [hl]⟩ ?_
    rintro m fr h ⟨i, hi, rfl, htk, rfl, hs⟩
    obtain ⟨j, rfl⟩ := hs.ex
    simp
    by_cases hlt : i < a.length
    · obtain ⟨x, hx⟩ : ∃ x, a[i]? = some x := ⟨a[i], List.getElem?_eq_getElem hlt⟩
      obtain ⟨y, hy⟩ : ∃ y, b[i]? = some y := ⟨b[i], List.getElem?_eq_getElem (by omega)⟩
      simp [hlt]
      refine wC_draw 8 (by kernel_rfl) ?_
      simp [hx, hy]
      by_cases hxy : x = y
      · simp (disch := first | omega | (simp; done) | (simp; omega)) [hxy, wrap64]
        refine Rnd_of (m' := a.length - (i + 1)) (by omega) ⟨i + 1, by omega, rfl, ?_, rfl, by simp⟩
        rw [List.take_add_one, List.take_add_one, htk, hx, hy, hxy]
      · simp [hxy, own]
        rintro rfl
        simp [hx] at hy
        exact hxy hy
    · simp [hlt, own]
      rw [List.take_of_length_le (by omega), List.take_of_length_le (by omega)] at htk
      exact htk
  · simp [hl, own]
    rintro rfl
    exact hl rfl

theorem same_ok (hp : prim 21 = none) (a b : List Int) (ha : a.length < 5000) : callM md (K prim (d + 1)) cfg 21 [rl a, rl b] h = some (.bool (decide (a = b)), h) := by
  refine call3 rfl hp Tryz.func21 rfl rfl rfl (args' := [rl a, rl b]) (by simp) ?_
  simp
  by_cases hl : a.length = b.length
  · simp [hl]
    refine wC_loop (fun m fr h => ∃ i : Nat, i ≤ a.length ∧ m = a.length - i ∧ a.take i = b.take i ∧ h = [] ∧ Slots 26 [(0, rl a), (1, rl b), (5, .int .i64 i)] fr) (m := a.length) (by omega) ⟨0, by omega, by omega, rfl, rfl, by simp⟩ ?_
    rintro m fr h ⟨i, hi, rfl, htk, rfl, hs⟩
    obtain ⟨j, rfl⟩ := hs.ex
    simp
    by_cases hlt : i < a.length
    · obtain ⟨x, hx⟩ : ∃ x, a[i]? = some x := ⟨a[i], List.getElem?_eq_getElem hlt⟩
      obtain ⟨y, hy⟩ : ∃ y, b[i]? = some y := ⟨b[i], List.getElem?_eq_getElem (by omega)⟩
      simp [hlt]
      refine wC_draw 8 (by kernel_rfl) ?_
      simp [hx, hy]
      by_cases hxy : x = y
      · simp (disch := first | omega | (simp; done) | (simp; omega)) [hxy, wrap64]
        refine Rnd_of (m' := a.length - (i + 1)) (by omega) ⟨i + 1, by omega, rfl, ?_, rfl, by simp⟩
        rw [List.take_add_one, List.take_add_one, htk, hx, hy, hxy]
      · simp [hxy, own]
        rintro rfl
        simp [hx] at hy
        exact hxy hy
    · simp [hlt, own]
      rw [List.take_of_length_le (by omega), List.take_of_length_le (by omega)] at htk
      exact htk
  · simp [hl, own]
    rintro rfl
    exact hl rfl
end
end Tr
end Go.Ab
