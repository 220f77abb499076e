/- The reference's visual order of equal levels 0. -/
import Derived.Test.YtkiepcknigbhpaaGreatTrA
import Derived.Test.YtkiepcknigbhpaaGreatAbW4
namespace Go.Ab
open Go.Proofs
namespace Tr
def upto (n i : Nat) : List Int := (List.range i).map (fun x : Nat => (x : Int)) ++ List.replicate (n - i) 0
theorem upto_len (n i : Nat) (h : i ≤ n) : (upto n i).length = n := by simp [upto]; omega
theorem upto_set (n i : Nat) (h : i < n) : (upto n i).set i (i : Int) = upto n (i + 1) := by
  unfold upto
  rw [List.set_append_right _ _ (by simp)]
  obtain ⟨k, hk⟩ : ∃ k, n - i = k + 1 := ⟨n - i - 1, by omega⟩
  rw [hk, show n - (i + 1) = k by omega]
  simp [List.replicate_succ, List.range_succ]
theorem upto_get (n i : Nat) (h : i < n) : (upto n n)[i]? = some (i : Int) := by
  simp [upto, List.getElem?_append_left, h]

section
variable {prim : FuncId → Option Prim} (d : Nat)
set_option maxHeartbeats 1000000 in
set_option maxRecDepth 10000 in
theorem order0_ok (hp : prim 83 = none) (n : Nat) (hn : n ≤ 100) : K prim (d + 1) ⟨0, none, 0⟩ 83 [il (List.replicate n 0)] [] = some (.sl 0 0 n n 1, [some ((upto n n).map (V.int .i64))]) := by
  have hc := callN_of (md := md) (n := 10000) (d := d) (cfg := ⟨0, none, 0⟩) (h := []) (args := [il (List.replicate n 0)]) (R := fun r h' => r = .sl 0 0 n n 1 ∧ h' = [some ((upto n n).map (V.int .i64))]) hp Tryz.func83 rfl rfl rfl ?_
  · obtain ⟨r, h', h1, rfl, rfl⟩ := hc
    exact h1
  have e0 : il (List.replicate n 0) = .lst (List.replicate n [.int .i64 0]) := by simp
  have hn1 : ¬ (2000 : Int) < n := by omega
  rw [e0]
  simp (disch := omega) [hn1]
  refine wC_loop (fun m fr h => ∃ i : Nat, i ≤ n ∧ m = n - i ∧ h = [some ((upto n i).map (V.int .i64))] ∧ Slots 101 [(0, .lst (List.replicate n [.int .i64 0])), (3, .sl 0 0 n n 1), (4, .int .i64 i)] fr) (m := n) (by omega) ⟨0, by omega, by omega, by simp [zerosFor_int, upto], by simp⟩ ?_
  rintro m fr h ⟨i, hi, rfl, rfl, hs⟩
  obtain ⟨j, rfl⟩ := hs.ex
  clear hs
  have hul := upto_len n i hi
  by_cases hlt : i < n
  · have hx : (List.replicate n [V.int .i64 0])[i]? = some [.int .i64 0] := by simp [hlt]
    have hle : i + 1 ≤ (upto n i).length := by omega
    simp (disch := omega) [hlt, hx, hle, wrap64, upto_set, -getElem?_pos]
    exact Rnd_of (m' := n - (i + 1)) (by omega) ⟨i + 1, by omega, rfl, rfl, by simp⟩
  · obtain rfl : i = n := by omega
    simp
    refine wC_loop (fun m fr h => ∃ lv : Nat, lv ≤ 127 ∧ m = lv ∧ h = [some ((upto i i).map (V.int .i64))] ∧ Slots 101 [(0, .lst (List.replicate i [.int .i64 0])), (3, .sl 0 0 i i 1), (5, .int .i64 lv)] fr) (m := 127) (by omega) ⟨127, by omega, rfl, rfl, by simp⟩ ?_
    rintro m fr h ⟨lv, hlv, rfl, rfl, hs⟩
    obtain ⟨j, rfl⟩ := hs.ex
    clear hs
    by_cases hl0 : 0 < m
    · simp [hl0]
      refine wC_loop (fun m' fr h => ∃ q : Nat, q ≤ i ∧ m' = i - q ∧ h = [some ((upto i i).map (V.int .i64))] ∧ Slots 101 [(0, .lst (List.replicate i [.int .i64 0])), (3, .sl 0 0 i i 1), (5, .int .i64 m), (6, .int .i64 q)] fr) (m := i) (by omega) ⟨0, by omega, by omega, rfl, by simp⟩ ?_
      rintro m' fr h ⟨q, hq, rfl, rfl, hs⟩
      obtain ⟨j, rfl⟩ := hs.ex
      clear hs
      by_cases hqn : q < i
      · have hx := upto_get i q hqn
        have hy : (List.replicate i [V.int .i64 0])[q]? = some [.int .i64 0] := by simp [hqn]
        simp (disch := omega) [hqn, hx, hy, hl0, wrap64, -getElem?_pos]
        exact Rnd_of (m' := i - (q + 1)) (by omega) ⟨q + 1, by omega, rfl, rfl, by simp⟩
      · simp (disch := omega) [hqn, wrap64]
        exact Rnd_of (m' := m - 1) (by omega) ⟨m - 1, by omega, rfl, rfl, by simp; omega⟩
    · simp [hl0]
end
end Tr
end Go.Ab
