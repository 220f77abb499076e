/- The law of the visual order, up to awake. -/
import Derived.Test.YtcedojbifnangaaBiD
namespace Go.Ab
open Go.Proofs
namespace Bi
section
variable {prim : FuncId → Option Prim} (d : Nat)
set_option maxHeartbeats 2000000 in
theorem orders_ok (hp : ∀ f, f ≠ 17 → prim f = none) (hA : ∀ cfg h, callM md (K prim (d + 2)) cfg 17 [] h = some (.bool true, h)) (l : List Int) :
    ∃ v h', callN Try.prog md prim 10000 (d + 3) ⟨0, none, 0⟩ 8 [il l] [] = some (v, h') ∧ v = .bool true := by
  refine callN_of (R := fun r _ => r = .bool true) (hp 8 (by decide)) Try.func8 rfl rfl rfl ?_
  simp
  by_cases hn : 100 < l.length
  · have hn' : (100 : Int) < l.length := by omega
    simp [hn']
  have hn' : ¬ (100 : Int) < l.length := by omega
  simp [hn']
  have fin : ∀ (H : Heap) (v w : V) (sm : List Int), sm.length ≤ 100 → frzA H v = some (il l) → frzA H w = some (il sm) →
      callM md (K prim (d + 2)) ⟨0, none, 0⟩ 19 [v] H = some (il (ordS l), H) ∧ callM md (K prim (d + 2)) ⟨0, none, 0⟩ 22 [il l] H = some (il (ordS l), H) ∧
      callM md (K prim (d + 2)) ⟨0, none, 0⟩ 14 [il (ordS l), il (ordS l)] H = some (.bool true, H) ∧
      callM md (K prim (d + 2)) ⟨0, none, 0⟩ 23 [v] H = some (il (runsS l), H) ∧ callM md (K prim (d + 2)) ⟨0, none, 0⟩ 24 [il l] H = some (il (runsS l), H) ∧
      callM md (K prim (d + 2)) ⟨0, none, 0⟩ 14 [il (runsS l), il (runsS l)] H = some (.bool true, H) ∧
      callM md (K prim (d + 2)) ⟨0, none, 0⟩ 19 [w] H = some (il (ordS sm), H) ∧ callM md (K prim (d + 2)) ⟨0, none, 0⟩ 22 [w] H = some (il (ordS sm), H) ∧
      callM md (K prim (d + 2)) ⟨0, none, 0⟩ 14 [il (ordS sm), il (ordS sm)] H = some (.bool true, H) ∧
      callM md (K prim (d + 2)) ⟨0, none, 0⟩ 14 [v, il l] H = some (.bool true, H) := by
    intro H v w sm hsm hv hw
    have ol : ∀ l : List Int, l.length ≤ 100 → (ordS l).length ≤ 100 := by
      intro l hl
      unfold ordS
      split
      · simp
      · rw [(ord_perm l 127 (idx l.length)).length_eq, idx_len]; exact hl
    have rlen := runsU_len l l.length
    refine ⟨order_ok (prim := prim) d _ H (hp 19 (by decide)) (hp 49 (by decide)) l (by omega) (by simp [hv]), order'_ok (prim := prim) (d + 1) _ H (hp 22 (by decide)) l (by omega) (by simp), ?_, runs_ok (prim := prim) (d + 1) _ H (hp 23 (by decide)) l (by omega) (by simp [hv]),
      runs'_ok (prim := prim) (d + 1) _ H (hp 24 (by decide)) l (by omega) (by simp), ?_, order_ok (prim := prim) d _ H (hp 19 (by decide)) (hp 49 (by decide)) sm (by omega) (by simp [hw]), order'_ok (prim := prim) (d + 1) _ H (hp 22 (by decide)) sm (by omega) (by simp [hw]), ?_, ?_⟩
    · have := equal_ok (prim := prim) (d + 1) ⟨0, none, 0⟩ H (hp 14 (by decide)) (ordS l) (ordS l) (by have := ol l (by omega); omega) (args := [il (ordS l), il (ordS l)]) (by simp)
      simpa using this
    · have := equal_ok (prim := prim) (d + 1) ⟨0, none, 0⟩ H (hp 14 (by decide)) (runsS l) (runsS l) (by unfold runsS; omega) (args := [il (runsS l), il (runsS l)]) (by simp)
      simpa using this
    · have := equal_ok (prim := prim) (d + 1) ⟨0, none, 0⟩ H (hp 14 (by decide)) (ordS sm) (ordS sm) (by have := ol sm hsm; omega) (args := [il (ordS sm), il (ordS sm)]) (by simp)
      simpa using this
    · have := equal_ok (prim := prim) (d + 1) ⟨0, none, 0⟩ H (hp 14 (by decide)) l l (by omega) (args := [v, il l]) (by simp [hv])
      simpa using this
  by_cases hl0 : l = []
  · subst hl0
    simp (disch := omega) [zerosFor_int]
    refine wC_loop (fun m fr H => m = 0 ∧ H = [some []] ∧ Slots 55 [(0, il []), (3, .nils), (4, .sl 0 0 0 0 1), (5, .int .i64 0)] fr) (m := 0) (by omega) ⟨rfl, rfl, by simp⟩ ?_
    rintro m fr H ⟨rfl, rfl, hs⟩
    obtain ⟨j, rfl⟩ := hs.ex
    clear hs
    obtain ⟨f1, f2, f3, f4, f5, f6, f7, f8, f9, f10⟩ := fin [some []] .nils (.sl 0 0 0 0 1) [] (by simp) rfl (frzA_part (k := .i64) (l := []) rfl (by simp))
    simp [f1, f2, f3, f4, f5, f6, f7, f8, f9, f10, hA]
  · have hl1 : 0 < l.length := List.length_pos_iff.2 hl0
    rw [appD_nils (by omega) (by omega) hl1, wS_some]
    simp (disch := omega) [zerosFor_int]
    refine wC_loop (fun m fr H => ∃ (i : Nat) (sm : List Int), i ≤ l.length ∧ m = l.length - i ∧ sm.length = l.length ∧ H = [some (l.map (V.int .i64)), some (sm.map (V.int .i64))] ∧
      Slots 55 [(0, il l), (3, .sl 0 0 l.length l.length 1), (4, .sl 1 0 l.length l.length 1), (5, .int .i64 i)] fr) (m := l.length) (by omega) ⟨0, List.replicate l.length 0, by omega, by omega, by simp, by simp, by simp⟩ ?_
    rintro m fr H ⟨i, sm, hi, rfl, hsm, rfl, hs⟩
    obtain ⟨j, rfl⟩ := hs.ex
    clear hs
    by_cases hlt : i < l.length
    · obtain ⟨x, hx⟩ : ∃ x, l[i]? = some x := ⟨l[i], List.getElem?_eq_getElem (by omega)⟩
      have hle : i + 1 ≤ sm.length := by omega
      simp (disch := omega) [hlt, hx, hle, intBin, -getElem?_pos, -List.map_set]
      refine Rnd_of (m' := l.length - (i + 1)) (by omega) ⟨i + 1, _, by omega, rfl, ?_, rfl, by simp (disch := omega) [wrap64]⟩
      simpa using hsm
    · obtain ⟨f1, f2, f3, f4, f5, f6, f7, f8, f9, f10⟩ := fin [some (l.map (V.int .i64)), some (sm.map (V.int .i64))] (.sl 0 0 l.length l.length 1) (.sl 1 0 l.length l.length 1) sm (by omega) (by rw [frzA_part (k := .i64) (l := l) (by simp) (by simp)]; simp) (by rw [frzA_part (k := .i64) (l := sm) (by simp) (by omega)]; simp [← hsm])
      simp [hlt, f1, f2, f3, f4, f5, f6, f7, f8, f9, f10, hA]
end
end Bi
end Go.Ab
