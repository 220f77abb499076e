/- The generator's texts. -/
import Derived.Test.YtkiepcknigbhpaaGreatTrC
import Derived.Test.YtkiepcknigbhpaaGreatAbW5
namespace Go.Ab
open Go.Proofs
namespace Tr
def alph : List Int := [97, 98, 102, 105, 88, 49, 50, 32, 32, 46, 44, 45, 39, 34, 40, 41, 91, 93, 60, 33, 58, 95, 37, 43, 47, 9, 10, 13, 0x0B, 0x85, 0xA0, 0xAD, 0xB7, 0x301, 0x5D0, 0x5D1, 0x5BE, 0x5B0, 0x600, 0x627, 0x628, 0x633, 0x640, 0x64B, 0x661, 0x66A, 0x60C, 0x61C, 0x6F1, 0x903, 0x905, 0x93C, 0x1100, 0x1161, 0x11A8, 0xAC00, 0xAC01, 0x2009, 0x200B, 0x200C, 0x200D, 0x200E, 0x200F, 0x2019, 0x2028, 0x2029, 0x202A, 0x202B, 0x202C, 0x202D, 0x202E, 0x2060, 0x2066, 0x2067, 0x2068, 0x2069, 0x2600, 0x3000, 0x3001, 0x300C, 0x300D, 0x30A2, 0x4E00, 0xFE0F, 0x1F1E6, 0x1F1E7, 0x1F3FB, 0x1F468, 0x10FFFF]

section
variable {prim : FuncId → Option Prim} (d : Nat) (cfg : Cfg) (h : Heap)

@[simp] theorem cv3_21 {h : Heap} {k : IntKind} {n : Int} : convV Tryz.prog h 3 21 (.int k n) = some (.int .i32 (IntKind.i32.wrap n), h) := by kernel_rfl

theorem chance_ok (hp : ∀ f, f ≠ 15 → prim f = none) (L : List Int) (k : Nat) (hL : L.length ≤ 4000) (hk : k ≤ L.length) (n : Int) (hn : 1 ≤ n) (hn2 : n ≤ 4000000000) (b : Nat) (hb : blockOf h b = some [il L, .int .i64 k]) (hw : cfg.wr b = true) :
    ∃ (v : Bool) (k' : Nat), k' ≤ L.length ∧ callM md (K prim (d + 2)) cfg 113 [.ptr b 0, .int .i64 n] h = some (.bool v, h.set b (some [il L, .int .i64 k'])) := by
  obtain ⟨v, k', hv, hk', hN⟩ := N_ok (prim := prim) d ⟨cfg.lo, cfg.ex, h.length⟩ h (hp 10 (by decide)) L k hL hk n hn hn2 b hb hw
  refine ⟨decide ((v : Int) = n - 1), k', hk', call1 rfl (hp 113 (by decide)) Tryz.func113 rfl rfl rfl ?_⟩
  simp (disch := omega) [hN, wrap64]
  exact List.take_of_length_le (by simp)

theorem raw_ok (hp : ∀ f, f ≠ 15 → prim f = none) (L : List Int) (k : Nat) (hL : L.length ≤ 4000) (hk : k ≤ L.length) (b : Nat) (hb : blockOf h b = some [il L, .int .i64 k]) (hw : cfg.wr b = true) :
    ∃ (v : Int) (k' : Nat), k' ≤ L.length ∧ callM md (K prim (d + 1)) cfg 114 [.ptr b 0] h = some (.int .i64 v, h.set b (some [il L, .int .i64 k'])) := by
  have hw' : (Cfg.wr ⟨cfg.lo, cfg.ex, h.length⟩ b) = true := hw
  have hbl := blockOf_lt hb
  by_cases hlt : k < L.length
  · obtain ⟨x, hx⟩ : ∃ x, L[k]? = some x := ⟨L[k], List.getElem?_eq_getElem hlt⟩
    refine ⟨x, k + 1, by omega, call1 rfl (hp 114 (by decide)) Tryz.func114 rfl rfl rfl ?_⟩
    have hk1 : ¬ L.length ≤ k := by omega
    simp
    refine wC_draw 9 (by kernel_rfl) ?_
    simp (disch := omega) [hb, hk1, hw', wrap64]
    refine wC_draw 9 (by kernel_rfl) ?_
    have e1 : ((k : Int) + 1 - 1).toNat = k := by omega
    simp (disch := omega) [hbl, hx, wrap64, -getElem?_pos]
    exact List.take_of_length_le (by simp)
  · refine ⟨0, k, hk, ?_⟩
    rw [set_same hb]
    refine call1 rfl (hp 114 (by decide)) Tryz.func114 rfl rfl rfl ?_
    have hk1 : L.length ≤ k := by omega
    simp
    refine wC_draw 9 (by kernel_rfl) ?_
    simp [hb, hk1]

set_option maxRecDepth 100000 in
theorem alphabet_ok (hp : prim 72 = none) : ∃ A : List Int, A.length = 89 ∧ ∀ cfg h, callM md (K prim (d + 1)) cfg 72 [] h = some (rl A, h) := by
  refine ⟨alph, rfl, fun cfg h => ?_⟩
  refine call0 rfl hp Tryz.func72 rfl rfl rfl (by simp) ?_
  simp
  exact frz_ints (d := 4) (k := .i32) (l := alph) rfl (Nat.zero_le _) rfl

theorem rune_ok (hp : ∀ f, f ≠ 15 → prim f = none) (L : List Int) (k : Nat) (hL : L.length ≤ 4000) (hk : k ≤ L.length) (b : Nat) (hb : blockOf h b = some [il L, .int .i64 k]) (hw : cfg.wr b = true) :
    ∃ (v : Int) (k' : Nat), k' ≤ L.length ∧ callM md (K prim (d + 3)) cfg 73 [.ptr b 0] h = some (.int .i32 v, h.set b (some [il L, .int .i64 k'])) := by
  have hbl := blockOf_lt hb
  obtain ⟨A, hA, hal⟩ := alphabet_ok (prim := prim) (d + 1) (hp 72 (by decide))
  obtain ⟨c, k1, hk1, hC⟩ := chance_ok (prim := prim) d ⟨cfg.lo, cfg.ex, h.length⟩ h hp L k hL hk 40 (by omega) (by omega) b hb hw
  have hb1 : blockOf (h.set b (some [il L, .int .i64 k1])) b = some [il L, .int .i64 k1] := by simp [hbl]
  cases c
  · obtain ⟨v, k2, hv, hk2, hN⟩ := N_ok (prim := prim) (d + 1) ⟨cfg.lo, cfg.ex, h.length⟩ (h.set b (some [il L, .int .i64 k1])) (hp 10 (by decide)) L k1 hL hk1 89 (by omega) (by omega) b hb1 hw
    obtain ⟨x, hx⟩ : ∃ x, A[v]? = some x := ⟨A[v], List.getElem?_eq_getElem (by omega)⟩
    refine ⟨x, k2, hk2, call1 rfl (hp 73 (by decide)) Tryz.func73 rfl rfl rfl ?_⟩
    simp at hN
    simp (disch := omega) [hal, hC, hA, hN, hx, -getElem?_pos]
    exact List.take_of_length_le (by simp)
  · obtain ⟨v, k2, hk2, hR⟩ := raw_ok (prim := prim) (d + 1) ⟨cfg.lo, cfg.ex, h.length⟩ (h.set b (some [il L, .int .i64 k1])) hp L k1 hL hk1 b hb1 hw
    refine ⟨IntKind.i32.wrap v, k2, hk2, call1 rfl (hp 73 (by decide)) Tryz.func73 rfl rfl rfl ?_⟩
    simp at hR
    simp (disch := omega) [hal, hC, hR]
    exact List.take_of_length_le (by simp)
end
end Tr
end Go.Ab
