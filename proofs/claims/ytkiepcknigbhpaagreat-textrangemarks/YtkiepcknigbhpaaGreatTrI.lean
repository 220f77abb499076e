/- The reference of Attributes. -/
import Derived.Test.YtkiepcknigbhpaaGreatTrH
namespace Go.Ab
open Go.Proofs
namespace Tr

theorem spread_head {z : Int × Int} {r : List (Int × Int)} (hz : 1 ≤ z.1) : (spread (z :: r))[0]? = some z.2 := by
  obtain ⟨n, hn⟩ : ∃ n, z.1.toNat = n + 1 := ⟨z.1.toNat - 1, by omega⟩
  simp [spread, hn, List.replicate_succ]

def Blk (M : List Int) (s e : Nat) (mk : Int) : Prop := (∀ p, s ≤ p → p < e → M[p]? = some mk) ∧ (0 < s → ∃ y, M[s - 1]? = some y ∧ y ≠ mk) ∧ (e < M.length → ∃ y, M[e]? = some y ∧ y ≠ mk)

theorem blk_shift {x : Int × Int} {r : List (Int × Int)} {s e : Nat} {mk : Int} (hx : 1 ≤ x.1) (hnb : bad x = false ∧ r.any bad = false) (hal : alikeL (x :: r) = false) (hlen : (spread (x :: r)).length = x.1.toNat + (spread r).length)
    (hsh : ∀ p, (spread (x :: r))[x.1.toNat + p]? = (spread r)[p]?) (e2 : spread (x :: r) = List.replicate x.1.toNat x.2 ++ spread r) (hse : s < e) (hB : Blk (spread r) s e mk) : Blk (spread (x :: r)) (x.1.toNat + s) (x.1.toNat + e) mk := by
  obtain ⟨h7, h8, h9⟩ := hB
  refine ⟨fun p hp1 hp2 => ?_, fun _ => ?_, fun hl => ?_⟩
  · obtain ⟨q, rfl⟩ := Nat.exists_eq_add_of_le (Nat.le_trans (Nat.le_add_right _ _) hp1)
    rw [hsh]
    exact h7 q (Nat.le_of_add_le_add_left hp1) (Nat.lt_of_add_lt_add_left hp2)
  · rcases Nat.eq_zero_or_pos s with hs | hs
    · subst hs
      have hn : 0 < x.1.toNat := by clear h7 h8 h9; omega
      refine ⟨x.2, ?_, ?_⟩
      · rw [e2, List.getElem?_append_left (by simp; clear h7 h8 h9; omega)]
        have hn1 : x.1.toNat - 1 < x.1.toNat := by clear h7 h8 h9; omega
        simp [List.getElem?_replicate, hn1]
      · have hm := h7 0 (Nat.le_refl _) hse
        rcases r with _ | ⟨z, r⟩
        · simp [spread] at hm
        · have hz : 1 ≤ z.1 := by
            have := hnb.2
            simp only [List.any_cons, Bool.or_eq_false_iff] at this
            have := this.1
            simp only [bad, Bool.or_eq_false_iff, decide_eq_false_iff_not] at this
            clear h7 h8 h9
            omega
          rw [spread_head hz] at hm
          cases hm
          simp only [alikeL, Bool.or_eq_false_iff, decide_eq_false_iff_not] at hal
          exact hal.1
    · obtain ⟨y, hy, hne⟩ := h8 hs
      refine ⟨y, ?_, hne⟩
      rw [Nat.add_sub_assoc hs, hsh]
      exact hy
  · obtain ⟨y, hy, hne⟩ := h9 (by clear h7 h8 h9; omega)
    exact ⟨y, by rw [hsh]; exact hy, hne⟩

theorem block_at : ∀ (r : List (Int × Int)) (f a : Int), r.any bad = false → alikeL r = false → f ≤ a → a < f + sumL r →
    ∃ (s e : Nat) (mk : Int), runAt r f a = (mk, f + s, f + e) ∧ (s : Int) ≤ a - f ∧ a - f < e ∧ e ≤ (spread r).length ∧ Blk (spread r) s e mk
  | [], f, a, _, _, h1, h2 => by simp [sumL] at h2; omega
  | x :: r, f, a, hnb, hal, h1, h2 => by
    simp only [List.any_cons, Bool.or_eq_false_iff] at hnb
    have hb : 1 ≤ x.1 ∧ x.1 ≤ 2000 := by
      have := hnb.1
      simp only [bad, Bool.or_eq_false_iff, decide_eq_false_iff_not] at this
      omega
    have e1 : sumL (x :: r) = x.1 + sumL r := by simp [sumL]
    have e2 : spread (x :: r) = List.replicate x.1.toNat x.2 ++ spread r := by simp [spread]
    have hal' : alikeL r = false := by
      rcases r with _ | ⟨z, r⟩
      · rfl
      · simp only [alikeL, Bool.or_eq_false_iff] at hal; exact hal.2
    have hhead : ∀ y, (spread r)[0]? = some y → y ≠ x.2 := by
      intro y hy
      rcases r with _ | ⟨z, r⟩
      · simp [spread] at hy
      · have hz : 1 ≤ z.1 := by
          have := hnb.2
          simp only [List.any_cons, Bool.or_eq_false_iff] at this
          have := this.1
          simp only [bad, Bool.or_eq_false_iff, decide_eq_false_iff_not] at this
          omega
        rw [spread_head hz] at hy
        cases hy
        simp only [alikeL, Bool.or_eq_false_iff, decide_eq_false_iff_not] at hal
        exact fun e => hal.1 e.symm
    have hrep : ∀ p, p < x.1.toNat → (spread (x :: r))[p]? = some x.2 := by
      intro p hp
      rw [e2, List.getElem?_append_left (by simpa using hp)]
      simp [hp]
    have hsh : ∀ p, (spread (x :: r))[x.1.toNat + p]? = (spread r)[p]? := by
      intro p
      rw [e2, List.getElem?_append_right (by simp)]
      simp
    have hlen : (spread (x :: r)).length = x.1.toNat + (spread r).length := by rw [e2]; simp
    by_cases hin : a < f + x.1
    · refine ⟨0, x.1.toNat, x.2, ?_, by omega, by omega, by omega, fun p _ hp => hrep p hp, by omega, fun hl => ?_⟩
      · rw [runAt, if_pos hin]
        simp
        omega
      · have hl0 : 0 < (spread r).length := by omega
        refine ⟨(spread r)[0], ?_, hhead _ (List.getElem?_eq_getElem hl0)⟩
        have := hsh 0
        rw [Nat.add_zero] at this
        rw [this, List.getElem?_eq_getElem hl0]
    · obtain ⟨s, e, mk, h3, h4, h5, h6, hB⟩ := block_at r (f + x.1) a hnb.2 hal' (by omega) (by omega)
      clear hhead hrep
      have g1 : (x.1.toNat : Int) = x.1 := by omega
      have g2 : ((x.1.toNat + s : Nat) : Int) ≤ a - f := by omega
      have g3 : a - f < ((x.1.toNat + e : Nat) : Int) := by omega
      have g4 : x.1.toNat + e ≤ (spread (x :: r)).length := by omega
      have g5 : s < e := by omega
      refine ⟨x.1.toNat + s, x.1.toNat + e, mk, ?_, g2, g3, g4, ?_⟩
      · rw [runAt, if_neg hin, h3]
        simp
        omega
      · clear h3 h4 h5 h6 g1 g2 g3 g4 hin h1 h2 e1
        exact blk_shift hb.1 hnb hal hlen hsh e2 g5 hB

section
variable {prim : FuncId → Option Prim} (d : Nat) (cfg : Cfg) (h : Heap)

set_option maxHeartbeats 4000000 in
theorem attr'_ok (hp : ∀ f, f ≠ 15 → prim f = none) (t : List Int) (r : List (Int × Int)) (a : Int) (ht : t.length ≤ 2000) (hr : r.length ≤ 2000) :
    callM md (K prim (d + 3)) cfg 23 [.agg [rl t, ml r], .int .i64 a] h = some (atV (attrS t r a), h) := by
  refine call0 rfl (hp 23 (by decide)) Tryz.func23 rfl rfl rfl (by simp) ?_
  have hv := fun h => validate'_ok (prim := prim) d ⟨0, none, 0⟩ h (hp 43 (by decide)) (hp 70 (by decide)) t r ht hr
  simp [hv]
  by_cases hval : valB t r = 0
  · by_cases h1 : a < 0
    · have e : attrS t r a = (0, 0, 0) := by unfold attrS; rw [if_neg (by omega)]
      simp [hval, h1, e, atV]
    · by_cases h2 : (t.length : Int) ≤ a
      · have e : attrS t r a = (0, 0, 0) := by unfold attrS; rw [if_neg (by omega)]
        simp [hval, h1, h2, e, atV]
      · have e : attrS t r a = runAt r 0 a := by unfold attrS; rw [if_pos ⟨hval, by omega, by omega⟩]
        obtain ⟨hnb, hsum, hal, _, _⟩ := valB_zero hval
        obtain ⟨s, e', mk, hra, hs1, hs2, hs3, hb1, hb2, hb3⟩ := block_at r 0 a hnb hal (by omega) (by omega)
        have hMl := spread_len r hnb
        have hsp := fun h => spread_ok (prim := prim) (d + 1) ⟨0, none, 0⟩ h (hp 44 (by decide)) t r hr hnb (by omega)
        rw [e, hra]
        generalize spread r = M at *
        obtain ⟨a', rfl⟩ := Int.eq_ofNat_of_zero_le (show 0 ≤ a by omega)
        have hMa : M[a']? = some mk := hb1 a' (by omega) (by omega)
        simp (disch := omega) [hval, h1, h2, hsp, wrap64]
        refine wC_loop (fun m fr h => ∃ (p : Nat), s ≤ p ∧ p ≤ a' ∧ m = p ∧ h = [some [rl t, ml r], some [.int .i64 0, .int .i64 0], some [.int .i64 p, .int .i64 (a' + 1)]] ∧
            Slots 75 [(1, .int .i64 a'), (2, .ptr 0 0), (5, .ptr 1 0), (6, il M), (7, .ptr 2 0)] fr) (m := a') (by omega) ⟨a', by omega, by omega, rfl, rfl, by simp⟩ ?_
        rintro m fr h ⟨p, hp1, hp2, rfl, rfl, hs⟩
        obtain ⟨j, rfl⟩ := hs.ex
        clear hs
        by_cases hps : s < m
        · have hMp : M[m - 1]? = some mk := hb1 (m - 1) (by omega) (by omega)
          have e1 : ((m : Int) - 1).toNat = m - 1 := by omega
          have hm0 : 0 < m := by omega
          simp
          refine wC_draw 14 (by kernel_rfl) ?_
          simp (disch := omega) [hm0, e1, hMp, hMa, wrap64, -getElem?_pos]
          exact Rnd_of (m' := m - 1) (by omega) ⟨m - 1, by omega, by omega, rfl, by simp; omega, by simp⟩
        · obtain rfl : m = s := by omega
          simp
          refine wC_draw 14 (by kernel_rfl) ?_
          rcases Nat.eq_zero_or_pos m with hm0 | hm0
          all_goals
            first
              | (have hm1 : 0 < m := by assumption
                 obtain ⟨y, hy, hne⟩ := hb2 hm1
                 have e1 : ((m : Int) - 1).toNat = m - 1 := by clear hb1 hb2 hb3; omega
                 clear hb2
                 simp (disch := omega) [hm0, e1, hy, hMa, hne, wrap64, -getElem?_pos])
              | (have hm0' : ¬ 0 < m := by clear hb1 hb2 hb3; omega
                 clear hb2
                 simp (disch := omega) [hm0', -getElem?_pos])
            refine wC_loop (fun k fr h => ∃ (p : Nat), a' < p ∧ p ≤ e' ∧ k = e' - p ∧ h = [some [rl t, ml r], some [.int .i64 0, .int .i64 0], some [.int .i64 m, .int .i64 p]] ∧
                Slots 75 [(1, .int .i64 a'), (2, .ptr 0 0), (5, .ptr 1 0), (6, il M), (7, .ptr 2 0)] fr) (m := e' - (a' + 1)) (by clear hb1 hb3; omega) ⟨a' + 1, by clear hb1 hb3; omega, by clear hb1 hb3; omega, rfl, by simp, by simp⟩ ?_
            rintro k fr h ⟨p, hp1, hp2, rfl, rfl, hs⟩
            obtain ⟨j, rfl⟩ := hs.ex
            clear hs
            by_cases hpe : p < e'
            · have hMp : M[p]? = some mk := hb1 p (by clear hb1 hb3; omega) hpe
              have hpl : p < M.length := by clear hb1 hb3; omega
              clear hb1 hb3
              simp
              refine wC_draw 15 (by kernel_rfl) ?_
              simp (disch := omega) [hpl, hMp, hMa, wrap64, -getElem?_pos]
              exact Rnd_of (m' := e' - (p + 1)) (by omega) ⟨p + 1, by omega, by omega, rfl, by simp, by simp⟩
            · have hpe' : p = e' := by clear hb1 hb3; omega
              subst hpe'
              simp
              refine wC_draw 15 (by kernel_rfl) ?_
              by_cases hpl : p < M.length
              · obtain ⟨y, hy, hne⟩ := hb3 hpl
                clear hb1 hb3
                simp (disch := omega) [hpl, hy, hMa, hne, wrap64, -getElem?_pos]
                refine wC_draw 6 (by kernel_rfl) ?_
                simp (disch := omega) [hMa, atV, -getElem?_pos]
              · clear hb1 hb3
                simp (disch := omega) [hpl, wrap64, -getElem?_pos]
                refine wC_draw 6 (by kernel_rfl) ?_
                simp (disch := omega) [hMa, atV, -getElem?_pos]
  · have e : attrS t r a = (0, 0, 0) := by unfold attrS; rw [if_neg (fun hh => hval hh.1)]
    simp [hval, e, atV]
end
end Tr
end Go.Ab
