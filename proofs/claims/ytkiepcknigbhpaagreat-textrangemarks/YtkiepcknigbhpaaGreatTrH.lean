/- Attributes. -/
import Derived.Test.YtkiepcknigbhpaaGreatTrG
namespace Go.Ab
open Go.Proofs
namespace Tr
def runAt : List (Int × Int) → Int → Int → Int × Int × Int
  | [], _, _ => (0, 0, 0)
  | x :: r, f, a => if a < f + x.1 then (x.2, f, f + x.1) else runAt r (f + x.1) a
def attrS (t : List Int) (r : List (Int × Int)) (a : Int) : Int × Int × Int := if valB t r = 0 ∧ 0 ≤ a ∧ a < t.length then runAt r 0 a else (0, 0, 0)
def atV (x : Int × Int × Int) : V := .tup [.int .i64 x.1, .agg [.int .i64 x.2.1, .int .i64 x.2.2]]

theorem valB_zero {t : List Int} {r : List (Int × Int)} (h : valB t r = 0) : r.any bad = false ∧ sumL r = t.length ∧ alikeL r = false ∧ t.length ≤ 2000 ∧ t.all scal = true := by
  unfold valB at h
  split at h
  · simp at h
  · split at h
    · simp at h
    · split at h
      · simp at h
      · split at h
        · simp at h
        · split at h
          · simp at h
          · rename_i h1 h2 h3 h4 h5
            refine ⟨by simpa using h3, by simpa using h4, by simpa using h5, by omega, by simpa using h2⟩
theorem runAt_drop (r : List (Int × Int)) (a : Int) : ∀ (i : Nat) (f : Int), i ≤ r.length → (∀ k, k < i → f + sumL (r.take (k + 1)) ≤ a) → runAt r f a = runAt (r.drop i) (f + sumL (r.take i)) a := by
  induction r with
  | nil => intro i f hi _; simp [sumL]
  | cons x r ih =>
    intro i f hi hk
    rcases i with _ | i
    · simp [sumL]
    · have h0 := hk 0 (by omega)
      simp [sumL] at h0
      have e1 : ∀ k, sumL ((x :: r).take (k + 1)) = x.1 + sumL (r.take k) := fun k => by simp [sumL]
      rw [runAt, if_neg (by omega), ih i (f + x.1) (by simpa using hi) (fun k hkk => by have := hk (k + 1) (by omega); rw [e1] at this; omega), e1]
      simp only [List.drop_succ_cons]
      congr 1
      omega

section
variable {prim : FuncId → Option Prim} (d : Nat) (cfg : Cfg) (h : Heap)

set_option maxHeartbeats 2000000 in
theorem attr_ok (hp : ∀ f, f ≠ 15 → prim f = none) (t : List Int) (r : List (Int × Int)) (a : Int) (ht : t.length ≤ 2000) (hr : r.length ≤ 2000) :
    callM md (K prim (d + 4)) cfg 22 [.agg [rl t, ml r], .int .i64 a] h = some (atV (attrS t r a), h) := by
  refine call0 rfl (hp 22 (by decide)) Tryz.func22 rfl rfl rfl (by simp) ?_
  have hv := fun h => validate_ok (prim := prim) d ⟨0, none, 0⟩ h (hp 42 (by decide)) (hp 68 (by decide)) (hp 112 (by decide)) (hp 69 (by decide)) t r ht hr
  simp [hv]
  by_cases hval : valB t r = 0
  · by_cases h1 : a < 0
    · have e : attrS t r a = (0, 0, 0) := by unfold attrS; rw [if_neg (by omega)]
      simp [hval, h1, e, atV]
    · by_cases h2 : (t.length : Int) ≤ a
      · have e : attrS t r a = (0, 0, 0) := by unfold attrS; rw [if_neg (by omega)]
        simp [hval, h1, h2, e, atV]
      · have e : attrS t r a = runAt r 0 a := by unfold attrS; rw [if_pos ⟨hval, by omega, by omega⟩]
        obtain ⟨hnb, hsum, hal, _, _⟩ := valB_zero hval
        rw [e]
        simp [hval, h1, h2]
        refine wC_loop (fun m fr h => ∃ (i : Nat) (T : Heap), i ≤ r.length ∧ m = r.length - i ∧ (∀ k, k < i → sumL (r.take (k + 1)) ≤ a) ∧ h = some [rl t, ml r] :: some [.int .i64 0, .int .i64 0] :: T ∧
            Slots 51 [(1, .int .i64 a), (2, .ptr 0 0), (5, .ptr 1 0), (6, .int .i64 (sumL (r.take i))), (25, ml r), (26, .int .i64 r.length), (27, .int .i64 i)] fr) (m := r.length) (by omega) ⟨0, [], by omega, by omega, by omega, rfl, by simp [sumL]⟩ ?_
        rintro m fr h ⟨i, T, hi, rfl, hle, rfl, hs⟩
        obtain ⟨j, rfl⟩ := hs.ex
        clear hs
        by_cases hlt : i < r.length
        · obtain ⟨x, hx⟩ : ∃ x, r[i]? = some x := ⟨r[i], List.getElem?_eq_getElem hlt⟩
          have hx' := ml_get hx
          have hsn := take_snoc' r i x hx
          have hsm : sumL (r.take i) + x.1 = sumL (r.take (i + 1)) := by rw [hsn, sum_snoc]
          have hpre := sum_prefix r i hnb
          have hnbi : (r.take i).any bad = false := by
            rw [List.any_eq_false] at hnb ⊢
            exact fun y hy => hnb y (List.mem_of_mem_take hy)
          have hsb := sum_bounds _ hnbi
          have hbx : 1 ≤ x.1 ∧ x.1 ≤ 2000 := by
            rw [List.any_eq_false] at hnb
            have := hnb x (List.mem_of_getElem? hx)
            simp only [bad, Bool.or_eq_true, decide_eq_true_eq, not_or] at this
            omega
          by_cases hin : a < sumL (r.take i) + x.1
          · have hra := runAt_drop r a i 0 hi (fun k hk => by have := hle k hk; omega)
            have hdr : r.drop i = x :: r.drop (i + 1) := by
              rw [List.drop_eq_getElem_cons hlt]
              congr 1
              rw [List.getElem?_eq_getElem hlt] at hx
              exact Option.some.inj hx
            rw [hra, hdr, Int.zero_add, runAt, if_pos hin]
            simp (disch := omega) [hlt, hx', hin, wrap64, -getElem?_pos, -List.getElem?_map]
            refine wC_draw 9 (by kernel_rfl) ?_
            simp (disch := omega) [wrap64, atV]
          · simp (disch := omega) [hlt, hx', hin, wrap64, -getElem?_pos, -List.getElem?_map]
            refine Rnd_of (m' := r.length - (i + 1)) (by omega) ⟨i + 1, _, by omega, rfl, ?_, rfl, by simp [hsm]⟩
            intro k hk
            by_cases hki : k < i
            · exact hle k hki
            · obtain rfl : k = i := by omega
              omega
        · exfalso
          rcases Nat.eq_zero_or_pos i with h0 | h0
          · have : r = [] := List.length_eq_zero_iff.1 (by omega)
            subst this
            simp [sumL] at hsum
            omega
          · have := hle (i - 1) (by omega)
            rw [show i - 1 + 1 = i by omega, List.take_of_length_le (by omega)] at this
            omega
  · have e : attrS t r a = (0, 0, 0) := by unfold attrS; rw [if_neg (fun hh => hval hh.1)]
    simp [hval, e, atV]
end
end Tr
end Go.Ab
