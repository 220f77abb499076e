/- Buffers: Spread, Attributes and its reference. -/
import Derived.Test.YtkiepcknigbhpaaGreatTrE
namespace Go.Ab
open Go.Proofs
namespace Tr

def spread (r : List (Int × Int)) : List Int := r.flatMap fun x => List.replicate x.1.toNat x.2
theorem spread_snoc (r : List (Int × Int)) (x : Int × Int) : spread (r ++ [x]) = spread r ++ List.replicate x.1.toNat x.2 := by simp [spread]
theorem spread_app (a b : List (Int × Int)) : spread (a ++ b) = spread a ++ spread b := by simp [spread]
theorem spread_len : ∀ (r : List (Int × Int)), r.any bad = false → ((spread r).length : Int) = sumL r
  | [], _ => by simp [spread, sumL]
  | a :: l, h => by
    simp only [List.any_cons, Bool.or_eq_false_iff] at h
    have ih := spread_len l h.2
    have hb : 1 ≤ a.1 := by
      have := h.1
      simp only [bad, Bool.or_eq_false_iff, decide_eq_false_iff_not] at this
      omega
    have e1 : sumL (a :: l) = a.1 + sumL l := by simp [sumL]
    have e2 : spread (a :: l) = List.replicate a.1.toNat a.2 ++ spread l := by simp [spread]
    rw [e1, e2]
    simp
    omega

section
variable {prim : FuncId → Option Prim} (d : Nat) (cfg : Cfg) (h : Heap)

set_option maxHeartbeats 2000000 in
theorem spread_ok (hp : prim 44 = none) (t : List Int) (r : List (Int × Int)) (hr : r.length ≤ 2000) (hnb : r.any bad = false) (hsm : sumL r ≤ 2000) :
    callM md (K prim (d + 1)) cfg 44 [.agg [rl t, ml r]] h = some (il (spread r), h) := by
  refine call0 rfl hp Tryz.func44 rfl rfl rfl (by simp) ?_
  simp
  refine wC_loop (fun m fr h => ∃ (i : Nat) (uv : V) (T : Heap), i ≤ r.length ∧ m = r.length - i ∧ h = some [rl t, ml r] :: T ∧ OwnL h 1 .i64 uv (spread (r.take i)) ∧
      Slots 33 [(1, .ptr 0 0), (3, uv), (4, .int .i64 i)] fr) (m := r.length) (by omega) ⟨0, .nils, [], by omega, by omega, rfl, .inl ⟨rfl, rfl⟩, by simp⟩ ?_
  rintro m fr h ⟨i, uv, T, hi, rfl, rfl, hown, hs⟩
  obtain ⟨j, rfl⟩ := hs.ex
  clear hs
  by_cases hlt : i < r.length
  · obtain ⟨x, hx⟩ : ∃ x, r[i]? = some x := ⟨r[i], List.getElem?_eq_getElem hlt⟩
    have hx' := ml_get hx
    have hsn := take_snoc' r i x hx
    have hpre := sum_prefix r (i + 1) hnb
    have hnbi : (r.take (i + 1)).any bad = false := by
      rw [List.any_eq_false] at hnb ⊢
      exact fun y hy => hnb y (List.mem_of_mem_take hy)
    have hsl := spread_len _ hnbi
    have hbx : 1 ≤ x.1 := by
      rw [List.any_eq_false] at hnb
      have := hnb x (List.mem_of_getElem? hx)
      simp only [bad, Bool.or_eq_true, decide_eq_true_eq, not_or] at this
      omega
    rw [hsn, spread_snoc, List.length_append, List.length_replicate] at hsl
    rw [hsn] at hpre
    simp (disch := omega) [hlt, wrap64]
    refine wC_loop (fun m fr h => ∃ (k : Nat) (uv : V) (T : Heap), (k : Int) ≤ x.1 ∧ m = x.1.toNat - k ∧ h = some [rl t, ml r] :: T ∧ OwnL h 1 .i64 uv (spread (r.take i) ++ List.replicate k x.2) ∧
      Slots 33 [(1, .ptr 0 0), (3, uv), (4, .int .i64 i), (5, .int .i64 k)] fr) (m := x.1.toNat) (by omega) ⟨0, uv, T, by omega, by omega, rfl, by simpa using hown, by simp⟩ ?_
    rintro m fr h ⟨k, uv, T, hk, rfl, rfl, hown, hs⟩
    obtain ⟨j, rfl⟩ := hs.ex
    clear hs
    by_cases hkl : (k : Int) < x.1
    · simp (disch := omega) [hkl, hx', wrap64, -getElem?_pos, -List.getElem?_map]
      refine wS_app (l := spread (r.take i) ++ List.replicate k x.2) (lo := 1) ?_ (by simp) (by simp) (by simp; omega) (by simp; omega) ?_
      · refine hown.mono fun c h1 h2 => ?_
        obtain ⟨e, rfl⟩ : ∃ e, c = e + 1 := ⟨c - 1, by omega⟩
        simp only [blockOf_succ]
        exact blockOf_left (by simp at h2; omega)
      · intro d' h' ho' htk hlen'
        simp (disch := omega) [wrap64]
        refine Rnd_of (m' := x.1.toNat - (k + 1)) (by omega) ⟨k + 1, d', h'.drop 1, by omega, rfl, ?_, ?_, by simp⟩
        · have := List.take_append_drop 1 h'
          rw [htk] at this
          simpa using this.symm
        · rw [List.replicate_succ', ← List.append_assoc]
          exact ho'
    · have hke : k = x.1.toNat := by omega
      simp (disch := omega) [hkl, hx', wrap64, -getElem?_pos, -List.getElem?_map]
      refine Rnd_of (m' := r.length - (i + 1)) (by omega) ⟨i + 1, uv, T, by omega, rfl, rfl, ?_, by simp⟩
      rw [hsn, spread_snoc, ← hke]
      exact hown
  · rw [List.take_of_length_le (by omega)] at hown
    rcases hown with ⟨rfl, he⟩ | ⟨b, rfl, hb1, hb2⟩
    · simp [hlt, he]
    · simp [hlt, frz_ints hb2 (Nat.zero_le _) rfl]
end
end Tr
end Go.Ab
