/- Runs of equal levels. -/
import Derived.Test.YtcedojbifnangaaBiC
namespace Go.Ab
open Go.Proofs
namespace Bi
def runsU (lv : List Int) : Nat → List Int
  | 0 => []
  | k + 1 => if k + 1 = lv.length ∨ lv[k]? ≠ lv[k + 1]? then runsU lv k ++ [((k + 1 : Nat) : Int)] else runsU lv k
def runsS (lv : List Int) : List Int := runsU lv lv.length
theorem runsU_len (lv : List Int) : ∀ k, (runsU lv k).length ≤ k
  | 0 => by simp [runsU]
  | k + 1 => by
    have := runsU_len lv k
    simp only [runsU]
    split <;> simp <;> omega
section
variable {prim : FuncId → Option Prim} (d : Nat) (cfg : Cfg) (h : Heap)
theorem runs_ok (hp : prim 23 = none) (lv : List Int) (hn : lv.length ≤ 2000) {args : List V} (ha : args.mapM (frzA h) = some [il lv]) :
    callM md (K prim (d + 1)) cfg 23 args h = some (il (runsS lv), h) := by
  refine call3 rfl hp Try.func23 rfl rfl rfl (args' := [il lv]) ha ?_
  generalize hN : lv.length = N at hn
  simp [hN]
  refine wC_loop (fun m fr H => ∃ (i : Nat) (v : V), i ≤ N ∧ m = N - i ∧ Hp H [] [(1, v, (runsU lv i).map (V.int .i64))] ∧
    Slots 34 [(0, il lv), (3, v), (5, il lv), (6, .int .i64 N), (7, .int .i64 i)] fr) (m := N) (by omega) ⟨0, .nils, by omega, by omega, Hp.start.nil 1, by simp⟩ ?_
  rintro m fr H ⟨i, v, hi, rfl, hH, hs⟩
  obtain ⟨j, rfl⟩ := hs.ex
  clear hs
  have hrl := runsU_len lv i
  by_cases hlt : i < N
  · obtain ⟨x, hx⟩ : ∃ x, lv[i]? = some x := ⟨lv[i], List.getElem?_eq_getElem (by omega)⟩
    simp (disch := omega) [hlt, hN, wrap64]
    refine wC_draw 15 (by kernel_rfl) ?_
    have hstep : (i + 1 = N ∨ lv[i]? ≠ lv[i + 1]?) → runsU lv (i + 1) = runsU lv i ++ [((i + 1 : Nat) : Int)] := fun h => by rw [runsU, if_pos (by rw [hN]; exact h)]
    have hstay : ¬ (i + 1 = N ∨ lv[i]? ≠ lv[i + 1]?) → runsU lv (i + 1) = runsU lv i := fun h => by rw [runsU, if_neg (by rw [hN]; exact h)]
    by_cases he : i + 1 = N
    · have he' : (i : Int) + 1 = N := by omega
      have hst := hstep (.inl he)
      simp (disch := omega) [hN, he', wrap64]
      refine wS_appO (k := 1) (hH.push _) (by simp) (by simp) rfl (by omega) (by omega) (by simp; omega) (by simp; omega) ?_
      intro d' H' hH'
      simp (disch := omega) [wrap64]
      refine Rnd_of (m' := N - (i + 1)) (by omega) ⟨i + 1, d', by omega, rfl, ?_, by simp⟩
      rw [hst]
      simpa [he'] using hH'
    · have he' : ¬ (i : Int) + 1 = N := by omega
      obtain ⟨y, hy⟩ : ∃ y, lv[i + 1]? = some y := ⟨lv[i + 1], List.getElem?_eq_getElem (by omega)⟩
      by_cases hxy : x = y
      · subst hxy
        have hst := hstay (by rw [hx, hy]; simp; exact he)
        simp (disch := omega) [hN, he', hx, hy, wrap64, -getElem?_pos]
        exact Rnd_of (m' := N - (i + 1)) (by omega) ⟨i + 1, v, by omega, rfl, by rw [hst]; exact hH, by simp⟩
      · have hst := hstep (.inr (by rw [hx, hy]; simpa using hxy))
        simp (disch := omega) [hN, he', hx, hy, hxy, wrap64, -getElem?_pos]
        refine wS_appO (k := 1) (hH.push _) (by simp) (by simp) rfl (by omega) (by omega) (by simp; omega) (by simp; omega) ?_
        intro d' H' hH'
        simp (disch := omega) [wrap64]
        refine Rnd_of (m' := N - (i + 1)) (by omega) ⟨i + 1, d', by omega, rfl, ?_, by simp⟩
        rw [hst]
        simpa using hH'
  · obtain rfl : i = N := by omega
    simp
    have ho := hH.head
    have e : runsS lv = runsU lv i := by rw [runsS, hN]
    rw [e]
    exact ⟨ho.ownI (d := 4), ho.frzI (d := 4) (Nat.zero_le _)⟩
theorem runs'_ok (hp : prim 24 = none) (lv : List Int) (hn : lv.length ≤ 2000) {args : List V} (ha : args.mapM (frzA h) = some [il lv]) :
    callM md (K prim (d + 1)) cfg 24 args h = some (il (runsS lv), h) := by
  refine call3 rfl hp Try.func24 rfl rfl rfl (args' := [il lv]) ha ?_
  generalize hN : lv.length = N at hn
  simp [hN]
  refine wC_loop (fun m fr H => ∃ (i : Nat) (v : V), i ≤ N ∧ m = N - i ∧ Hp H [] [(1, v, (runsU lv i).map (V.int .i64))] ∧
    Slots 34 [(0, il lv), (3, v), (4, .int .i64 i)] fr) (m := N) (by omega) ⟨0, .nils, by omega, by omega, Hp.start.nil 1, by simp⟩ ?_
  rintro m fr H ⟨i, v, hi, rfl, hH, hs⟩
  obtain ⟨j, rfl⟩ := hs.ex
  clear hs
  have hrl := runsU_len lv i
  by_cases hlt : i < N
  · obtain ⟨x, hx⟩ : ∃ x, lv[i]? = some x := ⟨lv[i], List.getElem?_eq_getElem (by omega)⟩
    simp (disch := omega) [hlt, hN, wrap64]
    refine wC_draw 15 (by kernel_rfl) ?_
    have hstep : (i + 1 = N ∨ lv[i]? ≠ lv[i + 1]?) → runsU lv (i + 1) = runsU lv i ++ [((i + 1 : Nat) : Int)] := fun h => by rw [runsU, if_pos (by rw [hN]; exact h)]
    have hstay : ¬ (i + 1 = N ∨ lv[i]? ≠ lv[i + 1]?) → runsU lv (i + 1) = runsU lv i := fun h => by rw [runsU, if_neg (by rw [hN]; exact h)]
    by_cases he : i + 1 = N
    · have he' : (i : Int) + 1 = N := by omega
      have hst := hstep (.inl he)
      simp (disch := omega) [hN, he', wrap64]
      refine wS_appO (k := 1) (hH.push _) (by simp) (by simp) rfl (by omega) (by omega) (by simp; omega) (by simp; omega) ?_
      intro d' H' hH'
      simp (disch := omega) [wrap64]
      refine Rnd_of (m' := N - (i + 1)) (by omega) ⟨i + 1, d', by omega, rfl, ?_, by simp⟩
      rw [hst]
      simpa [he'] using hH'
    · have he' : ¬ (i : Int) + 1 = N := by omega
      obtain ⟨y, hy⟩ : ∃ y, lv[i + 1]? = some y := ⟨lv[i + 1], List.getElem?_eq_getElem (by omega)⟩
      by_cases hxy : x = y
      · subst hxy
        have hst := hstay (by rw [hx, hy]; simp; exact he)
        simp (disch := omega) [hN, he', hx, hy, wrap64, -getElem?_pos]
        exact Rnd_of (m' := N - (i + 1)) (by omega) ⟨i + 1, v, by omega, rfl, by rw [hst]; exact hH, by simp⟩
      · have hst := hstep (.inr (by rw [hx, hy]; simpa using hxy))
        simp (disch := omega) [hN, he', hx, hy, hxy, wrap64, -getElem?_pos]
        refine wS_appO (k := 1) (hH.push _) (by simp) (by simp) rfl (by omega) (by omega) (by simp; omega) (by simp; omega) ?_
        intro d' H' hH'
        simp (disch := omega) [wrap64]
        refine Rnd_of (m' := N - (i + 1)) (by omega) ⟨i + 1, d', by omega, rfl, ?_, by simp⟩
        rw [hst]
        simpa using hH'
  · obtain rfl : i = N := by omega
    simp [hN]
    have ho := hH.head
    have e : runsS lv = runsU lv i := by rw [runsS, hN]
    rw [e]
    exact ⟨ho.ownI (d := 4), ho.frzI (d := 4) (Nat.zero_le _)⟩
end
end Bi
end Go.Ab
