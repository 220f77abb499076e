/- Several texts of this proof in one. -/
import Derived.Test.YtcedojbifnangaaBiC
import Derived.Test.YtcedojbifnangaaBiLvs
import Derived.Test.YtcedojbifnangaaBiGen
/- Runs of equal levels. -/
namespace Go.Ab
open Go.Proofs
namespace Bi
def runsU (lv : List Int) : Nat → List Int
  | 0 => []
  | k + 1 => if k + 1 = lv.length ∨ lv[k]? ≠ lv[k + 1]? then runsU lv k ++ [((k + 1 : Nat) : Int)] else runsU lv k
def runsS (lv : List Int) : List Int := runsU lv lv.length
theorem runsU_len (lv : List Int) : ∀ k, (runsU lv k).length ≤ k
  | 0 => by simp [runsU]
  | k + 1 => by
    have := runsU_len lv k
    simp only [runsU]
    split <;> simp <;> omega
section
variable {prim : FuncId → Option Prim} (d : Nat) (cfg : Cfg) (h : Heap)
theorem runs_ok (hp : prim 23 = none) (lv : List Int) (hn : lv.length ≤ 2000) {args : List V} (ha : args.mapM (frzA h) = some [il lv]) :
    callM md (K prim (d + 1)) cfg 23 args h = some (il (runsS lv), h) := by
  refine call3 rfl hp Try.func23 rfl rfl rfl (args' := [il lv]) ha ?_
  generalize hN : lv.length = N at hn
  simp [hN]
  refine wC_loop (fun m fr H => ∃ (i : Nat) (v : V), i ≤ N ∧ m = N - i ∧ Hp H [] [(1, v, (runsU lv i).map (V.int .i64))] ∧
    Slots 34 [(0, il lv), (3, v), (5, il lv), (6, .int .i64 N), (7, .int .i64 i)] fr) (m := N) (by omega) ⟨0, .nils, by omega, by omega, Hp.start.nil 1, by simp⟩ ?_
  rintro m fr H ⟨i, v, hi, rfl, hH, hs⟩
  obtain ⟨j, rfl⟩ := hs.ex
  clear hs
  have hrl := runsU_len lv i
  by_cases hlt : i < N
  · obtain ⟨x, hx⟩ : ∃ x, lv[i]? = some x := ⟨lv[i], List.getElem?_eq_getElem (by omega)⟩
    simp (disch := omega) [hlt]
    refine wC_draw 15 (by kernel_rfl) ?_
    have hstep : (i + 1 = N ∨ lv[i]? ≠ lv[i + 1]?) → runsU lv (i + 1) = runsU lv i ++ [((i + 1 : Nat) : Int)] := fun h => by rw [runsU, if_pos (by rw [hN]; exact h)]
    have hstay : ¬ (i + 1 = N ∨ lv[i]? ≠ lv[i + 1]?) → runsU lv (i + 1) = runsU lv i := fun h => by rw [runsU, if_neg (by rw [hN]; exact h)]
    by_cases he : i + 1 = N
    · have he' : (i : Int) + 1 = N := by omega
      have hst := hstep (.inl he)
      simp (disch := omega) [hN, he', wrap64]
      refine wS_appO (k := 1) (hH.push _) (by simp) (by simp) rfl (by omega) (by omega) (by simp; omega) (by simp; omega) ?_
      intro d' H' hH'
      simp (disch := omega) [wrap64]
      refine Rnd_of (m' := N - (i + 1)) (by omega) ⟨i + 1, d', by omega, rfl, ?_, by simp⟩
      rw [hst]
      simpa [he'] using hH'
    · have he' : ¬ (i : Int) + 1 = N := by omega
      obtain ⟨y, hy⟩ : ∃ y, lv[i + 1]? = some y := ⟨lv[i + 1], List.getElem?_eq_getElem (by omega)⟩
      by_cases hxy : x = y
      · subst hxy
        have hst := hstay (by rw [hx, hy]; simp; exact he)
        simp (disch := omega) [hN, he', hx, hy, wrap64, -getElem?_pos]
        exact Rnd_of (m' := N - (i + 1)) (by omega) ⟨i + 1, v, by omega, rfl, by rw [hst]; exact hH, by simp⟩
      · have hst := hstep (.inr (by rw [hx, hy]; simpa using hxy))
        simp (disch := omega) [hN, he', hx, hy, hxy, wrap64, -getElem?_pos]
        refine wS_appO (k := 1) (hH.push _) (by simp) (by simp) rfl (by omega) (by omega) (by simp; omega) (by simp; omega) ?_
        intro d' H' hH'
        simp (disch := omega) [wrap64]
        refine Rnd_of (m' := N - (i + 1)) (by omega) ⟨i + 1, d', by omega, rfl, ?_, by simp⟩
        rw [hst]
        simpa using hH'
  · obtain rfl : i = N := by omega
    simp
    have ho := hH.head
    have e : runsS lv = runsU lv i := by rw [runsS, hN]
    rw [e]
    exact ⟨ho.ownI (d := 4), ho.frzI (d := 4) (Nat.zero_le _)⟩
theorem runs'_ok (hp : prim 24 = none) (lv : List Int) (hn : lv.length ≤ 2000) {args : List V} (ha : args.mapM (frzA h) = some [il lv]) :
    callM md (K prim (d + 1)) cfg 24 args h = some (il (runsS lv), h) := by
  refine call3 rfl hp Try.func24 rfl rfl rfl (args' := [il lv]) ha ?_
  generalize hN : lv.length = N at hn
  simp
  refine wC_loop (fun m fr H => ∃ (i : Nat) (v : V), i ≤ N ∧ m = N - i ∧ Hp H [] [(1, v, (runsU lv i).map (V.int .i64))] ∧
    Slots 34 [(0, il lv), (3, v), (4, .int .i64 i)] fr) (m := N) (by omega) ⟨0, .nils, by omega, by omega, Hp.start.nil 1, by simp⟩ ?_
  rintro m fr H ⟨i, v, hi, rfl, hH, hs⟩
  obtain ⟨j, rfl⟩ := hs.ex
  clear hs
  have hrl := runsU_len lv i
  by_cases hlt : i < N
  · obtain ⟨x, hx⟩ : ∃ x, lv[i]? = some x := ⟨lv[i], List.getElem?_eq_getElem (by omega)⟩
    simp (disch := omega) [hlt, hN]
    refine wC_draw 15 (by kernel_rfl) ?_
    have hstep : (i + 1 = N ∨ lv[i]? ≠ lv[i + 1]?) → runsU lv (i + 1) = runsU lv i ++ [((i + 1 : Nat) : Int)] := fun h => by rw [runsU, if_pos (by rw [hN]; exact h)]
    have hstay : ¬ (i + 1 = N ∨ lv[i]? ≠ lv[i + 1]?) → runsU lv (i + 1) = runsU lv i := fun h => by rw [runsU, if_neg (by rw [hN]; exact h)]
    by_cases he : i + 1 = N
    · have he' : (i : Int) + 1 = N := by omega
      have hst := hstep (.inl he)
      simp (disch := omega) [hN, he', wrap64]
      refine wS_appO (k := 1) (hH.push _) (by simp) (by simp) rfl (by omega) (by omega) (by simp; omega) (by simp; omega) ?_
      intro d' H' hH'
      simp (disch := omega) [wrap64]
      refine Rnd_of (m' := N - (i + 1)) (by omega) ⟨i + 1, d', by omega, rfl, ?_, by simp⟩
      rw [hst]
      simpa [he'] using hH'
    · have he' : ¬ (i : Int) + 1 = N := by omega
      obtain ⟨y, hy⟩ : ∃ y, lv[i + 1]? = some y := ⟨lv[i + 1], List.getElem?_eq_getElem (by omega)⟩
      by_cases hxy : x = y
      · subst hxy
        have hst := hstay (by rw [hx, hy]; simp; exact he)
        simp (disch := omega) [hN, he', hx, hy, wrap64, -getElem?_pos]
        exact Rnd_of (m' := N - (i + 1)) (by omega) ⟨i + 1, v, by omega, rfl, by rw [hst]; exact hH, by simp⟩
      · have hst := hstep (.inr (by rw [hx, hy]; simpa using hxy))
        simp (disch := omega) [hN, he', hx, hy, hxy, wrap64, -getElem?_pos]
        refine wS_appO (k := 1) (hH.push _) (by simp) (by simp) rfl (by omega) (by omega) (by simp; omega) (by simp; omega) ?_
        intro d' H' hH'
        simp (disch := omega) [wrap64]
        refine Rnd_of (m' := N - (i + 1)) (by omega) ⟨i + 1, d', by omega, rfl, ?_, by simp⟩
        rw [hst]
        simpa using hH'
  · obtain rfl : i = N := by omega
    simp [hN]
    have ho := hH.head
    have e : runsS lv = runsU lv i := by rw [runsS, hN]
    rw [e]
    exact ⟨ho.ownI (d := 4), ho.frzI (d := 4) (Nat.zero_le _)⟩
end
end Bi
end Go.Ab
/- The laws BidiRaw and BidiBuilt. -/
namespace Go.Ab
open Go.Proofs
namespace Bi
theorem eqL (d : Nat) (r : List Int) (hr : r.length < 5000) (cfg : Cfg) (H : Heap) : callM md (K pL (d + 1)) cfg 14 [il r, il r] H = some (.bool true, H) := by
  have := equal_ok (prim := pL) d cfg H (pL_none 14 (by decide)) r r hr (args := [il r, il r]) (by simp)
  simpa using this
theorem ordS_le (r : List Int) : (ordS r).length ≤ r.length := by
  unfold ordS
  split
  · simp
  · rw [(ord_perm r 127 (idx r.length)).length_eq, idx_len]
    exact Nat.le_refl _
set_option maxHeartbeats 4000000 in
theorem same_ok (d : Nat) (t : List Int) (ht : t.length ≤ 2000) (base a b : Int) (cfg : Cfg) (h : Heap) : callM md (K pL (d + 8)) cfg 25 [rl t, .int .i64 base, .int .i64 a, .int .i64 b] h = some (.bool true, h) := by
  refine call3 rfl (pL_none 25 (by decide)) Try.func25 rfl rfl rfl (args' := [rl t, .int .i64 base, .int .i64 a, .int .i64 b]) (by simp) ?_
  obtain ⟨r, h1, h2, h3, h4⟩ := levs_ok (d + 1) t ht base
  have e1 := fun cfg H => h1 cfg H [rl t, .int .i64 base] (by simp)
  have e2 := fun cfg H => h2 cfg H [rl t, .int .i64 base] (by simp)
  have hB := fun cfg h r => bidi_ok (prim := pL) (d + 2) cfg h pL_none r
  have hb1 := fun cfg h => base_at (prim := pL) (d + 4) cfg h (pL_none 29 (by decide)) (pL_none 26 (by decide)) (pL_none 28 (by decide)) (pL_none 53 (by decide)) (pL_none 54 (by decide)) bidi hB t ht base
  have hb2 := fun cfg h => rbase_ok (prim := pL) (d + 3) cfg h (pL_none 38 (by decide)) (pL_none 64 (by decide)) (pL_none 63 (by decide)) (pL_none 71 (by decide)) (pL_none 47 (by decide)) t ht base (args := [rl t, .int .i64 base]) (by simp)
  have hr1 := fun cfg h e => resetL_ok (d + 6) t r ht e a b cfg h
  have hr2 := fun cfg h e => rreset_ok (prim := pL) (d + 3) cfg h (pL_none 52 (by decide)) (pL_none 70 (by decide)) (pL_none 63 (by decide)) (pL_none 71 (by decide)) (pL_none 47 (by decide)) t r ht e a b
  have ho1 := fun cfg h => order_ok (prim := pL) (d + 5) cfg h (pL_none 19 (by decide)) (pL_none 49 (by decide)) r (by omega) (args := [il r]) (by simp)
  have ho2 := fun cfg h => order'_ok (prim := pL) (d + 6) cfg h (pL_none 22 (by decide)) r (by omega) (args := [il r]) (by simp)
  have hn1 := fun cfg h => runs_ok (prim := pL) (d + 6) cfg h (pL_none 23 (by decide)) r (by omega) (args := [il r]) (by simp)
  have hn2 := fun cfg h => runs'_ok (prim := pL) (d + 6) cfg h (pL_none 24 (by decide)) r (by omega) (args := [il r]) (by simp)
  have hq1 := eqL (d + 6) r (by omega)
  have hq2 := fun e => eqL (d + 6) (rstS (t.map bidi) r e a b) (by have := rstS_len (t.map bidi) r e a b; simp at this; omega)
  have hq3 := eqL (d + 6) (ordS r) (by have := ordS_le r; omega)
  have hq4 := eqL (d + 6) (runsS r) (by have := runsU_len r r.length; unfold runsS; omega)
  generalize baseS bidi t base = B at *
  simp (disch := omega) [e1, e2, hb1, hb2, hr1, hr2, ho1, ho2, hn1, hn2, hq1, hq2, hq3, hq4]
theorem raw_law (d : Nat) (t : List Int) (base a b : Int) : ∃ v h', callN Try.prog md pL 10000 (d + 10) ⟨0, none, 0⟩ 9 [rl t, .int .i64 base, .int .i64 a, .int .i64 b] [] = some (v, h') ∧ v = .bool true := by
  have hA := fun cfg h => awakeL (d + 8) cfg h
  refine callN_of (R := fun r _ => r = .bool true) (pL_none 9 (by decide)) Try.func9 rfl rfl rfl ?_
  by_cases hn : 60 < t.length
  · have hnI : (60 : Int) < t.length := by omega
    simp (disch := omega) [hnI]
  · have hnI : ¬ (60 : Int) < t.length := by omega
    have hS := same_ok (d + 1) t (by omega) base a b
    simp (disch := omega) [hnI, hS, hA]
set_option maxHeartbeats 4000000 in
theorem built_law (d : Nat) (l : List Int) : ∃ v h', callN Try.prog md pL 10000 (d + 10) ⟨0, none, 0⟩ 10 [il l] [] = some (v, h') ∧ v = .bool true := by
  have hA := fun cfg h => awakeL (d + 8) cfg h
  have hNw := fun cfg h => new_ok (prim := pL) (d + 8) cfg h (pL_none 12 (by decide)) l
  have hL : (l.take 4000).length ≤ 4000 := by simp; omega
  refine callN_of (R := fun r _ => r = .bool true) (pL_none 10 (by decide)) Try.func10 rfl rfl rfl ?_
  generalize hLL : l.take 4000 = L at *
  obtain ⟨t, k', ht, hk', hT⟩ := text_ok (prim := pL) (d + 5) ⟨0, none, 0⟩ [some [il L, .int .i64 (0 : Nat)]] pL_none L 0 hL (by omega) 24 (by omega) 0 rfl rfl (by simp)
  simp only [List.set_cons_zero] at hT
  have hT' : callM md (K pL (d + 5 + 4)) ⟨0, none, 0⟩ 18 [.ptr 0 0, .int .i64 24] [some [il L, .int .i64 0]] = some (rl t, [some [il L, .int .i64 k']]) := hT
  have hS := fun base a b => same_ok (d + 1) t (by omega) base a b
  simp (disch := omega) [hNw, hT']
  refine wC_loop (fun m fr H => ∃ (i : Nat), i ≤ 3 ∧ m = 3 - i ∧ H = [some [il L, .int .i64 k']] ∧ Slots 27 [(3, rl t), (4, .int .i64 ((i : Int) - 1))] fr) (m := 3) (by omega) ⟨0, by omega, by omega, rfl, by simp⟩ ?_
  rintro m fr H ⟨i, hi, rfl, rfl, hs⟩
  obtain ⟨j, rfl⟩ := hs.ex
  clear hs
  by_cases hlt : i < 3
  · have hI : (i : Int) - 1 ≤ 1 := by omega
    simp (disch := omega) [hI]
    refine wC_loop (fun m fr H => ∃ (q : Nat), q ≤ t.length + 3 ∧ m = t.length + 3 - q ∧ H = [some [il L, .int .i64 k']] ∧ Slots 27 [(3, rl t), (4, .int .i64 ((i : Int) - 1)), (5, .int .i64 q)] fr) (m := t.length + 3) (by omega) ⟨0, by omega, by omega, rfl, by simp⟩ ?_
    rintro m fr H ⟨q, hq, rfl, rfl, hs⟩
    obtain ⟨j2, rfl⟩ := hs.ex
    clear hs
    by_cases hq2 : q ≤ t.length
    · have hqI : (q : Int) ≤ t.length := by omega
      simp (disch := omega) [hqI, hS, wrap64]
      exact Rnd_of (m' := t.length + 3 - (q + 3)) (by omega) ⟨q + 3, by omega, by omega, rfl, by simp (disch := omega)⟩
    · have hqI : ¬ (q : Int) ≤ t.length := by omega
      simp (disch := omega) [hqI, wrap64]
      exact Rnd_of (m' := 3 - (i + 1)) (by omega) ⟨i + 1, by omega, by omega, rfl, by simp (disch := omega)⟩
  · obtain rfl : i = 3 := by omega
    simp (disch := omega) [hA]
end Bi
end Go.Ab
