/- The law TextfieldLimits: walked. -/
import Derived.Test.YtoappddifbgegaaGreatPcJ
import Derived.Test.YtoappddifbgegaaGreatAbRound
set_option linter.all false
namespace Go.Ab
open Go.Proofs
namespace Bi
theorem and7 (n : Int) : ∃ v : Int, 0 ≤ v ∧ v ≤ 7 ∧ intBin .and .i64 n 7 = some (.int .i64 v) := by
  have h7 : (BitVec.ofInt 64 7).toNat = 2 ^ 3 - 1 := by decide
  have h : (BitVec.ofInt 64 n &&& BitVec.ofInt 64 7).toNat ≤ 7 := by
    rw [BitVec.toNat_and, h7, Nat.and_two_pow_sub_one_eq_mod]
    omega
  refine ⟨((BitVec.ofInt 64 n &&& BitVec.ofInt 64 7).toNat : Int), by omega, by omega, ?_⟩
  simp only [intBin]
  rw [show IntKind.i64.bits = 64 from rfl, wrap64 (by omega) (by omega)]
theorem lstLe_le (m : Int) (hm : 0 ≤ m) : ∀ (l : List Int) (a : Int), a ≤ m → l.foldl (fun a x => if x ≤ m then x else a) a ≤ m
  | [], a, h => h
  | x :: l, a, h => by
    rw [List.foldl_cons]
    exact lstLe_le m hm l _ (by split <;> omega)
theorem takT_is (c : ECf) (t : List Int) (hm : 0 ≤ c.mo) : (takT c t).length ≤ t.length ∧ ((takT c t).length : Int) ≤ c.mo ∧ ((t.length : Int) ≤ c.mo → (takT c t).length = t.length) ∧ ∀ (i : Nat) (x : Int), (takT c t)[i]? = some x → ∃ y, t[i]? = some y ∧ x = spS c y := by
  obtain ⟨g1, g2⟩ := fitS_rng (t.map (spS c)) c.mo
  have g3 : fitS (t.map (spS c)) c.mo ≤ c.mo := by
    unfold fitS
    split
    · assumption
    · exact lstLe_le _ hm _ _ hm
  obtain ⟨k, hk⟩ := Int.eq_ofNat_of_zero_le g1
  have hT : takT c t = (t.map (spS c)).take k := by unfold takT; rw [hk]; rfl
  rw [hT]
  rw [hk] at g2 g3
  simp only [List.length_map] at g2
  refine ⟨by simp; omega, by simp; omega, fun h => ?_, fun i x hx => ?_⟩
  · have : fitS (t.map (spS c)) c.mo = t.length := by unfold fitS; rw [if_pos (by simpa using h)]; simp
    rw [hk] at this
    simp
    omega
  · rw [List.getElem?_take] at hx
    split at hx
    · rw [List.getElem?_map] at hx
      obtain ⟨y, h1, h2⟩ := Option.map_eq_some_iff.1 hx
      exact ⟨y, h1, h2.symm⟩
    · cases hx
section
attribute [local congr] wGq_congr
set_option maxRecDepth 100000 in
set_option maxHeartbeats 16000000 in
theorem lim_ok (d : Nat) (n : Int) (l : List Int) : ∃ v h', callN Tryz.prog mdL pL 10000 (d + 4) ⟨0, [], 0⟩ 4 [.int .i64 n, il l] [] = some (v, h') ∧ v = .bool true := by
  refine callN_of (R := fun r _ => r = .bool true) rfl Tryz.func4 rfl rfl rfl ?_
  have hN : ∀ cfg h l, callM mdL (KL (d + 3)) cfg 14 [il l] h = some (.ptr h.length 0, h ++ [some [il (l.take 4000), .int .i64 0]]) := fun cfg h l =>
    (toL (f := 14) rfl rfl _ _ _ _).trans (new_ok (prim := pM) (d := 59) (cfg := cfg) (h := h) rfl l)
  have hPl : ∀ cfg h, callM mdL (KL (d + 3)) cfg 15 [] h = some (.agg (cfL false 100), h) := fun cfg h =>
    (toL (f := 15) rfl rfl _ _ _ _).trans (by kernel_rfl)
  obtain ⟨v, hv1, hv2, hand⟩ := and7 n
  obtain ⟨mo, hmo⟩ : ∃ mo, mo = 1 + v := ⟨_, rfl⟩
  have hmo2 : 1 ≤ mo ∧ mo ≤ 8 := by omega
  simp (disch := omega) [hN, hPl, cfL, hand, wrap64]
  rw [← hmo]
  obtain ⟨q, k1, hq, hk1, hNq⟩ := N_ok (prim := pM) (d := 59) (cfg := ⟨0, [], 0⟩) (h := [some [il (l.take 4000), .int .i64 0], some [.bool false, .bool false, .int .i64 mo, .int .i64 0, .int .i64 1, .int .i64 10, .int .i64 1000, .int .i64 0, .int .i64 0]]) rfl (l.take 4000) 0 (by simp; omega) (by omega) 2 (by omega) (by omega) 0 rfl rfl
  have hNq2 := (toL (f := 16) rfl rfl (d + 2) _ _ _).trans hNq
  simp [hNq2]
  generalize hm : decide ((q : Int) = 1) = m
  obtain ⟨t, k2, ht, hs, hk2, hVq⟩ := vldL (d + 1) ⟨0, [], 0⟩ [some [il (l.take 4000), .int .i64 k1], some [.bool m, .bool false, .int .i64 mo, .int .i64 0, .int .i64 1, .int .i64 10, .int .i64 1000, .int .i64 0, .int .i64 0]] (l.take 4000) k1 (by simp; omega) hk1 12 (by omega) 0 rfl rfl (by simp)
  have hVq2 : callM mdL (KL (d + 3)) ⟨0, [], 0⟩ 17 [.ptr 0 0, .int .i64 12] [some [il (l.take 4000), .int .i64 k1], some [.bool m, .bool false, .int .i64 mo, .int .i64 0, .int .i64 1, .int .i64 10, .int .i64 1000, .int .i64 0, .int .i64 0]] = _ := hVq
  have hW0 : ∀ cfg h, callM mdL (KL (d + 3)) cfg 10 [.nils, .agg [.bool m, .bool false, .int .i64 mo, .int .i64 0, .int .i64 1, .int .i64 10, .int .i64 1000, .int .i64 0, .int .i64 0]] h = some (.tup [.agg (eL nn nn 0 his0), .int .i64 0], h) := fun cfg h =>
    (toL (f := 10) rfl rfl _ _ _ _).trans (newN 54 (by omega) m mo hmo2 cfg h)
  have hFn : ∀ cfg h, callM mdL (KL (d + 3)) cfg 19 [] h = some (fntsV, h) := fun cfg h =>
    (toL (f := 19) rfl rfl _ _ _ _).trans (fontM 59 cfg h)
  have hRn : ∀ cfg h, callM mdL (KL (d + 3)) cfg 18 [.agg (eL nn nn 0 his0), .agg [.bool m, .bool false, .int .i64 mo, .int .i64 0, .int .i64 1, .int .i64 10, .int .i64 1000, .int .i64 0, .int .i64 0], fntsV, .agg (evC t)] h = some (runV (takT (cL m mo) t), h) := fun cfg h =>
    (toL (f := 18) rfl rfl _ _ _ _).trans (runM 48 (by omega) m mo hmo2 t (by omega) hs cfg h)
  have hW1 : ∀ cfg h, callM mdL (KL (d + 3)) cfg 10 [rl t, .agg [.bool m, .bool false, .int .i64 mo, .int .i64 0, .int .i64 1, .int .i64 10, .int .i64 1000, .int .i64 0, .int .i64 0]] h = some (newS (cL m mo) t, h) := fun cfg h =>
    (toL (f := 10) rfl rfl _ _ _ _).trans (toM (d := 60) (by omega) (newT_ok (prim := pT) 54 pT_none rfl (cL m mo) t (by omega) cfg h))
  have hnS : newS (cL m mo) t = .tup [.agg (edN (takT (cL m mo) t) (rnZ (takT (cL m mo) t)) (takT (cL m mo) t).length (-1)), .int .i64 0] := by
    have : okN (cL m mo) t = true := by
      obtain ⟨a, b⟩ := hmo2
      have b2 : mo ≤ 2000 := by omega
      simp [okN, hs, cL, a, b2]
    simp [newS, this]
  rw [hnS] at hW1
  have hA : ∀ cfg h, callM mdL (KL (d + 3)) cfg 13 [] h = some (.bool true, h) := fun cfg h =>
    (toL (f := 13) rfl rfl _ _ _ _).trans (toM (d := 60) (by omega) (awakeT 59 cfg h))
  have hNl : ∀ cfg h r, callM mdL (KL (d + 3)) cfg 21 [.int .i32 r] h = some (.bool (nlT r), h) := fun cfg h r =>
    (toL (f := 21) rfl rfl _ _ _ _).trans (toM (d := 60) (by omega) (rnl_ok (prim := pT) 57 pT_none cfg h r))
  have hSm : ∀ cfg h (T : List Int), T.length ≤ 2000 → callM mdL (KL (d + 3)) cfg 20 [rl T, rl T] h = some (.bool true, h) := fun cfg h T hT =>
    (toL (f := 20) rfl rfl _ _ _ _).trans (toM (d := 60) (by omega) (same_ok (prim := pT) 59 pT_none T hT cfg h))
  obtain ⟨hT1, hT2, hT3, hT4⟩ := takT_is (cL m mo) t (by show 0 ≤ mo; omega)
  have hT5 : ((takT (cL m mo) t).length : Int) ≤ mo := hT2
  have hT6 : (t.length : Int) ≤ mo → (takT (cL m mo) t).length = t.length := hT3
  have hT7 : ∀ (i : Nat) (x : Int), (takT (cL m mo) t)[i]? = some x → ∃ y, t[i]? = some y ∧ x = if m = false ∧ nlT y = true then 32 else y := hT4
  clear hT2 hT3 hT4 hnS
  generalize takT (cL m mo) t = T at *
  obtain ⟨EE, RR, hrv⟩ : ∃ EE RR, runV T = .tup [.agg (rl T :: EE), .agg RR, .int .i64 0] ∧ EE.length = 18 ∧ RR.length = 3 ∧ (∀ x ∈ EE, x.leaf = true) ∧ (∀ x ∈ RR, x.leaf = true) := by
    unfold runV
    split
    · rename_i h0; subst h0; exact ⟨_, _, rfl, rfl, rfl, by simp [his0], by simp⟩
    · exact ⟨_, _, rfl, rfl, rfl, by simp [his1], by simp⟩
  obtain ⟨hrv, hEl, hRl, hEf, hRf⟩ := hrv
  rw [hrv] at hRn
  clear hrv
  simp only [eL, his0, evC, edN, List.cons_append, List.nil_append] at hW0 hW1 hRn
  simp [hVq2, hW0]
  refine wC_draw 12 (by kernel_rfl) ?_
  have hm1 : mdL 19 = 0 := rfl
  have hm2 : mdL 18 = 0 := rfl
  have hEq := eq_true hEf
  have hRq := eq_true hRf
  have hfl : fntsV.leaf = true := rfl
  simp [hm1, hm2, hFn, hRn, hEl, hRl, hEq, hRq]
  have hpt : putAt [rl T, .nils, .int .i64 0, .int .i64 0, .bool false, .bool false, .int .i64 0, .int .i64 0, .nils, .nils, .int .i64 0, .int .i64 0, .nils, .nils, .nils, .bool false, .int .i64 0, .int .i64 0, .int .i64 0] 1 EE = rl T :: EE := by
    obtain ⟨a, b, c, e, f, g, i, j, k, n, o, p, q, r, s, u, v, w, rfl⟩ : ∃ a b c e f g i j k n o p q r s u v w, EE = [a, b, c, e, f, g, i, j, k, n, o, p, q, r, s, u, v, w] := by
      rcases EE with _ | ⟨a, _ | ⟨b, _ | ⟨c, _ | ⟨e, _ | ⟨f, _ | ⟨g, _ | ⟨i, _ | ⟨j, _ | ⟨k, _ | ⟨n, _ | ⟨o, _ | ⟨p, _ | ⟨q, _ | ⟨r, _ | ⟨s, _ | ⟨u, _ | ⟨v, _ | ⟨w, _ | ⟨x, y⟩⟩⟩⟩⟩⟩⟩⟩⟩⟩⟩⟩⟩⟩⟩⟩⟩⟩⟩ <;> simp at hEl
      exact ⟨_, _, _, _, _, _, _, _, _, _, _, _, _, _, _, _, _, _, rfl⟩
    rfl
  have hmp : isMap (rl T :: EE) = false := rfl
  have hs0 : slot (rl T :: EE) 0 = some (rl T) := rfl
  rw [hpt]
  generalize putAt [V.nils, V.nils, V.nils] 0 RR = B4
  have hSm' := fun cfg h => hSm cfg h T (by omega)
  have hgt : ¬ mo < (T.length : Int) := by omega
  have hBq : (T.length : Int) ≤ 12 := by omega
  simp [hW1, hSm', hmp, hs0, hgt]
  generalize hB2 : some [nn, nn, V.int IntKind.i64 0, V.int IntKind.i64 0, V.bool false, V.bool false, V.int IntKind.i64 0, V.int IntKind.i64 0, nn, nn, V.int IntKind.i64 0, V.int IntKind.i64 0, nn, nn, nn, V.bool false, V.int IntKind.i64 0, V.int IntKind.i64 (-1), V.int IntKind.i64 (-1)] = B2
  generalize hB5 : some [rl T, ml (rnZ T), V.int IntKind.i64 T.length, V.int IntKind.i64 T.length, V.bool false, V.bool false, V.int IntKind.i64 0, V.int IntKind.i64 0, V.lst [], V.lst [], V.int IntKind.i64 0, V.int IntKind.i64 0, V.lst [], V.lst [], V.lst [], V.bool false, V.int IntKind.i64 0, V.int IntKind.i64 (-1), V.int IntKind.i64 (-1)] = B5
  generalize hB0 : some [il (l.take 4000), V.int IntKind.i64 k2] = B0
  refine wC_loop (fun q fr H => ∃ i : Nat, i ≤ T.length ∧ q = T.length - i ∧ H = [B0, some [.bool m, .bool false, .int .i64 mo, .int .i64 0, .int .i64 1, .int .i64 10, .int .i64 1000, .int .i64 0, .int .i64 0], B2, some (rl T :: EE), some B4, B5] ∧
    Slots 125 [(6, .ptr 1 0), (7, rl t), (10, .ptr 3 0), (15, .int .i64 T.length), (16, .int .i64 i)] fr) (m := T.length) (by omega) ⟨0, by omega, by omega, rfl, by simp⟩ ?_
  rintro q fr H ⟨i, hi, rfl, rfl, hs⟩
  obtain ⟨j, rfl⟩ := hs.ex
  clear hs
  by_cases hlt : i < T.length
  · have hI : (i : Int) < T.length := by omega
    obtain ⟨x, hx⟩ : ∃ x, T[i]? = some x := ⟨_, List.getElem?_eq_getElem hlt⟩
    obtain ⟨y, hy, hxy⟩ := hT7 i x hx
    clear hRn hW0 hW1 hVq2 hVq hNq2 hNq hN hPl hFn hSm hSm'
    cases m
    · cases hn : nlT y
      · obtain rfl : x = y := by simpa [hn] using hxy
        simp [hI, hx, hy, hNl, hn, hmp, hs0]
        rw [wrap64 (by omega) (by omega)]
        exact Rnd_of (m' := T.length - (i + 1)) (by omega) ⟨i + 1, by omega, rfl, rfl, by simp⟩
      · obtain rfl : x = 32 := by simpa [hn] using hxy
        simp [hI, hx, hy, hNl, hn, hmp, hs0]
        rw [wrap64 (by omega) (by omega)]
        exact Rnd_of (m' := T.length - (i + 1)) (by omega) ⟨i + 1, by omega, rfl, rfl, by simp⟩
    · obtain rfl : x = y := by simpa using hxy
      simp [hI, hx, hy, hNl, hmp, hs0]
      rw [wrap64 (by omega) (by omega)]
      exact Rnd_of (m' := T.length - (i + 1)) (by omega) ⟨i + 1, by omega, rfl, rfl, by simp⟩
  · obtain rfl : i = T.length := by omega
    by_cases ht2 : (t.length : Int) ≤ mo
    · simp [hA, ht2, hT6 ht2]
    · simp [hA, ht2]
end
end Bi
end Go.Ab
