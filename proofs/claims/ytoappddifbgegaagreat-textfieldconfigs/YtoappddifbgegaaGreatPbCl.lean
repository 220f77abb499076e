/- The reference: the cluster boundaries of a text are the program's, exactly. -/
import Derived.Test.YtoappddifbgegaaGreatPiN
import Derived.Test.YtoappddifbgegaaGreatPaCl
set_option linter.all false
namespace Go.Ab
open Go.Proofs
namespace Bi
attribute [local congr] wGq_congr
section
variable {prim : FuncId → Option Prim} (d : Nat)
theorem hBE (hp : ∀ f, Np5 f → prim f = none) (cfg : Cfg) (h : Heap) (r : Int) : callM md (K prim (d + 2)) cfg 189 [.int .i32 r] h = some (.int .i64 (cBr r), h) := by
  rw [← (cls_eq r).1]
  exact rbrk_ok (prim := prim) d cfg h hp r
theorem cMap {t : List Int} {k : Nat} (hk : k < t.length) : lgI (t.map cBr) k = cBr (lgI t k) := by rw [lgI, List.getD_eq_getElem?_getD, List.getElem?_map, atI hk]; rfl
set_option maxRecDepth 100000 in
set_option maxHeartbeats 16000000 in
theorem bndE_ok (hp : ∀ f, Np5 f → prim f = none) (t : List Int) (ht : t.length ≤ 2000) (i : Nat) (hi : i + 1 < t.length) (cfg : Cfg) (h : Heap) :
    callM md (K prim (d + 3)) cfg 117 [rl t, .int .i64 ((i : Int) + 1)] h = some (.bool (prtB (t.map cBr) (i + 1)), h) := by
  refine call0 rfl (hp 117 (by decide)) Tryz.func117 rfl rfl rfl (by simp) ?_
  have hB := fun cfg h r => hBE (prim := prim) d hp cfg h r
  have hx := atI (l := t) (i := i) (by omega)
  have hy := atI (l := t) (i := i + 1) (by omega)
  have hn1 : ((i : Int) + 1).toNat = i + 1 := by omega
  have hm : md 189 = 0 := rfl
  obtain ⟨x, hxE⟩ : ∃ x, cBr (lgI t i) = x := ⟨_, rfl⟩
  obtain ⟨y, hyE⟩ : ∃ y, cBr (lgI t (i + 1)) = y := ⟨_, rfl⟩
  obtain ⟨v, hv⟩ : ∃ v, prtB (t.map cBr) (i + 1) = v := ⟨_, rfl⟩
  rw [hv]
  have hv : (if x = 1 ∧ y = 2 then false else if ctS x = true ∨ ctS y = true then true else if x = 9 ∧ (y = 9 ∨ y = 10 ∨ y = 12 ∨ y = 13) then false else if (x = 12 ∨ x = 10) ∧ (y = 10 ∨ y = 11) then false else if (x = 13 ∨ x = 11) ∧ y = 11 then false else if y = 4 ∨ y = 5 ∨ y = 8 ∨ x = 7 then false else if y = 14 ∧ (x = 5 ∧ pcG (t.map cBr) i = true) then false else if x = 6 ∧ y = 6 then decide (((riG (t.map cBr) (i + 1) : Nat) : Int).tmod 2 = 0) else true) = v := by
    rw [← hv]
    unfold prtB
    simp only [Nat.add_sub_cancel, cMap (show i < t.length by omega), cMap hi, hxE, hyE]
  simp
  refine wC_draw 10 (by kernel_rfl) ?_
  simp +contextual (disch := first | omega | (simp; done) | (simp [Decidable.imp_iff_not_or]; done) | fail) [-wG_bool, wG_q, wG_q2, wGq_some, wGq_true, wGq_false, gq_true, gq_false, pickV_qA, pickV_qO, wrap64, -getElem?_pos, hm, hB, hx, hy, hn1, hxE, hyE]
  refine wIf_intro (fun hb => ?_) (fun hb => ?_)
  · have g : x = 1 ∧ y = 2 := by simp [ctS] at hb ⊢; omega
    rw [if_pos g] at hv
    subst hv
    simp
  have g1 : ¬ (x = 1 ∧ y = 2) := by simp [ctS] at hb ⊢; omega
  rw [if_neg g1] at hv
  simp +contextual (disch := first | omega | (simp; done) | (simp [Decidable.imp_iff_not_or]; done) | fail) [-wG_bool, wG_q, wG_q2, wGq_some, wGq_true, wGq_false, gq_true, gq_false, pickV_qA, pickV_qO]
  refine wIf_intro (fun hb => ?_) (fun hb => ?_)
  · have g : ctS x = true ∨ ctS y = true := by simp [ctS] at hb ⊢; omega
    rw [if_pos g] at hv
    subst hv
    simp
  have g2 : ¬ (ctS x = true ∨ ctS y = true) := by simp [ctS] at hb ⊢; omega
  rw [if_neg g2] at hv
  simp +contextual (disch := first | omega | (simp; done) | (simp [Decidable.imp_iff_not_or]; done) | fail) [-wG_bool, wG_q, wG_q2, wGq_some, wGq_true, wGq_false, gq_true, gq_false, pickV_qA, pickV_qO]
  refine wIf_intro (fun hb => ?_) (fun hb => ?_)
  · have g : x = 9 ∧ (y = 9 ∨ y = 10 ∨ y = 12 ∨ y = 13) := by simp [ctS] at hb ⊢; omega
    rw [if_pos g] at hv
    subst hv
    simp
  have g3 : ¬ (x = 9 ∧ (y = 9 ∨ y = 10 ∨ y = 12 ∨ y = 13)) := by simp [ctS] at hb ⊢; omega
  rw [if_neg g3] at hv
  simp +contextual (disch := first | omega | (simp; done) | (simp [Decidable.imp_iff_not_or]; done) | fail) [-wG_bool, wG_q, wG_q2, wGq_some, wGq_true, wGq_false, gq_true, gq_false, pickV_qA, pickV_qO]
  refine wIf_intro (fun hb => ?_) (fun hb => ?_)
  · have g : (x = 12 ∨ x = 10) ∧ (y = 10 ∨ y = 11) := by simp [ctS] at hb ⊢; omega
    rw [if_pos g] at hv
    subst hv
    simp
  have g4 : ¬ ((x = 12 ∨ x = 10) ∧ (y = 10 ∨ y = 11)) := by simp [ctS] at hb ⊢; omega
  rw [if_neg g4] at hv
  simp +contextual (disch := first | omega | (simp; done) | (simp [Decidable.imp_iff_not_or]; done) | fail) [-wG_bool, wG_q, wG_q2, wGq_some, wGq_true, wGq_false, gq_true, gq_false, pickV_qA, pickV_qO]
  refine wIf_intro (fun hb => ?_) (fun hb => ?_)
  · have g : (x = 13 ∨ x = 11) ∧ y = 11 := by simp [ctS] at hb ⊢; omega
    rw [if_pos g] at hv
    subst hv
    simp
  have g5 : ¬ ((x = 13 ∨ x = 11) ∧ y = 11) := by simp [ctS] at hb ⊢; omega
  rw [if_neg g5] at hv
  simp +contextual (disch := first | omega | (simp; done) | (simp [Decidable.imp_iff_not_or]; done) | fail) [-wG_bool, wG_q, wG_q2, wGq_some, wGq_true, wGq_false, gq_true, gq_false, pickV_qA, pickV_qO]
  refine wIf_intro (fun hb => ?_) (fun hb => ?_)
  · have g : y = 4 ∨ y = 5 ∨ y = 8 ∨ x = 7 := by simp [ctS] at hb ⊢; omega
    rw [if_pos g] at hv
    subst hv
    simp
  have g6 : ¬ (y = 4 ∨ y = 5 ∨ y = 8 ∨ x = 7) := by simp [ctS] at hb ⊢; omega
  rw [if_neg g6] at hv
  simp +contextual (disch := first | omega | (simp; done) | (simp [Decidable.imp_iff_not_or]; done) | fail) [-wG_bool, wG_q, wG_q2, wGq_some, wGq_true, wGq_false, gq_true, gq_false, pickV_qA, pickV_qO]
  refine wIf_intro (fun hb => ?_) (fun hb => ?_)
  · obtain ⟨rfl, rfl⟩ : y = 14 ∧ x = 5 := by simpa using hb
    have hv : (if pcG (t.map cBr) i = true then false else true) = v := by simpa using hv
    simp (disch := omega) [wrap64]
    refine wC_loop (fun m fr H => ∃ q : Nat, q ≤ i ∧ m = q ∧ pcG (t.map cBr) i = pcG (t.map cBr) q ∧ H = [] ∧ Slots 160 [(0, rl t), (1, .int .i64 ((i : Int) + 1)), (5, .int .i64 5), (6, .int .i64 14), (7, .int .i64 ((q : Int) - 1))] fr) (m := i) (by omega) ⟨i, by omega, rfl, rfl, rfl, by simp; omega⟩ ?_
    rintro m fr H ⟨q, hq, hmq, hpc, rfl, hs⟩
    replace hmq := hmq.symm
    subst hmq
    obtain ⟨j, rfl⟩ := hs.ex
    clear hs
    rcases q with _ | q
    · have hv : v = true := by rw [← hv, hpc]; rfl
      subst hv
      simp +contextual (disch := first | omega | (simp; done) | (simp [Decidable.imp_iff_not_or]; done) | fail) [-wG_bool, wG_q, wG_q2, wGq_some, wGq_true, wGq_false, gq_true, gq_false, pickV_qA, pickV_qO, wrap64, -getElem?_pos, hB, atI]
    · have e1 : ((q + 1 : Nat) : Int) - 1 = q := by omega
      have hq2 : q < t.length := by omega
      have hpq : pcG (t.map cBr) (q + 1) = if cBr (lgI t q) = 4 then pcG (t.map cBr) q else decide (cBr (lgI t q) = 14) := by rw [pcG, cMap hq2]
      rw [e1]
      by_cases h4 : cBr (lgI t q) = 4
      · rw [if_pos h4] at hpq
        simp (disch := omega) [hB, atI hq2, h4, wrap64, -getElem?_pos]
        exact Rnd_of (m' := q) (by omega) ⟨q, by omega, rfl, hpc.trans hpq, rfl, by simp⟩
      · rw [if_neg h4] at hpq
        by_cases h14 : cBr (lgI t q) = 14
        · have hv : v = false := by rw [← hv, hpc, hpq]; simp [h14]
          subst hv
          simp (disch := omega) [hB, atI hq2, h14, wrap64, -getElem?_pos]
        · have hv : v = true := by rw [← hv, hpc, hpq]; simp [h14]
          subst hv
          simp (disch := omega) [hB, atI hq2, h4, h14, wrap64, -getElem?_pos]
  have g7 : ¬ (y = 14 ∧ (x = 5 ∧ pcG (t.map cBr) i = true)) := by simp at hb ⊢; omega
  rw [if_neg g7] at hv
  by_cases h66 : x = 6 ∧ y = 6
  · obtain ⟨rfl, rfl⟩ := h66
    simp (disch := omega) [wrap64]
    refine wC_loop (fun m fr H => ∃ (q n : Nat), q ≤ i + 1 ∧ m = q ∧ n + q ≤ i + 1 ∧ riG (t.map cBr) (i + 1) = n + riG (t.map cBr) q ∧ H = [] ∧ Slots 160 [(0, rl t), (8, .int .i64 n), (9, .int .i64 ((q : Int) - 1))] fr) (m := i + 1) (by omega) ⟨i + 1, 0, by omega, rfl, by omega, by omega, rfl, by simp⟩ ?_
    rintro m fr H ⟨q, n, hq, hmq, hnq, hri, rfl, hs⟩
    replace hmq := hmq.symm
    subst hmq
    obtain ⟨j, rfl⟩ := hs.ex
    clear hs
    rw [if_pos ⟨rfl, rfl⟩] at hv
    rcases q with _ | q
    · have hri2 : riG (t.map cBr) (i + 1) = n := by rw [hri]; rfl
      rw [hri2] at hv
      subst hv
      simp (disch := omega)
    · have e1 : ((q + 1 : Nat) : Int) - 1 = q := by omega
      have hq2 : q < t.length := by omega
      have hpq : riG (t.map cBr) (q + 1) = if cBr (lgI t q) = 6 then riG (t.map cBr) q + 1 else 0 := by rw [riG, cMap hq2]
      rw [e1]
      by_cases h6 : cBr (lgI t q) = 6
      · rw [if_pos h6] at hpq
        simp (disch := omega) [hB, atI hq2, h6, wrap64, -getElem?_pos]
        exact Rnd_of (m' := q) (by omega) ⟨q, n + 1, by omega, rfl, by omega, by omega, rfl, by simp⟩
      · rw [if_neg h6] at hpq
        have hri2 : riG (t.map cBr) (i + 1) = n := by omega
        rw [hri2] at hv
        subst hv
        simp (disch := omega) [hB, atI hq2, h6, wrap64, -getElem?_pos]
  · rw [if_neg h66] at hv
    subst hv
    simp +contextual (disch := first | omega | (simp; done) | (simp [Decidable.imp_iff_not_or]; done) | fail) [-wG_bool, wG_q, wG_q2, wGq_some, wGq_true, wGq_false, gq_true, gq_false, pickV_qA, pickV_qO, wrap64, -getElem?_pos]
    refine wIf_intro (fun hb => absurd (by simpa using hb) h66) (fun _ => by simp)
set_option maxHeartbeats 4000000 in
theorem rclus_ok (hp : ∀ f, Np5 f → prim f = none) (t : List Int) (ht : t.length ≤ 2000) (cfg : Cfg) (h : Heap) :
    callM md (K prim (d + 4)) cfg 75 [rl t] h = some (il (cluS t), h) := by
  refine call0 rfl (hp 75 (by decide)) Tryz.func75 rfl rfl rfl (by simp) ?_
  have ht2 : ¬ (2000 : Int) < t.length := by omega
  by_cases h0 : t = []
  · subst h0
    simp [cluS]
  have hpos : 0 < t.length := List.length_pos_iff.2 h0
  have h1 : ¬ (t.length : Int) = 0 := by omega
  have hfin : cluS t = cluT (t.map cBr) (t.length - 1) ++ [(t.length : Int)] := by unfold cluS; rw [if_neg h0]
  rw [hfin]
  obtain ⟨c, hc⟩ : ∃ c, t.map cBr = c := ⟨_, rfl⟩
  rw [hc]
  simp (disch := omega) [h0, ht2]
  refine wC_loop (fun m fr H => ∃ (q : Nat) (v : V), q + 1 ≤ t.length ∧ m = t.length - (q + 1) ∧ Hp H [] [(1, v, (cluT c q).map (V.int .i64))] ∧
    Slots 32 [(0, rl t), (3, v), (4, .int .i64 ((q : Int) + 1))] fr) (m := t.length - 1) (by omega) ⟨0, .sl 0 0 1 1 1, by omega, by omega, by simpa [cluT] using (Hp.start (H := [])).new (cs := [V.int .i64 0]) (n := 1) (k := 1) rfl rfl [], by simp⟩ ?_
  rintro m fr H ⟨q, v, hq, rfl, hhp, hs⟩
  obtain ⟨j, rfl⟩ := hs.ex
  clear hs
  have hll := cluT_len (c := c) q
  by_cases hlt : q + 1 < t.length
  · have hI : (q : Int) + 1 < t.length := by omega
    have hbd := fun cfg h => bndE_ok (prim := prim) d hp t ht q hlt cfg h
    rw [hc] at hbd
    have hT : cluT c (q + 1) = if prtB c (q + 1) = true then cluT c q ++ [((q + 1 : Nat) : Int)] else cluT c q := rfl
    cases hb : prtB c (q + 1)
    · rw [hb, if_neg (by simp)] at hT
      rw [hb] at hbd
      simp (disch := omega) [hI, hbd, wrap64]
      exact Rnd_of (m' := t.length - (q + 1 + 1)) (by omega) ⟨q + 1, v, by omega, by omega, by rw [hT]; exact hhp, by simp (disch := omega)⟩
    · rw [hb, if_pos rfl] at hT
      rw [hb] at hbd
      have hbn : blockOf (H ++ [some [V.int .i64 ((q : Int) + 1)]]) H.length = some [V.int .i64 ((q : Int) + 1)] := by rw [blockOf_len' rfl]; rfl
      simp (disch := omega) [hI, hbd, hbn, wrap64]
      refine wS_appO (m := 1) (hhp.push [some [V.int .i64 ((q : Int) + 1)]]) (by simp) rfl rfl (by omega) (by omega) (by simp; omega) (by simp; omega) ?_
      intro v' H' hhp2
      simp (disch := omega) [wrap64]
      refine Rnd_of (m' := t.length - (q + 1 + 1)) (by omega) ⟨q + 1, v', by omega, by omega, ?_, by simp (disch := omega)⟩
      rw [hT]
      simpa using hhp2
  · obtain rfl : q = t.length - 1 := by omega
    have hI : ¬ ((t.length - 1 : Nat) : Int) + 1 < t.length := by omega
    have hbn : blockOf (H ++ [some [V.int .i64 (t.length : Int)]]) H.length = some [V.int .i64 (t.length : Int)] := by rw [blockOf_len' rfl]; rfl
    simp (disch := omega) [hI, hbn]
    refine wS_appO (m := 1) (hhp.push [some [V.int .i64 (t.length : Int)]]) (by simp) rfl rfl (by omega) (by omega) (by simp; omega) (by simp; omega) ?_
    intro v' H' hhp2
    have f1 := OwnC.frzI (d := 4) (kd := .i64) (l := cluT c (t.length - 1) ++ [(t.length : Int)]) (n := 0) (by simpa using hhp2.head) (Nat.zero_le _)
    simp (disch := omega)
    exact f1
end
end Bi
end Go.Ab
