/- The levels of a text: the program. -/
import Derived.Test.YtcedojbifnangaaBiLev0
namespace Go.Ab
open Go.Proofs
namespace Bi
theorem baseS_rng {B : Int → Int} {t : List Int} {base : Int} : 0 ≤ baseS B t base ∧ baseS B t base ≤ 1 := by
  unfold baseS
  split
  · omega
  · have := fs_val (t.map B).length (t.map B)
    unfold fs
    omega
section
variable {prim : FuncId → Option Prim} (d : Nat) (cfg : Cfg) (h : Heap)
theorem blank_ok (hp : prim 37 = none) (hp2 : prim 53 = none) (x : Int) : callM md (K prim (d + 2)) cfg 37 [.int .i64 x] h = some (.bool (blankB x), h) := by
  refine call0 rfl hp Try.func37 rfl rfl rfl (by simp) ?_
  have hI := fun cfg h x => ini_ok (prim := prim) d cfg h hp2 x
  unfold blankB
  by_cases h12 : x = 12
  · simp [h12]
  · by_cases h22 : x = 22
    · simp [h22]
    · by_cases h9 : x = 9
      · simp [h9]
      · by_cases h16 : x = 16
        · simp [h16]
        · by_cases h14 : x = 14
          · simp [h14]
          · by_cases h17 : x = 17
            · simp [h17]
            · by_cases h15 : x = 15
              · simp [h15]
              · by_cases h18 : x = 18
                · simp [h18]
                · simp [hI, h12, h22, h9, h16, h14, h17, h15, h18]
theorem clone_ok (hp : prim 27 = none) (l : List Int) (hl : l ≠ []) (hll : l.length ≤ 2000) : callM md (K prim (d + 1)) ⟨0, none, 0⟩ 27 [il l] [] = some (.sl 1 0 l.length l.length 1, [none, some (l.map (V.int .i64))]) := by
  obtain ⟨a, r, rfl⟩ : ∃ a r, l = a :: r := by
    cases l with
    | nil => exact absurd rfl hl
    | cons a r => exact ⟨a, r, rfl⟩
  refine call2 rfl hp Try.func27 rfl rfl rfl ?_
  have hnl : binV Try.prog .eql 22 (il (a :: r)) .nils = some (.bool false) := by kernel_rfl
  simp only [List.length_cons] at hll
  simp (disch := omega) [hnl]
  rw [appD_grow (cs := []) rfl rfl (by omega) (by omega) (by omega) (by simp), wS_some]
  simp
set_option maxRecDepth 100000 in
set_option maxHeartbeats 8000000 in
theorem levels_ok (hp : ∀ f, f ≠ 17 ∧ f ≠ 82 → prim f = none) (hps : prim 82 = some (sortP 83 fbS)) (t : List Int) (ht : t.length ≤ 2000) (hne : t ≠ []) (base : Int) :
    ∃ r' h', K prim (d + 8) ⟨0, none, 0⟩ 15 [rl t, .int .i64 base] [] = some (r', h') ∧ (own h' 6 r' = true ∧ ∃ r, frz h' 0 6 r' = some (il r) ∧ LevR t base r) := by
  have hB1 : ∀ cfg h r, callM md (K prim (d + 6)) cfg 20 [.int .i32 r] h = some (.int .i64 (bidi r), h) := fun cfg h r => bidi_ok (prim := prim) (d + 3) cfg h (fun f hf => hp f ⟨hf.1, hf.2.1⟩) r
  have hB2 : ∀ cfg h r, callM md (K prim (d + 5)) cfg 20 [.int .i32 r] h = some (.int .i64 (bidi r), h) := fun cfg h r => bidi_ok (prim := prim) (d + 2) cfg h (fun f hf => hp f ⟨hf.1, hf.2.1⟩) r
  refine callN_of (R := fun r' h' => own h' 6 r' = true ∧ ∃ r, frz h' 0 6 r' = some (il r) ∧ LevR t base r) (hp 15 (by decide)) Try.func15 rfl rfl rfl ?_
  have hC := fun cfg h => classes_ok (prim := prim) (d + 5) cfg h (hp 26 (by decide)) bidi hB1 t ht
  unfold LevR
  have hol : (t.map bidi).length = t.length := by simp
  have hone : t.map bidi ≠ [] := by simpa using hne
  generalize ho : t.map bidi = o at *
  have hCl := clone_ok (prim := prim) (d + 6) (hp 27 (by decide)) o hone (by omega)
  obtain ⟨M, hMa, hM⟩ := matching_ok (prim := prim) (d + 5) (hp 28 (by decide)) (hp 53 (by decide)) o (by omega)
  have hBa := fun cfg h => base_ok (prim := prim) (d + 4) cfg h hp bidi hB2 t ht base
  have he : 0 ≤ baseS bidi t base ∧ baseS bidi t base ≤ 1 := baseS_rng
  generalize hbe : baseS bidi t base = e at *
  have hnI : ¬ (2000 : Int) < t.length := by omega
  simp (disch := omega) [hnI, hC]
  refine wC_draw 12 (by kernel_rfl) ?_
  have hm27 : md 27 = 2 := rfl
  have hm28 : md 28 = 0 := rfl
  have hm29 : md 29 = 3 := rfl
  simp (disch := omega) [hCl, hMa, hBa, hm27, hm28, hm29]
  have hH : [none, some (o.map (V.int .i64)), some (zerosFor [V.int .i64 0] t.length), some [rl t, il o, V.sl 1 0 o.length o.length 1, il M, V.sl 2 0 t.length t.length 1, V.int .i64 e]] =
      [none, some (o.map (V.int .i64)), some ((List.replicate t.length 0).map (V.int .i64)), some (pcs t o M t.length e)] := by
    rw [zerosFor_int, hol]
  rw [hH]
  have hE := explicit_ok (prim := prim) (d + 4) hp t o M hM t.length hol ht e he (List.replicate t.length 0) (by simp)
  simp only [List.map_replicate] at hE
  have hxl := expl_len e o
  have hlr := expl_rng he o
  have hcl : ((expl e o).map (·.2)).length = t.length := by simp [hxl, hol]
  have hll : ((expl e o).map (·.1)).length = t.length := by simp [hxl, hol]
  generalize hc0 : (expl e o).map (·.2) = c0 at *
  generalize hl0 : (expl e o).map (·.1) = lv at *
  obtain ⟨rS, hS2, hSc, rfl, rfl⟩ := sequences_ok (prim := prim) (d + 2) hp t o M t.length e he.1 ht rfl hol hM lv hll (fun x hx => (hlr x hx).1) none (some (c0.map (V.int .i64))) []
  have hsf := fun s hs => sq_facts (e := e) hM hol hll hlr (s := s) hs
  have hsl : (seqsS o M lv t.length e).length ≤ t.length := by
    unfold seqsS
    have h1 := sqsU_len o (fol o M (grp lv (keptL o t.length) (keptL o t.length).length)) (grp lv (keptL o t.length) (keptL o t.length).length) lv (keptL o t.length) e (grp lv (keptL o t.length) (keptL o t.length).length).length
    have h2 := grp_len lv (keptL o t.length) (keptL o t.length).length
    have h3 := keptL_len o t.length
    omega
  generalize hSS : seqsS o M lv t.length e = ss at *
  simp (disch := omega) [hE, hSc]
  have hlen : lenV Try.prog 49 (sqv ss) = some (.int .i64 ss.length) := by
    unfold sqv
    rw [lenL_eq (e := 52) (by kernel_rfl)]
    simp
  simp (disch := omega) [hlen]
  refine wC_loop (fun m fr H => ∃ (i : Nat) (c y : List Int) (T : Heap), i ≤ ss.length ∧ m = ss.length - i ∧ H = none :: some (c.map (V.int .i64)) :: some (y.map (V.int .i64)) :: some (pcs t o M t.length e) :: T ∧ c.length = t.length ∧ y.length = t.length ∧ (∀ x ∈ y, 0 ≤ x ∧ x ≤ 125 + 2 * (i : Int)) ∧ Stps t o (ss.take i) c0 lv c y ∧
    Slots 133 [(0, rl t), (5, il o), (6, .ptr 3 0), (34, sqv ss), (35, .int .i64 ss.length), (36, .int .i64 i)] fr) (m := ss.length) (by omega) ⟨0, c0, lv, [], by omega, by omega, rfl, hcl, hll, fun x hx => by have := hlr x hx; omega, ⟨rfl, rfl⟩, by simp⟩ ?_
  rintro m fr H ⟨i, c, y, T, hi, rfl, rfl, hcn, hyn, hyr, hst, hs⟩
  obtain ⟨j, rfl⟩ := hs.ex
  clear hs
  by_cases hlt : i < ss.length
  · obtain ⟨s, hs⟩ : ∃ s, ss[i]? = some s := ⟨_, List.getElem?_eq_getElem hlt⟩
    obtain ⟨f1, f2, f3, f4⟩ := hsf s (List.mem_of_getElem? hs)
    have hidx : indexAddrV Try.prog 49 (sqv ss) (.int .i64 i) = some (.lptr (sqr s) 0) := by
      unfold sqv
      rw [idxL_eq (e := 52) (s := 4) (by kernel_rfl) (by kernel_rfl), idxL_of (by omega), Int.toNat_natCast, List.getElem?_map, hs]
      rfl
    have htk : ss.take (i + 1) = ss.take i ++ [s] := by rw [List.take_add_one, hs]; rfl
    have hiI : (i : Int) < ss.length := by omega
    have b4 : ∀ x T', isMap x = false → blockOf (T ++ some x :: T') T.length = some x := fun x T' hx => by
      have := blockOf_len_add (h := T) (r := some x :: T') (k := 0)
      simp [hx]
    simp (disch := omega) [hlt, hidx, sqr]
    obtain ⟨T1, hT1⟩ : ∃ T1 : Heap, T1 = T ++ [some [il s.l, .int .i64 s.lev, .int .i64 s.sos, .int .i64 s.eos]] := ⟨_, rfl⟩
    have hb1 : blockOf T1 T.length = some [il s.l, .int .i64 s.lev, .int .i64 s.sos, .int .i64 s.eos] := by rw [hT1]; simp
    rw [← hT1]
    obtain ⟨c1, w1, hW⟩ := weak_ok (prim := prim) (d + 5) hp t o M t.length e c s.l hcn ht f1 (by omega) y T1 s.lev s.sos s.eos 0
    have hc1 : c1.length = t.length := w1.len.trans hcn
    have hzl : ((s.l.map (lvl c1)).zip (s.l.map (lvl t))).length ≤ 2000 := by simp; omega
    have hzl2 : ((s.l.map (lvl c1)).zip (s.l.map (lvl t))).length ≤ s.l.length := by simp
    obtain ⟨q1, q2⟩ := prsS_ok hzl
    have hP : ∀ cfg T', callM md (K prim (d + 4 + 2)) cfg 60 [.ptr 3 0, .agg [il s.l, .int .i64 s.lev, .int .i64 s.sos, .int .i64 s.eos]] (none :: some (c1.map (V.int .i64)) :: some (y.map (V.int .i64)) :: some (pcs t o M t.length e) :: (T1 ++ T')) = some (pl64 (prsS ((s.l.map (lvl c1)).zip (s.l.map (lvl t)))), none :: some (c1.map (V.int .i64)) :: some (y.map (V.int .i64)) :: some (pcs t o M t.length e) :: (T1 ++ T')) := by
      intro cfg T'
      have := pairs_ok (prim := prim) (d + 3) hp t o M t.length e c1 s.l hc1 rfl ht f1 (by omega) y (T1 ++ T') s.lev s.sos s.eos srtS srtS_len
        (fun cfg H b cap out J h1 h2 h3 h4 => sort_ok (prim := prim) (d + 4) hps cfg H b cap out J h2 h1 h3 h4) (fun cfg H => sort0_ok (prim := prim) (d + 4) hps cfg H) cfg
      rw [this]
      unfold prsS
      cases pgo 0 ((s.l.map (lvl c1)).zip (s.l.map (lvl t))) ⟨[], []⟩ <;> rfl
    obtain ⟨c2, w2, hBr⟩ := brackets_ok (prim := prim) (d + 4) hp t o M t.length e c1 s.l hc1 hol ht f1 (by omega) y T1 s.lev s.sos s.eos ⟨f3.1, by omega⟩ 0 _ (fun p hp => by have := q1 p hp; omega) q2 hP
    have hc2 : c2.length = t.length := w2.len.trans hc1
    obtain ⟨c3, w3, hNe⟩ := neutrals_ok (prim := prim) (d + 4) hp t o M t.length e c2 s.l hc2 ht f1 (by omega) y T1 s.lev s.sos s.eos ⟨f3.1, by omega⟩ 0
    have hc3 : c3.length = t.length := w3.len.trans hc2
    have hyb : ∀ i ∈ s.l, 0 ≤ lvl y i ∧ lvl y i ≤ 100000 := by
      intro k hk
      have := hyr (lvl y k) (lvl_mem (l := s.l) (fun i hi => by have := f1.rng i hi; omega) (List.mem_map_of_mem hk))
      omega
    obtain ⟨y3, w4, hIm⟩ := implicit_ok (prim := prim) (d + 6) (hp 35 (by decide)) t o M t.length e c3 s.l hc3 ht f1 y hyn (by omega) T1 s.lev s.sos s.eos ⟨f3.1, by omega⟩ hyb 0
    have hstp : Stp t o s c y c3 y3 := ⟨c1, c2, w1, w2, w3, w4⟩
    simp (disch := omega) [hW, hBr, hNe, hIm, hb1, wrap64]
    refine Rnd_of (m' := ss.length - (i + 1)) (by omega) ⟨i + 1, c3, y3, T1, by omega, rfl, rfl, hc3, (Stp.len hstp).2.trans hyn, fun x hx => ?_, by rw [htk]; exact hst.snoc hstp, by simp (disch := omega)⟩
    have := Stp.rng hstp f1 hyn hyr x hx
    omega
  · obtain rfl : i = ss.length := by omega
    rw [List.take_length] at hst
    simp (disch := omega)
    have hoy : o.length = y.length := by rw [hol, hyn]
    have hR := fun cfg y0 y1 y2 T => removed_ok (prim := prim) (d + 6) cfg (hp 36 (by decide)) t o M t.length e y0 y1 y2 T
    refine wC_loop (fun m fr H => ∃ (i : Nat), i ≤ t.length ∧ m = t.length - i ∧ H = none :: some (c.map (V.int .i64)) :: some ((remU e o y i).map (V.int .i64)) :: some (pcs t o M t.length e) :: T ∧
      Slots 133 [(0, rl t), (5, il o), (6, .ptr 3 0), (53, rl t), (54, .int .i64 t.length), (55, .int .i64 i)] fr) (m := t.length) (by omega) ⟨0, by omega, by omega, by rw [remU_zero], by simp⟩ ?_
    rintro m fr H ⟨i, hi, rfl, rfl, hs⟩
    obtain ⟨j2, rfl⟩ := hs.ex
    clear hs
    have hul := remU_len (p := e) hoy i
    by_cases hlt : i < t.length
    · obtain ⟨x, hx⟩ : ∃ x, o[i]? = some x := ⟨_, List.getElem?_eq_getElem (by omega)⟩
      obtain ⟨a, ha⟩ : ∃ a, y[i]? = some a := ⟨_, List.getElem?_eq_getElem (by omega)⟩
      have hiI : (i : Int) < t.length := by omega
      have hi1 : i + 1 ≤ t.length := hlt
      cases hg : gone x
      · have hz : (remL e o y)[i]? = some a := by
          cases i with
          | zero => have := remL_zero (p := e) hx ha; rw [hg] at this; exact this
          | succ i =>
            obtain ⟨q, hq⟩ : ∃ q, (remL e o y)[i]? = some q := ⟨_, List.getElem?_eq_getElem (by rw [remL_len _ _ _ hoy]; omega)⟩
            have := remL_succ o y e i x a q hx ha hq
            rw [hg] at this
            exact this
        have hsame : remU e o y (i + 1) = remU e o y i := by
          rw [← remU_set hoy (by omega) hz, set_at]
          rw [remU_hi hoy (by omega)]
          exact ha
        simp (disch := omega) [hlt, hR _ _ _ _ _ i _ hx, hg, wrap64, -getElem?_pos]
        exact Rnd_of (m' := t.length - (i + 1)) (by omega) ⟨i + 1, by omega, rfl, by rw [hsame], by simp (disch := omega)⟩
      · by_cases hi0 : i = 0
        · subst hi0
          have hz : (remL e o y)[0]? = some e := by have := remL_zero (p := e) hx ha; rw [hg] at this; exact this
          have hset := remU_set hoy (by omega) hz
          have hR0 := fun cfg y0 y1 y2 T => hR cfg y0 y1 y2 T 0 _ hx
          simp only [Int.natCast_zero] at hR0
          have hR0' : ∀ (cfg : Cfg) (y0 y1 y2 : Option (List V)) (T : Heap), callM md (K prim (d + 6 + 1)) cfg 36 [V.ptr 3 0, V.int .i64 0] (y0 :: y1 :: y2 :: some (pcs t o M t.length e) :: T) = some (.bool (gone x), y0 :: y1 :: y2 :: some (pcs t o M t.length e) :: T) := hR0
          simp (disch := omega) [hlt, hR0', hg, -getElem?_pos]
          refine wC_draw 9 (by kernel_rfl) ?_
          have h1t : 1 ≤ t.length := hlt
          simp (disch := omega) [hul, hyn, h1t, wrap64, -getElem?_pos]
          exact Rnd_of (m' := t.length - (0 + 1)) (by omega) ⟨0 + 1, by omega, rfl, by rw [← hset, List.map_set], by simp (disch := omega)⟩
        · obtain ⟨q, hq⟩ : ∃ q, (remL e o y)[i - 1]? = some q := ⟨_, List.getElem?_eq_getElem (by rw [remL_len _ _ _ hoy]; omega)⟩
          have hz : (remL e o y)[i]? = some q := by
            obtain ⟨k, rfl⟩ : ∃ k, i = k + 1 := ⟨i - 1, by omega⟩
            have := remL_succ o y e k x a q hx ha hq
            rw [hg] at this
            exact this
          have hset := remU_set hoy (by omega) hz
          have hq2 : (remU e o y i)[i - 1]? = some q := by rw [remU_at hoy (by omega) (by omega)]; exact hq
          have hiI0 : ¬ (i : Int) = 0 := by omega
          have hin : ((i : Int) - 1).toNat = i - 1 := by omega
          simp (disch := omega) [hlt, hR _ _ _ _ _ i _ hx, hg, hi0, -getElem?_pos]
          refine wC_draw 13 (by kernel_rfl) ?_
          simp (disch := omega) [hul, hyn, hq2, hin, hi1, wrap64, -getElem?_pos]
          exact Rnd_of (m' := t.length - (i + 1)) (by omega) ⟨i + 1, by omega, rfl, by rw [← hset, List.map_set], by simp (disch := omega)⟩
    · obtain rfl : i = t.length := by omega
      have hra : remU e o y t.length = remL e o y := by rw [← hyn]; exact remU_all hoy
      rw [hra]
      have hrl := remL_len o y e hoy
      generalize hZ : remL e o y = z at *
      have hoz : o.length = z.length := by omega
      obtain ⟨ta1, ta2⟩ := trU_all (e := e) hoz
      have hzn : z.length = t.length := by omega
      rw [hzn] at ta1 ta2
      have hBl := fun cfg h x => blank_ok (prim := prim) (d + 5) cfg h (hp 37 (by decide)) (hp 53 (by decide)) x
      simp (disch := omega) [wrap64]
      refine wC_loop (fun m fr H => ∃ (k : Nat), k ≤ t.length ∧ m = k ∧ H = none :: some (c.map (V.int .i64)) :: some ((trU e o z k).map (V.int .i64)) :: some (pcs t o M t.length e) :: T ∧
        Slots 133 [(0, rl t), (5, il o), (6, .ptr 3 0), (10, .bool (trF e o z k)), (11, .int .i64 ((k : Int) - 1))] fr) (m := t.length) (by omega) ⟨t.length, by omega, rfl, by rw [ta1], by rw [ta2]; simp⟩ ?_
      rintro m fr H ⟨k, hk, rfl, rfl, hs⟩
      obtain ⟨j3, rfl⟩ := hs.ex
      clear hs
      have hul := trU_len (e := e) hoz m
      by_cases hm0 : 0 < m
      · obtain ⟨k, rfl⟩ : ∃ k, m = k + 1 := ⟨m - 1, by omega⟩
        have hkn : k < t.length := by omega
        obtain ⟨x, hx⟩ : ∃ x, o[k]? = some x := ⟨_, List.getElem?_eq_getElem (by omega)⟩
        have hF := trF_step (e := e) hoz hx
        have hk1 : ((k + 1 : Nat) : Int) - 1 = k := by omega
        have hk0 : (0 : Int) ≤ (k : Int) := by omega
        have hyes := fun hb => trU_yes (e := e) hoz (k := k) (by omega) hb
        have hno := fun hb => trU_no (e := e) hoz (k := k) (by omega) hb
        rw [hk1]
        generalize hG : trF e o z (k + 1) = G at hF
        have hkl : k + 1 ≤ t.length := hkn
        unfold trB at hF
        simp (disch := omega) [hk0, hx, -getElem?_pos]
        by_cases h11 : x = 11
        · have hT : trF e o z k = true := by rw [hF, if_pos (.inl h11)]
          simp (disch := omega) [h11]
          refine wC_draw 9 (by kernel_rfl) ?_
          simp (disch := omega) [hul, hzn, hkl, wrap64, -getElem?_pos]
          exact Rnd_of (m' := k) (by omega) ⟨k, by omega, rfl, by rw [← hyes hT, List.map_set], by simp (disch := omega) [hT]⟩
        · simp (disch := omega) [h11, hx, -getElem?_pos]
          by_cases h10 : x = 10
          · have hT : trF e o z k = true := by rw [hF, if_pos (.inr h10)]
            simp (disch := omega) [h10]
            refine wC_draw 9 (by kernel_rfl) ?_
            simp (disch := omega) [hul, hzn, hkl, wrap64, -getElem?_pos]
            exact Rnd_of (m' := k) (by omega) ⟨k, by omega, rfl, by rw [← hyes hT, List.map_set], by simp (disch := omega) [hT]⟩
          · rw [if_neg (by omega)] at hF
            simp (disch := omega) [h10, hx, hBl, -getElem?_pos]
            cases hb : blankB x
            · rw [hb] at hF
              have hT : trF e o z k = false := hF
              simp (disch := omega)
              exact Rnd_of (m' := k) (by omega) ⟨k, by omega, rfl, by rw [hno hT], by simp (disch := omega) [wrap64, hT]⟩
            · rw [hb] at hF
              have hT : trF e o z k = G := hF
              cases G
              · simp (disch := omega)
                exact Rnd_of (m' := k) (by omega) ⟨k, by omega, rfl, by rw [hno hT], by simp (disch := omega) [wrap64, hT]⟩
              · simp (disch := omega)
                refine wC_draw 9 (by kernel_rfl) ?_
                simp (disch := omega) [hul, hzn, hkl, wrap64, -getElem?_pos]
                exact Rnd_of (m' := k) (by omega) ⟨k, by omega, rfl, by rw [← hyes hT, List.map_set], by simp (disch := omega) [hT]⟩
      · obtain rfl : m = 0 := by omega
        simp (disch := omega)
        rw [trU_zero] at hul ⊢
        have hbk : blockOf (none :: some (c.map (V.int .i64)) :: some ((trl e o z).2.map (V.int .i64)) :: some (pcs t o M t.length e) :: T) 2 = some ((trl e o z).2.map (V.int .i64)) := by simp [blockOf]
        have hln : t.length = (trl e o z).2.length := by omega
        refine ⟨?_, (trl e o z).2, ?_, M, hM, c, y, ?_, by rw [hZ]⟩
        · exact own_ints (d := 4) hbk
        · rw [hln]
          exact frz_ints (d := 4) hbk (Nat.zero_le _) rfl
        · rw [hSS]; exact hst
end
end Bi
end Go.Ab
