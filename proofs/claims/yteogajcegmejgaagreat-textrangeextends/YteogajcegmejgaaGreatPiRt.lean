/- The reference: levels. -/
import Derived.Test.YteogajcegmejgaaGreatPiRs
import Derived.Test.YteogajcegmejgaaGreatPiRr
import Derived.Test.YteogajcegmejgaaGreatPiRm
import Derived.Test.YteogajcegmejgaaGreatPiRq
import Derived.Test.YteogajcegmejgaaGreatPiPerm
namespace Go.Ab
open Go.Proofs
namespace Bi
def mixL (a b : List Int) (i : Nat) : List Int := a.take i ++ b.drop i
theorem mixL_len {a b : List Int} (h : a.length = b.length) (i : Nat) : (mixL a b i).length = b.length := by
  simp only [mixL, List.length_append, List.length_take, List.length_drop]
  omega
theorem mixL_zero (a b : List Int) : mixL a b 0 = b := by simp [mixL]
theorem mixL_all {a b : List Int} (h : a.length = b.length) : mixL a b b.length = a := by
  rw [mixL, List.drop_length, List.append_nil, ← h, List.take_length]
theorem mixL_set {a b : List Int} (h : a.length = b.length) {i : Nat} (hi : i < b.length) {v : Int} (hv : a[i]? = some v) : (mixL a b i).set i v = mixL a b (i + 1) := by
  unfold mixL
  have hl : (a.take i).length = i := by simp; omega
  rw [List.set_append_right _ _ (by omega), hl, Nat.sub_self, List.drop_eq_getElem_cons hi, List.set_cons_zero, List.take_add_one, hv]
  simp
theorem mixL_at {a b : List Int} (h : a.length = b.length) {i j : Nat} (hj : j < i) (hi : i ≤ b.length) : (mixL a b i)[j]? = a[j]? := by
  rw [mixL, List.getElem?_append_left (by simp; omega), List.getElem?_take_of_lt hj]
theorem rseq_WB {t c c1 c2 c3 : List Int} {s : Sq} {n : Nat} (hc : c.length = n) (hp : Pl n s.l) (h1 : WB c s.l (rweak s.sos (s.l.map (lvl (t.map bidi))) (s.l.map (lvl c))) c1)
    (_h2 : WB c s.l (brks (strS s.lev) s.sos (s.l.map (lvl (t.map bidi))) (prsS ((s.l.map (lvl c1)).zip (s.l.map (lvl t)))) (rweak s.sos (s.l.map (lvl (t.map bidi))) (s.l.map (lvl c)))) c2)
    (h3 : WB c s.l (neuF (strS s.lev) s.eos s.sos 0 (brks (strS s.lev) s.sos (s.l.map (lvl (t.map bidi))) (prsS ((s.l.map (lvl c1)).zip (s.l.map (lvl t)))) (rweak s.sos (s.l.map (lvl (t.map bidi))) (s.l.map (lvl c))))) c3) : WB c s.l (rseq t (t.map bidi) s c) c3 := by
  have e := WB_map h1 (fun i hi => by have := hp.rng i hi; omega)
  rw [e] at h3
  exact h3
section
variable {prim : FuncId → Option Prim} (d : Nat)
set_option maxRecDepth 100000 in
set_option maxHeartbeats 8000000 in
theorem rlevels_ok (hp : ∀ f, Np5 f → prim f = none) (t : List Int) (ht : t.length ≤ 2000) (hne : t ≠ []) (base : Int) :
    ∃ r, (∀ cfg h args, args.mapM (frzA h) = some [rl t, .int .i64 base] → callM md (K prim (d + 6)) cfg 58 args h = some (il r, h)) ∧ RLevR t base r := by
  suffices HH : ∃ r' h', K prim (d + 6) ⟨0, none, 0⟩ 58 [rl t, .int .i64 base] [] = some (r', h') ∧ (own h' 6 r' = true ∧ ∃ r, frz h' 0 6 r' = some (il r) ∧ RLevR t base r) by
    obtain ⟨r', h', h1, h2, r, h3, h4⟩ := HH
    refine ⟨r, fun cfg h args ha => ?_, h4⟩
    have hm : md 58 = 3 := rfl
    simp only [callM, hm, ha, h1, h2, h3, if_true]
  refine callN_of (R := fun r' h' => own h' 6 r' = true ∧ ∃ r, frz h' 0 6 r' = some (il r) ∧ RLevR t base r) (hp 58 (by decide)) Tryz.func58 rfl rfl rfl ?_
  have h38 := hp 57 (by decide)
  have h39 := hp 102 (by decide)
  have h40 := hp 103 (by decide)
  have h41 := hp 104 (by decide)
  have h42 := hp 105 (by decide)
  have h43 := hp 106 (by decide)
  have h44 := hp 107 (by decide)
  have h45 := hp 108 (by decide)
  have h46 := hp 109 (by decide)
  have h47 := hp 99 (by decide)
  have h63 := hp 100 (by decide)
  have h64 := hp 101 (by decide)
  have h65 := hp 133 (by decide)
  have h66 := hp 134 (by decide)
  have h67 := hp 135 (by decide)
  have h68 := hp 136 (by decide)
  have h69 := hp 137 (by decide)
  have h70 := hp 138 (by decide)
  have h71 := hp 132 (by decide)
  have h84 := hp 143 (by decide)
  have h91 := hp 141 (by decide)
  have hBa := fun cfg h => rbase_ok (prim := prim) (d + 1) cfg h h38 h64 h63 h71 h47 t ht base (args := [rl t, .int .i64 base]) rfl
  unfold RLevR
  have he : 0 ≤ baseS bidi t base ∧ baseS bidi t base ≤ 1 := baseS_rng
  have hEx := rexplicit_ok (prim := prim) d h39 h71 h47 h63 h64 h65 h38 t t.length rfl ht (baseS bidi t base) he
  obtain ⟨T, hEx⟩ := hEx
  have hSq := fun lv hlv e cfg h args ha => rseqs_ok (prim := prim) d cfg h h40 h45 h71 h47 h63 h64 t lv t.length rfl hlv ht e (args := args) ha
  have hon : (t.map bidi).length = t.length := by simp
  have hgt : ∀ (j : Nat) (z : Int), t[j]? = some z → (t.map bidi)[j]? = some (bidi z) := fun j z hz => by rw [List.getElem?_map, hz]; rfl
  have hG := fun cfg h r => rgone_ok (prim := prim) (d + 2) cfg h h45 h71 h47 r
  have hB := fun cfg h r => rbidi_ok (prim := prim) (d + 3) cfg h h71 h47 r
  generalize baseS bidi t base = e at *
  have hWk := fun c c0 l s st H b (hcn : c.length = t.length) (h0n : c0.length = t.length) hl hll hW hb => rweak_ok (prim := prim) (d + 2) ⟨0, none, 0⟩ h42 h71 h47 h63 t c c0 l s t.length rfl hcn h0n ht hl hll hW st H b hb (wr_lo0 ..)
  have hPr := fun cfg h c l (hcn : c.length = t.length) hl hll args ha => rpairs_ok (prim := prim) (d + 1) cfg h h67 h84 h91 t c l t.length hcn rfl ht hl hll (args := args) ha
  have hBk := fun c c0 l s0 (hcn : c.length = t.length) (h0n : c0.length = t.length) hl hll hW lv st hlv H b hb ps hps hpl hP => rbrackets_ok (prim := prim) (d + 1) ⟨0, none, 0⟩ h43 h69 h71 h47 h66 h68 t c c0 l s0 t.length rfl hcn h0n ht hl hll hW lv st hlv H b hb (wr_lo0 ..) ps hps hpl hP
  have hNe := fun c c0 l s (hcn : c.length = t.length) (h0n : c0.length = t.length) hl hll hW lv st e hlv H b hb => rneutral_ok (prim := prim) (d + 2) ⟨0, none, 0⟩ h44 h68 h66 c c0 l s t.length hcn h0n ht hl hll hW lv st e hlv H b hb (wr_lo0 ..)
  have hTr := fun lv (hlv : lv.length = t.length) k hk H b hb => rtrail_ok (prim := prim) (d + 2) ⟨0, none, 0⟩ h46 h71 h47 h70 h63 t lv t.length rfl hlv ht e k hk H b hb (wr_lo0 ..)
  have hEn := fun cfg h lv l (hlv : lv.length = t.length) hll f g hf hg hfn hgn hl0 args ha => rends_ok (prim := prim) (d + 1) cfg h h41 h71 h47 h63 h45 h66 t lv l t.length rfl hlv ht hll f g hf hg hfn hgn e hl0 (args := args) ha
  have hxl := expl_len e (t.map bidi)
  have hlr := expl_rng he (t.map bidi)
  have hcl : ((expl e (t.map bidi)).map (·.2)).length = t.length := by simp [hxl]
  have hll : ((expl e (t.map bidi)).map (·.1)).length = t.length := by simp [hxl]
  generalize hc0 : (expl e (t.map bidi)).map (·.2) = c0 at *
  generalize hl0 : (expl e (t.map bidi)).map (·.1) = lv at *
  have hS1 := hSq lv hll e
  have hsf := fun s hs => sq_facts (e := e) (Mc_ok (t.map bidi)) hon hll hlr (s := s) hs
  have hse := fun s hs => sq_ends (e := e) (Mc_ok (t.map bidi)) hon hll (s := s) hs
  have hsl : (seqsS (t.map bidi) (Mc (t.map bidi)) lv t.length e).length ≤ t.length := by
    unfold seqsS
    have h1 := sqsU_len (t.map bidi) (fol (t.map bidi) (Mc (t.map bidi)) (grp lv (keptL (t.map bidi) t.length) (keptL (t.map bidi) t.length).length)) (grp lv (keptL (t.map bidi) t.length) (keptL (t.map bidi) t.length).length) lv (keptL (t.map bidi) t.length) e (grp lv (keptL (t.map bidi) t.length) (keptL (t.map bidi) t.length).length).length
    have h2 := grp_len lv (keptL (t.map bidi) t.length) (keptL (t.map bidi) t.length).length
    have h3 := keptL_len (t.map bidi) t.length
    omega
  generalize hss : seqsS (t.map bidi) (Mc (t.map bidi)) lv t.length e = ss at *
  have hn0 : ¬ (t.length : Int) = 0 := by
    have := List.length_pos_iff.2 hne
    omega
  have hnI : ¬ (2000 : Int) < t.length := by omega
  have hn0' : ¬ t.length = 0 := by omega
  have hm39 : md 102 = 2 := rfl
  have hfz0 : ∀ X, frzA (some (lv.map (V.int .i64)) :: X) (.sl 0 0 t.length t.length 1) = some (il lv) := fun X => by
    have := frzA_front (h := some (lv.map (V.int .i64)) :: X) (b := 0) (cap := t.length) (k := .i64) (l := lv) (J := []) (by simp)
    rw [hll] at this
    exact this
  have hfz1 : ∀ (c : List Int) (a : Option (List V)) (X : Heap), c.length = t.length → frzA (a :: some (c.map (V.int .i64)) :: X) (.sl 1 0 t.length t.length 1) = some (il c) := fun c a X hc => by
    have := frzA_front (h := a :: some (c.map (V.int .i64)) :: X) (b := 1) (cap := t.length) (k := .i64) (l := c) (J := []) (by simp)
    rw [hc] at this
    exact this
  have hS2 : ∀ cfg X, callM md (K prim (d + 5)) cfg 103 [rl t, .sl 0 0 t.length t.length 1] (some (lv.map (V.int .i64)) :: X) = some (.lst (ss.map fun s => [il s.l]), some (lv.map (V.int .i64)) :: X) := fun cfg X => by
    have := hS1 cfg (some (lv.map (V.int .i64)) :: X) [rl t, .sl 0 0 t.length t.length 1] (by simp [List.mapM_cons, hfz0])
    exact this
  have hlen : lenV Tryz.prog 139 (.lst (ss.map fun s => [il s.l])) = some (.int .i64 ss.length) := by
    rw [lenL_eq (e := 22) (by kernel_rfl)]
    simp
  simp (disch := omega) [hn0', hnI, hBa, hEx, hS2]
  refine wC_loop (fun m fr H => ∃ (i : Nat) (c : List Int), i ≤ ss.length ∧ m = ss.length - i ∧ H = some (lv.map (V.int .i64)) :: some (c.map (V.int .i64)) :: T ∧ c.length = t.length ∧ RStps t (t.map bidi) (ss.take i) c0 c ∧
    Slots 217 [(0, rl t), (5, .int .i64 e), (6, .sl 0 0 t.length t.length 1), (7, .sl 1 0 t.length t.length 1), (8, .lst (ss.map fun s => [il s.l])), (9, .int .i64 i)] fr) (m := ss.length) (by omega) ⟨0, c0, by omega, by omega, rfl, hcl, rfl, by simp⟩ ?_
  rintro m fr H ⟨i, c, hi, rfl, rfl, hcn, hRS, hs⟩
  obtain ⟨j, rfl⟩ := hs.ex
  clear hs
  by_cases hlt : i < ss.length
  · obtain ⟨s, hs⟩ : ∃ s, ss[i]? = some s := ⟨_, List.getElem?_eq_getElem hlt⟩
    have hsm := List.mem_of_getElem? hs
    obtain ⟨f1, f2, f3, f4⟩ := hsf s hsm
    obtain ⟨g1, g2, g3⟩ := hse s hsm
    have hidx : indexAddrV Tryz.prog 139 (.lst (ss.map fun s => [il s.l])) (.int .i64 i) = some (.lptr [il s.l] 0) := by
      rw [idxL_eq (e := 22) (s := 1) (by kernel_rfl) (by kernel_rfl), idxL_of (by omega), Int.toNat_natCast, List.getElem?_map, hs]
      rfl
    have htk : ss.take (i + 1) = ss.take i ++ [s] := by rw [List.take_add_one, hs]; rfl
    have hiI : (i : Int) < ss.length := by omega
    have hf0 := headD_of g3
    have hg0 := lastD_of g3
    have hfr := f1.rng _ (List.mem_of_getElem? hf0)
    have hgr := f1.rng _ (List.mem_of_getElem? hg0)
    have hlvf := hlr (lvl lv (s.l.headD 0)) (by
      have : lv[(s.l.headD 0).toNat]? = some (lvl lv (s.l.headD 0)) := by rw [lvl, List.getD_eq_getElem?_getD, List.getElem?_eq_getElem (by omega)]; rfl
      exact List.mem_of_getElem? this)
    have hlvx : lv[(s.l.headD 0).toNat]? = some (lvl lv (s.l.headD 0)) := by rw [lvl, List.getD_eq_getElem?_getD, List.getElem?_eq_getElem (by omega)]; rfl
    generalize s.l.headD 0 = fx at *
    generalize s.l.getLastD 0 = gx at *
    obtain ⟨fx, rfl⟩ : ∃ n : Nat, fx = n := ⟨fx.toNat, by omega⟩
    obtain ⟨gx, rfl⟩ : ∃ n : Nat, gx = n := ⟨gx.toNat, by omega⟩
    have hEn' : ∀ cfg X, callM md (K prim (d + 5)) cfg 104 [rl t, .sl 0 0 t.length t.length 1, .int .i64 e, il s.l] (some (lv.map (V.int .i64)) :: X) = some (.tup [.int .i64 s.sos, .int .i64 s.eos], some (lv.map (V.int .i64)) :: X) := fun cfg X => by
      have := hEn cfg (some (lv.map (V.int .i64)) :: X) lv s.l hll (by omega) fx gx hf0 hg0 (by omega) (by omega) hlvf.1 [rl t, .sl 0 0 t.length t.length 1, .int .i64 e, il s.l] (by simp [List.mapM_cons, hfz0])
      rw [g1] at this
      exact this
    obtain ⟨c1, w1, hW1⟩ := hWk c c s.l (s.l.map (lvl c)) s.sos (some (lv.map (V.int .i64)) :: some (c.map (V.int .i64)) :: T) 1 hcn hcn f1 (by omega) (WB.start (by rw [hcn]; exact f1)) (by simp)
    have hc1 : c1.length = t.length := w1.len.trans hcn
    simp only [List.set_cons_succ, List.set_cons_zero] at hW1
    obtain ⟨q1, q2⟩ := prsS_ok (l := (s.l.map (lvl c1)).zip (s.l.map (lvl t))) (by simp; omega)
    have hzl2 : ((s.l.map (lvl c1)).zip (s.l.map (lvl t))).length ≤ s.l.length := by simp
    obtain ⟨c2, w2, hW2⟩ := hBk c1 c s.l _ hc1 hcn f1 (by omega) w1 s.lev s.sos f3.1 (some (lv.map (V.int .i64)) :: some (c1.map (V.int .i64)) :: T) 1 (by simp) _ (fun p hp => by have := q1 p hp; omega) q2 (fun cfg => hPr cfg _ c1 s.l hc1 f1 (by omega) _ (by simp [List.mapM_cons, hfz1 c1 _ _ hc1]))
    have hc2 : c2.length = t.length := w2.len.trans hcn
    simp only [List.set_cons_succ, List.set_cons_zero] at hW2
    obtain ⟨c3, w3, hW3⟩ := hNe c2 c s.l _ hc2 hcn f1 (by omega) w2 s.lev s.sos s.eos f3.1 (some (lv.map (V.int .i64)) :: some (c2.map (V.int .i64)) :: T) 1 (by simp)
    have hc3 : c3.length = t.length := w3.len.trans hcn
    simp only [List.set_cons_succ, List.set_cons_zero] at hW3
    have hrw := rseq_WB hcn f1 w1 w2 w3
    rw [g2] at hW2 hW3
    have hlvy : lv[fx]? = some (lvl lv (fx : Int)) := hlvx
    simp (disch := omega) [hlen, hiI, hidx, hEn', hW1, hW2, hW3, hf0, hlvy, wrap64, -getElem?_pos]
    exact Rnd_of (m' := ss.length - (i + 1)) (by omega) ⟨i + 1, c3, by omega, rfl, rfl, hc3, by rw [htk]; exact hRS.snoc hrw, by simp (disch := omega)⟩
  · obtain rfl : i = ss.length := by omega
    rw [List.take_length] at hRS
    have hiI : ¬ (ss.length : Int) < ss.length := by omega
    have hz2 : zerosFor [V.int .i64 0] t.length = (List.replicate t.length 0).map (V.int .i64) := zerosFor_int ..
    simp (disch := omega) [hlen, hiI, hz2]
    have hzl : (List.zipWith raiS lv c).length = t.length := by simp only [List.length_zipWith]; omega
    obtain ⟨res, hres⟩ : ∃ res, res = remL e (t.map bidi) (List.zipWith raiS lv c) := ⟨_, rfl⟩
    have hrl : res.length = t.length := by rw [hres, remL_len _ _ _ (by omega), hzl]
    have hr0 : ∀ x a, (t.map bidi)[0]? = some x → (List.zipWith raiS lv c)[0]? = some a → res[0]? = some (if gone x then e else a) := fun x a h1 h2 => by rw [hres]; exact remL_zero h1 h2
    have hrS : ∀ (i : Nat) x a q, (t.map bidi)[i + 1]? = some x → (List.zipWith raiS lv c)[i + 1]? = some a → res[i]? = some q → res[i + 1]? = some (if gone x then q else a) := fun i x a q h1 h2 h3 => by rw [hres] at h3 ⊢; exact remL_succ _ _ _ _ _ _ _ h1 h2 h3
    have hrN : ∀ (i : Nat) x a, (t.map bidi)[i]? = some x → (List.zipWith raiS lv c)[i]? = some a → gone x = false → res[i]? = some a := by
      intro i x a h1 h2 hg
      cases i with
      | zero => rw [hr0 x a h1 h2, hg]; rfl
      | succ i =>
        have hil := (List.getElem?_eq_some_iff.1 h1).1
        rw [hrS i x a _ h1 h2 (List.getElem?_eq_getElem (by omega)), hg]
        rfl
    have hRL : ∃ c', RStps t (t.map bidi) ss c0 c' ∧ rtr2 (t.map bidi) e t.length (rtrl (t.map bidi) e t.length res) = rtr2 (t.map bidi) e t.length (rtrl (t.map bidi) e t.length (remL e (t.map bidi) (List.zipWith raiS lv c'))) := ⟨c, hRS, by rw [hres]⟩
    clear hres
    have hzr : res.length = (List.replicate t.length (0 : Int)).length := by simp [hrl]
    rw [← List.map_replicate]
    generalize hZ0 : List.replicate t.length (0 : Int) = Z0 at *
    have hZl : Z0.length = t.length := by rw [← hZ0]; simp
    refine wC_loop (fun m fr H => ∃ (i : Nat), i ≤ t.length ∧ m = t.length - i ∧ H = some (lv.map (V.int .i64)) :: some (c.map (V.int .i64)) :: (T ++ [some ((mixL res Z0 i).map (V.int .i64))]) ∧
      Slots 217 [(0, rl t), (5, .int .i64 e), (6, .sl 0 0 t.length t.length 1), (7, .sl 1 0 t.length t.length 1), (13, .sl (T.length + 1 + 1) 0 t.length t.length 1), (14, .int .i64 i)] fr) (m := t.length) (by omega) ⟨0, by omega, by omega, by rw [mixL_zero], by simp⟩ ?_
    rintro m fr H ⟨i, hi, rfl, rfl, hs⟩
    obtain ⟨j2, rfl⟩ := hs.ex
    clear hs
    by_cases hlt2 : i < t.length
    · obtain ⟨z, hz⟩ : ∃ z, t[i]? = some z := ⟨_, List.getElem?_eq_getElem hlt2⟩
      have hx := hgt i z hz
      have hltI : (i : Int) < t.length := by omega
      have hmx := mixL_len hzr i
      have hi1 : i + 1 ≤ t.length := hlt2
      have hlvi : lv[i]? = some (lvl lv (i : Int)) := lvl_of (by omega)
      have hci : c[i]? = some (lvl c (i : Int)) := lvl_of (by omega)
      have hza : (List.zipWith raiS lv c)[i]? = some (raiS (lvl lv (i : Int)) (lvl c (i : Int))) := by rw [List.getElem?_zipWith, hlvi, hci]
      have bL : ∀ (y1 y2 : Option (List V)) (Y : List V) (T' : Heap), isMap Y = false → blockOf (y1 :: y2 :: (T ++ some Y :: T')) (T.length + 1 + 1) = some Y := fun y1 y2 Y T' hY => by
        have := blockOf_len_add (h := T) (r := some Y :: T') (k := 0)
        simp [hY]
      have hself : ∀ v : Int, slot (((mixL res Z0 i).map (V.int .i64)).set i (.int .i64 v)) i = some (.int .i64 v) := fun v => by
        rw [slot, List.getElem?_set_self (by simp; omega)]
      have hS := fun v hv => mixL_set hzr (i := i) (by omega) (v := v) hv
      cases hg : gone (bidi z)
      · have hv := hS _ (hrN i _ _ hx hza hg)
        have hLr := hlr _ (List.mem_of_getElem? hlvi)
        have htm : (lvl lv (i : Int)).tmod 2 = lvl lv (i : Int) % 2 := Int.tmod_eq_emod_of_nonneg hLr.1
        have hfin : ∀ (v : Int), raiS (lvl lv (i : Int)) (lvl c (i : Int)) = v → (mixL res Z0 i).set i v = mixL res Z0 (i + 1) := fun v h => by rw [← h]; exact hv
        clear hv hza hS
        generalize lvl lv (i : Int) = L at *
        generalize lvl c (i : Int) = C at *
        simp (disch := omega) [hltI, hz, hG, hg, hlvi, hmx, hZl, hi1, htm, -getElem?_pos]
        by_cases p0 : L % 2 = 0
        · have p1 : ¬ L % 2 = 1 := by omega
          by_cases c1 : C = 1
          · have hf := hfin (L + 1) (by unfold raiS; rw [if_pos ⟨p0, c1⟩])
            simp (disch := omega) [p0, c1, hci, hself, hmx, hZl, hi1, wrap64, -getElem?_pos]
            exact Rnd_of (m' := t.length - (i + 1)) (by omega) ⟨i + 1, by omega, rfl, by rw [← hf]; simp [setS, List.map_set], by simp (disch := omega)⟩
          · by_cases c6 : C = 6
            · have hf := hfin (L + 2) (by unfold raiS; rw [if_neg (fun h => c1 h.2), if_pos ⟨p0, .inl c6⟩])
              simp (disch := omega) [p0, c6, hlvi, hci, htm, hself, hmx, hZl, hi1, wrap64, -getElem?_pos]
              exact Rnd_of (m' := t.length - (i + 1)) (by omega) ⟨i + 1, by omega, rfl, by rw [← hf]; simp [setS, List.map_set], by simp (disch := omega)⟩
            · by_cases c3 : C = 3
              · have hf := hfin (L + 2) (by unfold raiS; rw [if_neg (fun h => c1 h.2), if_pos ⟨p0, .inr c3⟩])
                simp (disch := omega) [p0, c3, hlvi, hci, htm, hself, hmx, hZl, hi1, wrap64, -getElem?_pos]
                exact Rnd_of (m' := t.length - (i + 1)) (by omega) ⟨i + 1, by omega, rfl, by rw [← hf]; simp [setS, List.map_set], by simp (disch := omega)⟩
              · have hf := hfin L (by unfold raiS; rw [if_neg (fun h => c1 h.2), if_neg (fun h => by omega), if_neg (fun h => by omega)])
                simp (disch := omega) [p0, c1, c6, c3, hlvi, hci, htm, wrap64, -getElem?_pos]
                exact Rnd_of (m' := t.length - (i + 1)) (by omega) ⟨i + 1, by omega, rfl, by rw [← hf]; simp [List.map_set], by simp (disch := omega)⟩
        · have p1 : L % 2 = 1 := by omega
          by_cases c1 : C = 1
          · have hf := hfin L (by unfold raiS; rw [if_neg (fun h => p0 h.1), if_neg (fun h => p0 h.1), if_neg (fun h => h.2 c1)])
            simp (disch := omega) [p1, c1, hlvi, hci, htm, wrap64, -getElem?_pos]
            exact Rnd_of (m' := t.length - (i + 1)) (by omega) ⟨i + 1, by omega, rfl, by rw [← hf]; simp [List.map_set], by simp (disch := omega)⟩
          · have hf := hfin (L + 1) (by unfold raiS; rw [if_neg (fun h => p0 h.1), if_neg (fun h => p0 h.1), if_pos ⟨p1, c1⟩])
            simp (disch := omega) [p1, c1, hlvi, hci, htm, hself, hmx, hZl, hi1, wrap64, -getElem?_pos]
            exact Rnd_of (m' := t.length - (i + 1)) (by omega) ⟨i + 1, by omega, rfl, by rw [← hf]; simp [setS, List.map_set], by simp (disch := omega)⟩
      · by_cases hi0 : i = 0
        · subst hi0
          have hv := hS _ (hr0 _ _ hx hza)
          rw [hg] at hv
          have h00 : ¬ 0 < 0 := by omega
          simp (disch := omega) [hz, hG, hg, hmx, hZl, hi1, hlt2, wrap64, -getElem?_pos]
          exact Rnd_of (m' := t.length - (0 + 1)) (by omega) ⟨0 + 1, by omega, rfl, by rw [← hv]; simp [List.map_set], by simp (disch := omega)⟩
        · have hiI0 : (0 : Int) < i := by omega
          have hin : ((i : Int) - 1).toNat = i - 1 := by omega
          obtain ⟨k, rfl⟩ : ∃ k, i = k + 1 := ⟨i - 1, by omega⟩
          obtain ⟨q, hq⟩ : ∃ q, res[k]? = some q := ⟨_, List.getElem?_eq_getElem (by omega)⟩
          have hv := hS _ (hrS k _ _ q hx hza hq)
          rw [hg] at hv
          have hmk : (mixL res Z0 (k + 1))[k]? = some q := by rw [mixL_at hzr (by omega) (by omega)]; exact hq
          have hprev : ∀ v, slot (((mixL res Z0 (k + 1)).map (V.int .i64)).set (k + 1) (.int .i64 v)) k = some (.int .i64 q) := fun v => by
            rw [slot, List.getElem?_set_ne (by omega), List.getElem?_map, hmk]
            rfl
          have hkk : (((k + 1 : Nat) : Int) - 1).toNat = k := by omega
          have hk1 : k + 1 ≤ t.length := by omega
          have hltI2 : (k : Int) + 1 < t.length := by omega
          have hkk2 : ((k : Int) + 1 - 1).toNat = k := by omega
          have hk0 : (0 : Int) < (k : Int) + 1 := by omega
          simp (disch := omega) [hltI2, hz, hG, hg, hmx, hZl, hi1, hk0, hprev, wrap64, -getElem?_pos]
          exact Rnd_of (m' := t.length - (k + 1 + 1)) (by omega) ⟨k + 1 + 1, by omega, rfl, by rw [← hv]; simp [setS, List.map_set], by simp (disch := omega)⟩
    · obtain rfl : i = t.length := by omega
      have hltI : ¬ (t.length : Int) < t.length := by omega
      rw [show mixL res Z0 t.length = res by rw [← hZl]; exact mixL_all hzr]
      have hTr' : ∀ (Y : List Int) (k : Nat), Y.length = t.length → k ≤ t.length → callM md (K prim (d + 5)) ⟨0, none, 0⟩ 109 [rl t, .sl (T.length + 1 + 1) 0 t.length t.length 1, .int .i64 e, .int .i64 k] (some (lv.map (V.int .i64)) :: some (c.map (V.int .i64)) :: (T ++ [some (Y.map (V.int .i64))])) =
          some (.tup [], some (lv.map (V.int .i64)) :: some (c.map (V.int .i64)) :: (T ++ [some ((rtrl (t.map bidi) e k Y).map (V.int .i64))])) := fun Y k hY hk => by
        rw [hTr Y hY k hk _ (T.length + 1 + 1) (by simp)]
        simp
      have hT0 := hTr' res t.length hrl (Nat.le_refl _)
      simp (disch := omega) [hltI, hT0]
      have hzz : (rtrl (t.map bidi) e t.length res).length = t.length := by rw [rtrl_len, hrl]
      generalize rtrl (t.map bidi) e t.length res = Z at *
      refine wC_loop (fun m fr H => ∃ (i : Nat), i ≤ t.length ∧ m = t.length - i ∧ H = some (lv.map (V.int .i64)) :: some (c.map (V.int .i64)) :: (T ++ [some ((rtr2 (t.map bidi) e i Z).map (V.int .i64))]) ∧
        Slots 217 [(0, rl t), (5, .int .i64 e), (13, .sl (T.length + 1 + 1) 0 t.length t.length 1), (15, .int .i64 i)] fr) (m := t.length) (by omega) ⟨0, by omega, by omega, rfl, by simp⟩ ?_
      rintro m fr H ⟨i, hi, rfl, rfl, hs⟩
      obtain ⟨j3, rfl⟩ := hs.ex
      clear hs
      have hrt := (rtr2_len (t.map bidi) e Z i).trans hzz
      by_cases hlt3 : i < t.length
      · obtain ⟨z, hz⟩ : ∃ z, t[i]? = some z := ⟨_, List.getElem?_eq_getElem hlt3⟩
        have hx := hgt i z hz
        have hltJ : (i : Int) < t.length := by omega
        have hi1 : i + 1 ≤ t.length := hlt3
        have hod : (t.map bidi).getD i 0 = bidi z := by rw [List.getD_eq_getElem?_getD, hx]; rfl
        have bL : ∀ (y1 y2 : Option (List V)) (Y : List V) (T' : Heap), isMap Y = false → blockOf (y1 :: y2 :: (T ++ some Y :: T')) (T.length + 1 + 1) = some Y := fun y1 y2 Y T' hY => by
          have := blockOf_len_add (h := T) (r := some Y :: T') (k := 0)
          simp [hY]
        have hT1 := hTr' ((rtr2 (t.map bidi) e i Z).set i e) i (by simp [hrt]) hi
        have hrs : rtr2 (t.map bidi) e (i + 1) Z = if bidi z = 11 ∨ bidi z = 10 then rtrl (t.map bidi) e i ((rtr2 (t.map bidi) e i Z).set i e) else rtr2 (t.map bidi) e i Z := by
          rw [← hod]; rfl
        simp only [List.map_set] at hT1
        by_cases h11 : bidi z = 11
        · rw [if_pos (.inl h11)] at hrs
          simp (disch := omega) [hltJ, hz, hB, h11, hrt, hi1, hT1, wrap64, -getElem?_pos]
          exact Rnd_of (m' := t.length - (i + 1)) (by omega) ⟨i + 1, by omega, rfl, by rw [hrs], by simp (disch := omega)⟩
        · by_cases h10 : bidi z = 10
          · rw [if_pos (.inr h10)] at hrs
            simp (disch := omega) [hltJ, hz, hB, h10, hrt, hi1, hT1, wrap64, -getElem?_pos]
            exact Rnd_of (m' := t.length - (i + 1)) (by omega) ⟨i + 1, by omega, rfl, by rw [hrs], by simp (disch := omega)⟩
          · rw [if_neg (by omega)] at hrs
            simp (disch := omega) [hltJ, hz, hB, h11, h10, wrap64, -getElem?_pos]
            exact Rnd_of (m' := t.length - (i + 1)) (by omega) ⟨i + 1, by omega, rfl, by rw [hrs], by simp (disch := omega)⟩
      · obtain rfl : i = t.length := by omega
        simp (disch := omega) [hltI]
        have hbk : blockOf (some (lv.map (V.int .i64)) :: some (c.map (V.int .i64)) :: (T ++ [some ((rtr2 (t.map bidi) e t.length Z).map (V.int .i64))])) (T.length + 1 + 1) = some ((rtr2 (t.map bidi) e t.length Z).map (V.int .i64)) := by simp
        obtain ⟨c', k1, k2⟩ := hRL
        refine ⟨own_ints (d := 4) hbk, rtr2 (t.map bidi) e t.length Z, frz_ints (d := 4) hbk (Nat.zero_le _) hrt, c', k1, k2⟩
end
end Bi
end Go.Ab
