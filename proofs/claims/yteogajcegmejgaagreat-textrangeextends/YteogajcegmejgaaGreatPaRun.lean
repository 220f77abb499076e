/- Several texts of this proof in one. -/
import Derived.Test.YteogajcegmejgaaGreatPaRef9
import Derived.Test.YteogajcegmejgaaGreatPiC
import Derived.Test.YteogajcegmejgaaGreatPiDis
namespace Go.Ab
open Go.Proofs
namespace Bi
attribute [local congr] wGq_congr
def rstU (o : List Int) (e : Int) (f : Nat) : Nat → List Int → List Int
  | 0, lv => lv
  | m + 1, lv => if blankB (o.getD (f + m) 0) = true ∨ o.getD (f + m) 0 = 11 ∨ o.getD (f + m) 0 = 10 then rstU o e f m (lv.set m e) else lv
theorem rstU_len (o : List Int) (e : Int) (f : Nat) : ∀ (m : Nat) (lv : List Int), (rstU o e f m lv).length = lv.length
  | 0, _ => rfl
  | m + 1, lv => by
    unfold rstU
    split
    · rw [rstU_len o e f m]; simp
    · rfl
theorem rst_parts {l : List Int} {f g : Nat} (h : f ≤ g) (hg : g ≤ l.length) : ((l.take g).drop f).length = g - f := by simp; omega
theorem RStps.len {t o : List Int} : ∀ {ss : List Sq} {c c' : List Int}, RStps t o ss c c' → c'.length = c.length
  | [], _, _, h => by rw [show _ = _ from h]
  | _ :: _, _, _, ⟨_, h1, h2⟩ => h2.len.trans h1.len
theorem RLevR.len {t : List Int} {base : Int} {r : List Int} (h : RLevR t base r) : r.length = t.length := by
  obtain ⟨c', hR, rfl⟩ := h
  have hxl := expl_len (baseS bidi t base) (t.map bidi)
  have h1 := hR.len
  simp at h1
  have h2 : (List.zipWith raiS ((expl (baseS bidi t base) (t.map bidi)).map (·.1)) c').length = t.length := by simp [hxl, h1]
  rw [rtr2_len, rtrl_len, remL_len _ _ _ (by simp [h2])]
  exact h2
section
variable {prim : FuncId → Option Prim} (d : Nat)
set_option maxHeartbeats 8000000 in
theorem rreset2_ok (hp : ∀ f, Np5 f → prim f = none) (t lv : List Int) (ht : t.length ≤ 2000) (hll : lv.length = t.length) (e : Int) (f g : Nat) (hfg : f ≤ g) (hgt' : g ≤ t.length) (cfg : Cfg) (h : Heap) (hlo : cfg.lo ≤ h.length) :
    ∃ r h2, callM md (K prim (d + 4)) cfg 112 [rl t, il lv, .int .i64 e, .int .i64 f, .int .i64 g] h = some (r, h2) ∧ Hp h2 h [(1, r, (rstU (t.map bidi) e f (g - f) ((lv.take g).drop f)).map (V.int .i64))] := by
  refine call2x rfl (hp 112 (by decide)) Tryz.func112 rfl rfl rfl ?_
  have h71 := hp 132 (by decide)
  have h47 := hp 99 (by decide)
  have h70 := hp 138 (by decide)
  have h63 := hp 100 (by decide)
  have hB := fun cfg h r => rbidi_ok (prim := prim) (d + 1) cfg h h71 h47 r
  have hBk := fun cfg h x => rblank_ok (prim := prim) (d + 1) cfg h h70 h63 x
  have hgt : ∀ (j : Nat) (z : Int), t[j]? = some z → (t.map bidi)[j]? = some (bidi z) := fun j z hz => by rw [List.getElem?_map, hz]; rfl
  have hol : (t.map bidi).length = t.length := by simp
  generalize t.map bidi = o at *
  have hpl := rst_parts (l := lv) hfg (by omega)
  generalize hP : (lv.take g).drop f = P at *
  have h1 : ¬ ((f : Int) < 0) := by omega
  have h2 : ¬ ((g : Int) < f) := by omega
  have h3 : ¬ ((t.length : Int) < g) := by omega
  have g0 : Hp h h [] := Hp.start
  by_cases he : P = []
  · subst he
    obtain rfl : f = g := by simp at hpl; omega
    simp (disch := omega) [h1, h2, h3, hll, hP, appD, roomy, wrap64]
    refine wC_loop (fun m fr H => H = h ∧ Slots 69 [(0, rl t), (1, il lv), (3, .int .i64 f), (11, .nils), (12, .int .i64 ((f : Int) - 1))] fr) (m := 0) (by omega) ⟨rfl, by simp⟩ ?_
    rintro m fr H ⟨rfl, hs⟩
    obtain ⟨j, rfl⟩ := hs.ex
    clear hs
    have h9 : ¬ ((f : Int) ≤ f - 1) := by omega
    simp (disch := omega) [h9, rstU]
    exact g0.nil 1
  · have hpos : 0 < P.length := List.length_pos_iff.2 he
    simp (disch := omega) [h1, h2, h3, hll, hP]
    rw [appD_nils (by omega) (by omega) hpos, wS_some]
    simp (disch := omega) [wrap64]
    refine wC_loop (fun m fr H => ∃ (q : Nat) (lv' : List Int), q ≤ g - f ∧ m = q ∧ lv'.length = g - f ∧ rstU o e f (g - f) P = rstU o e f q lv' ∧ H = h ++ [some (lv'.map (V.int .i64))] ∧
      Slots 69 [(0, rl t), (1, il lv), (2, .int .i64 e), (3, .int .i64 f), (11, .sl h.length 0 P.length P.length 1), (12, .int .i64 ((f : Int) + q - 1))] fr) (m := g - f) (by omega) ⟨g - f, P, by omega, rfl, hpl, rfl, rfl, by simp; omega⟩ ?_
    rintro m fr H ⟨q, lv', hq, hm, hl', hF, rfl, hs⟩
    replace hm := hm.symm
    subst hm
    obtain ⟨j, rfl⟩ := hs.ex
    clear hs
    rw [hF]
    have hfin : ∀ l : List Int, l.length = g - f → Hp (h ++ [some (l.map (V.int .i64))]) h [(1, .sl h.length 0 P.length P.length 1, l.map (V.int .i64))] := fun l hl => g0.new (cs := l.map (V.int .i64)) (n := P.length) (k := 1) (by simp) (by simp; omega) []
    rcases q with _ | q
    · have h9 : ¬ ((f : Int) ≤ (f : Int) - 1) := by omega
      simp (disch := omega) [h9, rstU]
      exact hfin lv' hl'
    · have hk1 : (f : Int) + ((q + 1 : Nat) : Int) - 1 = (f : Int) + q := by omega
      rw [hk1]
      obtain ⟨z, hz⟩ : ∃ z, t[f + q]? = some z := ⟨_, List.getElem?_eq_getElem (by omega)⟩
      have eo : o.getD (f + q) 0 = bidi z := by rw [List.getD_eq_getElem?_getD, hgt _ z hz]; rfl
      rw [rstU, eo]
      have h9 : (f : Int) ≤ (f : Int) + q := by omega
      have hi9 : (f : Int) + q - f = q := by omega
      have hn9 : ((f : Int) + q).toNat = f + q := by omega
      simp +contextual (disch := first | omega | (simp; done) | (simp [Decidable.imp_iff_not_or]; done) | fail) [-wG_bool, wG_q, wGq_some, gq_true, pickV_qA, -getElem?_pos, h9, hn9, hz, hB, hBk]
      refine wIf_intro (fun hb => ?_) (fun hb => ?_)
      · rw [if_neg (by simp at hb; simp [hb])]
        simp (disch := omega)
        exact hfin lv' hl'
      · rw [if_pos (by cases hbz : blankB (bidi z) <;> simp_all; omega)]
        have hle : q + 1 ≤ g - f := hq
        have hwl : cfg.wr h.length = true := wr_lo hlo
        simp (disch := omega) [hi9, hl', hle, hwl, wrap64]
        exact Rnd_of (m' := q) (by omega) ⟨q, lv'.set q e, by omega, rfl, by simpa using hl', rfl, by simp [List.map_set], by simp (disch := omega)⟩
set_option maxRecDepth 100000 in
set_option maxHeartbeats 8000000 in
theorem levels9_ex (hp : ∀ f, Np5 f → prim f = none) (p : Par) (ht : p.t.length ≤ 2000) (s : Sec) (hs : SecOK p s) (a b : Nat) (h1 : s.f ≤ a) (h2 : a ≤ b) (h3 : b ≤ s.t) (h4 : s.f < s.t) :
    ∃ v, (∃ l : List Int, v = il l ∧ l.length = b - a) ∧ ∀ cfg h, callM md (K prim (d + 5)) cfg 62 [.agg (parC p), .agg (secF s), .int .i64 a, .int .i64 b] h = some (v, h) := by
  refine call0e rfl (hp 62 (by decide)) Tryz.func62 rfl rfl rfl (by simp [parC, secF]) ?_
  obtain ⟨hlf, hmp, s0, s1, s2, s3, s4, l5, t5⟩ := pslots p
  obtain ⟨k1, k2, k3⟩ := hs
  obtain ⟨sf, st, slv, sls⟩ := s
  obtain ⟨lv, rfl, hR⟩ : ∃ l, sls = some l ∧ RLevR ((p.t.take st).drop sf) p.b l := by
    rcases k3 with ⟨k3, _⟩ | ⟨_, k3⟩
    · exact absurd k3 (by simp at h4 ⊢; omega)
    · exact k3
  simp only at h1 h3 h4 k1 k2 hR
  have hRl := hR.len
  obtain ⟨_, ⟨cs, rfl, hcl, hcr⟩, hCl⟩ := clus_ex (prim := prim) d hp p.t ht
  have hIn := fun cfg h n => rin_ok (prim := prim) (d + 3) cfg h hp cs (by omega) n
  have hsf : secF ⟨sf, st, slv, some lv⟩ = [.int .i64 sf, .int .i64 st, .int .i64 slv, il lv] := rfl
  simp (disch := omega) [hlf, hsf]
  refine wC_draw 19 (by kernel_rfl) ?_
  simp (disch := omega) [hmp, s0, wrap64, -getElem?_pos]
  have hu : List.drop sf (List.take st (List.map (fun n => [V.int IntKind.i32 n]) p.t)) = List.map (fun n => [V.int IntKind.i32 n]) ((p.t.take st).drop sf) := by simp [List.map_drop, List.map_take]
  rw [hu]
  obtain ⟨u, hue⟩ : ∃ u, u = (p.t.take st).drop sf := ⟨_, rfl⟩
  rw [← hue] at hRl ⊢
  have hul : u.length = st - sf := by rw [hue]; simp; omega
  obtain ⟨r, H2, hRs, hhp⟩ := rreset2_ok (prim := prim) d hp u lv (by omega) (by omega) slv (a - sf) (b - sf) (by omega) (by omega) ⟨0, none, 0⟩ [some (parC p), some [V.int IntKind.i64 ↑sf, V.int IntKind.i64 ↑st, V.int IntKind.i64 slv, il lv]] (by simp)
  have e1 : ((a - sf : Nat) : Int) = (a : Int) - sf := by omega
  have e2 : ((b - sf : Nat) : Int) = (b : Int) - sf := by omega
  rw [e1, e2] at hRs
  have hb0 : blockOf H2 0 = some (parC p) := by rw [hhp.block (by simp)]; simp [blockOf, hmp]
  have mR : md 112 = 2 := rfl
  have hvl := hhp.head.len1 (show Tryz.prog.underlying 22 = some (.slice 3) by kernel_rfl)
  rw [List.length_map, rstU_len] at hvl
  simp (disch := omega) [hRs, hb0, s0, hCl]
  have hl0 : (rstU (u.map bidi) slv (a - sf) (b - sf - (a - sf)) ((lv.take (b - sf)).drop (a - sf))).length = b - a := by rw [rstU_len]; simp; omega
  generalize rstU (u.map bidi) slv (a - sf) (b - sf - (a - sf)) ((lv.take (b - sf)).drop (a - sf)) = l0 at *
  refine wC_loop (fun m fr H => ∃ (i : Nat) (l : List Int), 1 ≤ i ∧ m = b - a - i ∧ l.length = b - a ∧ Hp H [some (parC p), some [V.int IntKind.i64 ↑sf, V.int IntKind.i64 ↑st, V.int IntKind.i64 slv, il lv]] [(1, r, l.map (V.int .i64))] ∧
    Slots 56 [(2, .int .i64 a), (9, r), (10, il cs), (11, .int .i64 i)] fr) (m := b - a - 1) (by omega) ⟨1, l0, by omega, rfl, hl0, hhp, by simp⟩ ?_
  rintro m fr H ⟨i, l, hi, rfl, hl, hh, hs⟩
  obtain ⟨j, rfl⟩ := hs.ex
  clear hs
  have hvl := hh.head.len1 (show Tryz.prog.underlying 22 = some (.slice 3) by kernel_rfl)
  rw [List.length_map, hl] at hvl
  by_cases hlt : i < b - a
  · obtain ⟨bb, rfl, hb1, hb2, hb3⟩ := hh.head.ints (by omega)
    have hle : i + 1 ≤ b - a := hlt
    have hIw : IntKind.i64.wrap ((a : Int) + i) = (a : Int) + i := by rw [wrap64 (by omega) (by omega)]
    simp (disch := omega) [hvl, hlt, hIn]
    refine wIf_intro (fun _ => ?_) (fun _ => ?_)
    · simp (disch := omega) [hb3, hl, atI, hle, wrap64, -getElem?_pos]
      have hset : (List.map (V.int IntKind.i64) l).set i (V.int IntKind.i64 (lgI l (i - 1))) = (l.set i (lgI l (i - 1))).map (V.int .i64) := by rw [List.map_set]
      rw [hset]
      exact Rnd_of (m' := b - a - (i + 1)) (by omega) ⟨i + 1, l.set i (lgI l (i - 1)), by omega, rfl, by simpa using hl, hh.setO (cs' := (l.set i (lgI l (i - 1))).map (V.int .i64)) (by simp) (by simp), by simp (disch := omega) [hl]⟩
    · simp (disch := omega) [wrap64]
      exact Rnd_of (m' := b - a - (i + 1)) (by omega) ⟨i + 1, l, by omega, rfl, hl, hh, by simp (disch := omega)⟩
  · have f1 := hh.head.frzI (d := 4) (Nat.zero_le _)
    simp (disch := omega) [hvl, hlt]
    exact ⟨_, f1, l, rfl, hl⟩
end
end Bi
end Go.Ab
namespace Go.Ab
open Go.Proofs
namespace Bi
attribute [local congr] wGq_congr
section
variable {prim : FuncId → Option Prim} (d : Nat)
set_option maxRecDepth 100000 in
set_option maxHeartbeats 8000000 in
theorem rev8_ex (hp : ∀ f, Np5 f → prim f = none) (cs : List Int) (hcl : cs.length ≤ 5000) (gs : List Gly) (hg : gs.length ≤ 4000) (cfg : Cfg) (h : Heap) (v : V) (lo : Nat) (hlo : cfg.lo ≤ h.length) (ho : OwnC h lo 8 v (gs.flatMap glyC)) :
    ∃ r h2, callM md (K prim (d + 2)) cfg 118 [il cs, v] h = some (r, h2) ∧ ∃ gs' : List Gly, gs'.length = gs.length ∧ Hp h2 h [(8, r, gs'.flatMap glyC)] := by
  refine call2x rfl (hp 118 (by decide)) Tryz.func118 rfl rfl rfl ?_
  have hIn := fun cfg h n => rin_ok (prim := prim) d cfg h hp cs hcl n
  have hvl := ho.lenF gly_len (by omega) (show Tryz.prog.underlying 54 = some (.slice 82) by kernel_rfl)
  have g0 : Hp h h [] := Hp.start
  simp (disch := omega) [hvl]
  refine wC_loop (fun m fr H => ∃ (e : Nat) (out : List Gly) (r : V), m = e ∧ out.length + e = gs.length ∧ Hp H h [(8, r, out.flatMap glyC)] ∧ Slots 36 [(0, il cs), (1, v), (5, r), (6, .int .i64 e)] fr) (m := gs.length) (by omega) ⟨gs.length, [], .nils, rfl, by simp, g0.nil 8, by simp⟩ ?_
  rintro m fr H ⟨e, out, r, hm, hoe, hhp, hs⟩
  replace hm := hm.symm
  subst hm
  obtain ⟨j, rfl⟩ := hs.ex
  clear hs
  by_cases h0 : 0 < e
  · have hI : (0 : Int) < e := by omega
    obtain ⟨b, rfl, hb1, hb2, hb3⟩ := ho.posF gly_len (by omega) (show 0 < gs.length by omega)
    have hbH : blockOf H b = some (gs.flatMap glyC) := by rw [hhp.block hb2]; exact hb3
    have hmb : isMap (gs.flatMap glyC) = false := gly_map gs
    simp (disch := omega) [h0, wrap64]
    refine wC_loop (fun m fr H' => ∃ q : Nat, m = q ∧ q < e ∧ H' = H ∧ Slots 36 [(0, il cs), (1, .sl b 0 gs.length gs.length 8), (5, r), (6, .int .i64 e), (7, .int .i64 q)] fr) (m := e - 1) (by omega) ⟨e - 1, rfl, by omega, rfl, by simp; omega⟩ ?_
    rintro m fr H' ⟨q, hm, hq, rfl, hs⟩
    replace hm := hm.symm
    subst hm
    obtain ⟨j2, rfl⟩ := hs.ex
    clear hs
    obtain ⟨g, hgq⟩ : ∃ g, gs[q]? = some g := ⟨_, List.getElem?_eq_getElem (by omega)⟩
    simp +contextual (disch := first | omega | (simp; done) | (simp [Decidable.imp_iff_not_or]; done) | fail) [-wG_bool, wG_q, wGq_some, gq_true, pickV_qA, -getElem?_pos, hIn, hbH, gly_at2 hgq]
    refine wIf_intro (fun hb => ?_) (fun _ => ?_)
    · have hq1 : 1 ≤ q := by simp at hb; omega
      simp (disch := omega) [wrap64]
      exact Rnd_of (m' := q - 1) (by omega) ⟨q - 1, rfl, by omega, rfl, by simp; omega⟩
    have hfl := gly_fl gs
    have hlf := gly_lf ((gs.take e).drop q)
    have hmp := gly_map ((gs.take e).drop q)
    have hln : ((gs.take e).drop q).length = e - q := by simp; omega
    have hfn := gly_fl ((gs.take e).drop q)
    have hfo := gly_fl out
    have hpt := gly_part gs q e
    rcases Nat.eq_zero_or_pos q with rfl | hqp
    · simp only [Nat.zero_mul, List.drop_zero, Nat.sub_zero] at hpt hlf hmp hln hfn
      have hle : e * 8 ≤ gs.length * 8 := by omega
      have hle2 : e ≤ gs.length := by omega
      simp (disch := omega) [hbH, gly_sum, hle, hpt, hlf]
      refine wS_appO (m := e) hhp hlo (by omega) hmp (by omega) (by omega) (by rw [hfo]; omega) (by rw [hfo]; omega) ?_
      intro v' H2 hhp2
      simp (disch := omega)
      refine Rnd_of (m' := 0) (by omega) ⟨0, out ++ gs.take e, v', rfl, by simp; omega, by simpa using hhp2, by simp⟩
    · have hq0 : ¬ q = 0 := by omega
      have hqe : ¬ q = e := by omega
      have hle : q * 8 + (e - q) * 8 ≤ gs.length * 8 := by omega
      simp (disch := omega) [hbH, gly_sum, hq0, hqe, hle, hpt, hlf]
      refine wS_appO (m := e - q) hhp hlo (by omega) hmp (by omega) (by omega) (by rw [hfo]; omega) (by rw [hfo]; omega) ?_
      intro v' H2 hhp2
      simp (disch := omega)
      refine Rnd_of (m' := q) (by omega) ⟨q, out ++ (gs.take e).drop q, v', rfl, by simp; omega, by simpa using hhp2, by simp⟩
  · obtain rfl : e = 0 := by omega
    simp (disch := omega)
    exact ⟨out, by omega, hhp⟩
end
end Bi
end Go.Ab
