/- Several texts of this proof in one. -/
import Derived.Test.YtcedojbifnangaaBiDis
import Derived.Test.YtcedojbifnangaaBiRj
import Derived.Test.YtcedojbifnangaaBiG
/- Reset: the reference's; both as they are called. -/
namespace Go.Ab
open Go.Proofs
namespace Bi
theorem resetL_ok (d : Nat) (t lv : List Int) (ht : t.length ≤ 2000) (e a b : Int) (cfg : Cfg) (h : Heap) :
    callM md (K pL (d + 1)) cfg 51 [rl t, il lv, .int .i64 e, .int .i64 a, .int .i64 b] h = some (il (rstS (t.map bidi) lv e a b), h) := by
  obtain ⟨r', h', h1, h2, h3⟩ := reset_ok 32 t lv ht e a b
  have hm : md 51 = 3 := rfl
  have hK : K pL (d + 1) ⟨0, none, 0⟩ 51 [rl t, il lv, .int .i64 e, .int .i64 a, .int .i64 b] [] = some (r', h') := (callN_prim pL_51 _ _ _).trans h1
  have ha : [rl t, il lv, .int .i64 e, .int .i64 a, .int .i64 b].mapM (frzA h) = some [rl t, il lv, .int .i64 e, .int .i64 a, .int .i64 b] := by simp
  simp only [callM, hm, ha, hK, h2, h3, if_true]
section
attribute [local congr] wGp_congr
variable {prim : FuncId → Option Prim} (d : Nat) (cfg : Cfg) (h : Heap)
set_option maxHeartbeats 4000000 in
theorem rreset_ok (hp : prim 52 = none) (h70 : prim 70 = none) (h63 : prim 63 = none) (h71 : prim 71 = none) (h47 : prim 47 = none) (t lv : List Int) (ht : t.length ≤ 2000) (e a b : Int) :
    callM md (K prim (d + 4)) cfg 52 [rl t, il lv, .int .i64 e, .int .i64 a, .int .i64 b] h = some (il (rstS (t.map bidi) lv e a b), h) := by
  refine call3 rfl hp Try.func52 rfl rfl rfl (args' := [rl t, il lv, .int .i64 e, .int .i64 a, .int .i64 b]) (by simp) ?_
  have hB := fun cfg h r => rbidi_ok (prim := prim) (d + 1) cfg h h71 h47 r
  have hBk := fun cfg h x => rblank_ok (prim := prim) (d + 1) cfg h h70 h63 x
  have hgt : ∀ (j : Nat) (z : Int), t[j]? = some z → (t.map bidi)[j]? = some (bidi z) := fun j z hz => by rw [List.getElem?_map, hz]; rfl
  have hol : (t.map bidi).length = t.length := by simp
  generalize t.map bidi = o at *
  by_cases hbad : a < 0 ∨ b < a ∨ (t.length : Int) < b ∨ lv.length ≠ t.length
  · have hr : rstS o lv e a b = [] := by unfold rstS; rw [if_pos (by rw [hol]; exact hbad)]
    rw [hr]
    by_cases h1 : a < 0
    · simp (disch := omega) [h1]
    · by_cases h2 : b < a
      · simp (disch := omega) [h1, h2]
      · by_cases h3 : (t.length : Int) < b
        · simp (disch := omega) [h1, h2, h3]
        · have h4 : lv.length ≠ t.length := by omega
          simp (disch := omega) [h1, h2, h3, h4]
  obtain ⟨f, rfl⟩ : ∃ n : Nat, a = n := ⟨a.toNat, by omega⟩
  obtain ⟨g, rfl⟩ : ∃ n : Nat, b = n := ⟨b.toNat, by omega⟩
  have hfg : f ≤ g := by omega
  have hgt' : g ≤ t.length := by omega
  have hll : lv.length = t.length := by omega
  have hr : rstS o lv e f g = rstU o e f (g - f) ((lv.take g).drop f) := by unfold rstS; rw [if_neg (by rw [hol]; exact hbad)]; simp
  rw [hr]
  have hpl := rst_parts (l := lv) hfg (by omega)
  generalize hP : (lv.take g).drop f = P at *
  have h1 : ¬ ((f : Int) < 0) := by omega
  have h2 : ¬ ((g : Int) < f) := by omega
  have h3 : ¬ ((t.length : Int) < g) := by omega
  by_cases he : P = []
  · subst he
    obtain rfl : f = g := by simp at hpl; omega
    simp (disch := omega) [h1, h2, h3, hll, hP, appD, roomy, wrap64]
    refine wC_loop (fun m fr H => H = [] ∧ Slots 69 [(0, rl t), (1, il lv), (3, .int .i64 f), (11, .nils), (12, .int .i64 ((f : Int) - 1))] fr) (m := 0) (by omega) ⟨rfl, by simp⟩ ?_
    rintro m fr H ⟨rfl, hs⟩
    obtain ⟨j, rfl⟩ := hs.ex
    clear hs
    have h9 : ¬ ((f : Int) ≤ f - 1) := by omega
    simp (disch := omega) [h9, rstU]
  · have hpos : 0 < P.length := List.length_pos_iff.2 he
    simp (disch := omega) [h1, h2, h3, hll, hP]
    rw [appD_nils (by omega) (by omega) hpos, wS_some]
    simp (disch := omega) [wrap64]
    refine wC_loop (fun m fr H => ∃ (q : Nat) (lv' : List Int), q ≤ g - f ∧ m = q ∧ lv'.length = g - f ∧ rstU o e f (g - f) P = rstU o e f q lv' ∧ H = [some (lv'.map (V.int .i64))] ∧
      Slots 69 [(0, rl t), (1, il lv), (2, .int .i64 e), (3, .int .i64 f), (11, .sl 0 0 P.length P.length 1), (12, .int .i64 ((f : Int) + q - 1))] fr) (m := g - f) (by omega) ⟨g - f, P, by omega, rfl, hpl, rfl, rfl, by simp; omega⟩ ?_
    rintro m fr H ⟨q, lv', hq, hm, hl', hF, rfl, hs⟩
    replace hm := hm.symm
    subst hm
    obtain ⟨j, rfl⟩ := hs.ex
    clear hs
    rw [hF]
    rcases q with _ | q
    · have h9 : ¬ ((f : Int) ≤ (f : Int) - 1) := by omega
      have hb1 : blockOf [some (lv'.map (V.int .i64))] 0 = some (lv'.map (V.int .i64)) := by simp [blockOf]
      simp (disch := omega) [h9, rstU]
      exact ⟨own_ints (d := 4) hb1, frz_ints (d := 4) hb1 (Nat.zero_le _) (by omega)⟩
    · have hk1 : (f : Int) + ((q + 1 : Nat) : Int) - 1 = (f : Int) + q := by omega
      rw [hk1]
      obtain ⟨z, hz⟩ : ∃ z, t[f + q]? = some z := ⟨_, List.getElem?_eq_getElem (by omega)⟩
      have eo : o.getD (f + q) 0 = bidi z := by rw [List.getD_eq_getElem?_getD, hgt _ z hz]; rfl
      rw [rstU, eo]
      have h9 : (f : Int) ≤ (f : Int) + q := by omega
      have hi9 : (f : Int) + q - f = q := by omega
      have hn9 : ((f : Int) + q).toNat = f + q := by omega
      simp +contextual (disch := omega) [-wG_bool, wG_gd, wGp_some, gd_true, pickV_gdA, h9, hn9, hz, hB, hBk, -getElem?_pos]
      refine wIf_intro (fun hb => ?_) (fun hb => ?_)
      · rw [if_neg (by simp at hb; simp [hb])]
        have hb1 : blockOf [some (lv'.map (V.int .i64))] 0 = some (lv'.map (V.int .i64)) := by simp [blockOf]
        simp (disch := omega)
        exact ⟨own_ints (d := 4) hb1, frz_ints (d := 4) hb1 (Nat.zero_le _) (by omega)⟩
      · rw [if_pos (by cases hbz : blankB (bidi z) <;> simp_all; omega)]
        have hle : q + 1 ≤ g - f := hq
        simp (disch := omega) [hi9, hl', hle, wrap64]
        exact Rnd_of (m' := q) (by omega) ⟨q, lv'.set q e, by omega, rfl, by simpa using hl', rfl, by simp [List.map_set], by simp (disch := omega)⟩
theorem base_at (h29 : prim 29 = none) (h26 : prim 26 = none) (h28 : prim 28 = none) (h53 : prim 53 = none) (h54 : prim 54 = none) (B : Int → Int) (hB : ∀ cfg h r, callM md (K prim (d + 1)) cfg 20 [.int .i32 r] h = some (.int .i64 (B r), h)) (t : List Int) (ht : t.length ≤ 2000) (base : Int) :
    callM md (K prim (d + 3)) cfg 29 [rl t, .int .i64 base] h = some (.int .i64 (baseS B t base), h) := by
  refine call3 rfl h29 Try.func29 rfl rfl rfl (args' := [rl t, .int .i64 base]) (by simp) ?_
  by_cases h01 : base = 0 ∨ base = 1
  · rcases h01 with rfl | rfl <;> simp [baseS]
  · have h0 : ¬ base = 0 := fun e => h01 (.inl e)
    have h1 : ¬ base = 1 := fun e => h01 (.inr e)
    have hC := fun cfg h => classes_ok (prim := prim) d cfg h h26 B hB t ht
    obtain ⟨M, hMc, hMO⟩ := matching_ok (prim := prim) d h28 h53 (t.map B) (by simpa using ht)
    have hF := fun cfg h => first_ok (prim := prim) d cfg h h54 h53 (t.map B) M hMO (by simpa using ht) 0 t.length (by omega) (by simp)
    have e : ((t.map B).take t.length).drop 0 = t.map B := by rw [List.drop_zero, List.take_of_length_le (by simp)]
    rw [e] at hF
    simp at hC hMc hF
    simp [h0, h1, hC, hMc, hF, baseS]
end
end Bi
end Go.Ab
/- The generator: new, N, texts. -/
namespace Go.Ab
open Go.Proofs
namespace Bi
def alph : List Int := [97, 98, 102, 105, 88, 49, 50, 32, 32, 46, 44, 45, 39, 34, 40, 41, 91, 93, 60, 33, 58, 95, 37, 43, 47, 9, 10, 13, 0x0B, 0x85, 0xA0, 0xAD, 0xB7, 0x301, 0x5D0, 0x5D1, 0x5BE, 0x5B0, 0x600, 0x627, 0x628, 0x633, 0x640, 0x64B, 0x661, 0x66A, 0x60C, 0x61C, 0x6F1, 0x903, 0x905, 0x93C, 0x1100, 0x1161, 0x11A8, 0xAC00, 0xAC01, 0x2009, 0x200B, 0x200C, 0x200D, 0x200E, 0x200F, 0x2019, 0x2028, 0x2029, 0x202A, 0x202B, 0x202C, 0x202D, 0x202E, 0x2060, 0x2066, 0x2067, 0x2068, 0x2069, 0x2600, 0x3000, 0x3001, 0x300C, 0x300D, 0x30A2, 0x4E00, 0xFE0F, 0x1F1E6, 0x1F1E7, 0x1F3FB, 0x1F468, 0x10FFFF]
section
variable {prim : FuncId → Option Prim} (d : Nat) (cfg : Cfg) (h : Heap)
theorem new_ok (hp : prim 12 = none) (l : List Int) : callM md (K prim (d + 1)) cfg 12 [il l] h = some (.ptr h.length 0, h ++ [some [il (l.take 4000), .int .i64 0]]) := by
  refine call2 rfl hp Try.func12 rfl rfl rfl ?_
  simp
  by_cases hl : 4000 < l.length
  · have hl' : (4000 : Int) < l.length := by omega
    simp (disch := first | omega | (simp; done) | (simp; omega)) [hl']
  · have hl' : ¬ (4000 : Int) < l.length := by omega
    simp [hl', List.take_of_length_le (show l.length ≤ 4000 by omega)]
theorem N_ok (hp : prim 13 = none) (L : List Int) (k : Nat) (hL : L.length ≤ 4000) (hk : k ≤ L.length) (n : Int) (hn : 1 ≤ n) (hn2 : n ≤ 4000000000) (b : Nat) (hb : blockOf h b = some [il L, .int .i64 k]) (hw : cfg.wr b = true) :
    ∃ v k' : Nat, (v : Int) < n ∧ k' ≤ L.length ∧ callM md (K prim (d + 1)) cfg 13 [.ptr b 0, .int .i64 n] h = some (.int .i64 v, h.set b (some [il L, .int .i64 k'])) := by
  have hw' : (Cfg.wr ⟨cfg.lo, cfg.ex, h.length⟩ b) = true := hw
  have hbl := blockOf_lt hb
  by_cases hlt : k < L.length
  · obtain ⟨x, hx⟩ : ∃ x, L[k] = x := ⟨_, rfl⟩
    have hr := Int.tmod_lt_of_pos x (b := n) (by omega)
    have hr2 := Int.lt_tmod_of_pos x (b := n) (by omega)
    refine ⟨(if x.tmod n < 0 then x.tmod n + n else x.tmod n).toNat, k + 1, by split <;> omega, by omega, call1 rfl hp Try.func13 rfl rfl rfl ?_⟩
    simp
    refine wC_draw 9 (by kernel_rfl) ?_
    have hk1 : ¬ L.length ≤ k := by omega
    have hn1 : ¬ n < 1 := by omega
    have hn0 : ¬ n = 0 := by omega
    simp [hb, hk1, hn1]
    refine wC_draw 11 (by kernel_rfl) ?_
    simp (disch := first | omega | (simp; done) | (simp; omega)) [hb, hx, hw', wrap64]
    by_cases hneg : x.tmod n < 0
    · simp (disch := first | omega | (simp; done) | (simp; omega)) [hneg, wrap64]
      exact ⟨by omega, List.take_of_length_le (by simp)⟩
    · simp (disch := first | omega | (simp; done) | (simp; omega)) [hneg]
      exact ⟨by omega, List.take_of_length_le (by simp)⟩
  · refine ⟨0, k, by omega, hk, ?_⟩
    rw [set_same hb]
    refine call1 rfl hp Try.func13 rfl rfl rfl ?_
    have hk1 : L.length ≤ k := by omega
    simp
    refine wC_draw 9 (by kernel_rfl) ?_
    simp [hb, hk1]
@[simp] theorem cv3_21 {h : Heap} {k : IntKind} {n : Int} : convV Try.prog h 3 21 (.int k n) = some (.int .i32 (IntKind.i32.wrap n), h) := by kernel_rfl
theorem chance_ok (hp : ∀ f, f ≠ 17 ∧ f ≠ 82 ∧ f ≠ 15 ∧ f ≠ 51 ∧ f ≠ 27 → prim f = none) (L : List Int) (k : Nat) (hL : L.length ≤ 4000) (hk : k ≤ L.length) (n : Int) (hn : 1 ≤ n) (hn2 : n ≤ 4000000000) (b : Nat) (hb : blockOf h b = some [il L, .int .i64 k]) (hw : cfg.wr b = true) :
    ∃ (v : Bool) (k' : Nat), k' ≤ L.length ∧ callM md (K prim (d + 2)) cfg 73 [.ptr b 0, .int .i64 n] h = some (.bool v, h.set b (some [il L, .int .i64 k'])) := by
  obtain ⟨v, k', hv, hk', hN⟩ := N_ok (prim := prim) d ⟨cfg.lo, cfg.ex, h.length⟩ h (hp 13 (by decide)) L k hL hk n hn hn2 b hb hw
  refine ⟨decide ((v : Int) = n - 1), k', hk', call1 rfl (hp 73 (by decide)) Try.func73 rfl rfl rfl ?_⟩
  simp (disch := omega) [hN, wrap64]
  exact List.take_of_length_le (by simp)
theorem raw_ok (hp : ∀ f, f ≠ 17 ∧ f ≠ 82 ∧ f ≠ 15 ∧ f ≠ 51 ∧ f ≠ 27 → prim f = none) (L : List Int) (k : Nat) (hL : L.length ≤ 4000) (hk : k ≤ L.length) (b : Nat) (hb : blockOf h b = some [il L, .int .i64 k]) (hw : cfg.wr b = true) :
    ∃ (v : Int) (k' : Nat), k' ≤ L.length ∧ callM md (K prim (d + 1)) cfg 74 [.ptr b 0] h = some (.int .i64 v, h.set b (some [il L, .int .i64 k'])) := by
  have hw' : (Cfg.wr ⟨cfg.lo, cfg.ex, h.length⟩ b) = true := hw
  have hbl := blockOf_lt hb
  by_cases hlt : k < L.length
  · obtain ⟨x, hx⟩ : ∃ x, L[k]? = some x := ⟨L[k], List.getElem?_eq_getElem hlt⟩
    refine ⟨x, k + 1, by omega, call1 rfl (hp 74 (by decide)) Try.func74 rfl rfl rfl ?_⟩
    have hk1 : ¬ L.length ≤ k := by omega
    simp
    refine wC_draw 9 (by kernel_rfl) ?_
    simp (disch := omega) [hb, hk1, hw', wrap64]
    refine wC_draw 9 (by kernel_rfl) ?_
    have e1 : ((k : Int) + 1 - 1).toNat = k := by omega
    simp (disch := omega) [hx, wrap64, -getElem?_pos]
    exact List.take_of_length_le (by simp)
  · refine ⟨0, k, hk, ?_⟩
    rw [set_same hb]
    refine call1 rfl (hp 74 (by decide)) Try.func74 rfl rfl rfl ?_
    have hk1 : L.length ≤ k := by omega
    simp
    refine wC_draw 9 (by kernel_rfl) ?_
    simp [hb, hk1]
set_option maxRecDepth 100000 in
theorem alphabet_ok (hp : prim 72 = none) : ∃ A : List Int, A.length = 89 ∧ ∀ cfg h, callM md (K prim (d + 1)) cfg 72 [] h = some (rl A, h) := by
  refine ⟨alph, rfl, fun cfg h => ?_⟩
  refine call0 rfl hp Try.func72 rfl rfl rfl (by simp) ?_
  simp
  exact frz_ints (d := 4) (k := .i32) (l := alph) rfl (Nat.zero_le _) rfl
theorem rune_ok (hp : ∀ f, f ≠ 17 ∧ f ≠ 82 ∧ f ≠ 15 ∧ f ≠ 51 ∧ f ≠ 27 → prim f = none) (L : List Int) (k : Nat) (hL : L.length ≤ 4000) (hk : k ≤ L.length) (b : Nat) (hb : blockOf h b = some [il L, .int .i64 k]) (hw : cfg.wr b = true) :
    ∃ (v : Int) (k' : Nat), k' ≤ L.length ∧ callM md (K prim (d + 3)) cfg 48 [.ptr b 0] h = some (.int .i32 v, h.set b (some [il L, .int .i64 k'])) := by
  have hbl := blockOf_lt hb
  obtain ⟨A, hA, hal⟩ := alphabet_ok (prim := prim) (d + 1) (hp 72 (by decide))
  obtain ⟨c, k1, hk1, hC⟩ := chance_ok (prim := prim) d ⟨cfg.lo, cfg.ex, h.length⟩ h hp L k hL hk 40 (by omega) (by omega) b hb hw
  have hb1 : blockOf (h.set b (some [il L, .int .i64 k1])) b = some [il L, .int .i64 k1] := by simp [hbl]
  cases c
  · obtain ⟨v, k2, hv, hk2, hN⟩ := N_ok (prim := prim) (d + 1) ⟨cfg.lo, cfg.ex, h.length⟩ (h.set b (some [il L, .int .i64 k1])) (hp 13 (by decide)) L k1 hL hk1 89 (by omega) (by omega) b hb1 hw
    obtain ⟨x, hx⟩ : ∃ x, A[v]? = some x := ⟨A[v], List.getElem?_eq_getElem (by omega)⟩
    refine ⟨x, k2, hk2, call1 rfl (hp 48 (by decide)) Try.func48 rfl rfl rfl ?_⟩
    simp at hN
    simp (disch := omega) [hal, hC, hA, hN, hx, -getElem?_pos]
    exact List.take_of_length_le (by simp)
  · obtain ⟨v, k2, hk2, hR⟩ := raw_ok (prim := prim) (d + 1) ⟨cfg.lo, cfg.ex, h.length⟩ (h.set b (some [il L, .int .i64 k1])) hp L k1 hL hk1 b hb1 hw
    refine ⟨IntKind.i32.wrap v, k2, hk2, call1 rfl (hp 48 (by decide)) Try.func48 rfl rfl rfl ?_⟩
    simp at hR
    simp (disch := omega) [hal, hC, hR]
    exact List.take_of_length_le (by simp)
set_option maxHeartbeats 4000000 in
theorem text_ok (hp : ∀ f, f ≠ 17 ∧ f ≠ 82 ∧ f ≠ 15 ∧ f ≠ 51 ∧ f ≠ 27 → prim f = none) (L : List Int) (k : Nat) (hL : L.length ≤ 4000) (hk : k ≤ L.length) (n : Nat) (hn : n ≤ 1000) (b : Nat) (hb : blockOf h b = some [il L, .int .i64 k]) (hw : cfg.wr b = true) (hlo : cfg.lo ≤ h.length) :
    ∃ (l : List Int) (k' : Nat), l.length ≤ n ∧ k' ≤ L.length ∧ callM md (K prim (d + 4)) cfg 18 [.ptr b 0, .int .i64 n] h = some (rl l, h.set b (some [il L, .int .i64 k'])) := by
  have hw' : (Cfg.wr ⟨cfg.lo, cfg.ex, h.length⟩ b) = true := hw
  have hbl := blockOf_lt hb
  obtain ⟨v, k1, hv, hk1, hN⟩ := N_ok (prim := prim) (d + 2) ⟨cfg.lo, cfg.ex, h.length⟩ h (hp 13 (by decide)) L k hL hk (n + 1) (by omega) (by omega) b hb hw'
  have hb1 : blockOf (h.set b (some [il L, .int .i64 k1])) b = some [il L, .int .i64 k1] := by simp [hbl]
  obtain ⟨few, k2, hfew, hk2, hN2⟩ := N_ok (prim := prim) (d + 2) ⟨cfg.lo, cfg.ex, h.length⟩ (h.set b (some [il L, .int .i64 k1])) (hp 13 (by decide)) L k1 hL hk1 3 (by omega) (by omega) b hb1 hw'
  simp at hN2
  have hc := call1x (md := md) (n := 10000) (d := d + 3) (cfg := cfg) (h := h) (args := [.ptr b 0, .int .i64 n]) (Post := fun r h2 => ∃ (l : List Int) (k' : Nat), l.length ≤ n ∧ k' ≤ L.length ∧ r = rl l ∧ h2 = h.set b (some [il L, .int .i64 k'])) rfl (hp 18 (by decide)) Try.func18 rfl rfl rfl ?_
  · obtain ⟨r, h2, h3, l, k', h4, h5, rfl, rfl⟩ := hc
    exact ⟨l, k', h4, h5, h3⟩
  have hu0 : Upd h b [il L, .int .i64 k2] (h.set b (some [il L, .int .i64 k2])) := (Upd.refl hb).set
  simp (disch := omega) [hN, hN2, wrap64]
  refine wC_loop (fun m fr H => ∃ (i kk : Nat) (sv : V) (S : List Int), i ≤ 5 ∧ m = 5 - i ∧ kk ≤ L.length ∧ S.length = i ∧ Upd h b [il L, .int .i64 kk] H ∧ OwnL H h.length .i32 sv S ∧
      Slots 47 [(0, .ptr b 0), (5, .int .i64 v), (6, .nils), (7, .int .i64 few), (8, sv), (9, .int .i64 i)] fr) (m := 5) (by omega) ⟨0, k2, .nils, [], by omega, by omega, hk2, rfl, hu0, .inl ⟨rfl, rfl⟩, by simp⟩ ?_
  rintro m fr H ⟨i, kk, sv, S, hi, rfl, hkk, hS, hu, hown, hs⟩
  obtain ⟨j, rfl⟩ := hs.ex
  clear hs
  by_cases hlt : i < 5
  · obtain ⟨x, k3, hk3, hR⟩ := rune_ok (prim := prim) d ⟨cfg.lo, cfg.ex, h.length⟩ H hp L kk hL hkk b (hu.block hbl rfl) hw'
    have hu1 : Upd h b [il L, .int .i64 k3] (H.set b (some [il L, .int .i64 k3])) := hu.set
    have hlt' : (i : Int) < 5 := by omega
    have hbn : blockOf (H.set b (some [il L, .int .i64 k3]) ++ [some [.int .i32 x]]) H.length = some [.int .i32 x] := by rw [blockOf_len' (by simp)]; rfl
    simp (disch := omega) [hlt', hR, hbn]
    refine wS_app (l := S) (lo := h.length) (y := 4) ?_ ?_ ?_ ?_ ?_ ?_
    · refine hown.mono fun c h1 h2 => ?_
      rw [blockOf_left (by simpa using h2), blockOf_set_ne' (by omega)]
    · exact hlo
    · have := hu.2; simp; omega
    · rw [hS]; omega
    · rw [hS]; omega
    · intro d' h' ho' htk hlen'
      simp (disch := omega) [wrap64]
      exact Rnd_of (m' := 5 - (i + 1)) (by omega) ⟨i + 1, k3, d', S ++ [x], by omega, rfl, hk3, by simp [hS], (hu1.push _).of_take htk hlen', ho', by simp⟩
  · have hlt' : ¬ (i : Int) < 5 := by omega
    have hi5 : i = 5 := by omega
    subst hi5
    simp
    refine wC_loop (fun m fr H => ∃ (q kk : Nat) (lv : V) (Ls : List Int), q ≤ v ∧ m = v - q ∧ kk ≤ L.length ∧ Ls.length = q ∧ Upd h b [il L, .int .i64 kk] H ∧ OwnL H h.length .i32 sv S ∧ OwnL H h.length .i32 lv Ls ∧ Dj sv lv ∧
      Slots 47 [(0, .ptr b 0), (5, .int .i64 v), (6, lv), (7, .int .i64 few), (8, sv), (10, .int .i64 q)] fr) (m := v) (by omega) ⟨0, kk, .nils, [], by omega, by omega, hkk, rfl, hu, hown, .inl ⟨rfl, rfl⟩, Dj.nils, by simp⟩ ?_
    clear hu hown hkk
    rintro m fr H ⟨q, kk, lv, Ls, hq, rfl, hkk, hLs, hu, hown, howl, hdj, hs⟩
    obtain ⟨j, rfl⟩ := hs.ex
    clear hs
    by_cases hqv : q < v
    · by_cases hf : 0 < few
      · obtain ⟨u, k3, hu5, hk3, hN3⟩ := N_ok (prim := prim) (d + 2) ⟨cfg.lo, cfg.ex, h.length⟩ H (hp 13 (by decide)) L kk hL hkk 5 (by omega) (by omega) b (hu.block hbl rfl) hw'
        obtain ⟨x, hx⟩ : ∃ x, S[u]? = some x := ⟨S[u], List.getElem?_eq_getElem (by omega)⟩
        rcases hown with ⟨rfl, rfl⟩ | ⟨sb, rfl, hsb1, hsb2⟩
        · simp at hx
        have hown' : OwnL H h.length .i32 (.sl sb 0 S.length S.length 1) S := .inr ⟨sb, rfl, hsb1, hsb2⟩
        have hsl : sb < H.length := blockOf_lt hsb2
        have hu1 : Upd h b [il L, .int .i64 k3] (H.set b (some [il L, .int .i64 k3])) := hu.set
        have hbs : b ≠ sb := by omega
        have hbk : blockOf (H.set b (some [il L, .int .i64 k3])) sb = some (S.map (V.int .i32)) := by rw [blockOf_set_ne' hbs]; exact hsb2
        have hbn : blockOf (H.set b (some [il L, .int .i64 k3]) ++ [some [.int .i32 x]]) H.length = some [.int .i32 x] := by rw [blockOf_len' (by simp)]; rfl
        simp (disch := omega) [hqv, hf, hN3, hbk, hx, hbn, -getElem?_pos]
        refine wS_app2 (l := Ls) (lo := h.length) (y := 4) ?_ ?_ ?_ ?_ ?_ ?_
        · refine howl.mono fun c h1 h2 => ?_
          rw [blockOf_left (by simpa using h2), blockOf_set_ne' (by omega)]
        · exact hlo
        · have := hu.2; simp; omega
        · rw [hLs]; omega
        · rw [hLs]; omega
        · intro d' h' ho' htk hlen' _ hoth
          obtain ⟨hd1, hd2⟩ := hoth _ hdj (fun c hc => by cases hc; simp; omega)
          simp (disch := omega) [wrap64]
          refine Rnd_of (m' := v - (q + 1)) (by omega) ⟨q + 1, k3, d', Ls ++ [x], by omega, rfl, hk3, by simp [hLs], (hu1.push _).of_take htk hlen', ?_, ho', hd1, by simp⟩
          refine .inr ⟨sb, rfl, hsb1, ?_⟩
          rw [hd2 sb rfl, blockOf_left (by simpa using hsl)]
          exact hbk
      · obtain ⟨x, k3, hk3, hR⟩ := rune_ok (prim := prim) d ⟨cfg.lo, cfg.ex, h.length⟩ H hp L kk hL hkk b (hu.block hbl rfl) hw'
        have hu1 : Upd h b [il L, .int .i64 k3] (H.set b (some [il L, .int .i64 k3])) := hu.set
        have hbn : blockOf (H.set b (some [il L, .int .i64 k3]) ++ [some [.int .i32 x]]) H.length = some [.int .i32 x] := by rw [blockOf_len' (by simp)]; rfl
        simp (disch := omega) [hqv, hf, hR, hbn]
        refine wS_app2 (l := Ls) (lo := h.length) (y := 4) ?_ ?_ ?_ ?_ ?_ ?_
        · refine howl.mono fun c h1 h2 => ?_
          rw [blockOf_left (by simpa using h2), blockOf_set_ne' (by omega)]
        · exact hlo
        · have := hu.2; simp; omega
        · rw [hLs]; omega
        · rw [hLs]; omega
        · intro d' h' ho' htk hlen' _ hoth
          obtain ⟨hd1, hd2⟩ := hoth sv hdj (fun c hc => by have := (hown.blk hc).2; simp; omega)
          simp (disch := omega) [wrap64]
          refine Rnd_of (m' := v - (q + 1)) (by omega) ⟨q + 1, k3, d', Ls ++ [x], by omega, rfl, hk3, by simp [hLs], (hu1.push _).of_take htk hlen', ?_, ho', hd1, by simp⟩
          refine hown.of_blk fun c hc => ?_
          have := hown.blk hc
          rw [hd2 c hc, blockOf_left (by simpa using this.2), blockOf_set_ne' (by omega)]
    · simp [hqv]
      refine ⟨_, ?_, Ls, by omega, kk, hkk, rfl, hu.1⟩
      rcases howl with ⟨rfl, rfl⟩ | ⟨lb, rfl, hlb1, hlb2⟩
      · rfl
      · exact frz_ints (d := 4) hlb2 hlb1 rfl
end
end Bi
end Go.Ab
