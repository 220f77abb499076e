/- Several texts of this proof in one. -/
import Derived.Test.YteogajcegmejgaaGreatPaRun
import Derived.Test.YteogajcegmejgaaGreatPaRun2
import Derived.Test.YteogajcegmejgaaGreatPaRef9
namespace Go.Ab
open Go.Proofs
namespace Bi
attribute [local congr] wGq_congr
theorem ordS_rng {lv : List Int} : (ordS lv).length ≤ lv.length ∧ ∀ x ∈ ordS lv, 0 ≤ x ∧ x < lv.length := by
  unfold ordS
  split
  · simp
  · have h := ord_perm lv 127 (idx lv.length)
    refine ⟨by rw [h.length_eq]; simp [idx], fun x hx => ?_⟩
    have := h.mem_iff.1 hx
    simp [idx] at this
    obtain ⟨k, hk, rfl⟩ := this
    omega
theorem gly_src {h : Heap} {s : Nat} (l : List Gly) : srcCells h s (.lst (l.map glyC)) = if s = 8 ∨ l = [] then some (l.length, l.flatMap glyC) else none := by
  simp only [srcCells_lst]
  have e : (l.map glyC).all (fun e => e.length == s) = decide (s = 8 ∨ l = []) := by
    rw [Bool.eq_iff_iff, List.all_eq_true]
    simp only [List.mem_map, decide_eq_true_eq, beq_iff_eq]
    constructor
    · intro h
      cases l with
      | nil => exact .inr rfl
      | cons x l => exact .inl ((h (glyC x) ⟨x, by simp, rfl⟩).symm)
    · rintro (rfl | rfl) x ⟨g, hg, rfl⟩
      · rfl
      · simp at hg
  rw [e]
  by_cases h : s = 8 ∨ l = [] <;> simp [h, List.flatMap_def]
theorem gly_src8 {h : Heap} (l : List Gly) : srcCells h 8 (.lst (l.map glyC)) = some (l.length, l.flatMap glyC) := by rw [gly_src, if_pos (.inl rfl)]
theorem gly_lf2 (l : List Gly) : (∀ x : Gly, x ∈ l → ∀ c : V, c ∈ glyC x → c.leaf = true) = True := by
  refine eq_true fun x _ c hc => ?_
  simp [glyC] at hc
  rcases hc with rfl | rfl | rfl | rfl | rfl | rfl | rfl | rfl <;> rfl
structure FsOK (p : Par) (fs : List Fnt) : Prop where
  n : fs.length ≤ 100
  sz : ∀ f ∈ fs, f.adv.length ≤ 1000 ∧ f.ker.length ≤ 1000 ∧ f.lig.length ≤ 1000
  sp : ∀ s ∈ p.s, 0 ≤ s.n ∧ s.n < fs.length
  sl : 0 < p.s.length ∧ p.s.length ≤ 2000
section
variable {prim : FuncId → Option Prim} (d : Nat)
set_option maxRecDepth 100000 in
set_option maxHeartbeats 16000000 in
theorem glyphs9_ex (hp : ∀ f, Np5 f → prim f = none) (p : Par) (ht : p.t.length ≤ 2000) (fs : List Fnt) (hf : FsOK p fs) (s : Sec) (hs : SecOK p s) (a b : Nat) (h1 : s.f ≤ a) (h2 : a ≤ b) (h3 : b ≤ s.t) (h4 : s.f < s.t) (h5 : b - a ≤ 60) (cfg : Cfg) (h : Heap) (hlo : cfg.lo ≤ h.length) :
    ∃ r h2, callM md (K prim (d + 6)) cfg 36 [.agg (parC p), .lst (fs.map fntC), .agg (secF s), .int .i64 a, .int .i64 b] h = some (r, h2) ∧ ∃ gs : List Gly, gs.length ≤ 3600 ∧ Hp h2 h [(8, r, gs.flatMap glyC)] := by
  refine call2x rfl (hp 36 (by decide)) Tryz.func36 rfl rfl rfl ?_
  obtain ⟨hlf, hmp, s0, s1, s2, s3, s4, l5, t5⟩ := pslots p
  obtain ⟨_, ⟨lv, rfl, hlv⟩, hLv⟩ := levels9_ex (prim := prim) d hp p ht s hs a b h1 h2 h3 h4
  have hOr := fun cfg h => order'_ok (prim := prim) (d + 4) cfg h (hp 63 (by decide)) lv (by omega) (args := [il lv]) rfl
  obtain ⟨hol, hor⟩ := ordS_rng (lv := lv)
  generalize ordS lv = od at *
  have hsm : isMap (secF s) = false := rfl
  have hsl : (secF s).length = 4 := rfl
  have hst : List.take 4 (secF s) = secF s := rfl
  have hslf : (secF s).all V.leaf = true := by cases s; rfl
  have hb2000 : b ≤ p.t.length := Nat.le_trans h3 hs.2.1
  have hSp := fun i => span_ex (prim := prim) (d + 4) hp p hf.sl.2 hf.sl.1 i
  have mSp : md 64 = 0 := rfl
  have mRn : md 65 = 0 := rfl
  have g0 : Hp (h ++ [some (parC p), some (secF s)]) h [] := Hp.start.push _
  simp (disch := omega) [hlf, hmp, l5, t5, hsm, hsl, hst, hslf, hLv, hOr]
  refine wC_loop (fun m fr H => ∃ (k : Nat) (gs : List Gly) (v : V) (dn : Int), k ≤ od.length ∧ m = od.length - k ∧ gs.length ≤ 60 * k ∧ Hp H (h ++ [some (parC p), some (secF s)]) [(8, v, gs.flatMap glyC)] ∧
    Slots 140 [(1, .lst (fs.map fntC)), (3, .int .i64 a), (5, .ptr h.length 0), (11, il lv), (12, il od), (13, v), (14, .int .i64 dn), (15, .int .i64 k)] fr) (m := od.length) (by omega) ⟨0, [], .nils, -1, by omega, rfl, by simp, (Hp.start).nil 8, by simp⟩ ?_
  rintro m fr H ⟨k, gs, v, dn, hk, rfl, hgl, hhp, hs⟩
  obtain ⟨j, rfl⟩ := hs.ex
  clear hs
  by_cases hlt : k < od.length
  · obtain ⟨i, hi⟩ := atL hlt
    obtain ⟨hi1, hi2⟩ := hor i (List.mem_of_getElem? hi)
    obtain ⟨q, rfl⟩ : ∃ q : Nat, i = q := ⟨i.toNat, by omega⟩
    have hq : q < lv.length := by omega
    have hbp : blockOf H h.length = some (parC p) := by rw [hhp.block (by simp)]; simp [blockOf, hmp]
    obtain ⟨_, ⟨w, rfl, hw⟩, hSq⟩ := hSp ((a : Int) + q)
    simp (disch := omega) [hlt, hi, wrap64, -getElem?_pos]
    refine wC_loop (fun m fr H' => ∃ b0 : Nat, b0 ≤ q ∧ m = b0 ∧ H' = H ∧
      Slots 140 [(1, .lst (fs.map fntC)), (3, .int .i64 a), (5, .ptr h.length 0), (11, il lv), (12, il od), (13, v), (14, .int .i64 dn), (15, .int .i64 k), (16, .int .i64 q), (17, .int .i64 b0), (18, .int .i64 ((q : Int) + 1))] fr) (m := q) (by omega) ⟨q, by omega, rfl, rfl, by simp⟩ ?_
    rintro m fr H' ⟨b0, hb0, hm, rfl, hs⟩
    replace hm := hm.symm
    subst hm
    obtain ⟨j2, rfl⟩ := hs.ex
    clear hs
    obtain ⟨y, hy⟩ := atL hq
    simp only [wC_seq]
    refine wC_mid (fun fr' H2 => H2 = H' ∧ ∃ z : Bool, (z = true → 0 < b0) ∧ Slots 140 [(1, .lst (fs.map fntC)), (3, .int .i64 a), (5, .ptr h.length 0), (11, il lv), (12, il od), (13, v), (14, .int .i64 dn), (15, .int .i64 k), (16, .int .i64 q), (17, .int .i64 b0), (18, .int .i64 ((q : Int) + 1)), (67, .bool z)] fr') ?_ ?_
    · rcases Nat.eq_zero_or_pos b0 with rfl | hbp0
      · refine wC_draw 25 (by kernel_rfl) ?_
        simp (disch := omega)
        exact Mid_of ⟨rfl, false, by simp, by simp⟩
      · obtain ⟨x, hx⟩ := atL (show b0 - 1 < lv.length by omega)
        have hn1 : ((b0 : Int) - 1).toNat = b0 - 1 := by omega
        obtain ⟨_, ⟨w1, rfl, hw1⟩, hS1⟩ := hSp ((a : Int) + b0 - 1)
        refine wC_draw 25 (by kernel_rfl) ?_
        by_cases hxy : x = y
        · by_cases hww : w1 = w
          · simp (disch := omega) [hbp0, hx, hy, hn1, hxy, hbp, l5, t5, hS1, hSq, mSp, hww, wrap64, -getElem?_pos]
            exact Mid_of ⟨rfl, true, by simp; omega, by simp⟩
          · simp (disch := omega) [hbp0, hx, hy, hn1, hxy, hbp, l5, t5, hS1, hSq, mSp, hww, wrap64, -getElem?_pos]
            exact Mid_of ⟨rfl, false, by simp, by simp⟩
        · simp (disch := omega) [hbp0, hx, hy, hn1, hxy, wrap64, -getElem?_pos]
          exact Mid_of ⟨rfl, false, by simp, by simp⟩
    rintro fr H2 ⟨rfl, z, hz, hs⟩
    obtain ⟨j3, rfl⟩ := hs.ex
    clear hs
    rcases z with _ | _
    · simp (disch := omega)
      refine wC_loop (fun m fr H'' => ∃ e : Nat, q + 1 ≤ e ∧ e ≤ lv.length ∧ m = lv.length - e ∧ H'' = H2 ∧
        Slots 140 [(1, .lst (fs.map fntC)), (3, .int .i64 a), (5, .ptr h.length 0), (11, il lv), (12, il od), (13, v), (14, .int .i64 dn), (15, .int .i64 k), (16, .int .i64 q), (17, .int .i64 b0), (18, .int .i64 e)] fr) (m := lv.length - (q + 1)) (by omega) ⟨q + 1, by omega, by omega, rfl, rfl, by simp⟩ ?_
      rintro m fr H'' ⟨e, he1, he2, rfl, rfl, hs⟩
      obtain ⟨j4, rfl⟩ := hs.ex
      clear hs
      simp only [wC_seq]
      refine wC_mid (fun fr' H2 => H2 = H'' ∧ ∃ z : Bool, (z = true → e < lv.length) ∧ Slots 140 [(1, .lst (fs.map fntC)), (3, .int .i64 a), (5, .ptr h.length 0), (11, il lv), (12, il od), (13, v), (14, .int .i64 dn), (15, .int .i64 k), (16, .int .i64 q), (17, .int .i64 b0), (18, .int .i64 e), (97, .bool z)] fr') ?_ ?_
      · rcases Nat.lt_or_ge e lv.length with hlt2 | hge
        · obtain ⟨x, hx⟩ := atL hlt2
          obtain ⟨_, ⟨w1, rfl, hw1⟩, hS1⟩ := hSp ((a : Int) + e)
          refine wC_draw 25 (by kernel_rfl) ?_
          by_cases hxy : x = y
          · by_cases hww : w1 = w
            · simp (disch := omega) [hlt2, hx, hy, hxy, hbp, l5, t5, hS1, hSq, mSp, hww, wrap64, -getElem?_pos]
              exact Mid_of ⟨rfl, true, by simp; omega, by simp⟩
            · simp (disch := omega) [hlt2, hx, hy, hxy, hbp, l5, t5, hS1, hSq, mSp, hww, wrap64, -getElem?_pos]
              exact Mid_of ⟨rfl, false, by simp, by simp⟩
          · simp (disch := omega) [hlt2, hx, hy, hxy, -getElem?_pos]
            exact Mid_of ⟨rfl, false, by simp, by simp⟩
        · have hnl : ¬ e < lv.length := by omega
          refine wC_draw 25 (by kernel_rfl) ?_
          simp (disch := omega) [hnl]
          exact Mid_of ⟨rfl, false, by simp, by simp⟩
      rintro fr H3 ⟨rfl, z, hz, hs⟩
      obtain ⟨j5, rfl⟩ := hs.ex
      clear hs
      rcases z with _ | _
      · simp (disch := omega)
        refine wIf_intro (fun _ => ?_) (fun _ => ?_)
        · simp (disch := omega) [wrap64]
          exact Rnd_of (m' := od.length - (k + 1)) (by omega) ⟨k + 1, gs, v, dn, by omega, by omega, by omega, hhp, by simp⟩
        · obtain ⟨sp, hsp⟩ := atL hw
          obtain ⟨hn0, hn1⟩ := hf.sp sp (List.mem_of_getElem? hsp)
          obtain ⟨fi, hfi⟩ : ∃ x : Nat, sp.n = x := ⟨sp.n.toNat, by omega⟩
          obtain ⟨f, hff⟩ := atL (show fi < fs.length by omega)
          obtain ⟨f1, f2, f3⟩ := hf.sz f (List.mem_of_getElem? hff)
          have hfc : (fntC f).length = 8 := rfl
          have hft : List.take 8 (fntC f) = fntC f := rfl
          obtain ⟨_, ⟨gs', rfl, hg'⟩, hRn⟩ := run8_ex (prim := prim) d hp f f1 f2 f3 sp.n sp.z p.t ht (a + b0) (a + e) (by omega) (by omega) (decide (y.tmod 2 = 1))
          have e1 : ((a + b0 : Nat) : Int) = (a : Int) + b0 := by omega
          have e2 : ((a + e : Nat) : Int) = (a : Int) + e := by omega
          rw [e1, e2, hfi] at hRn
          have hle := hhp.le
          simp only [List.length_append, List.length_cons, List.length_nil] at hle
          have hwr : cfg.wr H3.length = true := wr_lo (by omega)
          simp (disch := omega)
          refine wC_draw 10 (by kernel_rfl) ?_
          simp (disch := omega) [hbp, s1, l5, t5, hSq, mSp, hsp, hwr, spnC, wrap64, -getElem?_pos]
          refine wC_draw 24 (by kernel_rfl) ?_
          simp (maxSteps := 1000000) (disch := omega) [hbp, s0, hfi, hff, hfc, hft, hy, hRn, gly_src8, gly_lf2, -srcCells_lst, wrap64, -getElem?_pos]
          refine wS_appG (m := gs'.length) (hhp.push _) (by simp; omega) (gly_fl gs') (gly_map gs') (by omega) (by rw [gly_fl]; omega) (by rw [gly_fl]; omega) ?_
          intro v' H' hhp5
          simp (disch := omega) [wrap64]
          exact Rnd_of (m' := od.length - (k + 1)) (by omega) ⟨k + 1, gs ++ gs', v', (b0 : Int), by omega, by omega, by simp; omega, by simpa using hhp5, by simp⟩
      · have := hz rfl
        simp (disch := omega) [wrap64]
        exact Rnd_of (m' := lv.length - (e + 1)) (by omega) ⟨e + 1, by omega, by omega, rfl, rfl, by simp⟩
    · have := hz rfl
      simp (disch := omega) [wrap64]
      exact Rnd_of (m' := b0 - 1) (by omega) ⟨b0 - 1, by omega, rfl, rfl, by simp; omega⟩
  · simp (disch := omega) [hlt]
    have hc := hhp.cut (n := h.length) (by simp)
    rw [List.take_left' rfl] at hc
    exact ⟨gs, by omega, hc⟩
end
end Bi
end Go.Ab
namespace Go.Ab
open Go.Proofs
namespace Bi
attribute [local congr] wGq_congr
section
variable {prim : FuncId → Option Prim} (d : Nat)
set_option maxRecDepth 100000 in
set_option maxHeartbeats 8000000 in
theorem fit9_ex (hp : ∀ f, Np5 f → prim f = none) (p : Par) (ht : p.t.length ≤ 2000) (fs : List Fnt) (hf : FsOK p fs) (s : Sec) (hs : SecOK p s) (a b : Nat) (h1 : s.f ≤ a) (h2 : a ≤ b) (h3 : b ≤ s.t) (h4 : s.f < s.t) (h5 : b - a ≤ 60) :
    ∃ v, IsI .i64 v ∧ ∀ cfg h, callM md (K prim (d + 7)) cfg 61 [.agg (parC p), .lst (fs.map fntC), .agg (secF s), .int .i64 a, .int .i64 b] h = some (v, h) := by
  have hslf : (secF s).all V.leaf = true := by cases s; rfl
  have hsrf : (secF s).all V.rf = true := by cases s; rfl
  have hsm : isMap (secF s) = false := rfl
  have hsl : (secF s).length = 4 := rfl
  have hst : List.take 4 (secF s) = secF s := rfl
  refine call0e rfl (hp 61 (by decide)) Tryz.func61 rfl rfl rfl (by simp [parC, secF]) ?_
  obtain ⟨hlf, hmp, s0, s1, s2, s3, s4, l5, t5⟩ := pslots p
  have hb2000 : b ≤ p.t.length := Nat.le_trans h3 hs.2.1
  obtain ⟨r, H2, hG, gs, hgl, hhp⟩ := glyphs9_ex (prim := prim) d hp p ht fs hf s hs a b h1 h2 h3 h4 h5 ⟨0, none, 0⟩ [some (parC p), some (secF s)] (by simp)
  obtain ⟨_, ⟨w, rfl, hw1, hw2⟩, hBl⟩ := blank_ex (prim := prim) (d + 1) hp p ht a b h2 hb2000
  have mG : md 36 = 2 := rfl
  have hb0 : blockOf H2 0 = some (parC p) := by rw [hhp.block (by simp)]; simp [blockOf, hmp]
  have hvl := hhp.head.lenF gly_len (by omega) (show Tryz.prog.underlying 54 = some (.slice 82) by kernel_rfl)
  simp (disch := omega) [hlf, hmp, l5, t5, hsm, hsl, hst, hslf, hG, hb0, hBl]
  refine wC_loop (fun m fr H => ∃ (i : Nat) (x : Int), i ≤ gs.length ∧ m = gs.length - i ∧ H = H2 ∧ Slots 46 [(11, r), (12, .int .i64 w), (13, .int .i64 x), (14, .int .i64 i)] fr) (m := gs.length) (by omega) ⟨0, 0, by omega, rfl, rfl, by simp⟩ ?_
  rintro m fr H ⟨i, x, hi, rfl, rfl, hs'⟩
  obtain ⟨j, rfl⟩ := hs'.ex
  clear hs'
  by_cases hlt : i < gs.length
  · obtain ⟨bb, rfl, hb1, hb2, hb3⟩ := hhp.head.posF gly_len (by omega) (show 0 < gs.length by omega)
    obtain ⟨g, hg⟩ := atL hlt
    have hmg := gly_map gs
    simp (disch := omega) [hvl, hlt, hb3, gly_at2 hg, -getElem?_pos]
    refine wIf_intro (fun _ => ?_) (fun _ => ?_)
    · simp (disch := omega) [hb3, gly_at5 hg, -getElem?_pos]
      have hw1 : IntKind.i64.wrap ((i : Int) + 1) = (i : Int) + 1 := by rw [wrap64 (by omega) (by omega)]
      exact Rnd_of (m' := gs.length - (i + 1)) (by omega) ⟨i + 1, IntKind.i64.wrap (x + g.a), by omega, by omega, rfl, by simp (disch := omega) [hw1]⟩
    · simp (disch := omega) [wrap64]
      exact Rnd_of (m' := gs.length - (i + 1)) (by omega) ⟨i + 1, x, by omega, by omega, rfl, by simp (disch := omega)⟩
  · simp (disch := omega) [hvl, hlt]
end
end Bi
end Go.Ab
namespace Go.Ab
open Go.Proofs
namespace Bi
attribute [local congr] wGq_congr
def Mon : Nat → Nat → List Nat → Prop
  | a, b, [] => a ≤ b
  | a, b, x :: l => a ≤ x ∧ Mon x b l
theorem Mon.snoc : ∀ {l : List Nat} {a b x : Nat}, Mon a b l → b ≤ x → Mon a x (l ++ [x])
  | [], _, _, _, h, h1 => ⟨Nat.le_trans h h1, Nat.le_refl _⟩
  | _ :: _, _, _, _, ⟨h1, h2⟩, h3 => ⟨h1, h2.snoc h3⟩
theorem Mon.le : ∀ {l : List Nat} {a b : Nat}, Mon a b l → a ≤ b
  | [], _, _, h => h
  | _ :: _, _, _, ⟨h1, h2⟩ => Nat.le_trans h1 h2.le
theorem Mon.get : ∀ {l : List Nat} {a b i x : Nat}, Mon a b l → l[i]? = some x → a ≤ x ∧ x ≤ b ∧ (∀ y, (a :: l)[i]? = some y → y ≤ x)
  | [], _, _, _, _, _, h => by simp at h
  | y :: l, a, b, 0, x, ⟨h1, h2⟩, h => by
    simp at h
    subst h
    exact ⟨h1, h2.le, fun z hz => by simp at hz; omega⟩
  | y :: l, a, b, i + 1, x, ⟨h1, h2⟩, h => by
    obtain ⟨g1, g2, g3⟩ := h2.get (by simpa using h)
    exact ⟨by omega, g2, fun z hz => g3 z (by simpa using hz)⟩
section
variable {prim : FuncId → Option Prim} (d : Nat)
set_option maxRecDepth 100000 in
set_option maxHeartbeats 16000000 in
theorem ends9_ex (hp : ∀ f, Np5 f → prim f = none) (p : Par) (ht : p.t.length ≤ 60) (fs : List Fnt) (hf : FsOK p fs) (s : Sec) (hs : SecOK p s) (B : List Int) (hB : B.length = p.t.length) (hBk : ∀ cfg h, callM md (K prim (d + 7)) cfg 56 [rl p.t] h = some (il B, h)) (hB2 : s.f < s.t → B[s.t - 1]? = some 2) :
    ∃ v, (∃ l : List Nat, v = il (l.map fun n : Nat => (n : Int)) ∧ Mon s.f s.t l ∧ l.length ≤ 61) ∧ ∀ cfg h, callM md (K prim (d + 8)) cfg 35 [.agg (parC p), .lst (fs.map fntC), .agg (secF s)] h = some (v, h) := by
  have hslf : (secF s).all V.leaf = true := by cases s; rfl
  have hsm : isMap (secF s) = false := rfl
  have hsl : (secF s).length = 4 := rfl
  have hst : List.take 4 (secF s) = secF s := rfl
  have q0 : slot (secF s) 0 = some (.int .i64 s.f) := rfl
  have q1 : slot (secF s) 1 = some (.int .i64 s.t) := rfl
  refine call0e rfl (hp 35 (by decide)) Tryz.func35 rfl rfl rfl (by simp [parC, secF]) ?_
  obtain ⟨hlf, hmp, s0, s1, s2, s3, s4, l5, t5⟩ := pslots p
  obtain ⟨_, ⟨cs, rfl, hcl, hcr⟩, hCl⟩ := clus_ex (prim := prim) (d + 3) hp p.t (by omega)
  have hIn := fun cfg h n => rin_ok (prim := prim) (d + 6) cfg h hp cs (by omega) n
  have mF : md 61 = 0 := rfl
  obtain ⟨k1, k2, k3⟩ := hs
  have hu : Tryz.prog.underlying 22 = some (.slice 3) := by kernel_rfl
  have g0 : Hp [some (parC p), some (secF s)] [some (parC p), some (secF s)] [] := Hp.start
  rcases Nat.eq_or_lt_of_le k1 with he | hlt0
  · simp (disch := omega) [hlf, hsm, hslf, q0, q1, he]
    exact ⟨_, frz_ints (d := 4) (k := .i64) (l := [(s.t : Int)]) rfl (Nat.zero_le _) rfl, [s.t], rfl, ⟨by omega, Nat.le_refl _⟩, by simp⟩
  have hne : ¬ s.f = s.t := by omega
  have hB2 := hB2 hlt0
  simp (disch := omega) [hlf, hmp, s0, hsm, hslf, q0, q1, hne, hBk, hCl]
  refine wC_loop (fun m fr H => ∃ (F : Nat) (l : List Nat) (v : V), s.f ≤ F ∧ F ≤ s.t ∧ m = s.t - F ∧ Mon s.f F l ∧ l.length ≤ F - s.f ∧ Hp H [some (parC p), some (secF s)] [(1, v, (l.map fun n : Nat => (n : Int)).map (V.int .i64))] ∧
    Slots 109 [(1, .lst (fs.map fntC)), (3, .ptr 0 0), (5, .ptr 1 0), (7, il B), (8, il cs), (9, v), (10, .int .i64 F)] fr) (m := s.t - s.f) (by omega) ⟨s.f, [], .nils, by omega, by omega, rfl, Nat.le_refl _, by simp, g0.nil 1, by simp⟩ ?_
  rintro m fr H ⟨F, l, v, hF1, hF2, rfl, hMon, hll, hhp, hs'⟩
  obtain ⟨j, rfl⟩ := hs'.ex
  clear hs'
  have hb0 : blockOf H 0 = some (parC p) := by rw [hhp.block (by simp)]; simp [blockOf, hmp]
  have hb1 : blockOf H 1 = some (secF s) := by rw [hhp.block (by simp)]; simp [blockOf, hsm]
  by_cases hlt : F < s.t
  · have hFt : ∀ t : Nat, F < t → t ≤ s.t → ∃ z : Int, ∀ cfg h, callM md (K prim (d + 7)) cfg 61 [.agg (parC p), .lst (fs.map fntC), .agg (secF s), .int .i64 F, .int .i64 t] h = some (.int .i64 z, h) := fun t h1 h2 => by
      obtain ⟨_, ⟨z, rfl⟩, hz⟩ := fit9_ex (prim := prim) d hp p (by omega) fs hf s ⟨k1, k2, k3⟩ F t hF1 (by omega) h2 hlt0 (by omega)
      exact ⟨z, hz⟩
    have hFw : IntKind.i64.wrap ((F : Int) + 1) = ((F + 1 : Nat) : Int) := by rw [wrap64 (by omega) (by omega)]; omega
    simp (disch := omega) [hlt, hb1, q1, -wC_block]
    rw [wC_block]
    simp (disch := omega) [hFw, -wC_block]
    refine wC_mid (fun fr' H2 => H2 = H ∧ ∃ E Fi : Nat, (E = 0 ∨ F < E ∧ E ≤ s.t) ∧ F < Fi ∧ Fi ≤ s.t ∧ Slots 109 [(1, .lst (fs.map fntC)), (3, .ptr 0 0), (5, .ptr 1 0), (7, il B), (8, il cs), (9, v), (10, .int .i64 F), (11, .int .i64 E), (12, .int .i64 Fi)] fr') ?_ ?_
    · simp (disch := omega) only [wC_block]
      refine wC_loop (fun m fr H2 => ∃ t E Fi : Nat, F < t ∧ t ≤ s.t + 1 ∧ m = s.t + 1 - t ∧ (E = 0 ∨ F < E ∧ E ≤ s.t) ∧ (Fi = 0 ∨ F < Fi ∧ Fi ≤ s.t) ∧ (Fi = 0 → ∀ j, F ≤ j → j + 1 < t → B[j]? = some 0) ∧ H2 = H ∧
        Slots 109 [(1, .lst (fs.map fntC)), (3, .ptr 0 0), (5, .ptr 1 0), (7, il B), (8, il cs), (9, v), (10, .int .i64 F), (11, .int .i64 E), (12, .int .i64 Fi), (13, .int .i64 t)] fr) (m := s.t - F) (by omega) ⟨F + 1, 0, 0, by omega, by omega, by omega, .inl rfl, .inl rfl, fun _ j h1 h2 => by omega, rfl, by simp⟩ ?_
      rintro m fr H2 ⟨t, E, Fi, ht1, ht2, rfl, hE, hFi, hz, rfl, hs'⟩
      obtain ⟨j2, rfl⟩ := hs'.ex
      clear hs'
      have htw : IntKind.i64.wrap ((t : Int) + 1) = ((t + 1 : Nat) : Int) := by rw [wrap64 (by omega) (by omega)]; omega
      have htm : IntKind.i64.wrap ((t : Int) - 1) = ((t - 1 : Nat) : Int) := by rw [wrap64 (by omega) (by omega)]; omega
      by_cases hle : t ≤ s.t
      · obtain ⟨bv, hbv⟩ := atL (show t - 1 < B.length by omega)
        obtain ⟨z, hzf⟩ := hFt t ht1 hle
        simp (disch := omega) [hle, hb1, q1, htm, hbv, -getElem?_pos]
        refine wIf_intro (fun hb => ?_) (fun hb => ?_)
        · simp (disch := omega) [htw]
          refine Rnd_of (m' := s.t - t) (by omega) ⟨t + 1, E, Fi, by omega, by omega, by omega, hE, hFi, fun h0 j h1 h2 => ?_, rfl, by simp⟩
          by_cases hjt : j + 1 = t
          · have : j = t - 1 := by omega
            subst this
            simp at hb
            rw [hbv, hb]
          · exact hz h0 j h1 (by omega)
        · rcases Nat.eq_zero_or_pos Fi with rfl | hFp
          · simp (disch := omega)
            refine wC_draw 8 (by kernel_rfl) ?_
            simp (disch := omega) [hb0, hb1, l5, t5, hsl, hst, s4, hzf, mF, -getElem?_pos]
            refine wIf_intro (fun _ => ?_) (fun _ => ?_)
            · simp (disch := omega)
              exact Mid_of ⟨rfl, E, t, hE, by omega, by omega, by simp⟩
            · simp (disch := omega) [htw]
              exact Rnd_of (m' := s.t - t) (by omega) ⟨t + 1, t, t, by omega, by omega, by omega, .inr ⟨by omega, by omega⟩, .inr ⟨by omega, by omega⟩, fun h => by omega, rfl, by simp⟩
          · have hF0 : ¬ Fi = 0 := by omega
            simp (disch := omega) [hF0]
            refine wC_draw 8 (by kernel_rfl) ?_
            simp (disch := omega) [hb0, hb1, l5, t5, hsl, hst, s4, hzf, mF, -getElem?_pos]
            refine wIf_intro (fun _ => ?_) (fun _ => ?_)
            · simp (disch := omega)
              exact Mid_of ⟨rfl, E, Fi, hE, by omega, by omega, by simp⟩
            · simp (disch := omega) [htw]
              exact Rnd_of (m' := s.t - t) (by omega) ⟨t + 1, t, Fi, by omega, by omega, by omega, .inr ⟨by omega, by omega⟩, hFi, fun h => by omega, rfl, by simp⟩
      · have hFp : ¬ Fi = 0 := fun h0 => by
          have := hz h0 (s.t - 1) (by omega) (by omega)
          rw [hB2] at this
          simp at this
        simp (disch := omega) [hle, hb1, q1]
        exact Mid_of ⟨rfl, E, Fi, hE, by omega, by omega, by simp⟩
    rintro fr H2 ⟨rfl, E, Fi, hE, hFi1, hFi2, hs'⟩
    obtain ⟨j3, rfl⟩ := hs'.ex
    clear hs'
    simp (disch := omega) [-wC_cond]
    refine wC_mid (fun fr' H3 => H3 = H2 ∧ ∃ E : Nat, F < E ∧ E ≤ s.t ∧ Slots 109 [(1, .lst (fs.map fntC)), (3, .ptr 0 0), (5, .ptr 1 0), (7, il B), (8, il cs), (9, v), (10, .int .i64 F), (11, .int .i64 E)] fr') ?_ ?_
    · rcases hE with rfl | ⟨hE1, hE2⟩
      · simp (disch := omega) [hFw]
        refine wC_loop (fun m fr H3 => ∃ t E : Nat, F < t ∧ t ≤ Fi ∧ m = Fi - t ∧ (E = 0 ∨ F < E ∧ E ≤ s.t) ∧ H3 = H2 ∧
          Slots 109 [(1, .lst (fs.map fntC)), (3, .ptr 0 0), (5, .ptr 1 0), (7, il B), (8, il cs), (9, v), (10, .int .i64 F), (11, .int .i64 E), (12, .int .i64 Fi), (14, .int .i64 t)] fr) (m := Fi - (F + 1)) (by omega) ⟨F + 1, 0, by omega, by omega, by omega, .inl rfl, rfl, by simp⟩ ?_
        rintro m fr H3 ⟨t, E, ht1, ht2, rfl, hE, rfl, hs'⟩
        obtain ⟨j2, rfl⟩ := hs'.ex
        clear hs'
        have htw : IntKind.i64.wrap ((t : Int) + 1) = ((t + 1 : Nat) : Int) := by rw [wrap64 (by omega) (by omega)]; omega
        by_cases hle : t < Fi
        · obtain ⟨z, hzf⟩ := hFt t ht1 (by omega)
          simp (disch := omega) [hle, hIn]
          refine wIf_intro (fun hb => ?_) (fun hb => ?_)
          rotate_left
          · simp (disch := omega)
            rcases hE with rfl | ⟨hE1, hE2⟩
            · refine wC_draw 11 (by kernel_rfl) ?_
              simp (disch := omega) [-getElem?_pos]
              refine wC_draw 8 (by kernel_rfl) ?_
              simp (disch := omega) [hb0, hb1, l5, t5, hsl, hst, s4, hzf, mF, -getElem?_pos]
              have ht0 : ¬ t = 0 := by omega
              refine wIf_intro (fun _ => ?_) (fun _ => ?_)
              · simp (disch := omega) [ht0]
                exact Mid_of ⟨rfl, t, by omega, by omega, by simp⟩
              · simp (disch := omega) [htw]
                exact Rnd_of (m' := Fi - (t + 1)) (by omega) ⟨t + 1, t, by omega, by omega, by omega, .inr ⟨by omega, by omega⟩, rfl, by simp⟩
            · have hE0 : ¬ E = 0 := by omega
              refine wC_draw 11 (by kernel_rfl) ?_
              simp (disch := omega) [hE0, hb0, hb1, l5, t5, hsl, hst, s4, hzf, mF, -getElem?_pos]
              refine wIf_intro (fun _ => ?_) (fun _ => ?_)
              · simp (disch := omega) [hE0]
                exact Mid_of ⟨rfl, E, by omega, by omega, by simp⟩
              · simp (disch := omega)
                refine wC_draw 8 (by kernel_rfl) ?_
                simp (disch := omega) [hb0, hb1, l5, t5, hsl, hst, s4, hzf, mF, -getElem?_pos]
                have ht0 : ¬ t = 0 := by omega
                refine wIf_intro (fun _ => ?_) (fun _ => ?_)
                · simp (disch := omega) [ht0]
                  exact Mid_of ⟨rfl, t, by omega, by omega, by simp⟩
                · simp (disch := omega) [htw]
                  exact Rnd_of (m' := Fi - (t + 1)) (by omega) ⟨t + 1, t, by omega, by omega, by omega, .inr ⟨by omega, by omega⟩, rfl, by simp⟩
          · simp (disch := omega) [htw]
            exact Rnd_of (m' := Fi - (t + 1)) (by omega) ⟨t + 1, E, by omega, by omega, by omega, hE, rfl, by simp⟩
        · rcases hE with rfl | ⟨hE1, hE2⟩
          · simp (disch := omega) [hle]
            exact Mid_of ⟨rfl, Fi, by omega, by omega, by simp⟩
          · have hE0 : ¬ E = 0 := by omega
            simp (disch := omega) [hle, hE0]
            exact Mid_of ⟨rfl, E, by omega, by omega, by simp⟩
      · have hE0 : ¬ E = 0 := by omega
        simp (disch := omega) [hE0]
        exact Mid_of ⟨rfl, E, by omega, by omega, by simp⟩
    rintro fr H3 ⟨rfl, E, hE1, hE2, hs'⟩
    obtain ⟨j4, rfl⟩ := hs'.ex
    clear hs'
    simp (disch := omega)
    refine wS_appO (m := 1) (hhp.push _) (by simp) rfl rfl (by omega) (by omega) (by simp; omega) (by simp; omega) ?_
    intro v' H' hhp5
    simp (disch := omega)
    exact Rnd_of (m' := s.t - E) (by omega) ⟨E, l ++ [E], v', by omega, by omega, rfl, hMon.snoc (by omega), by simp; omega, by simpa using hhp5, by simp⟩
  · obtain rfl : F = s.t := by omega
    have f1 := hhp.head.frzI (d := 4) (Nat.zero_le _)
    simp (disch := omega) [hb1, q1]
    exact ⟨_, f1, l, rfl, hMon, by omega⟩
end
end Bi
end Go.Ab
