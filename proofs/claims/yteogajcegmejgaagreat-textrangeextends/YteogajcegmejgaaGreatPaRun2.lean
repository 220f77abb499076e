/- The reference: the glyphs of a run, by their shapes. -/
import Derived.Test.YteogajcegmejgaaGreatPaRun
namespace Go.Ab
open Go.Proofs
namespace Bi
attribute [local congr] wGq_congr
theorem atL {α : Type} {l : List α} {i : Nat} (h : i < l.length) : ∃ x, l[i]? = some x := ⟨_, List.getElem?_eq_getElem h⟩
@[simp] theorem cv21_3 {h : Heap} {k : IntKind} {n : Int} : convV Tryz.prog h 21 3 (.int k n) = some (.int .i64 (IntKind.i64.wrap n), h) := by kernel_rfl
theorem hd21_3 {o : Operand} : headOp Tryz.prog (.convert 21 3 o) = true := by kernel_rfl
section
variable {prim : FuncId → Option Prim} (d : Nat)
set_option maxRecDepth 100000 in
set_option maxHeartbeats 16000000 in
theorem run8_ex (hp : ∀ f, Np5 f → prim f = none) (f : Fnt) (h1 : f.adv.length ≤ 1000) (h2 : f.ker.length ≤ 1000) (h3 : f.lig.length ≤ 1000) (face size : Int) (t : List Int) (ht : t.length ≤ 2000) (a b : Nat) (hab : a ≤ b) (hb : b ≤ t.length) (right : Bool) :
    ∃ v, (∃ gs : List Gly, v = .lst (gs.map glyC) ∧ gs.length ≤ b - a) ∧ ∀ cfg h, callM md (K prim (d + 5)) cfg 65 [.agg (fntC f), .int .i64 face, .int .i64 size, rl t, .int .i64 a, .int .i64 b, .bool right] h = some (v, h) := by
  refine call0e rfl (hp 65 (by decide)) Tryz.func65 rfl rfl rfl (by simp [fntC]) ?_
  obtain ⟨hlf, hmp, s0, s1, s2, s3, s4, s5, s6, s7, l8, t8⟩ := fslots f
  obtain ⟨_, rfl, hV⟩ := val7_ex (prim := prim) (d + 2) hp f h1 h2 h3
  obtain ⟨_, ⟨fm, rfl, hfm⟩, hFm⟩ := forms_ex (prim := prim) (d + 1) hp t ht
  obtain ⟨_, ⟨cs, rfl, hcl, hcr⟩, hCl⟩ := clus_ex (prim := prim) d hp t ht
  have hIn := fun cfg h n => rin_ok (prim := prim) (d + 3) cfg h hp cs (by omega) n
  have hu : Tryz.prog.underlying 54 = some (.slice 82) := by kernel_rfl
  have mIn : md 12 = 0 := rfl
  have mLg : md 114 = 0 := rfl
  have mAd : md 115 = 0 := rfl
  have mKn : md 117 = 0 := rfl
  simp +contextual (disch := first | omega | (simp; done) | (simp [Decidable.imp_iff_not_or]; done) | fail) [-wG_bool, wG_q, wGq_some, gq_true, pickV_qO, -getElem?_pos, hlf, hmp, l8, t8, hV]
  refine wIf_intro (fun _ => ?_) (fun _ => ?_)
  · simp
  have g0 : Hp [some (fntC f)] [some (fntC f)] [] := Hp.start
  simp (disch := omega) [hFm, hCl]
  refine wC_loop (fun m fr H => ∃ (k : Nat) (gs : List Gly) (v : V), a ≤ k ∧ k ≤ b ∧ m = b - k ∧ Chn a k gs ∧ Hp H [some (fntC f)] [(8, v, gs.flatMap glyC)] ∧
    Slots 244 [(1, .int .i64 face), (2, .int .i64 size), (3, rl t), (5, .int .i64 b), (6, .bool right), (7, .ptr 0 0), (15, il fm), (16, il cs), (17, v), (18, .int .i64 k)] fr) (m := b - a) (by omega) ⟨a, [], .nils, by omega, by omega, rfl, rfl, g0.nil 8, by simp⟩ ?_
  rintro m fr H ⟨k, gs, v, hak, hkb, rfl, hch, hhp, hs⟩
  obtain ⟨j, rfl⟩ := hs.ex
  clear hs
  have hb0 : blockOf H 0 = some (fntC f) := by rw [hhp.block (by simp)]; rfl
  have hgl := hch.len
  have hvl := hhp.head.lenF gly_len (by omega) hu
  by_cases hlt : k < b
  · simp (disch := omega) [hlt, hvl]
    refine wC_mid (fun fr' H' => H' = H ∧ ∃ q : Bool, (q = true → 0 < gs.length) ∧ Slots 244 [(1, .int .i64 face), (2, .int .i64 size), (3, rl t), (5, .int .i64 b), (6, .bool right), (7, .ptr 0 0), (15, il fm), (16, il cs), (17, v), (18, .int .i64 k), (19, .int .i64 gs.length), (104, .bool q)] fr') ?_ ?_
    · by_cases h0 : gs = []
      · subst h0
        refine wC_draw 16 (by kernel_rfl) ?_
        simp (disch := omega)
        exact Mid_of ⟨rfl, false, by simp, by simp⟩
      · have hpos : 0 < gs.length := List.length_pos_iff.2 h0
        obtain ⟨bb, rfl, hb1, hb2, hb3⟩ := hhp.head.posF gly_len (by omega) hpos
        have hmg := gly_map gs
        obtain ⟨g, hgl2⟩ := atL (show gs.length - 1 < gs.length by omega)
        have hn1 : ((gs.length : Int) - 1).toNat = gs.length - 1 := by omega
        have hk1 : 1 ≤ k := by omega
        refine wC_draw 16 (by kernel_rfl) ?_
        have hg0 : ¬ gs.length = 0 := by omega
        by_cases hto : g.t = IntKind.i64.wrap (g.f + 1)
        · by_cases i1 : (k : Int) - 1 ∈ cs
          · by_cases i2 : (k : Int) ∈ cs
            · by_cases i3 : (k : Int) + 1 ∈ cs
              · simp (disch := omega) [hpos, hn1, hb3, gly_at3 hgl2, gly_at2 hgl2, hto, hIn, i1, i2, i3, wrap64, -getElem?_pos]
                exact Mid_of ⟨rfl, true, fun _ => hpos, by simp⟩
              · simp (disch := omega) [hpos, hn1, hb3, gly_at3 hgl2, gly_at2 hgl2, hto, hIn, i1, i2, i3, wrap64, -getElem?_pos]
                exact Mid_of ⟨rfl, false, fun _ => hpos, by simp⟩
            · simp (disch := omega) [hpos, hn1, hb3, gly_at3 hgl2, gly_at2 hgl2, hto, hIn, i1, i2, wrap64, -getElem?_pos]
              exact Mid_of ⟨rfl, false, fun _ => hpos, by simp⟩
          · simp (disch := omega) [hpos, hn1, hb3, gly_at3 hgl2, gly_at2 hgl2, hto, hIn, i1, wrap64, -getElem?_pos]
            exact Mid_of ⟨rfl, false, fun _ => hpos, by simp⟩
        · simp (disch := omega) [hpos, hn1, hb3, gly_at3 hgl2, gly_at2 hgl2, hto, wrap64, -getElem?_pos]
          exact Mid_of ⟨rfl, false, fun _ => hpos, by simp⟩
    rintro fr H ⟨rfl, q, hq, hs⟩
    obtain ⟨j2, rfl⟩ := hs.ex
    clear hs
    obtain ⟨x, hx⟩ := atL (show k < t.length by omega)
    obtain ⟨fo, hfo⟩ := atL (show k < fm.length by omega)
    obtain ⟨_, ⟨av, rfl⟩, hAd⟩ := adv7_ex (prim := prim) d hp f h1 h2 h3 size x
    refine wC_midQ (fun fr' H' => Hp H' [some (fntC f)] [(8, v, gs.flatMap glyC)] ∧ Slots 244 [(1, .int .i64 face), (2, .int .i64 size), (3, rl t), (5, .int .i64 b), (6, .bool right), (7, .ptr 0 0), (15, il fm), (16, il cs), (17, v), (18, .int .i64 k)] fr') ?_ ?_
    · rcases q with _ | _
      · simp (disch := omega)
        exact Mid_of ⟨hhp, by simp⟩
      · have hpos := hq rfl
        obtain ⟨bb, rfl, hb1, hb2, hb3⟩ := hhp.head.posF gly_len (by omega) hpos
        have hmg := gly_map gs
        obtain ⟨g, hgl2⟩ := atL (show gs.length - 1 < gs.length by omega)
        have hn1 : ((gs.length : Int) - 1).toNat = gs.length - 1 := by omega
        have hk1 : ((k : Int) - 1).toNat = k - 1 := by omega
        obtain ⟨y, hy⟩ := atL (show k - 1 < t.length by omega)
        obtain ⟨_, ⟨lg, o, rfl⟩, hLg⟩ := lig7_ex (prim := prim) (d + 1) hp f h1 h2 h3 y x
        simp (disch := omega)
        refine wC_draw 15 (by kernel_rfl) ?_
        simp (disch := omega) [hb0, l8, t8, hx, hy, hk1, hLg, mLg, ligC, wrap64, -getElem?_pos]
        refine wIf_intro (fun ho => ?_) (fun ho => ?_)
        · obtain ⟨_, ⟨z, rfl⟩, hSc⟩ := scaled_ex (prim := prim) (d + 2) hp f size lg.2.2.2
          have q1 : (gs.length - 1) * 8 + 1 ≤ gs.length * 8 := by omega
          have q2 : (gs.length - 1) * 8 + 1 + 1 ≤ gs.length * 8 := by omega
          have q4 : (gs.length - 1) * 8 + 3 + 1 ≤ gs.length * 8 := by omega
          have q6 : (gs.length - 1) * 8 + 5 + 1 ≤ gs.length * 8 := by omega
          have z1 := gly_set1 (l := gs.set (gs.length - 1) ⟨lg.2.2.1, g.m, g.f, g.t, g.x, g.a, g.n, g.z⟩) (List.getElem?_set_self (show gs.length - 1 < gs.length by omega)) (v := 0)
          have z3 := gly_set3 (l := gs.set (gs.length - 1) ⟨lg.2.2.1, 0, g.f, g.t, g.x, g.a, g.n, g.z⟩) (List.getElem?_set_self (show gs.length - 1 < gs.length by omega)) (v := (k : Int) + 1)
          have z5 := gly_set5 (l := gs.set (gs.length - 1) ⟨lg.2.2.1, 0, g.f, (k : Int) + 1, g.x, g.a, g.n, g.z⟩) (List.getElem?_set_self (show gs.length - 1 < gs.length by omega)) (v := z)
          simp only [List.set_set] at z1 z3 z5
          have e1 : ∀ (l : List Gly) (Y : Heap), blockOf (H.set bb (some (l.flatMap glyC)) ++ Y) bb = some (l.flatMap glyC) := fun l Y => blk_setA hb2 (gly_map l) Y
          have e2 := fun (X Z : Option (List V)) (Y : Heap) => set_setA hb2 X Z Y
          have e3 : ∀ X Y, blockOf (H.set bb X ++ Y) 0 = some (fntC f) := fun X Y => by rw [blk_setN (by omega) (by simp at hb1; omega)]; exact hb0
          have e4 : ∀ X, blockOf (H.set bb X ++ [some [V.int .i32 lg.1, V.int .i32 lg.2.1, V.int .i64 lg.2.2.1, V.int .i64 lg.2.2.2]]) H.length = some [V.int .i32 lg.1, V.int .i32 lg.2.1, V.int .i64 lg.2.2.1, V.int .i64 lg.2.2.2] := fun X => blk_setE X rfl []
          simp (disch := omega) [-List.length_flatMap, gly_fl, hn1, hb3, l8, t8, q1, q2, q4, q6, e1, e2, e3, e4, gly_set0 hgl2, z1, z3, z5, hSc, wrap64, -getElem?_pos]
          obtain ⟨c1, c2, c3, _⟩ := hch.get hgl2
          exact Rnd_of (m' := b - (k + 1)) (by omega) ⟨k + 1, _, _, by omega, by omega, by omega, (show Chn a ((k + 1 : Nat) : Int) (gs.set (gs.length - 1) ⟨lg.2.2.1, 0, g.f, (k : Int) + 1, g.x, z, g.n, g.z⟩) from by have := hch.last (g' := ⟨lg.2.2.1, 0, g.f, (k : Int) + 1, g.x, z, g.n, g.z⟩) hgl2 rfl (by simp only; omega); simpa using this), (hhp.setO (gly_map _) (by rw [gly_fl, gly_fl, List.length_set])).push _, by simp⟩
        · simp
          exact Mid_of ⟨hhp.push _, by simp⟩
    rintro fr H2 ⟨hhp2, hs⟩
    obtain ⟨j3, rfl⟩ := hs.ex
    clear hs
    have hb02 : blockOf H2 0 = some (fntC f) := by rw [hhp2.block (by simp)]; rfl
    simp (disch := omega)
    refine wC_draw 23 (by kernel_rfl) ?_
    simp (maxSteps := 1000000) (disch := omega) [hd21_3, hb02, l8, t8, hx, hfo, hAd, mAd, -getElem?_pos]
    have hw1 : IntKind.i64.wrap ((k : Int) + 1) = (k : Int) + 1 := by rw [wrap64 (by omega) (by omega)]
    obtain ⟨_, ⟨mr, rfl⟩, hMr⟩ := mirror_ex (prim := prim) (d + 2) hp x
    refine wIf_intro (fun hr => ?_) (fun hr => ?_)
    · simp (disch := omega) [hMr, hx, hw1, -getElem?_pos]
      refine wS_appO (m := 1) (hhp2.push _) (by simp) rfl rfl (by omega) (by omega) (by rw [gly_fl]; omega) (by rw [gly_fl]; omega) ?_
      intro v' H' hhp5
      simp (disch := omega) [wrap64]
      exact Rnd_of (m' := b - (k + 1)) (by omega) ⟨k + 1, gs ++ [⟨IntKind.i64.wrap mr, fo, k, (k : Int) + 1, 0, av, face, size⟩], v', by omega, by omega, by omega, (by have := hch.snoc (g := ⟨IntKind.i64.wrap mr, fo, k, (k : Int) + 1, 0, av, face, size⟩) rfl (by simp only; omega); simpa using this), by simpa [glyC] using hhp5, by simp (disch := omega)⟩
    · simp (disch := omega) [hw1, -getElem?_pos]
      refine wS_appO (m := 1) (hhp2.push _) (by simp) rfl rfl (by omega) (by omega) (by rw [gly_fl]; omega) (by rw [gly_fl]; omega) ?_
      intro v' H' hhp5
      simp (disch := omega) [wrap64]
      exact Rnd_of (m' := b - (k + 1)) (by omega) ⟨k + 1, gs ++ [⟨IntKind.i64.wrap x, fo, k, (k : Int) + 1, 0, av, face, size⟩], v', by omega, by omega, by omega, (by have := hch.snoc (g := ⟨IntKind.i64.wrap x, fo, k, (k : Int) + 1, 0, av, face, size⟩) rfl (by simp only; omega); simpa using this), by simpa [glyC] using hhp5, by simp (disch := omega)⟩
  obtain rfl : k = b := by omega
  simp (disch := omega)
  refine wC_loop (fun m fr H' => ∃ (i : Nat) (gs' : List Gly), m = gs.length - i ∧ i ≤ gs.length ∧ gs'.length = gs.length ∧ Chn a k gs' ∧ Hp H' [some (fntC f)] [(8, v, gs'.flatMap glyC)] ∧
    Slots 244 [(2, .int .i64 size), (3, rl t), (6, .bool right), (7, .ptr 0 0), (16, il cs), (17, v), (23, .int .i64 i)] fr) (m := gs.length) (by omega) ⟨0, gs, rfl, by omega, rfl, hch, hhp, by simp⟩ ?_
  rintro m fr H' ⟨i, gs', rfl, hi, hgl', hch', hhp', hs⟩
  obtain ⟨j2, rfl⟩ := hs.ex
  clear hs
  have hb0' : blockOf H' 0 = some (fntC f) := by rw [hhp'.block (by simp)]; rfl
  have hvl' := hhp'.head.lenF gly_len (by omega) hu
  rw [hgl'] at hvl'
  have hi1 : IntKind.i64.wrap ((i : Int) + 1) = (i : Int) + 1 := by rw [wrap64 (by omega) (by omega)]
  by_cases hlt2 : i + 1 < gs.length
  · have hI2 : (i : Int) + 1 < gs.length := by omega
    obtain ⟨bb, rfl, hb1, hb2, hb3⟩ := hhp'.head.posF gly_len (by omega) (show 0 < gs'.length by omega)
    obtain ⟨g, hg⟩ := atL (show i < gs'.length by omega)
    obtain ⟨c1, c2, c3, c4⟩ := hch'.get hg
    have c5 := c4 (by omega)
    obtain ⟨q, hq⟩ : ∃ q : Nat, g.t = q := ⟨g.t.toNat, by omega⟩
    obtain ⟨x1, hx1⟩ := atL (show q - 1 < t.length by omega)
    obtain ⟨x2, hx2⟩ := atL (show q < t.length by omega)
    obtain ⟨_, ⟨kv, rfl⟩, hKn⟩ := kern7_ex (prim := prim) d hp f h1 h2 h3 size x1 x2
    have hq1 : ((q : Int) - 1).toNat = q - 1 := by omega
    have hqw : IntKind.i64.wrap ((q : Int) - 1) = (q : Int) - 1 := by rw [wrap64 (by omega) (by omega)]
    have q6 : i * 8 + 5 + 1 ≤ gs'.length * 8 := by omega
    simp (disch := omega) [hvl', hI2, hi1, hb3, gly_at3 hg, hq, hIn, -getElem?_pos]
    refine wIf_intro (fun _ => ?_) (fun _ => ?_)
    · refine wC_draw 19 (by kernel_rfl) ?_
      simp (maxSteps := 1000000) (disch := omega) [-List.length_flatMap, gly_fl, hb3, gly_at5 hg, hb0', l8, t8, hx1, hx2, hq1, hqw, hKn, mKn, q6, gly_set5 hg, hi1, -getElem?_pos]
      exact Rnd_of (m' := gs.length - (i + 1)) (by omega) ⟨i + 1, gs'.set i ⟨g.i, g.m, g.f, g.t, g.x, max 0 (IntKind.i64.wrap (g.a + kv)), g.n, g.z⟩, by omega, by omega, by simpa using hgl', hch'.set hg rfl rfl, hhp'.setO (gly_map _) (by rw [gly_fl, gly_fl, List.length_set]), by simp (disch := omega)⟩
    · simp (disch := omega) [hi1]
      exact Rnd_of (m' := gs.length - (i + 1)) (by omega) ⟨i + 1, gs', by omega, by omega, hgl', hch', hhp', by simp (disch := omega)⟩
  · have hI2 : ¬ (i : Int) + 1 < gs.length := by omega
    simp (disch := omega) [hvl', hI2, hi1]
    have key : ∃ (v' : V) (gs3 : List Gly) (H3 : Heap), gs3.length = gs.length ∧ Hp H3 [some (fntC f)] [(8, v', gs3.flatMap glyC)] ∧ (right = false → v' = v ∧ H3 = H') ∧ (right = true → callM md (K prim (d + 4)) ⟨0, none, 0⟩ 118 [il cs, v] H' = some (v', H3)) := by
      cases right
      · exact ⟨v, gs', H', hgl', hhp', fun _ => ⟨rfl, rfl⟩, fun h => by cases h⟩
      · obtain ⟨r, H3, hR, gs3, hg3, hh3⟩ := rev8_ex (prim := prim) (d + 2) hp cs (by omega) gs' (by omega) ⟨0, none, 0⟩ H' v _ (by simp) hhp'.head
        exact ⟨r, gs3, H3, by omega, (hhp'.call1 hh3).swap.tail, fun h => (by cases h), fun _ => hR⟩
    obtain ⟨v', gs3, H3, hg3, hh3, hf, htr⟩ := key
    have hb3 : gs3.length ≤ 2000 := by omega
    have m2 : md 118 = 2 := rfl
    cases right
    case' false =>
      obtain ⟨rfl, rfl⟩ := hf rfl
      simp (disch := omega)
    case' true =>
      have hR := htr rfl
      simp (disch := omega) [hR]
    all_goals
      refine wC_loop (fun m fr H4 => ∃ (e : Nat) (gs4 : List Gly) (x : Int), m = gs.length - e ∧ e ≤ gs.length ∧ gs4.length = gs.length ∧ Hp H4 [some (fntC f)] [(8, v', gs4.flatMap glyC)] ∧ Slots 244 [(17, v'), (25, .int .i64 x), (26, .int .i64 e)] fr) (m := gs.length) (by omega) ⟨0, gs3, 0, rfl, by omega, hg3, hh3, by simp⟩ ?_
      rintro m fr H4 ⟨e, gs4, x, rfl, he, hg4, hh4, hs⟩
      obtain ⟨j5, rfl⟩ := hs.ex
      clear hs
      have hv4 := hh4.head.lenF gly_len (by omega) hu
      rw [hg4] at hv4
      by_cases hlt3 : e < gs.length
      · obtain ⟨bb, rfl, hb1, hb2, hb3⟩ := hh4.head.posF gly_len (by omega) (show 0 < gs4.length by omega)
        obtain ⟨g, hg⟩ := atL (show e < gs4.length by omega)
        have q5 : e * 8 + 4 + 1 ≤ gs4.length * 8 := by omega
        have z5 := gly_at5 (l := gs4.set e ⟨g.i, g.m, g.f, g.t, x, g.a, g.n, g.z⟩) (List.getElem?_set_self (show e < gs4.length by omega))
        simp (disch := omega) [-List.length_flatMap, gly_fl, hv4, hlt3, hb3, q5, gly_set4 hg, gly_map, z5, -getElem?_pos]
        have he1 : IntKind.i64.wrap ((e : Int) + 1) = (e : Int) + 1 := by rw [wrap64 (by omega) (by omega)]
        exact Rnd_of (m' := gs.length - (e + 1)) (by omega) ⟨e + 1, gs4.set e ⟨g.i, g.m, g.f, g.t, x, g.a, g.n, g.z⟩, IntKind.i64.wrap (x + g.a), by omega, by omega, by simpa using hg4, hh4.setO (gly_map _) (by rw [gly_fl, gly_fl, List.length_set]), by simp (disch := omega) [he1]⟩
      · have f1 := hh4.head.frzF (d := 4) gly_len (by omega) (Nat.zero_le _) (fun _ => rfl) (fun g c hc => by simp [glyC] at hc; rcases hc with rfl | rfl | rfl | rfl | rfl | rfl | rfl | rfl <;> simp)
        simp (disch := omega) [hv4, hlt3]
        exact ⟨_, f1, gs4, rfl, by omega⟩
end
end Bi
end Go.Ab
