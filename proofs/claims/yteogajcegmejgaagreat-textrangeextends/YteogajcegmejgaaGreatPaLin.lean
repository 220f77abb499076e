/- The reference: the lines of a paragraph, by their shapes. -/
import Derived.Test.YteogajcegmejgaaGreatPaEnd
import Derived.Test.YteogajcegmejgaaGreatPaGen
import Derived.Test.YteogajcegmejgaaGreatPaRef9
namespace Go.Ab
open Go.Proofs
namespace Bi
attribute [local congr] wGq_congr
section
variable {prim : FuncId → Option Prim} (d : Nat)
theorem floor_ex (hp : ∀ f, Np5 f → prim f = none) (a : Int) :
    ∃ r, IsI .i64 r ∧ ∀ cfg h, callM md (K prim (d + 1)) cfg 41 [.int .i64 a, .int .i64 2] h = some (r, h) := by
  refine call0e rfl (hp 41 (by decide)) Tryz.func41 rfl rfl rfl (by simp) ?_
  simp +contextual (disch := first | omega | (simp; done) | (simp [Decidable.imp_iff_not_or]; done) | fail) [-wG_bool, wG_q, wGq_some, gq_true, pickV_qO]
  refine wIf_intro (fun _ => by simp) (fun _ => ?_)
  simp +contextual (disch := first | omega | (simp; done) | (simp [Decidable.imp_iff_not_or]; done) | fail) [-wG_bool, wG_q, wGq_some, gq_true, pickV_qA]
  refine wIf_intro (fun _ => by simp) (fun _ => by simp)
set_option maxRecDepth 100000 in
set_option maxHeartbeats 16000000 in
theorem lines9_ex (hp : ∀ f, Np5 f → prim f = none) (p : Par) (ht : p.t.length ≤ 60) (fs : List Fnt) (hf : FsOK p fs) :
    ∃ v, (∃ (L : List LinG) (e : Int), v = .tup [.lst (L.map linF), .int .i64 e] ∧ L.length ≤ 3721 ∧ ∀ x ∈ L, 0 ≤ x.l.f ∧ x.l.f ≤ p.t.length) ∧ ∀ cfg h, callM md (K prim (d + 9)) cfg 18 [.agg (parC p), .lst (fs.map fntC)] h = some (v, h) := by
  refine call0e rfl (hp 18 (by decide)) Tryz.func18 rfl rfl rfl (by simp [parC]) ?_
  obtain ⟨hlf, hmp, s0, s1, s2, s3, s4, l5, t5⟩ := pslots p
  obtain ⟨_, ⟨e0, rfl⟩, hV⟩ := valid9_ex (prim := prim) (d + 5) hp p hf.sl.2 (by omega) fs hf.n hf.sz
  obtain ⟨_, ⟨B, rfl, hBl, _⟩, hBk⟩ := brks5_ex (prim := prim) (d + 2) hp p.t (by omega)
  obtain ⟨_, ⟨ss, rfl, hsl, hss⟩, hSe⟩ := sections_ex (prim := prim) (d + 1) hp p (by omega) B hBl hBk
  simp (disch := omega) [hlf, hmp, l5, t5, hV]
  refine wIf_intro (fun _ => ?_) (fun _ => ?_)
  · simp
  simp (disch := omega) [hmp, l5, t5, hSe]
  have g0 : Hp [some (parC p)] [some (parC p)] [] := Hp.start
  refine wC_loop (fun m fr H => ∃ (i : Nat) (L : List LinG) (v : V) (y : Int), i ≤ ss.length ∧ m = ss.length - i ∧ L.length ≤ 61 * i ∧ (∀ x ∈ L, 0 ≤ x.l.f ∧ x.l.f ≤ p.t.length) ∧ Hp H [some (parC p)] ((10, v, L.flatMap linG) :: L.map linO) ∧
    Slots 266 [(1, .lst (fs.map fntC)), (2, .ptr 0 0), (7, v), (8, .int .i64 y), (9, .lst (ss.map secF)), (10, .int .i64 i)] fr) (m := ss.length) (by omega) ⟨0, [], .nils, 0, by omega, by omega, by simp, by simp, g0.nil 10, by simp⟩ ?_
  rintro m fr H ⟨i, L, v, y, hi, rfl, hLl, hLr, hhp, hs'⟩
  obtain ⟨j, rfl⟩ := hs'.ex
  clear hs'
  have hb0 : blockOf H 0 = some (parC p) := by rw [hhp.block (by simp)]; simp [blockOf, hmp]
  by_cases hlt : i < ss.length
  · obtain ⟨s, hs⟩ := atL hlt
    obtain ⟨hsok, hsB⟩ := hss s (List.mem_of_getElem? hs)
    obtain ⟨_, ⟨el, rfl, hMon, hel⟩, hEn⟩ := ends9_ex (prim := prim) d hp p ht fs hf s hsok B hBl hBk hsB
    obtain ⟨k1, k2, k3⟩ := hsok
    have hslf : (secF s).all V.leaf = true := by cases s; rfl
    have hsm : isMap (secF s) = false := rfl
    have hsl4 : (secF s).length = 4 := rfl
    have hst : List.take 4 (secF s) = secF s := rfl
    have q0 : slot (secF s) 0 = some (.int .i64 s.f) := rfl
    have q1 : slot (secF s) 1 = some (.int .i64 s.t) := rfl
    have q2 : slot (secF s) 2 = some (.int .i64 s.lv) := rfl
    have hsF : secF s = [.int .i64 s.f, .int .i64 s.t, .int .i64 s.lv, il (s.ls.getD [])] := rfl
    generalize s.ls.getD [] = sls at hsF
    rw [hsF] at hslf hsm hsl4 hst q0 q1 q2 hEn
    have hn := hhp.new (cs := [.int .i64 s.f, .int .i64 s.t, .int .i64 s.lv, il sls]) (n := 1) (k := 4) rfl rfl []
    have c0 : blockOf (H ++ [some [.int .i64 s.f, .int .i64 s.t, .int .i64 s.lv, il sls]]) 0 = some (parC p) := by rw [hn.block (by simp)]; simp [blockOf, hmp]
    have c1 := hn.head.at.2.2.1
    simp (disch := omega) [hlt, hs, hsF, c0, c1, l5, t5, hEn, -getElem?_pos]
    generalize hsc : ([.int .i64 s.f, .int .i64 s.t, .int .i64 s.lv, il sls] : List V) = sc at *
    generalize hbs : H.length = bs at *
    generalize H ++ [some sc] = H0 at *
    have hbs1 : 1 ≤ bs := by have := hn.head.at.1; simpa using this
    refine wC_loop (fun m fr H => ∃ (k F : Nat) (L : List LinG) (v : V) (y : Int), k ≤ el.length ∧ m = el.length - k ∧ (s.f :: el)[k]? = some F ∧ L.length ≤ 61 * i + k ∧ (∀ x ∈ L, 0 ≤ x.l.f ∧ x.l.f ≤ p.t.length) ∧ Hp H [some (parC p)] ((4, .sl bs 0 1 1 4, sc) :: (10, v, L.flatMap linG) :: L.map linO) ∧
      Slots 266 [(1, .lst (fs.map fntC)), (2, .ptr 0 0), (7, v), (8, .int .i64 y), (9, .lst (ss.map secF)), (10, .int .i64 i), (11, .ptr bs 0), (12, il (el.map fun n : Nat => (n : Int))), (13, .int .i64 F), (14, .int .i64 k)] fr) (m := el.length) (by omega) ⟨0, s.f, L, v, y, by omega, by omega, rfl, by omega, hLr, hn, by simp⟩ ?_
    clear hhp hLl hLr hn c0 c1 hb0
    rintro m fr H ⟨k, F, L, v, y, hk, rfl, hF, hLl, hLr, hhp, hs'⟩
    obtain ⟨j, rfl⟩ := hs'.ex
    clear hs'
    have d0 : blockOf H 0 = some (parC p) := by rw [hhp.block (by simp)]; simp [blockOf, hmp]
    have d1 := hhp.head.at.2.2.1
    by_cases hlk : k < el.length
    · obtain ⟨E, hE⟩ := atL hlk
      obtain ⟨g1, g2, g3⟩ := hMon.get hE
      have g4 := g3 F hF
      have g5 : s.f ≤ F := by
        rcases k with _ | k
        · simp at hF; omega
        · exact (hMon.get (i := k) (by simpa using hF)).1
      simp (disch := omega) [hlk, -wC_block]
      rw [wC_block]
      simp only [wC_seq]
      refine wC_draw 10 (by kernel_rfl) ?_
      simp (disch := omega) [hE, d1, q2, -wC_cond, -getElem?_pos]
      have hnl := hhp.new (cs := linC ⟨F, E, s.lv, 0, y, 0, 0, 0, 0⟩ .nils) (n := 1) (k := 10) rfl rfl []
      simp only [linC] at hnl
      have hmn : ∀ (l : Lin) (u : V), isMap (linC l u) = false := fun _ _ => rfl
      generalize H ++ [some [V.int IntKind.i64 ↑F, V.int IntKind.i64 ↑E, V.int IntKind.i64 s.lv, V.int IntKind.i64 0, V.int IntKind.i64 y, V.int IntKind.i64 0, V.int IntKind.i64 0, V.int IntKind.i64 0, V.int IntKind.i64 0, V.nils]] = H1 at *
      generalize H.length = bl at *
      clear hhp d0 d1
      refine wC_mid (fun fr' H2 => ∃ (vg : V) (gs : List Gly), gs.length ≤ 3600 ∧ Hp H2 [some (parC p)] ((10, .sl bl 0 1 1 10, linC ⟨F, E, s.lv, 0, y, 0, 0, 0, 0⟩ vg) :: (8, vg, gs.flatMap glyC) :: (4, .sl bs 0 1 1 4, sc) :: (10, v, L.flatMap linG) :: L.map linO) ∧ Slots 266 [(1, .lst (fs.map fntC)), (2, .ptr 0 0), (7, v), (8, .int .i64 y), (9, .lst (ss.map secF)), (10, .int .i64 i), (11, .ptr bs 0), (12, il (el.map fun n : Nat => (n : Int))), (13, .int .i64 F), (14, .int .i64 k), (15, .ptr bl 0)] fr') ?_ ?_
      · by_cases hFE : F < E
        · have d0 : blockOf H1 0 = some (parC p) := by rw [hnl.block (by simp)]; simp [blockOf, hmp]
          have d1 := hnl.snd.at.2.2.1
          obtain ⟨r, H2, hG, gs, hgl, hh2⟩ := glyphs9_ex (prim := prim) (d + 2) hp p (by omega) fs hf s ⟨k1, k2, k3⟩ F E g5 g4 g2 (by omega) (by omega) ⟨0, none, 0⟩ H1 (by simp)
          rw [hsF] at hG
          have mG : md 36 = 2 := rfl
          have hc2 := (hnl.call1 hh2).swap
          have d2 := hc2.head.at.2.2.1
          have hcl := hh2.head.cells
          simp (disch := omega) [hFE]
          refine wC_draw 8 (by kernel_rfl) ?_
          simp (disch := omega) [d0, d1, d2, hcl, l5, t5, hsl4, hst, hE, hG, -getElem?_pos]
          exact Mid_of ⟨r, gs, hgl, hc2.setO rfl rfl, by simp⟩
        · simp (disch := omega) [hFE]
          exact Mid_of ⟨.nils, [], by simp, (hnl.nil 8).swap, by simp⟩
      rintro fr H2 ⟨vg, gs, hgl, hhp, hs'⟩
      obtain ⟨j, rfl⟩ := hs'.ex
      clear hs' hnl
      have d0 : blockOf H2 0 = some (parC p) := by rw [hhp.block (by simp)]; simp [blockOf, hmp]
      obtain ⟨_, ⟨w0, rfl, hw1, hw2⟩, hBl⟩ := blank_ex (prim := prim) (d + 3) hp p (by omega) F E g4 (by omega)
      have mB : md 37 = 0 := rfl
      simp (disch := omega)
      refine wC_draw 6 (by kernel_rfl) ?_
      simp (disch := omega) [d0, l5, t5, hE, hBl, -getElem?_pos]
      clear d0
      refine wC_loop (fun m fr H3 => ∃ (g : Nat) (gs : List Gly) (w : Int), g ≤ gs.length ∧ m = gs.length - g ∧ gs.length ≤ 3600 ∧ Hp H3 [some (parC p)] ((10, .sl bl 0 1 1 10, linC ⟨F, E, s.lv, 0, y, w, 0, 0, 0⟩ vg) :: (8, vg, gs.flatMap glyC) :: (4, .sl bs 0 1 1 4, sc) :: (10, v, L.flatMap linG) :: L.map linO) ∧ Slots 266 [(1, .lst (fs.map fntC)), (2, .ptr 0 0), (7, v), (8, .int .i64 y), (9, .lst (ss.map secF)), (10, .int .i64 i), (11, .ptr bs 0), (12, il (el.map fun n : Nat => (n : Int))), (13, .int .i64 F), (14, .int .i64 k), (15, .ptr bl 0), (16, .int .i64 w0), (17, .int .i64 g)] fr) (m := gs.length) (by omega) ⟨0, gs, 0, by omega, rfl, hgl, hhp, by simp⟩ ?_
      clear hhp hgl
      rintro m fr H3 ⟨g, gs, w, hg, rfl, hgl, hhp, hs'⟩
      obtain ⟨j, rfl⟩ := hs'.ex
      clear hs'
      have d0 : blockOf H3 0 = some (parC p) := by rw [hhp.block (by simp)]; simp [blockOf, hmp]
      have d1 := hhp.head.at.2.2.1
      simp only [linC] at d1
      have hvl := hhp.snd.lenF gly_len (by omega) (show Tryz.prog.underlying 54 = some (.slice 82) by kernel_rfl)
      by_cases hlg : g < gs.length
      · obtain ⟨b2, rfl, hb1, hb2, d3⟩ := hhp.snd.posF gly_len (by omega) (show 0 < gs.length by omega)
        obtain ⟨gl, hgl2⟩ := atL hlg
        have hmg := gly_map gs
        have d2 : blockOf H3 bs = some sc := hhp.thd.at.2.2.1
        simp (disch := omega) [d1, hvl, hlg, -wC_block]
        rw [wC_block]
        simp only [wC_seq]
        refine wC_mid (fun fr' H4 => H4 = H3 ∧ ∃ z : Bool, Slots 266 [(1, .lst (fs.map fntC)), (2, .ptr 0 0), (7, v), (8, .int .i64 y), (9, .lst (ss.map secF)), (10, .int .i64 i), (11, .ptr bs 0), (12, il (el.map fun n : Nat => (n : Int))), (13, .int .i64 F), (14, .int .i64 k), (15, .ptr bl 0), (16, .int .i64 w0), (17, .int .i64 g), (110, .bool z)] fr') ?_ ?_
        · refine wC_draw 15 (by kernel_rfl) ?_
          by_cases z1 : E < s.t
          · by_cases z2 : (w0 : Int) ≤ gl.f
            · simp (disch := omega) [d1, d2, d3, q1, hE, z1, z2, gly_at2 hgl2, -getElem?_pos]
              exact Mid_of ⟨rfl, true, by simp⟩
            · simp (disch := omega) [d1, d2, d3, q1, hE, z1, z2, gly_at2 hgl2, -getElem?_pos]
              exact Mid_of ⟨rfl, false, by simp⟩
          · simp (disch := omega) [d2, q1, hE, z1, -getElem?_pos]
            exact Mid_of ⟨rfl, false, by simp⟩
        rintro fr H4 ⟨rfl, z, hs'⟩
        obtain ⟨j, rfl⟩ := hs'.ex
        clear hs'
        have hg1 : IntKind.i64.wrap ((g : Int) + 1) = (g : Int) + 1 := by rw [wrap64 (by omega) (by omega)]
        rcases z with _ | _
        · simp (disch := omega)
          refine wC_draw 8 (by kernel_rfl) ?_
          simp (disch := omega) [d1, d3, gly_at5 hgl2, hg1, -getElem?_pos]
          exact Rnd_of (m' := gs.length - (g + 1)) (by omega) ⟨g + 1, gs, IntKind.i64.wrap (w + gl.a), by omega, by omega, hgl, hhp.setO rfl rfl, by simp⟩
        · have q6 : g * 8 + 5 + 1 ≤ gs.length * 8 := by omega
          simp (disch := omega) [-List.length_flatMap, gly_fl, d1, d3, q6, gly_set5 hgl2, -getElem?_pos]
          have hh := (hhp.swap.setO (cs' := (gs.set g ⟨gl.i, gl.m, gl.f, gl.t, gl.x, 0, gl.n, gl.z⟩).flatMap glyC) (gly_map _) (by rw [gly_fl, gly_fl, List.length_set])).swap
          have hgl3 : (gs.set g ⟨gl.i, gl.m, gl.f, gl.t, gl.x, 0, gl.n, gl.z⟩)[g]? = some ⟨gl.i, gl.m, gl.f, gl.t, gl.x, 0, gl.n, gl.z⟩ := List.getElem?_set_self hlg
          have hgl4 : (gs.set g ⟨gl.i, gl.m, gl.f, gl.t, gl.x, 0, gl.n, gl.z⟩).length = gs.length := List.length_set
          generalize gs.set g ⟨gl.i, gl.m, gl.f, gl.t, gl.x, 0, gl.n, gl.z⟩ = gs' at *
          generalize H4.set b2 (some (gs'.flatMap glyC)) = H5 at *
          have f1 := hh.head.at.2.2.1
          simp only [linC] at f1
          have f3 := (OwnC.at (n := gs.length) hh.snd).2.2.1
          have hmg' := gly_map gs'
          refine wC_draw 8 (by kernel_rfl) ?_
          simp (disch := omega) [f1, f3, gly_at5 hgl3, hg1, -getElem?_pos]
          exact Rnd_of (m' := gs.length - (g + 1)) (by omega) ⟨g + 1, gs', IntKind.i64.wrap w, by omega, by omega, by omega, hh.setO rfl rfl, by simp⟩
      · obtain rfl : g = gs.length := by omega
        simp (disch := omega) [d1, hvl, -wC_block]
        clear d0 d1 hvl
        refine wC_mid (fun fr' H4 => ∃ a dd hh : Int, Hp H4 [some (parC p)] ((10, .sl bl 0 1 1 10, linC ⟨F, E, s.lv, 0, y, w, a, dd, hh⟩ vg) :: (8, vg, gs.flatMap glyC) :: (4, .sl bs 0 1 1 4, sc) :: (10, v, L.flatMap linG) :: L.map linO) ∧ Slots 266 [(1, .lst (fs.map fntC)), (2, .ptr 0 0), (7, v), (8, .int .i64 y), (9, .lst (ss.map secF)), (10, .int .i64 i), (11, .ptr bs 0), (12, il (el.map fun n : Nat => (n : Int))), (13, .int .i64 F), (14, .int .i64 k), (15, .ptr bl 0)] fr') ?_ ?_
        · simp only [wC_block]
          refine wC_loop (fun m fr H4 => ∃ (q : Nat) (a dd hh : Int), q ≤ p.s.length ∧ m = p.s.length - q ∧ Hp H4 [some (parC p)] ((10, .sl bl 0 1 1 10, linC ⟨F, E, s.lv, 0, y, w, a, dd, hh⟩ vg) :: (8, vg, gs.flatMap glyC) :: (4, .sl bs 0 1 1 4, sc) :: (10, v, L.flatMap linG) :: L.map linO) ∧ Slots 266 [(1, .lst (fs.map fntC)), (2, .ptr 0 0), (7, v), (8, .int .i64 y), (9, .lst (ss.map secF)), (10, .int .i64 i), (11, .ptr bs 0), (12, il (el.map fun n : Nat => (n : Int))), (13, .int .i64 F), (14, .int .i64 k), (15, .ptr bl 0), (18, .int .i64 q)] fr) (m := p.s.length) (by have := hf.sl.2; omega) ⟨0, 0, 0, 0, by omega, by omega, hhp, by simp⟩ ?_
          clear hhp
          rintro m fr H4 ⟨q, a, dd, hh, hq, rfl, hhp, hs'⟩
          obtain ⟨j, rfl⟩ := hs'.ex
          clear hs'
          have hql := hf.sl.2
          have d0 : blockOf H4 0 = some (parC p) := by rw [hhp.block (by simp)]; simp [blockOf, hmp]
          have hqw : IntKind.i64.wrap ((q : Int) + 1) = (q : Int) + 1 := by rw [wrap64 (by omega) (by omega)]
          by_cases hlq : q < p.s.length
          · obtain ⟨x, hx⟩ := atL hlq
            simp (disch := omega) [hlq, d0, s1, -wC_block]
            rw [wC_block]
            simp (disch := omega) [d0, s1, hx, spnC, -getElem?_pos]
            have hnx := hhp.new (cs := spnC x) (n := 1) (k := 4) rfl rfl []
            simp only [spnC] at hnx
            generalize H4 ++ [some [V.int IntKind.i64 x.f, V.int IntKind.i64 x.t, V.int IntKind.i64 x.n, V.int IntKind.i64 x.z]] = H5 at *
            generalize H4.length = bx at *
            clear hhp d0
            have d0 : blockOf H5 0 = some (parC p) := by rw [hnx.block (by simp)]; simp [blockOf, hmp]
            have fx := hnx.head.at.2.2.1
            refine wC_mid (fun fr' H6 => H6 = H5 ∧ ∃ z : Bool, Slots 266 [(1, .lst (fs.map fntC)), (2, .ptr 0 0), (7, v), (8, .int .i64 y), (9, .lst (ss.map secF)), (10, .int .i64 i), (11, .ptr bs 0), (12, il (el.map fun n : Nat => (n : Int))), (13, .int .i64 F), (14, .int .i64 k), (15, .ptr bl 0), (18, .int .i64 q), (19, .ptr bx 0), (20, .bool z)] fr') ?_ ?_
            · refine wC_draw 11 (by kernel_rfl) ?_
              have hlw : IntKind.i64.wrap ((p.s.length : Int) - 1) = (p.s.length : Int) - 1 := by rw [wrap64 (by omega) (by omega)]
              by_cases c1 : x.f < E
              · by_cases c2 : (F : Int) < x.t
                · simp (disch := omega) [fx, hE, c1, c2, -getElem?_pos]
                  exact Mid_of ⟨rfl, true, by simp⟩
                · by_cases c3 : F = E
                  · obtain rfl : E = F := c3.symm
                    by_cases c4 : (q : Int) = (p.s.length : Int) - 1
                    · have c6 : (p.s.length : Int) - 1 = q := c4.symm
                      have c7 : IntKind.i64.wrap (q : Int) = q := wrap64 (by omega) (by omega)
                      simp (disch := omega) [fx, d0, s1, hE, c1, c2, c6, c7, -getElem?_pos]
                      exact Mid_of ⟨rfl, true, by simp⟩
                    · simp (disch := omega) [fx, d0, s1, hE, c1, c2, c4, hlw, -getElem?_pos]
                      exact Mid_of ⟨rfl, false, by simp⟩
                  · simp (disch := omega) [fx, hE, c1, c2, c3, -getElem?_pos]
                    exact Mid_of ⟨rfl, false, by simp⟩
              · by_cases c3 : F = E
                · obtain rfl : E = F := c3.symm
                  by_cases c4 : (q : Int) = (p.s.length : Int) - 1
                  · have c6 : (p.s.length : Int) - 1 = q := c4.symm
                    have c7 : IntKind.i64.wrap (q : Int) = q := wrap64 (by omega) (by omega)
                    simp (disch := omega) [fx, d0, s1, hE, c1, c6, c7, -getElem?_pos]
                    exact Mid_of ⟨rfl, true, by simp⟩
                  · simp (disch := omega) [fx, d0, s1, hE, c1, c4, hlw, -getElem?_pos]
                    exact Mid_of ⟨rfl, false, by simp⟩
                · simp (disch := omega) [fx, hE, c1, c3, -getElem?_pos]
                  exact Mid_of ⟨rfl, false, by simp⟩
            rintro fr H6 ⟨rfl, z, hs'⟩
            obtain ⟨j, rfl⟩ := hs'.ex
            clear hs'
            rcases z with _ | _
            · simp (disch := omega) [hqw]
              exact Rnd_of (m' := p.s.length - (q + 1)) (by omega) ⟨q + 1, a, dd, hh, by omega, by omega, hnx.tail, by simp⟩
            · obtain ⟨hn0, hn1⟩ := hf.sp x (List.mem_of_getElem? hx)
              obtain ⟨fi, hfi⟩ : ∃ n : Nat, x.n = n := ⟨x.n.toNat, by omega⟩
              obtain ⟨f, hff⟩ := atL (show fi < fs.length by omega)
              obtain ⟨f1, f2, f3⟩ := hf.sz f (List.mem_of_getElem? hff)
              obtain ⟨_, ⟨a1, rfl⟩, hA⟩ := asc7_ex (prim := prim) (d + 4) hp f f1 f2 f3 x.z
              obtain ⟨_, ⟨a2, rfl⟩, hD⟩ := desc7_ex (prim := prim) (d + 4) hp f f1 f2 f3 x.z
              obtain ⟨_, ⟨a3, rfl⟩, hHt⟩ := height7_ex (prim := prim) (d + 3) hp f f1 f2 f3 x.z
              obtain ⟨flf, hmf, _, _, _, _, _, _, _, _, hl8, ht8⟩ := fslots f
              have mA : md 38 = 0 := rfl
              have mD : md 39 = 0 := rfl
              have mH : md 40 = 0 := rfl
              rw [hfi] at fx hnx
              simp only [fntC] at hA hD hHt flf hmf hl8 ht8
              simp (disch := omega) [fx, hff, fntC, -getElem?_pos]
              have hn2 := hnx.new (cs := fntC f) (n := 1) (k := 8) rfl rfl []
              simp only [fntC] at hn2
              generalize hfc : ([V.int IntKind.i64 f.u, V.int IntKind.i64 f.a, V.int IntKind.i64 f.d, V.int IntKind.i64 f.g, V.int IntKind.i64 f.df, V.lst (List.map advC f.adv), V.lst (List.map advC f.ker), V.lst (List.map ligC f.lig)] : List V) = fc at *
              generalize H6 ++ [some fc] = H7 at *
              generalize H6.length = bf at *
              have hn3 := hn2.rot3
              clear hn2 hnx d0 fx hfc
              refine wC_mid (fun fr' H8 => ∃ a dd hh : Int, Hp H8 [some (parC p)] ((10, .sl bl 0 1 1 10, linC ⟨F, E, s.lv, 0, y, w, a, dd, hh⟩ vg) :: (8, .sl bf 0 1 1 8, fc) :: (4, .sl bx 0 1 1 4, [V.int .i64 x.f, V.int .i64 x.t, V.int .i64 fi, V.int .i64 x.z]) :: (8, vg, gs.flatMap glyC) :: (4, .sl bs 0 1 1 4, sc) :: (10, v, L.flatMap linG) :: L.map linO) ∧ Slots 266 [(1, .lst (fs.map fntC)), (2, .ptr 0 0), (7, v), (8, .int .i64 y), (9, .lst (ss.map secF)), (10, .int .i64 i), (11, .ptr bs 0), (12, il (el.map fun n : Nat => (n : Int))), (13, .int .i64 F), (14, .int .i64 k), (15, .ptr bl 0), (18, .int .i64 q), (19, .ptr bx 0), (21, .ptr bf 0)] fr') ?_ ?_
              · have el := hn3.head.at.2.2.1
                simp only [linC] at el
                have ef := hn3.snd.at.2.2.1
                have ex := hn3.thd.at.2.2.1
                refine wC_draw 6 (by kernel_rfl) ?_
                simp (disch := omega) [el, ef, ex, hA, mA, hl8, ht8, -getElem?_pos]
                exact Mid_of ⟨_, _, _, hn3.setO rfl rfl, by simp⟩
              clear hn3
              rintro fr H8 ⟨a, dd, hh, hn3, hs'⟩
              obtain ⟨j, rfl⟩ := hs'.ex
              clear hs'
              simp only [wC_seq]
              refine wC_mid (fun fr' H9 => ∃ a dd hh : Int, Hp H9 [some (parC p)] ((10, .sl bl 0 1 1 10, linC ⟨F, E, s.lv, 0, y, w, a, dd, hh⟩ vg) :: (8, .sl bf 0 1 1 8, fc) :: (4, .sl bx 0 1 1 4, [V.int .i64 x.f, V.int .i64 x.t, V.int .i64 fi, V.int .i64 x.z]) :: (8, vg, gs.flatMap glyC) :: (4, .sl bs 0 1 1 4, sc) :: (10, v, L.flatMap linG) :: L.map linO) ∧ Slots 266 [(1, .lst (fs.map fntC)), (2, .ptr 0 0), (7, v), (8, .int .i64 y), (9, .lst (ss.map secF)), (10, .int .i64 i), (11, .ptr bs 0), (12, il (el.map fun n : Nat => (n : Int))), (13, .int .i64 F), (14, .int .i64 k), (15, .ptr bl 0), (18, .int .i64 q), (19, .ptr bx 0), (21, .ptr bf 0)] fr') ?_ ?_
              · have el := hn3.head.at.2.2.1
                simp only [linC] at el
                have ef := hn3.snd.at.2.2.1
                have ex := hn3.thd.at.2.2.1
                refine wC_draw 6 (by kernel_rfl) ?_
                simp (disch := omega) [el, ef, ex, hD, mD, hl8, ht8, -getElem?_pos]
                exact Mid_of ⟨_, _, _, hn3.setO rfl rfl, by simp⟩
              clear hn3
              rintro fr H9 ⟨a, dd, hh, hn3, hs'⟩
              obtain ⟨j, rfl⟩ := hs'.ex
              clear hs'
              have el := hn3.head.at.2.2.1
              simp only [linC] at el
              have ef := hn3.snd.at.2.2.1
              have ex := hn3.thd.at.2.2.1
              refine wC_draw 6 (by kernel_rfl) ?_
              simp (disch := omega) [el, ef, ex, hHt, mH, hl8, ht8, hqw, -getElem?_pos]
              exact Rnd_of (m' := p.s.length - (q + 1)) (by omega) ⟨q + 1, a, dd, max hh a3, by omega, by omega, (hn3.setO (cs' := linC ⟨F, E, s.lv, 0, y, w, a, dd, max hh a3⟩ vg) rfl rfl).rm23, by simp⟩
          · obtain rfl : q = p.s.length := by omega
            simp (disch := omega) [d0, s1]
            exact Mid_of ⟨a, dd, hh, hhp, by simp⟩
        clear hhp
        rintro fr H4 ⟨a, dd, hh, hhp, hs'⟩
        obtain ⟨j, rfl⟩ := hs'.ex
        clear hs'
        have d1 := hhp.head.at.2.2.1
        simp only [linC] at d1
        rw [wC_seq]
        refine wC_mid (fun fr' H5 => ∃ hh : Int, Hp H5 [some (parC p)] ((10, .sl bl 0 1 1 10, linC ⟨F, E, s.lv, 0, y, w, a, dd, hh⟩ vg) :: (8, vg, gs.flatMap glyC) :: (4, .sl bs 0 1 1 4, sc) :: (10, v, L.flatMap linG) :: L.map linO) ∧ Slots 266 [(1, .lst (fs.map fntC)), (2, .ptr 0 0), (7, v), (8, .int .i64 y), (9, .lst (ss.map secF)), (10, .int .i64 i), (11, .ptr bs 0), (12, il (el.map fun n : Nat => (n : Int))), (13, .int .i64 F), (14, .int .i64 k), (15, .ptr bl 0)] fr') ?_ ?_
        · simp (disch := omega) [d1]
          exact Mid_of ⟨_, hhp.setO rfl rfl, by simp⟩
        clear hhp d1
        rintro fr H5 ⟨hh, hhp, hs'⟩
        obtain ⟨j, rfl⟩ := hs'.ex
        clear hs'
        have d0 : blockOf H5 0 = some (parC p) := by rw [hhp.block (by simp)]; simp [blockOf, hmp]
        have d1 := hhp.head.at.2.2.1
        simp only [linC] at d1
        simp (disch := omega) [d0, d1, s4, -wC_block]
        refine wC_mid (fun fr' H6 => ∃ x : Int, Hp H6 [some (parC p)] ((10, .sl bl 0 1 1 10, linC ⟨F, E, s.lv, x, y, w, a, dd, hh⟩ vg) :: (8, vg, gs.flatMap glyC) :: (4, .sl bs 0 1 1 4, sc) :: (10, v, L.flatMap linG) :: L.map linO) ∧ Slots 266 [(1, .lst (fs.map fntC)), (2, .ptr 0 0), (7, v), (8, .int .i64 y), (9, .lst (ss.map secF)), (10, .int .i64 i), (11, .ptr bs 0), (12, il (el.map fun n : Nat => (n : Int))), (14, .int .i64 k), (15, .ptr bl 0)] fr') ?_ ?_
        · rw [wC_block]
          simp (disch := omega) [d0, s3]
          obtain ⟨_, ⟨z, rfl⟩, hFl⟩ := floor_ex (prim := prim) (d + 7) hp (IntKind.i64.wrap (p.w - w))
          have d2 := hhp.thd.at.2.2.1
          by_cases ha : p.a = 2
          · simp (disch := omega) [ha, d1, hFl]
            exact Mid_of ⟨_, hhp.setO rfl rfl, by simp⟩
          · simp (disch := omega) [ha, d0, d2, s3, q2]
            refine wIf_intro (fun _ => ?_) (fun _ => ?_)
            · simp (disch := omega) [d1]
              exact Mid_of ⟨_, hhp.setO rfl rfl, by simp⟩
            · simp (disch := omega)
              exact Mid_of ⟨_, hhp, by simp⟩
        clear hhp d0 d1
        rintro fr H6 ⟨xx, hhp, hs'⟩
        obtain ⟨j, rfl⟩ := hs'.ex
        clear hs'
        have d1 := hhp.head.at.2.2.1
        simp only [linC] at d1
        simp (disch := omega) [d1]
        refine wC_loop (fun m fr H7 => ∃ (g : Nat) (gs : List Gly) (pn : Int), g ≤ gs.length ∧ m = gs.length - g ∧ gs.length ≤ 3600 ∧ Hp H7 [some (parC p)] ((10, .sl bl 0 1 1 10, linC ⟨F, E, s.lv, xx, y, w, a, dd, hh⟩ vg) :: (8, vg, gs.flatMap glyC) :: (4, .sl bs 0 1 1 4, sc) :: (10, v, L.flatMap linG) :: L.map linO) ∧ Slots 266 [(1, .lst (fs.map fntC)), (2, .ptr 0 0), (7, v), (8, .int .i64 y), (9, .lst (ss.map secF)), (10, .int .i64 i), (11, .ptr bs 0), (12, il (el.map fun n : Nat => (n : Int))), (14, .int .i64 k), (15, .ptr bl 0), (23, .int .i64 pn), (24, .int .i64 g)] fr) (m := gs.length) (by omega) ⟨0, gs, xx, by omega, rfl, hgl, hhp, by simp⟩ ?_
        clear hhp hgl d1
        rintro m fr H7 ⟨g, gs, pn, hg, rfl, hgl, hhp, hs'⟩
        obtain ⟨j, rfl⟩ := hs'.ex
        clear hs'
        have d1 := hhp.head.at.2.2.1
        simp only [linC] at d1
        have hvl := hhp.snd.lenF gly_len (by omega) (show Tryz.prog.underlying 54 = some (.slice 82) by kernel_rfl)
        by_cases hlg : g < gs.length
        · obtain ⟨b2, rfl, hb1, hb2, d3⟩ := hhp.snd.posF gly_len (by omega) (show 0 < gs.length by omega)
          obtain ⟨gl, hgl2⟩ := atL hlg
          have hmg := gly_map gs
          have hg1 : IntKind.i64.wrap ((g : Int) + 1) = (g : Int) + 1 := by rw [wrap64 (by omega) (by omega)]
          simp (disch := omega) [d1, hvl, hlg, -wC_block]
          rw [wC_block]
          simp only [wC_seq]
          refine wC_mid (fun fr' H8 => ∃ gs2 : List Gly, gs2.length = gs.length ∧ Hp H8 [some (parC p)] ((10, .sl bl 0 1 1 10, linC ⟨F, E, s.lv, xx, y, w, a, dd, hh⟩ (.sl b2 0 gs.length gs.length 8)) :: (8, .sl b2 0 gs.length gs.length 8, gs2.flatMap glyC) :: (4, .sl bs 0 1 1 4, sc) :: (10, v, L.flatMap linG) :: L.map linO) ∧ Slots 266 [(1, .lst (fs.map fntC)), (2, .ptr 0 0), (7, v), (8, .int .i64 y), (9, .lst (ss.map secF)), (10, .int .i64 i), (11, .ptr bs 0), (12, il (el.map fun n : Nat => (n : Int))), (14, .int .i64 k), (15, .ptr bl 0), (23, .int .i64 pn), (24, .int .i64 g)] fr') ?_ ?_
          · have q6 : g * 8 + 4 + 1 ≤ gs.length * 8 := by omega
            simp (disch := omega) [-List.length_flatMap, gly_fl, d1, d3, q6, gly_set4 hgl2, -getElem?_pos]
            exact Mid_of ⟨_, List.length_set, (hhp.swap.setO (gly_map _) (by rw [gly_fl, gly_fl, List.length_set])).swap, by simp⟩
          clear hhp d1 d3 hvl hgl2 hmg
          rintro fr H8 ⟨gs2, hl2, hhp, hs'⟩
          obtain ⟨j, rfl⟩ := hs'.ex
          clear hs'
          have d1 := hhp.head.at.2.2.1
          simp only [linC] at d1
          have d3 := hhp.snd.at.2.2.1
          obtain ⟨gl2, hgl3⟩ := atL (show g < gs2.length by omega)
          have hmg2 := gly_map gs2
          simp (disch := omega) [d1, d3, gly_at5 hgl3, hg1, -getElem?_pos]
          rw [← hl2] at hhp ⊢
          exact Rnd_of (m' := gs2.length - (g + 1)) (by omega) ⟨g + 1, gs2, IntKind.i64.wrap (pn + gl2.a), by omega, by omega, by omega, hhp, by simp⟩
        · obtain rfl : g = gs.length := by omega
          have hcl := hhp.snd.leaf
          have hmn2 : isMap (linC ⟨F, E, s.lv, xx, y, w, a, dd, hh⟩ vg) = false := rfl
          have hbn : blockOf (H7 ++ [some (linC ⟨F, E, s.lv, xx, y, w, a, dd, hh⟩ vg)]) H7.length = some (linC ⟨F, E, s.lv, xx, y, w, a, dd, hh⟩ vg) := by rw [blockOf_len' rfl, hmn2]; rfl
          simp only [linC] at hbn
          simp (disch := omega) [d1, hvl, hbn, hcl]
          refine wS_appO (m := 1) (k := 10) (hhp.rot4.push [some (linC ⟨F, E, s.lv, xx, y, w, a, dd, hh⟩ vg)]) (by simp) rfl rfl (by omega) (by omega) (by rw [flat_len lin_len]; omega) (by rw [flat_len lin_len]; omega) ?_
          intro v' H8 hhp2
          simp (disch := omega) [hE, wrap64, -getElem?_pos]
          refine Rnd_of (m' := el.length - (k + 1)) (by omega) ⟨k + 1, E, L ++ [⟨⟨F, E, s.lv, xx, y, w, a, dd, hh⟩, vg, gs⟩], v', IntKind.i64.wrap (y + hh), by omega, by omega, by simpa using hE, by simp; omega, fun z hz => ?_, by simpa [linG, linO, linC] using hhp2.rotE, by simp⟩
          rcases List.mem_append.1 hz with hz | hz
          · exact hLr z hz
          · simp at hz
            subst hz
            simp
            omega
    · obtain rfl : k = el.length := by omega
      simp (disch := omega) [wrap64]
      exact Rnd_of (m' := ss.length - (i + 1)) (by omega) ⟨i + 1, L, v, y, by omega, by omega, by omega, hLr, hhp.tail, by simp (disch := omega)⟩
  · obtain rfl : i = ss.length := by omega
    have f1 := lin_frz 1 hhp
    simp (disch := omega) [f1]
    exact ⟨L, rfl, by omega, hLr⟩
end
end Bi
end Go.Ab
