/- The law ParagraphErrors: walked. -/
import Derived.Test.YtamjkkpdopiofaaGreatPaEr
namespace Go.Ab
open Go.Proofs
namespace Bi
theorem md_pv : md 9 = 3 := rfl
theorem md_rv : md 10 = 3 := rfl
theorem parV_sl (v : V) (p : Par) (hv : v.leaf = true) : (parV v p).all V.leaf = true ∧ isMap (parV v p) = false ∧ slot (parV v p) 1 = some v ∧ (parV v p).length = 5 ∧ (parV v p).take 5 = parV v p ∧
    (∀ b, setS (parV v p) 2 (.int .i64 b) = parV v { p with b := b }) ∧ (∀ b, setS (parV v p) 3 (.int .i64 b) = parV v { p with a := b }) ∧ (∀ b, setS (parV v p) 4 (.int .i64 b) = parV v { p with w := b }) :=
  ⟨by simp [parV, hv], rfl, rfl, rfl, rfl, fun _ => rfl, fun _ => rfl, fun _ => rfl⟩
set_option maxHeartbeats 16000000 in
set_option maxRecDepth 100000 in
theorem errs_ok (d : Nat) (l : List Int) : ∃ v h', callN Tryz.prog md pE 10000 (d + 11) ⟨0, [], 0⟩ 3 [il l] [] = some (v, h') ∧ v = .bool true := by
  have hA := fun cfg h => awakeE (d + 9) cfg h
  have hNw := fun cfg h => new_ok (prim := pE) (d + 9) cfg h (pE_none _ (by decide)) l
  have hL : (l.take 4000).length ≤ 4000 := by simp; omega
  refine callN_of (R := fun r _ => r = .bool true) (pE_none _ (by decide)) Tryz.func3 rfl rfl rfl ?_
  generalize hLL : l.take 4000 = L at *
  have r0 : Rd [some [il L, .int .i64 0]] 0 L 0 := ⟨rfl, by omega⟩
  obtain ⟨fs, k1, hf1, hf3, hfo, hk1, vf, H1, g1, c1⟩ := fonts2_ok (prim := pE) (d + 6) [some [il L, .int .i64 0]] pE_none L 0 hL 0 r0
  obtain ⟨bf, rfl, hbf0, hbf1, hbf2⟩ := OwnC.posF fnt_len (by omega) g1.hp.head (by omega)
  have r1 : Rd H1 0 L k1 := g1.rd r0
  obtain ⟨p, k2, hpo, hk2, vs, X, H2, g2, c2⟩ := par2_ok (prim := pE) (d + 5) H1 pE_none L k1 hL 0 r1 6 fs.length (by omega) (by omega) (by omega)
  have hps : 0 < p.s.length := by
    rcases hpo.cov with ⟨_, s, h1, _⟩ | ⟨h1, h2⟩
    · rw [h1]; simp
    · rcases hs : p.s with _ | ⟨s, ss⟩
      · rw [hs] at h2
        have : p.t.length = 0 := by have h3 : (0 : Int) = p.t.length := h2; omega
        exact absurd (List.length_eq_zero_iff.1 this) h1
      · simp
  obtain ⟨bs, rfl, hbs0, hbs1, hbs2⟩ := OwnC.posF spn_len (by omega) g2.hp.head hps
  have hbl1 : (hk H1 0 L k2 ++ X).length = H1.length + X.length := by simp
  have hblf : blockOf H2 bf = some (fs.flatMap fntC) := by
    rw [g2.hp.block (by rw [hbl1]; omega), blockOf_left (by simpa using hbf1), blockOf_set_ne' (by have : (hk [some [il L, V.int .i64 0]] 0 L k1 ++ []).length = 1 := rfl; omega)]
    exact hbf2
  have e1 : ((6 : Nat) : Int) = 6 := rfl
  rw [e1] at c2
  obtain ⟨hlf, hmp, sl1, l5, t5, _⟩ := parV_sl (.sl bs 0 p.s.length p.s.length 4) p rfl
  have hlf' : ∀ x, x ∈ parV (.sl bs 0 p.s.length p.s.length 4) p → x.leaf = true := List.all_eq_true.1 hlf
  have hlq := eq_true hlf'
  have hp0 : putAt [.nils, .nils, .int .i64 0, .int .i64 0, .int .i64 0] 0 (parV (.sl bs 0 p.s.length p.s.length 4) p) = parV (.sl bs 0 p.s.length p.s.length 4) p := rfl
  have hb1 : 1 ≤ bf := hbf0
  have hbs3 : H1.length ≤ bs := by have h3 := hbs0; rw [hbl1] at h3; omega
  have hb2 : 1 ≤ bs := by omega
  have S0 : ErS (H2 ++ [some (parV (.sl bs 0 p.s.length p.s.length 4) p)]) L bf bs H2.length k2 fs p := by
    have hr := (g2.rd r1).push [some (parV (.sl bs 0 p.s.length p.s.length 4) p)]
    have hbf3 := blockOf_lt hblf
    have hl2 := g2.len
    exact ⟨hr, by rw [blockOf_left hbf3]; exact hblf, by rw [blockOf_left hbs1]; exact hbs2, by rw [blockOf_len' rfl, hmp]; rfl, by omega, by omega, by omega, by omega, by omega, by omega⟩
  simp (disch := omega) [hNw, c1, c2, hlq, l5, hp0]
  refine wC_loop (fun m fr H => ∃ (i k : Nat) (fs : List Fnt) (p : Par), i ≤ 2 ∧ m = 2 - i ∧ 0 < p.s.length ∧ p.s.length ≤ 100 ∧ 0 < fs.length ∧ fs.length ≤ 3 ∧ (∀ f ∈ fs, f.adv.length ≤ 1000 ∧ f.ker.length ≤ 1000 ∧ f.lig.length ≤ 1000) ∧ ErS H L bf bs H2.length k fs p ∧ p.t.length ≤ 6 ∧
    Slots 97 [(3, .ptr 0 0), (4, .sl bf 0 fs.length fs.length 8), (5, .ptr H2.length 0), (6, .int .i64 i)] fr) (m := 2) (by omega) ⟨0, k2, fs, p, by omega, by omega, hps, by have := hpo.sl; omega, by omega, by omega, fun f hf => by have h1 := hfo f hf; exact ⟨by have := h1.advL; omega, by have := h1.kerL; omega, by have := h1.ligL; omega⟩, S0, hpo.len, by simp⟩ ?_
  clear c1 c2 g1 g2 S0 hlf hmp sl1 l5 t5 hlq hlf' hp0 hpo hps
  rintro m fr H ⟨i, k, fs, p, hi, rfl, hp1, hp2, hfs1, hfs2, hF, g, hpt, hs⟩
  obtain ⟨j, rfl⟩ := hs.ex
  clear hs
  by_cases hlt : i < 2
  · have hI : (i : Int) < 2 := by omega
    obtain ⟨v, k', hv, hk', cN⟩ := N_all (prim := pE) (d + 9) pE_none L k hL g.r.le 8 (by omega) (by omega)
    have cN' := cN ⟨0, [], 0⟩ H 0 g.r.blk wr_pure
    have hv8 : v < 8 := by omega
    clear hv cN
    have hR := fun (lo hi : Int) h1 h2 h3 => R_all (prim := pE) (d + 8) pE_none L k' hL hk' lo hi h1 h2 h3
    have hN := fun (n : Int) h1 h2 => N_all (prim := pE) (d + 9) pE_none L k' hL hk' n h1 h2
    have hb0 := (g.n hk').r.blk
    obtain ⟨hlf, hmp, sl1, l5, t5, q2, q3, q4⟩ := parV_sl (.sl bs 0 p.s.length p.s.length 4) p rfl
    simp (disch := omega) [hI, -wC_block]
    refine wC_mid (fun fr' H2' => ∃ (k : Nat) (fs' : List Fnt) (p : Par), 0 < p.s.length ∧ p.s.length ≤ 100 ∧ fs'.length = fs.length ∧ (∀ f ∈ fs', f.adv.length ≤ 1000 ∧ f.ker.length ≤ 1000 ∧ f.lig.length ≤ 1000) ∧ ErS H2' L bf bs H2.length k fs' p ∧ p.t.length ≤ 6 ∧
      Slots 97 [(3, .ptr 0 0), (4, .sl bf 0 fs.length fs.length 8), (5, .ptr H2.length 0), (6, .int .i64 i)] fr') ?_ ?_
    · rw [wC_block]
      rcases v with _ | _ | _ | _ | _ | _ | _ | _ | v
      · obtain ⟨v2, k2', h1, h2, hk2', c2⟩ := hR (-2) 2 (by omega) (by omega) (by omega)
        have c2' := c2 ⟨0, [], 0⟩ _ 0 hb0 wr_pure
        rw [List.set_set] at c2'
        have g2 := g.n hk2'
        simp (disch := omega) [cN', c2', g2.p, l5, q2]
        exact Mid_of ⟨k2', fs, { p with b := v2 }, hp1, hp2, rfl, hF, g2.setP rfl, hpt, by simp⟩
      · obtain ⟨v2, k2', h1, h2, hk2', c2⟩ := hR (-1) 3 (by omega) (by omega) (by omega)
        have c2' := c2 ⟨0, [], 0⟩ _ 0 hb0 wr_pure
        rw [List.set_set] at c2'
        have g2 := g.n hk2'
        simp (disch := omega) [cN', c2', g2.p, l5, q3]
        exact Mid_of ⟨k2', fs, { p with a := v2 }, hp1, hp2, rfl, hF, g2.setP rfl, hpt, by simp⟩
      · obtain ⟨v2, k2', h1, hk2', c2⟩ := hN 2 (by omega) (by omega)
        have c2' := c2 ⟨0, [], 0⟩ _ 0 hb0 wr_pure
        rw [List.set_set] at c2'
        have g2 := g.n hk2'
        simp (disch := omega) [cN', c2', g2.p, l5, q4, wrap64]
        exact Mid_of ⟨k2', fs, { p with w := 1048576 + v2 }, hp1, hp2, rfl, hF, g2.setP rfl, hpt, by simp⟩
      all_goals obtain ⟨s0, hs0⟩ : ∃ s, p.s[0]? = some s := ⟨_, List.getElem?_eq_getElem hp1⟩
      all_goals have hfl := flat_len spn_len p.s
      all_goals have m1 := md_N
      all_goals have m2 := md_R
      all_goals have hH0 : 0 < H.length := blockOf_lt g.r.blk
      all_goals have hH1 : ¬ H = [] := fun e => by rw [e] at hH0; simp at hH0
      all_goals have n1 : ¬ 0 = H2.length := fun e => g.p0 e.symm
      all_goals have n2 : ¬ 0 = bs := fun e => g.s0 e.symm
      all_goals have n3 : ¬ H2 = [] := fun e => by rw [e] at n1; simp at n1
      all_goals have n4 := g.s0
      all_goals have n5 : ¬ 0 = H.length := fun e => by omega
      all_goals have q34 : 4 ≤ p.s.length * 4 := by omega
      all_goals have q31 : 1 ≤ p.s.length * 4 := by omega
      all_goals have q33 : 3 ≤ p.s.length * 4 := by omega
      all_goals have gp1 := (g.n hk').p
      all_goals have gs1 := (g.n hk').s
      · obtain ⟨v2, k2', h1, h2, hk2', c2⟩ := hR (-1) fs.length (by omega) (by omega) (by omega)
        have c2' := fun lo thr => c2 ⟨lo, [0], thr⟩ _ 0 hb0 wr_ex
        simp only [List.set_set] at c2'
        have g2 := g.n hk2'
        have u2 : ∀ v, setS (p.s.flatMap spnC) 2 (.int .i64 v) = (p.s.set 0 { s0 with n := v }).flatMap spnC := fun v => spn_at2 (i := 0) hs0
        simp (disch := omega) [cN']
        refine wC_draw 6 (by kernel_rfl) ?_
        simp (disch := omega) [gp1, g2.s, sl1, c2', m2, hfl, hH0, n1, u2, q33]
        exact Mid_of ⟨k2', fs, { p with s := p.s.set 0 { s0 with n := v2 } }, by simp; omega, by simp; omega, rfl, hF, g2.setS _ (by simp), hpt, by simp⟩
      · have hnx := g.r.nx (d + 9) pE_none hL hk' 4 (by omega) (by omega)
        obtain ⟨v2, k2', h1, hk2', c2⟩ := hnx
        have c2' := fun lo thr X => c2 ⟨lo, [0], thr⟩ X wr_ex
        have g2 := (g.n hk2').push [some [V.int .i64 0, .int .i64 1, .int .i64 1000, .int .i64 1001]]
        have gb := fun k => blockOf_len' (h := H.set 0 (some [il L, V.int .i64 (k : Nat)])) (cs := [V.int .i64 0, .int .i64 1, .int .i64 1000, .int .i64 1001]) (r := []) (b := H.length) (by simp)
        have g1 := (g.n hk').push [some [V.int .i64 0, .int .i64 1, .int .i64 1000, .int .i64 1001]]
        have u2 : ∀ v, setS (p.s.flatMap spnC) 3 (.int .i64 v) = (p.s.set 0 { s0 with z := v }).flatMap spnC := fun v => spn_at3 (i := 0) hs0
        have hbsl := blockOf_lt (g.n hk2').s
        have hset : ∀ Y, (H.set 0 (some [il L, V.int .i64 (k2' : Nat)]) ++ [some [V.int .i64 0, .int .i64 1, .int .i64 1000, .int .i64 1001]]).set bs Y = (H.set 0 (some [il L, V.int .i64 (k2' : Nat)])).set bs Y ++ [some [V.int .i64 0, .int .i64 1, .int .i64 1000, .int .i64 1001]] := fun Y => List.set_append_left _ _ hbsl
        simp (disch := omega) [cN']
        refine wC_draw 7 (by kernel_rfl) ?_
        have hv2 : v2 < 4 := by omega
        rcases v2 with _ | _ | _ | _ | v2
        · simp (disch := omega) [gp1, g2.s, sl1, c2', m1, hfl, hH0, n1, u2, gb, q34, n5]
          exact Mid_of ⟨k2', fs, { p with s := p.s.set 0 { s0 with z := 0 } }, by simp; omega, by simp; omega, rfl, hF, ((g.n hk2').setS _ (by simp)).push _, hpt, by simp⟩
        · simp (disch := omega) [gp1, g2.s, sl1, c2', m1, hfl, hH0, n1, u2, gb, q34, n5]
          exact Mid_of ⟨k2', fs, { p with s := p.s.set 0 { s0 with z := 1 } }, by simp; omega, by simp; omega, rfl, hF, ((g.n hk2').setS _ (by simp)).push _, hpt, by simp⟩
        · simp (disch := omega) [gp1, g2.s, sl1, c2', m1, hfl, hH0, n1, u2, gb, q34, n5]
          exact Mid_of ⟨k2', fs, { p with s := p.s.set 0 { s0 with z := 1000 } }, by simp; omega, by simp; omega, rfl, hF, ((g.n hk2').setS _ (by simp)).push _, hpt, by simp⟩
        · simp (disch := omega) [gp1, g2.s, sl1, c2', m1, hfl, hH0, n1, u2, gb, q34, n5]
          exact Mid_of ⟨k2', fs, { p with s := p.s.set 0 { s0 with z := 1001 } }, by simp; omega, by simp; omega, rfl, hF, ((g.n hk2').setS _ (by simp)).push _, hpt, by simp⟩
        · omega
      · obtain ⟨v2, k2', h1, h2, hk2', c2⟩ := hR (-1) 1 (by omega) (by omega) (by omega)
        have c2' := fun lo thr => c2 ⟨lo, [0], thr⟩ _ 0 hb0 wr_ex
        simp only [List.set_set] at c2'
        have g2 := g.n hk2'
        obtain ⟨s1, hs1⟩ : ∃ s, p.s[p.s.length - 1]? = some s := ⟨_, List.getElem?_eq_getElem (by omega)⟩
        have u2 : ∀ v, setS (p.s.flatMap spnC) ((p.s.length - 1) * 4 + 1) (.int .i64 v) = (p.s.set (p.s.length - 1) { s1 with t := v }).flatMap spnC := fun v => spn_at1 hs1
        have u3 : slot (p.s.flatMap spnC) ((p.s.length - 1) * 4 + 1) = some (.int .i64 s1.t) := flat_slot spn_len (by omega) hs1
        have hn1 : ((p.s.length : Int) - 1).toNat = p.s.length - 1 := by omega
        have q5 : (p.s.length - 1) * 4 + 1 + 1 ≤ p.s.length * 4 := by omega
        simp (disch := omega) [cN']
        refine wC_draw 11 (by kernel_rfl) ?_
        simp (disch := omega) [gp1, gs1, g2.s, sl1, c2', m2, hfl, hH0, n1, n2, u2, u3, hn1, q5, wrap64]
        exact Mid_of ⟨k2', fs, { p with s := p.s.set (p.s.length - 1) { s1 with t := IntKind.i64.wrap (s1.t + v2) } }, by simp; omega, by simp; omega, rfl, hF, g2.setS _ (by simp), hpt, by simp⟩
      · obtain ⟨v2, k2', h1, h2, hk2', c2⟩ := hR 15 16 (by omega) (by omega) (by omega)
        have c2' := c2 ⟨0, [], 0⟩ _ 0 hb0 wr_pure
        rw [List.set_set] at c2'
        have g2 := g.n hk2'
        obtain ⟨f0, hf0⟩ : ∃ s, fs[0]? = some s := ⟨_, List.getElem?_eq_getElem hfs1⟩
        have u2 : ∀ v, setS (fs.flatMap fntC) 0 (.int .i64 v) = (fs.set 0 { f0 with u := v }).flatMap fntC := fun v => fnt_at0 (i := 0) hf0
        have hfl8 := flat_len fnt_len fs
        have q6 : 1 ≤ fs.length * 8 := by omega
        simp (disch := omega) [cN', c2', g2.f, hfl8, u2, q6]
        refine Mid_of ⟨k2', fs.set 0 { f0 with u := v2 }, p, hp1, hp2, by simp, fun f hf => ?_, g2.setF _, hpt, by simp⟩
        rcases List.mem_or_eq_of_mem_set hf with h | rfl
        · exact hF f h
        · exact hF f0 (List.mem_of_getElem? hf0)
      · obtain ⟨v2, k2', h1, hk2', c2⟩ := hN 2 (by omega) (by omega)
        have c2' := fun lo thr => c2 ⟨lo, [0], thr⟩ _ 0 hb0 wr_ex
        simp only [List.set_set] at c2'
        have g2 := g.n hk2'
        have u2 : ∀ v, setS (p.s.flatMap spnC) 0 (.int .i64 v) = (p.s.set 0 { s0 with f := v }).flatMap spnC := fun v => spn_at0 (i := 0) hs0
        simp (disch := omega) [cN']
        refine wC_draw 4 (by kernel_rfl) ?_
        simp (disch := omega) [gp1, g2.s, sl1, c2', m1, hfl, hH0, n1, u2, q31]
        exact Mid_of ⟨k2', fs, { p with s := p.s.set 0 { s0 with f := v2 } }, by simp; omega, by simp; omega, rfl, hF, g2.setS _ (by simp), hpt, by simp⟩
      · omega
    rintro fr H3 ⟨k3, fs3, p3, hp3, hp4, hf3l, hF3, g3, hpt3, hs⟩
    obtain ⟨j3, rfl⟩ := hs.ex
    clear hs
    rw [← hf3l]
    simp (disch := omega) [wrap64]
    exact Rnd_of (m' := 2 - (i + 1)) (by omega) ⟨i + 1, k3, fs3, p3, by omega, by omega, hp3, hp4, by omega, by omega, hF3, g3, hpt3, by simp (disch := omega)⟩
  · obtain rfl : i = 2 := by omega
    simp (disch := omega)
    obtain ⟨_, rfl, _, hV⟩ := validP_ex (prim := pE) (d + 4) pE_none p (by omega) (by omega) fs (by omega) hF
    obtain ⟨_, rfl, _, hW⟩ := valid9S_ex (prim := pE) (d + 4) pE_none p (by omega) (by omega) fs (by omega) hF
    have hz := g.frz
    have hV' := fun cfg => hV md_pv cfg H _ hz
    have hW' := fun cfg => hW md_rv cfg H _ hz
    obtain ⟨hlf, hmp, sl1, l5, t5, _⟩ := parV_sl (.sl bs 0 p.s.length p.s.length 4) p rfl
    have m3 := md_pv
    have m4 := md_rv
    refine wC_draw 5 (by kernel_rfl) ?_
    simp (disch := omega) [g.p, l5, t5, hV', hW', hA, m3]
end Bi
end Go.Ab
