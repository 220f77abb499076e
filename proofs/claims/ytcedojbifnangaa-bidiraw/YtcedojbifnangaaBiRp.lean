/- Several texts of this proof in one. -/
import Derived.Test.YtcedojbifnangaaBiRs0
import Derived.Test.YtcedojbifnangaaBiRj
import Derived.Test.YtcedojbifnangaaBiRo
import Derived.Test.YtcedojbifnangaaBiP
/- The reference: sequences. -/
namespace Go.Ab
open Go.Proofs
namespace Bi
/-- One more slice, which lies in a block of its own. -/
theorem Nst.add {H Z H' : Heap} {lo : Nat} {v d u : V} {vs : List V} {rs : List (List Int)} {r : List Int} (h0 : Nst H lo v vs rs) (hu : Stk (H ++ Z) lo 1 u (r.map (V.int .i64))) (hub : ∀ b, blkOf u = some b → H.length ≤ b)
    (hs : Stk H' lo 1 d (vs ++ [u])) (hf : ∀ c, blkOf v ≠ some c → c < (H ++ Z).length → blockOf H' c = blockOf (H ++ Z) c) (hb : blkOf d = blkOf v ∨ blkOf d = some (H ++ Z).length) : Nst H' lo d (vs ++ [u]) (rs ++ [r]) := by
  have h := h0.push Z
  have hvb : ∀ b, blkOf v = some b → b < H.length := fun b hb => (h0.out.blk hb).2
  refine ⟨hs, by simp [h.len], fun i w q hw hq => ?_, fun i j w z hij hw hz => ?_⟩
  · by_cases hi : i < vs.length
    · rw [List.getElem?_append_left hi] at hw
      rw [List.getElem?_append_left (h.len ▸ hi)] at hq
      obtain ⟨h1, h2⟩ := h.inn i w q hw hq
      refine ⟨h1.of_blk fun b hbu => hf b (fun hv => h2 b hv hbu) (h1.blk hbu).2, fun b hd hbu => ?_⟩
      rcases hb with hb | hb
      · exact h2 b (hb ▸ hd) hbu
      · rw [hb] at hd
        cases hd
        exact absurd (h1.blk hbu).2 (by omega)
    · have hl := (List.getElem?_eq_some_iff.1 hw).1
      have hi' : i = vs.length := by simp at hl; omega
      subst hi'
      rw [List.getElem?_append_right (Nat.le_refl _)] at hw
      rw [List.getElem?_append_right (by rw [h.len]; exact Nat.le_refl _)] at hq
      simp [h.len] at hw hq
      subst hw hq
      refine ⟨hu.of_blk fun b hbu => hf b (fun hv => ?_) (hu.blk hbu).2, fun b hd hbu => ?_⟩
      · have := hvb b hv
        have := hub b hbu
        omega
      · have h3 := hub b hbu
        have h4 := (hu.blk hbu).2
        rcases hb with hb | hb
        · have := hvb b (hb ▸ hd)
          omega
        · rw [hb] at hd
          cases hd
          omega
  · have hl := (List.getElem?_eq_some_iff.1 hz).1
    have hi : i < vs.length := by simp at hl; omega
    rw [List.getElem?_append_left hi] at hw
    by_cases hj : j < vs.length
    · rw [List.getElem?_append_left hj] at hz
      exact h.dj i j w z hij hw hz
    · have hj' : j = vs.length := by simp at hl; omega
      subst hj'
      rw [List.getElem?_append_right (Nat.le_refl _)] at hz
      simp at hz
      subst hz
      intro b hbw hbu
      have := (h0.blk hw hbw).2
      have := hub b hbu
      omega
section
variable {P : Program} {md' : FuncId → Nat} {call : Callf} {cfg : Cfg}
theorem wS_add0 {dst : Option Tmp} {fr : List V} {ops : Array Oper} {rest : List Oper} {Q : KontO} {H Z : Heap} {w u : V} {vs : List V} {rs : List (List Int)} {r : List Int} {y : Nat}
    (ho : Nst H 0 w vs rs) (hu : Stk (H ++ Z) 0 1 u (r.map (V.int .i64))) (hub : ∀ b, blkOf u = some b → H.length ≤ b) (hlo : cfg.lo = 0) (hth : cfg.thr = 0) (hsz : vs.length ≤ 4000) (hy : y ≤ 100)
    (K : ∀ d' H', Nst H' 0 d' (vs ++ [u]) (rs ++ [r]) → @wO P md' call cfg ⟨ops⟩ ⟨rest⟩ (put fr dst d') H' ⟨Q⟩) :
    @wS P md' call cfg ⟨dst⟩ ⟨fr⟩ (appD cfg (H ++ Z) 1 y w 1 [u]) ⟨ops⟩ ⟨rest⟩ ⟨Q⟩ := by
  have hs : (vs.length / 1 + 1) * y ≤ 1099511627776 := by
    have : (vs.length / 1 + 1) * y ≤ 4001 * 100 := Nat.mul_le_mul (by omega) hy
    omega
  have hm : isMap [u] = false := by rcases hu with ⟨rfl, _⟩ | ⟨b, n, cap, J, rfl, _⟩ <;> rfl
  refine wS_appP (lo := 0) (ho.push Z).out (by omega) (by omega) (by simp) rfl hm (by omega) hs (by omega) ?_
  intro d' h' hst _ htk hlen hot hb
  exact K d' h' (ho.add hu hub hst hot hb)
theorem wS_inner0 {dst : Option Tmp} {fr : List V} {ops : Array Oper} {rest : List Oper} {Q : KontO} {H : Heap} {b cap : Nat} {u : V} {vs J : List V} {rs : List (List Int)} {r : List Int} {x : Int} {y : Nat}
    (ho : Nst H 0 (.sl b 0 (vs.length + 1) cap 1) (vs ++ [u]) (rs ++ [r])) (hbk : blockOf H b = some (vs ++ u :: J)) (hl : vs.length = rs.length) (hlo : cfg.lo = 0) (hth : cfg.thr = 0) (hsz : r.length ≤ 4000) (hy : y ≤ 100)
    (K : ∀ d' H1 H2, stv cfg H1 b vs.length 1 (cellsOf d') = some H2 → Nst H2 0 (.sl b 0 (vs.length + 1) cap 1) (vs ++ [d']) (rs ++ [r ++ [x]]) → @wO P md' call cfg ⟨ops⟩ ⟨rest⟩ (put fr dst d') H1 ⟨Q⟩) :
    @wS P md' call cfg ⟨dst⟩ ⟨fr⟩ (appD cfg H 1 y u 1 [.int .i64 x]) ⟨ops⟩ ⟨rest⟩ ⟨Q⟩ := by
  obtain ⟨hu1, hu2⟩ := ho.inn vs.length u r (by simp) (by simp [hl])
  have hb5 := ho.out.blk (b := b) rfl
  have hs : ((r.map (V.int .i64)).length / 1 + 1) * y ≤ 1099511627776 := by
    have : ((r.map (V.int .i64)).length / 1 + 1) * y ≤ 4001 * 100 := Nat.mul_le_mul (by simp; omega) hy
    omega
  refine wS_appP (lo := 0) hu1 (by omega) (by omega) (by simp) rfl rfl (by omega) hs (by simp; omega) ?_
  intro d' H1 hst hlf htk hlen hot hb
  have hbk' := (hot b (fun e => hu2 b rfl e) hb5.2).trans hbk
  have hbl := blockOf_lt hbk'
  have hw : cfg.wr b = true := by simp only [Cfg.wr, Bool.or_eq_true, decide_eq_true_eq]; left; omega
  have hse : stv cfg H1 b vs.length 1 (cellsOf d') = some (H1.set b (some (vs ++ d' :: J))) := by
    rw [hst.cells, stv_some, if_pos (show [d'].length = 1 from rfl), storeCells_eq, hbk']
    simp only [Option.bind_some]
    rw [if_pos, show vs ++ u :: J = vs ++ (u :: J) from rfl, putAt_mid [d'] vs (u :: J) (by simp)]
    · simp
    · simp only [hw, Bool.and_true, Bool.and_eq_true, decide_eq_true_eq, Bool.or_eq_true, List.length_append]
      simp
      left
      omega
  refine K d' H1 _ hse ?_
  rw [ints_snoc] at hst
  have hnm : isMap (vs ++ d' :: J) = false := by
    have hm0 := isMap_of_block hbk
    cases vs with
    | nil => cases d' <;> first | rfl | simp [V.leaf] at hlf
    | cons z zs => cases z <;> first | rfl | simp [isMap] at hm0
  refine ho.grow hl hst hot hb ?_ (fun c hc _ => blockOf_set_ne' (by rintro rfl; exact hc rfl)) hlen
  rcases ho.out with ⟨h1, -⟩ | ⟨b', n', cap', J', hv, h1, h2, h3, h4, h5⟩
  · cases h1
  · cases hv
    rw [hbk] at h3
    have hJ : J = J' := by simpa using h3
    subst hJ
    refine .inr ⟨b, vs.length + 1, cap, J, rfl, h1, by simp, ?_, by simpa using h4, h5⟩
    rw [blockOf_set_self hbl, hnm]
    simp
end
theorem ls_mapM {H : Heap} {n : Nat} : ∀ (ls : List (V × List Int)), (∀ s ∈ ls, frz H n 5 s.1 = some (il s.2)) → (ls.map (·.1)).mapM (frz H n 5) = some (ls.map fun s => il s.2)
  | [], _ => rfl
  | s :: ls, h => by
    have ih := ls_mapM ls (fun x hx => h x (List.mem_cons_of_mem _ hx))
    have h0 := h s (List.mem_cons_self ..)
    simp only [List.map_cons, List.mapM_cons, h0, ih, Option.pure_def, Option.bind_eq_bind, Option.bind_some]
abbrev lso (s : V × List Int) : Own := (1, s.1, s.2.map (V.int .i64))
theorem frz_ls {H base : Heap} {ov : V} {ls : List (V × List Int)} {n : Nat} (h : Hp H base ((1, ov, ls.map (·.1)) :: ls.map lso)) (hn : n ≤ base.length) : frz H n 6 ov = some (.lst (ls.map fun s => [il s.2])) ∧ own H 6 ov = true := by
  have ho : ∀ s ∈ ls, OwnC H base.length 1 s.1 (s.2.map (V.int .i64)) := fun s hs => h.tail.own (lso s) (List.mem_map_of_mem hs)
  have hs : ∀ s ∈ ls, frz H n 5 s.1 = some (il s.2) := fun s hs => OwnC.frzI (d := 3) (ho s hs) hn
  refine ⟨?_, h.head.own (d := 4) fun c hc => ?_⟩
  · rcases h.head with ⟨rfl, hc⟩ | ⟨b, m, rfl, hm, h1, hb⟩
    · have : ls = [] := by simpa using hc
      subst this
      rfl
    · have hml : m = ls.length := by simp at hm; omega
      subst hml
      rw [frz_sl, if_neg (by omega), hb]
      have e : List.take (ls.length * 1) (ls.map (·.1)) = ls.map (·.1) := List.take_of_length_le (by simp)
      have hrf : (ls.map fun s => il s.2).all V.rf = true := by
        rw [List.all_eq_true]
        intro c hc
        obtain ⟨s, _, rfl⟩ := List.mem_map.1 hc
        rfl
      have hck := chunk_one (ls.map fun s => il s.2)
      rw [List.length_map] at hck
      simp only [Nat.zero_add, List.drop_zero, List.length_map, Nat.mul_one, Nat.le_refl, if_true]
      rw [List.take_of_length_le (by simp), ls_mapM ls hs]
      simp only [hrf, if_true, hck, List.map_map]
      rfl
  · obtain ⟨s, hsl, rfl⟩ := List.mem_map.1 hc
    exact OwnC.ownI (d := 3) (ho s hsl)
section
variable {prim : FuncId → Option Prim} (d : Nat) (cfg : Cfg) (h : Heap)
set_option maxRecDepth 100000 in
set_option maxHeartbeats 8000000 in
theorem rseqs_ok (h40 : prim 40 = none) (h45 : prim 45 = none) (h71 : prim 71 = none) (h47 : prim 47 = none) (h63 : prim 63 = none) (h64 : prim 64 = none) (t lv : List Int) (n : Nat) (htn : t.length = n) (hlv : lv.length = n) (hn : n ≤ 2000) (e : Int) {args : List V} (hargs : args.mapM (frzA h) = some [rl t, il lv]) :
    callM md (K prim (d + 5)) cfg 40 args h = some (.lst ((seqsS (t.map bidi) (Mc (t.map bidi)) lv n e).map fun s => [il s.l]), h) := by
  refine call3 rfl h40 Try.func40 rfl rfl rfl hargs ?_
  have hG := fun cfg h r => rgone_ok (prim := prim) (d + 1) cfg h h45 h71 h47 r
  have hB := fun cfg h r => rbidi_ok (prim := prim) (d + 2) cfg h h71 h47 r
  have hI := fun cfg h x => rini_ok (prim := prim) (d + 3) cfg h h63 x
  have hMt := fun cfg h i hi => rmatch_ok (prim := prim) (d + 1) cfg h h64 h63 h71 h47 t (by omega) i hi
  have hgt : ∀ (j : Nat) (z : Int), t[j]? = some z → (t.map bidi)[j]? = some (bidi z) := fun j z hz => by rw [List.getElem?_map, hz]; rfl
  have hon : (t.map bidi).length = n := by simpa using htn
  generalize t.map bidi = o at *
  simp (disch := omega)
  refine wC_loop (fun m fr H => ∃ (k : Nat) (w : V) (vs : List V), k ≤ n ∧ m = n - k ∧ Nst H 0 w vs (grp lv (keptL o k) (keptL o k).length) ∧
    Slots 142 [(0, rl t), (1, il lv), (5, w), (6, .int .i64 k)] fr) (m := n) (by omega) ⟨0, .nils, [], by omega, by omega, Nst.zero, by simp⟩ ?_
  rintro m fr H ⟨k, w, vs, hk, rfl, hns, hs⟩
  obtain ⟨j, rfl⟩ := hs.ex
  clear hs
  have hwl := hns.out.len (show Try.prog.underlying 57 = some (.slice 22) by kernel_rfl) (by omega)
  rw [Nat.div_one] at hwl
  have hnl := hns.len
  have hgl := grp_len lv (keptL o k) (keptL o k).length
  have hkl := keptL_len o k
  by_cases hlt : k < n
  · obtain ⟨z, hz⟩ : ∃ z, t[k]? = some z := ⟨_, List.getElem?_eq_getElem (by omega)⟩
    have hx := hgt k z hz
    have hx0 : o.getD k 0 = bidi z := by rw [List.getD_eq_getElem?_getD, hx]; rfl
    have hk1 : keptL o (k + 1) = if gone (o.getD k 0) then keptL o k else keptL o k ++ [(k : Int)] := rfl
    rw [hx0] at hk1
    have hltI : (k : Int) < n := by omega
    have hlk : lv[k]? = some (lvl lv (k : Int)) := lvl_of (by omega)
    cases hg : gone (bidi z)
    · rw [hg] at hk1
      have hk2 : keptL o (k + 1) = keptL o k ++ [(k : Int)] := hk1
      by_cases hke : keptL o k = []
      · have hgm : grp lv (keptL o (k + 1)) (keptL o (k + 1)).length = grp lv (keptL o k) (keptL o k).length ++ [[(k : Int)]] := by
          rw [hk2, grp_more, if_pos hke, hke]
          rfl
        have hv0 : vs.length = 0 := by have : (keptL o k).length = 0 := by rw [hke]; rfl
                                       omega
        rw [hv0] at hwl
        simp (disch := omega) [htn, hltI, hz, hG, hg, hwl, -getElem?_pos]
        refine wC_draw 17 (by kernel_rfl) ?_
        simp (disch := omega) [-getElem?_pos]
        refine wS_add0 (u := .sl H.length 0 1 1 1) (r := [(k : Int)]) hns (.inr ⟨H.length, 1, 1, [], rfl, Nat.zero_le _, rfl, by simp, rfl, Nat.le_refl _⟩) (by intro b hb; cases hb; exact Nat.le_refl _) rfl rfl (by omega) (by omega) ?_
        intro d' H' hns'
        simp (disch := omega) [wrap64]
        exact Rnd_of (m' := n - (k + 1)) (by omega) ⟨k + 1, d', _, by omega, rfl, by rw [hgm]; exact hns', by simp (disch := omega)⟩
      · obtain ⟨ra, rr, x0, e1, e2, e3, e4⟩ := grp_top (lv := lv) hke
        have hgm : grp lv (keptL o (k + 1)) (keptL o (k + 1)).length = if lvl lv x0 = lvl lv (k : Int) then ra ++ [rr ++ [(k : Int)]] else grp lv (keptL o k) (keptL o k).length ++ [[(k : Int)]] := by
          rw [hk2, grp_more, if_neg hke, ← e3]
          split
          · rw [e1]; simp [snocL]
          · rfl
        have hfl := grp_flat lv (keptL o k) (keptL o k).length (Nat.le_refl _)
        have hrl : rr.length ≤ (keptL o k).length := by
          rw [List.take_length, e1] at hfl
          have := congrArg List.length hfl
          simp at this
          omega
        have hx0m : x0 ∈ keptL o k := by
          rw [List.take_length, e1] at hfl
          rw [← hfl]
          simp
          exact .inr (List.mem_of_getElem? e2)
        have hx0r := keptL_mem o k x0 hx0m
        rw [e1] at hns hnl
        obtain ⟨vs0, u0, rfl⟩ : ∃ vs0 u0, vs = vs0 ++ [u0] := by
          have hne : vs ≠ [] := by
            rintro rfl
            simp at hnl
          exact ⟨_, _, (List.dropLast_concat_getLast hne).symm⟩
        have hnl0 : vs0.length = ra.length := by simp at hnl; omega
        have hgl2 := hgl
        rw [e1] at hgl2
        simp at hgl2
        obtain ⟨b, cap, J, rfl, hb1, hb2, hb3⟩ := hns.top
        obtain ⟨bu, nu, capu, JU, rfl, hu1, hu2, hu3, hu4, -⟩ := (hns.inn vs0.length u0 rr (by simp) (by simp [hnl0])).1.pos (by simpa using e4)
        obtain rfl : nu = rr.length := by simp at hu3; omega
        have hsm := slot_mid vs0 J (.sl bu 0 rr.length capu 1)
        have hs0 := slot_front (k := .i64) (J := JU) e2
        have hrl0 : 0 < rr.length := List.length_pos_iff.2 e4
        have hvn : ((vs0.length : Int) + 1 - 1).toNat = vs0.length := by omega
        have hlx : lv[x0.toNat]? = some (lvl lv x0) := by rw [lvl, List.getD_eq_getElem?_getD, List.getElem?_eq_getElem (by omega)]; rfl
        simp only [List.length_append, List.length_singleton] at hwl
        have hvp : (0 : Int) < (vs0.length : Int) + 1 := by omega
        simp (disch := omega) [htn, hltI, hz, hG, hg, -getElem?_pos]
        refine wC_draw 17 (by kernel_rfl) ?_
        simp (disch := omega) [hvp, hb3, hsm, hu4, hs0, hlx, hlk, wrap64, -getElem?_pos]
        by_cases hle : lvl lv x0 = lvl lv (k : Int)
        · rw [if_pos hle] at hgm
          have hb5 : ∀ Y, blockOf (H ++ Y) b = some (vs0 ++ .sl bu 0 rr.length capu 1 :: J) := fun Y => (blockOf_left hb1).trans hb3
          simp (disch := omega) [hle, hb3, hsm, wrap64, -getElem?_pos]
          refine wS_inner0 (hns.push _) (hb5 _) hnl0 rfl rfl (by omega) (by omega) ?_
          intro d' H1 H2 hse hns3
          simp (disch := omega) [hse, wrap64]
          exact Rnd_of (m' := n - (k + 1)) (by omega) ⟨k + 1, _, _, by omega, rfl, by rw [hgm]; exact hns3, by simp (disch := omega)⟩
        · rw [if_neg hle, e1] at hgm
          simp (disch := omega) [hle, -getElem?_pos]
          refine wS_add0 (u := .sl H.length 0 1 1 1) (r := [(k : Int)]) hns (.inr ⟨H.length, 1, 1, [], rfl, Nat.zero_le _, rfl, by simp, rfl, Nat.le_refl _⟩) (by intro b hb; cases hb; exact Nat.le_refl _) rfl rfl (by simp; omega) (by omega) ?_
          intro d' H' hns'
          simp (disch := omega) [wrap64]
          exact Rnd_of (m' := n - (k + 1)) (by omega) ⟨k + 1, d', _, by omega, rfl, by rw [hgm]; exact hns', by simp (disch := omega)⟩
    · rw [hg] at hk1
      have hk2 : keptL o (k + 1) = keptL o k := hk1
      simp (disch := omega) [htn, hltI, hz, hG, hg, wrap64, -getElem?_pos]
      exact Rnd_of (m' := n - (k + 1)) (by omega) ⟨k + 1, w, vs, by omega, rfl, by rw [hk2]; exact hns, by simp (disch := omega)⟩
  · obtain rfl : k = n := by omega
    have hltI : ¬ (k : Int) < k := by omega
    have hfl := grp_flat lv (keptL o k) (keptL o k).length (Nat.le_refl _)
    rw [List.take_length] at hfl
    have hall := grp_all lv (keptL o k) (keptL o k).length
    have hKp := keptL_mem o k
    have hKa := keptL_asc o k
    have hF := seqsS_F (lv := lv) (Mc_ok o) hon
    have hfi := fun {j j' : Nat} (hj : j < (grp lv (keptL o k) (keptL o k).length).length) (hj' : j' < (grp lv (keptL o k) (keptL o k).length).length) => fol_inj (o := o) (M := Mc o) (rs := grp lv (keptL o k) (keptL o k).length) (Mc_ok o) (by rw [hfl]; exact hKa) (by rw [hfl]; intro x hx; have := hKp x hx; omega) hj hj'
    have hss : seqsS o (Mc o) lv k e = sqsU o (fol o (Mc o) (grp lv (keptL o k) (keptL o k).length)) (grp lv (keptL o k) (keptL o k).length) lv (keptL o k) e (grp lv (keptL o k) (keptL o k).length).length := rfl
    rw [hss]
    generalize hrs : grp lv (keptL o k) (keptL o k).length = rs at *
    generalize hFe : fol o (Mc o) rs = F at *
    rw [hnl] at hwl
    simp (disch := omega) [htn, hltI, hwl, -getElem?_pos]
    have hrd : ∀ (i : Nat) (r : List Int), rs[i]? = some r → ∃ b cap J, vs[i]? = some (.sl b 0 r.length cap 1) ∧ r ≠ [] ∧ b < H.length ∧ blockOf H b = some (r.map (V.int .i64) ++ J) := by
      intro i r hr
      have hi := (List.getElem?_eq_some_iff.1 hr).1
      obtain ⟨u, hu⟩ : ∃ u, vs[i]? = some u := ⟨_, List.getElem?_eq_getElem (by omega)⟩
      have hne := hall r (List.mem_of_getElem? hr)
      obtain ⟨b, nn, cap, J, rfl, h1, h2, h3, h4, -⟩ := (hns.inn i u r hu hr).1.pos (by simpa using hne)
      have hn' : nn = r.length := by simp at h3; omega
      subst hn'
      exact ⟨b, cap, J, hu, hne, h2, h4⟩
    have hwr : ∀ (i : Nat) (r : List Int), rs[i]? = some r → ∃ b cap J, w = .sl b 0 rs.length cap 1 ∧ b < H.length ∧ blockOf H b = some (vs ++ J) := by
      intro i r hr
      have hi := (List.getElem?_eq_some_iff.1 hr).1
      obtain ⟨b, nn, cap, J, rfl, h1, h2, h3, h4, -⟩ := hns.out.pos (by intro h; rw [h] at hnl; simp at hnl; omega)
      have hn' : nn = rs.length := by simp at h3; omega
      subst hn'
      exact ⟨b, cap, J, rfl, h2, h4⟩
    have hbg : ∀ (l : List Bool) (i : Nat) (b : Bool), l[i]? = some b → slot (l.map V.bool) i = some (.bool b) := fun l i b h => by rw [slot, List.getElem?_map, h]; rfl
    have hz2 : zerosFor [V.bool false] rs.length = (List.replicate rs.length false).map V.bool := by
      generalize rs.length = N
      induction N with
      | zero => rfl
      | succ N ih => rw [zerosFor, ih]; rfl
    have hfr : ∀ x ∈ rs.flatten, 0 ≤ x ∧ x < k := fun x hx => by rw [hfl] at hx; exact hKp x hx
    have hmb : ∀ us : List Bool, isMap (us.map V.bool) = false := fun us => by cases us <;> rfl
    have hrl2 : rs.length ≤ 2000 := by omega
    rw [hz2]
    clear hwl
    refine wC_loop (fun m fr H' => ∃ (i : Nat) (ov : V) (us : List Bool) (ls : List (V × List Int)), i ≤ rs.length ∧ m = rs.length - i ∧ UA F rs.length i us ∧ ls.map (·.2) = (sqsU o F rs lv (keptL o k) e i).map (·.l) ∧
      Hp H' H ((1, .sl H.length 0 rs.length rs.length 1, us.map V.bool) :: (1, ov, ls.map (·.1)) :: ls.map lso) ∧
      Slots 142 [(0, rl t), (1, il lv), (5, w), (8, .sl H.length 0 rs.length rs.length 1), (9, ov), (10, .int .i64 i)] fr) (m := rs.length) (by omega) ⟨0, .nils, _, [], by omega, by omega, UA.zero F rs.length, rfl, (Hp.start.nil 1).new (hmb _) (by simp) [], by simp⟩ ?_
    rintro m fr H' ⟨i, ov, us, ls, hi, rfl, hUA, hls, hhp, hs⟩
    obtain ⟨j2, rfl⟩ := hs.ex
    clear hs
    have hub : ∀ {Hx : Heap} {us : List Bool} {os : List Own}, Hp Hx H ((1, .sl H.length 0 rs.length rs.length 1, us.map V.bool) :: os) → blockOf Hx H.length = some (us.map V.bool) ∧ us.length = rs.length := by
      intro Hx us os hh
      rcases hh.head with ⟨h1, _⟩ | ⟨b', n', h1, h2, _, h3⟩
      · cases h1
      · cases h1
        exact ⟨h3, by simpa using h2⟩
    have hwl : lenV Try.prog 57 w = some (.int .i64 rs.length) := by
      have := hns.out.len (show Try.prog.underlying 57 = some (.slice 22) by kernel_rfl) (by omega)
      rw [Nat.div_one, hnl] at this
      exact this
    obtain ⟨hbU, hul⟩ := hub hhp
    by_cases hlt2 : i < rs.length
    · obtain ⟨ub, hu⟩ : ∃ ub, us[i]? = some ub := ⟨_, List.getElem?_eq_getElem (by omega)⟩
      have hug := hbg us i ub hu
      have hltJ : (i : Int) < rs.length := by omega
      cases ub
      · obtain ⟨hUB, hcon⟩ := hUA.start hF hlt2 hu
        have hsu : sqsU o F rs lv (keptL o k) e (i + 1) = sqsU o F rs lv (keptL o k) e i ++ [sqOf o F rs lv (keptL o k) e i] := by rw [sqsU, hcon]; rfl
        simp (disch := omega) [hwl, hltJ, hbU, hug, -getElem?_pos]
        obtain ⟨r0, hr0⟩ : ∃ r, rs[i]? = some r := ⟨_, List.getElem?_eq_getElem hlt2⟩
        obtain ⟨cf1, cf2, cf3⟩ := chn_facts hF hfl hall hr0
        generalize hL : chn F rs rs.length i = L at cf1 cf2 cf3
        have hLl := cf1.length_le
        refine wC_loop (fun m fr H'' => ∃ (f : Nat) (jj : Int) (u : V) (l : List Int) (us : List Bool), m = (if 0 ≤ jj then ((rs.length : Int) - jj).toNat else 0) ∧ jj < rs.length ∧ (0 ≤ jj → (rs.length : Int) - jj ≤ f) ∧ l ++ chn F rs f jj = L ∧ (0 ≤ jj → UB F rs.length i jj.toNat us) ∧ (jj < 0 → UA F rs.length (i + 1) us) ∧
          Hp H'' H ((1, .sl H.length 0 rs.length rs.length 1, us.map V.bool) :: (1, u, l.map (V.int .i64)) :: (1, ov, ls.map (·.1)) :: ls.map lso) ∧
          Slots 142 [(0, rl t), (1, il lv), (5, w), (8, .sl H.length 0 rs.length rs.length 1), (9, ov), (10, .int .i64 i), (11, u), (12, .int .i64 jj)] fr) (m := rs.length - i) (by omega) ⟨rs.length, i, .nils, [], us, by rw [if_pos (by omega)]; omega, by omega, fun _ => by omega, by simpa using hL, fun _ => by simpa using hUB, fun h => by omega, (hhp.nil 1).swap, by simp⟩ ?_
        rintro m fr H'' ⟨f, jj, u, l, us, rfl, hj1, hj2, hlL, hB1, hB2, hhp2, hs⟩
        obtain ⟨j3, rfl⟩ := hs.ex
        clear hs
        by_cases hj0 : 0 ≤ jj
        · obtain ⟨q, rfl⟩ : ∃ q : Nat, jj = q := ⟨jj.toNat, by omega⟩
          have hUBq : UB F rs.length i q us := hB1 hj0
          have hq : q < rs.length := by omega
          have hj2' := hj2 hj0
          obtain ⟨f, rfl⟩ : ∃ f', f = f' + 1 := ⟨f - 1, by omega⟩
          obtain ⟨r2, hr2⟩ : ∃ r, rs[q]? = some r := ⟨_, List.getElem?_eq_getElem hq⟩
          rw [chn_step hr2] at hlL
          obtain ⟨b3, cap3, J3, hv3, hrne3, hb3l, hbk3⟩ := hrd q r2 hr2
          obtain ⟨b2, cap2, J2, rfl, hb2l, hbk2⟩ := hwr q r2 hr2
          have hsv3 : slot (vs ++ J2) q = some (.sl b3 0 r2.length cap3 1) := by rw [slot, List.getElem?_append_left (by omega), hv3]
          have hrl3 : 0 < r2.length := List.length_pos_iff.2 hrne3
          obtain ⟨hbU2, hul2⟩ := hub hhp2
          have hst : ∀ X c, c < H.length → blockOf (H''.set H.length X) c = blockOf H c := fun X c hc => by
            rw [blockOf_set_ne' (by omega)]
            exact hhp2.block hc
          have hwB : Cfg.wr ⟨0, none, 0⟩ H.length = true := by simp [Cfg.wr]
          have hqJ : (q : Int) < rs.length := by omega
          have hq1 : q + 1 ≤ us.length := by omega
          simp (disch := omega) [hj0, hq1, hwB, hbU2, hst, hbk2, hbk3, hsv3, -getElem?_pos]
          have hsx : setS (List.map V.bool us) q (V.bool true) = (us.set q true).map V.bool := by simp [setS, List.map_set]
          have htk : List.take r2.length (r2.map (V.int .i64) ++ J3) = r2.map (V.int .i64) := List.take_left' (by simp)
          have hlfm : (∀ x ∈ r2.map (V.int .i64), x.leaf = true) := by
            intro x hx
            obtain ⟨y, _, rfl⟩ := List.mem_map.1 hx
            rfl
          rw [hsx, htk, if_pos hlfm]
          have hll : l.length + r2.length ≤ 2000 := by
            have := congrArg List.length hlL
            simp at this
            omega
          have hhp3 := (hhp2.setO (hmb (us.set q true)) (by simp)).swap
          refine wS_appO hhp3 (Nat.zero_le _) (by simp) (by simp) (by omega) (by omega) (by simp; omega) (by simp; omega) ?_
          intro u' H3 hhp4
          have hhp5 := hhp4.swap
          obtain ⟨hbU3, hul3⟩ := hub hhp5
          have hst3 : ∀ c, c < H.length → blockOf H3 c = blockOf H c := fun c hc => hhp5.block hc
          obtain ⟨z, hz⟩ : ∃ z, r2.getLast? = some z := ⟨_, List.getLast?_eq_some_getLast hrne3⟩
          have hzi : r2[r2.length - 1]? = some z := by rw [← List.getLast?_eq_getElem?]; exact hz
          have hzr := hfr z (List.mem_flatten.2 ⟨r2, List.mem_of_getElem? hr2, List.mem_of_getElem? hzi⟩)
          obtain ⟨z, rfl⟩ : ∃ zn : Nat, z = zn := ⟨z.toNat, by omega⟩
          have hsz := slot_front (k := .i64) (J := J3) hzi
          have hrn1 : ((r2.length : Int) - 1).toNat = r2.length - 1 := by omega
          obtain ⟨tz, htz⟩ : ∃ tz, t[z]? = some tz := ⟨_, List.getElem?_eq_getElem (by omega)⟩
          have hoz := hgt _ _ htz
          have hodz : o.getD (z : Int).toNat 0 = bidi tz := by rw [Int.toNat_natCast, List.getD_eq_getElem?_getD, hoz]; rfl
          simp (disch := omega)
          refine wC_draw 10 (by kernel_rfl) ?_
          simp (disch := omega) [hst3, hbk2, hbk3, hsv3, hsz, hrn1, htz, hB, hI, wrap64, -getElem?_pos]
          have hFq := hF q hq
          cases hix : ini (bidi tz)
          · have hf1 : F q = -1 := by rw [← hFe]; exact fol_no hr2 hz (.inl (by rw [hodz]; exact hix))
            simp (disch := omega)
            refine Rnd_of (m' := 0) (by rw [if_pos hj0]; omega) ⟨f, -1, u', l ++ r2, us.set q true, by rw [if_neg (by omega)], by omega, fun h => by omega, by rw [← hf1, List.append_assoc]; exact hlL, fun h => by omega, fun _ => hUBq.stop hq (by omega), by simpa using hhp5, by simp⟩
          · have hMz := fun cfg h => hMt cfg h z (by omega)
            have hpw : rs.flatten.Pairwise (· < ·) := by rw [hfl]; exact hKa
            have hff := fnd_fol (o := o) (rs := rs) (us := us.set q true) (q := q) hr2 hz (by omega) (by rw [hodz]; exact hix) hall hpw (by
              intro k' hk'
              rw [hFe] at hk'
              exact (hUBq.next hF (fun j j' a b => hfi a b) hq hk').2)
            rw [hFe, Int.toNat_natCast] at hff
            generalize mt o z = mz at hMz hff
            simp (disch := omega) [hMz]
            refine wC_loop (fun m fr Hx => ∃ (kk : Nat), kk ≤ rs.length ∧ m = rs.length - kk ∧ Hx = H3 ∧ (mz < 0 → kk = 0) ∧
              Slots 142 [(0, rl t), (1, il lv), (5, .sl b2 0 rs.length cap2 1), (8, .sl H.length 0 rs.length rs.length 1), (9, ov), (10, .int .i64 i), (11, u'), (12, .int .i64 (fnd rs (us.set q true) mz kk)), (14, .int .i64 mz), (15, .int .i64 kk)] fr) (m := rs.length) (by omega) ⟨0, by omega, by omega, rfl, fun _ => rfl, by simp [fnd]⟩ ?_
            rintro m fr Hx ⟨kk, hkk, rfl, rfl, hm0, hs⟩
            obtain ⟨j4, rfl⟩ := hs.ex
            clear hs
            have hkJ : ∀ x : Nat, (x : Int) ≤ rs.length ↔ x ≤ rs.length := fun x => by omega
            by_cases hc : kk < rs.length ∧ 0 ≤ mz
            · obtain ⟨c1, c2⟩ := hc
              have c1J : (kk : Int) < rs.length := by omega
              obtain ⟨r4, hr4⟩ : ∃ r, rs[kk]? = some r := ⟨_, List.getElem?_eq_getElem c1⟩
              obtain ⟨b4, cap4, J4, hv4, hrne4, hb4l, hbk4⟩ := hrd kk r4 hr4
              have hsv4 : slot (vs ++ J2) kk = some (.sl b4 0 r4.length cap4 1) := by rw [slot, List.getElem?_append_left (by omega), hv4]
              have hrl4 : 0 < r4.length := List.length_pos_iff.2 hrne4
              have hh4 := headD_of hrne4
              have hsh4 := slot_front (k := .i64) (J := J4) hh4
              obtain ⟨ub4, hu4⟩ : ∃ ub, (us.set q true)[kk]? = some ub := ⟨_, List.getElem?_eq_getElem (by simp; omega)⟩
              have hug4 : slot ((us.map V.bool).set q (.bool true)) kk = some (.bool ub4) := by
                have := hbg _ kk ub4 hu4
                rw [List.map_set] at this
                exact this
              have hk1u : kk + 1 ≤ us.length := by omega
              have hkk1 : kk + 1 ≤ rs.length := c1
              have hfs : fnd rs (us.set q true) mz (kk + 1) = if r4.headD 0 = mz ∧ ub4 = false then (kk : Int) else fnd rs (us.set q true) mz kk := by
                rw [fnd, List.getD_eq_getElem?_getD, hr4, List.getD_eq_getElem?_getD, hu4]
                rfl
              simp only [List.headD_eq_head?_getD] at hsh4 hfs
              generalize r4.head?.getD 0 = x4 at hsh4 hfs
              simp (disch := omega) [hwl, c1J, c2, hst3, hbk2, hbk4, hsv4, hsh4, -getElem?_pos]
              by_cases hxm : x4 = mz
              · cases ub4
                · have hfs' : fnd rs (us.set q true) mz (kk + 1) = kk := by rw [hfs, if_pos ⟨hxm, rfl⟩]
                  simp (disch := omega) [hxm, hbU3, hug4, wrap64, -getElem?_pos]
                  exact Rnd_of (m' := rs.length - (kk + 1)) (by omega) ⟨kk + 1, by omega, rfl, rfl, fun h => by omega, by simp (disch := omega) [hfs']⟩
                · have hfs' : fnd rs (us.set q true) mz (kk + 1) = fnd rs (us.set q true) mz kk := by rw [hfs, if_neg (by simp)]
                  simp (disch := omega) [hxm, hbU3, hug4, wrap64, -getElem?_pos]
                  exact Rnd_of (m' := rs.length - (kk + 1)) (by omega) ⟨kk + 1, by omega, rfl, rfl, fun h => by omega, by simp (disch := omega) [hfs']⟩
              · have hfs' : fnd rs (us.set q true) mz (kk + 1) = fnd rs (us.set q true) mz kk := by rw [hfs, if_neg (by simp [hxm])]
                simp (disch := omega) [hxm, wrap64, -getElem?_pos]
                exact Rnd_of (m' := rs.length - (kk + 1)) (by omega) ⟨kk + 1, by omega, rfl, rfl, fun h => by omega, by simp (disch := omega) [hfs']⟩
            · have hfq : fnd rs (us.set q true) mz kk = F q := by
                rw [← hff]
                by_cases c2 : 0 ≤ mz
                · obtain rfl : kk = rs.length := by omega
                  rw [if_pos c2]
                · rw [if_neg c2, hm0 (by omega)]
                  rfl
              have hUBn : 0 ≤ F q → UB F rs.length i (F q).toNat (us.set q true) := fun h0 => (hUBq.next hF (fun j j' a b => hfi a b) hq (k := (F q).toNat) (by omega)).1
              have hUAn : F q < 0 → UA F rs.length (i + 1) (us.set q true) := fun h0 => hUBq.stop hq h0
              have hmm : (if 0 ≤ F q then ((rs.length : Int) - F q).toNat else 0) < if 0 ≤ (q : Int) then ((rs.length : Int) - q).toNat else 0 := by
                rw [if_pos hj0]
                split <;> omega
              have hlL' : l ++ r2 ++ chn F rs f (F q) = L := by rw [List.append_assoc]; exact hlL
              by_cases c1 : (kk : Int) < rs.length
              · have c2 : ¬ 0 ≤ mz := by omega
                simp (disch := omega) [hwl, c1, c2, hfq, -getElem?_pos]
                exact Rnd_of (m' := if 0 ≤ F q then ((rs.length : Int) - F q).toNat else 0) hmm ⟨f, F q, u', l ++ r2, us.set q true, rfl, by omega, fun _ => by omega, hlL', hUBn, hUAn, by simpa using hhp5, by simp⟩
              · simp (disch := omega) [hwl, c1, hfq, -getElem?_pos]
                exact Rnd_of (m' := if 0 ≤ F q then ((rs.length : Int) - F q).toNat else 0) hmm ⟨f, F q, u', l ++ r2, us.set q true, rfl, by omega, fun _ => by omega, hlL', hUBn, hUAn, by simpa using hhp5, by simp⟩
        · have hjn : jj < 0 := by omega
          rw [chn_neg hjn, List.append_nil] at hlL
          subst hlL
          simp (disch := omega) [hj0, -getElem?_pos]
          have hcu := hhp2.snd.cells
          have hmu : isMap [u] = false := by rcases hhp2.snd with ⟨h, _⟩ | ⟨_, _, h, _⟩ <;> rw [h] <;> rfl
          have hlsl : ls.length ≤ i := by
            have h1 := congrArg List.length hls
            have h2 := sqsU_len o F rs lv (keptL o k) e i
            rw [List.length_map, List.length_map] at h1
            omega
          have hp3 := (hhp2.push [some [u]]).perm (pq1 _ _ _ _)
          simp (disch := omega) [hcu, hmu, hhp2.snd.leaf]
          refine wS_appO (m := 1) hp3 (Nat.zero_le _) rfl hmu (by omega) (by omega) (by simp; omega) (by simp; omega) ?_
          intro ov' H3 hhp6
          simp (disch := omega) [wrap64]
          refine Rnd_of (m' := rs.length - (i + 1)) (by omega) ⟨i + 1, ov', us, ls ++ [(u, l)], by omega, rfl, hB2 hjn, by rw [hsu, List.map_append, List.map_append, hls]; congr 1; rw [← hL]; rfl, ?_, by simp (disch := omega)⟩
          have := hhp6.swap
          simpa using this
      · obtain ⟨hUA', hcon⟩ := hUA.skip hu
        have hsu : sqsU o F rs lv (keptL o k) e (i + 1) = sqsU o F rs lv (keptL o k) e i := by rw [sqsU, hcon]; rfl
        simp (disch := omega) [hwl, hltJ, hbU, hug, wrap64, -getElem?_pos]
        exact Rnd_of (m' := rs.length - (i + 1)) (by omega) ⟨i + 1, ov, us, ls, by omega, rfl, hUA', by rw [hsu]; exact hls, hhp, by simp (disch := omega)⟩
    · obtain rfl : i = rs.length := by omega
      have hltJ : ¬ (rs.length : Int) < rs.length := by omega
      simp (disch := omega) [hwl, hltJ, -getElem?_pos]
      obtain ⟨q1, q2⟩ := frz_ls (n := 0) hhp.tail (Nat.zero_le _)
      refine ⟨q2, ?_⟩
      rw [q1]
      have e1 : (ls.map fun s => [il s.2]) = (ls.map (·.2)).map fun l => [il l] := by rw [List.map_map]; rfl
      rw [e1, hls, List.map_map]
      rfl
end
end Bi
end Go.Ab
/- The reference: explicit levels. -/
namespace Go.Ab
open Go.Proofs
namespace Bi
/-- What holds of the two lists before rune i (classes are written rune by rune). -/
structure EI2 (e : Int) (o : List Int) (i : Nat) (c lv : List Int) (s : ES) : Prop where
  w : EW e i s
  cl : c.length = o.length
  ll : lv.length = o.length
  ct : ∀ j, j < i → c[j]? = ((expl e o)[j]?).map (·.2)
  lt : ∀ j, j < i → lv[j]? = ((expl e o)[j]?).map (·.1)
  rest : ∀ k, (expl e o)[i + k]? = (exGo e (o.drop i) s)[k]?
theorem EI2.zero {e : Int} {o c lv : List Int} (he : 0 ≤ e ∧ e ≤ 1) (hc : c.length = o.length) (hl : lv.length = o.length) : EI2 e o 0 c lv (es0 e) :=
  ⟨EW.zero he, hc, hl, fun j hj => by omega, fun j hj => by omega, fun k => by simp [expl]⟩
theorem EI2.step {e : Int} {o c lv : List Int} {i : Nat} {s : ES} {x : Int} (h : EI2 e o i c lv s) (hx : o[i]? = some x) {l1 c1 : Int} {s' : ES} (hst : exStep e x (oddI x (o.drop (i + 1))) s = (l1, c1, s')) :
    EI2 e o (i + 1) (c.set i c1) (lv.set i l1) s' := by
  have hil := (List.getElem?_eq_some_iff.1 hx).1
  have hcl := h.cl
  have hll := h.ll
  have hr : exGo e (o.drop i) s = (l1, c1) :: exGo e (o.drop (i + 1)) s' := by rw [drop_at hx, exGo, hst]
  have h0 := h.rest 0
  rw [hr] at h0
  simp at h0
  refine ⟨?_, by simpa using hcl, by simpa using hll, fun j hj => ?_, fun j hj => ?_, fun k => ?_⟩
  · have := h.w.step x (oddI x (o.drop (i + 1)))
    rw [hst] at this
    exact this
  · by_cases e1 : i = j
    · subst e1; rw [List.getElem?_set_self (by omega), h0]; rfl
    · rw [List.getElem?_set_ne e1, h.ct j (by omega)]
  · by_cases e1 : i = j
    · subst e1; rw [List.getElem?_set_self (by omega), h0]; rfl
    · rw [List.getElem?_set_ne e1, h.lt j (by omega)]
  · have := h.rest (k + 1)
    rw [hr] at this
    rw [show i + 1 + k = i + (k + 1) by omega, this]
    simp
theorem EI2.fin {e : Int} {o c lv : List Int} {s : ES} (h : EI2 e o o.length c lv s) : c = (expl e o).map (·.2) ∧ lv = (expl e o).map (·.1) := by
  have hcl := h.cl
  have hll := h.ll
  have hel := expl_len e o
  constructor
  · apply List.ext_getElem?
    intro j
    by_cases hj : j < o.length
    · rw [h.ct j hj, List.getElem?_map]
    · rw [List.getElem?_eq_none (by omega), List.getElem?_eq_none (by simp; omega)]
  · apply List.ext_getElem?
    intro j
    by_cases hj : j < o.length
    · rw [h.lt j hj, List.getElem?_map]
    · rw [List.getElem?_eq_none (by omega), List.getElem?_eq_none (by simp; omega)]
theorem zeros0 : ∀ n : Nat, zerosFor [V.int .i64 0] n = List.replicate n (V.int .i64 0)
  | 0 => rfl
  | n + 1 => by rw [zerosFor, zeros0 n]; rfl
theorem lit2 {h : Heap} {a0 a1 : Option (List V)} (ht : h.take 2 = [a0, a1]) : ∃ T, h = a0 :: a1 :: T := by
  rcases h with _ | ⟨b0, _ | ⟨b1, T⟩⟩ <;> simp at ht
  obtain ⟨rfl, rfl⟩ := ht
  exact ⟨T, rfl⟩
section
variable {P : Program} {md' : FuncId → Nat} {call : Callf}
theorem wS_push2 {dst : Option Tmp} {fr : List V} {ops : Array Oper} {rest : List Oper} {Q : KontO} {y1 y2 : Option (List V)} {v : V} {T : Heap} {st : List Ent} {N O : Int} {I : Bool} {y : Nat}
    (ho : Stk (y1 :: y2 :: T) 2 3 v (encE st)) (hl : st.length ≤ 4000) (hy : y ≤ 100)
    (H : ∀ d' T', Stk (y1 :: y2 :: T') 2 3 d' (encE ((N, O, I) :: st)) → @wO P md' call ⟨0, none, 0⟩ ⟨ops⟩ ⟨rest⟩ (put fr dst d') (y1 :: y2 :: T') ⟨Q⟩) :
    @wS P md' call ⟨0, none, 0⟩ ⟨dst⟩ ⟨fr⟩ (appD ⟨0, none, 0⟩ (y1 :: y2 :: T) 3 y v 1 [.int .i64 N, .int .i64 O, .bool I]) ⟨ops⟩ ⟨rest⟩ ⟨Q⟩ := by
  have hsz : (st.length + 1) * y ≤ 1099511627776 := by
    have : (st.length + 1) * y ≤ 4001 * 100 := Nat.mul_le_mul (by omega) hy
    omega
  refine wS_appP (lo := 2) (cs := encE st) ho (by simp) (by simp) (by simp) rfl rfl (by omega) (by rw [encE_len, Nat.mul_div_cancel _ (by omega)]; exact hsz) (by rw [encE_len, Nat.mul_div_cancel _ (by omega)]; omega) ?_
  intro d' h' hst' hd' htk hlen' hot hb
  obtain ⟨T', rfl⟩ := lit2 (a0 := y1) (a1 := y2) (by rw [htk]; rfl)
  exact H d' T' (by rw [encE_cons]; exact hst')
end
section
variable {prim : FuncId → Option Prim} (d : Nat)
set_option maxRecDepth 100000 in
set_option maxHeartbeats 8000000 in
theorem rexplicit_ok (hp : prim 39 = none) (h71 : prim 71 = none) (h47 : prim 47 = none) (h63 : prim 63 = none) (h64 : prim 64 = none) (h65 : prim 65 = none) (h38 : prim 38 = none) (t : List Int) (n : Nat) (hn : t.length = n) (hn2 : n ≤ 2000) (e : Int) (he : 0 ≤ e ∧ e ≤ 1) :
    ∃ T, callM md (K prim (d + 5)) ⟨0, none, 0⟩ 39 [rl t, .int .i64 e] [] = some (.tup [.sl 0 0 n n 1, .sl 1 0 n n 1], some (((expl e (t.map bidi)).map (·.1)).map (V.int .i64)) :: some (((expl e (t.map bidi)).map (·.2)).map (V.int .i64)) :: T) := by
  suffices HH : ∃ r h2, callM md (K prim (d + 5)) ⟨0, none, 0⟩ 39 [rl t, .int .i64 e] [] = some (r, h2) ∧ ∃ T, r = .tup [.sl 0 0 n n 1, .sl 1 0 n n 1] ∧ h2 = some (((expl e (t.map bidi)).map (·.1)).map (V.int .i64)) :: some (((expl e (t.map bidi)).map (·.2)).map (V.int .i64)) :: T by
    obtain ⟨r, h2, h3, T, rfl, rfl⟩ := HH
    exact ⟨T, h3⟩
  refine call2x rfl hp Try.func39 rfl rfl rfl ?_
  have hB := fun cfg h r => rbidi_ok (prim := prim) (d + 2) cfg h h71 h47 r
  have hI := fun cfg h x => rini_ok (prim := prim) (d + 3) cfg h h63 x
  have hU := fun cfg h m hm odd => rup_ok (prim := prim) (d + 3) cfg h h65 m hm odd
  have hMt := fun cfg h i hi => rmatch_ok (prim := prim) (d + 1) cfg h h64 h63 h71 h47 t (by omega) i hi
  have hBs := fun cfg h t' ht' => rbase_ok (prim := prim) d cfg h h38 h64 h63 h71 h47 t' ht' (-1) (args := [rl t', .int .i64 (-1)]) rfl
  have hgt : ∀ (j : Nat) (z : Int), t[j]? = some z → (t.map bidi)[j]? = some (bidi z) := fun j z hz => by rw [List.getElem?_map, hz]; rfl
  have hon : (t.map bidi).length = n := by simpa using hn
  have hmd : ∀ a b : Nat, (t.map bidi).drop a = (t.drop a).map bidi ∧ ((t.map bidi).drop a).take b = ((t.drop a).take b).map bidi := fun a b => by simp [List.map_drop, List.map_take]
  generalize t.map bidi = o at *
  simp (disch := omega) [hn]
  refine wC_loop (fun m fr H => ∃ (i : Nat) (c lv : List Int) (s : ES) (v : V) (T : Heap), i ≤ n ∧ m = n - i ∧ EI2 e o i c lv s ∧
    H = some (lv.map (V.int .i64)) :: some (c.map (V.int .i64)) :: T ∧ Stk H 2 3 v (encE s.st) ∧
    Slots 249 [(0, rl t), (1, .int .i64 e), (6, .sl 0 0 n n 1), (7, .sl 1 0 n n 1), (8, v), (9, .int .i64 s.iso), (10, .int .i64 s.emb), (11, .int .i64 s.val), (12, .int .i64 i)] fr) (m := n) (by omega)
    ⟨0, List.replicate n 0, List.replicate n 0, es0 e, .sl 2 0 1 1 3, [some [.int .i64 e, .int .i64 (-1), .bool false]], by omega, by omega, EI2.zero he (by simpa using hon.symm) (by simpa using hon.symm), by simp [zeros0], .inr ⟨2, 1, 1, [], rfl, by omega, rfl, by simp [blockOf, encE, es0, isMap], rfl, by omega⟩, by simp [es0]⟩ ?_
  rintro m fr H ⟨i, c, lv, s, v, T, hi, rfl, hEI, rfl, hst, hs⟩
  obtain ⟨j, rfl⟩ := hs.ex
  clear hs
  obtain ⟨a, r, hsr⟩ := hEI.w.cons
  have hcl := hEI.cl
  have hll := hEI.ll
  rw [hon] at hcl hll
  by_cases hlt : i < n
  · have hltI : (i : Int) < n := by omega
    obtain ⟨z, hz⟩ : ∃ z, t[i]? = some z := ⟨_, List.getElem?_eq_getElem (by omega)⟩
    have hx := hgt i z hz
    rw [hsr] at hst
    obtain ⟨b, q, cap, J, rfl, hb2, hbl, hq, hbk, hcap, hqc⟩ := hst.pos (by simp [encE_cons])
    obtain rfl : q = r.length + 1 := by rw [encE_len] at hq; simp at hq; omega
    have hbl' : b < T.length + 1 + 1 := by simpa using hbl
    have hbx : ∀ (y1 y2 : Option (List V)) (T' : Heap), blockOf (y1 :: y2 :: (T ++ T')) b = some (encE (a :: r) ++ J) := by
      intro y1 y2 T'
      have h1 := blockOf_left (r := T') hbl
      rw [hbk] at h1
      rw [← h1]
      obtain ⟨b', rfl⟩ : ∃ b', b = b' + 2 := ⟨b - 2, by omega⟩
      simp
    have hbx0 : ∀ (y1 y2 : Option (List V)), blockOf (y1 :: y2 :: T) b = some (encE (a :: r) ++ J) := fun y1 y2 => by simpa using hbx y1 y2 []
    have hw := hEI.w
    have hwl := hw.len
    rw [hsr] at hwl
    simp at hwl
    have hge := encE_ge a r J
    have hal := encE_all a r J
    have hle : i + 1 ≤ lv.length := by omega
    have hle2 : i + 1 ≤ n := by omega
    have ha := hw.rng a (by rw [hsr]; exact List.mem_cons_self ..)
    have hstk : ∀ (y1 y2 : Option (List V)) (T' : Heap), Stk (y1 :: y2 :: (T ++ T')) 2 3 (.sl b 0 (r.length + 1) cap 3) (encE (a :: r)) := fun y1 y2 T' =>
      .inr ⟨b, _, cap, J, rfl, hb2, hq, hbx y1 y2 T', hcap, hqc⟩
    have htop : topE s.st = a := by rw [hsr]; rfl
    have hrl : ((r.length : Int) + 1 - 1).toNat = r.length := by omega
    have bL : ∀ (y1 y2 : Option (List V)) (Y : List V) (T' : Heap), isMap Y = false → blockOf (y1 :: y2 :: (T ++ some Y :: T')) (T.length + 1 + 1) = some Y := fun y1 y2 Y T' hY => by
      have := blockOf_len_add (h := T) (r := some Y :: T') (k := 0)
      simp [hY]
    have bL2 : ∀ (y1 y2 : Option (List V)) (Y : List V), isMap Y = false → blockOf (y1 :: y2 :: (T ++ [some Y])) (T.length + 1 + 1) = some Y := fun y1 y2 Y hY => bL y1 y2 Y [] hY
    have hbN : ∀ (y1 y2 Y : Option (List V)) (Z : List V) (T' : Heap), isMap Z = false → blockOf (y1 :: y2 :: (T ++ Y :: some Z :: T')) (T.length + 1 + 1 + 1) = some Z := fun y1 y2 Y Z T' hZ => by
      have := blockOf_len_add (h := T) (r := Y :: some Z :: T') (k := 1)
      simp [hZ] at this ⊢
    generalize hxe : bidi z = x at *
    simp (disch := omega) [hn, hltI, hz, hB, hxe, hbx0, hcl, hll, hle2, hge, hal, wrap64, -getElem?_pos]
    by_cases h16 : x = 16
    · subst h16
      have hN := fun cfg H => hU cfg H a.1 (by omega) true
      have hs' : ∀ s', (if nxt a.1 true ≤ 125 ∧ s.iso = 0 ∧ s.emb = 0 then { s with st := (nxt a.1 true, -1, false) :: s.st } else if s.iso = 0 then { s with emb := s.emb + 1 } else s) = s' → exStep e 16 (oddI 16 (o.drop (i + 1))) s = (a.1, 16, s') := by
        rintro s' rfl
        simp [exStep, htop, ovOf]
      generalize nxt a.1 true = N at hN hs'
      have hie := hw.iso
      have hee := hw.emb
      by_cases k2 : s.iso = 0
      · by_cases k13 : N ≤ 125 ∧ s.emb = 0
        · obtain ⟨k1, k3⟩ := k13
          have hE := hEI.step hx (hs' _ (by rw [if_pos ⟨k1, k2, k3⟩]))
          rw [hsr] at hE
          simp (disch := omega) [hN, k1, k2, k3, -getElem?_pos]
          refine wS_push2 (st := a :: r) (hstk _ _ _) (by simp; omega) (by omega) ?_
          intro d' T' hd'
          simp (disch := omega) [wrap64]
          exact Rnd_of (m' := n - (i + 1)) (by omega) ⟨i + 1, _, _, _, d', T', by omega, rfl, hE, by simp [List.map_set], hd', by simp [k2, k3]⟩
        · have hE := hEI.step hx (hs' _ (by rw [if_neg (fun h => k13 ⟨h.1, h.2.2⟩), if_pos k2]))
          by_cases k1 : N ≤ 125
          · have k3 : ¬ s.emb = 0 := fun h => k13 ⟨k1, h⟩
            simp (disch := omega) [hN, k1, k2, k3, wrap64, -getElem?_pos]
            exact Rnd_of (m' := n - (i + 1)) (by omega) ⟨i + 1, _, _, _, .sl b 0 (r.length + 1) cap 3, T ++ [some [.int .i64 a.1, .int .i64 a.2.1, .bool a.2.2]], by omega, rfl, hE, by simp [List.map_set], by first | exact hstk _ _ _ | (rw [hsr]; exact hstk _ _ _), by simp (disch := omega) [k2]⟩
          · simp (disch := omega) [hN, k1, k2, wrap64, -getElem?_pos]
            exact Rnd_of (m' := n - (i + 1)) (by omega) ⟨i + 1, _, _, _, .sl b 0 (r.length + 1) cap 3, T ++ [some [.int .i64 a.1, .int .i64 a.2.1, .bool a.2.2]], by omega, rfl, hE, by simp [List.map_set], by first | exact hstk _ _ _ | (rw [hsr]; exact hstk _ _ _), by simp (disch := omega) [k2]⟩
      · have hE := hEI.step hx (hs' _ (by rw [if_neg (fun h => k2 h.2.1), if_neg k2]))
        by_cases k1 : N ≤ 125
        · simp (disch := omega) [hN, k1, k2, wrap64, -getElem?_pos]
          exact Rnd_of (m' := n - (i + 1)) (by omega) ⟨i + 1, _, _, s, .sl b 0 (r.length + 1) cap 3, T ++ [some [.int .i64 a.1, .int .i64 a.2.1, .bool a.2.2]], by omega, rfl, hE, by simp [List.map_set], by first | exact hstk _ _ _ | (rw [hsr]; exact hstk _ _ _), by simp (disch := omega); try omega⟩
        · simp (disch := omega) [hN, k1, k2, wrap64, -getElem?_pos]
          exact Rnd_of (m' := n - (i + 1)) (by omega) ⟨i + 1, _, _, s, .sl b 0 (r.length + 1) cap 3, T ++ [some [.int .i64 a.1, .int .i64 a.2.1, .bool a.2.2]], by omega, rfl, hE, by simp [List.map_set], by first | exact hstk _ _ _ | (rw [hsr]; exact hstk _ _ _), by simp (disch := omega); try omega⟩
    · by_cases h14 : x = 14
      · subst h14
        have hN := fun cfg H => hU cfg H a.1 (by omega) false
        have hs' : ∀ s', (if nxt a.1 false ≤ 125 ∧ s.iso = 0 ∧ s.emb = 0 then { s with st := (nxt a.1 false, -1, false) :: s.st } else if s.iso = 0 then { s with emb := s.emb + 1 } else s) = s' → exStep e 14 (oddI 14 (o.drop (i + 1))) s = (a.1, 14, s') := by
          rintro s' rfl
          simp [exStep, htop, ovOf]
        generalize nxt a.1 false = N at hN hs'
        have hie := hw.iso
        have hee := hw.emb
        by_cases k2 : s.iso = 0
        · by_cases k13 : N ≤ 125 ∧ s.emb = 0
          · obtain ⟨k1, k3⟩ := k13
            have hE := hEI.step hx (hs' _ (by rw [if_pos ⟨k1, k2, k3⟩]))
            rw [hsr] at hE
            simp (disch := omega) [hN, k1, k2, k3, -getElem?_pos]
            refine wS_push2 (st := a :: r) (hstk _ _ _) (by simp; omega) (by omega) ?_
            intro d' T' hd'
            simp (disch := omega) [wrap64]
            exact Rnd_of (m' := n - (i + 1)) (by omega) ⟨i + 1, _, _, _, d', T', by omega, rfl, hE, by simp [List.map_set], hd', by simp [k2, k3]⟩
          · have hE := hEI.step hx (hs' _ (by rw [if_neg (fun h => k13 ⟨h.1, h.2.2⟩), if_pos k2]))
            by_cases k1 : N ≤ 125
            · have k3 : ¬ s.emb = 0 := fun h => k13 ⟨k1, h⟩
              simp (disch := omega) [hN, k1, k2, k3, wrap64, -getElem?_pos]
              exact Rnd_of (m' := n - (i + 1)) (by omega) ⟨i + 1, _, _, _, .sl b 0 (r.length + 1) cap 3, T ++ [some [.int .i64 a.1, .int .i64 a.2.1, .bool a.2.2]], by omega, rfl, hE, by simp [List.map_set], by first | exact hstk _ _ _ | (rw [hsr]; exact hstk _ _ _), by simp (disch := omega) [k2]⟩
            · simp (disch := omega) [hN, k1, k2, wrap64, -getElem?_pos]
              exact Rnd_of (m' := n - (i + 1)) (by omega) ⟨i + 1, _, _, _, .sl b 0 (r.length + 1) cap 3, T ++ [some [.int .i64 a.1, .int .i64 a.2.1, .bool a.2.2]], by omega, rfl, hE, by simp [List.map_set], by first | exact hstk _ _ _ | (rw [hsr]; exact hstk _ _ _), by simp (disch := omega) [k2]⟩
        · have hE := hEI.step hx (hs' _ (by rw [if_neg (fun h => k2 h.2.1), if_neg k2]))
          by_cases k1 : N ≤ 125
          · simp (disch := omega) [hN, k1, k2, wrap64, -getElem?_pos]
            exact Rnd_of (m' := n - (i + 1)) (by omega) ⟨i + 1, _, _, s, .sl b 0 (r.length + 1) cap 3, T ++ [some [.int .i64 a.1, .int .i64 a.2.1, .bool a.2.2]], by omega, rfl, hE, by simp [List.map_set], by first | exact hstk _ _ _ | (rw [hsr]; exact hstk _ _ _), by simp (disch := omega); try omega⟩
          · simp (disch := omega) [hN, k1, k2, wrap64, -getElem?_pos]
            exact Rnd_of (m' := n - (i + 1)) (by omega) ⟨i + 1, _, _, s, .sl b 0 (r.length + 1) cap 3, T ++ [some [.int .i64 a.1, .int .i64 a.2.1, .bool a.2.2]], by omega, rfl, hE, by simp [List.map_set], by first | exact hstk _ _ _ | (rw [hsr]; exact hstk _ _ _), by simp (disch := omega); try omega⟩
      · by_cases h17 : x = 17
        · subst h17
          have hN := fun cfg H => hU cfg H a.1 (by omega) true
          have hs' : ∀ s', (if nxt a.1 true ≤ 125 ∧ s.iso = 0 ∧ s.emb = 0 then { s with st := (nxt a.1 true, 1, false) :: s.st } else if s.iso = 0 then { s with emb := s.emb + 1 } else s) = s' → exStep e 17 (oddI 17 (o.drop (i + 1))) s = (a.1, 17, s') := by
            rintro s' rfl
            simp [exStep, htop, ovOf]
          generalize nxt a.1 true = N at hN hs'
          have hie := hw.iso
          have hee := hw.emb
          by_cases k2 : s.iso = 0
          · by_cases k13 : N ≤ 125 ∧ s.emb = 0
            · obtain ⟨k1, k3⟩ := k13
              have hE := hEI.step hx (hs' _ (by rw [if_pos ⟨k1, k2, k3⟩]))
              rw [hsr] at hE
              simp (disch := omega) [hN, k1, k2, k3, -getElem?_pos]
              refine wS_push2 (st := a :: r) (hstk _ _ _) (by simp; omega) (by omega) ?_
              intro d' T' hd'
              simp (disch := omega) [wrap64]
              exact Rnd_of (m' := n - (i + 1)) (by omega) ⟨i + 1, _, _, _, d', T', by omega, rfl, hE, by simp [List.map_set], hd', by simp [k2, k3]⟩
            · have hE := hEI.step hx (hs' _ (by rw [if_neg (fun h => k13 ⟨h.1, h.2.2⟩), if_pos k2]))
              by_cases k1 : N ≤ 125
              · have k3 : ¬ s.emb = 0 := fun h => k13 ⟨k1, h⟩
                simp (disch := omega) [hN, k1, k2, k3, wrap64, -getElem?_pos]
                exact Rnd_of (m' := n - (i + 1)) (by omega) ⟨i + 1, _, _, _, .sl b 0 (r.length + 1) cap 3, T ++ [some [.int .i64 a.1, .int .i64 a.2.1, .bool a.2.2]], by omega, rfl, hE, by simp [List.map_set], by first | exact hstk _ _ _ | (rw [hsr]; exact hstk _ _ _), by simp (disch := omega) [k2]⟩
              · simp (disch := omega) [hN, k1, k2, wrap64, -getElem?_pos]
                exact Rnd_of (m' := n - (i + 1)) (by omega) ⟨i + 1, _, _, _, .sl b 0 (r.length + 1) cap 3, T ++ [some [.int .i64 a.1, .int .i64 a.2.1, .bool a.2.2]], by omega, rfl, hE, by simp [List.map_set], by first | exact hstk _ _ _ | (rw [hsr]; exact hstk _ _ _), by simp (disch := omega) [k2]⟩
          · have hE := hEI.step hx (hs' _ (by rw [if_neg (fun h => k2 h.2.1), if_neg k2]))
            by_cases k1 : N ≤ 125
            · simp (disch := omega) [hN, k1, k2, wrap64, -getElem?_pos]
              exact Rnd_of (m' := n - (i + 1)) (by omega) ⟨i + 1, _, _, s, .sl b 0 (r.length + 1) cap 3, T ++ [some [.int .i64 a.1, .int .i64 a.2.1, .bool a.2.2]], by omega, rfl, hE, by simp [List.map_set], by first | exact hstk _ _ _ | (rw [hsr]; exact hstk _ _ _), by simp (disch := omega); try omega⟩
            · simp (disch := omega) [hN, k1, k2, wrap64, -getElem?_pos]
              exact Rnd_of (m' := n - (i + 1)) (by omega) ⟨i + 1, _, _, s, .sl b 0 (r.length + 1) cap 3, T ++ [some [.int .i64 a.1, .int .i64 a.2.1, .bool a.2.2]], by omega, rfl, hE, by simp [List.map_set], by first | exact hstk _ _ _ | (rw [hsr]; exact hstk _ _ _), by simp (disch := omega); try omega⟩
        · by_cases h15 : x = 15
          · subst h15
            have hN := fun cfg H => hU cfg H a.1 (by omega) false
            have hs' : ∀ s', (if nxt a.1 false ≤ 125 ∧ s.iso = 0 ∧ s.emb = 0 then { s with st := (nxt a.1 false, 0, false) :: s.st } else if s.iso = 0 then { s with emb := s.emb + 1 } else s) = s' → exStep e 15 (oddI 15 (o.drop (i + 1))) s = (a.1, 15, s') := by
              rintro s' rfl
              simp [exStep, htop, ovOf]
            generalize nxt a.1 false = N at hN hs'
            have hie := hw.iso
            have hee := hw.emb
            by_cases k2 : s.iso = 0
            · by_cases k13 : N ≤ 125 ∧ s.emb = 0
              · obtain ⟨k1, k3⟩ := k13
                have hE := hEI.step hx (hs' _ (by rw [if_pos ⟨k1, k2, k3⟩]))
                rw [hsr] at hE
                simp (disch := omega) [hN, k1, k2, k3, -getElem?_pos]
                refine wS_push2 (st := a :: r) (hstk _ _ _) (by simp; omega) (by omega) ?_
                intro d' T' hd'
                simp (disch := omega) [wrap64]
                exact Rnd_of (m' := n - (i + 1)) (by omega) ⟨i + 1, _, _, _, d', T', by omega, rfl, hE, by simp [List.map_set], hd', by simp [k2, k3]⟩
              · have hE := hEI.step hx (hs' _ (by rw [if_neg (fun h => k13 ⟨h.1, h.2.2⟩), if_pos k2]))
                by_cases k1 : N ≤ 125
                · have k3 : ¬ s.emb = 0 := fun h => k13 ⟨k1, h⟩
                  simp (disch := omega) [hN, k1, k2, k3, wrap64, -getElem?_pos]
                  exact Rnd_of (m' := n - (i + 1)) (by omega) ⟨i + 1, _, _, _, .sl b 0 (r.length + 1) cap 3, T ++ [some [.int .i64 a.1, .int .i64 a.2.1, .bool a.2.2]], by omega, rfl, hE, by simp [List.map_set], by first | exact hstk _ _ _ | (rw [hsr]; exact hstk _ _ _), by simp (disch := omega) [k2]⟩
                · simp (disch := omega) [hN, k1, k2, wrap64, -getElem?_pos]
                  exact Rnd_of (m' := n - (i + 1)) (by omega) ⟨i + 1, _, _, _, .sl b 0 (r.length + 1) cap 3, T ++ [some [.int .i64 a.1, .int .i64 a.2.1, .bool a.2.2]], by omega, rfl, hE, by simp [List.map_set], by first | exact hstk _ _ _ | (rw [hsr]; exact hstk _ _ _), by simp (disch := omega) [k2]⟩
            · have hE := hEI.step hx (hs' _ (by rw [if_neg (fun h => k2 h.2.1), if_neg k2]))
              by_cases k1 : N ≤ 125
              · simp (disch := omega) [hN, k1, k2, wrap64, -getElem?_pos]
                exact Rnd_of (m' := n - (i + 1)) (by omega) ⟨i + 1, _, _, s, .sl b 0 (r.length + 1) cap 3, T ++ [some [.int .i64 a.1, .int .i64 a.2.1, .bool a.2.2]], by omega, rfl, hE, by simp [List.map_set], by first | exact hstk _ _ _ | (rw [hsr]; exact hstk _ _ _), by simp (disch := omega); try omega⟩
              · simp (disch := omega) [hN, k1, k2, wrap64, -getElem?_pos]
                exact Rnd_of (m' := n - (i + 1)) (by omega) ⟨i + 1, _, _, s, .sl b 0 (r.length + 1) cap 3, T ++ [some [.int .i64 a.1, .int .i64 a.2.1, .bool a.2.2]], by omega, rfl, hE, by simp [List.map_set], by first | exact hstk _ _ _ | (rw [hsr]; exact hstk _ _ _), by simp (disch := omega); try omega⟩
          · have hem : ¬ (x = 16 ∨ x = 14 ∨ x = 17 ∨ x = 15) := by omega
            cases hix : ini x
            · by_cases h22 : x = 22
              · subst h22
                have hst22 : ∀ s', (if 0 < s.iso then { s with iso := s.iso - 1 } else if 0 < s.val then { s with st := popI s.st, emb := 0, val := s.val - 1 } else s) = s' → exStep e 22 (oddI 22 (o.drop (i + 1))) s = ((topE s'.st).1, ovr (topE s'.st).2.1 22, s') := by
                  rintro s' rfl
                  simp [exStep, ini]
                have hiw := hw.iso
                by_cases k1 : 0 < s.iso
                · have hE := hEI.step hx (hst22 _ (by rw [if_pos k1]))
                  simp only [htop] at hE
                  by_cases ko : 0 ≤ a.2.1
                  · rw [show ovr a.2.1 22 = a.2.1 from if_pos ko] at hE
                    simp (disch := omega) [hI, ini, ko, k1, hcl, hll, hle2, hbx, hge, hal, wrap64, -getElem?_pos]
                    exact Rnd_of (m' := n - (i + 1)) (by omega) ⟨i + 1, _, _, _, .sl b 0 (r.length + 1) cap 3, T ++ [some [.int .i64 a.1, .int .i64 a.2.1, .bool a.2.2]], by omega, rfl, hE, by simp [List.map_set, setS], by first | exact hstk _ _ _ | (rw [hsr]; exact hstk _ _ _), by simp (disch := omega); try omega⟩
                  · rw [show ovr a.2.1 22 = 22 from if_neg ko] at hE
                    simp (disch := omega) [hI, ini, ko, k1, hll, hle2, hbx, hge, hal, wrap64, -getElem?_pos]
                    exact Rnd_of (m' := n - (i + 1)) (by omega) ⟨i + 1, _, _, _, .sl b 0 (r.length + 1) cap 3, T ++ [some [.int .i64 a.1, .int .i64 a.2.1, .bool a.2.2]], by omega, rfl, hE, by simp [List.map_set, setS], by first | exact hstk _ _ _ | (rw [hsr]; exact hstk _ _ _), by simp (disch := omega); try omega⟩
                · by_cases k2 : 0 < s.val
                  · have hE := hEI.step hx (hst22 _ (by rw [if_neg k1, if_pos k2]))
                    have hlast := hw.last
                    have hcnt := hw.cnt
                    obtain ⟨g1, g2, g3, g4⟩ := popI_ok s.st e hlast (by omega)
                    have hvl := hw.val
                    simp (disch := omega) [hI, ini, k1, k2]
                    refine wC_loop (fun m' fr H => ∃ (a' : Ent) (r' : List Ent) (J' : List V), m' = r'.length ∧ encE (a :: r) ++ J = encE (a' :: r') ++ J' ∧ popI s.st = popI (a' :: r') ∧ 0 < ((a' :: r').filter fun a => a.2.2).length ∧ r'.length ≤ r.length ∧
                      H = some ((lv.map (V.int .i64)).set i (.int .i64 a.1)) :: some ((c.map (V.int .i64)).set i (.int .i64 22)) :: (T ++ [some [.int .i64 a.1, .int .i64 a.2.1, .bool a.2.2]]) ∧
                      Slots 249 [(0, rl t), (1, .int .i64 e), (6, .sl 0 0 n n 1), (7, .sl 1 0 n n 1), (8, .sl b 0 (r'.length + 1) cap 3), (9, .int .i64 s.iso), (10, .int .i64 0), (11, .int .i64 s.val), (12, .int .i64 i), (13, .int .i64 22), (14, .ptr (T.length + 1 + 1) 0)] fr) (m := r.length) (by omega)
                      ⟨a, r, J, rfl, rfl, by rw [hsr], by rw [← hsr]; omega, Nat.le_refl _, rfl, by simp⟩ ?_
                    rintro m' fr H ⟨a', r', J', rfl, heq, hpe, hpf, hrr, rfl, hs⟩
                    obtain ⟨j, rfl⟩ := hs.ex
                    clear hs
                    have hbx' : ∀ (y1 y2 : Option (List V)) (T' : Heap), blockOf (y1 :: y2 :: (T ++ T')) b = some (encE (a' :: r') ++ J') := fun y1 y2 T' => by rw [← heq]; exact hbx _ _ _
                    have e2 := encE_2 a' r' J'
                    cases hai : a'.2.2
                    · rw [hai] at e2
                      obtain ⟨a2, r2, rfl⟩ : ∃ a2 r2, r' = a2 :: r2 := by
                        cases r' with
                        | nil => simp [hai] at hpf
                        | cons a2 r2 => exact ⟨a2, r2, rfl⟩
                      have hq2 : encE (a' :: a2 :: r2) ++ J' = encE (a2 :: r2) ++ ([V.int .i64 a'.1, V.int .i64 a'.2.1, V.bool a'.2.2] ++ J') := by rw [encE_cons]; simp
                      simp at hrr
                      simp only [List.length_cons] at e2
                      simp (disch := omega) [hbx', e2, wrap64, -getElem?_pos]
                      refine Rnd_of (m' := r2.length) (by simp) ⟨a2, r2, _, rfl, heq.trans hq2, ?_, ?_, by omega, rfl, by simp⟩
                      · rw [hpe, popI, if_neg (by simp [hai])]
                      · rw [List.filter_cons, if_neg (by simp [hai])] at hpf
                        exact hpf
                    · rw [hai] at e2
                      have hp1 : popI (a' :: r') = r' := by rw [popI, if_pos hai]
                      rw [hpe, hp1] at hE g1
                      obtain ⟨a2, r2, rfl⟩ : ∃ a2 r2, r' = a2 :: r2 := by
                        cases r' with
                        | nil => simp at g1
                        | cons a2 r2 => exact ⟨a2, r2, rfl⟩
                      have hq2 : encE (a' :: a2 :: r2) ++ J' = encE (a2 :: r2) ++ ([V.int .i64 a'.1, V.int .i64 a'.2.1, V.bool a'.2.2] ++ J') := by rw [encE_cons]; simp
                      have hbx2 : ∀ (y1 y2 : Option (List V)) (T' : Heap), blockOf (y1 :: y2 :: (T ++ T')) b = some (encE (a2 :: r2) ++ ([V.int .i64 a'.1, V.int .i64 a'.2.1, V.bool a'.2.2] ++ J')) := fun y1 y2 T' => by rw [← heq.trans hq2]; exact hbx _ _ _
                      have hal2 := encE_all a2 r2 ([V.int .i64 a'.1, V.int .i64 a'.2.1, V.bool a'.2.2] ++ J')
                      have hrl2 : ((r2.length : Int) + 1 - 1).toNat = r2.length := by omega
                      have hge3 : r2.length * 3 + 3 ≤ (encE (a' :: a2 :: r2)).length + J'.length := by rw [encE_len]; simp; omega
                      have hal3 : List.take 3 (List.drop (r2.length * 3) (encE (a' :: a2 :: r2) ++ J')) = [V.int .i64 a2.1, V.int .i64 a2.2.1, V.bool a2.2.2] := by rw [hq2]; exact hal2
                      have hstk2 : ∀ (y1 y2 : Option (List V)) (T' : Heap), Stk (y1 :: y2 :: (T ++ T')) 2 3 (.sl b 0 (r2.length + 1) cap 3) (encE (a2 :: r2)) := fun y1 y2 T' =>
                        .inr ⟨b, _, cap, _, rfl, hb2, by rw [encE_len]; rfl, hbx2 y1 y2 T', by rw [← heq.trans hq2]; exact hcap, by simp at hrr; omega⟩
                      simp at hrr
                      simp only [topE] at hE
                      simp only [List.length_cons] at e2
                      by_cases ko : 0 ≤ a2.2.1
                      · rw [show ovr a2.2.1 22 = a2.2.1 from if_pos ko] at hE
                        simp (disch := omega) [hbx', e2, hge3, hal3, ko, hcl, hll, hle2, wrap64, -getElem?_pos]
                        exact Rnd_of (m' := n - (i + 1)) (by omega) ⟨i + 1, _, _, _, .sl b 0 (r2.length + 1) cap 3, T ++ [some [.int .i64 a2.1, .int .i64 a2.2.1, .bool a2.2.2]], by omega, rfl, hE, by simp [List.map_set, setS], by exact hstk2 _ _ _, by simp (disch := omega); omega⟩
                      · rw [show ovr a2.2.1 22 = 22 from if_neg ko] at hE
                        simp (disch := omega) [hbx', e2, hge3, hal3, ko, hll, hle2, wrap64, -getElem?_pos]
                        exact Rnd_of (m' := n - (i + 1)) (by omega) ⟨i + 1, _, _, _, .sl b 0 (r2.length + 1) cap 3, T ++ [some [.int .i64 a2.1, .int .i64 a2.2.1, .bool a2.2.2]], by omega, rfl, hE, by simp [List.map_set, setS], by exact hstk2 _ _ _, by simp (disch := omega); omega⟩
                  · have hE := hEI.step hx (hst22 _ (by rw [if_neg k1, if_neg k2]))
                    simp only [htop] at hE
                    by_cases ko : 0 ≤ a.2.1
                    · rw [show ovr a.2.1 22 = a.2.1 from if_pos ko] at hE
                      simp (disch := omega) [hI, ini, ko, k1, k2, hcl, hll, hle2, hbx, hge, hal, wrap64, -getElem?_pos]
                      exact Rnd_of (m' := n - (i + 1)) (by omega) ⟨i + 1, _, _, _, .sl b 0 (r.length + 1) cap 3, T ++ [some [.int .i64 a.1, .int .i64 a.2.1, .bool a.2.2]], by omega, rfl, hE, by simp [List.map_set, setS], by first | exact hstk _ _ _ | (rw [hsr]; exact hstk _ _ _), by simp (disch := omega)⟩
                    · rw [show ovr a.2.1 22 = 22 from if_neg ko] at hE
                      simp (disch := omega) [hI, ini, ko, k1, k2, hll, hle2, hbx, hge, hal, wrap64, -getElem?_pos]
                      exact Rnd_of (m' := n - (i + 1)) (by omega) ⟨i + 1, _, _, _, .sl b 0 (r.length + 1) cap 3, T ++ [some [.int .i64 a.1, .int .i64 a.2.1, .bool a.2.2]], by omega, rfl, hE, by simp [List.map_set, setS], by first | exact hstk _ _ _ | (rw [hsr]; exact hstk _ _ _), by simp (disch := omega)⟩
              · by_cases h18 : x = 18
                · subst h18
                  have hpop := fun y1 y2 T' => (hstk y1 y2 T').pop (encE_cons a r) (encE_len r) (by omega)
                  have hx18 : ∀ s', (if 0 < s.iso then s else if 0 < s.emb then { s with emb := s.emb - 1 } else if a.2.2 = false ∧ 1 < (a :: r).length then { s with st := r } else s) = s' → exStep e 18 (oddI 18 (o.drop (i + 1))) s = (a.1, 18, s') := by
                    rintro s' rfl
                    simp [exStep, ini, hsr, topE]
                  have hem := hw.emb
                  by_cases k1 : 0 < s.iso
                  · have hE := hEI.step hx (hx18 s (by rw [if_pos k1]))
                    simp (disch := omega) [hI, ini, k1, wrap64, -getElem?_pos]
                    exact Rnd_of (m' := n - (i + 1)) (by omega) ⟨i + 1, _, _, s, .sl b 0 (r.length + 1) cap 3, T ++ [some [.int .i64 a.1, .int .i64 a.2.1, .bool a.2.2]], by omega, rfl, hE, by simp [List.map_set], by first | exact hstk _ _ _ | (rw [hsr]; exact hstk _ _ _), by simp (disch := omega); try omega⟩
                  · by_cases k2 : 0 < s.emb
                    · have hE := hEI.step hx (hx18 _ (by rw [if_neg k1, if_pos k2]))
                      simp (disch := omega) [hI, ini, k1, k2, wrap64, -getElem?_pos]
                      exact Rnd_of (m' := n - (i + 1)) (by omega) ⟨i + 1, _, _, _, .sl b 0 (r.length + 1) cap 3, T ++ [some [.int .i64 a.1, .int .i64 a.2.1, .bool a.2.2]], by omega, rfl, hE, by simp [List.map_set], by first | exact hstk _ _ _ | (rw [hsr]; exact hstk _ _ _), by simp (disch := omega); try omega⟩
                    · cases h2 : a.2.2
                      · by_cases k4 : 0 < r.length
                        · have k5 : (1 : Int) < (r.length : Int) + 1 := by omega
                          have hE := hEI.step hx (hx18 _ (by rw [if_neg k1, if_neg k2, if_pos ⟨h2, by simp; omega⟩]))
                          simp (disch := omega) [hI, ini, k1, k2, k5, wrap64, -getElem?_pos]
                          exact Rnd_of (m' := n - (i + 1)) (by omega) ⟨i + 1, _, _, _, .sl b 0 r.length cap 3, T ++ [some [.int .i64 a.1, .int .i64 a.2.1, .bool a.2.2]], by omega, rfl, hE, by simp [List.map_set, h2], by exact hpop _ _ _, by simp (disch := omega); try omega⟩
                        · have k5 : ¬ (1 : Int) < (r.length : Int) + 1 := by omega
                          have hE := hEI.step hx (hx18 s (by rw [if_neg k1, if_neg k2, if_neg (fun h => k4 (by have := h.2; simp at this; omega))]))
                          simp (disch := omega) [hI, ini, k1, k2, k5, wrap64, -getElem?_pos]
                          exact Rnd_of (m' := n - (i + 1)) (by omega) ⟨i + 1, _, _, s, .sl b 0 (r.length + 1) cap 3, T ++ [some [.int .i64 a.1, .int .i64 a.2.1, .bool a.2.2]], by omega, rfl, hE, by simp [List.map_set, h2], by first | exact hstk _ _ _ | (rw [hsr]; exact hstk _ _ _), by simp (disch := omega); try omega⟩
                      · have hE := hEI.step hx (hx18 s (by rw [if_neg k1, if_neg k2, if_neg (fun h => by rw [h2] at h; cases h.1)]))
                        simp (disch := omega) [hI, ini, k1, k2, wrap64, -getElem?_pos]
                        exact Rnd_of (m' := n - (i + 1)) (by omega) ⟨i + 1, _, _, s, .sl b 0 (r.length + 1) cap 3, T ++ [some [.int .i64 a.1, .int .i64 a.2.1, .bool a.2.2]], by omega, rfl, hE, by simp [List.map_set, h2], by first | exact hstk _ _ _ | (rw [hsr]; exact hstk _ _ _), by simp (disch := omega); try omega⟩
                · have hem1 : ¬ x = 16 := h16
                  have hem2 : ¬ x = 14 := h14
                  have hem3 : ¬ x = 17 := h17
                  have hem4 : ¬ x = 15 := h15
                  by_cases h10 : x = 10
                  · have hso : exStep e x (oddI x (o.drop (i + 1))) s = (e, x, s) := by
                      unfold exStep
                      rw [if_neg hem, if_neg (by simp [hix]), if_neg h22, if_neg h18, if_pos h10]
                    have hE := hEI.step hx hso
                    subst h10
                    simp (disch := omega) [hI, hix, hll, hle2, wrap64, -getElem?_pos]
                    exact Rnd_of (m' := n - (i + 1)) (by omega) ⟨i + 1, _, _, s, .sl b 0 (r.length + 1) cap 3, T ++ [some [.int .i64 a.1, .int .i64 a.2.1, .bool a.2.2]], by omega, rfl, hE, by simp [List.map_set, setS], by first | exact hstk _ _ _ | (rw [hsr]; exact hstk _ _ _), by simp (disch := omega); try omega⟩
                  · by_cases h9 : x = 9
                    · have hso : exStep e x (oddI x (o.drop (i + 1))) s = (a.1, x, s) := by
                        unfold exStep
                        rw [if_neg hem, if_neg (by simp [hix]), if_neg h22, if_neg h18, if_neg h10, if_pos h9, htop]
                      have hE := hEI.step hx hso
                      subst h9
                      simp (disch := omega) [hI, hix, wrap64, -getElem?_pos]
                      exact Rnd_of (m' := n - (i + 1)) (by omega) ⟨i + 1, _, _, s, .sl b 0 (r.length + 1) cap 3, T ++ [some [.int .i64 a.1, .int .i64 a.2.1, .bool a.2.2]], by omega, rfl, hE, by simp [List.map_set], by first | exact hstk _ _ _ | (rw [hsr]; exact hstk _ _ _), by simp (disch := omega); try omega⟩
                    · have hso : exStep e x (oddI x (o.drop (i + 1))) s = (a.1, ovr a.2.1 x, s) := by
                        unfold exStep
                        rw [if_neg hem, if_neg (by simp [hix]), if_neg h22, if_neg h18, if_neg h10, if_neg h9, htop]
                      by_cases ko : 0 ≤ a.2.1
                      · rw [show ovr a.2.1 x = a.2.1 from if_pos ko] at hso
                        have hE := hEI.step hx hso
                        simp (disch := omega) [hI, hix, hem1, hem2, hem3, hem4, h22, h18, h10, h9, ko, hcl, hle2, wrap64, -getElem?_pos]
                        exact Rnd_of (m' := n - (i + 1)) (by omega) ⟨i + 1, _, _, s, .sl b 0 (r.length + 1) cap 3, T ++ [some [.int .i64 a.1, .int .i64 a.2.1, .bool a.2.2]], by omega, rfl, hE, by simp [List.map_set, setS], by first | exact hstk _ _ _ | (rw [hsr]; exact hstk _ _ _), by simp (disch := omega); try omega⟩
                      · rw [show ovr a.2.1 x = x from if_neg ko] at hso
                        have hE := hEI.step hx hso
                        simp (disch := omega) [hI, hix, hem1, hem2, hem3, hem4, h22, h18, h10, h9, ko, wrap64, -getElem?_pos]
                        exact Rnd_of (m' := n - (i + 1)) (by omega) ⟨i + 1, _, _, s, .sl b 0 (r.length + 1) cap 3, T ++ [some [.int .i64 a.1, .int .i64 a.2.1, .bool a.2.2]], by omega, rfl, hE, by simp [List.map_set], by first | exact hstk _ _ _ | (rw [hsr]; exact hstk _ _ _), by simp (disch := omega); try omega⟩
            · have hi3 : x = 20 ∨ x = 19 ∨ x = 21 := by
                unfold ini at hix
                simp at hix
                omega
              rcases hi3 with rfl | rfl | rfl
              · skip
                skip
                have hs' : ∀ s', (if nxt a.1 true ≤ 125 ∧ s.iso = 0 ∧ s.emb = 0 then { s with st := (nxt a.1 true, -1, true) :: s.st, val := s.val + 1 } else { s with iso := s.iso + 1 }) = s' → exStep e 20 (oddI 20 (o.drop (i + 1))) s = (a.1, ovr a.2.1 20, s') := by
                  rintro s' rfl
                  simp [exStep, ini, htop, oddI]
                have hN := fun cfg H => hU cfg H a.1 (by omega) true
                generalize nxt a.1 true = N at hN hs'
                have hie := hw.iso
                have hvl := hw.val
                by_cases ko : 0 ≤ a.2.1
                · rw [show ovr a.2.1 20 = a.2.1 from if_pos ko] at hs'
                  have k14 : ¬ 20 = (16 : Int) := by omega
                  by_cases k : N ≤ 125 ∧ s.iso = 0 ∧ s.emb = 0
                  · have hE := hEI.step hx (hs' _ (by rw [if_pos k]))
                    obtain ⟨k1, k2, k3⟩ := k
                    rw [hsr] at hE
                    simp (disch := omega) [hI, ini, ko, hN, k1, k2, k3, hcl, hle2, wrap64, -getElem?_pos]
                    refine wS_push2 (st := a :: r) (hstk _ _ _) (by simp; omega) (by omega) ?_
                    intro d' T' hd'
                    simp (disch := omega) [wrap64]
                    exact Rnd_of (m' := n - (i + 1)) (by omega) ⟨i + 1, _, _, _, d', T', by omega, rfl, hE, by simp [List.map_set, setS], hd', by simp (disch := omega) [k2, k3]⟩
                  · have hE := hEI.step hx (hs' _ (by rw [if_neg k]))
                    by_cases k1 : N ≤ 125
                    · by_cases k2 : s.iso = 0
                      · have k3 : ¬ s.emb = 0 := fun h => k ⟨k1, k2, h⟩
                        simp (disch := omega) [hI, ini, ko, hN, k1, k2, k3, hcl, hle2, wrap64, -getElem?_pos]
                        exact Rnd_of (m' := n - (i + 1)) (by omega) ⟨i + 1, _, _, _, .sl b 0 (r.length + 1) cap 3, T ++ [some [.int .i64 a.1, .int .i64 a.2.1, .bool a.2.2]], by omega, rfl, hE, by simp [List.map_set, setS], by first | exact hstk _ _ _ | (rw [hsr]; exact hstk _ _ _), by simp (disch := omega) [k2]⟩
                      · simp (disch := omega) [hI, ini, ko, hN, k1, k2, hcl, hle2, wrap64, -getElem?_pos]
                        exact Rnd_of (m' := n - (i + 1)) (by omega) ⟨i + 1, _, _, _, .sl b 0 (r.length + 1) cap 3, T ++ [some [.int .i64 a.1, .int .i64 a.2.1, .bool a.2.2]], by omega, rfl, hE, by simp [List.map_set, setS], by first | exact hstk _ _ _ | (rw [hsr]; exact hstk _ _ _), by simp (disch := omega); try omega⟩
                    · simp (disch := omega) [hI, ini, ko, hN, k1, hcl, hle2, wrap64, -getElem?_pos]
                      exact Rnd_of (m' := n - (i + 1)) (by omega) ⟨i + 1, _, _, _, .sl b 0 (r.length + 1) cap 3, T ++ [some [.int .i64 a.1, .int .i64 a.2.1, .bool a.2.2]], by omega, rfl, hE, by simp [List.map_set, setS], by first | exact hstk _ _ _ | (rw [hsr]; exact hstk _ _ _), by simp (disch := omega); try omega⟩
                · rw [show ovr a.2.1 20 = 20 from if_neg ko] at hs'
                  have k14 : ¬ 20 = (16 : Int) := by omega
                  by_cases k : N ≤ 125 ∧ s.iso = 0 ∧ s.emb = 0
                  · have hE := hEI.step hx (hs' _ (by rw [if_pos k]))
                    obtain ⟨k1, k2, k3⟩ := k
                    rw [hsr] at hE
                    simp (disch := omega) [hI, ini, ko, hN, k1, k2, k3, wrap64, -getElem?_pos]
                    refine wS_push2 (st := a :: r) (hstk _ _ _) (by simp; omega) (by omega) ?_
                    intro d' T' hd'
                    simp (disch := omega) [wrap64]
                    exact Rnd_of (m' := n - (i + 1)) (by omega) ⟨i + 1, _, _, _, d', T', by omega, rfl, hE, by simp [List.map_set], hd', by simp (disch := omega) [k2, k3]⟩
                  · have hE := hEI.step hx (hs' _ (by rw [if_neg k]))
                    by_cases k1 : N ≤ 125
                    · by_cases k2 : s.iso = 0
                      · have k3 : ¬ s.emb = 0 := fun h => k ⟨k1, k2, h⟩
                        simp (disch := omega) [hI, ini, ko, hN, k1, k2, k3, wrap64, -getElem?_pos]
                        exact Rnd_of (m' := n - (i + 1)) (by omega) ⟨i + 1, _, _, _, .sl b 0 (r.length + 1) cap 3, T ++ [some [.int .i64 a.1, .int .i64 a.2.1, .bool a.2.2]], by omega, rfl, hE, by simp [List.map_set], by first | exact hstk _ _ _ | (rw [hsr]; exact hstk _ _ _), by simp (disch := omega) [k2]⟩
                      · simp (disch := omega) [hI, ini, ko, hN, k1, k2, wrap64, -getElem?_pos]
                        exact Rnd_of (m' := n - (i + 1)) (by omega) ⟨i + 1, _, _, _, .sl b 0 (r.length + 1) cap 3, T ++ [some [.int .i64 a.1, .int .i64 a.2.1, .bool a.2.2]], by omega, rfl, hE, by simp [List.map_set], by first | exact hstk _ _ _ | (rw [hsr]; exact hstk _ _ _), by simp (disch := omega); try omega⟩
                    · simp (disch := omega) [hI, ini, ko, hN, k1, wrap64, -getElem?_pos]
                      exact Rnd_of (m' := n - (i + 1)) (by omega) ⟨i + 1, _, _, _, .sl b 0 (r.length + 1) cap 3, T ++ [some [.int .i64 a.1, .int .i64 a.2.1, .bool a.2.2]], by omega, rfl, hE, by simp [List.map_set], by first | exact hstk _ _ _ | (rw [hsr]; exact hstk _ _ _), by simp (disch := omega); try omega⟩
              · skip
                skip
                have hs' : ∀ s', (if nxt a.1 false ≤ 125 ∧ s.iso = 0 ∧ s.emb = 0 then { s with st := (nxt a.1 false, -1, true) :: s.st, val := s.val + 1 } else { s with iso := s.iso + 1 }) = s' → exStep e 19 (oddI 19 (o.drop (i + 1))) s = (a.1, ovr a.2.1 19, s') := by
                  rintro s' rfl
                  simp [exStep, ini, htop, oddI]
                have hN := fun cfg H => hU cfg H a.1 (by omega) false
                generalize nxt a.1 false = N at hN hs'
                have hie := hw.iso
                have hvl := hw.val
                by_cases ko : 0 ≤ a.2.1
                · rw [show ovr a.2.1 19 = a.2.1 from if_pos ko] at hs'
                  have k14 : ¬ 19 = (16 : Int) := by omega
                  by_cases k : N ≤ 125 ∧ s.iso = 0 ∧ s.emb = 0
                  · have hE := hEI.step hx (hs' _ (by rw [if_pos k]))
                    obtain ⟨k1, k2, k3⟩ := k
                    rw [hsr] at hE
                    simp (disch := omega) [hI, ini, ko, hN, k1, k2, k3, hcl, hle2, wrap64, -getElem?_pos]
                    refine wS_push2 (st := a :: r) (hstk _ _ _) (by simp; omega) (by omega) ?_
                    intro d' T' hd'
                    simp (disch := omega) [wrap64]
                    exact Rnd_of (m' := n - (i + 1)) (by omega) ⟨i + 1, _, _, _, d', T', by omega, rfl, hE, by simp [List.map_set, setS], hd', by simp (disch := omega) [k2, k3]⟩
                  · have hE := hEI.step hx (hs' _ (by rw [if_neg k]))
                    by_cases k1 : N ≤ 125
                    · by_cases k2 : s.iso = 0
                      · have k3 : ¬ s.emb = 0 := fun h => k ⟨k1, k2, h⟩
                        simp (disch := omega) [hI, ini, ko, hN, k1, k2, k3, hcl, hle2, wrap64, -getElem?_pos]
                        exact Rnd_of (m' := n - (i + 1)) (by omega) ⟨i + 1, _, _, _, .sl b 0 (r.length + 1) cap 3, T ++ [some [.int .i64 a.1, .int .i64 a.2.1, .bool a.2.2]], by omega, rfl, hE, by simp [List.map_set, setS], by first | exact hstk _ _ _ | (rw [hsr]; exact hstk _ _ _), by simp (disch := omega) [k2]⟩
                      · simp (disch := omega) [hI, ini, ko, hN, k1, k2, hcl, hle2, wrap64, -getElem?_pos]
                        exact Rnd_of (m' := n - (i + 1)) (by omega) ⟨i + 1, _, _, _, .sl b 0 (r.length + 1) cap 3, T ++ [some [.int .i64 a.1, .int .i64 a.2.1, .bool a.2.2]], by omega, rfl, hE, by simp [List.map_set, setS], by first | exact hstk _ _ _ | (rw [hsr]; exact hstk _ _ _), by simp (disch := omega); try omega⟩
                    · simp (disch := omega) [hI, ini, ko, hN, k1, hcl, hle2, wrap64, -getElem?_pos]
                      exact Rnd_of (m' := n - (i + 1)) (by omega) ⟨i + 1, _, _, _, .sl b 0 (r.length + 1) cap 3, T ++ [some [.int .i64 a.1, .int .i64 a.2.1, .bool a.2.2]], by omega, rfl, hE, by simp [List.map_set, setS], by first | exact hstk _ _ _ | (rw [hsr]; exact hstk _ _ _), by simp (disch := omega); try omega⟩
                · rw [show ovr a.2.1 19 = 19 from if_neg ko] at hs'
                  have k14 : ¬ 19 = (16 : Int) := by omega
                  by_cases k : N ≤ 125 ∧ s.iso = 0 ∧ s.emb = 0
                  · have hE := hEI.step hx (hs' _ (by rw [if_pos k]))
                    obtain ⟨k1, k2, k3⟩ := k
                    rw [hsr] at hE
                    simp (disch := omega) [hI, ini, ko, hN, k1, k2, k3, wrap64, -getElem?_pos]
                    refine wS_push2 (st := a :: r) (hstk _ _ _) (by simp; omega) (by omega) ?_
                    intro d' T' hd'
                    simp (disch := omega) [wrap64]
                    exact Rnd_of (m' := n - (i + 1)) (by omega) ⟨i + 1, _, _, _, d', T', by omega, rfl, hE, by simp [List.map_set], hd', by simp (disch := omega) [k2, k3]⟩
                  · have hE := hEI.step hx (hs' _ (by rw [if_neg k]))
                    by_cases k1 : N ≤ 125
                    · by_cases k2 : s.iso = 0
                      · have k3 : ¬ s.emb = 0 := fun h => k ⟨k1, k2, h⟩
                        simp (disch := omega) [hI, ini, ko, hN, k1, k2, k3, wrap64, -getElem?_pos]
                        exact Rnd_of (m' := n - (i + 1)) (by omega) ⟨i + 1, _, _, _, .sl b 0 (r.length + 1) cap 3, T ++ [some [.int .i64 a.1, .int .i64 a.2.1, .bool a.2.2]], by omega, rfl, hE, by simp [List.map_set], by first | exact hstk _ _ _ | (rw [hsr]; exact hstk _ _ _), by simp (disch := omega) [k2]⟩
                      · simp (disch := omega) [hI, ini, ko, hN, k1, k2, wrap64, -getElem?_pos]
                        exact Rnd_of (m' := n - (i + 1)) (by omega) ⟨i + 1, _, _, _, .sl b 0 (r.length + 1) cap 3, T ++ [some [.int .i64 a.1, .int .i64 a.2.1, .bool a.2.2]], by omega, rfl, hE, by simp [List.map_set], by first | exact hstk _ _ _ | (rw [hsr]; exact hstk _ _ _), by simp (disch := omega); try omega⟩
                    · simp (disch := omega) [hI, ini, ko, hN, k1, wrap64, -getElem?_pos]
                      exact Rnd_of (m' := n - (i + 1)) (by omega) ⟨i + 1, _, _, _, .sl b 0 (r.length + 1) cap 3, T ++ [some [.int .i64 a.1, .int .i64 a.2.1, .bool a.2.2]], by omega, rfl, hE, by simp [List.map_set], by first | exact hstk _ _ _ | (rw [hsr]; exact hstk _ _ _), by simp (disch := omega); try omega⟩
              · skip
                have key : ∃ to : Nat, i + 1 ≤ to ∧ to ≤ n ∧ (mt o i = -1 ∧ to = n ∨ mt o i = to) ∧ oddI 21 (o.drop (i + 1)) = decide (fs (((t.take to).drop (i + 1)).map bidi) = 1) := by
                  have hdt : ∀ to : Nat, ((t.take to).drop (i + 1)).map bidi = (o.drop (i + 1)).take (to - (i + 1)) := fun to => by
                    rw [List.drop_take, (hmd (i + 1) (to - (i + 1))).2]
                  unfold oddI mt
                  cases hsc : mscan (o.drop (i + 1)) 0 with
                  | none => exact ⟨n, by omega, Nat.le_refl _, .inl ⟨rfl, rfl⟩, by rw [hdt, List.take_of_length_le (by simp; omega)]; simp⟩
                  | some m =>
                    have := mscan_lt _ _ _ hsc
                    simp at this
                    exact ⟨i + 1 + m, by omega, by omega, .inr rfl, by rw [hdt, show i + 1 + m - (i + 1) = m by omega]; simp⟩
                obtain ⟨to, ht1, ht2, ht3, hodd⟩ := key
                have hMi := fun cfg h => hMt cfg h i (by omega)
                have hF : ∀ cfg h, callM md (K prim (d + 4)) cfg 38 [rl ((t.take to).drop (i + 1)), .int .i64 (-1)] h = some (.int .i64 (fs (((t.take to).drop (i + 1)).map bidi)), h) := fun cfg h => by
                  have := hBs cfg h ((t.take to).drop (i + 1)) (by simp; omega)
                  rw [this]
                  simp [baseS]
                generalize fs (((t.take to).drop (i + 1)).map bidi) = fv at hF hodd
                have hs' : ∀ s', (if nxt a.1 (decide (fv = 1)) ≤ 125 ∧ s.iso = 0 ∧ s.emb = 0 then { s with st := (nxt a.1 (decide (fv = 1)), -1, true) :: s.st, val := s.val + 1 } else { s with iso := s.iso + 1 }) = s' → exStep e 21 (oddI 21 (o.drop (i + 1))) s = (a.1, ovr a.2.1 21, s') := by
                  rintro s' rfl
                  simp [exStep, ini, htop, hodd]
                have hN := fun cfg H => hU cfg H a.1 (by omega) (decide (fv = 1))
                generalize nxt a.1 (decide (fv = 1)) = N at hN hs'
                have hie := hw.iso
                have hvl := hw.val
                simp only [rl, List.map_drop, List.map_take] at hF
                have n1 : ¬ (to : Int) < 0 := by omega
                rcases ht3 with ⟨hm1, hto⟩ | hm1
                · rw [hto] at hF
                  by_cases ko : 0 ≤ a.2.1
                  · rw [show ovr a.2.1 21 = a.2.1 from if_pos ko] at hs'
                    have k14 : ¬ 21 = (16 : Int) := by omega
                    by_cases k : N ≤ 125 ∧ s.iso = 0 ∧ s.emb = 0
                    · have hE := hEI.step hx (hs' _ (by rw [if_pos k]))
                      obtain ⟨k1, k2, k3⟩ := k
                      rw [hsr] at hE
                      simp (disch := omega) [hI, ini, ko, hN, k1, k2, k3, hMi, hm1, hF, hn, hcl, hle2, wrap64, -getElem?_pos]
                      refine wS_push2 (st := a :: r) (hstk _ _ _) (by simp; omega) (by omega) ?_
                      intro d' T' hd'
                      simp (disch := omega) [wrap64]
                      exact Rnd_of (m' := n - (i + 1)) (by omega) ⟨i + 1, _, _, _, d', T', by omega, rfl, hE, by simp [List.map_set, setS], hd', by simp (disch := omega) [k2, k3]⟩
                    · have hE := hEI.step hx (hs' _ (by rw [if_neg k]))
                      by_cases k1 : N ≤ 125
                      · by_cases k2 : s.iso = 0
                        · have k3 : ¬ s.emb = 0 := fun h => k ⟨k1, k2, h⟩
                          simp (disch := omega) [hI, ini, ko, hN, k1, k2, k3, hMi, hm1, hF, hn, hcl, hle2, wrap64, -getElem?_pos]
                          exact Rnd_of (m' := n - (i + 1)) (by omega) ⟨i + 1, _, _, _, .sl b 0 (r.length + 1) cap 3, T ++ [some [.int .i64 a.1, .int .i64 a.2.1, .bool a.2.2]], by omega, rfl, hE, by simp [List.map_set, setS], by first | exact hstk _ _ _ | (rw [hsr]; exact hstk _ _ _), by simp (disch := omega) [k2]⟩
                        · simp (disch := omega) [hI, ini, ko, hN, k1, k2, hMi, hm1, hF, hn, hcl, hle2, wrap64, -getElem?_pos]
                          exact Rnd_of (m' := n - (i + 1)) (by omega) ⟨i + 1, _, _, _, .sl b 0 (r.length + 1) cap 3, T ++ [some [.int .i64 a.1, .int .i64 a.2.1, .bool a.2.2]], by omega, rfl, hE, by simp [List.map_set, setS], by first | exact hstk _ _ _ | (rw [hsr]; exact hstk _ _ _), by simp (disch := omega); try omega⟩
                      · simp (disch := omega) [hI, ini, ko, hN, k1, hMi, hm1, hF, hn, hcl, hle2, wrap64, -getElem?_pos]
                        exact Rnd_of (m' := n - (i + 1)) (by omega) ⟨i + 1, _, _, _, .sl b 0 (r.length + 1) cap 3, T ++ [some [.int .i64 a.1, .int .i64 a.2.1, .bool a.2.2]], by omega, rfl, hE, by simp [List.map_set, setS], by first | exact hstk _ _ _ | (rw [hsr]; exact hstk _ _ _), by simp (disch := omega); try omega⟩
                  · rw [show ovr a.2.1 21 = 21 from if_neg ko] at hs'
                    have k14 : ¬ 21 = (16 : Int) := by omega
                    by_cases k : N ≤ 125 ∧ s.iso = 0 ∧ s.emb = 0
                    · have hE := hEI.step hx (hs' _ (by rw [if_pos k]))
                      obtain ⟨k1, k2, k3⟩ := k
                      rw [hsr] at hE
                      simp (disch := omega) [hI, ini, ko, hN, k1, k2, k3, hMi, hm1, hF, hn, wrap64, -getElem?_pos]
                      refine wS_push2 (st := a :: r) (hstk _ _ _) (by simp; omega) (by omega) ?_
                      intro d' T' hd'
                      simp (disch := omega) [wrap64]
                      exact Rnd_of (m' := n - (i + 1)) (by omega) ⟨i + 1, _, _, _, d', T', by omega, rfl, hE, by simp [List.map_set], hd', by simp (disch := omega) [k2, k3]⟩
                    · have hE := hEI.step hx (hs' _ (by rw [if_neg k]))
                      by_cases k1 : N ≤ 125
                      · by_cases k2 : s.iso = 0
                        · have k3 : ¬ s.emb = 0 := fun h => k ⟨k1, k2, h⟩
                          simp (disch := omega) [hI, ini, ko, hN, k1, k2, k3, hMi, hm1, hF, hn, wrap64, -getElem?_pos]
                          exact Rnd_of (m' := n - (i + 1)) (by omega) ⟨i + 1, _, _, _, .sl b 0 (r.length + 1) cap 3, T ++ [some [.int .i64 a.1, .int .i64 a.2.1, .bool a.2.2]], by omega, rfl, hE, by simp [List.map_set], by first | exact hstk _ _ _ | (rw [hsr]; exact hstk _ _ _), by simp (disch := omega) [k2]⟩
                        · simp (disch := omega) [hI, ini, ko, hN, k1, k2, hMi, hm1, hF, hn, wrap64, -getElem?_pos]
                          exact Rnd_of (m' := n - (i + 1)) (by omega) ⟨i + 1, _, _, _, .sl b 0 (r.length + 1) cap 3, T ++ [some [.int .i64 a.1, .int .i64 a.2.1, .bool a.2.2]], by omega, rfl, hE, by simp [List.map_set], by first | exact hstk _ _ _ | (rw [hsr]; exact hstk _ _ _), by simp (disch := omega); try omega⟩
                      · simp (disch := omega) [hI, ini, ko, hN, k1, hMi, hm1, hF, hn, wrap64, -getElem?_pos]
                        exact Rnd_of (m' := n - (i + 1)) (by omega) ⟨i + 1, _, _, _, .sl b 0 (r.length + 1) cap 3, T ++ [some [.int .i64 a.1, .int .i64 a.2.1, .bool a.2.2]], by omega, rfl, hE, by simp [List.map_set], by first | exact hstk _ _ _ | (rw [hsr]; exact hstk _ _ _), by simp (disch := omega); try omega⟩
                · skip
                  by_cases ko : 0 ≤ a.2.1
                  · rw [show ovr a.2.1 21 = a.2.1 from if_pos ko] at hs'
                    have k14 : ¬ 21 = (16 : Int) := by omega
                    by_cases k : N ≤ 125 ∧ s.iso = 0 ∧ s.emb = 0
                    · have hE := hEI.step hx (hs' _ (by rw [if_pos k]))
                      obtain ⟨k1, k2, k3⟩ := k
                      rw [hsr] at hE
                      simp (disch := omega) [hI, ini, ko, hN, k1, k2, k3, hMi, hm1, n1, hF, hn, hcl, hle2, wrap64, -getElem?_pos]
                      refine wS_push2 (st := a :: r) (hstk _ _ _) (by simp; omega) (by omega) ?_
                      intro d' T' hd'
                      simp (disch := omega) [wrap64]
                      exact Rnd_of (m' := n - (i + 1)) (by omega) ⟨i + 1, _, _, _, d', T', by omega, rfl, hE, by simp [List.map_set, setS], hd', by simp (disch := omega) [k2, k3]⟩
                    · have hE := hEI.step hx (hs' _ (by rw [if_neg k]))
                      by_cases k1 : N ≤ 125
                      · by_cases k2 : s.iso = 0
                        · have k3 : ¬ s.emb = 0 := fun h => k ⟨k1, k2, h⟩
                          simp (disch := omega) [hI, ini, ko, hN, k1, k2, k3, hMi, hm1, n1, hF, hn, hcl, hle2, wrap64, -getElem?_pos]
                          exact Rnd_of (m' := n - (i + 1)) (by omega) ⟨i + 1, _, _, _, .sl b 0 (r.length + 1) cap 3, T ++ [some [.int .i64 a.1, .int .i64 a.2.1, .bool a.2.2]], by omega, rfl, hE, by simp [List.map_set, setS], by first | exact hstk _ _ _ | (rw [hsr]; exact hstk _ _ _), by simp (disch := omega) [k2]⟩
                        · simp (disch := omega) [hI, ini, ko, hN, k1, k2, hMi, hm1, n1, hF, hn, hcl, hle2, wrap64, -getElem?_pos]
                          exact Rnd_of (m' := n - (i + 1)) (by omega) ⟨i + 1, _, _, _, .sl b 0 (r.length + 1) cap 3, T ++ [some [.int .i64 a.1, .int .i64 a.2.1, .bool a.2.2]], by omega, rfl, hE, by simp [List.map_set, setS], by first | exact hstk _ _ _ | (rw [hsr]; exact hstk _ _ _), by simp (disch := omega); try omega⟩
                      · simp (disch := omega) [hI, ini, ko, hN, k1, hMi, hm1, n1, hF, hn, hcl, hle2, wrap64, -getElem?_pos]
                        exact Rnd_of (m' := n - (i + 1)) (by omega) ⟨i + 1, _, _, _, .sl b 0 (r.length + 1) cap 3, T ++ [some [.int .i64 a.1, .int .i64 a.2.1, .bool a.2.2]], by omega, rfl, hE, by simp [List.map_set, setS], by first | exact hstk _ _ _ | (rw [hsr]; exact hstk _ _ _), by simp (disch := omega); try omega⟩
                  · rw [show ovr a.2.1 21 = 21 from if_neg ko] at hs'
                    have k14 : ¬ 21 = (16 : Int) := by omega
                    by_cases k : N ≤ 125 ∧ s.iso = 0 ∧ s.emb = 0
                    · have hE := hEI.step hx (hs' _ (by rw [if_pos k]))
                      obtain ⟨k1, k2, k3⟩ := k
                      rw [hsr] at hE
                      simp (disch := omega) [hI, ini, ko, hN, k1, k2, k3, hMi, hm1, n1, hF, hn, wrap64, -getElem?_pos]
                      refine wS_push2 (st := a :: r) (hstk _ _ _) (by simp; omega) (by omega) ?_
                      intro d' T' hd'
                      simp (disch := omega) [wrap64]
                      exact Rnd_of (m' := n - (i + 1)) (by omega) ⟨i + 1, _, _, _, d', T', by omega, rfl, hE, by simp [List.map_set], hd', by simp (disch := omega) [k2, k3]⟩
                    · have hE := hEI.step hx (hs' _ (by rw [if_neg k]))
                      by_cases k1 : N ≤ 125
                      · by_cases k2 : s.iso = 0
                        · have k3 : ¬ s.emb = 0 := fun h => k ⟨k1, k2, h⟩
                          simp (disch := omega) [hI, ini, ko, hN, k1, k2, k3, hMi, hm1, n1, hF, hn, wrap64, -getElem?_pos]
                          exact Rnd_of (m' := n - (i + 1)) (by omega) ⟨i + 1, _, _, _, .sl b 0 (r.length + 1) cap 3, T ++ [some [.int .i64 a.1, .int .i64 a.2.1, .bool a.2.2]], by omega, rfl, hE, by simp [List.map_set], by first | exact hstk _ _ _ | (rw [hsr]; exact hstk _ _ _), by simp (disch := omega) [k2]⟩
                        · simp (disch := omega) [hI, ini, ko, hN, k1, k2, hMi, hm1, n1, hF, hn, wrap64, -getElem?_pos]
                          exact Rnd_of (m' := n - (i + 1)) (by omega) ⟨i + 1, _, _, _, .sl b 0 (r.length + 1) cap 3, T ++ [some [.int .i64 a.1, .int .i64 a.2.1, .bool a.2.2]], by omega, rfl, hE, by simp [List.map_set], by first | exact hstk _ _ _ | (rw [hsr]; exact hstk _ _ _), by simp (disch := omega); try omega⟩
                      · simp (disch := omega) [hI, ini, ko, hN, k1, hMi, hm1, n1, hF, hn, wrap64, -getElem?_pos]
                        exact Rnd_of (m' := n - (i + 1)) (by omega) ⟨i + 1, _, _, _, .sl b 0 (r.length + 1) cap 3, T ++ [some [.int .i64 a.1, .int .i64 a.2.1, .bool a.2.2]], by omega, rfl, hE, by simp [List.map_set], by first | exact hstk _ _ _ | (rw [hsr]; exact hstk _ _ _), by simp (disch := omega); try omega⟩
  · have hltI : ¬ (i : Int) < n := by omega
    obtain rfl : i = o.length := by omega
    obtain ⟨f1, f2⟩ := hEI.fin
    simp (disch := omega) [hn, hltI]
    rw [f1, f2]
    simp
end
end Bi
end Go.Ab
/- The reference: brackets. -/
namespace Go.Ab
open Go.Proofs
namespace Bi
section
variable {prim : FuncId → Option Prim} (d : Nat) (cfg : Cfg)
set_option maxHeartbeats 4000000 in
set_option maxRecDepth 100000 in
theorem rbrackets_ok (hp : prim 43 = none) (h69 : prim 69 = none) (h71 : prim 71 = none) (h47 : prim 47 = none) (h66 : prim 66 = none) (h68 : prim 68 = none) (t c c0 l s0 : List Int) (n : Nat) (htn : t.length = n) (hcn : c.length = n) (h0n : c0.length = n) (hn2 : n ≤ 2000) (hl : Pl n l) (hll : l.length ≤ 2000) (hW0 : WB c0 l s0 c) (lv st : Int) (hlv : 0 ≤ lv) (H : Heap) (b : Nat)
    (hb : blockOf H b = some (c.map (V.int .i64))) (hw : cfg.wr b = true)
    (ps : List (Nat × Nat)) (hps : ∀ p ∈ ps, p.1 < p.2 ∧ p.2 < l.length) (hpl : ps.length ≤ 2000)
    (hP : ∀ cfg, callM md (K prim (d + 3)) cfg 67 [rl t, .sl b 0 n n 1, il l] H = some (pl64 ps, H)) :
    ∃ c', WB c0 l (brks (strS lv) st (l.map (lvl (t.map bidi))) ps s0) c' ∧ callM md (K prim (d + 4)) cfg 43 [rl t, .sl b 0 n n 1, il l, .int .i64 lv, .int .i64 st] H = some (.tup [], H.set b (some (c'.map (V.int .i64)))) := by
  suffices HH : ∃ r h2, callM md (K prim (d + 4)) cfg 43 [rl t, .sl b 0 n n 1, il l, .int .i64 lv, .int .i64 st] H = some (r, h2) ∧ ∃ c', r = .tup [] ∧ h2 = H.set b (some (c'.map (V.int .i64))) ∧ WB c0 l (brks (strS lv) st (l.map (lvl (t.map bidi))) ps s0) c' by
    obtain ⟨r, h2, h3, c', rfl, rfl, h4⟩ := HH
    exact ⟨c', h4, h3⟩
  have hbl := blockOf_lt hb
  have hset : ∀ (s' c' : List Int), WB c0 l s' c' → ∀ (k : Nat) (to : Int), k < l.length → ∃ c2, WB c0 l (bset (l.map (lvl (t.map bidi))) s' k to) c2 ∧ callM md (K prim (d + 3)) ⟨cfg.lo, cfg.ex, H.length⟩ 69 [rl t, .sl b 0 n n 1, il l, .int .i64 k, .int .i64 to] (H.set b (some (c'.map (V.int .i64)))) = some (.tup [], H.set b (some (c2.map (V.int .i64)))) := by
    intro s' c' hW' k to hk
    obtain ⟨c2, h1, h2⟩ := rset_ok (prim := prim) d ⟨cfg.lo, cfg.ex, H.length⟩ h69 h71 h47 t c' c0 l s' n htn (hW'.len.trans h0n) h0n hn2 hl hll hW' k hk to (H.set b (some (c'.map (V.int .i64)))) b (by simp [hbl]) hw
    exact ⟨c2, h1, by rw [h2, List.set_set]⟩
  refine call1x rfl hp Try.func43 rfl rfl rfl ?_
  have hF1 := fun cfg h x => rfirm_ok (prim := prim) (d + 2) cfg h h68 x
  have hS1 := fun cfg h => rside_ok (prim := prim) (d + 2) cfg h h66 lv hlv
  have hsl0 := hW0.sl
  have hDr : strS lv = 0 ∨ strS lv = 1 := by unfold strS; split <;> simp
  generalize l.map (lvl (t.map bidi)) = os at *
  generalize hDe : strS lv = D at *
  have hD0 : 0 ≤ D := by omega
  simp (disch := omega) [hS1, hP]
  refine wC_loop (fun m fr H' => ∃ (i : Nat) (s c' : List Int), i ≤ ps.length ∧ m = ps.length - i ∧ brks D st os ps s0 = brks D st os (ps.drop i) s ∧ WB c0 l s c' ∧ H' = H.set b (some (c'.map (V.int .i64))) ∧
    Slots 127 [(0, rl t), (1, .sl b 0 n n 1), (2, il l), (3, .int .i64 lv), (4, .int .i64 st), (10, pl64 ps), (11, .int .i64 D), (12, .int .i64 i)] fr) (m := ps.length) (by omega) ⟨0, s0, c, by omega, by omega, rfl, hW0, (set_same hb).symm, by simp⟩ ?_
  rintro m fr H' ⟨i, s, c', hi, rfl, hF, hW, rfl, hs⟩
  obtain ⟨j, rfl⟩ := hs.ex
  clear hs
  have hsl := hW.sl
  have hcl : c'.length = n := hW.len.trans h0n
  by_cases hlt : i < ps.length
  · obtain ⟨⟨a, b2⟩, hx⟩ : ∃ x, ps[i]? = some x := ⟨_, List.getElem?_eq_getElem hlt⟩
    obtain ⟨hab, hbl2⟩ := hps _ (List.mem_of_getElem? hx)
    simp only at hab hbl2
    have hdr : ps.drop i = (a, b2) :: ps.drop (i + 1) := by
      rw [List.drop_eq_getElem_cons hlt]
      congr 1
      exact (List.getElem?_eq_some_iff.1 hx).2
    have hF2 : brks D st os (ps.drop i) s = brks D st os (ps.drop (i + 1)) (brk1 D st os s (a, b2)) := by rw [hdr]; rfl
    have fin : ∀ s' c'', brk1 D st os s (a, b2) = s' → WB c0 l s' c'' → ∀ fr, Slots 127 [(0, rl t), (1, .sl b 0 n n 1), (2, il l), (3, .int .i64 lv), (4, .int .i64 st), (10, pl64 ps), (11, .int .i64 D), (12, .int .i64 (i + 1 : Nat))] fr → @Rnd ⟨fun m fr H' => ∃ (i : Nat) (s c' : List Int), i ≤ ps.length ∧ m = ps.length - i ∧ brks D st os ps s0 = brks D st os (ps.drop i) s ∧ WB c0 l s c' ∧ H' = H.set b (some (c'.map (V.int .i64))) ∧
        Slots 127 [(0, rl t), (1, .sl b 0 n n 1), (2, il l), (3, .int .i64 lv), (4, .int .i64 st), (10, pl64 ps), (11, .int .i64 D), (12, .int .i64 i)] fr⟩ ⟨ps.length - i⟩ fr (H.set b (some (c''.map (V.int .i64)))) := by
      intro s' c'' hs' hW' fr hfr
      exact Rnd_of (m' := ps.length - (i + 1)) (by omega) ⟨i + 1, s', c'', by omega, rfl, by rw [hF, hF2, hs'], hW', rfl, hfr⟩
    simp (disch := omega) [hlt, hx, wrap64, -getElem?_pos]
    refine wC_loop (fun m fr H' => ∃ (z : Nat), a + 1 ≤ z ∧ z ≤ b2 ∧ m = b2 - z ∧ H' = H.set b (some (c'.map (V.int .i64))) ∧ Slots 127 [(0, rl t), (1, .sl b 0 n n 1), (2, il l), (3, .int .i64 lv), (4, .int .i64 st), (10, pl64 ps), (11, .int .i64 D), (12, .int .i64 i), (13, .bool ((seg s a z).any (isD D))), (14, .bool ((seg s a z).any (isO D))), (15, .int .i64 z)] fr) (m := b2 - (a + 1)) (by omega) ⟨a + 1, by omega, by omega, rfl, rfl, by simp [seg_self]⟩ ?_
    rintro m fr H' ⟨z, hz1, hz2, rfl, rfl, hs⟩
    obtain ⟨j, rfl⟩ := hs.ex
    clear hs
    by_cases hzb : z < b2
    · obtain ⟨i1, hi1, hin⟩ := hl.at_ (k := z) (by omega)
      obtain ⟨x, hxx⟩ : ∃ x, s[z]? = some x := ⟨_, List.getElem?_eq_getElem (by omega)⟩
      have hc := hW.at_ z i1 hi1
      rw [hxx, Int.toNat_natCast] at hc
      have hsg := seg_snoc hz1 hxx
      have hany : ∀ P : Int → Bool, (seg s a z ++ [x]).any P = ((seg s a z).any P || P x) := fun P => by simp
      have hxI : isD D x = decide (dirS x = D) := rfl
      have hxO : isO D x = (decide (0 ≤ dirS x) && !decide (dirS x = D)) := rfl
      have h3 : (dirS x = D ∧ 0 ≤ D) ∨ (¬ dirS x = D ∧ 0 ≤ dirS x) ∨ (¬ dirS x = D ∧ ¬ 0 ≤ dirS x) := by
        by_cases h1 : dirS x = D <;> by_cases h0 : 0 ≤ dirS x <;> simp [h1, h0, hD0]
      rcases h3 with ⟨h1, h0⟩ | ⟨h1, h0⟩ | ⟨h1, h0⟩ <;> cases hA : (seg s a z).any (isD D) <;> cases hO : (seg s a z).any (isO D)
      all_goals
        simp (disch := omega) [hzb, hx, hi1, hc, hF1, h1, h0, wrap64, -getElem?_pos]
      all_goals
        exact Rnd_of (m' := b2 - (z + 1)) (by omega) ⟨z + 1, by omega, by omega, rfl, rfl, by simp (disch := omega) [hsg, hany, hxI, hxO, hA, hO, h1, h0]⟩
    · obtain rfl : b2 = z := by omega
      cases hsame : (seg s a b2).any (isD D)
      · cases hopp : (seg s a b2).any (isO D)
        · have hBk : brk1 D st os s (a, b2) = s := by unfold brk1; simp only; rw [hsame, hopp]; rfl
          simp (disch := omega) [hx, wrap64, -getElem?_pos]
          refine fin _ c' hBk hW _ ?_
          simp (disch := omega)
        · have hBk : brk1 D st os s (a, b2) = bset os (bset os s a (lastD st (s.take a))) b2 (lastD st (s.take a)) := by unfold brk1; simp only; rw [hsame, hopp]; rfl
          simp (disch := omega) [hx, wrap64, -getElem?_pos]
          refine wC_loop (fun m fr H' => ∃ (k2 : Nat), k2 ≤ a ∧ m = k2 ∧ lastD st (s.take a) = lastD st (s.take k2) ∧ H' = H.set b (some (c'.map (V.int .i64))) ∧ Slots 127 [(0, rl t), (1, .sl b 0 n n 1), (2, il l), (3, .int .i64 lv), (4, .int .i64 st), (10, pl64 ps), (11, .int .i64 D), (12, .int .i64 i), (17, .int .i64 D), (18, .int .i64 st), (19, .int .i64 ((k2 : Int) - 1))] fr) (m := a) (by omega) ⟨a, Nat.le_refl _, rfl, rfl, rfl, by simp⟩ ?_
          rintro m fr H' ⟨k2, hk2, rfl, hL, rfl, hs⟩
          obtain ⟨j, rfl⟩ := hs.ex
          clear hs
          rcases m with _ | k2
          · rw [List.take_zero, lastD_nil] at hL
            rw [hL] at hBk
            by_cases hBD : st = D
            · have hBk : brk1 D st os s (a, b2) = bset os (bset os s a D) b2 D := by rw [hBk, hBD]
              obtain ⟨c2, hW2, hc2⟩ := hset s c' hW a (D) (by omega)
              obtain ⟨c3, hW3, hc3⟩ := hset _ c2 hW2 b2 (D) (by omega)
              simp (disch := omega) [hBD, hx, hc2, hc3, wrap64, -getElem?_pos]
              refine fin _ c3 hBk hW3 _ ?_
              simp (disch := omega) [hBD]
            · obtain ⟨c2, hW2, hc2⟩ := hset s c' hW a (st) (by omega)
              obtain ⟨c3, hW3, hc3⟩ := hset _ c2 hW2 b2 (st) (by omega)
              simp (disch := omega) [hBD, hx, hc2, hc3, wrap64, -getElem?_pos]
              refine fin _ c3 hBk hW3 _ ?_
              simp (disch := omega)
          · have hk1 : ((k2 + 1 : Nat) : Int) - 1 = k2 := by omega
            rw [hk1]
            obtain ⟨i1, hi1, hin⟩ := hl.at_ (k := k2) (by omega)
            obtain ⟨x, hxx⟩ : ∃ x, s[k2]? = some x := ⟨_, List.getElem?_eq_getElem (by omega)⟩
            have hc := hW.at_ k2 i1 hi1
            rw [hxx, Int.toNat_natCast] at hc
            have htk : s.take (k2 + 1) = s.take k2 ++ [x] := by rw [List.take_add_one, hxx]; rfl
            rw [htk, lastD_snoc] at hL
            by_cases hx0 : 0 ≤ dirS x
            · rw [if_pos hx0] at hL
              rw [hL] at hBk
              by_cases hBD : dirS x = D
              · have hBk : brk1 D st os s (a, b2) = bset os (bset os s a D) b2 D := by rw [hBk, hBD]
                obtain ⟨c2, hW2, hc2⟩ := hset s c' hW a (D) (by omega)
                obtain ⟨c3, hW3, hc3⟩ := hset _ c2 hW2 b2 (D) (by omega)
                simp (disch := omega) [hi1, hc, hF1, hBD, hD0, hx, hc2, hc3, wrap64, -getElem?_pos]
                refine fin _ c3 hBk hW3 _ ?_
                simp (disch := omega)
              · obtain ⟨c2, hW2, hc2⟩ := hset s c' hW a (dirS x) (by omega)
                obtain ⟨c3, hW3, hc3⟩ := hset _ c2 hW2 b2 (dirS x) (by omega)
                simp (disch := omega) [hi1, hc, hF1, hx0, hBD, hx, hc2, hc3, wrap64, -getElem?_pos]
                refine fin _ c3 hBk hW3 _ ?_
                simp (disch := omega)
            · rw [if_neg hx0] at hL
              simp (disch := omega) [hi1, hc, hF1, hx0, wrap64, -getElem?_pos]
              exact Rnd_of (m' := k2) (by omega) ⟨k2, by omega, rfl, hL, rfl, by simp (disch := omega)⟩
      · have hBk : brk1 D st os s (a, b2) = bset os (bset os s a D) b2 D := by unfold brk1; simp only; rw [hsame]; rfl
        obtain ⟨c2, hW2, hc2⟩ := hset s c' hW a (D) (by omega)
        obtain ⟨c3, hW3, hc3⟩ := hset _ c2 hW2 b2 (D) (by omega)
        simp (disch := omega) [hx, hc2, hc3, wrap64, -getElem?_pos]
        refine fin _ c3 hBk hW3 _ ?_
        simp (disch := omega)
  · have hlI : ¬ (i : Int) < ps.length := by omega
    rw [List.drop_of_length_le (by omega)] at hF
    simp (disch := omega) [hlI]
    refine ⟨c', List.take_of_length_le (by simp), ?_⟩
    rw [hF]
    exact hW
end
end Bi
end Go.Ab
