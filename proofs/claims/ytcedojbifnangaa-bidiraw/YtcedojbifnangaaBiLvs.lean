/- Several texts of this proof in one. -/
import Derived.Test.YtcedojbifnangaaBiRj
import Derived.Test.YtcedojbifnangaaBiRo
import Derived.Test.YtcedojbifnangaaBiRp
import Derived.Test.YtcedojbifnangaaBiDis
import Derived.Test.YtcedojbifnangaaBiRs0
/- The reference: pairs. -/
namespace Go.Ab
open Go.Proofs
namespace Bi
/-- The stack's places. -/
def sc (st : OStk) : List V := st.reverse.map fun a => V.int .i64 (a.2 : Int)
theorem sc_cons (a : Int × Nat) (st : OStk) : sc (a :: st) = sc st ++ [V.int .i64 (a.2 : Int)] := by simp [sc]
theorem sc_len (st : OStk) : (sc st).length = st.length := by simp [sc]
theorem sc_0 (a : Int × Nat) (r : OStk) (J : List V) : slot (sc (a :: r) ++ J) r.length = some (.int .i64 (a.2 : Int)) := by
  rw [← sc_len r, sc_cons, List.append_assoc, slot, List.getElem?_append_right (Nat.le_refl _)]
  simp
theorem pcn_app (a b : List (Nat × Nat)) : pcn (a ++ b) = pcn a ++ pcn b := by simp [pcn]
theorem pcn_0 (pre : List (Nat × Nat)) (x : Nat × Nat) (q : List (Nat × Nat)) (J : List V) : slot (pcn (pre ++ x :: q) ++ J) (pre.length * 2) = some (.int .i64 (x.1 : Int)) := by
  rw [← pcn_len pre, pcn_app, List.append_assoc, slot, List.getElem?_append_right (Nat.le_refl _)]
  simp [pcn]
theorem pcn_1 (pre : List (Nat × Nat)) (x : Nat × Nat) (q : List (Nat × Nat)) (J : List V) : slot (pcn (pre ++ x :: q) ++ J) (pre.length * 2 + 1) = some (.int .i64 (x.2 : Int)) := by
  rw [← pcn_len pre, pcn_app, List.append_assoc, slot, List.getElem?_append_right (by omega)]
  simp [pcn]
theorem pcn_tk (pre : List (Nat × Nat)) (x : Nat × Nat) (q : List (Nat × Nat)) (J : List V) : ((pcn (pre ++ x :: q) ++ J).drop (pre.length * 2)).take 2 = [.int .i64 (x.1 : Int), .int .i64 (x.2 : Int)] := by
  rw [← pcn_len pre, pcn_app, List.append_assoc, List.drop_left]
  simp [pcn]
theorem pcn_set (pre : List (Nat × Nat)) (x y : Nat × Nat) (q : List (Nat × Nat)) (J : List V) : setS (setS (pcn (pre ++ x :: q) ++ J) (pre.length * 2) (.int .i64 (y.1 : Int))) (pre.length * 2 + 1) (.int .i64 (y.2 : Int)) = pcn (pre ++ y :: q) ++ J := by
  rw [← pcn_len pre, pcn_app, pcn_app, List.append_assoc, List.append_assoc]
  have e : ∀ w : Nat × Nat, pcn (w :: q) ++ J = .int .i64 (w.1 : Int) :: .int .i64 (w.2 : Int) :: (pcn q ++ J) := fun w => rfl
  rw [e, e]
  simp only [setS]
  rw [List.set_append_right _ _ (by omega), List.set_append_right _ _ (by omega)]
  simp
theorem pcn_map {L : List (Nat × Nat)} (h : 0 < L.length) (J : List V) : isMap (pcn L ++ J) = false := by
  rcases L with _ | ⟨x, L⟩
  · simp at h
  · rfl
theorem bS {H : Heap} {b : Nat} {X : List V} {Y : Heap} (hb : b < H.length) (hX : isMap X = false) : blockOf (H.set b (some X) ++ Y) b = some X := by
  rw [blockOf_left (by simpa using hb), blockOf_set_self hb, hX]
  rfl
theorem bA {H : Heap} {b : Nat} {X : Option (List V)} {Y : List V} (hY : isMap Y = false) : blockOf (H.set b X ++ [some Y]) H.length = some Y := by
  have := blockOf_len_add (h := H.set b X) (r := [some Y]) (k := 0)
  simp only [List.length_set, Nat.add_zero] at this
  rw [this]
  simp [hY]
section
variable {P : Program} {md' : FuncId → Nat} {call : Callf} {cfg : Cfg}
theorem wS_ap2 {dst : Option Tmp} {fr : List V} {ops : Array Oper} {rest : List Oper} {Q : KontO} {h : Heap} {dv v2 : V} {cs cs2 new : List V} {k k2 y : Nat}
    (ho : Stk h 0 k dv cs) (h2 : Stk h 0 k2 v2 cs2) (hdj : Dj dv v2) (hlo : cfg.lo = 0) (hth : cfg.thr = 0)
    (hnew : new.length = k) (hk : 0 < k) (hmn : isMap new = false) (hsz : cs.length / k ≤ 4000) (hy : y ≤ 100)
    (H : ∀ d' h', Stk h' 0 k d' (cs ++ new) → Stk h' 0 k2 v2 cs2 → Dj d' v2 → @wO P md' call cfg ⟨ops⟩ ⟨rest⟩ (put fr dst d') h' ⟨Q⟩) :
    @wS P md' call cfg ⟨dst⟩ ⟨fr⟩ (appD cfg h k y dv 1 new) ⟨ops⟩ ⟨rest⟩ ⟨Q⟩ := by
  have hs : (cs.length / k + 1) * y ≤ 1099511627776 := by
    have : (cs.length / k + 1) * y ≤ 4001 * 100 := Nat.mul_le_mul (by omega) hy
    omega
  refine wS_appP (lo := 0) ho (by omega) (by omega) (Nat.zero_le _) hnew hmn hk hs (by omega) ?_
  intro d' h' hst _ _ hlen hot hb
  refine H d' h' hst (h2.of_blk fun b hbv => hot b (fun e => hdj b e hbv) (h2.blk hbv).2) ?_
  intro b hb1 hb2
  rcases hb with hb | hb
  · rw [hb] at hb1; exact hdj b hb1 hb2
  · rw [hb] at hb1
    cases hb1
    have := (h2.blk hb2).2
    omega
end
section
variable {prim : FuncId → Option Prim} (d : Nat) (cfg : Cfg) (h : Heap)
set_option maxRecDepth 100000 in
set_option maxHeartbeats 8000000 in
theorem rpairs_ok (hp : prim 67 = none) (h84 : prim 84 = none) (h91 : prim 91 = none) (t c l : List Int) (n : Nat) (hn : c.length = n) (htn : t.length = n) (_hn2 : n ≤ 2000) (hl : Pl n l) (hll : l.length ≤ 2000) {args : List V} (hargs : args.mapM (frzA h) = some [rl t, il c, il l]) :
    callM md (K prim (d + 3)) cfg 67 args h = some (pl64 (prsS ((l.map (lvl c)).zip (l.map (lvl t)))), h) := by
  have hBr := fun cfg h r => rbracket_ok (prim := prim) d cfg h h84 h91 r
  have hWc : WB c l (l.map (lvl c)) c := WB.start (by rw [hn]; exact hl)
  have hWt : WB t l (l.map (lvl t)) t := WB.start (by rw [htn]; exact hl)
  unfold prsS
  generalize hss : l.map (lvl c) = s0 at *
  generalize hso : l.map (lvl t) = rs at *
  have hsls := hWc.sl
  have hslr := hWt.sl
  refine call3 rfl hp Try.func67 rfl rfl rfl hargs ?_
  simp (disch := omega)
  refine wC_loop (fun m fr H => ∃ (k : Nat) (p : PS) (v1 v2 : V), k ≤ l.length ∧ m = l.length - k ∧ pgo 0 (s0.zip rs) ⟨[], []⟩ = pgo k ((s0.zip rs).drop k) p ∧ POK k p ∧ (∀ a ∈ p.st, ∃ z, rs[a.2]? = some z ∧ brS z = (1, a.1)) ∧ Stk H 0 1 v1 (sc p.st) ∧ Stk H 0 2 v2 (pcn p.out) ∧ Dj v1 v2 ∧
    Slots 128 [(0, rl t), (1, il c), (2, il l), (7, v1), (8, v2), (9, .int .i64 k)] fr) (m := l.length) (by omega) ⟨0, ⟨[], []⟩, .nils, .nils, by omega, by omega, rfl, POK.zero, by simp, .inl ⟨rfl, rfl⟩, .inl ⟨rfl, rfl⟩, Dj.nils, by simp⟩ ?_
  rintro m fr H ⟨k, p, v1, v2, hk, rfl, hF, hPO, hop, hs1, hs2, hdj, hs⟩
  obtain ⟨j, rfl⟩ := hs.ex
  clear hs
  by_cases hlt : k < l.length
  · obtain ⟨i, hi, hin⟩ := hl.at_ hlt
    obtain ⟨x, hx⟩ : ∃ x, s0[k]? = some x := ⟨_, List.getElem?_eq_getElem (by omega)⟩
    obtain ⟨r, hr⟩ : ∃ r, rs[k]? = some r := ⟨_, List.getElem?_eq_getElem (by omega)⟩
    have hcx := hWc.at_ k i hi
    have htr := hWt.at_ k i hi
    rw [hx, Int.toNat_natCast] at hcx
    rw [hr, Int.toNat_natCast] at htr
    have hz : (s0.zip rs)[k]? = some (x, r) := by rw [List.getElem?_zip_eq_some]; exact ⟨hx, hr⟩
    have hzd : (s0.zip rs).drop k = (x, r) :: (s0.zip rs).drop (k + 1) := by
      have hzl := (List.getElem?_eq_some_iff.1 hz).1
      rw [List.drop_eq_getElem_cons hzl]
      congr 1
      exact (List.getElem?_eq_some_iff.1 hz).2
    rw [hzd, pgo] at hF
    have hlenP := hs1.len (show Try.prog.underlying 22 = some (.slice 3) by kernel_rfl) (by omega)
    rw [sc_len, Nat.div_one] at hlenP
    have hst63 := hPO.len
    by_cases h13 : x = 13
    · rw [if_neg (by simp [h13])] at hF
      subst h13
      by_cases k1 : (brS r).1 = 1
      · rw [if_pos k1] at hF
        by_cases k63 : p.st.length = 63
        · rw [if_pos k63] at hF
          rw [hF]
          rw [k63] at hlenP
          simp (disch := omega) [hlt, hi, hcx, htr, hBr, k1, hlenP, own, -getElem?_pos]
        · rw [if_neg k63] at hF
          have n63 : ¬ (63 : Int) ≤ p.st.length := by omega
          simp (disch := omega) [hlt, hi, hcx, htr, hBr, k1, hlenP, n63, -getElem?_pos]
          refine wS_ap2 (hs1.push [some [.int .i64 k]]) (hs2.push [some [.int .i64 k]]) hdj rfl rfl rfl (by omega) rfl (by rw [sc_len, Nat.div_one]; omega) (by omega) ?_
          intro d' h' h1' h2' hdj'
          simp (disch := omega) [wrap64]
          exact Rnd_of (m' := l.length - (k + 1)) (by omega) ⟨k + 1, ⟨((brS r).2, k) :: p.st, p.out⟩, d', v2, by omega, rfl, hF, hPO.push _ k63, by
            intro a ha
            rcases List.mem_cons.1 ha with rfl | ha
            · exact ⟨r, hr, by rw [← k1]⟩
            · exact hop a ha, by rw [sc_cons]; exact h1', h2', hdj', by simp (disch := omega)⟩
      · rw [if_neg k1] at hF
        by_cases k2 : (brS r).1 = 2
        · rw [if_pos k2] at hF
          simp (disch := omega) [hlt, hi, hcx, htr, hBr, k2, hlenP, wrap64, -getElem?_pos]
          refine wC_loop (fun m fr H' => ∃ (pre re : OStk), m = re.length ∧ p.st = pre ++ re ∧ pfind r p.st = pfind r re ∧ H' = H ∧ Slots 128 [(0, rl t), (1, il c), (2, il l), (7, v1), (8, v2), (9, .int .i64 k), (10, .int .i64 2), (11, .int .i32 (brS r).2), (12, .int .i64 ((re.length : Int) - 1))] fr) (m := p.st.length) (by omega) ⟨[], p.st, rfl, rfl, rfl, rfl, by simp⟩ ?_
          rintro m fr H' ⟨pre, re, rfl, hpre, hpf, rfl, hs⟩
          obtain ⟨j, rfl⟩ := hs.ex
          clear hs
          rcases re with _ | ⟨⟨cc, aa⟩, re⟩
          · rw [pfind] at hpf
            rw [hpf] at hF
            simp (disch := omega) [wrap64]
            exact Rnd_of (m' := l.length - (k + 1)) (by omega) ⟨k + 1, p, v1, v2, by omega, rfl, hF, hPO.up, hop, hs1, hs2, hdj, by simp (disch := omega)⟩
          · have hprel : pre.length + (re.length + 1) = p.st.length := by rw [hpre]; simp
            obtain ⟨b, nn, cap, J, rfl, hb5, hbl, hnn, hbk, hcap, hnc⟩ := hs1.pos (by rw [hpre]; intro h; have := congrArg List.length h; rw [sc_len] at this; simp at this)
            obtain rfl : nn = p.st.length := by rw [sc_len] at hnn; omega
            obtain ⟨J', hJ'⟩ : ∃ J', sc p.st ++ J = sc ((cc, aa) :: re) ++ J' := by
              rw [hpre]
              refine ⟨sc pre ++ J, ?_⟩
              simp [sc]
            rw [hJ'] at hbk
            have e0 := sc_0 (cc, aa) re J'
            simp only at e0
            obtain ⟨z, hz1, hz2⟩ := hop (cc, aa) (by rw [hpre]; simp)
            simp only at hz1 hz2
            have haa : aa < k := hPO.lt (cc, aa) (by rw [hpre]; simp)
            obtain ⟨i2, hi2, hin2⟩ := hl.at_ (k := aa) (by omega)
            have htz := hWt.at_ aa i2 hi2
            rw [hz1, Int.toNat_natCast] at htz
            have hinv := brS_inv (a := z) (r := r) (by rw [hz2]) k2
            rw [hz2] at hinv
            simp only at hinv
            have hk1 : (((cc, aa) :: re).length : Int) - 1 = re.length := by simp
            rw [hk1]
            by_cases hcr : cc = r
            · rw [pfind, if_pos hcr] at hpf
              rw [hpf] at hF
              have hzr : z = (brS r).2 := hinv.1 hcr
              simp (disch := omega) [hbk, e0, hi2, htz, hzr, -getElem?_pos]
              refine wS_ap2 (hs2.push [some [.int .i64 aa, .int .i64 k]]) (hs1.push [some [.int .i64 aa, .int .i64 k]]) hdj.symm rfl rfl rfl (by omega) rfl (by rw [pcn_len]; have := hPO.olen; omega) (by omega) ?_
              intro d' h' h1' h2' hdj'
              have hpop := h2'.pop (cs' := sc re) (m := re.length) (r := [V.int .i64 (aa : Int)] ++ sc pre) ?_ (by rw [sc_len]; simp) (by omega)
              · simp (disch := omega) [wrap64]
                exact Rnd_of (m' := l.length - (k + 1)) (by omega) ⟨k + 1, ⟨re, p.out ++ [(aa, k)]⟩, _, d', by omega, rfl, hF, hPO.pair hpf, fun a ha => hop a (by rw [hpre]; simp at ha ⊢; exact .inr (.inr ha)), hpop, by rw [pcn_snoc]; exact h1', hdj'.symm, by simp (disch := omega)⟩
              · rw [hpre]; simp [sc]
            · rw [pfind, if_neg hcr] at hpf
              have hzr : ¬ z = (brS r).2 := fun e => hcr (hinv.2 e)
              simp (disch := omega) [hbk, e0, hi2, htz, hzr, wrap64, -getElem?_pos]
              exact Rnd_of (m' := re.length) (by simp) ⟨pre ++ [(cc, aa)], re, rfl, by rw [hpre]; simp, hpf, rfl, by simp (disch := omega)⟩
        · rw [if_neg k2] at hF
          have k0 : (brS r).1 = 0 := by
            rcases brS_cases r with h | ⟨p, _, _, h⟩ | ⟨p, _, _, h⟩
            · rw [h]
            · exact absurd (by rw [h]) k1
            · exact absurd (by rw [h]) k2
          simp (disch := omega) [hlt, hi, htr, hBr, k0, wrap64, -getElem?_pos]
          exact Rnd_of (m' := l.length - (k + 1)) (by omega) ⟨k + 1, p, v1, v2, by omega, rfl, hF, hPO.up, hop, hs1, hs2, hdj, by simp (disch := omega)⟩
    · rw [if_pos h13] at hF
      by_cases k0 : (brS r).1 = 0
      · simp (disch := omega) [hlt, hi, htr, hBr, k0, wrap64, -getElem?_pos]
        exact Rnd_of (m' := l.length - (k + 1)) (by omega) ⟨k + 1, p, v1, v2, by omega, rfl, hF, hPO.up, hop, hs1, hs2, hdj, by simp (disch := omega)⟩
      · simp (disch := omega) [hlt, hi, hcx, htr, hBr, k0, h13, wrap64, -getElem?_pos]
        exact Rnd_of (m' := l.length - (k + 1)) (by omega) ⟨k + 1, p, v1, v2, by omega, rfl, hF, hPO.up, hop, hs1, hs2, hdj, by simp (disch := omega)⟩
  · obtain rfl : k = l.length := by omega
    have hzn : (s0.zip rs).drop l.length = [] := List.drop_eq_nil_of_le (by simp; omega)
    rw [hzn, pgo] at hF
    have hol := hPO.olen
    rw [hF]
    have hsm : Sm p.out := fun x hx => by have := hPO.ord x hx; omega
    have hnd : (p.out.map (·.1)).Nodup := pgo_nodup (s0.zip rs) 0 ⟨[], []⟩ p.out (by simp) (by simp) (by simp) hF
    rcases hs2 with ⟨rfl, hnil⟩ | ⟨b, nn, cap, J, rfl, hb, hlen, hbk, hcap, hle⟩
    · have ho : p.out = [] := by
        have := congrArg List.length hnil
        rw [pcn_len] at this
        exact List.length_eq_zero_iff.1 (by simp at this; omega)
      have hs0 : srtS p.out = [] := List.length_eq_zero_iff.1 (by rw [srtS_len, ho]; rfl)
      simp (disch := omega)
      refine wC_loop (fun m fr H' => m = 0 ∧ Slots 128 [(8, .nils), (13, .int .i64 0)] fr) (m := 0) (by omega) ⟨rfl, by simp⟩ ?_
      rintro m fr H' ⟨rfl, hs⟩
      obtain ⟨j, rfl⟩ := hs.ex
      clear hs
      simp (disch := omega) [own, hs0]
    · obtain rfl : nn = p.out.length := by rw [pcn_len] at hlen; omega
      have hbl := blockOf_lt hbk
      simp (disch := omega)
      refine wC_loop (fun m fr H' => ∃ (i : Nat) (L : List (Nat × Nat)), i ≤ p.out.length ∧ m = p.out.length - i ∧ L.Perm p.out ∧ (L.take i).Pairwise (fun a b => a.1 ≤ b.1) ∧ blockOf H' b = some (pcn L ++ J) ∧
        Slots 128 [(8, .sl b 0 p.out.length cap 2), (13, .int .i64 i)] fr) (m := p.out.length) (by omega) ⟨0, p.out, by omega, by omega, .refl _, by simp, hbk, by simp⟩ ?_
      rintro m fr H' ⟨i, L, hi, rfl, hpm, hpw, hbk', hs⟩
      obtain ⟨j, rfl⟩ := hs.ex
      clear hs
      have hLl := hpm.length_eq
      by_cases hil : i < p.out.length
      · have hilI : (i : Int) < p.out.length := by omega
        simp (disch := omega) [hilI]
        obtain ⟨x, hx⟩ : ∃ x, L[i]? = some x := ⟨_, List.getElem?_eq_getElem (by omega)⟩
        have hsp : L = L.take i ++ x :: ([] ++ L.drop (i + 1)) := by
          conv => lhs; rw [← List.take_append_drop i L, List.drop_eq_getElem_cons (by omega)]
          rw [(List.getElem?_eq_some_iff.1 hx).2]
          rfl
        refine wC_loop (fun m fr H' => ∃ (pre : List (Nat × Nat)) (x : Nat × Nat) (post rest : List (Nat × Nat)), m = pre.length ∧ (pre ++ x :: (post ++ rest)).Perm p.out ∧ (pre ++ post).Pairwise (fun a b => a.1 ≤ b.1) ∧ (∀ y ∈ post, x.1 ≤ y.1) ∧ pre.length + post.length = i ∧ blockOf H' b = some (pcn (pre ++ x :: (post ++ rest)) ++ J) ∧
          Slots 128 [(8, .sl b 0 p.out.length cap 2), (13, .int .i64 i), (14, .int .i64 pre.length)] fr) (m := i) (by omega) ⟨L.take i, x, [], L.drop (i + 1), by simp; omega, by rw [← hsp]; exact hpm, by simpa using hpw, by simp, by simp; omega, by rw [← hsp]; exact hbk', by simp; omega⟩ ?_
        clear hbk' hpm hpw hsp hx hLl
        rintro m fr H' ⟨pre, x, post, rest, rfl, hpm, hpw, hxp, hpi, hbk', hs⟩
        obtain ⟨j, rfl⟩ := hs.ex
        clear hs
        have hLl := hpm.length_eq
        simp only [List.length_append, List.length_cons] at hLl
        have hbl' := blockOf_lt hbk'
        have e0 := pcn_0 pre x (post ++ rest) J
        have e1 := pcn_1 pre x (post ++ rest) J
        rcases List.eq_nil_or_concat pre with rfl | ⟨pre', z, rfl⟩
        · simp (disch := omega)
          refine wC_draw 14 (by kernel_rfl) ?_
          simp (disch := omega) [wrap64]
          simp only [List.nil_append, List.length_nil, Nat.zero_add] at *
          subst hpi
          exact Rnd_of (m' := p.out.length - (post.length + 1)) (by omega) ⟨post.length + 1, x :: (post ++ rest), by omega, rfl, hpm, by rw [show (x :: (post ++ rest)).take (post.length + 1) = x :: post by simp]; exact List.pairwise_cons.2 ⟨hxp, hpw⟩, hbk', by simp (disch := omega)⟩
        · rw [List.concat_eq_append] at *
          have hpp : (pre' ++ [z] ++ x :: (post ++ rest)) = pre' ++ z :: (x :: (post ++ rest)) := by simp
          have f0 := pcn_0 pre' z (x :: (post ++ rest)) J
          rw [hpp] at hbk' e0 e1
          simp only [List.length_append, List.length_cons, List.length_nil, Nat.zero_add] at *
          have hpl : (pcn (pre' ++ z :: x :: (post ++ rest))).length = p.out.length * 2 := by rw [pcn_len]; simp; omega
          have t0 := pcn_tk pre' z (x :: (post ++ rest)) J
          have t1 := pcn_tk (pre' ++ [z]) x (post ++ rest) J
          rw [hpp] at t1
          simp only [List.length_append, List.length_cons, List.length_nil, Nat.zero_add] at t1
          have w1 := pcn_set (pre' ++ [z]) x z (post ++ rest) J
          rw [hpp] at w1
          simp only [List.length_append, List.length_cons, List.length_nil, Nat.zero_add, List.append_assoc, List.singleton_append] at w1
          have w0 := pcn_set pre' z x (z :: (post ++ rest)) J
          have hB2 : ∀ X, blockOf (H'.set b X ++ [some [.int .i64 (x.1 : Int), .int .i64 (x.2 : Int)]]) H'.length = some [.int .i64 (x.1 : Int), .int .i64 (x.2 : Int)] := fun X => bA rfl
          have hB3 : ∀ Y, blockOf (H'.set b (some (pcn (pre' ++ z :: z :: (post ++ rest)) ++ J)) ++ Y) b = some (pcn (pre' ++ z :: z :: (post ++ rest)) ++ J) := fun Y => bS hbl' (pcn_map (by simp; omega) J)
          have hpz : (pcn (pre' ++ z :: z :: (post ++ rest))).length = p.out.length * 2 := by rw [pcn_len]; simp; omega
          have c1 : (pre'.length + 1) * 2 + 2 ≤ p.out.length * 2 + J.length := by omega
          have c0 : pre'.length * 2 + 2 ≤ p.out.length * 2 + J.length := by omega
          have g1 : ((pre'.length : Int) + 1).toNat = pre'.length + 1 := by omega
          have g2 : ((pre'.length : Int) + 1 - 1).toNat = pre'.length := by omega
          simp (disch := omega)
          refine wC_draw 14 (by kernel_rfl) ?_
          by_cases hzx : x.1 < z.1
          · have hzxI : (x.1 : Int) < z.1 := by omega
            simp (disch := omega) [hbk', e0, f0, g1, hpl, t0, t1, c0, c1, w0, w1, hB2, hB3, hpz, hzxI, wrap64, -getElem?_pos]
            refine Rnd_of (m' := pre'.length) (by simp) ⟨pre', x, z :: post, rest, rfl, ?_, by simpa using hpw, ?_, by simp; omega, ?_, by simp (disch := omega)⟩
            · refine List.Perm.trans ?_ hpm
              simp only [List.append_assoc, List.cons_append]
              exact List.Perm.append_left _ (List.Perm.swap ..)
            · intro y hy
              rcases List.mem_cons.1 hy with rfl | hy
              · omega
              · exact hxp y hy
            · have := bS (H := H'.set b (some (pcn (pre' ++ z :: z :: (post ++ rest)) ++ J)) ++ [some [V.int IntKind.i64 (x.1 : Int), V.int IntKind.i64 (x.2 : Int)]]) (b := b) (X := pcn (pre' ++ x :: z :: (post ++ rest)) ++ J) (Y := []) (by simp; omega) (pcn_map (by simp; omega) J)
              simpa using this
          · have hzxI : ¬ (x.1 : Int) < z.1 := by omega
            simp (disch := omega) [hbk', e0, f0, g1, hzxI, wrap64, -getElem?_pos]
            refine Rnd_of (m' := p.out.length - (i + 1)) (by omega) ⟨i + 1, pre' ++ z :: x :: (post ++ rest), by omega, rfl, by rw [← hpp]; exact hpm, ?_, hbk', by simp (disch := omega)⟩
            have ht : (pre' ++ z :: x :: (post ++ rest)).take (i + 1) = pre' ++ z :: x :: post := by
              rw [show pre' ++ z :: x :: (post ++ rest) = (pre' ++ z :: x :: post) ++ rest by simp]
              exact List.take_left' (by simp; omega)
            rw [ht]
            simp only [List.append_assoc, List.singleton_append] at hpw
            obtain ⟨q1, q2, q3⟩ := List.pairwise_append.1 hpw
            obtain ⟨q4, q5⟩ := List.pairwise_cons.1 q2
            refine List.pairwise_append.2 ⟨q1, List.pairwise_cons.2 ⟨?_, List.pairwise_cons.2 ⟨hxp, q5⟩⟩, ?_⟩
            · intro y hy
              rcases List.mem_cons.1 hy with rfl | hy
              · omega
              · exact q4 y hy
            · intro y hy w hw
              rcases List.mem_cons.1 hw with rfl | hw
              · exact q3 y hy _ (List.mem_cons_self ..)
              · rcases List.mem_cons.1 hw with rfl | hw
                · have := q3 y hy z (List.mem_cons_self ..); omega
                · exact q3 y hy w (List.mem_cons_of_mem _ hw)
      · have hilI : ¬ (i : Int) < p.out.length := by omega
        obtain rfl : i = p.out.length := by omega
        rw [List.take_of_length_le (by omega)] at hpw
        have hLs := srtS_uniq hsm hpm hpw hnd
        rw [hLs] at hbk'
        have hpl : (pcn (srtS p.out)).length = p.out.length * 2 := by rw [pcn_len, srtS_len]
        have hown : ∀ c ∈ pcn (srtS p.out), own H' 5 c = true := by
          intro c hc
          simp only [pcn, List.mem_flatMap] at hc
          obtain ⟨w, _, hw⟩ := hc
          simp at hw
          rcases hw with rfl | rfl <;> rfl
        simp (disch := omega) [hilI]
        refine ⟨?_, ?_⟩
        · simp only [own, hbk']
          rw [List.drop_zero, List.take_left' hpl]
          exact List.all_eq_true.2 hown
        · rw [frz_sl, if_neg (by omega), hbk']
          simp only [Nat.zero_add, List.drop_zero]
          rw [if_pos (by simp; omega), List.take_left' hpl, mapM_frz_rf (pcn_rf _) (pcn_nn _)]
          simp only [pcn_rf, if_true]
          rw [← srtS_len, pcn_chunk]
end
end Bi
end Go.Ab
/- The reference: levels. -/
namespace Go.Ab
open Go.Proofs
namespace Bi
/-- The first i of a, then those of b. -/
def mixL (a b : List Int) (i : Nat) : List Int := a.take i ++ b.drop i
theorem mixL_len {a b : List Int} (h : a.length = b.length) (i : Nat) : (mixL a b i).length = b.length := by
  simp only [mixL, List.length_append, List.length_take, List.length_drop]
  omega
theorem mixL_zero (a b : List Int) : mixL a b 0 = b := by simp [mixL]
theorem mixL_all {a b : List Int} (h : a.length = b.length) : mixL a b b.length = a := by
  rw [mixL, List.drop_length, List.append_nil, ← h, List.take_length]
theorem mixL_set {a b : List Int} (h : a.length = b.length) {i : Nat} (hi : i < b.length) {v : Int} (hv : a[i]? = some v) : (mixL a b i).set i v = mixL a b (i + 1) := by
  unfold mixL
  have hl : (a.take i).length = i := by simp; omega
  rw [List.set_append_right _ _ (by omega), hl, Nat.sub_self, List.drop_eq_getElem_cons hi, List.set_cons_zero, List.take_add_one, hv]
  simp
theorem mixL_at {a b : List Int} (h : a.length = b.length) {i j : Nat} (hj : j < i) (hi : i ≤ b.length) : (mixL a b i)[j]? = a[j]? := by
  rw [mixL, List.getElem?_append_left (by simp; omega), List.getElem?_take_of_lt hj]
theorem rseq_WB {t c c1 c2 c3 : List Int} {s : Sq} {n : Nat} (hc : c.length = n) (hp : Pl n s.l) (h1 : WB c s.l (rweak s.sos (s.l.map (lvl (t.map bidi))) (s.l.map (lvl c))) c1)
    (_h2 : WB c s.l (brks (strS s.lev) s.sos (s.l.map (lvl (t.map bidi))) (prsS ((s.l.map (lvl c1)).zip (s.l.map (lvl t)))) (rweak s.sos (s.l.map (lvl (t.map bidi))) (s.l.map (lvl c)))) c2)
    (h3 : WB c s.l (neuF (strS s.lev) s.eos s.sos 0 (brks (strS s.lev) s.sos (s.l.map (lvl (t.map bidi))) (prsS ((s.l.map (lvl c1)).zip (s.l.map (lvl t)))) (rweak s.sos (s.l.map (lvl (t.map bidi))) (s.l.map (lvl c))))) c3) : WB c s.l (rseq t (t.map bidi) s c) c3 := by
  have e := WB_map h1 (fun i hi => by have := hp.rng i hi; omega)
  rw [e] at h3
  exact h3
section
variable {prim : FuncId → Option Prim} (d : Nat)
set_option maxRecDepth 100000 in
set_option maxHeartbeats 8000000 in
theorem rlevels_ok (hp : ∀ f, f ≠ 17 ∧ f ≠ 82 ∧ f ≠ 15 ∧ f ≠ 51 ∧ f ≠ 27 → prim f = none) (t : List Int) (ht : t.length ≤ 2000) (hne : t ≠ []) (base : Int) :
    ∃ r, (∀ cfg h args, args.mapM (frzA h) = some [rl t, .int .i64 base] → callM md (K prim (d + 6)) cfg 16 args h = some (il r, h)) ∧ RLevR t base r := by
  suffices HH : ∃ r' h', K prim (d + 6) ⟨0, none, 0⟩ 16 [rl t, .int .i64 base] [] = some (r', h') ∧ (own h' 6 r' = true ∧ ∃ r, frz h' 0 6 r' = some (il r) ∧ RLevR t base r) by
    obtain ⟨r', h', h1, h2, r, h3, h4⟩ := HH
    refine ⟨r, fun cfg h args ha => ?_, h4⟩
    have hm : md 16 = 3 := rfl
    simp only [callM, hm, ha, h1, h2, h3, if_true]
  refine callN_of (R := fun r' h' => own h' 6 r' = true ∧ ∃ r, frz h' 0 6 r' = some (il r) ∧ RLevR t base r) (hp 16 (by decide)) Try.func16 rfl rfl rfl ?_
  have h38 := hp 38 (by decide)
  have h39 := hp 39 (by decide)
  have h40 := hp 40 (by decide)
  have h41 := hp 41 (by decide)
  have h42 := hp 42 (by decide)
  have h43 := hp 43 (by decide)
  have h44 := hp 44 (by decide)
  have h45 := hp 45 (by decide)
  have h46 := hp 46 (by decide)
  have h47 := hp 47 (by decide)
  have h63 := hp 63 (by decide)
  have h64 := hp 64 (by decide)
  have h65 := hp 65 (by decide)
  have h66 := hp 66 (by decide)
  have h67 := hp 67 (by decide)
  have h68 := hp 68 (by decide)
  have h69 := hp 69 (by decide)
  have h70 := hp 70 (by decide)
  have h71 := hp 71 (by decide)
  have h84 := hp 84 (by decide)
  have h91 := hp 91 (by decide)
  have hBa := fun cfg h => rbase_ok (prim := prim) (d + 1) cfg h h38 h64 h63 h71 h47 t ht base (args := [rl t, .int .i64 base]) rfl
  unfold RLevR
  have he : 0 ≤ baseS bidi t base ∧ baseS bidi t base ≤ 1 := baseS_rng
  have hEx := rexplicit_ok (prim := prim) d h39 h71 h47 h63 h64 h65 h38 t t.length rfl ht (baseS bidi t base) he
  obtain ⟨T, hEx⟩ := hEx
  have hSq := fun lv hlv e cfg h args ha => rseqs_ok (prim := prim) d cfg h h40 h45 h71 h47 h63 h64 t lv t.length rfl hlv ht e (args := args) ha
  have hon : (t.map bidi).length = t.length := by simp
  have hgt : ∀ (j : Nat) (z : Int), t[j]? = some z → (t.map bidi)[j]? = some (bidi z) := fun j z hz => by rw [List.getElem?_map, hz]; rfl
  have hG := fun cfg h r => rgone_ok (prim := prim) (d + 2) cfg h h45 h71 h47 r
  have hB := fun cfg h r => rbidi_ok (prim := prim) (d + 3) cfg h h71 h47 r
  generalize baseS bidi t base = e at *
  have hWk := fun c c0 l s st H b (hcn : c.length = t.length) (h0n : c0.length = t.length) hl hll hW hb => rweak_ok (prim := prim) (d + 2) ⟨0, none, 0⟩ h42 h71 h47 h63 t c c0 l s t.length rfl hcn h0n ht hl hll hW st H b hb (wr_lo0 ..)
  have hPr := fun cfg h c l (hcn : c.length = t.length) hl hll args ha => rpairs_ok (prim := prim) (d + 1) cfg h h67 h84 h91 t c l t.length hcn rfl ht hl hll (args := args) ha
  have hBk := fun c c0 l s0 (hcn : c.length = t.length) (h0n : c0.length = t.length) hl hll hW lv st hlv H b hb ps hps hpl hP => rbrackets_ok (prim := prim) (d + 1) ⟨0, none, 0⟩ h43 h69 h71 h47 h66 h68 t c c0 l s0 t.length rfl hcn h0n ht hl hll hW lv st hlv H b hb (wr_lo0 ..) ps hps hpl hP
  have hNe := fun c c0 l s (hcn : c.length = t.length) (h0n : c0.length = t.length) hl hll hW lv st e hlv H b hb => rneutral_ok (prim := prim) (d + 2) ⟨0, none, 0⟩ h44 h68 h66 c c0 l s t.length hcn h0n ht hl hll hW lv st e hlv H b hb (wr_lo0 ..)
  have hTr := fun lv (hlv : lv.length = t.length) k hk H b hb => rtrail_ok (prim := prim) (d + 2) ⟨0, none, 0⟩ h46 h71 h47 h70 h63 t lv t.length rfl hlv ht e k hk H b hb (wr_lo0 ..)
  have hEn := fun cfg h lv l (hlv : lv.length = t.length) hll f g hf hg hfn hgn hl0 args ha => rends_ok (prim := prim) (d + 1) cfg h h41 h71 h47 h63 h45 h66 t lv l t.length rfl hlv ht hll f g hf hg hfn hgn e hl0 (args := args) ha
  have hxl := expl_len e (t.map bidi)
  have hlr := expl_rng he (t.map bidi)
  have hcl : ((expl e (t.map bidi)).map (·.2)).length = t.length := by simp [hxl]
  have hll : ((expl e (t.map bidi)).map (·.1)).length = t.length := by simp [hxl]
  generalize hc0 : (expl e (t.map bidi)).map (·.2) = c0 at *
  generalize hl0 : (expl e (t.map bidi)).map (·.1) = lv at *
  have hS1 := hSq lv hll e
  have hsf := fun s hs => sq_facts (e := e) (Mc_ok (t.map bidi)) hon hll hlr (s := s) hs
  have hse := fun s hs => sq_ends (e := e) (Mc_ok (t.map bidi)) hon hll (s := s) hs
  have hsl : (seqsS (t.map bidi) (Mc (t.map bidi)) lv t.length e).length ≤ t.length := by
    unfold seqsS
    have h1 := sqsU_len (t.map bidi) (fol (t.map bidi) (Mc (t.map bidi)) (grp lv (keptL (t.map bidi) t.length) (keptL (t.map bidi) t.length).length)) (grp lv (keptL (t.map bidi) t.length) (keptL (t.map bidi) t.length).length) lv (keptL (t.map bidi) t.length) e (grp lv (keptL (t.map bidi) t.length) (keptL (t.map bidi) t.length).length).length
    have h2 := grp_len lv (keptL (t.map bidi) t.length) (keptL (t.map bidi) t.length).length
    have h3 := keptL_len (t.map bidi) t.length
    omega
  generalize hss : seqsS (t.map bidi) (Mc (t.map bidi)) lv t.length e = ss at *
  have hn0 : ¬ (t.length : Int) = 0 := by
    have := List.length_pos_iff.2 hne
    omega
  have hnI : ¬ (2000 : Int) < t.length := by omega
  have hn0' : ¬ t.length = 0 := by omega
  have hm39 : md 39 = 2 := rfl
  have hfz0 : ∀ X, frzA (some (lv.map (V.int .i64)) :: X) (.sl 0 0 t.length t.length 1) = some (il lv) := fun X => by
    have := frzA_front (h := some (lv.map (V.int .i64)) :: X) (b := 0) (cap := t.length) (k := .i64) (l := lv) (J := []) (by simp)
    rw [hll] at this
    exact this
  have hfz1 : ∀ (c : List Int) (a : Option (List V)) (X : Heap), c.length = t.length → frzA (a :: some (c.map (V.int .i64)) :: X) (.sl 1 0 t.length t.length 1) = some (il c) := fun c a X hc => by
    have := frzA_front (h := a :: some (c.map (V.int .i64)) :: X) (b := 1) (cap := t.length) (k := .i64) (l := c) (J := []) (by simp)
    rw [hc] at this
    exact this
  have hS2 : ∀ cfg X, callM md (K prim (d + 5)) cfg 40 [rl t, .sl 0 0 t.length t.length 1] (some (lv.map (V.int .i64)) :: X) = some (.lst (ss.map fun s => [il s.l]), some (lv.map (V.int .i64)) :: X) := fun cfg X => by
    have := hS1 cfg (some (lv.map (V.int .i64)) :: X) [rl t, .sl 0 0 t.length t.length 1] (by simp [List.mapM_cons, hfz0])
    exact this
  have hlen : lenV Try.prog 57 (.lst (ss.map fun s => [il s.l])) = some (.int .i64 ss.length) := by
    rw [lenL_eq (e := 22) (by kernel_rfl)]
    simp
  simp (disch := omega) [hn0', hnI, hBa, hEx, hS2]
  refine wC_loop (fun m fr H => ∃ (i : Nat) (c : List Int), i ≤ ss.length ∧ m = ss.length - i ∧ H = some (lv.map (V.int .i64)) :: some (c.map (V.int .i64)) :: T ∧ c.length = t.length ∧ RStps t (t.map bidi) (ss.take i) c0 c ∧
    Slots 217 [(0, rl t), (5, .int .i64 e), (6, .sl 0 0 t.length t.length 1), (7, .sl 1 0 t.length t.length 1), (8, .lst (ss.map fun s => [il s.l])), (9, .int .i64 i)] fr) (m := ss.length) (by omega) ⟨0, c0, by omega, by omega, rfl, hcl, rfl, by simp⟩ ?_
  rintro m fr H ⟨i, c, hi, rfl, rfl, hcn, hRS, hs⟩
  obtain ⟨j, rfl⟩ := hs.ex
  clear hs
  by_cases hlt : i < ss.length
  · obtain ⟨s, hs⟩ : ∃ s, ss[i]? = some s := ⟨_, List.getElem?_eq_getElem hlt⟩
    have hsm := List.mem_of_getElem? hs
    obtain ⟨f1, f2, f3, f4⟩ := hsf s hsm
    obtain ⟨g1, g2, g3⟩ := hse s hsm
    have hidx : indexAddrV Try.prog 57 (.lst (ss.map fun s => [il s.l])) (.int .i64 i) = some (.lptr [il s.l] 0) := by
      rw [idxL_eq (e := 22) (s := 1) (by kernel_rfl) (by kernel_rfl), idxL_of (by omega), Int.toNat_natCast, List.getElem?_map, hs]
      rfl
    have htk : ss.take (i + 1) = ss.take i ++ [s] := by rw [List.take_add_one, hs]; rfl
    have hiI : (i : Int) < ss.length := by omega
    have hf0 := headD_of g3
    have hg0 := lastD_of g3
    have hfr := f1.rng _ (List.mem_of_getElem? hf0)
    have hgr := f1.rng _ (List.mem_of_getElem? hg0)
    have hlvf := hlr (lvl lv (s.l.headD 0)) (by
      have : lv[(s.l.headD 0).toNat]? = some (lvl lv (s.l.headD 0)) := by rw [lvl, List.getD_eq_getElem?_getD, List.getElem?_eq_getElem (by omega)]; rfl
      exact List.mem_of_getElem? this)
    have hlvx : lv[(s.l.headD 0).toNat]? = some (lvl lv (s.l.headD 0)) := by rw [lvl, List.getD_eq_getElem?_getD, List.getElem?_eq_getElem (by omega)]; rfl
    generalize s.l.headD 0 = fx at *
    generalize s.l.getLastD 0 = gx at *
    obtain ⟨fx, rfl⟩ : ∃ n : Nat, fx = n := ⟨fx.toNat, by omega⟩
    obtain ⟨gx, rfl⟩ : ∃ n : Nat, gx = n := ⟨gx.toNat, by omega⟩
    have hEn' : ∀ cfg X, callM md (K prim (d + 5)) cfg 41 [rl t, .sl 0 0 t.length t.length 1, .int .i64 e, il s.l] (some (lv.map (V.int .i64)) :: X) = some (.tup [.int .i64 s.sos, .int .i64 s.eos], some (lv.map (V.int .i64)) :: X) := fun cfg X => by
      have := hEn cfg (some (lv.map (V.int .i64)) :: X) lv s.l hll (by omega) fx gx hf0 hg0 (by omega) (by omega) hlvf.1 [rl t, .sl 0 0 t.length t.length 1, .int .i64 e, il s.l] (by simp [List.mapM_cons, hfz0])
      rw [g1] at this
      exact this
    obtain ⟨c1, w1, hW1⟩ := hWk c c s.l (s.l.map (lvl c)) s.sos (some (lv.map (V.int .i64)) :: some (c.map (V.int .i64)) :: T) 1 hcn hcn f1 (by omega) (WB.start (by rw [hcn]; exact f1)) (by simp)
    have hc1 : c1.length = t.length := w1.len.trans hcn
    simp only [List.set_cons_succ, List.set_cons_zero] at hW1
    obtain ⟨q1, q2⟩ := prsS_ok (l := (s.l.map (lvl c1)).zip (s.l.map (lvl t))) (by simp; omega)
    have hzl2 : ((s.l.map (lvl c1)).zip (s.l.map (lvl t))).length ≤ s.l.length := by simp
    obtain ⟨c2, w2, hW2⟩ := hBk c1 c s.l _ hc1 hcn f1 (by omega) w1 s.lev s.sos f3.1 (some (lv.map (V.int .i64)) :: some (c1.map (V.int .i64)) :: T) 1 (by simp) _ (fun p hp => by have := q1 p hp; omega) q2 (fun cfg => hPr cfg _ c1 s.l hc1 f1 (by omega) _ (by simp [List.mapM_cons, hfz1 c1 _ _ hc1]))
    have hc2 : c2.length = t.length := w2.len.trans hcn
    simp only [List.set_cons_succ, List.set_cons_zero] at hW2
    obtain ⟨c3, w3, hW3⟩ := hNe c2 c s.l _ hc2 hcn f1 (by omega) w2 s.lev s.sos s.eos f3.1 (some (lv.map (V.int .i64)) :: some (c2.map (V.int .i64)) :: T) 1 (by simp)
    have hc3 : c3.length = t.length := w3.len.trans hcn
    simp only [List.set_cons_succ, List.set_cons_zero] at hW3
    have hrw := rseq_WB hcn f1 w1 w2 w3
    rw [g2] at hW2 hW3
    have hlvy : lv[fx]? = some (lvl lv (fx : Int)) := hlvx
    simp (disch := omega) [hlen, hiI, hidx, hEn', hW1, hW2, hW3, hf0, hlvy, wrap64, -getElem?_pos]
    exact Rnd_of (m' := ss.length - (i + 1)) (by omega) ⟨i + 1, c3, by omega, rfl, rfl, hc3, by rw [htk]; exact hRS.snoc hrw, by simp (disch := omega)⟩
  · obtain rfl : i = ss.length := by omega
    rw [List.take_length] at hRS
    have hiI : ¬ (ss.length : Int) < ss.length := by omega
    have hz2 : zerosFor [V.int .i64 0] t.length = (List.replicate t.length 0).map (V.int .i64) := zerosFor_int ..
    simp (disch := omega) [hlen, hiI, hz2]
    have hzl : (List.zipWith raiS lv c).length = t.length := by simp only [List.length_zipWith]; omega
    obtain ⟨res, hres⟩ : ∃ res, res = remL e (t.map bidi) (List.zipWith raiS lv c) := ⟨_, rfl⟩
    have hrl : res.length = t.length := by rw [hres, remL_len _ _ _ (by omega), hzl]
    have hr0 : ∀ x a, (t.map bidi)[0]? = some x → (List.zipWith raiS lv c)[0]? = some a → res[0]? = some (if gone x then e else a) := fun x a h1 h2 => by rw [hres]; exact remL_zero h1 h2
    have hrS : ∀ (i : Nat) x a q, (t.map bidi)[i + 1]? = some x → (List.zipWith raiS lv c)[i + 1]? = some a → res[i]? = some q → res[i + 1]? = some (if gone x then q else a) := fun i x a q h1 h2 h3 => by rw [hres] at h3 ⊢; exact remL_succ _ _ _ _ _ _ _ h1 h2 h3
    have hrN : ∀ (i : Nat) x a, (t.map bidi)[i]? = some x → (List.zipWith raiS lv c)[i]? = some a → gone x = false → res[i]? = some a := by
      intro i x a h1 h2 hg
      cases i with
      | zero => rw [hr0 x a h1 h2, hg]; rfl
      | succ i =>
        have hil := (List.getElem?_eq_some_iff.1 h1).1
        rw [hrS i x a _ h1 h2 (List.getElem?_eq_getElem (by omega)), hg]
        rfl
    have hRL : ∃ c', RStps t (t.map bidi) ss c0 c' ∧ rtr2 (t.map bidi) e t.length (rtrl (t.map bidi) e t.length res) = rtr2 (t.map bidi) e t.length (rtrl (t.map bidi) e t.length (remL e (t.map bidi) (List.zipWith raiS lv c'))) := ⟨c, hRS, by rw [hres]⟩
    clear hres
    have hzr : res.length = (List.replicate t.length (0 : Int)).length := by simp [hrl]
    rw [← List.map_replicate]
    generalize hZ0 : List.replicate t.length (0 : Int) = Z0 at *
    have hZl : Z0.length = t.length := by rw [← hZ0]; simp
    refine wC_loop (fun m fr H => ∃ (i : Nat), i ≤ t.length ∧ m = t.length - i ∧ H = some (lv.map (V.int .i64)) :: some (c.map (V.int .i64)) :: (T ++ [some ((mixL res Z0 i).map (V.int .i64))]) ∧
      Slots 217 [(0, rl t), (5, .int .i64 e), (6, .sl 0 0 t.length t.length 1), (7, .sl 1 0 t.length t.length 1), (13, .sl (T.length + 1 + 1) 0 t.length t.length 1), (14, .int .i64 i)] fr) (m := t.length) (by omega) ⟨0, by omega, by omega, by rw [mixL_zero], by simp⟩ ?_
    rintro m fr H ⟨i, hi, rfl, rfl, hs⟩
    obtain ⟨j2, rfl⟩ := hs.ex
    clear hs
    by_cases hlt2 : i < t.length
    · obtain ⟨z, hz⟩ : ∃ z, t[i]? = some z := ⟨_, List.getElem?_eq_getElem hlt2⟩
      have hx := hgt i z hz
      have hltI : (i : Int) < t.length := by omega
      have hmx := mixL_len hzr i
      have hi1 : i + 1 ≤ t.length := hlt2
      have hlvi : lv[i]? = some (lvl lv (i : Int)) := lvl_of (by omega)
      have hci : c[i]? = some (lvl c (i : Int)) := lvl_of (by omega)
      have hza : (List.zipWith raiS lv c)[i]? = some (raiS (lvl lv (i : Int)) (lvl c (i : Int))) := by rw [List.getElem?_zipWith, hlvi, hci]
      have bL : ∀ (y1 y2 : Option (List V)) (Y : List V) (T' : Heap), isMap Y = false → blockOf (y1 :: y2 :: (T ++ some Y :: T')) (T.length + 1 + 1) = some Y := fun y1 y2 Y T' hY => by
        have := blockOf_len_add (h := T) (r := some Y :: T') (k := 0)
        simp [hY]
      have hself : ∀ v : Int, slot (((mixL res Z0 i).map (V.int .i64)).set i (.int .i64 v)) i = some (.int .i64 v) := fun v => by
        rw [slot, List.getElem?_set_self (by simp; omega)]
      have hS := fun v hv => mixL_set hzr (i := i) (by omega) (v := v) hv
      cases hg : gone (bidi z)
      · have hv := hS _ (hrN i _ _ hx hza hg)
        have hLr := hlr _ (List.mem_of_getElem? hlvi)
        have htm : (lvl lv (i : Int)).tmod 2 = lvl lv (i : Int) % 2 := Int.tmod_eq_emod_of_nonneg hLr.1
        have hfin : ∀ (v : Int), raiS (lvl lv (i : Int)) (lvl c (i : Int)) = v → (mixL res Z0 i).set i v = mixL res Z0 (i + 1) := fun v h => by rw [← h]; exact hv
        clear hv hza hS
        generalize lvl lv (i : Int) = L at *
        generalize lvl c (i : Int) = C at *
        simp (disch := omega) [hltI, hz, hG, hg, hlvi, hmx, hZl, hi1, htm, -getElem?_pos]
        by_cases p0 : L % 2 = 0
        · have p1 : ¬ L % 2 = 1 := by omega
          by_cases c1 : C = 1
          · have hf := hfin (L + 1) (by unfold raiS; rw [if_pos ⟨p0, c1⟩])
            simp (disch := omega) [p0, c1, hci, hself, hmx, hZl, hi1, wrap64, -getElem?_pos]
            exact Rnd_of (m' := t.length - (i + 1)) (by omega) ⟨i + 1, by omega, rfl, by rw [← hf]; simp [setS, List.map_set], by simp (disch := omega)⟩
          · by_cases c6 : C = 6
            · have hf := hfin (L + 2) (by unfold raiS; rw [if_neg (fun h => c1 h.2), if_pos ⟨p0, .inl c6⟩])
              simp (disch := omega) [p0, c6, hlvi, hci, htm, hself, hmx, hZl, hi1, wrap64, -getElem?_pos]
              exact Rnd_of (m' := t.length - (i + 1)) (by omega) ⟨i + 1, by omega, rfl, by rw [← hf]; simp [setS, List.map_set], by simp (disch := omega)⟩
            · by_cases c3 : C = 3
              · have hf := hfin (L + 2) (by unfold raiS; rw [if_neg (fun h => c1 h.2), if_pos ⟨p0, .inr c3⟩])
                simp (disch := omega) [p0, c3, hlvi, hci, htm, hself, hmx, hZl, hi1, wrap64, -getElem?_pos]
                exact Rnd_of (m' := t.length - (i + 1)) (by omega) ⟨i + 1, by omega, rfl, by rw [← hf]; simp [setS, List.map_set], by simp (disch := omega)⟩
              · have hf := hfin L (by unfold raiS; rw [if_neg (fun h => c1 h.2), if_neg (fun h => by omega), if_neg (fun h => by omega)])
                simp (disch := omega) [p0, c1, c6, c3, hlvi, hci, htm, wrap64, -getElem?_pos]
                exact Rnd_of (m' := t.length - (i + 1)) (by omega) ⟨i + 1, by omega, rfl, by rw [← hf]; simp [List.map_set], by simp (disch := omega)⟩
        · have p1 : L % 2 = 1 := by omega
          by_cases c1 : C = 1
          · have hf := hfin L (by unfold raiS; rw [if_neg (fun h => p0 h.1), if_neg (fun h => p0 h.1), if_neg (fun h => h.2 c1)])
            simp (disch := omega) [p1, c1, hlvi, hci, htm, wrap64, -getElem?_pos]
            exact Rnd_of (m' := t.length - (i + 1)) (by omega) ⟨i + 1, by omega, rfl, by rw [← hf]; simp [List.map_set], by simp (disch := omega)⟩
          · have hf := hfin (L + 1) (by unfold raiS; rw [if_neg (fun h => p0 h.1), if_neg (fun h => p0 h.1), if_pos ⟨p1, c1⟩])
            simp (disch := omega) [p1, c1, hlvi, hci, htm, hself, hmx, hZl, hi1, wrap64, -getElem?_pos]
            exact Rnd_of (m' := t.length - (i + 1)) (by omega) ⟨i + 1, by omega, rfl, by rw [← hf]; simp [setS, List.map_set], by simp (disch := omega)⟩
      · by_cases hi0 : i = 0
        · subst hi0
          have hv := hS _ (hr0 _ _ hx hza)
          rw [hg] at hv
          have h00 : ¬ 0 < 0 := by omega
          simp (disch := omega) [hz, hG, hg, hmx, hZl, hi1, hlt2, wrap64, -getElem?_pos]
          exact Rnd_of (m' := t.length - (0 + 1)) (by omega) ⟨0 + 1, by omega, rfl, by rw [← hv]; simp [List.map_set], by simp (disch := omega)⟩
        · have hiI0 : (0 : Int) < i := by omega
          have hin : ((i : Int) - 1).toNat = i - 1 := by omega
          obtain ⟨k, rfl⟩ : ∃ k, i = k + 1 := ⟨i - 1, by omega⟩
          obtain ⟨q, hq⟩ : ∃ q, res[k]? = some q := ⟨_, List.getElem?_eq_getElem (by omega)⟩
          have hv := hS _ (hrS k _ _ q hx hza hq)
          rw [hg] at hv
          have hmk : (mixL res Z0 (k + 1))[k]? = some q := by rw [mixL_at hzr (by omega) (by omega)]; exact hq
          have hprev : ∀ v, slot (((mixL res Z0 (k + 1)).map (V.int .i64)).set (k + 1) (.int .i64 v)) k = some (.int .i64 q) := fun v => by
            rw [slot, List.getElem?_set_ne (by omega), List.getElem?_map, hmk]
            rfl
          have hkk : (((k + 1 : Nat) : Int) - 1).toNat = k := by omega
          have hk1 : k + 1 ≤ t.length := by omega
          have hltI2 : (k : Int) + 1 < t.length := by omega
          have hkk2 : ((k : Int) + 1 - 1).toNat = k := by omega
          have hk0 : (0 : Int) < (k : Int) + 1 := by omega
          simp (disch := omega) [hltI2, hz, hG, hg, hmx, hZl, hi1, hk0, hprev, wrap64, -getElem?_pos]
          exact Rnd_of (m' := t.length - (k + 1 + 1)) (by omega) ⟨k + 1 + 1, by omega, rfl, by rw [← hv]; simp [setS, List.map_set], by simp (disch := omega)⟩
    · obtain rfl : i = t.length := by omega
      have hltI : ¬ (t.length : Int) < t.length := by omega
      rw [show mixL res Z0 t.length = res by rw [← hZl]; exact mixL_all hzr]
      have hTr' : ∀ (Y : List Int) (k : Nat), Y.length = t.length → k ≤ t.length → callM md (K prim (d + 5)) ⟨0, none, 0⟩ 46 [rl t, .sl (T.length + 1 + 1) 0 t.length t.length 1, .int .i64 e, .int .i64 k] (some (lv.map (V.int .i64)) :: some (c.map (V.int .i64)) :: (T ++ [some (Y.map (V.int .i64))])) =
          some (.tup [], some (lv.map (V.int .i64)) :: some (c.map (V.int .i64)) :: (T ++ [some ((rtrl (t.map bidi) e k Y).map (V.int .i64))])) := fun Y k hY hk => by
        rw [hTr Y hY k hk _ (T.length + 1 + 1) (by simp)]
        simp
      have hT0 := hTr' res t.length hrl (Nat.le_refl _)
      simp (disch := omega) [hltI, hT0]
      have hzz : (rtrl (t.map bidi) e t.length res).length = t.length := by rw [rtrl_len, hrl]
      generalize rtrl (t.map bidi) e t.length res = Z at *
      refine wC_loop (fun m fr H => ∃ (i : Nat), i ≤ t.length ∧ m = t.length - i ∧ H = some (lv.map (V.int .i64)) :: some (c.map (V.int .i64)) :: (T ++ [some ((rtr2 (t.map bidi) e i Z).map (V.int .i64))]) ∧
        Slots 217 [(0, rl t), (5, .int .i64 e), (13, .sl (T.length + 1 + 1) 0 t.length t.length 1), (15, .int .i64 i)] fr) (m := t.length) (by omega) ⟨0, by omega, by omega, rfl, by simp⟩ ?_
      rintro m fr H ⟨i, hi, rfl, rfl, hs⟩
      obtain ⟨j3, rfl⟩ := hs.ex
      clear hs
      have hrt := (rtr2_len (t.map bidi) e Z i).trans hzz
      by_cases hlt3 : i < t.length
      · obtain ⟨z, hz⟩ : ∃ z, t[i]? = some z := ⟨_, List.getElem?_eq_getElem hlt3⟩
        have hx := hgt i z hz
        have hltJ : (i : Int) < t.length := by omega
        have hi1 : i + 1 ≤ t.length := hlt3
        have hod : (t.map bidi).getD i 0 = bidi z := by rw [List.getD_eq_getElem?_getD, hx]; rfl
        have bL : ∀ (y1 y2 : Option (List V)) (Y : List V) (T' : Heap), isMap Y = false → blockOf (y1 :: y2 :: (T ++ some Y :: T')) (T.length + 1 + 1) = some Y := fun y1 y2 Y T' hY => by
          have := blockOf_len_add (h := T) (r := some Y :: T') (k := 0)
          simp [hY]
        have hT1 := hTr' ((rtr2 (t.map bidi) e i Z).set i e) i (by simp [hrt]) hi
        have hrs : rtr2 (t.map bidi) e (i + 1) Z = if bidi z = 11 ∨ bidi z = 10 then rtrl (t.map bidi) e i ((rtr2 (t.map bidi) e i Z).set i e) else rtr2 (t.map bidi) e i Z := by
          rw [← hod]; rfl
        simp only [List.map_set] at hT1
        by_cases h11 : bidi z = 11
        · rw [if_pos (.inl h11)] at hrs
          simp (disch := omega) [hltJ, hz, hB, h11, hrt, hi1, hT1, wrap64, -getElem?_pos]
          exact Rnd_of (m' := t.length - (i + 1)) (by omega) ⟨i + 1, by omega, rfl, by rw [hrs], by simp (disch := omega)⟩
        · by_cases h10 : bidi z = 10
          · rw [if_pos (.inr h10)] at hrs
            simp (disch := omega) [hltJ, hz, hB, h10, hrt, hi1, hT1, wrap64, -getElem?_pos]
            exact Rnd_of (m' := t.length - (i + 1)) (by omega) ⟨i + 1, by omega, rfl, by rw [hrs], by simp (disch := omega)⟩
          · rw [if_neg (by omega)] at hrs
            simp (disch := omega) [hltJ, hz, hB, h11, h10, wrap64, -getElem?_pos]
            exact Rnd_of (m' := t.length - (i + 1)) (by omega) ⟨i + 1, by omega, rfl, by rw [hrs], by simp (disch := omega)⟩
      · obtain rfl : i = t.length := by omega
        simp (disch := omega) [hltI]
        have hbk : blockOf (some (lv.map (V.int .i64)) :: some (c.map (V.int .i64)) :: (T ++ [some ((rtr2 (t.map bidi) e t.length Z).map (V.int .i64))])) (T.length + 1 + 1) = some ((rtr2 (t.map bidi) e t.length Z).map (V.int .i64)) := by simp
        obtain ⟨c', k1, k2⟩ := hRL
        refine ⟨own_ints (d := 4) hbk, rtr2 (t.map bidi) e t.length Z, frz_ints (d := 4) hbk (Nat.zero_le _) hrt, c', k1, k2⟩
end
end Bi
end Go.Ab
/- Levels: the program's and the reference's are one list. -/
namespace Go.Ab
open Go.Proofs
namespace Bi
theorem rno (d : Nat) (base : Int) (cfg : Cfg) (H : Heap) (args : List V) (ha : args.mapM (frzA H) = some [.lst [], .int .i64 base]) : callM md (K pL (d + 1)) cfg 16 args H = some (.lst [], H) := by
  refine call3 rfl (pL_none 16 (by decide)) Try.func16 rfl rfl rfl ha ?_
  simp [own]
theorem levs_ok (d : Nat) (t : List Int) (ht : t.length ≤ 2000) (base : Int) :
    ∃ r, (∀ cfg h args, args.mapM (frzA h) = some [rl t, .int .i64 base] → callM md (K pL (d + 6)) cfg 15 args h = some (il r, h)) ∧ (∀ cfg h args, args.mapM (frzA h) = some [rl t, .int .i64 base] → callM md (K pL (d + 6)) cfg 16 args h = some (il r, h)) ∧
      r.length = t.length ∧ ∀ x ∈ r, 0 ≤ x ∧ x ≤ 127 := by
  by_cases hne : t = []
  · subst hne
    exact ⟨[], fun cfg h args ha => no_at (no_all base) (d + 5) cfg h args ha, fun cfg h args ha => rno (d + 5) base cfg h args ha, rfl, by simp⟩
  · obtain ⟨r, h1, h2⟩ := lev_ok (d + 5) t ht hne base
    obtain ⟨r', h3, h4⟩ := rlevels_ok (prim := pL) d pL_none t ht hne base
    obtain rfl := lev_unique ht h2 h4
    obtain ⟨h5, h6⟩ := lev_rng h2
    exact ⟨r, h1, h3, h5, h6⟩
end Bi
end Go.Ab
