/- Several texts of this proof in one. -/
import Derived.Test.YteogajcegmejgaaGreatPiRk
import Derived.Test.YteogajcegmejgaaGreatPiL
import Derived.Test.YteogajcegmejgaaGreatPiDis
import Derived.Test.YteogajcegmejgaaGreatPiPerm
namespace Go.Ab
open Go.Proofs
namespace Bi
section
variable {prim : FuncId → Option Prim} (d : Nat) (cfg : Cfg)
set_option maxHeartbeats 4000000 in
set_option maxRecDepth 100000 in
theorem rbrackets_ok (hp : prim 106 = none) (h69 : prim 137 = none) (h71 : prim 132 = none) (h47 : prim 99 = none) (h66 : prim 134 = none) (h68 : prim 136 = none) (t c c0 l s0 : List Int) (n : Nat) (htn : t.length = n) (hcn : c.length = n) (h0n : c0.length = n) (hn2 : n ≤ 2000) (hl : Pl n l) (hll : l.length ≤ 2000) (hW0 : WB c0 l s0 c) (lv st : Int) (hlv : 0 ≤ lv) (H : Heap) (b : Nat)
    (hb : blockOf H b = some (c.map (V.int .i64))) (hw : cfg.wr b = true)
    (ps : List (Nat × Nat)) (hps : ∀ p ∈ ps, p.1 < p.2 ∧ p.2 < l.length) (hpl : ps.length ≤ 2000)
    (hP : ∀ cfg, callM md (K prim (d + 3)) cfg 135 [rl t, .sl b 0 n n 1, il l] H = some (pl64 ps, H)) :
    ∃ c', WB c0 l (brks (strS lv) st (l.map (lvl (t.map bidi))) ps s0) c' ∧ callM md (K prim (d + 4)) cfg 106 [rl t, .sl b 0 n n 1, il l, .int .i64 lv, .int .i64 st] H = some (.tup [], H.set b (some (c'.map (V.int .i64)))) := by
  suffices HH : ∃ r h2, callM md (K prim (d + 4)) cfg 106 [rl t, .sl b 0 n n 1, il l, .int .i64 lv, .int .i64 st] H = some (r, h2) ∧ ∃ c', r = .tup [] ∧ h2 = H.set b (some (c'.map (V.int .i64))) ∧ WB c0 l (brks (strS lv) st (l.map (lvl (t.map bidi))) ps s0) c' by
    obtain ⟨r, h2, h3, c', rfl, rfl, h4⟩ := HH
    exact ⟨c', h4, h3⟩
  have hbl := blockOf_lt hb
  have hset : ∀ (s' c' : List Int), WB c0 l s' c' → ∀ (k : Nat) (to : Int), k < l.length → ∃ c2, WB c0 l (bset (l.map (lvl (t.map bidi))) s' k to) c2 ∧ callM md (K prim (d + 3)) ⟨cfg.lo, cfg.ex, H.length⟩ 137 [rl t, .sl b 0 n n 1, il l, .int .i64 k, .int .i64 to] (H.set b (some (c'.map (V.int .i64)))) = some (.tup [], H.set b (some (c2.map (V.int .i64)))) := by
    intro s' c' hW' k to hk
    obtain ⟨c2, h1, h2⟩ := rset_ok (prim := prim) d ⟨cfg.lo, cfg.ex, H.length⟩ h69 h71 h47 t c' c0 l s' n htn (hW'.len.trans h0n) h0n hn2 hl hll hW' k hk to (H.set b (some (c'.map (V.int .i64)))) b (by simp [hbl]) hw
    exact ⟨c2, h1, by rw [h2, List.set_set]⟩
  refine call1x rfl hp Tryz.func106 rfl rfl rfl ?_
  have hF1 := fun cfg h x => rfirm_ok (prim := prim) (d + 2) cfg h h68 x
  have hS1 := fun cfg h => rside_ok (prim := prim) (d + 2) cfg h h66 lv hlv
  have hsl0 := hW0.sl
  have hDr : strS lv = 0 ∨ strS lv = 1 := by unfold strS; split <;> simp
  generalize l.map (lvl (t.map bidi)) = os at *
  generalize hDe : strS lv = D at *
  have hD0 : 0 ≤ D := by omega
  simp (disch := omega) [hS1, hP]
  refine wC_loop (fun m fr H' => ∃ (i : Nat) (s c' : List Int), i ≤ ps.length ∧ m = ps.length - i ∧ brks D st os ps s0 = brks D st os (ps.drop i) s ∧ WB c0 l s c' ∧ H' = H.set b (some (c'.map (V.int .i64))) ∧
    Slots 127 [(0, rl t), (1, .sl b 0 n n 1), (2, il l), (3, .int .i64 lv), (4, .int .i64 st), (10, pl64 ps), (11, .int .i64 D), (12, .int .i64 i)] fr) (m := ps.length) (by omega) ⟨0, s0, c, by omega, by omega, rfl, hW0, (set_same hb).symm, by simp⟩ ?_
  rintro m fr H' ⟨i, s, c', hi, rfl, hF, hW, rfl, hs⟩
  obtain ⟨j, rfl⟩ := hs.ex
  clear hs
  have hsl := hW.sl
  have hcl : c'.length = n := hW.len.trans h0n
  by_cases hlt : i < ps.length
  · obtain ⟨⟨a, b2⟩, hx⟩ : ∃ x, ps[i]? = some x := ⟨_, List.getElem?_eq_getElem hlt⟩
    obtain ⟨hab, hbl2⟩ := hps _ (List.mem_of_getElem? hx)
    simp only at hab hbl2
    have hdr : ps.drop i = (a, b2) :: ps.drop (i + 1) := by
      rw [List.drop_eq_getElem_cons hlt]
      congr 1
      exact (List.getElem?_eq_some_iff.1 hx).2
    have hF2 : brks D st os (ps.drop i) s = brks D st os (ps.drop (i + 1)) (brk1 D st os s (a, b2)) := by rw [hdr]; rfl
    have fin : ∀ s' c'', brk1 D st os s (a, b2) = s' → WB c0 l s' c'' → ∀ fr, Slots 127 [(0, rl t), (1, .sl b 0 n n 1), (2, il l), (3, .int .i64 lv), (4, .int .i64 st), (10, pl64 ps), (11, .int .i64 D), (12, .int .i64 (i + 1 : Nat))] fr → @Rnd ⟨fun m fr H' => ∃ (i : Nat) (s c' : List Int), i ≤ ps.length ∧ m = ps.length - i ∧ brks D st os ps s0 = brks D st os (ps.drop i) s ∧ WB c0 l s c' ∧ H' = H.set b (some (c'.map (V.int .i64))) ∧
        Slots 127 [(0, rl t), (1, .sl b 0 n n 1), (2, il l), (3, .int .i64 lv), (4, .int .i64 st), (10, pl64 ps), (11, .int .i64 D), (12, .int .i64 i)] fr⟩ ⟨ps.length - i⟩ fr (H.set b (some (c''.map (V.int .i64)))) := by
      intro s' c'' hs' hW' fr hfr
      exact Rnd_of (m' := ps.length - (i + 1)) (by omega) ⟨i + 1, s', c'', by omega, rfl, by rw [hF, hF2, hs'], hW', rfl, hfr⟩
    simp (disch := omega) [hlt, hx, wrap64, -getElem?_pos]
    refine wC_loop (fun m fr H' => ∃ (z : Nat), a + 1 ≤ z ∧ z ≤ b2 ∧ m = b2 - z ∧ H' = H.set b (some (c'.map (V.int .i64))) ∧ Slots 127 [(0, rl t), (1, .sl b 0 n n 1), (2, il l), (3, .int .i64 lv), (4, .int .i64 st), (10, pl64 ps), (11, .int .i64 D), (12, .int .i64 i), (13, .bool ((seg s a z).any (isD D))), (14, .bool ((seg s a z).any (isO D))), (15, .int .i64 z)] fr) (m := b2 - (a + 1)) (by omega) ⟨a + 1, by omega, by omega, rfl, rfl, by simp [seg_self]⟩ ?_
    rintro m fr H' ⟨z, hz1, hz2, rfl, rfl, hs⟩
    obtain ⟨j, rfl⟩ := hs.ex
    clear hs
    by_cases hzb : z < b2
    · obtain ⟨i1, hi1, hin⟩ := hl.at_ (k := z) (by omega)
      obtain ⟨x, hxx⟩ : ∃ x, s[z]? = some x := ⟨_, List.getElem?_eq_getElem (by omega)⟩
      have hc := hW.at_ z i1 hi1
      rw [hxx, Int.toNat_natCast] at hc
      have hsg := seg_snoc hz1 hxx
      have hany : ∀ P : Int → Bool, (seg s a z ++ [x]).any P = ((seg s a z).any P || P x) := fun P => by simp
      have hxI : isD D x = decide (dirS x = D) := rfl
      have hxO : isO D x = (decide (0 ≤ dirS x) && !decide (dirS x = D)) := rfl
      have h3 : (dirS x = D ∧ 0 ≤ D) ∨ (¬ dirS x = D ∧ 0 ≤ dirS x) ∨ (¬ dirS x = D ∧ ¬ 0 ≤ dirS x) := by
        by_cases h1 : dirS x = D <;> by_cases h0 : 0 ≤ dirS x <;> simp [h1, h0, hD0]
      rcases h3 with ⟨h1, h0⟩ | ⟨h1, h0⟩ | ⟨h1, h0⟩ <;> cases hA : (seg s a z).any (isD D) <;> cases hO : (seg s a z).any (isO D)
      all_goals
        simp (disch := omega) [hzb, hx, hi1, hc, hF1, h1, h0, wrap64, -getElem?_pos]
      all_goals
        exact Rnd_of (m' := b2 - (z + 1)) (by omega) ⟨z + 1, by omega, by omega, rfl, rfl, by simp (disch := omega) [hsg, hany, hxI, hxO, hA, hO, h1, h0]⟩
    · obtain rfl : b2 = z := by omega
      cases hsame : (seg s a b2).any (isD D)
      · cases hopp : (seg s a b2).any (isO D)
        · have hBk : brk1 D st os s (a, b2) = s := by unfold brk1; simp only; rw [hsame, hopp]; rfl
          simp (disch := omega) [hx, wrap64, -getElem?_pos]
          refine fin _ c' hBk hW _ ?_
          simp (disch := omega)
        · have hBk : brk1 D st os s (a, b2) = bset os (bset os s a (lastD st (s.take a))) b2 (lastD st (s.take a)) := by unfold brk1; simp only; rw [hsame, hopp]; rfl
          simp (disch := omega) [hx, wrap64, -getElem?_pos]
          refine wC_loop (fun m fr H' => ∃ (k2 : Nat), k2 ≤ a ∧ m = k2 ∧ lastD st (s.take a) = lastD st (s.take k2) ∧ H' = H.set b (some (c'.map (V.int .i64))) ∧ Slots 127 [(0, rl t), (1, .sl b 0 n n 1), (2, il l), (3, .int .i64 lv), (4, .int .i64 st), (10, pl64 ps), (11, .int .i64 D), (12, .int .i64 i), (17, .int .i64 D), (18, .int .i64 st), (19, .int .i64 ((k2 : Int) - 1))] fr) (m := a) (by omega) ⟨a, Nat.le_refl _, rfl, rfl, rfl, by simp⟩ ?_
          rintro m fr H' ⟨k2, hk2, rfl, hL, rfl, hs⟩
          obtain ⟨j, rfl⟩ := hs.ex
          clear hs
          rcases m with _ | k2
          · rw [List.take_zero, lastD_nil] at hL
            rw [hL] at hBk
            by_cases hBD : st = D
            · have hBk : brk1 D st os s (a, b2) = bset os (bset os s a D) b2 D := by rw [hBk, hBD]
              obtain ⟨c2, hW2, hc2⟩ := hset s c' hW a (D) (by omega)
              obtain ⟨c3, hW3, hc3⟩ := hset _ c2 hW2 b2 (D) (by omega)
              simp (disch := omega) [hBD, hx, hc2, hc3, wrap64, -getElem?_pos]
              refine fin _ c3 hBk hW3 _ ?_
              simp (disch := omega) [hBD]
            · obtain ⟨c2, hW2, hc2⟩ := hset s c' hW a (st) (by omega)
              obtain ⟨c3, hW3, hc3⟩ := hset _ c2 hW2 b2 (st) (by omega)
              simp (disch := omega) [hBD, hx, hc2, hc3, wrap64, -getElem?_pos]
              refine fin _ c3 hBk hW3 _ ?_
              simp (disch := omega)
          · have hk1 : ((k2 + 1 : Nat) : Int) - 1 = k2 := by omega
            rw [hk1]
            obtain ⟨i1, hi1, hin⟩ := hl.at_ (k := k2) (by omega)
            obtain ⟨x, hxx⟩ : ∃ x, s[k2]? = some x := ⟨_, List.getElem?_eq_getElem (by omega)⟩
            have hc := hW.at_ k2 i1 hi1
            rw [hxx, Int.toNat_natCast] at hc
            have htk : s.take (k2 + 1) = s.take k2 ++ [x] := by rw [List.take_add_one, hxx]; rfl
            rw [htk, lastD_snoc] at hL
            by_cases hx0 : 0 ≤ dirS x
            · rw [if_pos hx0] at hL
              rw [hL] at hBk
              by_cases hBD : dirS x = D
              · have hBk : brk1 D st os s (a, b2) = bset os (bset os s a D) b2 D := by rw [hBk, hBD]
                obtain ⟨c2, hW2, hc2⟩ := hset s c' hW a (D) (by omega)
                obtain ⟨c3, hW3, hc3⟩ := hset _ c2 hW2 b2 (D) (by omega)
                simp (disch := omega) [hi1, hc, hF1, hBD, hD0, hx, hc2, hc3, wrap64, -getElem?_pos]
                refine fin _ c3 hBk hW3 _ ?_
                simp (disch := omega)
              · obtain ⟨c2, hW2, hc2⟩ := hset s c' hW a (dirS x) (by omega)
                obtain ⟨c3, hW3, hc3⟩ := hset _ c2 hW2 b2 (dirS x) (by omega)
                simp (disch := omega) [hi1, hc, hF1, hx0, hBD, hx, hc2, hc3, wrap64, -getElem?_pos]
                refine fin _ c3 hBk hW3 _ ?_
                simp (disch := omega)
            · rw [if_neg hx0] at hL
              simp (disch := omega) [hi1, hc, hF1, hx0, wrap64, -getElem?_pos]
              exact Rnd_of (m' := k2) (by omega) ⟨k2, by omega, rfl, hL, rfl, by simp (disch := omega)⟩
      · have hBk : brk1 D st os s (a, b2) = bset os (bset os s a D) b2 D := by unfold brk1; simp only; rw [hsame]; rfl
        obtain ⟨c2, hW2, hc2⟩ := hset s c' hW a (D) (by omega)
        obtain ⟨c3, hW3, hc3⟩ := hset _ c2 hW2 b2 (D) (by omega)
        simp (disch := omega) [hx, hc2, hc3, wrap64, -getElem?_pos]
        refine fin _ c3 hBk hW3 _ ?_
        simp (disch := omega)
  · have hlI : ¬ (i : Int) < ps.length := by omega
    rw [List.drop_of_length_le (by omega)] at hF
    simp (disch := omega) [hlI]
    refine ⟨c', List.take_of_length_le (by simp), ?_⟩
    rw [hF]
    exact hW
end
end Bi
end Go.Ab
namespace Go.Ab
open Go.Proofs
namespace Bi
def sc (st : OStk) : List V := st.reverse.map fun a => V.int .i64 (a.2 : Int)
theorem sc_cons (a : Int × Nat) (st : OStk) : sc (a :: st) = sc st ++ [V.int .i64 (a.2 : Int)] := by simp [sc]
theorem sc_len (st : OStk) : (sc st).length = st.length := by simp [sc]
theorem sc_0 (a : Int × Nat) (r : OStk) (J : List V) : slot (sc (a :: r) ++ J) r.length = some (.int .i64 (a.2 : Int)) := by
  rw [← sc_len r, sc_cons, List.append_assoc, slot, List.getElem?_append_right (Nat.le_refl _)]
  simp
theorem pcn_app (a b : List (Nat × Nat)) : pcn (a ++ b) = pcn a ++ pcn b := by simp [pcn]
theorem pcn_0 (pre : List (Nat × Nat)) (x : Nat × Nat) (q : List (Nat × Nat)) (J : List V) : slot (pcn (pre ++ x :: q) ++ J) (pre.length * 2) = some (.int .i64 (x.1 : Int)) := by
  rw [← pcn_len pre, pcn_app, List.append_assoc, slot, List.getElem?_append_right (Nat.le_refl _)]
  simp [pcn]
theorem pcn_1 (pre : List (Nat × Nat)) (x : Nat × Nat) (q : List (Nat × Nat)) (J : List V) : slot (pcn (pre ++ x :: q) ++ J) (pre.length * 2 + 1) = some (.int .i64 (x.2 : Int)) := by
  rw [← pcn_len pre, pcn_app, List.append_assoc, slot, List.getElem?_append_right (by omega)]
  simp [pcn]
theorem pcn_tk (pre : List (Nat × Nat)) (x : Nat × Nat) (q : List (Nat × Nat)) (J : List V) : ((pcn (pre ++ x :: q) ++ J).drop (pre.length * 2)).take 2 = [.int .i64 (x.1 : Int), .int .i64 (x.2 : Int)] := by
  rw [← pcn_len pre, pcn_app, List.append_assoc, List.drop_left]
  simp [pcn]
theorem pcn_set (pre : List (Nat × Nat)) (x y : Nat × Nat) (q : List (Nat × Nat)) (J : List V) : setS (setS (pcn (pre ++ x :: q) ++ J) (pre.length * 2) (.int .i64 (y.1 : Int))) (pre.length * 2 + 1) (.int .i64 (y.2 : Int)) = pcn (pre ++ y :: q) ++ J := by
  rw [← pcn_len pre, pcn_app, pcn_app, List.append_assoc, List.append_assoc]
  have e : ∀ w : Nat × Nat, pcn (w :: q) ++ J = .int .i64 (w.1 : Int) :: .int .i64 (w.2 : Int) :: (pcn q ++ J) := fun w => rfl
  rw [e, e]
  simp only [setS]
  rw [List.set_append_right _ _ (by omega), List.set_append_right _ _ (by omega)]
  simp
theorem pcn_map {L : List (Nat × Nat)} (h : 0 < L.length) (J : List V) : isMap (pcn L ++ J) = false := by
  rcases L with _ | ⟨x, L⟩
  · simp at h
  · rfl
theorem bS {H : Heap} {b : Nat} {X : List V} {Y : Heap} (hb : b < H.length) (hX : isMap X = false) : blockOf (H.set b (some X) ++ Y) b = some X := by
  rw [blockOf_left (by simpa using hb), blockOf_set_self hb, hX]
  rfl
theorem bA {H : Heap} {b : Nat} {X : Option (List V)} {Y : List V} (hY : isMap Y = false) : blockOf (H.set b X ++ [some Y]) H.length = some Y := by
  have := blockOf_len_add (h := H.set b X) (r := [some Y]) (k := 0)
  simp only [List.length_set, Nat.add_zero] at this
  rw [this]
  simp [hY]
section
variable {P : Program} {md' : FuncId → Nat} {call : Callf} {cfg : Cfg}
theorem wS_ap2 {dst : Option Tmp} {fr : List V} {ops : Array Oper} {rest : List Oper} {Q : KontO} {h : Heap} {dv v2 : V} {cs cs2 new : List V} {k k2 y : Nat}
    (ho : Stk h 0 k dv cs) (h2 : Stk h 0 k2 v2 cs2) (hdj : Dj dv v2) (hlo : cfg.lo = 0) (hth : cfg.thr = 0)
    (hnew : new.length = k) (hk : 0 < k) (hmn : isMap new = false) (hsz : cs.length / k ≤ 4000) (hy : y ≤ 100)
    (H : ∀ d' h', Stk h' 0 k d' (cs ++ new) → Stk h' 0 k2 v2 cs2 → Dj d' v2 → @wO P md' call cfg ⟨ops⟩ ⟨rest⟩ (put fr dst d') h' ⟨Q⟩) :
    @wS P md' call cfg ⟨dst⟩ ⟨fr⟩ (appD cfg h k y dv 1 new) ⟨ops⟩ ⟨rest⟩ ⟨Q⟩ := by
  have hs : (cs.length / k + 1) * y ≤ 1099511627776 := by
    have : (cs.length / k + 1) * y ≤ 4001 * 100 := Nat.mul_le_mul (by omega) hy
    omega
  refine wS_appP (lo := 0) ho (by omega) (by omega) (Nat.zero_le _) hnew hmn hk hs (by omega) ?_
  intro d' h' hst _ _ hlen hot hb
  refine H d' h' hst (h2.of_blk fun b hbv => hot b (fun e => hdj b e hbv) (h2.blk hbv).2) ?_
  intro b hb1 hb2
  rcases hb with hb | hb
  · rw [hb] at hb1; exact hdj b hb1 hb2
  · rw [hb] at hb1
    cases hb1
    have := (h2.blk hb2).2
    omega
end
section
variable {prim : FuncId → Option Prim} (d : Nat) (cfg : Cfg) (h : Heap)
set_option maxRecDepth 100000 in
set_option maxHeartbeats 8000000 in
theorem rpairs_ok (hp : prim 135 = none) (h84 : prim 143 = none) (h91 : prim 141 = none) (t c l : List Int) (n : Nat) (hn : c.length = n) (htn : t.length = n) (_hn2 : n ≤ 2000) (hl : Pl n l) (hll : l.length ≤ 2000) {args : List V} (hargs : args.mapM (frzA h) = some [rl t, il c, il l]) :
    callM md (K prim (d + 3)) cfg 135 args h = some (pl64 (prsS ((l.map (lvl c)).zip (l.map (lvl t)))), h) := by
  have hBr := fun cfg h r => rbracket_ok (prim := prim) d cfg h h84 h91 r
  have hWc : WB c l (l.map (lvl c)) c := WB.start (by rw [hn]; exact hl)
  have hWt : WB t l (l.map (lvl t)) t := WB.start (by rw [htn]; exact hl)
  unfold prsS
  generalize hss : l.map (lvl c) = s0 at *
  generalize hso : l.map (lvl t) = rs at *
  have hsls := hWc.sl
  have hslr := hWt.sl
  refine call3 rfl hp Tryz.func135 rfl rfl rfl hargs ?_
  simp (disch := omega)
  refine wC_loop (fun m fr H => ∃ (k : Nat) (p : PS) (v1 v2 : V), k ≤ l.length ∧ m = l.length - k ∧ pgo 0 (s0.zip rs) ⟨[], []⟩ = pgo k ((s0.zip rs).drop k) p ∧ POK k p ∧ (∀ a ∈ p.st, ∃ z, rs[a.2]? = some z ∧ brS z = (1, a.1)) ∧ Stk H 0 1 v1 (sc p.st) ∧ Stk H 0 2 v2 (pcn p.out) ∧ Dj v1 v2 ∧
    Slots 128 [(0, rl t), (1, il c), (2, il l), (7, v1), (8, v2), (9, .int .i64 k)] fr) (m := l.length) (by omega) ⟨0, ⟨[], []⟩, .nils, .nils, by omega, by omega, rfl, POK.zero, by simp, .inl ⟨rfl, rfl⟩, .inl ⟨rfl, rfl⟩, Dj.nils, by simp⟩ ?_
  rintro m fr H ⟨k, p, v1, v2, hk, rfl, hF, hPO, hop, hs1, hs2, hdj, hs⟩
  obtain ⟨j, rfl⟩ := hs.ex
  clear hs
  by_cases hlt : k < l.length
  · obtain ⟨i, hi, hin⟩ := hl.at_ hlt
    obtain ⟨x, hx⟩ : ∃ x, s0[k]? = some x := ⟨_, List.getElem?_eq_getElem (by omega)⟩
    obtain ⟨r, hr⟩ : ∃ r, rs[k]? = some r := ⟨_, List.getElem?_eq_getElem (by omega)⟩
    have hcx := hWc.at_ k i hi
    have htr := hWt.at_ k i hi
    rw [hx, Int.toNat_natCast] at hcx
    rw [hr, Int.toNat_natCast] at htr
    have hz : (s0.zip rs)[k]? = some (x, r) := by rw [List.getElem?_zip_eq_some]; exact ⟨hx, hr⟩
    have hzd : (s0.zip rs).drop k = (x, r) :: (s0.zip rs).drop (k + 1) := by
      have hzl := (List.getElem?_eq_some_iff.1 hz).1
      rw [List.drop_eq_getElem_cons hzl]
      congr 1
      exact (List.getElem?_eq_some_iff.1 hz).2
    rw [hzd, pgo] at hF
    have hlenP := hs1.len (show Tryz.prog.underlying 22 = some (.slice 3) by kernel_rfl) (by omega)
    rw [sc_len, Nat.div_one] at hlenP
    have hst63 := hPO.len
    by_cases h13 : x = 13
    · rw [if_neg (by simp [h13])] at hF
      subst h13
      by_cases k1 : (brS r).1 = 1
      · rw [if_pos k1] at hF
        by_cases k63 : p.st.length = 63
        · rw [if_pos k63] at hF
          rw [hF]
          rw [k63] at hlenP
          simp (disch := omega) [hlt, hi, hcx, htr, hBr, k1, hlenP, own, -getElem?_pos]
        · rw [if_neg k63] at hF
          have n63 : ¬ (63 : Int) ≤ p.st.length := by omega
          simp (disch := omega) [hlt, hi, hcx, htr, hBr, k1, hlenP, n63, -getElem?_pos]
          refine wS_ap2 (hs1.push [some [.int .i64 k]]) (hs2.push [some [.int .i64 k]]) hdj rfl rfl rfl (by omega) rfl (by rw [sc_len, Nat.div_one]; omega) (by omega) ?_
          intro d' h' h1' h2' hdj'
          simp (disch := omega) [wrap64]
          exact Rnd_of (m' := l.length - (k + 1)) (by omega) ⟨k + 1, ⟨((brS r).2, k) :: p.st, p.out⟩, d', v2, by omega, rfl, hF, hPO.push _ k63, by
            intro a ha
            rcases List.mem_cons.1 ha with rfl | ha
            · exact ⟨r, hr, by rw [← k1]⟩
            · exact hop a ha, by rw [sc_cons]; exact h1', h2', hdj', by simp (disch := omega)⟩
      · rw [if_neg k1] at hF
        by_cases k2 : (brS r).1 = 2
        · rw [if_pos k2] at hF
          simp (disch := omega) [hlt, hi, hcx, htr, hBr, k2, hlenP, wrap64, -getElem?_pos]
          refine wC_loop (fun m fr H' => ∃ (pre re : OStk), m = re.length ∧ p.st = pre ++ re ∧ pfind r p.st = pfind r re ∧ H' = H ∧ Slots 128 [(0, rl t), (1, il c), (2, il l), (7, v1), (8, v2), (9, .int .i64 k), (10, .int .i64 2), (11, .int .i32 (brS r).2), (12, .int .i64 ((re.length : Int) - 1))] fr) (m := p.st.length) (by omega) ⟨[], p.st, rfl, rfl, rfl, rfl, by simp⟩ ?_
          rintro m fr H' ⟨pre, re, rfl, hpre, hpf, rfl, hs⟩
          obtain ⟨j, rfl⟩ := hs.ex
          clear hs
          rcases re with _ | ⟨⟨cc, aa⟩, re⟩
          · rw [pfind] at hpf
            rw [hpf] at hF
            simp (disch := omega) [wrap64]
            exact Rnd_of (m' := l.length - (k + 1)) (by omega) ⟨k + 1, p, v1, v2, by omega, rfl, hF, hPO.up, hop, hs1, hs2, hdj, by simp (disch := omega)⟩
          · have hprel : pre.length + (re.length + 1) = p.st.length := by rw [hpre]; simp
            obtain ⟨b, nn, cap, J, rfl, hb5, hbl, hnn, hbk, hcap, hnc⟩ := hs1.pos (by rw [hpre]; intro h; have := congrArg List.length h; rw [sc_len] at this; simp at this)
            obtain rfl : nn = p.st.length := by rw [sc_len] at hnn; omega
            obtain ⟨J', hJ'⟩ : ∃ J', sc p.st ++ J = sc ((cc, aa) :: re) ++ J' := by
              rw [hpre]
              refine ⟨sc pre ++ J, ?_⟩
              simp [sc]
            rw [hJ'] at hbk
            have e0 := sc_0 (cc, aa) re J'
            simp only at e0
            obtain ⟨z, hz1, hz2⟩ := hop (cc, aa) (by rw [hpre]; simp)
            simp only at hz1 hz2
            have haa : aa < k := hPO.lt (cc, aa) (by rw [hpre]; simp)
            obtain ⟨i2, hi2, hin2⟩ := hl.at_ (k := aa) (by omega)
            have htz := hWt.at_ aa i2 hi2
            rw [hz1, Int.toNat_natCast] at htz
            have hinv := brS_inv (a := z) (r := r) (by rw [hz2]) k2
            rw [hz2] at hinv
            simp only at hinv
            have hk1 : (((cc, aa) :: re).length : Int) - 1 = re.length := by simp
            rw [hk1]
            by_cases hcr : cc = r
            · rw [pfind, if_pos hcr] at hpf
              rw [hpf] at hF
              have hzr : z = (brS r).2 := hinv.1 hcr
              simp (disch := omega) [hbk, e0, hi2, htz, hzr, -getElem?_pos]
              refine wS_ap2 (hs2.push [some [.int .i64 aa, .int .i64 k]]) (hs1.push [some [.int .i64 aa, .int .i64 k]]) hdj.symm rfl rfl rfl (by omega) rfl (by rw [pcn_len]; have := hPO.olen; omega) (by omega) ?_
              intro d' h' h1' h2' hdj'
              have hpop := h2'.pop (cs' := sc re) (m := re.length) (r := [V.int .i64 (aa : Int)] ++ sc pre) ?_ (by rw [sc_len]; simp) (by omega)
              · simp (disch := omega) [wrap64]
                exact Rnd_of (m' := l.length - (k + 1)) (by omega) ⟨k + 1, ⟨re, p.out ++ [(aa, k)]⟩, _, d', by omega, rfl, hF, hPO.pair hpf, fun a ha => hop a (by rw [hpre]; simp at ha ⊢; exact .inr (.inr ha)), hpop, by rw [pcn_snoc]; exact h1', hdj'.symm, by simp (disch := omega)⟩
              · rw [hpre]; simp [sc]
            · rw [pfind, if_neg hcr] at hpf
              have hzr : ¬ z = (brS r).2 := fun e => hcr (hinv.2 e)
              simp (disch := omega) [hbk, e0, hi2, htz, hzr, wrap64, -getElem?_pos]
              exact Rnd_of (m' := re.length) (by simp) ⟨pre ++ [(cc, aa)], re, rfl, by rw [hpre]; simp, hpf, rfl, by simp (disch := omega)⟩
        · rw [if_neg k2] at hF
          have k0 : (brS r).1 = 0 := by
            rcases brS_cases r with h | ⟨p, _, _, h⟩ | ⟨p, _, _, h⟩
            · rw [h]
            · exact absurd (by rw [h]) k1
            · exact absurd (by rw [h]) k2
          simp (disch := omega) [hlt, hi, htr, hBr, k0, wrap64, -getElem?_pos]
          exact Rnd_of (m' := l.length - (k + 1)) (by omega) ⟨k + 1, p, v1, v2, by omega, rfl, hF, hPO.up, hop, hs1, hs2, hdj, by simp (disch := omega)⟩
    · rw [if_pos h13] at hF
      by_cases k0 : (brS r).1 = 0
      · simp (disch := omega) [hlt, hi, htr, hBr, k0, wrap64, -getElem?_pos]
        exact Rnd_of (m' := l.length - (k + 1)) (by omega) ⟨k + 1, p, v1, v2, by omega, rfl, hF, hPO.up, hop, hs1, hs2, hdj, by simp (disch := omega)⟩
      · simp (disch := omega) [hlt, hi, hcx, htr, hBr, k0, h13, wrap64, -getElem?_pos]
        exact Rnd_of (m' := l.length - (k + 1)) (by omega) ⟨k + 1, p, v1, v2, by omega, rfl, hF, hPO.up, hop, hs1, hs2, hdj, by simp (disch := omega)⟩
  · obtain rfl : k = l.length := by omega
    have hzn : (s0.zip rs).drop l.length = [] := List.drop_eq_nil_of_le (by simp; omega)
    rw [hzn, pgo] at hF
    have hol := hPO.olen
    rw [hF]
    have hsm : Sm p.out := fun x hx => by have := hPO.ord x hx; omega
    have hnd : (p.out.map (·.1)).Nodup := pgo_nodup (s0.zip rs) 0 ⟨[], []⟩ p.out (by simp) (by simp) (by simp) hF
    rcases hs2 with ⟨rfl, hnil⟩ | ⟨b, nn, cap, J, rfl, hb, hlen, hbk, hcap, hle⟩
    · have ho : p.out = [] := by
        have := congrArg List.length hnil
        rw [pcn_len] at this
        exact List.length_eq_zero_iff.1 (by simp at this; omega)
      have hs0 : srtS p.out = [] := List.length_eq_zero_iff.1 (by rw [srtS_len, ho]; rfl)
      simp (disch := omega)
      refine wC_loop (fun m fr H' => m = 0 ∧ Slots 128 [(8, .nils), (13, .int .i64 0)] fr) (m := 0) (by omega) ⟨rfl, by simp⟩ ?_
      rintro m fr H' ⟨rfl, hs⟩
      obtain ⟨j, rfl⟩ := hs.ex
      clear hs
      simp (disch := omega) [own, hs0]
    · obtain rfl : nn = p.out.length := by rw [pcn_len] at hlen; omega
      have hbl := blockOf_lt hbk
      simp (disch := omega)
      refine wC_loop (fun m fr H' => ∃ (i : Nat) (L : List (Nat × Nat)), i ≤ p.out.length ∧ m = p.out.length - i ∧ L.Perm p.out ∧ (L.take i).Pairwise (fun a b => a.1 ≤ b.1) ∧ blockOf H' b = some (pcn L ++ J) ∧
        Slots 128 [(8, .sl b 0 p.out.length cap 2), (13, .int .i64 i)] fr) (m := p.out.length) (by omega) ⟨0, p.out, by omega, by omega, .refl _, by simp, hbk, by simp⟩ ?_
      rintro m fr H' ⟨i, L, hi, rfl, hpm, hpw, hbk', hs⟩
      obtain ⟨j, rfl⟩ := hs.ex
      clear hs
      have hLl := hpm.length_eq
      by_cases hil : i < p.out.length
      · have hilI : (i : Int) < p.out.length := by omega
        simp (disch := omega) [hilI]
        obtain ⟨x, hx⟩ : ∃ x, L[i]? = some x := ⟨_, List.getElem?_eq_getElem (by omega)⟩
        have hsp : L = L.take i ++ x :: ([] ++ L.drop (i + 1)) := by
          conv => lhs; rw [← List.take_append_drop i L, List.drop_eq_getElem_cons (by omega)]
          rw [(List.getElem?_eq_some_iff.1 hx).2]
          rfl
        refine wC_loop (fun m fr H' => ∃ (pre : List (Nat × Nat)) (x : Nat × Nat) (post rest : List (Nat × Nat)), m = pre.length ∧ (pre ++ x :: (post ++ rest)).Perm p.out ∧ (pre ++ post).Pairwise (fun a b => a.1 ≤ b.1) ∧ (∀ y ∈ post, x.1 ≤ y.1) ∧ pre.length + post.length = i ∧ blockOf H' b = some (pcn (pre ++ x :: (post ++ rest)) ++ J) ∧
          Slots 128 [(8, .sl b 0 p.out.length cap 2), (13, .int .i64 i), (14, .int .i64 pre.length)] fr) (m := i) (by omega) ⟨L.take i, x, [], L.drop (i + 1), by simp; omega, by rw [← hsp]; exact hpm, by simpa using hpw, by simp, by simp; omega, by rw [← hsp]; exact hbk', by simp; omega⟩ ?_
        clear hbk' hpm hpw hsp hx hLl
        rintro m fr H' ⟨pre, x, post, rest, rfl, hpm, hpw, hxp, hpi, hbk', hs⟩
        obtain ⟨j, rfl⟩ := hs.ex
        clear hs
        have hLl := hpm.length_eq
        simp only [List.length_append, List.length_cons] at hLl
        have hbl' := blockOf_lt hbk'
        have e0 := pcn_0 pre x (post ++ rest) J
        have e1 := pcn_1 pre x (post ++ rest) J
        rcases List.eq_nil_or_concat pre with rfl | ⟨pre', z, rfl⟩
        · simp (disch := omega)
          refine wC_draw 14 (by kernel_rfl) ?_
          simp (disch := omega) [wrap64]
          simp only [List.nil_append, List.length_nil, Nat.zero_add] at *
          subst hpi
          exact Rnd_of (m' := p.out.length - (post.length + 1)) (by omega) ⟨post.length + 1, x :: (post ++ rest), by omega, rfl, hpm, by rw [show (x :: (post ++ rest)).take (post.length + 1) = x :: post by simp]; exact List.pairwise_cons.2 ⟨hxp, hpw⟩, hbk', by simp (disch := omega)⟩
        · rw [List.concat_eq_append] at *
          have hpp : (pre' ++ [z] ++ x :: (post ++ rest)) = pre' ++ z :: (x :: (post ++ rest)) := by simp
          have f0 := pcn_0 pre' z (x :: (post ++ rest)) J
          rw [hpp] at hbk' e0 e1
          simp only [List.length_append, List.length_cons, List.length_nil, Nat.zero_add] at *
          have hpl : (pcn (pre' ++ z :: x :: (post ++ rest))).length = p.out.length * 2 := by rw [pcn_len]; simp; omega
          have t0 := pcn_tk pre' z (x :: (post ++ rest)) J
          have t1 := pcn_tk (pre' ++ [z]) x (post ++ rest) J
          rw [hpp] at t1
          simp only [List.length_append, List.length_cons, List.length_nil, Nat.zero_add] at t1
          have w1 := pcn_set (pre' ++ [z]) x z (post ++ rest) J
          rw [hpp] at w1
          simp only [List.length_append, List.length_cons, List.length_nil, Nat.zero_add, List.append_assoc, List.singleton_append] at w1
          have w0 := pcn_set pre' z x (z :: (post ++ rest)) J
          have hB2 : ∀ X, blockOf (H'.set b X ++ [some [.int .i64 (x.1 : Int), .int .i64 (x.2 : Int)]]) H'.length = some [.int .i64 (x.1 : Int), .int .i64 (x.2 : Int)] := fun X => bA rfl
          have hB3 : ∀ Y, blockOf (H'.set b (some (pcn (pre' ++ z :: z :: (post ++ rest)) ++ J)) ++ Y) b = some (pcn (pre' ++ z :: z :: (post ++ rest)) ++ J) := fun Y => bS hbl' (pcn_map (by simp; omega) J)
          have hpz : (pcn (pre' ++ z :: z :: (post ++ rest))).length = p.out.length * 2 := by rw [pcn_len]; simp; omega
          have c1 : (pre'.length + 1) * 2 + 2 ≤ p.out.length * 2 + J.length := by omega
          have c0 : pre'.length * 2 + 2 ≤ p.out.length * 2 + J.length := by omega
          have g1 : ((pre'.length : Int) + 1).toNat = pre'.length + 1 := by omega
          have g2 : ((pre'.length : Int) + 1 - 1).toNat = pre'.length := by omega
          simp (disch := omega)
          refine wC_draw 14 (by kernel_rfl) ?_
          by_cases hzx : x.1 < z.1
          · have hzxI : (x.1 : Int) < z.1 := by omega
            simp (disch := omega) [hbk', e0, f0, g1, hpl, t0, t1, c0, c1, w0, w1, hB2, hB3, hpz, hzxI, wrap64, -getElem?_pos]
            refine Rnd_of (m' := pre'.length) (by simp) ⟨pre', x, z :: post, rest, rfl, ?_, by simpa using hpw, ?_, by simp; omega, ?_, by simp (disch := omega)⟩
            · refine List.Perm.trans ?_ hpm
              simp only [List.append_assoc, List.cons_append]
              exact List.Perm.append_left _ (List.Perm.swap ..)
            · intro y hy
              rcases List.mem_cons.1 hy with rfl | hy
              · omega
              · exact hxp y hy
            · have := bS (H := H'.set b (some (pcn (pre' ++ z :: z :: (post ++ rest)) ++ J)) ++ [some [V.int IntKind.i64 (x.1 : Int), V.int IntKind.i64 (x.2 : Int)]]) (b := b) (X := pcn (pre' ++ x :: z :: (post ++ rest)) ++ J) (Y := []) (by simp; omega) (pcn_map (by simp; omega) J)
              simpa using this
          · have hzxI : ¬ (x.1 : Int) < z.1 := by omega
            simp (disch := omega) [hbk', e0, f0, g1, hzxI, wrap64, -getElem?_pos]
            refine Rnd_of (m' := p.out.length - (i + 1)) (by omega) ⟨i + 1, pre' ++ z :: x :: (post ++ rest), by omega, rfl, by rw [← hpp]; exact hpm, ?_, hbk', by simp (disch := omega)⟩
            have ht : (pre' ++ z :: x :: (post ++ rest)).take (i + 1) = pre' ++ z :: x :: post := by
              rw [show pre' ++ z :: x :: (post ++ rest) = (pre' ++ z :: x :: post) ++ rest by simp]
              exact List.take_left' (by simp; omega)
            rw [ht]
            simp only [List.append_assoc, List.singleton_append] at hpw
            obtain ⟨q1, q2, q3⟩ := List.pairwise_append.1 hpw
            obtain ⟨q4, q5⟩ := List.pairwise_cons.1 q2
            refine List.pairwise_append.2 ⟨q1, List.pairwise_cons.2 ⟨?_, List.pairwise_cons.2 ⟨hxp, q5⟩⟩, ?_⟩
            · intro y hy
              rcases List.mem_cons.1 hy with rfl | hy
              · omega
              · exact q4 y hy
            · intro y hy w hw
              rcases List.mem_cons.1 hw with rfl | hw
              · exact q3 y hy _ (List.mem_cons_self ..)
              · rcases List.mem_cons.1 hw with rfl | hw
                · have := q3 y hy z (List.mem_cons_self ..); omega
                · exact q3 y hy w (List.mem_cons_of_mem _ hw)
      · have hilI : ¬ (i : Int) < p.out.length := by omega
        obtain rfl : i = p.out.length := by omega
        rw [List.take_of_length_le (by omega)] at hpw
        have hLs := srtS_uniq hsm hpm hpw hnd
        rw [hLs] at hbk'
        have hpl : (pcn (srtS p.out)).length = p.out.length * 2 := by rw [pcn_len, srtS_len]
        have hown : ∀ c ∈ pcn (srtS p.out), own H' 5 c = true := by
          intro c hc
          simp only [pcn, List.mem_flatMap] at hc
          obtain ⟨w, _, hw⟩ := hc
          simp at hw
          rcases hw with rfl | rfl <;> rfl
        simp (disch := omega) [hilI]
        refine ⟨?_, ?_⟩
        · simp only [own, hbk']
          rw [List.drop_zero, List.take_left' hpl]
          exact List.all_eq_true.2 hown
        · rw [frz_sl, if_neg (by omega), hbk']
          simp only [Nat.zero_add, List.drop_zero]
          rw [if_pos (by simp; omega), List.take_left' hpl, mapM_frz_rf (pcn_rf _) (pcn_nn _)]
          simp only [pcn_rf, if_true]
          rw [← srtS_len, pcn_chunk]
end
end Bi
end Go.Ab
