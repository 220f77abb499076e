/- The reference: the weak rules. -/
import Derived.Test.YteogajcegmejgaaGreatPiRl
namespace Go.Ab
open Go.Proofs
namespace Bi
def rnx (o y : Int) : Int := if ini o = true ∨ o = 22 then 13 else y
def rw1 : Int → List Int → List Int → List Int
  | p, o :: os, x :: r => (if x = 8 then p else x) :: rw1 (rnx o (if x = 8 then p else x)) os r
  | _, _, _ => []
theorem rw1_len : ∀ (s os : List Int) (p : Int), os.length = s.length → (rw1 p os s).length = s.length
  | [], _, _, _ => by unfold rw1; split <;> simp_all
  | x :: r, [], _, h => by simp at h
  | x :: r, o :: os, p, h => by simp [rw1, rw1_len r os _ (by simpa using h)]
def m6 (s : List Int) : List Int := s.map fun x => if x = 4 ∨ x = 5 ∨ x = 7 then 13 else x
def w7 : Int → List Int → List Int
  | _, [] => []
  | l, x :: r => if x = 0 ∨ x = 1 then x :: w7 x r else if x = 3 ∧ l = 0 then 0 :: w7 l r else x :: w7 l r
theorem w7_m6 : ∀ (s : List Int) (l : Int), w7 l (m6 s) = w6 l s
  | [], _ => rfl
  | x :: r, l => by
    have ih := w7_m6 r
    simp only [m6, List.map_cons] at ih ⊢
    by_cases h : x = 4 ∨ x = 5 ∨ x = 7
    · simp [w6, w7, h, ih]
    · simp [w6, w7, h, ih]
def rweak (st : Int) (os s : List Int) : List Int := w6 st (w5 (-1) 0 (w4 (-1) (w3 (w2 st (rw1 st os s)))))
theorem w4_one (p : Int) (s : List Int) (h : s.length ≤ 1) : w4 p s = s := by
  rcases s with _ | ⟨x, _ | ⟨y, r⟩⟩
  · rfl
  · have h1 : ¬ (x = 4 ∧ p = 3 ∧ (-1 : Int) = 3 ∨ x = 7 ∧ p = -1 ∧ (p = 3 ∨ p = 6)) := by omega
    simp only [w4, w4c, List.headD_nil]
    simp only [h1, if_false]
  · simp at h
theorem slot_oth {l : List V} {i j : Nat} {v : V} (h : ¬ i = j) : slot (l.set i v) j = slot l j := by simp [slot, List.getElem?_set_ne h]
theorem setS_set {l : List V} {i : Nat} {v w : V} : setS (l.set i v) i w = l.set i w := by simp [setS]
theorem snoc_of {dn : List Int} (h : 0 < dn.length) : ∃ dn0 y0, dn = dn0 ++ [y0] := by
  rcases List.eq_nil_or_concat dn with rfl | ⟨dn0, y0, rfl⟩
  · simp at h
  · exact ⟨dn0, y0, by simp⟩
theorem Pl.ne {n : Nat} {l : List Int} (h : Pl n l) {k q : Nat} {i j : Int} (hk : l[k]? = some i) (hq : l[q]? = some j) (hkq : k ≠ q) : i ≠ j := by
  rintro rfl
  obtain ⟨h1, h2⟩ := List.getElem?_eq_some_iff.1 hk
  obtain ⟨h3, h4⟩ := List.getElem?_eq_some_iff.1 hq
  exact hkq ((List.getElem_inj h.nd).1 (h2.trans h4.symm))
def p1r (st : Int) (os dn : List Int) : Int := match dn.getLast? with
  | none => st
  | some y => rnx (os.getD (dn.length - 1) 0) y
theorem p1r_snoc (st : Int) (os dn : List Int) (y o : Int) (ho : os[dn.length]? = some o) : p1r st os (dn ++ [y]) = rnx o y := by simp [p1r, List.getD_eq_getElem?_getD, ho]
section
variable {prim : FuncId → Option Prim} (d : Nat) (cfg : Cfg)
set_option maxHeartbeats 8000000 in
set_option maxRecDepth 100000 in
theorem rweak_ok (hp : prim 105 = none) (h71 : prim 132 = none) (h47 : prim 99 = none) (h63 : prim 100 = none) (t c c0 l s : List Int) (n : Nat) (htn : t.length = n) (hcn : c.length = n) (h0n : c0.length = n) (hn2 : n ≤ 2000) (hl : Pl n l) (hll : l.length ≤ 2000) (hW : WB c0 l s c) (st : Int) (H : Heap) (b : Nat)
    (hb : blockOf H b = some (c.map (V.int .i64))) (hw : cfg.wr b = true) :
    ∃ c', WB c0 l (rweak st (l.map (lvl (t.map bidi))) s) c' ∧ callM md (K prim (d + 3)) cfg 105 [rl t, .sl b 0 n n 1, il l, .int .i64 st] H = some (.tup [], H.set b (some (c'.map (V.int .i64)))) := by
  suffices HH : ∃ r h2, callM md (K prim (d + 3)) cfg 105 [rl t, .sl b 0 n n 1, il l, .int .i64 st] H = some (r, h2) ∧ ∃ c', r = .tup [] ∧ h2 = H.set b (some (c'.map (V.int .i64))) ∧ WB c0 l (rweak st (l.map (lvl (t.map bidi))) s) c' by
    obtain ⟨r, h2, h3, c', rfl, rfl, h4⟩ := HH
    exact ⟨c', h4, h3⟩
  refine call1x rfl hp Tryz.func105 rfl rfl rfl ?_
  have hw' : (Cfg.wr ⟨cfg.lo, cfg.ex, H.length⟩ b) = true := hw
  have hbl := blockOf_lt hb
  have hB := fun cfg h r => rbidi_ok (prim := prim) d cfg h h71 h47 r
  have hI := fun cfg h x => rini_ok (prim := prim) (d + 1) cfg h h63 x
  have hsl := hW.sl
  have hos : ∀ (q : Nat) (j : Int) (z : Int), l[q]? = some j → t[j.toNat]? = some z → (l.map (lvl (t.map bidi)))[q]? = some (bidi z) := by
    intro q j z hq hz
    rw [List.getElem?_map, hq]
    simp only [Option.map_some, lvl, List.getD_eq_getElem?_getD, List.getElem?_map, hz]
    rfl
  have hosl : (l.map (lvl (t.map bidi))).length = l.length := by simp
  have hr1l := rw1_len s (l.map (lvl (t.map bidi))) st (by omega)
  unfold rweak
  generalize l.map (lvl (t.map bidi)) = os at *
  simp (disch := omega)
  refine wC_loop (fun m fr H' => ∃ (dn td c' : List Int), m = td.length ∧ dn.length + td.length = l.length ∧ rw1 st os s = dn ++ rw1 (p1r st os dn) (os.drop dn.length) td ∧ WB c0 l (dn ++ td) c' ∧ H' = H.set b (some (c'.map (V.int .i64))) ∧
    Slots 346 [(0, rl t), (1, .sl b 0 n n 1), (2, il l), (3, .int .i64 st), (8, .int .i64 dn.length)] fr) (m := s.length) (by omega) ⟨[], s, c, rfl, by simpa using hsl, rfl, hW, (set_same hb).symm, by simp⟩ ?_
  rintro m fr H' ⟨dn, td, c', rfl, hlen, hF, hW2, rfl, hs⟩
  obtain ⟨j, rfl⟩ := hs.ex
  clear hs
  have hc'l : c'.length = n := hW2.len.trans h0n
  rcases td with _ | ⟨x, td⟩
  · have hlI : ¬ dn.length < l.length := by simp at hlen; omega
    rw [hF] at hr1l ⊢
    have e0 : ∀ p o, rw1 p o [] = [] := fun p o => by unfold rw1; split <;> simp_all
    rw [e0, List.append_nil] at hr1l ⊢
    rw [List.append_nil] at hW2
    clear hF
    have hsl : dn.length = l.length := by simpa using hlen
    obtain ⟨s, hse⟩ : ∃ s, s = dn := ⟨dn, rfl⟩
    subst hse
    obtain ⟨c, hce⟩ : ∃ c, c = c' := ⟨c', rfl⟩
    subst hce
    simp (disch := omega) [hlI]
    refine wC_loop (fun m fr H' => ∃ (dn td c' : List Int) (g : Int), m = td.length ∧ dn.length + td.length = l.length ∧ w2 st s = dn ++ w2 g td ∧ WB c0 l (dn ++ td) c' ∧ H' = H.set b (some (c'.map (V.int .i64))) ∧
      Slots 346 [(0, rl t), (1, .sl b 0 n n 1), (2, il l), (3, .int .i64 st), (10, .int .i64 g), (11, .int .i64 dn.length)] fr) (m := s.length) (by omega) ⟨[], s, c, st, rfl, by simpa using hsl, rfl, by simpa using hW2, rfl, by simp⟩ ?_
    rintro m fr H' ⟨dn, td, c', g, rfl, hlen, hF, hW2, rfl, hs⟩
    obtain ⟨j, rfl⟩ := hs.ex
    clear hs
    have hc'l : c'.length = n := hW2.len.trans h0n
    rcases td with _ | ⟨x, td⟩
    · have hlI : ¬ dn.length < l.length := by simp at hlen; omega
      have hF' : _ = dn := hF.trans (by simp [w2])
      rw [hF']
      rw [List.append_nil] at hW2
      have hsl : dn.length = l.length := by simpa using hlen
      clear hF hF'
      obtain ⟨s, hse⟩ : ∃ s, s = dn := ⟨dn, rfl⟩
      subst hse
      obtain ⟨c, hce⟩ : ∃ c, c = c' := ⟨c', rfl⟩
      subst hce
      simp (disch := omega) [hlI]
      refine wC_loop (fun m fr H' => ∃ (dn td c' : List Int), m = td.length ∧ dn.length + td.length = l.length ∧ w3 s = dn ++ w3 td ∧ WB c0 l (dn ++ td) c' ∧ H' = H.set b (some (c'.map (V.int .i64))) ∧
        Slots 346 [(0, rl t), (1, .sl b 0 n n 1), (2, il l), (3, .int .i64 st), (12, .int .i64 dn.length)] fr) (m := s.length) (by omega) ⟨[], s, c, rfl, by simpa using hsl, rfl, by simpa using hW2, rfl, by simp⟩ ?_
      rintro m fr H' ⟨dn, td, c', rfl, hlen, hF, hW2, rfl, hs⟩
      obtain ⟨j, rfl⟩ := hs.ex
      clear hs
      have hc'l : c'.length = n := hW2.len.trans h0n
      rcases td with _ | ⟨x, td⟩
      · have hlI : ¬ dn.length < l.length := by simp at hlen; omega
        have hF' : _ = dn := hF.trans (by simp [w3])
        rw [hF']
        rw [List.append_nil] at hW2
        have hsl : dn.length = l.length := by simpa using hlen
        clear hF hF'
        obtain ⟨s, hse⟩ : ∃ s, s = dn := ⟨dn, rfl⟩
        subst hse
        obtain ⟨c, hce⟩ : ∃ c, c = c' := ⟨c', rfl⟩
        subst hce
        simp (disch := omega) [hlI]
        refine wC_loop (fun m fr H' => ∃ (dn td c' : List Int) (k : Nat), m = td.length ∧ dn.length + td.length = l.length ∧ w4 (-1) s = dn ++ w4 (lo1 dn) td ∧ WB c0 l (dn ++ td) c' ∧ H' = H.set b (some (c'.map (V.int .i64))) ∧ (k = dn.length ∨ l.length = 0 ∧ k = 1) ∧ 0 < k ∧
          Slots 346 [(0, rl t), (1, .sl b 0 n n 1), (2, il l), (3, .int .i64 st), (13, .int .i64 k)] fr) (m := s.length - 1) (by omega) ?_ ?_
        · rcases hs0 : s with _ | ⟨x, s1⟩
          · rw [hs0] at hsl hW2
            exact ⟨[], [], c, 1, rfl, by simpa using hsl, rfl, by simpa using hW2, rfl, .inr ⟨by simpa using hsl.symm, rfl⟩, by omega, by simp⟩
          · rw [hs0] at hsl hW2
            refine ⟨[x], s1, c, 1, by simp, by simp at hsl ⊢; omega, ?_, by simpa using hW2, rfl, .inl rfl, by omega, by simp⟩
            have h1 : ∀ y, w4c (-1) x y = x := fun y => by unfold w4c; rw [if_neg (by omega)]
            simp [w4, h1, lo1]
        rintro m fr H' ⟨dn, td, c', k, rfl, hlen, hF, hW2, rfl, hk, hk0, hs⟩
        obtain ⟨j, rfl⟩ := hs.ex
        clear hs
        have hc'l : c'.length = n := hW2.len.trans h0n
        by_cases hkl : k + 1 < l.length
        · obtain rfl : k = dn.length := by omega
          obtain ⟨x, td, rfl⟩ : ∃ y td', td = y :: td' := by
            rcases td with _ | ⟨y, td'⟩
            · simp at hlen; omega
            · exact ⟨y, td', rfl⟩
          obtain ⟨y, td, rfl⟩ : ∃ y td', td = y :: td' := by
            rcases td with _ | ⟨y, td'⟩
            · simp at hlen; omega
            · exact ⟨y, td', rfl⟩
          obtain ⟨dn0, p, rfl⟩ := snoc_of (dn := dn) (by omega)
          rw [lo1_snoc] at hF
          have hr4 : w4 p (x :: y :: td) = w4c p x y :: w4 (w4c p x y) (y :: td) := rfl
          rw [hr4] at hF
          simp only [List.length_append, List.length_cons, List.length_nil, Nat.zero_add] at *
          obtain ⟨i0, hi0, hin0⟩ := hl.at_ (k := dn0.length) (by omega)
          obtain ⟨i, hi, hin⟩ := hl.at_ (k := dn0.length + 1) (by omega)
          obtain ⟨i2, hi2, hin2⟩ := hl.at_ (k := dn0.length + 2) (by omega)
          have hc0 := hW2.at_ _ i0 hi0
          have hc := hW2.at_ _ i hi
          have hcc := hW2.at_ _ i2 hi2
          have hi1 : i + 1 ≤ n := hin
          have hset : ∀ v, WB c0 l (dn0 ++ [p] ++ v :: y :: td) (c'.set i v) := fun v => by
            have h := hW2.set (by rw [h0n]; exact hl) hi v
            rw [show dn0.length + 1 = (dn0 ++ [p]).length by simp, set_app] at h
            exact h
          rw [List.getElem?_append_left (by simp)] at hc0
          simp at hc0
          rw [List.getElem?_append_right (by simp)] at hc hcc
          simp at hc hcc
          have hd1 : ((dn0.length : Int) + 1 - 1).toNat = dn0.length := by omega
          have hcx : ((dn0.length : Int) + 1).toNat = dn0.length + 1 := by omega
          have hd2 : ((dn0.length : Int) + 1 + 1).toNat = dn0.length + 2 := by omega
          have hlI : (dn0.length : Int) + 1 + 1 < l.length := by omega
          have hgo : ∀ v, w4c p x y = v → w4 (-1) s = dn0 ++ [p] ++ [v] ++ w4 (lo1 (dn0 ++ [p] ++ [v])) (y :: td) := by
            rintro v rfl
            rw [hF, lo1_snoc]; simp
          simp (disch := omega) [hlI, wrap64, -getElem?_pos]
          refine wC_draw 25 (by kernel_rfl) ?_
          simp (disch := omega) [hi0, hi, hi2, hc0, hc, hcc, hcx, hd2, wrap64, -getElem?_pos]
          by_cases hx4 : x = 4
          · by_cases hp3 : p = 3
            · by_cases hy3 : y = 3
              · have hv : w4c p x y = 3 := by unfold w4c; simp [hx4, hp3, hy3]
                simp (disch := omega) [hx4, hp3, hy3, hi, hw', hc'l, hi1, hcx, wrap64, -getElem?_pos]
                exact Rnd_of (m' := td.length + 1) (by simp) ⟨dn0 ++ [p] ++ [3], y :: td, c'.set i 3, dn0.length + 1 + 1, by simp, by simp; omega, hgo _ hv, by simpa using hset 3, by simp [List.map_set], .inl (by simp), by omega, by simp (disch := omega); try omega⟩
              · have hv : w4c p x y = x := by unfold w4c; simp [hx4, hp3, hy3]
                simp (disch := omega) [hx4, hp3, hy3, wrap64, -getElem?_pos]
                exact Rnd_of (m' := td.length + 1) (by simp) ⟨dn0 ++ [p] ++ [x], y :: td, c', dn0.length + 1 + 1, by simp, by simp; omega, hgo _ hv, by simpa using hW2, rfl, .inl (by simp), by omega, by simp (disch := omega); try omega⟩
            · have hv : w4c p x y = x := by unfold w4c; simp [hx4, hp3]
              simp (disch := omega) [hx4, hp3, wrap64, -getElem?_pos]
              exact Rnd_of (m' := td.length + 1) (by simp) ⟨dn0 ++ [p] ++ [x], y :: td, c', dn0.length + 1 + 1, by simp, by simp; omega, hgo _ hv, by simpa using hW2, rfl, .inl (by simp), by omega, by simp (disch := omega); try omega⟩
          · by_cases hx7 : x = 7
            · by_cases hpy : p = y
              · by_cases hy3 : y = 3
                · have hv : w4c p x y = 3 := by unfold w4c; simp [hx7, hpy, hy3]
                  simp (disch := omega) [hx7, hpy, hy3, hi, hw', hc'l, hi1, hcx, wrap64, -getElem?_pos]
                  exact Rnd_of (m' := td.length + 1) (by simp) ⟨dn0 ++ [p] ++ [3], y :: td, c'.set i 3, dn0.length + 1 + 1, by simp, by simp; omega, hgo _ hv, by simpa using hset 3, by simp [List.map_set], .inl (by simp), by omega, by simp (disch := omega); try omega⟩
                · by_cases hy6 : y = 6
                  · have hv : w4c p x y = 6 := by unfold w4c; simp [hx7, hpy, hy6]
                    simp (disch := omega) [hx7, hpy, hy6, hi, hw', hc'l, hi1, hcx, wrap64, -getElem?_pos]
                    exact Rnd_of (m' := td.length + 1) (by simp) ⟨dn0 ++ [p] ++ [6], y :: td, c'.set i 6, dn0.length + 1 + 1, by simp, by simp; omega, hgo _ hv, by simpa using hset 6, by simp [List.map_set], .inl (by simp), by omega, by simp (disch := omega); try omega⟩
                  · have hv : w4c p x y = x := by unfold w4c; simp [hx7, hpy, hy3, hy6]
                    simp (disch := omega) [hx7, hpy, hy3, hy6, wrap64, -getElem?_pos]
                    exact Rnd_of (m' := td.length + 1) (by simp) ⟨dn0 ++ [p] ++ [x], y :: td, c', dn0.length + 1 + 1, by simp, by simp; omega, hgo _ hv, by simpa using hW2, rfl, .inl (by simp), by omega, by simp (disch := omega); try omega⟩
              · have hv : w4c p x y = x := by unfold w4c; simp [hx7, hpy]
                simp (disch := omega) [hx7, hpy, wrap64, -getElem?_pos]
                exact Rnd_of (m' := td.length + 1) (by simp) ⟨dn0 ++ [p] ++ [x], y :: td, c', dn0.length + 1 + 1, by simp, by simp; omega, hgo _ hv, by simpa using hW2, rfl, .inl (by simp), by omega, by simp (disch := omega); try omega⟩
            · have hv : w4c p x y = x := by unfold w4c; simp [hx4, hx7]
              simp (disch := omega) [hx4, hx7, wrap64, -getElem?_pos]
              exact Rnd_of (m' := td.length + 1) (by simp) ⟨dn0 ++ [p] ++ [x], y :: td, c', dn0.length + 1 + 1, by simp, by simp; omega, hgo _ hv, by simpa using hW2, rfl, .inl (by simp), by omega, by simp (disch := omega); try omega⟩
        · have hlI : ¬ (k : Int) + 1 < l.length := by omega
          rw [w4_one _ td (by omega)] at hF
          rw [hF]
          have hkb : k ≤ 5000 := by omega
          have hsl : (dn ++ td).length = l.length := by simpa using hlen
          clear hF hlen hk
          generalize dn ++ td = s at *
          obtain ⟨c, hce⟩ : ∃ c, c = c' := ⟨c', rfl⟩
          subst hce
          simp (disch := omega) [hlI, wrap64]
          refine wC_loop (fun m fr H' => ∃ (dn td c' : List Int), m = td.length ∧ dn.length + td.length = l.length ∧ w5 (-1) 0 s = dn ++ w5 (lo1 dn) 0 td ∧ WB c0 l (dn ++ td) c' ∧ H' = H.set b (some (c'.map (V.int .i64))) ∧
            Slots 346 [(0, rl t), (1, .sl b 0 n n 1), (2, il l), (3, .int .i64 st), (17, .int .i64 dn.length)] fr) (m := s.length) (by omega) ⟨[], s, c, rfl, by simpa using hsl, rfl, by simpa using hW2, rfl, by simp⟩ ?_
          rintro m fr H' ⟨dn, td, c', rfl, hlen, hF, hW2, rfl, hs⟩
          obtain ⟨j, rfl⟩ := hs.ex
          clear hs
          have hc'l : c'.length = n := hW2.len.trans h0n
          rcases td with _ | ⟨x, td⟩
          · have hlI : ¬ dn.length < l.length := by simp at hlen; omega
            have hF' : _ = dn := hF.trans (by simp [w5])
            rw [hF']
            rw [List.append_nil] at hW2
            have hsl : dn.length = l.length := by simpa using hlen
            clear hF hF'
            obtain ⟨s, hse⟩ : ∃ s, s = dn := ⟨dn, rfl⟩
            subst hse
            obtain ⟨c, hce⟩ : ∃ c, c = c' := ⟨c', rfl⟩
            subst hce
            simp (disch := omega) [hlI]
            rw [← w7_m6]
            refine wC_loop (fun m fr H' => ∃ (dn td c' : List Int), m = td.length ∧ dn.length + td.length = l.length ∧ m6 s = dn ++ m6 td ∧ WB c0 l (dn ++ td) c' ∧ H' = H.set b (some (c'.map (V.int .i64))) ∧
              Slots 346 [(0, rl t), (1, .sl b 0 n n 1), (2, il l), (3, .int .i64 st), (20, .int .i64 dn.length)] fr) (m := s.length) (by omega) ⟨[], s, c, rfl, by simpa using hsl, rfl, by simpa using hW2, rfl, by simp⟩ ?_
            rintro m fr H' ⟨dn, td, c', rfl, hlen, hF, hW2, rfl, hs⟩
            obtain ⟨j, rfl⟩ := hs.ex
            clear hs
            have hc'l : c'.length = n := hW2.len.trans h0n
            rcases td with _ | ⟨x, td⟩
            · have hlI : ¬ dn.length < l.length := by simp at hlen; omega
              have hF' : _ = dn := hF.trans (by simp [m6])
              rw [hF']
              rw [List.append_nil] at hW2
              have hsl : dn.length = l.length := by simpa using hlen
              clear hF hF'
              obtain ⟨s, hse⟩ : ∃ s, s = dn := ⟨dn, rfl⟩
              subst hse
              obtain ⟨c, hce⟩ : ∃ c, c = c' := ⟨c', rfl⟩
              subst hce
              simp (disch := omega) [hlI]
              refine wC_loop (fun m fr H' => ∃ (dn td c' : List Int) (g : Int), m = td.length ∧ dn.length + td.length = l.length ∧ w7 st s = dn ++ w7 g td ∧ WB c0 l (dn ++ td) c' ∧ H' = H.set b (some (c'.map (V.int .i64))) ∧
                Slots 346 [(0, rl t), (1, .sl b 0 n n 1), (2, il l), (3, .int .i64 st), (10, .int .i64 g), (21, .int .i64 dn.length)] fr) (m := s.length) (by omega) ⟨[], s, c, st, rfl, by simpa using hsl, rfl, by simpa using hW2, rfl, by simp⟩ ?_
              rintro m fr H' ⟨dn, td, c', g, rfl, hlen, hF, hW2, rfl, hs⟩
              obtain ⟨j, rfl⟩ := hs.ex
              clear hs
              have hc'l : c'.length = n := hW2.len.trans h0n
              rcases td with _ | ⟨x, td⟩
              · have hlI : ¬ dn.length < l.length := by simp at hlen; omega
                have hF' : _ = dn := hF.trans (by simp [w7])
                rw [hF']
                rw [List.append_nil] at hW2
                have hsl : dn.length = l.length := by simpa using hlen
                clear hF hF'
                obtain ⟨s, hse⟩ : ∃ s, s = dn := ⟨dn, rfl⟩
                subst hse
                obtain ⟨c, hce⟩ : ∃ c, c = c' := ⟨c', rfl⟩
                subst hce
                simp (disch := omega) [hlI]
                exact ⟨c, List.take_of_length_le (by simp), hW2⟩
              · have hlt : dn.length < l.length := by simp at hlen; omega
                obtain ⟨i, hi, hin⟩ := hl.at_ hlt
                have hc := hW2.at_ _ i hi
                rw [Int.toNat_natCast, List.getElem?_append_right (Nat.le_refl _), Nat.sub_self, List.getElem?_cons_zero] at hc
                have hi1 : i + 1 ≤ n := hin
                have hset : ∀ v, WB c0 l (dn ++ v :: td) (c'.set i v) := fun v => by
                  have h := hW2.set (by rw [h0n]; exact hl) hi v
                  rwa [set_app] at h
                by_cases hx0 : x = 0
                · subst hx0
                  simp (disch := omega) [hlt, hi, hc, wrap64, -getElem?_pos]
                  exact Rnd_of (m' := td.length) (by simp) ⟨dn ++ [0], td, c', 0, rfl, by simp at hlen ⊢; omega, by rw [hF]; simp [w7], by simpa using hW2, rfl, by simp (disch := omega); try omega⟩
                · by_cases hx1 : x = 1
                  · subst hx1
                    simp (disch := omega) [hlt, hi, hc, wrap64, -getElem?_pos]
                    exact Rnd_of (m' := td.length) (by simp) ⟨dn ++ [1], td, c', 1, rfl, by simp at hlen ⊢; omega, by rw [hF]; simp [w7], by simpa using hW2, rfl, by simp (disch := omega); try omega⟩
                  · by_cases hx3 : x = 3
                    · subst hx3
                      by_cases hg : g = 0
                      · subst hg
                        simp (disch := omega) [hlt, hi, hc, hw', hc'l, hi1, wrap64, -getElem?_pos]
                        exact Rnd_of (m' := td.length) (by simp) ⟨dn ++ [0], td, c'.set i (0), 0, rfl, by simp at hlen ⊢; omega, by rw [hF]; simp [w7], by simpa using hset (0), by simp [List.map_set], by simp (disch := omega); try omega⟩
                      · simp (disch := omega) [hg, hlt, hi, hc, wrap64, -getElem?_pos]
                        exact Rnd_of (m' := td.length) (by simp) ⟨dn ++ [3], td, c', g, rfl, by simp at hlen ⊢; omega, by rw [hF]; simp [w7, hg], by simpa using hW2, rfl, by simp (disch := omega); try omega⟩
                    · simp (disch := omega) [hx0, hx1, hx3, hlt, hi, hc, wrap64, -getElem?_pos]
                      exact Rnd_of (m' := td.length) (by simp) ⟨dn ++ [x], td, c', g, rfl, by simp at hlen ⊢; omega, by rw [hF]; simp [w7, hx0, hx1, hx3], by simpa using hW2, rfl, by simp (disch := omega); try omega⟩
            · have hlt : dn.length < l.length := by simp at hlen; omega
              obtain ⟨i, hi, hin⟩ := hl.at_ hlt
              have hc := hW2.at_ _ i hi
              rw [Int.toNat_natCast, List.getElem?_append_right (Nat.le_refl _), Nat.sub_self, List.getElem?_cons_zero] at hc
              have hi1 : i + 1 ≤ n := hin
              have hset : ∀ v, WB c0 l (dn ++ v :: td) (c'.set i v) := fun v => by
                have h := hW2.set (by rw [h0n]; exact hl) hi v
                rwa [set_app] at h
              by_cases hx4 : x = 4
              · subst hx4
                simp (disch := omega) [hlt, hi, hc, hw', hc'l, hi1, wrap64, -getElem?_pos]
                exact Rnd_of (m' := td.length) (by simp) ⟨dn ++ [13], td, c'.set i (13), rfl, by simp at hlen ⊢; omega, by rw [hF]; simp [m6], by simpa using hset (13), by simp [List.map_set], by simp (disch := omega); try omega⟩
              · by_cases hx5 : x = 5
                · subst hx5
                  simp (disch := omega) [hlt, hi, hc, hw', hc'l, hi1, wrap64, -getElem?_pos]
                  exact Rnd_of (m' := td.length) (by simp) ⟨dn ++ [13], td, c'.set i (13), rfl, by simp at hlen ⊢; omega, by rw [hF]; simp [m6], by simpa using hset (13), by simp [List.map_set], by simp (disch := omega); try omega⟩
                · by_cases hx7 : x = 7
                  · subst hx7
                    simp (disch := omega) [hlt, hi, hc, hw', hc'l, hi1, wrap64, -getElem?_pos]
                    exact Rnd_of (m' := td.length) (by simp) ⟨dn ++ [13], td, c'.set i (13), rfl, by simp at hlen ⊢; omega, by rw [hF]; simp [m6], by simpa using hset (13), by simp [List.map_set], by simp (disch := omega); try omega⟩
                  · simp (disch := omega) [hx4, hx5, hx7, hlt, hi, hc, wrap64, -getElem?_pos]
                    exact Rnd_of (m' := td.length) (by simp) ⟨dn ++ [x], td, c', rfl, by simp at hlen ⊢; omega, by rw [hF]; simp [m6, hx4, hx5, hx7], by simpa using hW2, rfl, by simp (disch := omega); try omega⟩
          · have hlt : dn.length < l.length := by simp at hlen; omega
            obtain ⟨i, hi, hin⟩ := hl.at_ hlt
            have hc := hW2.at_ _ i hi
            rw [Int.toNat_natCast, List.getElem?_append_right (Nat.le_refl _), Nat.sub_self, List.getElem?_cons_zero] at hc
            have hi1 : i + 1 ≤ n := hin
            by_cases hx : x = 5
            · subst hx
              simp (disch := omega) [hlt, hi, hc, -getElem?_pos]
              simp only [List.length_cons] at hlen
              refine wC_loop (fun m fr H' => ∃ (k : Nat) (rest : List Int), 5 :: td = List.replicate k 5 ++ rest ∧ m = rest.length ∧ H' = H.set b (some (c'.map (V.int .i64))) ∧
                Slots 346 [(0, rl t), (1, .sl b 0 n n 1), (2, il l), (3, .int .i64 st), (17, .int .i64 dn.length), (18, .int .i64 (dn.length + k : Nat))] fr) (m := td.length + 1) (by omega) ⟨0, 5 :: td, rfl, rfl, rfl, by simp⟩ ?_
              rintro m fr H' ⟨k, rest, htd, rfl, rfl, hs⟩
              obtain ⟨j2, rfl⟩ := hs.ex
              clear hs
              have hkl : k + rest.length = td.length + 1 := by have := congrArg List.length htd; simp at this; omega
              have hat : ∀ y r', rest = y :: r' → ∃ i2 : Nat, l[dn.length + k]? = some (i2 : Int) ∧ i2 < n ∧ c'[i2]? = some y := by
                rintro y r' rfl
                simp only [List.length_cons] at hkl
                obtain ⟨i2, hi2, hin2⟩ := hl.at_ (k := dn.length + k) (by omega)
                have hcc := hW2.at_ _ i2 hi2
                rw [htd, List.getElem?_append_right (by omega), Nat.add_sub_cancel_left, List.getElem?_append_right (by simp), Int.toNat_natCast] at hcc
                simp at hcc
                exact ⟨i2, hi2, hin2, hcc⟩
              have hc2 : ((dn.length : Int) + k).toNat = dn.length + k := by omega
              have hcont : (∃ r', rest = 5 :: r') ∨ (rest.headD (-1) ≠ 5 ∧ 0 < k) := by
                rcases rest with _ | ⟨y, r'⟩
                · exact .inr ⟨by simp, by simp at hkl; omega⟩
                · by_cases hy : y = 5
                  · subst hy; exact .inl ⟨r', rfl⟩
                  · refine .inr ⟨by simpa using hy, ?_⟩
                    rcases k with _ | k
                    · simp at htd; exact absurd htd.1.symm hy
                    · omega
              rcases hcont with ⟨r', hr⟩ | ⟨hstop, hk0⟩
              · obtain ⟨i2, hi2, hin2, hcc⟩ := hat 5 r' hr
                subst hr
                simp only [List.length_cons] at hkl
                have hlt2 : (dn.length : Int) + k < l.length := by omega
                simp (disch := omega) [hlt2, hc2, hi2, hcc, wrap64, -getElem?_pos]
                exact Rnd_of (m' := r'.length) (by simp) ⟨k + 1, r', by rw [htd, List.replicate_succ']; simp, rfl, rfl, by simp (disch := omega); try omega⟩
              · obtain ⟨B, hB⟩ : ∃ B, B = lo1 dn := ⟨_, rfl⟩
                obtain ⟨A, hA⟩ : ∃ A, A = rest.headD (-1) := ⟨_, rfl⟩
                obtain ⟨to, hto⟩ : ∃ to : Int, to = if B = 3 ∨ A = 3 then 3 else 5 := ⟨_, rfl⟩
                have hF2 : ∀ q, w5 (lo1 dn) 0 (5 :: td) = List.replicate k to ++ w5 q 0 rest := by
                  intro q
                  rw [htd, w5_run, Nat.zero_add, w5_end _ q _ rest hstop, hto, hB, hA]
                obtain ⟨i0, hin0, hI0, hC0⟩ : ∃ (i0 : Nat), i0 < n ∧ (0 < dn.length → l[dn.length - 1]? = some (i0 : Int)) ∧ (0 < dn.length → c'[i0]? = some B) := by
                  rcases List.eq_nil_or_concat dn with rfl | ⟨dn0, y0, rfl⟩
                  · exact ⟨0, by omega, by simp, by simp⟩
                  · obtain ⟨i0, hi0, hin0⟩ := hl.at_ (k := dn0.length) (by simp at hlt; omega)
                    have hcc := hW2.at_ _ i0 hi0
                    simp at hcc
                    refine ⟨i0, hin0, fun _ => ?_, fun _ => ?_⟩
                    · rw [← hi0]; congr 1; simp
                    · rw [hB, hcc]; simp [lo1]
                have hB0 : ¬ 0 < dn.length → ¬ B = 3 := by
                  intro h
                  obtain rfl : dn = [] := List.eq_nil_of_length_eq_zero (by omega)
                  rw [hB]; simp [lo1]
                obtain ⟨i2, hin2, hI2, hC2⟩ : ∃ (i2 : Nat), i2 < n ∧ (dn.length + k < l.length → l[dn.length + k]? = some (i2 : Int)) ∧ (dn.length + k < l.length → c'[i2]? = some A) := by
                  rcases hr : rest with _ | ⟨y, r'⟩
                  · rw [hr] at hkl; simp at hkl; exact ⟨0, by omega, by omega, by omega⟩
                  · obtain ⟨i2, hi2, hin2, hcc⟩ := hat y r' hr
                    exact ⟨i2, hin2, fun _ => hi2, fun _ => by rw [hA, hr]; exact hcc⟩
                have hA0 : ¬ dn.length + k < l.length → ¬ A = 3 := by
                  intro h
                  rcases hr : rest with _ | ⟨y, r'⟩
                  · rw [hA, hr]; simp
                  · rw [hr] at hkl; simp at hkl; omega
                have hA5 : ¬ A = 5 := by rw [hA]; exact hstop
                clear hB hA
                have hrI : ((dn.length : Int) + k < l.length) = (dn.length + k < l.length) := by simp only [eq_iff_iff]; omega
                have hc0 : ((dn.length : Int) - 1).toNat = dn.length - 1 := by omega
                by_cases h3 : B = 3 ∨ A = 3
                · rw [if_pos h3] at hto
                  subst hto
                  have hcs : (0 < dn.length ∧ B = 3 ∧ ¬ dn.length + k < l.length) ∨ (0 < dn.length ∧ B = 3 ∧ dn.length + k < l.length) ∨ (0 < dn.length ∧ ¬ B = 3 ∧ A = 3 ∧ dn.length + k < l.length) ∨ (¬ 0 < dn.length ∧ A = 3 ∧ dn.length + k < l.length) := by
                    by_cases hd0 : 0 < dn.length <;> by_cases hr : dn.length + k < l.length <;> by_cases hB3 : B = 3 <;> simp_all
                  rcases hcs with ⟨hd0, hB3, hr⟩ | ⟨hd0, hB3, hr⟩ | ⟨hd0, hB3, hA3, hr⟩ | ⟨hd0, hA3, hr⟩
                  all_goals first
                    | simp (maxSteps := 1000000) (disch := omega) [hrI, hr, hd0, hc2, hc0, hI2, hC2, hI0, hC0, hB3, hA3, wrap64, -getElem?_pos]
                    | simp (maxSteps := 1000000) (disch := omega) [hrI, hr, hd0, hc2, hI2, hC2, hA3, -getElem?_pos]
                    | simp (maxSteps := 1000000) (disch := omega) [hrI, hr, hd0, hc0, hc2, hI2, hC2, hA5, hI0, hC0, hB3, wrap64, -getElem?_pos]
                  all_goals
                    refine wC_loop (fun m fr H' => ∃ (q : Nat) (c'' : List Int), q ≤ k ∧ m = k - q ∧ WB c0 l (dn ++ (List.replicate q 3 ++ List.replicate (k - q) 5) ++ rest) c'' ∧ H' = H.set b (some (c''.map (V.int .i64))) ∧
                      Slots 346 [(0, rl t), (1, .sl b 0 n n 1), (2, il l), (3, .int .i64 st), (17, .int .i64 dn.length), (18, .int .i64 (dn.length + k : Nat)), (19, .int .i64 (dn.length + q : Nat))] fr) (m := k) (by omega) ⟨0, c', by omega, by omega, by rw [htd] at hW2; simpa using hW2, rfl, by simp⟩ ?_
                    rintro m fr H' ⟨q, c'', hq, rfl, hWq, rfl, hs⟩
                    obtain ⟨j, rfl⟩ := hs.ex
                    clear hs
                    have hc'' : c''.length = n := hWq.len.trans h0n
                    by_cases hqk : q < k
                    · obtain ⟨i, hi, hin⟩ := hl.at_ (k := dn.length + q) (by omega)
                      have hle : i + 1 ≤ n := by omega
                      have hst := hWq.set (by rw [h0n]; exact hl) hi 3
                      have e1 : dn ++ (List.replicate q (3 : Int) ++ List.replicate (k - q) 5) ++ rest = (dn ++ List.replicate q 3) ++ 5 :: (List.replicate (k - (q + 1)) 5 ++ rest) := by
                        rw [show k - q = (k - (q + 1)) + 1 by omega, List.replicate_succ]; simp
                      have e2 : dn.length + q = (dn ++ List.replicate q (3 : Int)).length := by simp
                      rw [e1] at hst
                      conv at hst => lhs; rw [e2]
                      rw [set_app] at hst
                      have hlt2 : (dn.length : Int) + q < (dn.length : Int) + k := by omega
                      have hq2 : ((dn.length : Int) + q).toNat = dn.length + q := by omega
                      simp (disch := omega) [hlt2, hq2, hi, hc'', hle, hw', wrap64, -getElem?_pos]
                      refine Rnd_of (m' := k - (q + 1)) (by omega) ⟨q + 1, c''.set i 3, by omega, rfl, ?_, by simp [List.map_set], by simp (disch := omega); try omega⟩
                      rw [List.replicate_succ']
                      simpa using hst
                    · obtain rfl : q = k := by omega
                      simp (disch := omega)
                      refine Rnd_of (m' := rest.length) (by simp; omega) ⟨dn ++ List.replicate q 3, rest, c'', rfl, by simp; omega, ?_, by simpa using hWq, rfl, by simp⟩
                      rw [hF, hF2 (lo1 (dn ++ List.replicate q 3))]
                      simp
                · rw [if_neg h3] at hto
                  subst hto
                  have hB3 : ¬ B = 3 := fun h => h3 (.inl h)
                  have hA3 : ¬ A = 3 := fun h => h3 (.inr h)
                  have hWr : WB c0 l (dn ++ (List.replicate k 5 ++ rest)) c' := by rw [← htd]; exact hW2
                  by_cases hd0 : 0 < dn.length <;> by_cases hr : dn.length + k < l.length
                  all_goals
                    simp (maxSteps := 1000000) (disch := omega) [hrI, hr, hd0, hc2, hc0, hI2, hC2, hI0, hC0, hB3, hA3, hA5, wrap64, -getElem?_pos]
                    refine Rnd_of (m' := rest.length) (by simp; omega) ⟨dn ++ List.replicate k 5, rest, c', rfl, by simp; omega, ?_, by simpa using hWr, rfl, by simp⟩
                    rw [hF, hF2 (lo1 (dn ++ List.replicate k 5))]
                    simp
            · simp (disch := omega) [hx, hlt, hi, hc, wrap64, -getElem?_pos]
              exact Rnd_of (m' := td.length) (by simp) ⟨dn ++ [x], td, c', rfl, by simp at hlen ⊢; omega, by rw [hF, lo1_snoc]; simp [w5, hx], by simpa using hW2, rfl, by simp (disch := omega); try omega⟩
      · have hlt : dn.length < l.length := by simp at hlen; omega
        obtain ⟨i, hi, hin⟩ := hl.at_ hlt
        have hc := hW2.at_ _ i hi
        rw [Int.toNat_natCast, List.getElem?_append_right (Nat.le_refl _), Nat.sub_self, List.getElem?_cons_zero] at hc
        have hi1 : i + 1 ≤ n := hin
        have hset : ∀ v, WB c0 l (dn ++ v :: td) (c'.set i v) := fun v => by
          have h := hW2.set (by rw [h0n]; exact hl) hi v
          rwa [set_app] at h
        by_cases hx2 : x = 2
        · subst hx2
          simp (disch := omega) [hlt, hi, hc, hw', hc'l, hi1, wrap64, -getElem?_pos]
          exact Rnd_of (m' := td.length) (by simp) ⟨dn ++ [1], td, c'.set i (1), rfl, by simp at hlen ⊢; omega, by rw [hF]; simp [w3], by simpa using hset (1), by simp [List.map_set], by simp (disch := omega); try omega⟩
        · simp (disch := omega) [hx2, hlt, hi, hc, wrap64, -getElem?_pos]
          exact Rnd_of (m' := td.length) (by simp) ⟨dn ++ [x], td, c', rfl, by simp at hlen ⊢; omega, by rw [hF]; simp [w3, hx2], by simpa using hW2, rfl, by simp (disch := omega); try omega⟩
    · have hlt : dn.length < l.length := by simp at hlen; omega
      obtain ⟨i, hi, hin⟩ := hl.at_ hlt
      have hc := hW2.at_ _ i hi
      rw [Int.toNat_natCast, List.getElem?_append_right (Nat.le_refl _), Nat.sub_self, List.getElem?_cons_zero] at hc
      have hi1 : i + 1 ≤ n := hin
      have hset : ∀ v, WB c0 l (dn ++ v :: td) (c'.set i v) := fun v => by
        have h := hW2.set (by rw [h0n]; exact hl) hi v
        rwa [set_app] at h
      by_cases hx0 : x = 0
      · subst hx0
        simp (disch := omega) [hlt, hi, hc, wrap64, -getElem?_pos]
        exact Rnd_of (m' := td.length) (by simp) ⟨dn ++ [0], td, c', 0, rfl, by simp at hlen ⊢; omega, by rw [hF]; simp [w2], by simpa using hW2, rfl, by simp (disch := omega); try omega⟩
      · by_cases hx1 : x = 1
        · subst hx1
          simp (disch := omega) [hlt, hi, hc, wrap64, -getElem?_pos]
          exact Rnd_of (m' := td.length) (by simp) ⟨dn ++ [1], td, c', 1, rfl, by simp at hlen ⊢; omega, by rw [hF]; simp [w2], by simpa using hW2, rfl, by simp (disch := omega); try omega⟩
        · by_cases hx2 : x = 2
          · subst hx2
            simp (disch := omega) [hlt, hi, hc, wrap64, -getElem?_pos]
            exact Rnd_of (m' := td.length) (by simp) ⟨dn ++ [2], td, c', 2, rfl, by simp at hlen ⊢; omega, by rw [hF]; simp [w2], by simpa using hW2, rfl, by simp (disch := omega); try omega⟩
          · by_cases hx3 : x = 3
            · subst hx3
              by_cases hg : g = 2
              · subst hg
                simp (disch := omega) [hlt, hi, hc, hw', hc'l, hi1, wrap64, -getElem?_pos]
                exact Rnd_of (m' := td.length) (by simp) ⟨dn ++ [6], td, c'.set i (6), 2, rfl, by simp at hlen ⊢; omega, by rw [hF]; simp [w2], by simpa using hset (6), by simp [List.map_set], by simp (disch := omega); try omega⟩
              · simp (disch := omega) [hg, hlt, hi, hc, wrap64, -getElem?_pos]
                exact Rnd_of (m' := td.length) (by simp) ⟨dn ++ [3], td, c', g, rfl, by simp at hlen ⊢; omega, by rw [hF]; simp [w2, hg], by simpa using hW2, rfl, by simp (disch := omega); try omega⟩
            · simp (disch := omega) [hx0, hx1, hx2, hx3, hlt, hi, hc, wrap64, -getElem?_pos]
              exact Rnd_of (m' := td.length) (by simp) ⟨dn ++ [x], td, c', g, rfl, by simp at hlen ⊢; omega, by rw [hF]; simp [w2, hx0, hx1, hx2, hx3], by simpa using hW2, rfl, by simp (disch := omega); try omega⟩
  · have hlt : dn.length < l.length := by simp at hlen; omega
    obtain ⟨i, hi, hin⟩ := hl.at_ hlt
    have hc := hW2.at_ _ i hi
    rw [Int.toNat_natCast, List.getElem?_append_right (Nat.le_refl _), Nat.sub_self, List.getElem?_cons_zero] at hc
    have hi1 : i + 1 ≤ n := hin
    have hset : ∀ v, WB c0 l (dn ++ v :: td) (c'.set i v) := fun v => by
      have h := hW2.set (by rw [h0n]; exact hl) hi v
      rwa [set_app] at h
    obtain ⟨z, hz⟩ : ∃ z, t[i]? = some z := ⟨_, List.getElem?_eq_getElem (by omega)⟩
    have ho := hos _ i z hi (by rw [Int.toNat_natCast]; exact hz)
    have hdr : os.drop dn.length = bidi z :: os.drop (dn.length + 1) := drop_at ho
    rw [hdr] at hF
    by_cases hx : x = 8
    · subst hx
      by_cases hd0 : 0 < dn.length
      · obtain ⟨dn0, y0, rfl⟩ := snoc_of hd0
        have hlt0 : dn0.length < l.length := by simp at hlt; omega
        obtain ⟨i0, hi0, hin0⟩ := hl.at_ hlt0
        have hcc := hW2.at_ _ i0 hi0
        simp at hcc
        have hne : ¬ i = i0 := fun e => hl.ne hi hi0 (by simp) (by rw [e])
        obtain ⟨z0, hz0⟩ : ∃ z, t[i0]? = some z := ⟨_, List.getElem?_eq_getElem (by omega)⟩
        have ho0 := hos _ i0 z0 hi0 (by rw [Int.toNat_natCast]; exact hz0)
        rw [p1r_snoc st os dn0 y0 _ ho0] at hF
        simp only [List.length_append, List.length_cons, List.length_nil, Nat.zero_add] at *
        have hd1 : ((dn0.length : Int) + 1 - 1).toNat = dn0.length := by omega
        have hlI : (dn0.length : Int) + 1 < l.length := by omega
        have hc1 : ((dn0.length : Int) + 1).toNat = dn0.length + 1 := by omega
        simp (disch := omega) [hlI, hi, hc, hw', hc'l, hi1, hc1, hi0, hz0, hB, wrap64, -getElem?_pos]
        have hso : ∀ v : V, slot ((c'.map (V.int .i64)).set i v) i0 = some (.int .i64 y0) := fun v => by rw [slot_oth hne, slot_ints, hcc]; rfl
        refine wC_draw 13 (by kernel_rfl) ?_
        simp (disch := omega) [hi, hw', hc'l, hi1, hc1, hi0, hso, setS_set, wrap64, -getElem?_pos]
        rw [rw1, if_pos rfl] at hF
        by_cases hxx : ini (bidi z0) = true ∨ bidi z0 = 22
        · have hr : rnx (bidi z0) y0 = 13 := if_pos hxx
          rw [hr] at hF
          have hgo : dn0 ++ [y0] ++ 13 :: rw1 (rnx (bidi z) 13) (os.drop (dn0.length + 1 + 1)) td = dn0 ++ [y0] ++ [13] ++ rw1 (p1r st os (dn0 ++ [y0] ++ [13])) (os.drop (dn0.length + 1 + 1)) td := by
            rw [p1r_snoc st os (dn0 ++ [y0]) 13 _ (by simpa using ho)]; simp
          rw [hgo] at hF
          have hw13 := hset 13
          cases hini : ini (bidi z0)
          · have h22 : bidi z0 = 22 := by simpa [hini] using hxx
            simp (disch := omega) [hI, h22, show ini 22 = false from rfl, hi, hw', hc'l, hi1, hc1, setS_set, wrap64, -getElem?_pos]
            exact Rnd_of (m' := td.length) (by simp) ⟨dn0 ++ [y0] ++ [13], td, c'.set i 13, rfl, by simp at hlen ⊢; omega, by rw [hF]; simp, by simpa using hw13, by simp [List.map_set], by simp (disch := omega); try omega⟩
          · simp (disch := omega) [hI, hini, hi, hw', hc'l, hi1, hc1, setS_set, wrap64, -getElem?_pos]
            exact Rnd_of (m' := td.length) (by simp) ⟨dn0 ++ [y0] ++ [13], td, c'.set i 13, rfl, by simp at hlen ⊢; omega, by rw [hF]; simp, by simpa using hw13, by simp [List.map_set], by simp (disch := omega); try omega⟩
        · have hr : rnx (bidi z0) y0 = y0 := if_neg hxx
          rw [hr] at hF
          have hgo : dn0 ++ [y0] ++ y0 :: rw1 (rnx (bidi z) y0) (os.drop (dn0.length + 1 + 1)) td = dn0 ++ [y0] ++ [y0] ++ rw1 (p1r st os (dn0 ++ [y0] ++ [y0])) (os.drop (dn0.length + 1 + 1)) td := by
            rw [p1r_snoc st os (dn0 ++ [y0]) y0 _ (by simpa using ho)]; simp
          rw [hgo] at hF
          have hwy := hset y0
          have hini : ini (bidi z0) = false := by
            cases h : ini (bidi z0)
            · rfl
            · exact absurd (.inl h) hxx
          have h22 : ¬ bidi z0 = 22 := fun h => hxx (.inr h)
          simp (disch := omega) [hI, hini, h22, wrap64, -getElem?_pos]
          exact Rnd_of (m' := td.length) (by simp) ⟨dn0 ++ [y0] ++ [y0], td, c'.set i y0, rfl, by simp at hlen ⊢; omega, by rw [hF]; simp, by simpa using hwy, by simp [List.map_set], by simp (disch := omega); try omega⟩
      · obtain rfl : dn = [] := List.eq_nil_of_length_eq_zero (by omega)
        simp only [List.length_nil, List.nil_append, Int.natCast_zero] at *
        have hwy := hset st
        simp (disch := omega) [hlt, hi, hc, hw', hc'l, hi1, wrap64, -getElem?_pos]
        rw [rw1, if_pos rfl] at hF
        exact Rnd_of (m' := td.length) (by simp) ⟨[st], td, c'.set i st, rfl, by simp at hlen ⊢; omega, by rw [hF, show p1r st os [st] = rnx (bidi z) st from p1r_snoc st os [] st _ ho]; rfl, by simpa using hwy, by simp [List.map_set], by simp (disch := omega); try omega⟩
    · rw [rw1, if_neg hx] at hF
      have hgo : dn ++ x :: rw1 (rnx (bidi z) x) (os.drop (dn.length + 1)) td = dn ++ [x] ++ rw1 (p1r st os (dn ++ [x])) (os.drop (dn.length + 1)) td := by
        rw [p1r_snoc st os dn x _ ho]; simp
      rw [hgo] at hF
      simp (disch := omega) [hlt, hi, hc, hx, wrap64, -getElem?_pos]
      exact Rnd_of (m' := td.length) (by simp) ⟨dn ++ [x], td, c', rfl, by simp at hlen ⊢; omega, by rw [hF]; simp, by simpa using hW2, rfl, by simp (disch := omega); try omega⟩
end
end Bi
end Go.Ab
