/- Several texts of this proof in one. -/
import Derived.Test.YtcedojbifnangaaBiRj
import Derived.Test.YtcedojbifnangaaBiLev
/- The reference: set, trail. -/
namespace Go.Ab
open Go.Proofs
namespace Bi
section
variable {prim : FuncId → Option Prim} (d : Nat) (cfg : Cfg)
set_option maxHeartbeats 1000000 in
theorem rset_ok (hp : prim 69 = none) (h71 : prim 71 = none) (h47 : prim 47 = none) (t c c0 l s : List Int) (n : Nat) (htn : t.length = n) (hcn : c.length = n) (h0n : c0.length = n) (hn2 : n ≤ 2000) (hl : Pl n l) (hll : l.length ≤ 2000) (hW : WB c0 l s c) (k : Nat) (hk : k < l.length) (to : Int) (H : Heap) (b : Nat)
    (hb : blockOf H b = some (c.map (V.int .i64))) (hw : cfg.wr b = true) :
    ∃ c', WB c0 l (bset (l.map (lvl (t.map bidi))) s k to) c' ∧ callM md (K prim (d + 3)) cfg 69 [rl t, .sl b 0 n n 1, il l, .int .i64 k, .int .i64 to] H = some (.tup [], H.set b (some (c'.map (V.int .i64)))) := by
  suffices HH : ∃ r h2, callM md (K prim (d + 3)) cfg 69 [rl t, .sl b 0 n n 1, il l, .int .i64 k, .int .i64 to] H = some (r, h2) ∧ ∃ c', r = .tup [] ∧ h2 = H.set b (some (c'.map (V.int .i64))) ∧ WB c0 l (bset (l.map (lvl (t.map bidi))) s k to) c' by
    obtain ⟨r, h2, h3, c', rfl, rfl, h4⟩ := HH
    exact ⟨c', h4, h3⟩
  refine call1x rfl hp Try.func69 rfl rfl rfl ?_
  have hw' : (Cfg.wr ⟨cfg.lo, cfg.ex, H.length⟩ b) = true := hw
  have hbl := blockOf_lt hb
  have hB := fun cfg h r => rbidi_ok (prim := prim) d cfg h h71 h47 r
  obtain ⟨i, hi, hin⟩ := hl.at_ hk
  have hW1 := hW.set (by rw [h0n]; exact hl) hi to
  have hcl1 : (c.set i to).length = n := by simpa using hcn
  have hi1 : i + 1 ≤ n := hin
  have hos : ∀ (q : Nat) (j : Int) (z : Int), l[q]? = some j → t[j.toNat]? = some z → (l.map (lvl (t.map bidi)))[q]? = some (bidi z) := by
    intro q j z hq hz
    rw [List.getElem?_map, hq]
    simp only [Option.map_some, lvl, List.getD_eq_getElem?_getD, List.getElem?_map, hz]
    rfl
  have hosl : (l.map (lvl (t.map bidi))).length = l.length := by simp
  unfold bset
  generalize l.map (lvl (t.map bidi)) = os at *
  simp (disch := omega) [hi, hb, hcn, hi1, hw', wrap64, -getElem?_pos]
  refine wC_loop (fun m fr H' => ∃ (q : Nat) (s' c' : List Int), k + 1 ≤ q ∧ q ≤ l.length ∧ m = l.length - q ∧ setR (s.set k to) (k + 1) to (nsm os (k + 1)) = setR s' q to (nsm os q) ∧ WB c0 l s' c' ∧ H' = H.set b (some (c'.map (V.int .i64))) ∧
    Slots 44 [(0, rl t), (1, .sl b 0 n n 1), (2, il l), (3, .int .i64 k), (4, .int .i64 to), (10, .int .i64 q)] fr) (m := l.length - (k + 1)) (by omega) ⟨k + 1, s.set k to, c.set i to, by omega, by omega, rfl, rfl, hW1, by simp [List.map_set], by simp⟩ ?_
  rintro m fr H' ⟨q, s', c', h1, h2, rfl, hF, hW2, rfl, hs⟩
  obtain ⟨j1, rfl⟩ := hs.ex
  clear hs
  have hc'l : c'.length = n := hW2.len.trans h0n
  by_cases hq : q < l.length
  · obtain ⟨j, hj, hjn⟩ := hl.at_ hq
    obtain ⟨z, hz⟩ : ∃ z, t[j]? = some z := ⟨_, List.getElem?_eq_getElem (by omega)⟩
    have ho := hos q j z hj (by rw [Int.toNat_natCast]; exact hz)
    have hqI : (q : Int) < l.length := by omega
    by_cases h8 : bidi z = 8
    · rw [h8] at ho
      rw [nsm_yes ho, setR] at hF
      have hW3 := hW2.set (by rw [h0n]; exact hl) hj to
      have hj1 : j + 1 ≤ n := hjn
      simp (disch := omega) [hqI, hj, hz, hB, h8, hc'l, hj1, hw', wrap64, -getElem?_pos]
      exact Rnd_of (m' := l.length - (q + 1)) (by omega) ⟨q + 1, s'.set q to, c'.set j to, by omega, by omega, rfl, hF, hW3, by simp [List.map_set], by simp (disch := omega)⟩
    · have hn0 : nsm os q = 0 := nsm_no (by rw [ho]; simpa using h8)
      rw [hn0, setR] at hF
      simp (disch := omega) [hqI, hj, hz, hB, h8, -getElem?_pos]
      refine ⟨c', List.take_of_length_le (by simp), ?_⟩
      rw [hF]; exact hW2
  · have hqI : ¬ (q : Int) < l.length := by omega
    have hn0 : nsm os q = 0 := nsm_no (by rw [List.getElem?_eq_none (by omega)]; simp)
    rw [hn0, setR] at hF
    simp (disch := omega) [hqI]
    refine ⟨c', List.take_of_length_le (by simp), ?_⟩
    rw [hF]; exact hW2
end
end Bi
end Go.Ab
/- The reference: the neutral rules. -/
namespace Go.Ab
open Go.Proofs
namespace Bi
/-- The neutral rules, told by the direction alone. -/
def neuF (d e : Int) : Int → Nat → List Int → List Int
  | b, n, [] => List.replicate n (if b = e then b else d)
  | b, n, x :: r => if dirS x < 0 then neuF d e b (n + 1) r else List.replicate n (if b = dirS x then b else d) ++ x :: neuF d e (dirS x) 0 r
theorem neuF_run (d e b : Int) : ∀ (run : List Int) (k : Nat) (r : List Int), (∀ x ∈ run, dirS x < 0) → neuF d e b k (run ++ r) = neuF d e b (k + run.length) r
  | [], k, r, _ => rfl
  | x :: run, k, r, h => by
    rw [List.cons_append, neuF, if_pos (h x (List.mem_cons_self ..)), neuF_run d e b run (k + 1) r fun y hy => h y (List.mem_cons_of_mem _ hy)]
    simp only [List.length_cons]
    rw [show k + 1 + run.length = k + (run.length + 1) by omega]
theorem neuF_end (d e b b' : Int) (n : Nat) (r : List Int) (h : ∀ x r', r = x :: r' → ¬ dirS x < 0) : neuF d e b n r = List.replicate n (if b = aft e r then b else d) ++ neuF d e b' 0 r := by
  rcases r with _ | ⟨x, r⟩
  · simp [neuF, aft]
    exact .inr rfl
  · have hx := h x r rfl
    simp [neuF, hx, aft]
    exact .inr rfl
/-- The direction behind dn. -/
def bef (st : Int) (dn : List Int) : Int := match dn.getLast? with
  | none => st
  | some x => dirS x
theorem bef_snoc (st : Int) (dn : List Int) (x : Int) : bef st (dn ++ [x]) = dirS x := by simp [bef]
section
variable {prim : FuncId → Option Prim} (d : Nat) (cfg : Cfg)
set_option maxHeartbeats 2000000 in
set_option maxRecDepth 100000 in
theorem rneutral_ok (hp : prim 44 = none) (h68 : prim 68 = none) (h66 : prim 66 = none) (c c0 l s : List Int) (n : Nat) (hcn : c.length = n) (h0n : c0.length = n) (hn2 : n ≤ 2000) (hl : Pl n l) (hll : l.length ≤ 2000) (hW : WB c0 l s c) (lv st e : Int) (hlv : 0 ≤ lv) (H : Heap) (b : Nat)
    (hb : blockOf H b = some (c.map (V.int .i64))) (hw : cfg.wr b = true) :
    ∃ c', WB c0 l (neuF (strS lv) e st 0 s) c' ∧ callM md (K prim (d + 3)) cfg 44 [.sl b 0 n n 1, il l, .int .i64 lv, .int .i64 st, .int .i64 e] H = some (.tup [], H.set b (some (c'.map (V.int .i64)))) := by
  suffices HH : ∃ r h2, callM md (K prim (d + 3)) cfg 44 [.sl b 0 n n 1, il l, .int .i64 lv, .int .i64 st, .int .i64 e] H = some (r, h2) ∧ ∃ c', r = .tup [] ∧ h2 = H.set b (some (c'.map (V.int .i64))) ∧ WB c0 l (neuF (strS lv) e st 0 s) c' by
    obtain ⟨r, h2, h3, c', rfl, rfl, h4⟩ := HH
    exact ⟨c', h4, h3⟩
  refine call1x rfl hp Try.func44 rfl rfl rfl ?_
  have hw' : (Cfg.wr ⟨cfg.lo, cfg.ex, H.length⟩ b) = true := hw
  have hbl := blockOf_lt hb
  have hF1 := fun cfg h x => rfirm_ok (prim := prim) (d + 1) cfg h h68 x
  have hS1 := fun cfg h => rside_ok (prim := prim) (d + 1) cfg h h66 lv hlv
  have hsl := hW.sl
  generalize hD : strS lv = D at *
  simp (disch := omega)
  refine wC_loop (fun m fr H' => ∃ (dn td c' : List Int), m = td.length ∧ dn.length + td.length = l.length ∧ neuF D e st 0 s = dn ++ neuF D e (bef st dn) 0 td ∧ WB c0 l (dn ++ td) c' ∧ H' = H.set b (some (c'.map (V.int .i64))) ∧
    Slots 94 [(0, .sl b 0 n n 1), (1, il l), (2, .int .i64 lv), (3, .int .i64 st), (4, .int .i64 e), (10, .int .i64 dn.length)] fr) (m := s.length) (by omega) ⟨[], s, c, rfl, by simpa using hsl, rfl, hW, (set_same hb).symm, by simp⟩ ?_
  rintro m fr H' ⟨dn, td, c', rfl, hlen, hF, hW2, rfl, hs⟩
  obtain ⟨j1, rfl⟩ := hs.ex
  clear hs
  have hc'l : c'.length = n := hW2.len.trans h0n
  rcases td with _ | ⟨x, td⟩
  · have hlI : ¬ dn.length < l.length := by simp at hlen; omega
    simp (disch := omega) [hlI]
    refine ⟨c', List.take_of_length_le (by simp), ?_⟩
    rw [hF]
    simpa [neuF] using hW2
  · have hlt : dn.length < l.length := by simp at hlen; omega
    obtain ⟨i, hi, hin⟩ := hl.at_ hlt
    have hc := hW2.at_ _ i hi
    rw [Int.toNat_natCast, List.getElem?_append_right (Nat.le_refl _), Nat.sub_self, List.getElem?_cons_zero] at hc
    by_cases hx : 0 ≤ dirS x
    · simp (disch := omega) [hlt, hi, hc, hF1, hx, wrap64, -getElem?_pos]
      refine Rnd_of (m' := td.length) (by simp) ⟨dn ++ [x], td, c', rfl, by simp at hlen ⊢; omega, ?_, by simpa using hW2, rfl, by simp (disch := omega)⟩
      rw [hF, neuF, if_neg (by omega), bef_snoc]
      simp
    · simp (disch := omega) [hlt, hi, hc, hF1, hx, -getElem?_pos]
      simp only [List.length_cons] at hlen
      refine wC_loop (fun m fr H' => ∃ (run rest : List Int), x :: td = run ++ rest ∧ (∀ y ∈ run, dirS y < 0) ∧ m = rest.length ∧ H' = H.set b (some (c'.map (V.int .i64))) ∧
        Slots 94 [(0, .sl b 0 n n 1), (1, il l), (2, .int .i64 lv), (3, .int .i64 st), (4, .int .i64 e), (10, .int .i64 dn.length), (11, .int .i64 (dn.length + run.length : Nat))] fr) (m := td.length + 1) (by omega) ⟨[], x :: td, rfl, by simp, rfl, rfl, by simp⟩ ?_
      rintro m fr H' ⟨run, rest, htd, hrun, rfl, rfl, hs⟩
      obtain ⟨j2, rfl⟩ := hs.ex
      clear hs
      have hkl : run.length + rest.length = td.length + 1 := by have := congrArg List.length htd; simp at this; omega
      have hat : ∀ y r', rest = y :: r' → ∃ i2 : Nat, l[dn.length + run.length]? = some (i2 : Int) ∧ i2 < n ∧ c'[i2]? = some y := by
        rintro y r' rfl
        simp only [List.length_cons] at hkl
        obtain ⟨i2, hi2, hin2⟩ := hl.at_ (k := dn.length + run.length) (by omega)
        have hcc := hW2.at_ _ i2 hi2
        rw [htd, List.getElem?_append_right (by omega), Nat.add_sub_cancel_left, List.getElem?_append_right (Nat.le_refl _), Int.toNat_natCast] at hcc
        simp at hcc
        exact ⟨i2, hi2, hin2, hcc⟩
      have hcont : (∃ y r', rest = y :: r' ∧ dirS y < 0) ∨ ((∀ y r', rest = y :: r' → ¬ dirS y < 0) ∧ 0 < run.length) := by
        rcases rest with _ | ⟨y, r'⟩
        · exact .inr ⟨fun y r' h => by simp at h, by simp at hkl; omega⟩
        · by_cases hy : dirS y < 0
          · exact .inl ⟨y, r', rfl, hy⟩
          · refine .inr ⟨fun y' r'' h => by cases h; exact hy, ?_⟩
            rcases run with _ | ⟨z, run⟩
            · simp at htd; rw [htd.1] at hx; omega
            · simp
      rcases hcont with ⟨y, r', hr, hy⟩ | ⟨hstop, hr0⟩
      · obtain ⟨i2, hi2, hin2, hcc⟩ := hat y r' hr
        subst hr
        simp only [List.length_cons] at hkl
        have hlt2 : (dn.length : Int) + run.length < l.length := by omega
        have hc2 : ((dn.length : Int) + run.length).toNat = dn.length + run.length := by omega
        simp (disch := omega) [hlt2, hc2, hi2, hcc, hF1, hy, wrap64, -getElem?_pos]
        refine Rnd_of (m' := r'.length) (by simp) ⟨run ++ [y], r', by rw [htd]; simp, ?_, rfl, rfl, by simp (disch := omega); try omega⟩
        intro z hz
        rcases List.mem_append.1 hz with hz | hz
        · exact hrun z hz
        · simp at hz; subst hz; exact hy
      · obtain ⟨B, hB⟩ : ∃ B, B = bef st dn := ⟨_, rfl⟩
        obtain ⟨A, hA⟩ : ∃ A, A = aft e rest := ⟨_, rfl⟩
        obtain ⟨to, hto⟩ : ∃ to, to = if B = A then B else D := ⟨_, rfl⟩
        have hF2 : neuF D e (bef st dn) 0 (x :: td) = List.replicate run.length to ++ neuF D e to 0 rest := by
          rw [htd, neuF_run D e _ run 0 rest hrun, Nat.zero_add, neuF_end D e _ to _ rest hstop, hto, hB, hA]
        rw [hF2] at hF
        clear hF2
        obtain ⟨i0, y0, hin0, hI0, hC0, hY0⟩ : ∃ (i0 : Nat) (y0 : Int), i0 < n ∧ (0 < dn.length → l[dn.length - 1]? = some (i0 : Int)) ∧ (0 < dn.length → c'[i0]? = some y0) ∧ (0 < dn.length → dirS y0 = B) := by
          rcases List.eq_nil_or_concat dn with rfl | ⟨dn0, y0, rfl⟩
          · exact ⟨0, 0, by omega, by simp, by simp, by simp⟩
          · obtain ⟨i0, hi0, hin0⟩ := hl.at_ (k := dn0.length) (by simp at hlt; omega)
            have hcc := hW2.at_ _ i0 hi0
            simp at hcc
            refine ⟨i0, y0, hin0, fun _ => ?_, fun _ => hcc, fun _ => ?_⟩
            · rw [← hi0]; congr 1; simp
            · rw [hB]; simp [bef]
        have hB0 : ¬ 0 < dn.length → B = st := by
          intro h
          obtain rfl : dn = [] := List.eq_nil_of_length_eq_zero (by omega)
          rw [hB]; rfl
        obtain ⟨i2, y2, hin2, hI2, hC2, hY2⟩ : ∃ (i2 : Nat) (y2 : Int), i2 < n ∧ (dn.length + run.length < l.length → l[dn.length + run.length]? = some (i2 : Int)) ∧ (dn.length + run.length < l.length → c'[i2]? = some y2) ∧ (dn.length + run.length < l.length → dirS y2 = A) := by
          rcases hr : rest with _ | ⟨y, r'⟩
          · rw [hr] at hkl; simp at hkl; exact ⟨0, 0, by omega, by omega, by omega, by omega⟩
          · obtain ⟨i2, hi2, hin2, hcc⟩ := hat y r' hr
            exact ⟨i2, y, hin2, fun _ => hi2, fun _ => hcc, fun _ => by rw [hA, hr]; rfl⟩
        have hA0 : ¬ dn.length + run.length < l.length → A = e := by
          intro h
          rcases hr : rest with _ | ⟨y, r'⟩
          · rw [hA, hr]; rfl
          · rw [hr] at hkl; simp at hkl; omega
        have hA2 : dn.length + run.length < l.length → ¬ A < 0 := by
          intro h
          rcases hr : rest with _ | ⟨y, r'⟩
          · rw [hr] at hkl; simp at hkl; omega
          · have h1 := hstop y r' hr
            rw [hA, hr]
            simpa [aft] using h1
        clear hB hA
        by_cases hr : dn.length + run.length < l.length <;> by_cases hd0 : 0 < dn.length <;> by_cases hBA : B = A
        all_goals
          first | (have hAA := hA2 hr; clear hAA) | (have hAA := (hA0 hr).symm; subst hAA)
          first | (have hBB := hY0 hd0) | (have hBB := (hB0 hd0).symm; subst hBB)
          have hc2 : ((dn.length : Int) + run.length).toNat = dn.length + run.length := by omega
          have hc0 : ((dn.length : Int) - 1).toNat = dn.length - 1 := by omega
          have hrI : ((dn.length : Int) + run.length < l.length) = (dn.length + run.length < l.length) := by simp only [eq_iff_iff]; omega
          simp (disch := omega) [hrI, hr, hd0, hc2, hc0, hI2, hC2, hY2, hA2, hI0, hC0, hY0, hF1, hS1, hBA, wrap64, -getElem?_pos]
        all_goals
          refine wC_loop (fun m fr H' => ∃ (q : Nat) (c'' : List Int), q ≤ run.length ∧ m = run.length - q ∧ WB c0 l (dn ++ (List.replicate q to ++ run.drop q) ++ rest) c'' ∧ H' = H.set b (some (c''.map (V.int .i64))) ∧
            Slots 94 [(0, .sl b 0 n n 1), (1, il l), (2, .int .i64 lv), (3, .int .i64 st), (4, .int .i64 e), (10, .int .i64 dn.length), (11, .int .i64 (dn.length + run.length : Nat)), (14, .int .i64 to), (15, .int .i64 (dn.length + q : Nat))] fr) (m := run.length) (by omega) ⟨0, c', by omega, by omega, by rw [htd] at hW2; simpa using hW2, rfl, by simp [hto, hBA]⟩ ?_
          rintro m fr H' ⟨q, c'', hq, rfl, hWq, rfl, hs⟩
          obtain ⟨j, rfl⟩ := hs.ex
          clear hs
          have hc'' : c''.length = n := hWq.len.trans h0n
          by_cases hqk : q < run.length
          · obtain ⟨z, hz⟩ : ∃ z, run[q]? = some z := ⟨_, List.getElem?_eq_getElem hqk⟩
            obtain ⟨i, hi, hin⟩ := hl.at_ (k := dn.length + q) (by omega)
            have hle : i + 1 ≤ n := by omega
            have hst := hWq.set (by rw [h0n]; exact hl) hi to
            have e1 : dn ++ (List.replicate q to ++ run.drop q) ++ rest = (dn ++ List.replicate q to) ++ z :: (run.drop (q + 1) ++ rest) := by rw [drop_at hz]; simp
            have e2 : dn.length + q = (dn ++ List.replicate q to).length := by simp
            rw [e1] at hst
            conv at hst => lhs; rw [e2]
            rw [set_app] at hst
            have hlt2 : (dn.length : Int) + q < (dn.length : Int) + run.length := by omega
            have hq2 : ((dn.length : Int) + q).toNat = dn.length + q := by omega
            simp (disch := omega) [hlt2, hq2, hi, hc'', hle, hw', wrap64, -getElem?_pos]
            refine Rnd_of (m' := run.length - (q + 1)) (by omega) ⟨q + 1, c''.set i to, by omega, rfl, ?_, by simp [List.map_set], by simp (disch := omega); try omega⟩
            rw [List.replicate_succ']
            simpa using hst
          · obtain rfl : q = run.length := by omega
            have hrs : rest.length < td.length + 1 := by omega
            simp (disch := omega)
            refine Rnd_of (m' := rest.length) (by simp; omega) ⟨dn ++ List.replicate run.length to, rest, c'', rfl, by simp; omega, ?_, by simpa using hWq, rfl, by simp⟩
            rw [hF, ← List.append_assoc]
            congr 1
            rw [neuF_end D e to (bef st (dn ++ List.replicate run.length to)) 0 rest hstop]
            rfl
end
end Bi
end Go.Ab
/- The reference: the weak rules. -/
namespace Go.Ab
open Go.Proofs
namespace Bi
def rnx (o y : Int) : Int := if ini o = true ∨ o = 22 then 13 else y
/-- W1 of the reference: it looks at the rune's own class of what is ahead. -/
def rw1 : Int → List Int → List Int → List Int
  | p, o :: os, x :: r => (if x = 8 then p else x) :: rw1 (rnx o (if x = 8 then p else x)) os r
  | _, _, _ => []
theorem rw1_len : ∀ (s os : List Int) (p : Int), os.length = s.length → (rw1 p os s).length = s.length
  | [], _, _, _ => by unfold rw1; split <;> simp_all
  | x :: r, [], _, h => by simp at h
  | x :: r, o :: os, p, h => by simp [rw1, rw1_len r os _ (by simpa using h)]
def m6 (s : List Int) : List Int := s.map fun x => if x = 4 ∨ x = 5 ∨ x = 7 then 13 else x
def w7 : Int → List Int → List Int
  | _, [] => []
  | l, x :: r => if x = 0 ∨ x = 1 then x :: w7 x r else if x = 3 ∧ l = 0 then 0 :: w7 l r else x :: w7 l r
theorem w7_m6 : ∀ (s : List Int) (l : Int), w7 l (m6 s) = w6 l s
  | [], _ => rfl
  | x :: r, l => by
    have ih := w7_m6 r
    simp only [m6, List.map_cons] at ih ⊢
    by_cases h : x = 4 ∨ x = 5 ∨ x = 7
    · simp [w6, w7, h, ih]
    · simp [w6, w7, h, ih]
def rweak (st : Int) (os s : List Int) : List Int := w6 st (w5 (-1) 0 (w4 (-1) (w3 (w2 st (rw1 st os s)))))
theorem w4_one (p : Int) (s : List Int) (h : s.length ≤ 1) : w4 p s = s := by
  rcases s with _ | ⟨x, _ | ⟨y, r⟩⟩
  · rfl
  · have h1 : ¬ (x = 4 ∧ p = 3 ∧ (-1 : Int) = 3 ∨ x = 7 ∧ p = -1 ∧ (p = 3 ∨ p = 6)) := by omega
    simp only [w4, w4c, List.headD_nil]
    simp only [h1, if_false]
  · simp at h
theorem slot_oth {l : List V} {i j : Nat} {v : V} (h : ¬ i = j) : slot (l.set i v) j = slot l j := by simp [slot, List.getElem?_set_ne h]
theorem setS_set {l : List V} {i : Nat} {v w : V} : setS (l.set i v) i w = l.set i w := by simp [setS]
theorem snoc_of {dn : List Int} (h : 0 < dn.length) : ∃ dn0 y0, dn = dn0 ++ [y0] := by
  rcases List.eq_nil_or_concat dn with rfl | ⟨dn0, y0, rfl⟩
  · simp at h
  · exact ⟨dn0, y0, by simp⟩
theorem Pl.ne {n : Nat} {l : List Int} (h : Pl n l) {k q : Nat} {i j : Int} (hk : l[k]? = some i) (hq : l[q]? = some j) (hkq : k ≠ q) : i ≠ j := by
  rintro rfl
  obtain ⟨h1, h2⟩ := List.getElem?_eq_some_iff.1 hk
  obtain ⟨h3, h4⟩ := List.getElem?_eq_some_iff.1 hq
  exact hkq ((List.getElem_inj h.nd).1 (h2.trans h4.symm))
def p1r (st : Int) (os dn : List Int) : Int := match dn.getLast? with
  | none => st
  | some y => rnx (os.getD (dn.length - 1) 0) y
theorem p1r_snoc (st : Int) (os dn : List Int) (y o : Int) (ho : os[dn.length]? = some o) : p1r st os (dn ++ [y]) = rnx o y := by simp [p1r, List.getD_eq_getElem?_getD, ho]
section
variable {prim : FuncId → Option Prim} (d : Nat) (cfg : Cfg)
set_option maxHeartbeats 8000000 in
set_option maxRecDepth 100000 in
theorem rweak_ok (hp : prim 42 = none) (h71 : prim 71 = none) (h47 : prim 47 = none) (h63 : prim 63 = none) (t c c0 l s : List Int) (n : Nat) (htn : t.length = n) (hcn : c.length = n) (h0n : c0.length = n) (hn2 : n ≤ 2000) (hl : Pl n l) (hll : l.length ≤ 2000) (hW : WB c0 l s c) (st : Int) (H : Heap) (b : Nat)
    (hb : blockOf H b = some (c.map (V.int .i64))) (hw : cfg.wr b = true) :
    ∃ c', WB c0 l (rweak st (l.map (lvl (t.map bidi))) s) c' ∧ callM md (K prim (d + 3)) cfg 42 [rl t, .sl b 0 n n 1, il l, .int .i64 st] H = some (.tup [], H.set b (some (c'.map (V.int .i64)))) := by
  suffices HH : ∃ r h2, callM md (K prim (d + 3)) cfg 42 [rl t, .sl b 0 n n 1, il l, .int .i64 st] H = some (r, h2) ∧ ∃ c', r = .tup [] ∧ h2 = H.set b (some (c'.map (V.int .i64))) ∧ WB c0 l (rweak st (l.map (lvl (t.map bidi))) s) c' by
    obtain ⟨r, h2, h3, c', rfl, rfl, h4⟩ := HH
    exact ⟨c', h4, h3⟩
  refine call1x rfl hp Try.func42 rfl rfl rfl ?_
  have hw' : (Cfg.wr ⟨cfg.lo, cfg.ex, H.length⟩ b) = true := hw
  have hbl := blockOf_lt hb
  have hB := fun cfg h r => rbidi_ok (prim := prim) d cfg h h71 h47 r
  have hI := fun cfg h x => rini_ok (prim := prim) (d + 1) cfg h h63 x
  have hsl := hW.sl
  have hos : ∀ (q : Nat) (j : Int) (z : Int), l[q]? = some j → t[j.toNat]? = some z → (l.map (lvl (t.map bidi)))[q]? = some (bidi z) := by
    intro q j z hq hz
    rw [List.getElem?_map, hq]
    simp only [Option.map_some, lvl, List.getD_eq_getElem?_getD, List.getElem?_map, hz]
    rfl
  have hosl : (l.map (lvl (t.map bidi))).length = l.length := by simp
  have hr1l := rw1_len s (l.map (lvl (t.map bidi))) st (by omega)
  unfold rweak
  generalize l.map (lvl (t.map bidi)) = os at *
  simp (disch := omega)
  refine wC_loop (fun m fr H' => ∃ (dn td c' : List Int), m = td.length ∧ dn.length + td.length = l.length ∧ rw1 st os s = dn ++ rw1 (p1r st os dn) (os.drop dn.length) td ∧ WB c0 l (dn ++ td) c' ∧ H' = H.set b (some (c'.map (V.int .i64))) ∧
    Slots 346 [(0, rl t), (1, .sl b 0 n n 1), (2, il l), (3, .int .i64 st), (8, .int .i64 dn.length)] fr) (m := s.length) (by omega) ⟨[], s, c, rfl, by simpa using hsl, rfl, hW, (set_same hb).symm, by simp⟩ ?_
  rintro m fr H' ⟨dn, td, c', rfl, hlen, hF, hW2, rfl, hs⟩
  obtain ⟨j, rfl⟩ := hs.ex
  clear hs
  have hc'l : c'.length = n := hW2.len.trans h0n
  rcases td with _ | ⟨x, td⟩
  · have hlI : ¬ dn.length < l.length := by simp at hlen; omega
    rw [hF] at hr1l ⊢
    have e0 : ∀ p o, rw1 p o [] = [] := fun p o => by unfold rw1; split <;> simp_all
    rw [e0, List.append_nil] at hr1l ⊢
    rw [List.append_nil] at hW2
    clear hF
    have hsl : dn.length = l.length := by simpa using hlen
    obtain ⟨s, hse⟩ : ∃ s, s = dn := ⟨dn, rfl⟩
    subst hse
    obtain ⟨c, hce⟩ : ∃ c, c = c' := ⟨c', rfl⟩
    subst hce
    simp (disch := omega) [hlI]
    refine wC_loop (fun m fr H' => ∃ (dn td c' : List Int) (g : Int), m = td.length ∧ dn.length + td.length = l.length ∧ w2 st s = dn ++ w2 g td ∧ WB c0 l (dn ++ td) c' ∧ H' = H.set b (some (c'.map (V.int .i64))) ∧
      Slots 346 [(0, rl t), (1, .sl b 0 n n 1), (2, il l), (3, .int .i64 st), (10, .int .i64 g), (11, .int .i64 dn.length)] fr) (m := s.length) (by omega) ⟨[], s, c, st, rfl, by simpa using hsl, rfl, by simpa using hW2, rfl, by simp⟩ ?_
    rintro m fr H' ⟨dn, td, c', g, rfl, hlen, hF, hW2, rfl, hs⟩
    obtain ⟨j, rfl⟩ := hs.ex
    clear hs
    have hc'l : c'.length = n := hW2.len.trans h0n
    rcases td with _ | ⟨x, td⟩
    · have hlI : ¬ dn.length < l.length := by simp at hlen; omega
      have hF' : _ = dn := hF.trans (by simp [w2])
      rw [hF']
      rw [List.append_nil] at hW2
      have hsl : dn.length = l.length := by simpa using hlen
      clear hF hF'
      obtain ⟨s, hse⟩ : ∃ s, s = dn := ⟨dn, rfl⟩
      subst hse
      obtain ⟨c, hce⟩ : ∃ c, c = c' := ⟨c', rfl⟩
      subst hce
      simp (disch := omega) [hlI]
      refine wC_loop (fun m fr H' => ∃ (dn td c' : List Int), m = td.length ∧ dn.length + td.length = l.length ∧ w3 s = dn ++ w3 td ∧ WB c0 l (dn ++ td) c' ∧ H' = H.set b (some (c'.map (V.int .i64))) ∧
        Slots 346 [(0, rl t), (1, .sl b 0 n n 1), (2, il l), (3, .int .i64 st), (12, .int .i64 dn.length)] fr) (m := s.length) (by omega) ⟨[], s, c, rfl, by simpa using hsl, rfl, by simpa using hW2, rfl, by simp⟩ ?_
      rintro m fr H' ⟨dn, td, c', rfl, hlen, hF, hW2, rfl, hs⟩
      obtain ⟨j, rfl⟩ := hs.ex
      clear hs
      have hc'l : c'.length = n := hW2.len.trans h0n
      rcases td with _ | ⟨x, td⟩
      · have hlI : ¬ dn.length < l.length := by simp at hlen; omega
        have hF' : _ = dn := hF.trans (by simp [w3])
        rw [hF']
        rw [List.append_nil] at hW2
        have hsl : dn.length = l.length := by simpa using hlen
        clear hF hF'
        obtain ⟨s, hse⟩ : ∃ s, s = dn := ⟨dn, rfl⟩
        subst hse
        obtain ⟨c, hce⟩ : ∃ c, c = c' := ⟨c', rfl⟩
        subst hce
        simp (disch := omega) [hlI]
        refine wC_loop (fun m fr H' => ∃ (dn td c' : List Int) (k : Nat), m = td.length ∧ dn.length + td.length = l.length ∧ w4 (-1) s = dn ++ w4 (lo1 dn) td ∧ WB c0 l (dn ++ td) c' ∧ H' = H.set b (some (c'.map (V.int .i64))) ∧ (k = dn.length ∨ l.length = 0 ∧ k = 1) ∧ 0 < k ∧
          Slots 346 [(0, rl t), (1, .sl b 0 n n 1), (2, il l), (3, .int .i64 st), (13, .int .i64 k)] fr) (m := s.length - 1) (by omega) ?_ ?_
        · rcases hs0 : s with _ | ⟨x, s1⟩
          · rw [hs0] at hsl hW2
            exact ⟨[], [], c, 1, rfl, by simpa using hsl, rfl, by simpa using hW2, rfl, .inr ⟨by simpa using hsl.symm, rfl⟩, by omega, by simp⟩
          · rw [hs0] at hsl hW2
            refine ⟨[x], s1, c, 1, by simp, by simp at hsl ⊢; omega, ?_, by simpa using hW2, rfl, .inl rfl, by omega, by simp⟩
            have h1 : ∀ y, w4c (-1) x y = x := fun y => by unfold w4c; rw [if_neg (by omega)]
            simp [w4, h1, lo1]
        rintro m fr H' ⟨dn, td, c', k, rfl, hlen, hF, hW2, rfl, hk, hk0, hs⟩
        obtain ⟨j, rfl⟩ := hs.ex
        clear hs
        have hc'l : c'.length = n := hW2.len.trans h0n
        by_cases hkl : k + 1 < l.length
        · obtain rfl : k = dn.length := by omega
          obtain ⟨x, td, rfl⟩ : ∃ y td', td = y :: td' := by
            rcases td with _ | ⟨y, td'⟩
            · simp at hlen; omega
            · exact ⟨y, td', rfl⟩
          obtain ⟨y, td, rfl⟩ : ∃ y td', td = y :: td' := by
            rcases td with _ | ⟨y, td'⟩
            · simp at hlen; omega
            · exact ⟨y, td', rfl⟩
          obtain ⟨dn0, p, rfl⟩ := snoc_of (dn := dn) (by omega)
          rw [lo1_snoc] at hF
          have hr4 : w4 p (x :: y :: td) = w4c p x y :: w4 (w4c p x y) (y :: td) := rfl
          rw [hr4] at hF
          simp only [List.length_append, List.length_cons, List.length_nil, Nat.zero_add] at *
          obtain ⟨i0, hi0, hin0⟩ := hl.at_ (k := dn0.length) (by omega)
          obtain ⟨i, hi, hin⟩ := hl.at_ (k := dn0.length + 1) (by omega)
          obtain ⟨i2, hi2, hin2⟩ := hl.at_ (k := dn0.length + 2) (by omega)
          have hc0 := hW2.at_ _ i0 hi0
          have hc := hW2.at_ _ i hi
          have hcc := hW2.at_ _ i2 hi2
          have hi1 : i + 1 ≤ n := hin
          have hset : ∀ v, WB c0 l (dn0 ++ [p] ++ v :: y :: td) (c'.set i v) := fun v => by
            have h := hW2.set (by rw [h0n]; exact hl) hi v
            rw [show dn0.length + 1 = (dn0 ++ [p]).length by simp, set_app] at h
            exact h
          rw [List.getElem?_append_left (by simp)] at hc0
          simp at hc0
          rw [List.getElem?_append_right (by simp)] at hc hcc
          simp at hc hcc
          have hd1 : ((dn0.length : Int) + 1 - 1).toNat = dn0.length := by omega
          have hcx : ((dn0.length : Int) + 1).toNat = dn0.length + 1 := by omega
          have hd2 : ((dn0.length : Int) + 1 + 1).toNat = dn0.length + 2 := by omega
          have hlI : (dn0.length : Int) + 1 + 1 < l.length := by omega
          have hgo : ∀ v, w4c p x y = v → w4 (-1) s = dn0 ++ [p] ++ [v] ++ w4 (lo1 (dn0 ++ [p] ++ [v])) (y :: td) := by
            rintro v rfl
            rw [hF, lo1_snoc]; simp
          simp (disch := omega) [hlI, wrap64, -getElem?_pos]
          refine wC_draw 25 (by kernel_rfl) ?_
          simp (disch := omega) [hi0, hi, hi2, hc0, hc, hcc, hcx, hd2, wrap64, -getElem?_pos]
          by_cases hx4 : x = 4
          · by_cases hp3 : p = 3
            · by_cases hy3 : y = 3
              · have hv : w4c p x y = 3 := by unfold w4c; simp [hx4, hp3, hy3]
                simp (disch := omega) [hx4, hp3, hy3, hi, hw', hc'l, hi1, hcx, wrap64, -getElem?_pos]
                exact Rnd_of (m' := td.length + 1) (by simp) ⟨dn0 ++ [p] ++ [3], y :: td, c'.set i 3, dn0.length + 1 + 1, by simp, by simp; omega, hgo _ hv, by simpa using hset 3, by simp [List.map_set], .inl (by simp), by omega, by simp (disch := omega); try omega⟩
              · have hv : w4c p x y = x := by unfold w4c; simp [hx4, hp3, hy3]
                simp (disch := omega) [hx4, hp3, hy3, wrap64, -getElem?_pos]
                exact Rnd_of (m' := td.length + 1) (by simp) ⟨dn0 ++ [p] ++ [x], y :: td, c', dn0.length + 1 + 1, by simp, by simp; omega, hgo _ hv, by simpa using hW2, rfl, .inl (by simp), by omega, by simp (disch := omega); try omega⟩
            · have hv : w4c p x y = x := by unfold w4c; simp [hx4, hp3]
              simp (disch := omega) [hx4, hp3, wrap64, -getElem?_pos]
              exact Rnd_of (m' := td.length + 1) (by simp) ⟨dn0 ++ [p] ++ [x], y :: td, c', dn0.length + 1 + 1, by simp, by simp; omega, hgo _ hv, by simpa using hW2, rfl, .inl (by simp), by omega, by simp (disch := omega); try omega⟩
          · by_cases hx7 : x = 7
            · by_cases hpy : p = y
              · by_cases hy3 : y = 3
                · have hv : w4c p x y = 3 := by unfold w4c; simp [hx7, hpy, hy3]
                  simp (disch := omega) [hx7, hpy, hy3, hi, hw', hc'l, hi1, hcx, wrap64, -getElem?_pos]
                  exact Rnd_of (m' := td.length + 1) (by simp) ⟨dn0 ++ [p] ++ [3], y :: td, c'.set i 3, dn0.length + 1 + 1, by simp, by simp; omega, hgo _ hv, by simpa using hset 3, by simp [List.map_set], .inl (by simp), by omega, by simp (disch := omega); try omega⟩
                · by_cases hy6 : y = 6
                  · have hv : w4c p x y = 6 := by unfold w4c; simp [hx7, hpy, hy6]
                    simp (disch := omega) [hx7, hpy, hy6, hi, hw', hc'l, hi1, hcx, wrap64, -getElem?_pos]
                    exact Rnd_of (m' := td.length + 1) (by simp) ⟨dn0 ++ [p] ++ [6], y :: td, c'.set i 6, dn0.length + 1 + 1, by simp, by simp; omega, hgo _ hv, by simpa using hset 6, by simp [List.map_set], .inl (by simp), by omega, by simp (disch := omega); try omega⟩
                  · have hv : w4c p x y = x := by unfold w4c; simp [hx7, hpy, hy3, hy6]
                    simp (disch := omega) [hx7, hpy, hy3, hy6, wrap64, -getElem?_pos]
                    exact Rnd_of (m' := td.length + 1) (by simp) ⟨dn0 ++ [p] ++ [x], y :: td, c', dn0.length + 1 + 1, by simp, by simp; omega, hgo _ hv, by simpa using hW2, rfl, .inl (by simp), by omega, by simp (disch := omega); try omega⟩
              · have hv : w4c p x y = x := by unfold w4c; simp [hx7, hpy]
                simp (disch := omega) [hx7, hpy, wrap64, -getElem?_pos]
                exact Rnd_of (m' := td.length + 1) (by simp) ⟨dn0 ++ [p] ++ [x], y :: td, c', dn0.length + 1 + 1, by simp, by simp; omega, hgo _ hv, by simpa using hW2, rfl, .inl (by simp), by omega, by simp (disch := omega); try omega⟩
            · have hv : w4c p x y = x := by unfold w4c; simp [hx4, hx7]
              simp (disch := omega) [hx4, hx7, wrap64, -getElem?_pos]
              exact Rnd_of (m' := td.length + 1) (by simp) ⟨dn0 ++ [p] ++ [x], y :: td, c', dn0.length + 1 + 1, by simp, by simp; omega, hgo _ hv, by simpa using hW2, rfl, .inl (by simp), by omega, by simp (disch := omega); try omega⟩
        · have hlI : ¬ (k : Int) + 1 < l.length := by omega
          rw [w4_one _ td (by omega)] at hF
          rw [hF]
          have hkb : k ≤ 5000 := by omega
          have hsl : (dn ++ td).length = l.length := by simpa using hlen
          clear hF hlen hk
          generalize dn ++ td = s at *
          obtain ⟨c, hce⟩ : ∃ c, c = c' := ⟨c', rfl⟩
          subst hce
          simp (disch := omega) [hlI, wrap64]
          refine wC_loop (fun m fr H' => ∃ (dn td c' : List Int), m = td.length ∧ dn.length + td.length = l.length ∧ w5 (-1) 0 s = dn ++ w5 (lo1 dn) 0 td ∧ WB c0 l (dn ++ td) c' ∧ H' = H.set b (some (c'.map (V.int .i64))) ∧
            Slots 346 [(0, rl t), (1, .sl b 0 n n 1), (2, il l), (3, .int .i64 st), (17, .int .i64 dn.length)] fr) (m := s.length) (by omega) ⟨[], s, c, rfl, by simpa using hsl, rfl, by simpa using hW2, rfl, by simp⟩ ?_
          rintro m fr H' ⟨dn, td, c', rfl, hlen, hF, hW2, rfl, hs⟩
          obtain ⟨j, rfl⟩ := hs.ex
          clear hs
          have hc'l : c'.length = n := hW2.len.trans h0n
          rcases td with _ | ⟨x, td⟩
          · have hlI : ¬ dn.length < l.length := by simp at hlen; omega
            have hF' : _ = dn := hF.trans (by simp [w5])
            rw [hF']
            rw [List.append_nil] at hW2
            have hsl : dn.length = l.length := by simpa using hlen
            clear hF hF'
            obtain ⟨s, hse⟩ : ∃ s, s = dn := ⟨dn, rfl⟩
            subst hse
            obtain ⟨c, hce⟩ : ∃ c, c = c' := ⟨c', rfl⟩
            subst hce
            simp (disch := omega) [hlI]
            rw [← w7_m6]
            refine wC_loop (fun m fr H' => ∃ (dn td c' : List Int), m = td.length ∧ dn.length + td.length = l.length ∧ m6 s = dn ++ m6 td ∧ WB c0 l (dn ++ td) c' ∧ H' = H.set b (some (c'.map (V.int .i64))) ∧
              Slots 346 [(0, rl t), (1, .sl b 0 n n 1), (2, il l), (3, .int .i64 st), (20, .int .i64 dn.length)] fr) (m := s.length) (by omega) ⟨[], s, c, rfl, by simpa using hsl, rfl, by simpa using hW2, rfl, by simp⟩ ?_
            rintro m fr H' ⟨dn, td, c', rfl, hlen, hF, hW2, rfl, hs⟩
            obtain ⟨j, rfl⟩ := hs.ex
            clear hs
            have hc'l : c'.length = n := hW2.len.trans h0n
            rcases td with _ | ⟨x, td⟩
            · have hlI : ¬ dn.length < l.length := by simp at hlen; omega
              have hF' : _ = dn := hF.trans (by simp [m6])
              rw [hF']
              rw [List.append_nil] at hW2
              have hsl : dn.length = l.length := by simpa using hlen
              clear hF hF'
              obtain ⟨s, hse⟩ : ∃ s, s = dn := ⟨dn, rfl⟩
              subst hse
              obtain ⟨c, hce⟩ : ∃ c, c = c' := ⟨c', rfl⟩
              subst hce
              simp (disch := omega) [hlI]
              refine wC_loop (fun m fr H' => ∃ (dn td c' : List Int) (g : Int), m = td.length ∧ dn.length + td.length = l.length ∧ w7 st s = dn ++ w7 g td ∧ WB c0 l (dn ++ td) c' ∧ H' = H.set b (some (c'.map (V.int .i64))) ∧
                Slots 346 [(0, rl t), (1, .sl b 0 n n 1), (2, il l), (3, .int .i64 st), (10, .int .i64 g), (21, .int .i64 dn.length)] fr) (m := s.length) (by omega) ⟨[], s, c, st, rfl, by simpa using hsl, rfl, by simpa using hW2, rfl, by simp⟩ ?_
              rintro m fr H' ⟨dn, td, c', g, rfl, hlen, hF, hW2, rfl, hs⟩
              obtain ⟨j, rfl⟩ := hs.ex
              clear hs
              have hc'l : c'.length = n := hW2.len.trans h0n
              rcases td with _ | ⟨x, td⟩
              · have hlI : ¬ dn.length < l.length := by simp at hlen; omega
                have hF' : _ = dn := hF.trans (by simp [w7])
                rw [hF']
                rw [List.append_nil] at hW2
                have hsl : dn.length = l.length := by simpa using hlen
                clear hF hF'
                obtain ⟨s, hse⟩ : ∃ s, s = dn := ⟨dn, rfl⟩
                subst hse
                obtain ⟨c, hce⟩ : ∃ c, c = c' := ⟨c', rfl⟩
                subst hce
                simp (disch := omega) [hlI]
                exact ⟨c, List.take_of_length_le (by simp), hW2⟩
              · have hlt : dn.length < l.length := by simp at hlen; omega
                obtain ⟨i, hi, hin⟩ := hl.at_ hlt
                have hc := hW2.at_ _ i hi
                rw [Int.toNat_natCast, List.getElem?_append_right (Nat.le_refl _), Nat.sub_self, List.getElem?_cons_zero] at hc
                have hi1 : i + 1 ≤ n := hin
                have hset : ∀ v, WB c0 l (dn ++ v :: td) (c'.set i v) := fun v => by
                  have h := hW2.set (by rw [h0n]; exact hl) hi v
                  rwa [set_app] at h
                by_cases hx0 : x = 0
                · subst hx0
                  simp (disch := omega) [hlt, hi, hc, wrap64, -getElem?_pos]
                  exact Rnd_of (m' := td.length) (by simp) ⟨dn ++ [0], td, c', 0, rfl, by simp at hlen ⊢; omega, by rw [hF]; simp [w7], by simpa using hW2, rfl, by simp (disch := omega); try omega⟩
                · by_cases hx1 : x = 1
                  · subst hx1
                    simp (disch := omega) [hlt, hi, hc, wrap64, -getElem?_pos]
                    exact Rnd_of (m' := td.length) (by simp) ⟨dn ++ [1], td, c', 1, rfl, by simp at hlen ⊢; omega, by rw [hF]; simp [w7], by simpa using hW2, rfl, by simp (disch := omega); try omega⟩
                  · by_cases hx3 : x = 3
                    · subst hx3
                      by_cases hg : g = 0
                      · subst hg
                        simp (disch := omega) [hlt, hi, hc, hw', hc'l, hi1, wrap64, -getElem?_pos]
                        exact Rnd_of (m' := td.length) (by simp) ⟨dn ++ [0], td, c'.set i (0), 0, rfl, by simp at hlen ⊢; omega, by rw [hF]; simp [w7], by simpa using hset (0), by simp [List.map_set], by simp (disch := omega); try omega⟩
                      · simp (disch := omega) [hg, hlt, hi, hc, wrap64, -getElem?_pos]
                        exact Rnd_of (m' := td.length) (by simp) ⟨dn ++ [3], td, c', g, rfl, by simp at hlen ⊢; omega, by rw [hF]; simp [w7, hg], by simpa using hW2, rfl, by simp (disch := omega); try omega⟩
                    · simp (disch := omega) [hx0, hx1, hx3, hlt, hi, hc, wrap64, -getElem?_pos]
                      exact Rnd_of (m' := td.length) (by simp) ⟨dn ++ [x], td, c', g, rfl, by simp at hlen ⊢; omega, by rw [hF]; simp [w7, hx0, hx1, hx3], by simpa using hW2, rfl, by simp (disch := omega); try omega⟩
            · have hlt : dn.length < l.length := by simp at hlen; omega
              obtain ⟨i, hi, hin⟩ := hl.at_ hlt
              have hc := hW2.at_ _ i hi
              rw [Int.toNat_natCast, List.getElem?_append_right (Nat.le_refl _), Nat.sub_self, List.getElem?_cons_zero] at hc
              have hi1 : i + 1 ≤ n := hin
              have hset : ∀ v, WB c0 l (dn ++ v :: td) (c'.set i v) := fun v => by
                have h := hW2.set (by rw [h0n]; exact hl) hi v
                rwa [set_app] at h
              by_cases hx4 : x = 4
              · subst hx4
                simp (disch := omega) [hlt, hi, hc, hw', hc'l, hi1, wrap64, -getElem?_pos]
                exact Rnd_of (m' := td.length) (by simp) ⟨dn ++ [13], td, c'.set i (13), rfl, by simp at hlen ⊢; omega, by rw [hF]; simp [m6], by simpa using hset (13), by simp [List.map_set], by simp (disch := omega); try omega⟩
              · by_cases hx5 : x = 5
                · subst hx5
                  simp (disch := omega) [hlt, hi, hc, hw', hc'l, hi1, wrap64, -getElem?_pos]
                  exact Rnd_of (m' := td.length) (by simp) ⟨dn ++ [13], td, c'.set i (13), rfl, by simp at hlen ⊢; omega, by rw [hF]; simp [m6], by simpa using hset (13), by simp [List.map_set], by simp (disch := omega); try omega⟩
                · by_cases hx7 : x = 7
                  · subst hx7
                    simp (disch := omega) [hlt, hi, hc, hw', hc'l, hi1, wrap64, -getElem?_pos]
                    exact Rnd_of (m' := td.length) (by simp) ⟨dn ++ [13], td, c'.set i (13), rfl, by simp at hlen ⊢; omega, by rw [hF]; simp [m6], by simpa using hset (13), by simp [List.map_set], by simp (disch := omega); try omega⟩
                  · simp (disch := omega) [hx4, hx5, hx7, hlt, hi, hc, wrap64, -getElem?_pos]
                    exact Rnd_of (m' := td.length) (by simp) ⟨dn ++ [x], td, c', rfl, by simp at hlen ⊢; omega, by rw [hF]; simp [m6, hx4, hx5, hx7], by simpa using hW2, rfl, by simp (disch := omega); try omega⟩
          · have hlt : dn.length < l.length := by simp at hlen; omega
            obtain ⟨i, hi, hin⟩ := hl.at_ hlt
            have hc := hW2.at_ _ i hi
            rw [Int.toNat_natCast, List.getElem?_append_right (Nat.le_refl _), Nat.sub_self, List.getElem?_cons_zero] at hc
            have hi1 : i + 1 ≤ n := hin
            by_cases hx : x = 5
            · subst hx
              simp (disch := omega) [hlt, hi, hc, -getElem?_pos]
              simp only [List.length_cons] at hlen
              refine wC_loop (fun m fr H' => ∃ (k : Nat) (rest : List Int), 5 :: td = List.replicate k 5 ++ rest ∧ m = rest.length ∧ H' = H.set b (some (c'.map (V.int .i64))) ∧
                Slots 346 [(0, rl t), (1, .sl b 0 n n 1), (2, il l), (3, .int .i64 st), (17, .int .i64 dn.length), (18, .int .i64 (dn.length + k : Nat))] fr) (m := td.length + 1) (by omega) ⟨0, 5 :: td, rfl, rfl, rfl, by simp⟩ ?_
              rintro m fr H' ⟨k, rest, htd, rfl, rfl, hs⟩
              obtain ⟨j2, rfl⟩ := hs.ex
              clear hs
              have hkl : k + rest.length = td.length + 1 := by have := congrArg List.length htd; simp at this; omega
              have hat : ∀ y r', rest = y :: r' → ∃ i2 : Nat, l[dn.length + k]? = some (i2 : Int) ∧ i2 < n ∧ c'[i2]? = some y := by
                rintro y r' rfl
                simp only [List.length_cons] at hkl
                obtain ⟨i2, hi2, hin2⟩ := hl.at_ (k := dn.length + k) (by omega)
                have hcc := hW2.at_ _ i2 hi2
                rw [htd, List.getElem?_append_right (by omega), Nat.add_sub_cancel_left, List.getElem?_append_right (by simp), Int.toNat_natCast] at hcc
                simp at hcc
                exact ⟨i2, hi2, hin2, hcc⟩
              have hc2 : ((dn.length : Int) + k).toNat = dn.length + k := by omega
              have hcont : (∃ r', rest = 5 :: r') ∨ (rest.headD (-1) ≠ 5 ∧ 0 < k) := by
                rcases rest with _ | ⟨y, r'⟩
                · exact .inr ⟨by simp, by simp at hkl; omega⟩
                · by_cases hy : y = 5
                  · subst hy; exact .inl ⟨r', rfl⟩
                  · refine .inr ⟨by simpa using hy, ?_⟩
                    rcases k with _ | k
                    · simp at htd; exact absurd htd.1.symm hy
                    · omega
              rcases hcont with ⟨r', hr⟩ | ⟨hstop, hk0⟩
              · obtain ⟨i2, hi2, hin2, hcc⟩ := hat 5 r' hr
                subst hr
                simp only [List.length_cons] at hkl
                have hlt2 : (dn.length : Int) + k < l.length := by omega
                simp (disch := omega) [hlt2, hc2, hi2, hcc, wrap64, -getElem?_pos]
                exact Rnd_of (m' := r'.length) (by simp) ⟨k + 1, r', by rw [htd, List.replicate_succ']; simp, rfl, rfl, by simp (disch := omega); try omega⟩
              · obtain ⟨B, hB⟩ : ∃ B, B = lo1 dn := ⟨_, rfl⟩
                obtain ⟨A, hA⟩ : ∃ A, A = rest.headD (-1) := ⟨_, rfl⟩
                obtain ⟨to, hto⟩ : ∃ to : Int, to = if B = 3 ∨ A = 3 then 3 else 5 := ⟨_, rfl⟩
                have hF2 : ∀ q, w5 (lo1 dn) 0 (5 :: td) = List.replicate k to ++ w5 q 0 rest := by
                  intro q
                  rw [htd, w5_run, Nat.zero_add, w5_end _ q _ rest hstop, hto, hB, hA]
                obtain ⟨i0, hin0, hI0, hC0⟩ : ∃ (i0 : Nat), i0 < n ∧ (0 < dn.length → l[dn.length - 1]? = some (i0 : Int)) ∧ (0 < dn.length → c'[i0]? = some B) := by
                  rcases List.eq_nil_or_concat dn with rfl | ⟨dn0, y0, rfl⟩
                  · exact ⟨0, by omega, by simp, by simp⟩
                  · obtain ⟨i0, hi0, hin0⟩ := hl.at_ (k := dn0.length) (by simp at hlt; omega)
                    have hcc := hW2.at_ _ i0 hi0
                    simp at hcc
                    refine ⟨i0, hin0, fun _ => ?_, fun _ => ?_⟩
                    · rw [← hi0]; congr 1; simp
                    · rw [hB, hcc]; simp [lo1]
                have hB0 : ¬ 0 < dn.length → ¬ B = 3 := by
                  intro h
                  obtain rfl : dn = [] := List.eq_nil_of_length_eq_zero (by omega)
                  rw [hB]; simp [lo1]
                obtain ⟨i2, hin2, hI2, hC2⟩ : ∃ (i2 : Nat), i2 < n ∧ (dn.length + k < l.length → l[dn.length + k]? = some (i2 : Int)) ∧ (dn.length + k < l.length → c'[i2]? = some A) := by
                  rcases hr : rest with _ | ⟨y, r'⟩
                  · rw [hr] at hkl; simp at hkl; exact ⟨0, by omega, by omega, by omega⟩
                  · obtain ⟨i2, hi2, hin2, hcc⟩ := hat y r' hr
                    exact ⟨i2, hin2, fun _ => hi2, fun _ => by rw [hA, hr]; exact hcc⟩
                have hA0 : ¬ dn.length + k < l.length → ¬ A = 3 := by
                  intro h
                  rcases hr : rest with _ | ⟨y, r'⟩
                  · rw [hA, hr]; simp
                  · rw [hr] at hkl; simp at hkl; omega
                have hA5 : ¬ A = 5 := by rw [hA]; exact hstop
                clear hB hA
                have hrI : ((dn.length : Int) + k < l.length) = (dn.length + k < l.length) := by simp only [eq_iff_iff]; omega
                have hc0 : ((dn.length : Int) - 1).toNat = dn.length - 1 := by omega
                by_cases h3 : B = 3 ∨ A = 3
                · rw [if_pos h3] at hto
                  subst hto
                  have hcs : (0 < dn.length ∧ B = 3 ∧ ¬ dn.length + k < l.length) ∨ (0 < dn.length ∧ B = 3 ∧ dn.length + k < l.length) ∨ (0 < dn.length ∧ ¬ B = 3 ∧ A = 3 ∧ dn.length + k < l.length) ∨ (¬ 0 < dn.length ∧ A = 3 ∧ dn.length + k < l.length) := by
                    by_cases hd0 : 0 < dn.length <;> by_cases hr : dn.length + k < l.length <;> by_cases hB3 : B = 3 <;> simp_all
                  rcases hcs with ⟨hd0, hB3, hr⟩ | ⟨hd0, hB3, hr⟩ | ⟨hd0, hB3, hA3, hr⟩ | ⟨hd0, hA3, hr⟩
                  all_goals first
                    | simp (maxSteps := 1000000) (disch := omega) [hrI, hr, hd0, hc2, hc0, hI2, hC2, hI0, hC0, hB3, hA3, wrap64, -getElem?_pos]
                    | simp (maxSteps := 1000000) (disch := omega) [hrI, hr, hd0, hc2, hI2, hC2, hA3, -getElem?_pos]
                    | simp (maxSteps := 1000000) (disch := omega) [hrI, hr, hd0, hc0, hc2, hI2, hC2, hA5, hI0, hC0, hB3, wrap64, -getElem?_pos]
                  all_goals
                    refine wC_loop (fun m fr H' => ∃ (q : Nat) (c'' : List Int), q ≤ k ∧ m = k - q ∧ WB c0 l (dn ++ (List.replicate q 3 ++ List.replicate (k - q) 5) ++ rest) c'' ∧ H' = H.set b (some (c''.map (V.int .i64))) ∧
                      Slots 346 [(0, rl t), (1, .sl b 0 n n 1), (2, il l), (3, .int .i64 st), (17, .int .i64 dn.length), (18, .int .i64 (dn.length + k : Nat)), (19, .int .i64 (dn.length + q : Nat))] fr) (m := k) (by omega) ⟨0, c', by omega, by omega, by rw [htd] at hW2; simpa using hW2, rfl, by simp⟩ ?_
                    rintro m fr H' ⟨q, c'', hq, rfl, hWq, rfl, hs⟩
                    obtain ⟨j, rfl⟩ := hs.ex
                    clear hs
                    have hc'' : c''.length = n := hWq.len.trans h0n
                    by_cases hqk : q < k
                    · obtain ⟨i, hi, hin⟩ := hl.at_ (k := dn.length + q) (by omega)
                      have hle : i + 1 ≤ n := by omega
                      have hst := hWq.set (by rw [h0n]; exact hl) hi 3
                      have e1 : dn ++ (List.replicate q (3 : Int) ++ List.replicate (k - q) 5) ++ rest = (dn ++ List.replicate q 3) ++ 5 :: (List.replicate (k - (q + 1)) 5 ++ rest) := by
                        rw [show k - q = (k - (q + 1)) + 1 by omega, List.replicate_succ]; simp
                      have e2 : dn.length + q = (dn ++ List.replicate q (3 : Int)).length := by simp
                      rw [e1] at hst
                      conv at hst => lhs; rw [e2]
                      rw [set_app] at hst
                      have hlt2 : (dn.length : Int) + q < (dn.length : Int) + k := by omega
                      have hq2 : ((dn.length : Int) + q).toNat = dn.length + q := by omega
                      simp (disch := omega) [hlt2, hq2, hi, hc'', hle, hw', wrap64, -getElem?_pos]
                      refine Rnd_of (m' := k - (q + 1)) (by omega) ⟨q + 1, c''.set i 3, by omega, rfl, ?_, by simp [List.map_set], by simp (disch := omega); try omega⟩
                      rw [List.replicate_succ']
                      simpa using hst
                    · obtain rfl : q = k := by omega
                      simp (disch := omega)
                      refine Rnd_of (m' := rest.length) (by simp; omega) ⟨dn ++ List.replicate q 3, rest, c'', rfl, by simp; omega, ?_, by simpa using hWq, rfl, by simp⟩
                      rw [hF, hF2 (lo1 (dn ++ List.replicate q 3))]
                      simp
                · rw [if_neg h3] at hto
                  subst hto
                  have hB3 : ¬ B = 3 := fun h => h3 (.inl h)
                  have hA3 : ¬ A = 3 := fun h => h3 (.inr h)
                  have hWr : WB c0 l (dn ++ (List.replicate k 5 ++ rest)) c' := by rw [← htd]; exact hW2
                  by_cases hd0 : 0 < dn.length <;> by_cases hr : dn.length + k < l.length
                  all_goals
                    simp (maxSteps := 1000000) (disch := omega) [hrI, hr, hd0, hc2, hc0, hI2, hC2, hI0, hC0, hB3, hA3, hA5, wrap64, -getElem?_pos]
                    refine Rnd_of (m' := rest.length) (by simp; omega) ⟨dn ++ List.replicate k 5, rest, c', rfl, by simp; omega, ?_, by simpa using hWr, rfl, by simp⟩
                    rw [hF, hF2 (lo1 (dn ++ List.replicate k 5))]
                    simp
            · simp (disch := omega) [hx, hlt, hi, hc, wrap64, -getElem?_pos]
              exact Rnd_of (m' := td.length) (by simp) ⟨dn ++ [x], td, c', rfl, by simp at hlen ⊢; omega, by rw [hF, lo1_snoc]; simp [w5, hx], by simpa using hW2, rfl, by simp (disch := omega); try omega⟩
      · have hlt : dn.length < l.length := by simp at hlen; omega
        obtain ⟨i, hi, hin⟩ := hl.at_ hlt
        have hc := hW2.at_ _ i hi
        rw [Int.toNat_natCast, List.getElem?_append_right (Nat.le_refl _), Nat.sub_self, List.getElem?_cons_zero] at hc
        have hi1 : i + 1 ≤ n := hin
        have hset : ∀ v, WB c0 l (dn ++ v :: td) (c'.set i v) := fun v => by
          have h := hW2.set (by rw [h0n]; exact hl) hi v
          rwa [set_app] at h
        by_cases hx2 : x = 2
        · subst hx2
          simp (disch := omega) [hlt, hi, hc, hw', hc'l, hi1, wrap64, -getElem?_pos]
          exact Rnd_of (m' := td.length) (by simp) ⟨dn ++ [1], td, c'.set i (1), rfl, by simp at hlen ⊢; omega, by rw [hF]; simp [w3], by simpa using hset (1), by simp [List.map_set], by simp (disch := omega); try omega⟩
        · simp (disch := omega) [hx2, hlt, hi, hc, wrap64, -getElem?_pos]
          exact Rnd_of (m' := td.length) (by simp) ⟨dn ++ [x], td, c', rfl, by simp at hlen ⊢; omega, by rw [hF]; simp [w3, hx2], by simpa using hW2, rfl, by simp (disch := omega); try omega⟩
    · have hlt : dn.length < l.length := by simp at hlen; omega
      obtain ⟨i, hi, hin⟩ := hl.at_ hlt
      have hc := hW2.at_ _ i hi
      rw [Int.toNat_natCast, List.getElem?_append_right (Nat.le_refl _), Nat.sub_self, List.getElem?_cons_zero] at hc
      have hi1 : i + 1 ≤ n := hin
      have hset : ∀ v, WB c0 l (dn ++ v :: td) (c'.set i v) := fun v => by
        have h := hW2.set (by rw [h0n]; exact hl) hi v
        rwa [set_app] at h
      by_cases hx0 : x = 0
      · subst hx0
        simp (disch := omega) [hlt, hi, hc, wrap64, -getElem?_pos]
        exact Rnd_of (m' := td.length) (by simp) ⟨dn ++ [0], td, c', 0, rfl, by simp at hlen ⊢; omega, by rw [hF]; simp [w2], by simpa using hW2, rfl, by simp (disch := omega); try omega⟩
      · by_cases hx1 : x = 1
        · subst hx1
          simp (disch := omega) [hlt, hi, hc, wrap64, -getElem?_pos]
          exact Rnd_of (m' := td.length) (by simp) ⟨dn ++ [1], td, c', 1, rfl, by simp at hlen ⊢; omega, by rw [hF]; simp [w2], by simpa using hW2, rfl, by simp (disch := omega); try omega⟩
        · by_cases hx2 : x = 2
          · subst hx2
            simp (disch := omega) [hlt, hi, hc, wrap64, -getElem?_pos]
            exact Rnd_of (m' := td.length) (by simp) ⟨dn ++ [2], td, c', 2, rfl, by simp at hlen ⊢; omega, by rw [hF]; simp [w2], by simpa using hW2, rfl, by simp (disch := omega); try omega⟩
          · by_cases hx3 : x = 3
            · subst hx3
              by_cases hg : g = 2
              · subst hg
                simp (disch := omega) [hlt, hi, hc, hw', hc'l, hi1, wrap64, -getElem?_pos]
                exact Rnd_of (m' := td.length) (by simp) ⟨dn ++ [6], td, c'.set i (6), 2, rfl, by simp at hlen ⊢; omega, by rw [hF]; simp [w2], by simpa using hset (6), by simp [List.map_set], by simp (disch := omega); try omega⟩
              · simp (disch := omega) [hg, hlt, hi, hc, wrap64, -getElem?_pos]
                exact Rnd_of (m' := td.length) (by simp) ⟨dn ++ [3], td, c', g, rfl, by simp at hlen ⊢; omega, by rw [hF]; simp [w2, hg], by simpa using hW2, rfl, by simp (disch := omega); try omega⟩
            · simp (disch := omega) [hx0, hx1, hx2, hx3, hlt, hi, hc, wrap64, -getElem?_pos]
              exact Rnd_of (m' := td.length) (by simp) ⟨dn ++ [x], td, c', g, rfl, by simp at hlen ⊢; omega, by rw [hF]; simp [w2, hx0, hx1, hx2, hx3], by simpa using hW2, rfl, by simp (disch := omega); try omega⟩
  · have hlt : dn.length < l.length := by simp at hlen; omega
    obtain ⟨i, hi, hin⟩ := hl.at_ hlt
    have hc := hW2.at_ _ i hi
    rw [Int.toNat_natCast, List.getElem?_append_right (Nat.le_refl _), Nat.sub_self, List.getElem?_cons_zero] at hc
    have hi1 : i + 1 ≤ n := hin
    have hset : ∀ v, WB c0 l (dn ++ v :: td) (c'.set i v) := fun v => by
      have h := hW2.set (by rw [h0n]; exact hl) hi v
      rwa [set_app] at h
    obtain ⟨z, hz⟩ : ∃ z, t[i]? = some z := ⟨_, List.getElem?_eq_getElem (by omega)⟩
    have ho := hos _ i z hi (by rw [Int.toNat_natCast]; exact hz)
    have hdr : os.drop dn.length = bidi z :: os.drop (dn.length + 1) := drop_at ho
    rw [hdr] at hF
    by_cases hx : x = 8
    · subst hx
      by_cases hd0 : 0 < dn.length
      · obtain ⟨dn0, y0, rfl⟩ := snoc_of hd0
        have hlt0 : dn0.length < l.length := by simp at hlt; omega
        obtain ⟨i0, hi0, hin0⟩ := hl.at_ hlt0
        have hcc := hW2.at_ _ i0 hi0
        simp at hcc
        have hne : ¬ i = i0 := fun e => hl.ne hi hi0 (by simp) (by rw [e])
        obtain ⟨z0, hz0⟩ : ∃ z, t[i0]? = some z := ⟨_, List.getElem?_eq_getElem (by omega)⟩
        have ho0 := hos _ i0 z0 hi0 (by rw [Int.toNat_natCast]; exact hz0)
        rw [p1r_snoc st os dn0 y0 _ ho0] at hF
        simp only [List.length_append, List.length_cons, List.length_nil, Nat.zero_add] at *
        have hd1 : ((dn0.length : Int) + 1 - 1).toNat = dn0.length := by omega
        have hlI : (dn0.length : Int) + 1 < l.length := by omega
        have hc1 : ((dn0.length : Int) + 1).toNat = dn0.length + 1 := by omega
        simp (disch := omega) [hlI, hi, hc, hw', hc'l, hi1, hc1, hi0, hz0, hB, wrap64, -getElem?_pos]
        have hso : ∀ v : V, slot ((c'.map (V.int .i64)).set i v) i0 = some (.int .i64 y0) := fun v => by rw [slot_oth hne, slot_ints, hcc]; rfl
        refine wC_draw 13 (by kernel_rfl) ?_
        simp (disch := omega) [hi, hw', hc'l, hi1, hc1, hi0, hso, setS_set, wrap64, -getElem?_pos]
        rw [rw1, if_pos rfl] at hF
        by_cases hxx : ini (bidi z0) = true ∨ bidi z0 = 22
        · have hr : rnx (bidi z0) y0 = 13 := if_pos hxx
          rw [hr] at hF
          have hgo : dn0 ++ [y0] ++ 13 :: rw1 (rnx (bidi z) 13) (os.drop (dn0.length + 1 + 1)) td = dn0 ++ [y0] ++ [13] ++ rw1 (p1r st os (dn0 ++ [y0] ++ [13])) (os.drop (dn0.length + 1 + 1)) td := by
            rw [p1r_snoc st os (dn0 ++ [y0]) 13 _ (by simpa using ho)]; simp
          rw [hgo] at hF
          have hw13 := hset 13
          cases hini : ini (bidi z0)
          · have h22 : bidi z0 = 22 := by simpa [hini] using hxx
            simp (disch := omega) [hI, h22, show ini 22 = false from rfl, hi, hw', hc'l, hi1, hc1, setS_set, wrap64, -getElem?_pos]
            exact Rnd_of (m' := td.length) (by simp) ⟨dn0 ++ [y0] ++ [13], td, c'.set i 13, rfl, by simp at hlen ⊢; omega, by rw [hF]; simp, by simpa using hw13, by simp [List.map_set], by simp (disch := omega); try omega⟩
          · simp (disch := omega) [hI, hini, hi, hw', hc'l, hi1, hc1, setS_set, wrap64, -getElem?_pos]
            exact Rnd_of (m' := td.length) (by simp) ⟨dn0 ++ [y0] ++ [13], td, c'.set i 13, rfl, by simp at hlen ⊢; omega, by rw [hF]; simp, by simpa using hw13, by simp [List.map_set], by simp (disch := omega); try omega⟩
        · have hr : rnx (bidi z0) y0 = y0 := if_neg hxx
          rw [hr] at hF
          have hgo : dn0 ++ [y0] ++ y0 :: rw1 (rnx (bidi z) y0) (os.drop (dn0.length + 1 + 1)) td = dn0 ++ [y0] ++ [y0] ++ rw1 (p1r st os (dn0 ++ [y0] ++ [y0])) (os.drop (dn0.length + 1 + 1)) td := by
            rw [p1r_snoc st os (dn0 ++ [y0]) y0 _ (by simpa using ho)]; simp
          rw [hgo] at hF
          have hwy := hset y0
          have hini : ini (bidi z0) = false := by
            cases h : ini (bidi z0)
            · rfl
            · exact absurd (.inl h) hxx
          have h22 : ¬ bidi z0 = 22 := fun h => hxx (.inr h)
          simp (disch := omega) [hI, hini, h22, wrap64, -getElem?_pos]
          exact Rnd_of (m' := td.length) (by simp) ⟨dn0 ++ [y0] ++ [y0], td, c'.set i y0, rfl, by simp at hlen ⊢; omega, by rw [hF]; simp, by simpa using hwy, by simp [List.map_set], by simp (disch := omega); try omega⟩
      · obtain rfl : dn = [] := List.eq_nil_of_length_eq_zero (by omega)
        simp only [List.length_nil, List.nil_append, Int.natCast_zero] at *
        have hwy := hset st
        simp (disch := omega) [hlt, hi, hc, hw', hc'l, hi1, wrap64, -getElem?_pos]
        rw [rw1, if_pos rfl] at hF
        exact Rnd_of (m' := td.length) (by simp) ⟨[st], td, c'.set i st, rfl, by simp at hlen ⊢; omega, by rw [hF, show p1r st os [st] = rnx (bidi z) st from p1r_snoc st os [] st _ ho]; rfl, by simpa using hwy, by simp [List.map_set], by simp (disch := omega); try omega⟩
    · rw [rw1, if_neg hx] at hF
      have hgo : dn ++ x :: rw1 (rnx (bidi z) x) (os.drop (dn.length + 1)) td = dn ++ [x] ++ rw1 (p1r st os (dn ++ [x])) (os.drop (dn.length + 1)) td := by
        rw [p1r_snoc st os dn x _ ho]; simp
      rw [hgo] at hF
      simp (disch := omega) [hlt, hi, hc, hx, wrap64, -getElem?_pos]
      exact Rnd_of (m' := td.length) (by simp) ⟨dn ++ [x], td, c', rfl, by simp at hlen ⊢; omega, by rw [hF]; simp, by simpa using hW2, rfl, by simp (disch := omega); try omega⟩
end
end Bi
end Go.Ab
/- The weak rules of the program and of the reference give lists that differ only behind an overridden isolate class; the neutral rules then give one list. -/
namespace Go.Ab.Bi
def isoB (o : Int) : Bool := ini o || o == 22
/-- p is the program's list, r the reference's; f: what stands ahead is a PDI or an initiator with the class d, or a mark behind one. -/
def RelL (d : Int) : Bool → List Int → List Int → List Int → Prop
  | _, [], [], [] => True
  | f, o :: os, x :: p, y :: r => (x = y ∧ RelL d (isoB o && decide (x = d)) os p r) ∨ (f = true ∧ o = 8 ∧ d = x ∧ y = 13 ∧ RelL d true os p r)
  | _, _, _, _ => False
/-- An original class stays, or becomes d. -/
def OV (d : Int) : List Int → List Int → Prop
  | [], [] => True
  | o :: os, v :: s => (v = o ∨ d = v) ∧ OV d os s
  | _, _ => False
variable {d : Int}
theorem RelL.mono : ∀ {os p r : List Int} {f : Bool}, RelL d false os p r → RelL d f os p r
  | [], [], [], _, _ => trivial
  | o :: os, x :: p, y :: r, f, h => by
    rcases h with h | h
    · exact .inl h
    · exact absurd h.1 (by simp)
  | [], [], _ :: _, _, h => h.elim
  | [], _ :: _, _, _, h => h.elim
  | _ :: _, [], _, _, h => h.elim
  | _ :: _, _ :: _, [], _, h => h.elim
theorem RelL.mono2 {os p r : List Int} {f g : Bool} (h : RelL d f os p r) (hg : f = true → g = true) : RelL d g os p r := by
  cases f
  · exact h.mono
  · rw [hg rfl]; exact h
theorem RelL.len : ∀ {os p r : List Int} {f : Bool}, RelL d f os p r → p.length = os.length ∧ r.length = os.length
  | [], [], [], _, _ => ⟨rfl, rfl⟩
  | o :: os, x :: p, y :: r, f, h => by
    rcases h with ⟨-, h⟩ | ⟨-, -, -, -, h⟩
    · have := h.len; simp; omega
    · have := h.len; simp; omega
  | [], [], _ :: _, _, h => h.elim
  | [], _ :: _, _, _, h => h.elim
  | _ :: _, [], _, _, h => h.elim
  | _ :: _, _ :: _, [], _, h => h.elim
theorem RelL.same {x : Int} {o : Int} {os p r : List Int} {f g : Bool} (h : RelL d g os p r) (hg : g = true → isoB o = true ∧ x = d) : RelL d f (o :: os) (x :: p) (x :: r) := by
  refine .inl ⟨rfl, h.mono2 fun e => ?_⟩
  obtain ⟨h1, h2⟩ := hg e
  simp [h1, h2]
theorem w1_rel (hd : d = 0 ∨ d = 1) : ∀ (s os : List Int) (a b : Int) (f : Bool), OV d os s → ((a = b ∧ isoB a = false) ∨ (d = a ∧ b = 13 ∧ f = true)) → RelL d f os (w1 a s) (rw1 b os s)
  | [], [], a, b, f, _, _ => trivial
  | x :: s, [], a, b, f, h, _ => h.elim
  | [], o :: os, a, b, f, h, _ => h.elim
  | v :: s, o :: os, a, b, f, h, hab => by
    obtain ⟨h1, h2⟩ := h
    simp only [w1, rw1]
    have d8 : ¬ (8 : Int) = d := by omega
    have isd : isoB d = false := by rcases hd with rfl | rfl <;> rfl
    have nxn : ∀ x, isoB x = false → nx x = x := fun x hx => by
      unfold isoB at hx
      simp at hx
      simp [nx, hx]
    have rnn : ∀ o x, isoB o = false → rnx o x = x := fun o x hx => by
      unfold isoB at hx
      simp at hx
      simp [rnx, hx]
    have nxy : ∀ x, isoB x = true → nx x = 13 := fun x hx => by
      unfold isoB at hx
      simp at hx
      simp [nx, hx]
    have rny : ∀ o x, isoB o = true → rnx o x = 13 := fun o x hx => by
      unfold isoB at hx
      simp at hx
      simp [rnx, hx]
    by_cases hv : v = 8
    · subst hv
      have ho : o = 8 := by
        rcases h1 with h1 | h1
        · exact h1.symm
        · exact absurd h1.symm d8
      subst ho
      simp only [if_true]
      rw [rnn 8 b rfl]
      rcases hab with ⟨rfl, ha⟩ | ⟨rfl, rfl, hf⟩
      · refine .inl ⟨rfl, ?_⟩
        rw [nxn a ha]
        exact w1_rel hd s os a a _ h2 (.inl ⟨rfl, ha⟩)
      · refine .inr ⟨hf, rfl, rfl, rfl, ?_⟩
        rw [nxn d isd]
        exact w1_rel hd s os d 13 true h2 (.inr ⟨rfl, rfl, rfl⟩)
    · simp only [if_neg hv]
      refine .inl ⟨rfl, ?_⟩
      cases hio : isoB o
      · have hvn : isoB v = false := by
          rcases h1 with rfl | rfl
          · exact hio
          · exact isd
        rw [nxn v hvn, rnn o v hio]
        exact w1_rel hd s os v v _ h2 (.inl ⟨rfl, hvn⟩)
      · rw [rny o v hio]
        rcases h1 with rfl | rfl
        · rw [nxy v hio]
          exact w1_rel hd s os 13 13 _ h2 (.inl ⟨rfl, rfl⟩)
        · rw [nxn d isd]
          exact w1_rel hd s os d 13 _ h2 (.inr ⟨rfl, rfl, by simp⟩)
theorem w2_rel (hd : d = 0 ∨ d = 1) : ∀ (os p r : List Int) (l : Int) (f : Bool), RelL d f os p r → (f = true → l = d) → RelL d f os (w2 l p) (w2 l r)
  | [], [], [], _, _, _, _ => trivial
  | o :: os, x :: p, y :: r, l, f, h, hl => by
    rcases h with ⟨rfl, h⟩ | ⟨hf, rfl, rfl, rfl, h⟩
    · simp only [w2]
      by_cases h3 : x = 0 ∨ x = 1 ∨ x = 2
      · rw [if_pos h3, if_pos h3]
        refine .inl ⟨rfl, w2_rel hd os p r x _ h fun e => ?_⟩
        simp at e
        exact e.2
      · rw [if_neg h3, if_neg h3]
        have hxd : ¬ x = d := by omega
        have h' : RelL d false os p r := h.mono2 fun e => by simp [hxd] at e
        have IH := w2_rel hd os p r l false h' (by simp)
        by_cases h4 : x = 3 ∧ l = 2
        · rw [if_pos h4, if_pos h4]
          exact .inl ⟨rfl, IH.mono⟩
        · rw [if_neg h4, if_neg h4]
          exact .inl ⟨rfl, IH.mono⟩
    · have hx : d = 0 ∨ d = 1 ∨ d = 2 := by omega
      have hl' := (hl hf).symm
      subst hl'
      have e13 : w2 d (13 :: r) = 13 :: w2 d r := by simp [w2]
      have ed : w2 d (d :: p) = d :: w2 d p := by simp only [w2, if_pos hx]
      rw [e13, ed]
      exact .inr ⟨hf, rfl, rfl, rfl, w2_rel hd os p r d true h fun _ => rfl⟩
  | [], [], _ :: _, _, _, h, _ => h.elim
  | [], _ :: _, _, _, _, h, _ => h.elim
  | _ :: _, [], _, _, _, h, _ => h.elim
  | _ :: _, _ :: _, [], _, _, h, _ => h.elim
theorem w3_rel (hd : d = 0 ∨ d = 1) : ∀ (os p r : List Int) (f : Bool), RelL d f os p r → RelL d f os (w3 p) (w3 r)
  | [], [], [], _, _ => trivial
  | o :: os, x :: p, y :: r, f, h => by
    have IH := fun g hg => w3_rel hd os p r g hg
    have e3 : ∀ (a : Int) (l : List Int), w3 (a :: l) = (if a = 2 then 1 else a) :: w3 l := fun _ _ => rfl
    rw [e3, e3]
    rcases h with ⟨rfl, h⟩ | ⟨hf, rfl, rfl, rfl, h⟩
    · refine .inl ⟨rfl, (IH _ h).mono2 fun e => ?_⟩
      simp at e
      obtain ⟨e1, e2⟩ := e
      have : ¬ d = 2 := by omega
      simp [e1, e2, this]
    · have : ¬ d = 2 := by omega
      refine .inr ⟨hf, rfl, by simp [this], by simp, IH _ h⟩
  | [], [], _ :: _, _, h => h.elim
  | [], _ :: _, _, _, h => h.elim
  | _ :: _, [], _, _, h => h.elim
  | _ :: _, _ :: _, [], _, h => h.elim
theorem RelL.head {os p r : List Int} {f : Bool} (h : RelL d f os p r) : p.headD (-1) = r.headD (-1) ∨ (d = p.headD (-1) ∧ r.headD (-1) = 13) := by
  cases os with
  | nil =>
    cases p with
    | nil => cases r with
      | nil => exact .inl rfl
      | cons y r => exact h.elim
    | cons x p => exact h.elim
  | cons o os =>
    cases p with
    | nil => exact h.elim
    | cons x p => cases r with
      | nil => exact h.elim
      | cons y r =>
        rcases h with ⟨rfl, h⟩ | ⟨hf, rfl, rfl, rfl, h⟩
        · exact .inl rfl
        · exact .inr ⟨rfl, rfl⟩
theorem w4_rel (hd : d = 0 ∨ d = 1) : ∀ (os p r : List Int) (a b : Int) (f : Bool), RelL d f os p r → (a = b ∨ (d = a ∧ b = 13)) → RelL d f os (w4 a p) (w4 b r)
  | [], [], [], _, _, _, _, _ => trivial
  | o :: os, x :: p, y :: r, a, b, f, h, hab => by
    simp only [w4]
    rcases h with ⟨rfl, h⟩ | ⟨hf, rfl, rfl, rfl, h⟩
    · have hh := h.head
      have e : w4c a x (p.headD (-1)) = w4c b x (r.headD (-1)) := by
        unfold w4c
        generalize p.headD (-1) = u at *
        generalize r.headD (-1) = w at *
        by_cases c1 : x = 4 ∧ a = 3 ∧ u = 3 ∨ x = 7 ∧ a = u ∧ (a = 3 ∨ a = 6)
        · rw [if_pos c1, if_pos (by omega)]
          omega
        · rw [if_neg c1, if_neg (by omega)]
      rw [e]
      generalize hw : w4c b x (r.headD (-1)) = z at *
      refine .inl ⟨rfl, (w4_rel hd os p r z z _ h (.inl rfl)).mono2 fun e2 => ?_⟩
      simp at e2
      obtain ⟨e3, e4⟩ := e2
      have : z = x := by
        rw [← hw]
        unfold w4c
        rw [if_neg (by omega)]
      simp [e3, this, e4]
    · have e1 : w4c a d (p.headD (-1)) = d := by unfold w4c; rw [if_neg (by omega)]
      have e2 : w4c b 13 (r.headD (-1)) = 13 := by unfold w4c; rw [if_neg (by omega)]
      rw [e1, e2]
      exact .inr ⟨hf, rfl, rfl, rfl, w4_rel hd os p r d 13 true h (.inr ⟨rfl, rfl⟩)⟩
  | [], [], _ :: _, _, _, _, h, _ => h.elim
  | [], _ :: _, _, _, _, _, h, _ => h.elim
  | _ :: _, [], _, _, _, _, h, _ => h.elim
  | _ :: _, _ :: _, [], _, _, _, h, _ => h.elim
theorem RelL.reps {z : Int} (hz : z ≠ d) {os p r : List Int} : ∀ (q : List Int) {f : Bool}, (q ≠ [] → f = false) → RelL d f os p r → RelL d f (q ++ os) (List.replicate q.length z ++ p) (List.replicate q.length z ++ r)
  | [], _, _, h => by simpa using h
  | o :: q, f, hf, h => by
    have hf' := hf (by simp)
    subst hf'
    refine .inl ⟨rfl, ?_⟩
    have : (isoB o && decide (z = d)) = false := by simp [hz]
    rw [this]
    exact RelL.reps hz q (fun _ => rfl) h
theorem w5_rel (hd : d = 0 ∨ d = 1) : ∀ (os p r q : List Int) (a b : Int) (f : Bool), RelL d f os p r → (q ≠ [] → f = false) → (a = b ∨ (d = a ∧ b = 13)) → RelL d f (q ++ os) (w5 a q.length p) (w5 b q.length r)
  | [], [], [], q, a, b, f, h, hq, hab => by
    simp only [w5]
    have e : (if a = 3 then (3 : Int) else 5) = if b = 3 then 3 else 5 := by
      by_cases c : a = 3
      · rw [if_pos c, if_pos (by omega)]
      · rw [if_neg c, if_neg (by omega)]
    rw [e]
    have := RelL.reps (d := d) (z := if b = 3 then 3 else 5) (by split <;> omega) (os := []) (p := []) (r := []) q hq h
    simpa using this
  | o :: os, x :: p, y :: r, q, a, b, f, h, hq, hab => by
    simp only [w5]
    rcases h with ⟨rfl, h⟩ | ⟨hf, rfl, rfl, rfl, h⟩
    · by_cases c5 : x = 5
      · rw [if_pos c5, if_pos c5]
        have h' : RelL d false os p r := h.mono2 fun e => by
          simp at e; omega
        have := w5_rel hd os p r (q ++ [o]) a b false h' (fun _ => rfl) hab
        simp only [List.length_append, List.length_cons, List.length_nil, Nat.zero_add, List.append_assoc, List.singleton_append] at this
        exact this.mono
      · rw [if_neg c5, if_neg c5]
        have e : (if a = 3 ∨ x = 3 then (3 : Int) else 5) = if b = 3 ∨ x = 3 then 3 else 5 := by
          by_cases c : a = 3 ∨ x = 3
          · rw [if_pos c, if_pos (by omega)]
          · rw [if_neg c, if_neg (by omega)]
        rw [e]
        refine RelL.reps (z := if b = 3 ∨ x = 3 then (3 : Int) else 5) (by split <;> omega) q hq ?_
        have := w5_rel hd os p r [] x x _ h (by simp) (.inl rfl)
        exact .inl ⟨rfl, this⟩
    · have hq' : q = [] := by
        cases q with
        | nil => rfl
        | cons a q => have := hq (by simp); rw [this] at hf; cases hf
      subst hq'
      have e5 : ¬ d = 5 := by omega
      have e6 : ¬ (13 : Int) = 5 := by omega
      rw [if_neg e5, if_neg e6]
      simp only [List.length_nil, List.replicate_zero, List.nil_append]
      have := w5_rel hd os p r [] d 13 true h (by simp) (.inr ⟨rfl, rfl⟩)
      exact .inr ⟨hf, rfl, rfl, rfl, this⟩
  | [], [], _ :: _, _, _, _, _, h, _, _ => h.elim
  | [], _ :: _, _, _, _, _, _, h, _, _ => h.elim
  | _ :: _, [], _, _, _, _, _, h, _, _ => h.elim
  | _ :: _, _ :: _, [], _, _, _, _, h, _, _ => h.elim
theorem w6_rel (hd : d = 0 ∨ d = 1) : ∀ (os p r : List Int) (l : Int) (f : Bool), RelL d f os p r → (f = true → l = d) → RelL d f os (w6 l p) (w6 l r)
  | [], [], [], _, _, _, _ => trivial
  | o :: os, x :: p, y :: r, l, f, h, hl => by
    rcases h with ⟨rfl, h⟩ | ⟨hf, rfl, rfl, rfl, h⟩
    · simp only [w6]
      by_cases h3 : x = 4 ∨ x = 5 ∨ x = 7
      · rw [if_pos h3, if_pos h3]
        have h' : RelL d false os p r := h.mono2 fun e => by simp at e; omega
        exact .inl ⟨rfl, (w6_rel hd os p r l false h' (by simp)).mono⟩
      · rw [if_neg h3, if_neg h3]
        by_cases h4 : x = 0 ∨ x = 1
        · rw [if_pos h4, if_pos h4]
          refine .inl ⟨rfl, w6_rel hd os p r x _ h fun e => ?_⟩
          simp at e
          exact e.2
        · rw [if_neg h4, if_neg h4]
          have h' : RelL d false os p r := h.mono2 fun e => by simp at e; omega
          have IH := w6_rel hd os p r l false h' (by simp)
          by_cases h5 : x = 3 ∧ l = 0
          · rw [if_pos h5, if_pos h5]
            exact .inl ⟨rfl, IH.mono⟩
          · rw [if_neg h5, if_neg h5]
            exact .inl ⟨rfl, IH.mono⟩
    · have hl' := (hl hf).symm
      subst hl'
      have e1 : w6 d (d :: p) = d :: w6 d p := by
        simp only [w6]
        rw [if_neg (by omega), if_pos (by omega)]
      have e2 : w6 d (13 :: r) = 13 :: w6 d r := by
        simp only [w6]
        rw [if_neg (by omega), if_neg (by omega), if_neg (by omega)]
      rw [e1, e2]
      exact .inr ⟨hf, rfl, rfl, rfl, w6_rel hd os p r d true h fun _ => rfl⟩
  | [], [], _ :: _, _, _, h, _ => h.elim
  | [], _ :: _, _, _, _, h, _ => h.elim
  | _ :: _, [], _, _, _, h, _ => h.elim
  | _ :: _, _ :: _, [], _, _, h, _ => h.elim
theorem weak_rel (hd : d = 0 ∨ d = 1) {os s : List Int} {st : Int} (hs : st = 0 ∨ st = 1) (h : OV d os s) : RelL d false os (weakS st s) (rweak st os s) := by
  have h1 := w1_rel hd s os st st false h (.inl ⟨rfl, by rcases hs with rfl | rfl <;> rfl⟩)
  have h2 := w2_rel hd os _ _ st false h1 (by simp)
  have h3 := w3_rel hd os _ _ false h2
  have h4 := w4_rel hd os _ _ (-1) (-1) false h3 (.inl rfl)
  have h5 := w5_rel hd os _ _ [] (-1) (-1) false h4 (by simp) (.inl rfl)
  exact w6_rel hd os _ _ st false h5 (by simp)
end Go.Ab.Bi
/- The sorted list of pairs is the only one; brackets that fit each other. -/
namespace Go.Ab
open Go.Proofs Go.Sort
namespace Bi
theorem kvSort_pw (l : List KV) : (kvSort l).Pairwise fun a b => a.1.val ≤ b.1.val := by
  have h := (kvSort_both l).2
  have hl := kvSort_len l
  have hA : kvSort l = (pdq kvLt l.toArray 0 l.length (Lib.bitLen l.length) true true).toList := rfl
  rw [hA] at hl ⊢
  generalize pdq kvLt l.toArray 0 l.length (Lib.bitLen l.length) true true = A at *
  rw [List.pairwise_iff_getElem]
  intro i j hi hj hij
  have h1 := h i j (Nat.zero_le _) hij (by omega)
  simp only [Array.length_toList] at hi hj
  rw [getElem!_pos A i hi, getElem!_pos A j hj] at h1
  simp only [Array.getElem_toList]
  have h2 : ¬ ((A[j].1.val : Int) - (A[i].1.val : Int) < 0) := by
    intro hc
    have : kvLt A[j] A[i] = true := by simp only [kvLt, ltOf, kvC]; exact decide_eq_true hc
    rw [this] at h1; cases h1
  omega
theorem srtS_pw (out : List (Nat × Nat)) : (srtS out).Pairwise fun a b => a.1 ≤ b.1 := by
  unfold srtS
  rw [List.pairwise_map]
  exact kvSort_pw _
/-- A sorted list of the same pairs is srtS, if no two pairs begin alike. -/
theorem srtS_uniq {out L : List (Nat × Nat)} (h : Sm out) (hp : L.Perm out) (hs : L.Pairwise fun a b => a.1 ≤ b.1) (hn : (out.map (·.1)).Nodup) : L = srtS out := by
  refine List.Perm.eq_of_pairwise (le := fun a b => a.1 ≤ b.1) ?_ hs (srtS_pw out) (hp.trans (srtS_perm h).symm)
  intro a b ha hb h1 h2
  have ha' := hp.mem_iff.1 ha
  have hb' := (srtS_perm h).mem_iff.1 hb
  have e : a.1 = b.1 := Nat.le_antisymm h1 h2
  obtain ⟨i, hi, rfl⟩ := List.mem_iff_getElem.1 ha'
  obtain ⟨j, hj, rfl⟩ := List.mem_iff_getElem.1 hb'
  have := (List.getElem_inj (xs := out.map (·.1)) (i := i) (j := j) (h₀ := by simpa using hi) (h₁ := by simpa using hj) hn).1 (by simpa using e)
  subst this
  rfl
theorem brS_cases (r : Int) : (brS r = (0, 0)) ∨ (∃ p ∈ brTab, p.1 = r ∧ brS r = (1, p.2)) ∨ (∃ p ∈ brTab, p.2 = r ∧ brS r = (2, p.1)) := by
  by_cases h : ∃ p ∈ brTab, p.1 = r ∨ p.2 = r
  · obtain ⟨p, hp, hr⟩ := h
    simp only [brTab, List.mem_cons, List.not_mem_nil, or_false] at hp
    rcases hp with rfl | rfl | rfl | rfl | rfl | rfl | rfl | rfl <;> rcases hr with rfl | rfl
    all_goals first
      | exact .inr (.inl ⟨_, by simp only [brTab, List.mem_cons, true_or, or_true], rfl, rfl⟩)
      | exact .inr (.inl ⟨(40, 41), by decide, rfl, rfl⟩)
      | exact .inr (.inl ⟨(91, 93), by decide, rfl, rfl⟩)
      | exact .inr (.inl ⟨(123, 125), by decide, rfl, rfl⟩)
      | exact .inr (.inl ⟨(12296, 12297), by decide, rfl, rfl⟩)
      | exact .inr (.inl ⟨(12298, 12299), by decide, rfl, rfl⟩)
      | exact .inr (.inl ⟨(12300, 12301), by decide, rfl, rfl⟩)
      | exact .inr (.inl ⟨(12302, 12303), by decide, rfl, rfl⟩)
      | exact .inr (.inl ⟨(12304, 12305), by decide, rfl, rfl⟩)
      | exact .inr (.inr ⟨(40, 41), by decide, rfl, rfl⟩)
      | exact .inr (.inr ⟨(91, 93), by decide, rfl, rfl⟩)
      | exact .inr (.inr ⟨(123, 125), by decide, rfl, rfl⟩)
      | exact .inr (.inr ⟨(12296, 12297), by decide, rfl, rfl⟩)
      | exact .inr (.inr ⟨(12298, 12299), by decide, rfl, rfl⟩)
      | exact .inr (.inr ⟨(12300, 12301), by decide, rfl, rfl⟩)
      | exact .inr (.inr ⟨(12302, 12303), by decide, rfl, rfl⟩)
      | exact .inr (.inr ⟨(12304, 12305), by decide, rfl, rfl⟩)
  · left
    have hno : ∀ l : List (Int × Int), (∀ p ∈ l, ¬ (p.1 = r ∨ p.2 = r)) → othS l r = (r, -1) := by
      intro l
      induction l with
      | nil => intro _; rfl
      | cons p l ih =>
        intro hl
        have h1 := hl p (List.mem_cons_self ..)
        rw [show othS (p :: l) r = if p.1 = r then (p.2, 1) else if p.2 = r then (p.1, 0) else othS l r from rfl, if_neg (fun e => h1 (.inl e)), if_neg (fun e => h1 (.inr e))]
        exact ih fun q hq => hl q (List.mem_cons_of_mem _ hq)
    unfold brS
    rw [hno brTab fun p hp hr => h ⟨p, hp, hr⟩]
    rfl
/-- An opening and a closing bracket fit from both sides. -/
theorem brS_inv {a r : Int} (h1 : (brS a).1 = 1) (h2 : (brS r).1 = 2) : (brS a).2 = r ↔ a = (brS r).2 := by
  rcases brS_cases a with h | ⟨p, hp, hpa, h⟩ | ⟨p, hp, hpa, h⟩
  · rw [h] at h1; simp at h1
  · rcases brS_cases r with g | ⟨q, hq, hqa, g⟩ | ⟨q, hq, hqa, g⟩
    · rw [g] at h2; simp at h2
    · rw [g] at h2; simp at h2
    · rw [h, g]
      simp only
      subst hpa hqa
      revert p q
      decide
  · rw [h] at h1; simp at h1
/-- No two pairs begin alike. -/
theorem pgo_nodup : ∀ (l : List (Int × Int)) (k : Nat) (p : PS) (out : List (Nat × Nat)), (∀ a ∈ p.st, a.2 < k) → (p.st.map (·.2) ++ p.out.map (·.1)).Nodup → (∀ x ∈ p.out, x.1 < k) → pgo k l p = some out → (out.map (·.1)).Nodup
  | [], k, p, out, _, hn, _, h => by
    simp only [pgo, Option.some.injEq] at h
    subst h
    exact (List.nodup_append.1 hn).2.1
  | (x, r) :: l, k, p, out, hk, hn, ho, h => by
    have up : ∀ q : PS, (∀ a ∈ q.st, a.2 < k) → (q.st.map (·.2) ++ q.out.map (·.1)).Nodup → (∀ x ∈ q.out, x.1 < k) → pgo (k + 1) l q = some out → (out.map (·.1)).Nodup := fun q h1 h2 h3 h4 =>
      pgo_nodup l (k + 1) q out (fun a ha => by have := h1 a ha; omega) h2 (fun x hx => by have := h3 x hx; omega) h4
    unfold pgo at h
    split at h
    · exact up p hk hn ho h
    · split at h
      · split at h
        · cases h
        · refine pgo_nodup l (k + 1) _ out ?_ ?_ (fun x hx => by have := ho x hx; omega) h
          · intro a ha
            rcases List.mem_cons.1 ha with rfl | ha
            · simp
            · have := hk a ha; omega
          · simp only [List.map_cons, List.cons_append]
            refine List.nodup_cons.2 ⟨?_, hn⟩
            intro hm
            rcases List.mem_append.1 hm with hm | hm
            · obtain ⟨a, ha, hae⟩ := List.mem_map.1 hm
              have := hk a ha
              omega
            · obtain ⟨a, ha, hae⟩ := List.mem_map.1 hm
              have := ho a ha
              omega
      · split at h
        · split at h
          · rename_i a t hf
            have hmem := pfind_mem hf
            have hsub : ∀ (st : OStk), pfind r st = some (a, t) → ∃ pre c, st = pre ++ (c, a) :: t := by
              intro st
              induction st with
              | nil => intro h; simp [pfind] at h
              | cons y st ih =>
                intro h
                simp only [pfind] at h
                split at h
                · cases h; exact ⟨[], _, rfl⟩
                · obtain ⟨pre, c, e⟩ := ih h
                  exact ⟨y :: pre, c, by rw [e]; rfl⟩
            obtain ⟨pre, c, hst⟩ := hsub _ hf
            refine up ⟨t, p.out ++ [(a, k)]⟩ (fun b hb => hk b (hmem.2.1 b hb)) ?_ ?_ h
            · simp only [List.map_append, List.map_cons, List.map_nil]
              rw [hst] at hn
              simp only [List.map_append, List.map_cons, List.append_assoc, List.cons_append] at hn
              have hn2 := (List.nodup_append.1 hn).2.1
              have hp : (t.map (·.2) ++ (p.out.map (·.1) ++ [a])).Perm (a :: (t.map (·.2) ++ p.out.map (·.1))) := by
                rw [← List.append_assoc]
                exact (List.perm_append_comm).trans (by simp)
              exact hp.nodup_iff.2 hn2
            · intro x hx
              rcases List.mem_append.1 hx with hx | hx
              · exact ho x hx
              · simp at hx; subst hx
                obtain ⟨c, hc⟩ := hmem.1
                exact hk _ hc
          · exact up p hk hn ho h
        · exact up p hk hn ho h
end Bi
end Go.Ab
/- The bracket and neutral rules of the program and of the reference give one list. -/
namespace Go.Ab.Bi
variable {d : Int}
/-- Classes that are left behind the weak rules. -/
def okC (x : Int) : Bool := x == 0 || x == 1 || x == 3 || x == 6 || x == 10 || x == 11 || x == 12 || x == 13 || x == 22 || ini x
theorem RelL.drop1 : ∀ {os p r : List Int} {f : Bool} {a : Nat} {o : Int}, RelL d f os p r → os[a]? = some o → o ≠ 8 → isoB o = false → RelL d false (os.drop (a + 1)) (p.drop (a + 1)) (r.drop (a + 1))
  | [], _, _, _, a, o, _, h, _, _ => by simp at h
  | o1 :: os, x :: p, y :: r, f, 0, o, h, ho, h8, hi => by
    simp at ho
    subst ho
    rcases h with ⟨-, h⟩ | ⟨-, h, -⟩
    · simpa [hi] using h
    · exact absurd h h8
  | o1 :: os, x :: p, y :: r, f, a + 1, o, h, ho, h8, hi => by
    simp at ho
    rcases h with ⟨-, h⟩ | ⟨-, -, -, -, h⟩
    · exact h.drop1 ho h8 hi
    · exact h.drop1 ho h8 hi
  | _ :: _, [], _, _, _, _, h, _, _, _ => h.elim
  | _ :: _, _ :: _, [], _, _, _, h, _, _, _ => h.elim
theorem RelL.take : ∀ {os p r : List Int} {f : Bool} (m : Nat), RelL d f os p r → RelL d f (os.take m) (p.take m) (r.take m)
  | os, p, r, f, 0, h => by simp only [List.take_zero]; trivial
  | [], [], [], _, m + 1, _ => trivial
  | o :: os, x :: p, y :: r, f, m + 1, h => by
    rcases h with ⟨h1, h⟩ | ⟨hf, h1, h2, h3, h⟩
    · exact .inl ⟨h1, h.take m⟩
    · exact .inr ⟨hf, h1, h2, h3, h.take m⟩
  | [], [], _ :: _, _, _ + 1, h => h.elim
  | [], _ :: _, _, _, _ + 1, h => h.elim
  | _ :: _, [], _, _, _ + 1, h => h.elim
  | _ :: _, _ :: _, [], _, _ + 1, h => h.elim
theorem dirS_d (hd : d = 0 ∨ d = 1) : dirS d = d := by rcases hd with rfl | rfl <;> rfl
theorem RelL.anyD (hd : d = 0 ∨ d = 1) : ∀ {os p r : List Int} {f : Bool}, RelL d f os p r → (f || p.any (isD d)) = (f || r.any (isD d))
  | [], [], [], _, _ => rfl
  | o :: os, x :: p, y :: r, f, h => by
    rcases h with ⟨rfl, h⟩ | ⟨rfl, -⟩
    · have IH := h.anyD hd
      simp only [List.any_cons]
      cases hx : isD d x
      · have hxd : ¬ x = d := by
          rintro rfl
          simp [isD, dirS_d hd] at hx
        have e : (isoB o && decide (x = d)) = false := by simp [hxd]
        rw [e, Bool.false_or, Bool.false_or] at IH
        rw [IH]
      · simp
    · simp
  | [], [], _ :: _, _, h => h.elim
  | [], _ :: _, _, _, h => h.elim
  | _ :: _, [], _, _, h => h.elim
  | _ :: _, _ :: _, [], _, h => h.elim
theorem RelL.anyO (hd : d = 0 ∨ d = 1) : ∀ {os p r : List Int} {f : Bool}, RelL d f os p r → p.any (isO d) = r.any (isO d)
  | [], [], [], _, _ => rfl
  | o :: os, x :: p, y :: r, f, h => by
    simp only [List.any_cons]
    rcases h with ⟨rfl, h⟩ | ⟨-, -, rfl, rfl, h⟩
    · rw [h.anyO hd]
    · rw [h.anyO hd]
      have e1 : isO d d = false := by simp [isO, dirS_d hd]
      have e2 : isO d 13 = false := by simp [isO, dirS]
      rw [e1, e2]
  | [], [], _ :: _, _, h => h.elim
  | [], _ :: _, _, _, h => h.elim
  | _ :: _, [], _, _, h => h.elim
  | _ :: _, _ :: _, [], _, h => h.elim
theorem lastD_cons (st x : Int) (s : List Int) : lastD st (x :: s) = lastD (if 0 ≤ dirS x then dirS x else st) s := by
  have h : ∀ (n : Nat) (s : List Int) (st : Int), s.length = n → lastD st (x :: s) = lastD (if 0 ≤ dirS x then dirS x else st) s := by
    intro n
    induction n with
    | zero =>
      intro s st hs
      obtain rfl : s = [] := List.length_eq_zero_iff.1 hs
      have := lastD_snoc st [] x
      simp only [List.nil_append] at this
      rw [this]
      rfl
    | succ n ih =>
      intro s st hs
      obtain ⟨s0, y, rfl⟩ : ∃ s0 y, s = s0 ++ [y] := by
        rcases List.eq_nil_or_concat s with rfl | ⟨s0, y, rfl⟩
        · simp at hs
        · exact ⟨s0, y, by simp⟩
      rw [← List.cons_append, lastD_snoc, lastD_snoc, ih s0 st (by simp at hs; omega)]
  exact h _ s st rfl
theorem RelL.last (hd : d = 0 ∨ d = 1) : ∀ {os p r : List Int} {f : Bool} {st : Int}, RelL d f os p r → (f = true → st = d) → lastD st p = lastD st r
  | [], [], [], _, _, _, _ => rfl
  | o :: os, x :: p, y :: r, f, st, h, hf => by
    rw [lastD_cons, lastD_cons]
    rcases h with ⟨rfl, h⟩ | ⟨ht, -, rfl, rfl, h⟩
    · refine h.last hd fun e => ?_
      simp at e
      obtain ⟨-, rfl⟩ := e
      rw [dirS_d hd, if_pos (by omega)]
    · have hst := (hf ht).symm
      subst hst
      have e1 : ¬ (0 : Int) ≤ dirS 13 := by simp [dirS]
      rw [if_neg e1, dirS_d hd, if_pos (by omega)]
      exact h.last hd fun _ => rfl
  | [], [], _ :: _, _, _, h, _ => h.elim
  | [], _ :: _, _, _, _, h, _ => h.elim
  | _ :: _, [], _, _, _, h, _ => h.elim
  | _ :: _, _ :: _, [], _, _, h, _ => h.elim
theorem setR_cons (to x : Int) : ∀ (n : Nat) (s : List Int) (k : Nat), setR (x :: s) (k + 1) to n = x :: setR s k to n
  | 0, _, _ => rfl
  | n + 1, s, k => by rw [setR, setR, List.set_cons_succ, setR_cons to x n]
theorem nsm_cons (o : Int) (os : List Int) (k : Nat) : nsm (o :: os) (k + 1) = nsm os k := by simp [nsm]
theorem bset_zero (o x to : Int) (os s : List Int) : bset (o :: os) (x :: s) 0 to = to :: setR s 0 to (nsm os 0) := by
  rw [bset, List.set_cons_zero, nsm_cons, setR_cons]
theorem bset_succ (o x to : Int) (os s : List Int) (k : Nat) : bset (o :: os) (x :: s) (k + 1) to = x :: bset os s k to := by
  rw [bset, List.set_cons_succ, nsm_cons, setR_cons, bset]
theorem RelL.fill (to : Int) : ∀ {os p r : List Int}, RelL d false os p r → RelL d false os (setR p 0 to (nsm os 0)) (setR r 0 to (nsm os 0))
  | [], [], [], _ => trivial
  | o :: os, x :: p, y :: r, h => by
    rcases h with ⟨rfl, h⟩ | ⟨h, -⟩
    · by_cases h8 : o = 8
      · subst h8
        have e : nsm (8 :: os) 0 = nsm os 0 + 1 := by
          rw [nsm_yes (k := 0) (by simp), nsm_cons]
        have h' : RelL d false os p r := h
        rw [e, setR, setR, List.set_cons_zero, List.set_cons_zero, setR_cons, setR_cons]
        exact .inl ⟨rfl, (h'.fill to).mono⟩
      · have e : nsm (o :: os) 0 = 0 := nsm_no (k := 0) (by simpa using h8)
        rw [e]
        exact .inl ⟨rfl, h⟩
    · cases h
  | [], [], _ :: _, h => h.elim
  | [], _ :: _, _, h => h.elim
  | _ :: _, [], _, h => h.elim
  | _ :: _, _ :: _, [], h => h.elim
theorem RelL.bset (to : Int) : ∀ {os p r : List Int} {f : Bool} {a : Nat} {o : Int}, RelL d f os p r → os[a]? = some o → o ≠ 8 → isoB o = false → RelL d f os (bset os p a to) (bset os r a to)
  | [], _, _, _, a, o, _, h, _, _ => by simp at h
  | o1 :: os, x :: p, y :: r, f, 0, o, h, ho, h8, hi => by
    simp at ho
    subst ho
    rw [bset_zero, bset_zero]
    rcases h with ⟨-, h⟩ | ⟨-, h, -⟩
    · have h' : RelL d false os p r := by simpa [hi] using h
      exact .inl ⟨rfl, (h'.fill to).mono⟩
    · exact absurd h h8
  | o1 :: os, x :: p, y :: r, f, a + 1, o, h, ho, h8, hi => by
    simp at ho
    rw [bset_succ, bset_succ]
    rcases h with ⟨h1, h⟩ | ⟨hf, h1, h2, h3, h⟩
    · exact .inl ⟨h1, RelL.bset to h ho h8 hi⟩
    · exact .inr ⟨hf, h1, h2, h3, RelL.bset to h ho h8 hi⟩
  | _ :: _, [], _, _, _, _, h, _, _, _ => h.elim
  | _ :: _, _ :: _, [], _, _, _, h, _, _, _ => h.elim
def brkO (os : List Int) (a : Nat) : Prop := ∃ o, os[a]? = some o ∧ o ≠ 8 ∧ isoB o = false
theorem RelL.brk1 (hd : d = 0 ∨ d = 1) {os p r : List Int} {st : Int} (h : RelL d false os p r) {q : Nat × Nat} (h1 : brkO os q.1) (h2 : brkO os q.2) : RelL d false os (brk1 d st os p q) (brk1 d st os r q) := by
  obtain ⟨o1, a1, a2, a3⟩ := h1
  obtain ⟨o2, b1, b2, b3⟩ := h2
  have hsg : ∀ s : List Int, seg s q.1 q.2 = (s.drop (q.1 + 1)).take (q.2 - (q.1 + 1)) := fun s => by rw [seg, List.drop_take]
  have hS := (h.drop1 a1 a2 a3).take (q.2 - (q.1 + 1))
  have e1 : (seg p q.1 q.2).any (isD d) = (seg r q.1 q.2).any (isD d) := by
    rw [hsg, hsg]
    simpa using hS.anyD hd
  have e2 : (seg p q.1 q.2).any (isO d) = (seg r q.1 q.2).any (isO d) := by
    rw [hsg, hsg]
    exact hS.anyO hd
  have e3 : lastD st (p.take q.1) = lastD st (r.take q.1) := (h.take q.1).last hd (by simp)
  unfold Bi.brk1
  rw [e1, e2, e3]
  split
  · exact (h.bset _ a1 a2 a3).bset _ b1 b2 b3
  · split
    · exact (h.bset _ a1 a2 a3).bset _ b1 b2 b3
    · exact h
theorem RelL.brks (hd : d = 0 ∨ d = 1) {os : List Int} {st : Int} : ∀ {ps : List (Nat × Nat)} {p r : List Int}, RelL d false os p r → (∀ q ∈ ps, brkO os q.1 ∧ brkO os q.2) → RelL d false os (brks d st os ps p) (brks d st os ps r)
  | [], _, _, h, _ => h
  | q :: ps, p, r, h, hp => by
    have hq := hp q (List.mem_cons_self ..)
    have h1 := h.brk1 (st := st) hd hq.1 hq.2
    exact RelL.brks hd (ps := ps) h1 fun q' hq' => hp q' (List.mem_cons_of_mem _ hq')
theorem setR_ok {to : Int} (ht : okC to = true) : ∀ (n : Nat) {s : List Int} (k : Nat), (∀ x ∈ s, okC x = true) → ∀ x ∈ setR s k to n, okC x = true
  | 0, _, _, h => h
  | n + 1, s, k, h => by
    rw [setR]
    refine setR_ok ht n (k + 1) fun x hx => ?_
    rcases List.mem_or_eq_of_mem_set hx with h1 | rfl
    · exact h x h1
    · exact ht
theorem bset_okC {to : Int} (ht : okC to = true) {os s : List Int} {k : Nat} (h : ∀ x ∈ s, okC x = true) : ∀ x ∈ bset os s k to, okC x = true := by
  unfold bset
  refine setR_ok ht _ _ fun x hx => ?_
  rcases List.mem_or_eq_of_mem_set hx with h1 | rfl
  · exact h x h1
  · exact ht
theorem lastD_val {st : Int} (hs : st = 0 ∨ st = 1) (s : List Int) : lastD st s = 0 ∨ lastD st s = 1 := by
  unfold lastD
  split
  · rename_i x h
    have := List.find?_some h
    simp at this
    have := dirS_val x
    omega
  · exact hs
theorem brk1_okC {st : Int} (hd : d = 0 ∨ d = 1) (hs : st = 0 ∨ st = 1) {os s : List Int} {q : Nat × Nat} (h : ∀ x ∈ s, okC x = true) : ∀ x ∈ brk1 d st os s q, okC x = true := by
  have h01 : ∀ x : Int, x = 0 ∨ x = 1 → okC x = true := by rintro x (rfl | rfl) <;> rfl
  unfold brk1
  split
  · exact bset_okC (h01 _ hd) (bset_okC (h01 _ hd) h)
  · split
    · exact bset_okC (h01 _ (lastD_val hs _)) (bset_okC (h01 _ (lastD_val hs _)) h)
    · exact h
theorem brks_okC {st : Int} (hd : d = 0 ∨ d = 1) (hs : st = 0 ∨ st = 1) {os : List Int} : ∀ {ps : List (Nat × Nat)} {s : List Int}, (∀ x ∈ s, okC x = true) → ∀ x ∈ brks d st os ps s, okC x = true
  | [], _, h => h
  | _q :: ps, _s, h => brks_okC hd hs (ps := ps) (brk1_okC hd hs h)
theorem okC_neut {x : Int} (h : okC x = true) : neutB x = decide (dirS x < 0) := by
  have hx : x = 0 ∨ x = 1 ∨ x = 3 ∨ x = 6 ∨ x = 10 ∨ x = 11 ∨ x = 12 ∨ x = 13 ∨ x = 22 ∨ x = 19 ∨ x = 20 ∨ x = 21 := by
    unfold okC ini at h
    simp at h
    omega
  rcases hx with rfl | rfl | rfl | rfl | rfl | rfl | rfl | rfl | rfl | rfl | rfl | rfl <;> rfl
theorem neuF_d (d e : Int) : ∀ (r : List Int) (n : Nat), neuF d e d (n + 1) r = d :: neuF d e d n r
  | [], n => by simp [neuF, List.replicate_succ]
  | x :: r, n => by
    simp only [neuF]
    split
    · exact neuF_d d e r (n + 1)
    · simp [List.replicate_succ]
theorem neu_rel (hd : d = 0 ∨ d = 1) {e : Int} : ∀ {os p r : List Int} {f : Bool} {b : Int} {n : Nat}, RelL d f os p r → (∀ x ∈ p, okC x = true) → (f = true → b = d ∧ n = 0) → neuS d e b n p = neuF d e b n r
  | [], [], [], _, _, _, _, _, _ => rfl
  | o :: os, x :: p, y :: r, f, b, n, h, hk, hf => by
    have hx := okC_neut (hk x (List.mem_cons_self ..))
    have hk' : ∀ x ∈ p, okC x = true := fun z hz => hk z (List.mem_cons_of_mem _ hz)
    rcases h with ⟨rfl, h⟩ | ⟨ht, -, rfl, rfl, h⟩
    · simp only [neuS, neuF, hx, decide_eq_true_eq]
      split
      · rename_i hn
        refine neu_rel hd h hk' fun e => ?_
        simp at e
        obtain ⟨-, rfl⟩ := e
        rw [dirS_d hd] at hn
        omega
      · rename_i hn
        rw [neu_rel hd h hk' fun e => ?_]
        simp at e
        obtain ⟨-, rfl⟩ := e
        exact ⟨dirS_d hd, rfl⟩
    · obtain ⟨hb, rfl⟩ := hf ht
      have hb' := hb.symm
      subst hb'
      have hdx := dirS_d hd
      have hnx : ¬ dirS d < 0 := by rw [hdx]; omega
      have e13 : dirS 13 < 0 := by simp [dirS]
      simp only [neuS, neuF, hx, decide_eq_true_eq, if_neg hnx, if_pos e13, List.replicate_zero, List.nil_append]
      rw [hdx, neuF_d, neu_rel hd h hk' fun _ => ⟨rfl, rfl⟩]
  | [], [], _ :: _, _, _, _, h, _, _ => h.elim
  | [], _ :: _, _, _, _, _, h, _, _ => h.elim
  | _ :: _, [], _, _, _, _, h, _, _ => h.elim
  | _ :: _, _ :: _, [], _, _, _, h, _, _ => h.elim
/-- The neutral rules leave L, R, EN, AN. -/
def fin4 (x : Int) : Prop := x = 0 ∨ x = 1 ∨ x = 3 ∨ x = 6
theorem neu_fin {e : Int} (hd : d = 0 ∨ d = 1) : ∀ {p : List Int} {b : Int} {n : Nat}, (∀ x ∈ p, okC x = true) → (b = 0 ∨ b = 1) → ∀ x ∈ neuS d e b n p, fin4 x
  | [], b, n, _, hb, x, hx => by
    simp only [neuS] at hx
    have := List.eq_of_mem_replicate hx
    unfold fin4
    split at this <;> omega
  | y :: p, b, n, hk, hb, x, hx => by
    have hy := hk y (List.mem_cons_self ..)
    have hyn := okC_neut hy
    have hk' : ∀ x ∈ p, okC x = true := fun z hz => hk z (List.mem_cons_of_mem _ hz)
    simp only [neuS] at hx
    split at hx
    · exact neu_fin hd hk' hb x hx
    · rename_i hn
      rw [hyn] at hn
      simp at hn
      have hdv := dirS_val y
      rcases List.mem_append.1 hx with h1 | h1
      · have := List.eq_of_mem_replicate h1
        unfold fin4
        split at this <;> omega
      · rcases List.mem_cons.1 h1 with rfl | h1
        · unfold okC ini at hy
          unfold fin4
          unfold dirS at hn
          simp at hy
          split at hn
          · omega
          · split at hn <;> omega
        · exact neu_fin hd hk' (by omega) x h1
end Go.Ab.Bi
/- One sequence: the rules of the program and of the reference end in one list. -/
namespace Go.Ab.Bi
open Go.Proofs
/-- Classes that come to the weak rules, but for NSM. -/
def vC (x : Int) : Bool := decide (0 ≤ x) && decide (x ≤ 22) && !(x == 8) && !gone x
theorem vC_iff {x : Int} : vC x = true ↔ (0 ≤ x ∧ x ≤ 7) ∨ (10 ≤ x ∧ x ≤ 13) ∨ (19 ≤ x ∧ x ≤ 22) := by
  unfold vC gone
  simp
  omega
theorem nx_v {x : Int} (h : vC x = true) : vC (nx x) = true := by
  unfold nx
  split
  · rfl
  · exact h
theorem w1_v : ∀ {s : List Int} {p : Int}, (∀ x ∈ s, vC x = true ∨ x = 8) → vC p = true → ∀ x ∈ w1 p s, vC x = true
  | [], _, _, _, x, hx => by simp [w1] at hx
  | y :: s, p, h, hp, x, hx => by
    have hy := h y (List.mem_cons_self ..)
    have h' : ∀ x ∈ s, vC x = true ∨ x = 8 := fun z hz => h z (List.mem_cons_of_mem _ hz)
    have hz : vC (if y = 8 then p else y) = true := by
      split
      · exact hp
      · rename_i hn
        rcases hy with hy | hy
        · exact hy
        · exact absurd hy hn
    simp only [w1] at hx
    rcases List.mem_cons.1 hx with rfl | hx
    · exact hz
    · exact w1_v h' (nx_v hz) x hx
theorem w2_v : ∀ {s : List Int} {l : Int}, (∀ x ∈ s, vC x = true) → ∀ x ∈ w2 l s, vC x = true
  | [], _, _, x, hx => by simp [w2] at hx
  | y :: s, l, h, x, hx => by
    have hy := h y (List.mem_cons_self ..)
    have h' : ∀ x ∈ s, vC x = true := fun z hz => h z (List.mem_cons_of_mem _ hz)
    simp only [w2] at hx
    split at hx
    · rcases List.mem_cons.1 hx with rfl | hx
      · exact hy
      · exact w2_v h' x hx
    · split at hx
      · rcases List.mem_cons.1 hx with rfl | hx
        · rfl
        · exact w2_v h' x hx
      · rcases List.mem_cons.1 hx with rfl | hx
        · exact hy
        · exact w2_v h' x hx
def vD (x : Int) : Bool := vC x && !(x == 2)
theorem vD_iff {x : Int} : vD x = true ↔ ((0 ≤ x ∧ x ≤ 7) ∨ (10 ≤ x ∧ x ≤ 13) ∨ (19 ≤ x ∧ x ≤ 22)) ∧ x ≠ 2 := by
  unfold vD
  rw [Bool.and_eq_true, vC_iff]
  simp
theorem w3_v {s : List Int} (h : ∀ x ∈ s, vC x = true) : ∀ x ∈ w3 s, vD x = true := by
  intro x hx
  obtain ⟨y, hy, rfl⟩ := List.mem_map.1 hx
  have := h y hy
  split
  · rfl
  · rename_i hn
    unfold vD
    simp [this, hn]
theorem w4_v : ∀ {s : List Int} {p : Int}, (∀ x ∈ s, vD x = true) → ∀ x ∈ w4 p s, vD x = true
  | [], _, _, x, hx => by simp [w4] at hx
  | y :: s, p, h, x, hx => by
    have hy := h y (List.mem_cons_self ..)
    have h' : ∀ x ∈ s, vD x = true := fun z hz => h z (List.mem_cons_of_mem _ hz)
    simp only [w4] at hx
    rcases List.mem_cons.1 hx with rfl | hx
    · unfold w4c
      split
      · rw [vD_iff]; omega
      · exact hy
    · exact w4_v h' x hx
theorem w5_v : ∀ {s : List Int} {p : Int} {n : Nat}, (∀ x ∈ s, vD x = true) → ∀ x ∈ w5 p n s, vD x = true
  | [], p, n, _, x, hx => by
    simp only [w5] at hx
    have := List.eq_of_mem_replicate hx
    rw [vD_iff]
    split at this <;> omega
  | y :: s, p, n, h, x, hx => by
    have hy := h y (List.mem_cons_self ..)
    have h' : ∀ x ∈ s, vD x = true := fun z hz => h z (List.mem_cons_of_mem _ hz)
    simp only [w5] at hx
    split at hx
    · exact w5_v h' x hx
    · rcases List.mem_append.1 hx with h1 | h1
      · have := List.eq_of_mem_replicate h1
        rw [vD_iff]
        split at this <;> omega
      · rcases List.mem_cons.1 h1 with rfl | h1
        · exact hy
        · exact w5_v h' x h1
theorem w6_v : ∀ {s : List Int} {l : Int}, (∀ x ∈ s, vD x = true) → ∀ x ∈ w6 l s, okC x = true
  | [], _, _, x, hx => by simp [w6] at hx
  | y :: s, l, h, x, hx => by
    have hy := h y (List.mem_cons_self ..)
    have h' : ∀ x ∈ s, vD x = true := fun z hz => h z (List.mem_cons_of_mem _ hz)
    rw [vD_iff] at hy
    simp only [w6] at hx
    split at hx
    · rcases List.mem_cons.1 hx with rfl | hx
      · rfl
      · exact w6_v h' x hx
    · rename_i c1
      have hk : okC y = true := by
        unfold okC ini
        simp
        omega
      split at hx
      · rcases List.mem_cons.1 hx with rfl | hx
        · exact hk
        · exact w6_v h' x hx
      · split at hx
        · rcases List.mem_cons.1 hx with rfl | hx
          · rfl
          · exact w6_v h' x hx
        · rcases List.mem_cons.1 hx with rfl | hx
          · exact hk
          · exact w6_v h' x hx
theorem weak_okC {s : List Int} {st : Int} (hs : st = 0 ∨ st = 1) (h : ∀ x ∈ s, vC x = true ∨ x = 8) : ∀ x ∈ weakS st s, okC x = true :=
  w6_v (w5_v (w4_v (w3_v (w2_v (w1_v h (by rcases hs with rfl | rfl <;> rfl))))))
theorem brTab_cls : brTab.all (fun p => bidi p.1 == 13 && bidi p.2 == 13) = true := by kernel_rfl
theorem br_cls {r : Int} (h : (brS r).1 ≠ 0) : bidi r = 13 := by
  have ht := List.all_eq_true.1 brTab_cls
  rcases brS_cases r with h1 | ⟨p, hp, rfl, h1⟩ | ⟨p, hp, rfl, h1⟩
  · rw [h1] at h; exact absurd rfl h
  · have := ht p hp
    simp at this
    exact this.1
  · have := ht p hp
    simp at this
    exact this.2
theorem pgo_rel {d : Int} (hd : d = 0 ∨ d = 1) : ∀ {ts p r : List Int} {f : Bool} (k : Nat) (S : PS), RelL d f (ts.map bidi) p r → pgo k (p.zip ts) S = pgo k (r.zip ts) S
  | [], [], [], _, _, _, _ => rfl
  | t :: ts, x :: p, y :: r, f, k, S, h => by
    have h' : ∃ g, RelL d g (ts.map bidi) p r := by
      rcases h with ⟨-, h⟩ | ⟨-, -, -, -, h⟩ <;> exact ⟨_, h⟩
    obtain ⟨g, hg⟩ := h'
    have IH := fun S => pgo_rel hd (k + 1) S hg
    rcases h with ⟨rfl, h⟩ | ⟨hf, h8, rfl, rfl, h⟩
    · simp only [List.zip_cons_cons, pgo, IH]
    · have hb : (brS t).1 = 0 := by
        by_cases hb : (brS t).1 = 0
        · exact hb
        · have := br_cls hb
          rw [this] at h8
          omega
      have hx : d ≠ 13 := by omega
      simp only [List.zip_cons_cons, pgo, hb, if_pos hx, IH]
      simp
  | [], [], _ :: _, _, _, _, h => h.elim
  | [], _ :: _, _, _, _, _, h => h.elim
  | _ :: _, [], _, _, _, _, h => h.elim
  | _ :: _, _ :: _, [], _, _, _, h => h.elim
def brK (L : List (Int × Int)) (i : Nat) : Prop := ∃ z, L[i]? = some z ∧ (brS z.2).1 ≠ 0
theorem pfind_sub {r : Int} : ∀ {st : OStk} {a : Nat} {t : OStk}, pfind r st = some (a, t) → (∃ c, (c, a) ∈ st) ∧ (∀ x ∈ t, x ∈ st) := fun h => ⟨(pfind_mem h).1, (pfind_mem h).2.1⟩
theorem pgo_br (L : List (Int × Int)) : ∀ (l : List (Int × Int)) (k : Nat) (p : PS) (out : List (Nat × Nat)), L.drop k = l → (∀ a ∈ p.st, brK L a.2) → (∀ x ∈ p.out, brK L x.1 ∧ brK L x.2) → pgo k l p = some out → ∀ x ∈ out, brK L x.1 ∧ brK L x.2
  | [], k, p, out, _, _, ho, h => by
    simp only [pgo, Option.some.injEq] at h
    rw [← h]
    exact ho
  | (x, r) :: l, k, p, out, hl, hs, ho, h => by
    have hk : L[k]? = some (x, r) := by
      have := List.getElem?_drop (xs := L) (i := k) (j := 0)
      rw [hl] at this
      simpa using this.symm
    have hl' : L.drop (k + 1) = l := by
      have := List.drop_drop (i := 1) (j := k) (l := L)
      rw [hl] at this
      rw [← this]
      rfl
    rw [pgo] at h
    split at h
    · exact pgo_br L l (k + 1) p out hl' hs ho h
    · split at h
      · rename_i h1
        split at h
        · cases h
        · refine pgo_br L l (k + 1) ⟨((brS r).2, k) :: p.st, p.out⟩ out hl' (fun a ha => ?_) ho h
          rcases List.mem_cons.1 ha with rfl | ha
          · exact ⟨_, hk, by rw [h1]; omega⟩
          · exact hs a ha
      · split at h
        · rename_i h2
          split at h
          · rename_i a t hf
            obtain ⟨⟨c, hc⟩, ht⟩ := pfind_sub hf
            refine pgo_br L l (k + 1) ⟨t, p.out ++ [(a, k)]⟩ out hl' (fun a ha => hs a (ht a ha)) (fun y hy => ?_) h
            rcases List.mem_append.1 hy with hy | hy
            · exact ho y hy
            · simp at hy
              subst hy
              exact ⟨hs _ hc, _, hk, by rw [h2]; omega⟩
          · exact pgo_br L l (k + 1) p out hl' hs ho h
        · exact pgo_br L l (k + 1) p out hl' hs ho h
theorem prsS_br {s ts : List Int} (hts : ts.length ≤ 2000) : ∀ q ∈ prsS (s.zip ts), brkO (ts.map bidi) q.1 ∧ brkO (ts.map bidi) q.2 := by
  intro q hq
  unfold prsS at hq
  cases hg : pgo 0 (s.zip ts) ⟨[], []⟩ with
  | none => rw [hg] at hq; simp at hq
  | some out =>
    rw [hg] at hq
    simp only at hq
    obtain ⟨p', h1, rfl⟩ := pgo_pok (s.zip ts) 0 _ out POK.zero hg
    have hzl : (s.zip ts).length ≤ 2000 := by simp; omega
    have hsm : Sm p'.out := fun x hx => by have := h1.ord x hx; omega
    have hm := (srtS_perm hsm).mem_iff.1 hq
    have hb := pgo_br (s.zip ts) (s.zip ts) 0 ⟨[], []⟩ p'.out rfl (by simp) (by simp) hg q hm
    have conv : ∀ i, brK (s.zip ts) i → brkO (ts.map bidi) i := by
      rintro i ⟨⟨a, b⟩, h2, h3⟩
      have := br_cls h3
      refine ⟨13, ?_, by omega, rfl⟩
      rw [List.getElem?_map]
      have h4 : ts[i]? = some b := by
        rw [List.getElem?_zip_eq_some] at h2
        exact h2.2
      rw [h4]
      simp at this
      simp [this]
    exact ⟨conv _ hb.1, conv _ hb.2⟩
/-- What a sequence's classes become, by the program and by the reference. -/
theorem seq_rel {d st e : Int} (hd : d = 0 ∨ d = 1) (hs : st = 0 ∨ st = 1) {s ts : List Int} (hts : ts.length ≤ 2000) (hov : OV d (ts.map bidi) s) (hv : ∀ x ∈ s, vC x = true ∨ x = 8) :
    neuS d e st 0 (brks d st (ts.map bidi) (prsS ((weakS st s).zip ts)) (weakS st s)) = neuF d e st 0 (brks d st (ts.map bidi) (prsS ((rweak st (ts.map bidi) s).zip ts)) (rweak st (ts.map bidi) s)) ∧
    ∀ x ∈ neuS d e st 0 (brks d st (ts.map bidi) (prsS ((weakS st s).zip ts)) (weakS st s)), fin4 x := by
  have h1 := weak_rel hd hs hov
  have h2 := weak_okC hs hv
  have hp : prsS ((weakS st s).zip ts) = prsS ((rweak st (ts.map bidi) s).zip ts) := by
    unfold prsS
    rw [pgo_rel hd 0 _ h1]
  have h3 := h1.brks (st := st) hd (ps := prsS ((weakS st s).zip ts)) (prsS_br hts)
  have h4 := brks_okC (st := st) hd hs (os := ts.map bidi) (ps := prsS ((weakS st s).zip ts)) h2
  rw [← hp]
  exact ⟨neu_rel hd h3 h4 (by simp), neu_fin hd h4 hs⟩
end Go.Ab.Bi
/- The reference: trail. -/
namespace Go.Ab
open Go.Proofs
namespace Bi
/-- Blanks ahead of a place get the base level. -/
def rtrl (o : List Int) (e : Int) : Nat → List Int → List Int
  | 0, lv => lv
  | k + 1, lv => if blankB (o.getD k 0) = true then rtrl o e k (lv.set k e) else lv
theorem rtrl_len (o : List Int) (e : Int) : ∀ (k : Nat) (lv : List Int), (rtrl o e k lv).length = lv.length
  | 0, _ => rfl
  | k + 1, lv => by
    unfold rtrl
    split
    · rw [rtrl_len o e k]; simp
    · rfl
section
variable {prim : FuncId → Option Prim} (d : Nat) (cfg : Cfg)
set_option maxHeartbeats 1000000 in
theorem rtrail_ok (hp : prim 46 = none) (h71 : prim 71 = none) (h47 : prim 47 = none) (h70 : prim 70 = none) (h63 : prim 63 = none) (t lv : List Int) (n : Nat) (htn : t.length = n) (hlv : lv.length = n) (hn2 : n ≤ 2000) (e : Int) (k : Nat) (hk : k ≤ n) (H : Heap) (b : Nat)
    (hb : blockOf H b = some (lv.map (V.int .i64))) (hw : cfg.wr b = true) :
    callM md (K prim (d + 3)) cfg 46 [rl t, .sl b 0 n n 1, .int .i64 e, .int .i64 k] H = some (.tup [], H.set b (some ((rtrl (t.map bidi) e k lv).map (V.int .i64)))) := by
  suffices HH : ∃ r h2, callM md (K prim (d + 3)) cfg 46 [rl t, .sl b 0 n n 1, .int .i64 e, .int .i64 k] H = some (r, h2) ∧ r = .tup [] ∧ h2 = H.set b (some ((rtrl (t.map bidi) e k lv).map (V.int .i64))) by
    obtain ⟨r, h2, h3, rfl, rfl⟩ := HH
    exact h3
  refine call1x rfl hp Try.func46 rfl rfl rfl ?_
  have hw' : (Cfg.wr ⟨cfg.lo, cfg.ex, H.length⟩ b) = true := hw
  have hbl := blockOf_lt hb
  have hB := fun cfg h r => rbidi_ok (prim := prim) d cfg h h71 h47 r
  have hBk := fun cfg h x => rblank_ok (prim := prim) d cfg h h70 h63 x
  have hgt : ∀ (j : Nat) (z : Int), t[j]? = some z → (t.map bidi)[j]? = some (bidi z) := fun j z hz => by rw [List.getElem?_map, hz]; rfl
  generalize t.map bidi = o at *
  simp (disch := omega) [wrap64]
  refine wC_loop (fun m fr H' => ∃ (q : Nat) (lv' : List Int), q ≤ n ∧ m = q ∧ lv'.length = n ∧ rtrl o e k lv = rtrl o e q lv' ∧ H' = H.set b (some (lv'.map (V.int .i64))) ∧
    Slots 27 [(0, rl t), (1, .sl b 0 n n 1), (2, .int .i64 e), (8, .int .i64 ((q : Int) - 1))] fr) (m := k) (by omega) ⟨k, lv, hk, rfl, hlv, rfl, (set_same hb).symm, by simp⟩ ?_
  rintro m fr H' ⟨q, lv', hq, hm, hl', hF, rfl, hs⟩
  replace hm := hm.symm
  subst hm
  obtain ⟨j, rfl⟩ := hs.ex
  clear hs
  rw [hF]
  rcases q with _ | q
  · simp (disch := omega) [rtrl]
    exact List.take_of_length_le (by simp)
  · have hk1 : ((q + 1 : Nat) : Int) - 1 = q := by omega
    rw [hk1]
    obtain ⟨z, hz⟩ : ∃ z, t[q]? = some z := ⟨_, List.getElem?_eq_getElem (by omega)⟩
    have eo : o.getD q 0 = bidi z := by rw [List.getD_eq_getElem?_getD, hgt q z hz]; rfl
    rw [rtrl, eo]
    have hq1 : q + 1 ≤ n := hq
    cases hbk : blankB (bidi z)
    · rw [if_neg (by simp)]
      simp (disch := omega) [hz, hB, hBk, hbk, -getElem?_pos]
      exact List.take_of_length_le (by simp)
    · rw [if_pos rfl]
      simp (disch := omega) [hz, hB, hBk, hbk, hw', hl', hq1, wrap64, -getElem?_pos]
      exact Rnd_of (m' := q) (by omega) ⟨q, lv'.set q e, by omega, rfl, by simpa using hl', rfl, by simp [List.map_set], by simp (disch := omega)⟩
end
end Bi
end Go.Ab
