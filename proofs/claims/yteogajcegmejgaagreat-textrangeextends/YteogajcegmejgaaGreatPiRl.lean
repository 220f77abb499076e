/- The reference: the neutral rules. -/
import Derived.Test.YteogajcegmejgaaGreatPiRk
namespace Go.Ab
open Go.Proofs
namespace Bi
def neuF (d e : Int) : Int → Nat → List Int → List Int
  | b, n, [] => List.replicate n (if b = e then b else d)
  | b, n, x :: r => if dirS x < 0 then neuF d e b (n + 1) r else List.replicate n (if b = dirS x then b else d) ++ x :: neuF d e (dirS x) 0 r
theorem neuF_run (d e b : Int) : ∀ (run : List Int) (k : Nat) (r : List Int), (∀ x ∈ run, dirS x < 0) → neuF d e b k (run ++ r) = neuF d e b (k + run.length) r
  | [], k, r, _ => rfl
  | x :: run, k, r, h => by
    rw [List.cons_append, neuF, if_pos (h x (List.mem_cons_self ..)), neuF_run d e b run (k + 1) r fun y hy => h y (List.mem_cons_of_mem _ hy)]
    simp only [List.length_cons]
    rw [show k + 1 + run.length = k + (run.length + 1) by omega]
theorem neuF_end (d e b b' : Int) (n : Nat) (r : List Int) (h : ∀ x r', r = x :: r' → ¬ dirS x < 0) : neuF d e b n r = List.replicate n (if b = aft e r then b else d) ++ neuF d e b' 0 r := by
  rcases r with _ | ⟨x, r⟩
  · simp [neuF, aft]
    exact .inr rfl
  · have hx := h x r rfl
    simp [neuF, hx, aft]
    exact .inr rfl
def bef (st : Int) (dn : List Int) : Int := match dn.getLast? with
  | none => st
  | some x => dirS x
theorem bef_snoc (st : Int) (dn : List Int) (x : Int) : bef st (dn ++ [x]) = dirS x := by simp [bef]
section
variable {prim : FuncId → Option Prim} (d : Nat) (cfg : Cfg)
set_option maxHeartbeats 2000000 in
set_option maxRecDepth 100000 in
theorem rneutral_ok (hp : prim 107 = none) (h68 : prim 136 = none) (h66 : prim 134 = none) (c c0 l s : List Int) (n : Nat) (hcn : c.length = n) (h0n : c0.length = n) (hn2 : n ≤ 2000) (hl : Pl n l) (hll : l.length ≤ 2000) (hW : WB c0 l s c) (lv st e : Int) (hlv : 0 ≤ lv) (H : Heap) (b : Nat)
    (hb : blockOf H b = some (c.map (V.int .i64))) (hw : cfg.wr b = true) :
    ∃ c', WB c0 l (neuF (strS lv) e st 0 s) c' ∧ callM md (K prim (d + 3)) cfg 107 [.sl b 0 n n 1, il l, .int .i64 lv, .int .i64 st, .int .i64 e] H = some (.tup [], H.set b (some (c'.map (V.int .i64)))) := by
  suffices HH : ∃ r h2, callM md (K prim (d + 3)) cfg 107 [.sl b 0 n n 1, il l, .int .i64 lv, .int .i64 st, .int .i64 e] H = some (r, h2) ∧ ∃ c', r = .tup [] ∧ h2 = H.set b (some (c'.map (V.int .i64))) ∧ WB c0 l (neuF (strS lv) e st 0 s) c' by
    obtain ⟨r, h2, h3, c', rfl, rfl, h4⟩ := HH
    exact ⟨c', h4, h3⟩
  refine call1x rfl hp Tryz.func107 rfl rfl rfl ?_
  have hw' : (Cfg.wr ⟨cfg.lo, cfg.ex, H.length⟩ b) = true := hw
  have hbl := blockOf_lt hb
  have hF1 := fun cfg h x => rfirm_ok (prim := prim) (d + 1) cfg h h68 x
  have hS1 := fun cfg h => rside_ok (prim := prim) (d + 1) cfg h h66 lv hlv
  have hsl := hW.sl
  generalize hD : strS lv = D at *
  simp (disch := omega)
  refine wC_loop (fun m fr H' => ∃ (dn td c' : List Int), m = td.length ∧ dn.length + td.length = l.length ∧ neuF D e st 0 s = dn ++ neuF D e (bef st dn) 0 td ∧ WB c0 l (dn ++ td) c' ∧ H' = H.set b (some (c'.map (V.int .i64))) ∧
    Slots 94 [(0, .sl b 0 n n 1), (1, il l), (2, .int .i64 lv), (3, .int .i64 st), (4, .int .i64 e), (10, .int .i64 dn.length)] fr) (m := s.length) (by omega) ⟨[], s, c, rfl, by simpa using hsl, rfl, hW, (set_same hb).symm, by simp⟩ ?_
  rintro m fr H' ⟨dn, td, c', rfl, hlen, hF, hW2, rfl, hs⟩
  obtain ⟨j1, rfl⟩ := hs.ex
  clear hs
  have hc'l : c'.length = n := hW2.len.trans h0n
  rcases td with _ | ⟨x, td⟩
  · have hlI : ¬ dn.length < l.length := by simp at hlen; omega
    simp (disch := omega) [hlI]
    refine ⟨c', List.take_of_length_le (by simp), ?_⟩
    rw [hF]
    simpa [neuF] using hW2
  · have hlt : dn.length < l.length := by simp at hlen; omega
    obtain ⟨i, hi, hin⟩ := hl.at_ hlt
    have hc := hW2.at_ _ i hi
    rw [Int.toNat_natCast, List.getElem?_append_right (Nat.le_refl _), Nat.sub_self, List.getElem?_cons_zero] at hc
    by_cases hx : 0 ≤ dirS x
    · simp (disch := omega) [hlt, hi, hc, hF1, hx, wrap64, -getElem?_pos]
      refine Rnd_of (m' := td.length) (by simp) ⟨dn ++ [x], td, c', rfl, by simp at hlen ⊢; omega, ?_, by simpa using hW2, rfl, by simp (disch := omega)⟩
      rw [hF, neuF, if_neg (by omega), bef_snoc]
      simp
    · simp (disch := omega) [hlt, hi, hc, hF1, hx, -getElem?_pos]
      simp only [List.length_cons] at hlen
      refine wC_loop (fun m fr H' => ∃ (run rest : List Int), x :: td = run ++ rest ∧ (∀ y ∈ run, dirS y < 0) ∧ m = rest.length ∧ H' = H.set b (some (c'.map (V.int .i64))) ∧
        Slots 94 [(0, .sl b 0 n n 1), (1, il l), (2, .int .i64 lv), (3, .int .i64 st), (4, .int .i64 e), (10, .int .i64 dn.length), (11, .int .i64 (dn.length + run.length : Nat))] fr) (m := td.length + 1) (by omega) ⟨[], x :: td, rfl, by simp, rfl, rfl, by simp⟩ ?_
      rintro m fr H' ⟨run, rest, htd, hrun, rfl, rfl, hs⟩
      obtain ⟨j2, rfl⟩ := hs.ex
      clear hs
      have hkl : run.length + rest.length = td.length + 1 := by have := congrArg List.length htd; simp at this; omega
      have hat : ∀ y r', rest = y :: r' → ∃ i2 : Nat, l[dn.length + run.length]? = some (i2 : Int) ∧ i2 < n ∧ c'[i2]? = some y := by
        rintro y r' rfl
        simp only [List.length_cons] at hkl
        obtain ⟨i2, hi2, hin2⟩ := hl.at_ (k := dn.length + run.length) (by omega)
        have hcc := hW2.at_ _ i2 hi2
        rw [htd, List.getElem?_append_right (by omega), Nat.add_sub_cancel_left, List.getElem?_append_right (Nat.le_refl _), Int.toNat_natCast] at hcc
        simp at hcc
        exact ⟨i2, hi2, hin2, hcc⟩
      have hcont : (∃ y r', rest = y :: r' ∧ dirS y < 0) ∨ ((∀ y r', rest = y :: r' → ¬ dirS y < 0) ∧ 0 < run.length) := by
        rcases rest with _ | ⟨y, r'⟩
        · exact .inr ⟨fun y r' h => by simp at h, by simp at hkl; omega⟩
        · by_cases hy : dirS y < 0
          · exact .inl ⟨y, r', rfl, hy⟩
          · refine .inr ⟨fun y' r'' h => by cases h; exact hy, ?_⟩
            rcases run with _ | ⟨z, run⟩
            · simp at htd; rw [htd.1] at hx; omega
            · simp
      rcases hcont with ⟨y, r', hr, hy⟩ | ⟨hstop, hr0⟩
      · obtain ⟨i2, hi2, hin2, hcc⟩ := hat y r' hr
        subst hr
        simp only [List.length_cons] at hkl
        have hlt2 : (dn.length : Int) + run.length < l.length := by omega
        have hc2 : ((dn.length : Int) + run.length).toNat = dn.length + run.length := by omega
        simp (disch := omega) [hlt2, hc2, hi2, hcc, hF1, hy, wrap64, -getElem?_pos]
        refine Rnd_of (m' := r'.length) (by simp) ⟨run ++ [y], r', by rw [htd]; simp, ?_, rfl, rfl, by simp (disch := omega); try omega⟩
        intro z hz
        rcases List.mem_append.1 hz with hz | hz
        · exact hrun z hz
        · simp at hz; subst hz; exact hy
      · obtain ⟨B, hB⟩ : ∃ B, B = bef st dn := ⟨_, rfl⟩
        obtain ⟨A, hA⟩ : ∃ A, A = aft e rest := ⟨_, rfl⟩
        obtain ⟨to, hto⟩ : ∃ to, to = if B = A then B else D := ⟨_, rfl⟩
        have hF2 : neuF D e (bef st dn) 0 (x :: td) = List.replicate run.length to ++ neuF D e to 0 rest := by
          rw [htd, neuF_run D e _ run 0 rest hrun, Nat.zero_add, neuF_end D e _ to _ rest hstop, hto, hB, hA]
        rw [hF2] at hF
        clear hF2
        obtain ⟨i0, y0, hin0, hI0, hC0, hY0⟩ : ∃ (i0 : Nat) (y0 : Int), i0 < n ∧ (0 < dn.length → l[dn.length - 1]? = some (i0 : Int)) ∧ (0 < dn.length → c'[i0]? = some y0) ∧ (0 < dn.length → dirS y0 = B) := by
          rcases List.eq_nil_or_concat dn with rfl | ⟨dn0, y0, rfl⟩
          · exact ⟨0, 0, by omega, by simp, by simp, by simp⟩
          · obtain ⟨i0, hi0, hin0⟩ := hl.at_ (k := dn0.length) (by simp at hlt; omega)
            have hcc := hW2.at_ _ i0 hi0
            simp at hcc
            refine ⟨i0, y0, hin0, fun _ => ?_, fun _ => hcc, fun _ => ?_⟩
            · rw [← hi0]; congr 1; simp
            · rw [hB]; simp [bef]
        have hB0 : ¬ 0 < dn.length → B = st := by
          intro h
          obtain rfl : dn = [] := List.eq_nil_of_length_eq_zero (by omega)
          rw [hB]; rfl
        obtain ⟨i2, y2, hin2, hI2, hC2, hY2⟩ : ∃ (i2 : Nat) (y2 : Int), i2 < n ∧ (dn.length + run.length < l.length → l[dn.length + run.length]? = some (i2 : Int)) ∧ (dn.length + run.length < l.length → c'[i2]? = some y2) ∧ (dn.length + run.length < l.length → dirS y2 = A) := by
          rcases hr : rest with _ | ⟨y, r'⟩
          · rw [hr] at hkl; simp at hkl; exact ⟨0, 0, by omega, by omega, by omega, by omega⟩
          · obtain ⟨i2, hi2, hin2, hcc⟩ := hat y r' hr
            exact ⟨i2, y, hin2, fun _ => hi2, fun _ => hcc, fun _ => by rw [hA, hr]; rfl⟩
        have hA0 : ¬ dn.length + run.length < l.length → A = e := by
          intro h
          rcases hr : rest with _ | ⟨y, r'⟩
          · rw [hA, hr]; rfl
          · rw [hr] at hkl; simp at hkl; omega
        have hA2 : dn.length + run.length < l.length → ¬ A < 0 := by
          intro h
          rcases hr : rest with _ | ⟨y, r'⟩
          · rw [hr] at hkl; simp at hkl; omega
          · have h1 := hstop y r' hr
            rw [hA, hr]
            simpa [aft] using h1
        clear hB hA
        by_cases hr : dn.length + run.length < l.length <;> by_cases hd0 : 0 < dn.length <;> by_cases hBA : B = A
        all_goals
          first | (have hAA := hA2 hr; clear hAA) | (have hAA := (hA0 hr).symm; subst hAA)
          first | (have hBB := hY0 hd0) | (have hBB := (hB0 hd0).symm; subst hBB)
          have hc2 : ((dn.length : Int) + run.length).toNat = dn.length + run.length := by omega
          have hc0 : ((dn.length : Int) - 1).toNat = dn.length - 1 := by omega
          have hrI : ((dn.length : Int) + run.length < l.length) = (dn.length + run.length < l.length) := by simp only [eq_iff_iff]; omega
          simp (disch := omega) [hrI, hr, hd0, hc2, hc0, hI2, hC2, hY2, hA2, hI0, hC0, hY0, hF1, hS1, hBA, wrap64, -getElem?_pos]
        all_goals
          refine wC_loop (fun m fr H' => ∃ (q : Nat) (c'' : List Int), q ≤ run.length ∧ m = run.length - q ∧ WB c0 l (dn ++ (List.replicate q to ++ run.drop q) ++ rest) c'' ∧ H' = H.set b (some (c''.map (V.int .i64))) ∧
            Slots 94 [(0, .sl b 0 n n 1), (1, il l), (2, .int .i64 lv), (3, .int .i64 st), (4, .int .i64 e), (10, .int .i64 dn.length), (11, .int .i64 (dn.length + run.length : Nat)), (14, .int .i64 to), (15, .int .i64 (dn.length + q : Nat))] fr) (m := run.length) (by omega) ⟨0, c', by omega, by omega, by rw [htd] at hW2; simpa using hW2, rfl, by simp [hto, hBA]⟩ ?_
          rintro m fr H' ⟨q, c'', hq, rfl, hWq, rfl, hs⟩
          obtain ⟨j, rfl⟩ := hs.ex
          clear hs
          have hc'' : c''.length = n := hWq.len.trans h0n
          by_cases hqk : q < run.length
          · obtain ⟨z, hz⟩ : ∃ z, run[q]? = some z := ⟨_, List.getElem?_eq_getElem hqk⟩
            obtain ⟨i, hi, hin⟩ := hl.at_ (k := dn.length + q) (by omega)
            have hle : i + 1 ≤ n := by omega
            have hst := hWq.set (by rw [h0n]; exact hl) hi to
            have e1 : dn ++ (List.replicate q to ++ run.drop q) ++ rest = (dn ++ List.replicate q to) ++ z :: (run.drop (q + 1) ++ rest) := by rw [drop_at hz]; simp
            have e2 : dn.length + q = (dn ++ List.replicate q to).length := by simp
            rw [e1] at hst
            conv at hst => lhs; rw [e2]
            rw [set_app] at hst
            have hlt2 : (dn.length : Int) + q < (dn.length : Int) + run.length := by omega
            have hq2 : ((dn.length : Int) + q).toNat = dn.length + q := by omega
            simp (disch := omega) [hlt2, hq2, hi, hc'', hle, hw', wrap64, -getElem?_pos]
            refine Rnd_of (m' := run.length - (q + 1)) (by omega) ⟨q + 1, c''.set i to, by omega, rfl, ?_, by simp [List.map_set], by simp (disch := omega); try omega⟩
            rw [List.replicate_succ']
            simpa using hst
          · obtain rfl : q = run.length := by omega
            have hrs : rest.length < td.length + 1 := by omega
            simp (disch := omega)
            refine Rnd_of (m' := rest.length) (by simp; omega) ⟨dn ++ List.replicate run.length to, rest, c'', rfl, by simp; omega, ?_, by simpa using hWq, rfl, by simp⟩
            rw [hF, ← List.append_assoc]
            congr 1
            rw [neuF_end D e to (bef st (dn ++ List.replicate run.length to)) 0 rest hstop]
            rfl
end
end Bi
end Go.Ab
