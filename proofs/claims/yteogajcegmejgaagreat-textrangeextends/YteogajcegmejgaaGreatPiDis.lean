/- Several texts of this proof in one. -/
import Derived.Test.YteogajcegmejgaaGreatPaRef
import Derived.Test.YteogajcegmejgaaGreatPiLev
import Derived.Test.YteogajcegmejgaaGreatPiL
import Derived.Test.YteogajcegmejgaaGreatPiSpec2
import Derived.Test.YteogajcegmejgaaGreatPaGen
import Derived.Test.YteogajcegmejgaaGreatPiSpec7
namespace Go.Ab
open Go.Proofs
namespace Bi
section
variable {prim : FuncId → Option Prim} (d : Nat) (cfg : Cfg) (h : Heap)
theorem rini_ok (hp : prim 100 = none) (x : Int) : callM md (K prim (d + 1)) cfg 100 [.int .i64 x] h = some (.bool (ini x), h) := by
  refine call0 rfl hp Tryz.func100 rfl rfl rfl (by simp) ?_
  unfold ini
  simp
  by_cases h1 : x = 19 <;> by_cases h2 : x = 20 <;> by_cases h3 : x = 21 <;> simp_all
theorem rgone_ok (hp : prim 108 = none) (h71 : prim 132 = none) (h47 : prim 99 = none) (r : Int) : callM md (K prim (d + 3)) cfg 108 [.int .i32 r] h = some (.bool (gone (bidi r)), h) := by
  refine call0 rfl hp Tryz.func108 rfl rfl rfl (by simp) ?_
  have hB : ∀ cfg h, callM md (K prim (d + 2)) cfg 99 [.int .i32 r] h = some (.int .i64 (bidi r), h) := fun cfg h => rbidi_ok (prim := prim) d cfg h h71 h47 r
  generalize bidi r = x at hB
  unfold gone
  by_cases h16 : x = 16
  · simp [hB, h16]
  · by_cases h14 : x = 14
    · simp [hB, h14]
    · by_cases h17 : x = 17
      · simp [hB, h17]
      · by_cases h15 : x = 15
        · simp [hB, h15]
        · by_cases h18 : x = 18
          · simp [hB, h18]
          · by_cases h9 : x = 9
            · simp [hB, h9]
            · simp [hB, h16, h14, h17, h15, h18, h9]
theorem rblank_ok (hp : prim 138 = none) (h63 : prim 100 = none) (x : Int) : callM md (K prim (d + 2)) cfg 138 [.int .i64 x] h = some (.bool (blankB x), h) := by
  refine call0 rfl hp Tryz.func138 rfl rfl rfl (by simp) ?_
  have hI := fun cfg h x => rini_ok (prim := prim) d cfg h h63 x
  unfold blankB
  by_cases h12 : x = 12
  · have hc : ini 12 = false := rfl
    simp [hc, h12]
  · by_cases h22 : x = 22
    · have hc : ini 22 = false := rfl
      simp [hI, hc, h22]
    · by_cases h9 : x = 9
      · have hc : ini 9 = false := rfl
        simp [hI, hc, h9]
      · by_cases h16 : x = 16
        · have hc : ini 16 = false := rfl
          simp [hI, hc, h16]
        · by_cases h14 : x = 14
          · have hc : ini 14 = false := rfl
            simp [hI, hc, h14]
          · by_cases h17 : x = 17
            · have hc : ini 17 = false := rfl
              simp [hI, hc, h17]
            · by_cases h15 : x = 15
              · have hc : ini 15 = false := rfl
                simp [hI, hc, h15]
              · by_cases h18 : x = 18
                · have hc : ini 18 = false := rfl
                  simp [hI, hc, h18]
                · cases hi : ini x
                  · simp [hI, hi, h12, h22, h9, h16, h14, h17, h15, h18]
                  · simp [hI, hi, h12]
theorem rside_ok (hp : prim 134 = none) (lv : Int) (hl : 0 ≤ lv) : callM md (K prim (d + 1)) cfg 134 [.int .i64 lv] h = some (.int .i64 (strS lv), h) := by
  have hm : lv.tmod 2 = lv % 2 := Int.tmod_eq_emod_of_nonneg hl
  refine call0 rfl hp Tryz.func134 rfl rfl rfl (by simp) ?_
  unfold strS
  by_cases h1 : lv % 2 = 1
  · simp [hm, h1]
  · simp [hm, h1]
theorem rfirm_ok (hp : prim 136 = none) (x : Int) : callM md (K prim (d + 1)) cfg 136 [.int .i64 x] h = some (.int .i64 (dirS x), h) := by
  refine call0 rfl hp Tryz.func136 rfl rfl rfl (by simp) ?_
  unfold dirS
  by_cases h0 : x = 0
  · simp [h0]
  · by_cases h1 : x = 1
    · simp [h1]
    · by_cases h3 : x = 3
      · simp [h3]
      · by_cases h6 : x = 6
        · simp [h6]
        · simp [h0, h1, h3, h6]
theorem rup_ok (hp : prim 133 = none) (n : Int) (hn : 0 ≤ n ∧ n ≤ 1000) (odd : Bool) : callM md (K prim (d + 1)) cfg 133 [.int .i64 n, .bool odd] h = some (.int .i64 (nxt n odd), h) := by
  have hm : n.tmod 2 = n % 2 := Int.tmod_eq_emod_of_nonneg hn.1
  refine call0 rfl hp Tryz.func133 rfl rfl rfl (by simp) ?_
  unfold nxt
  rcases (by omega : n % 2 = 0 ∨ n % 2 = 1) with h1 | h1 <;> cases odd <;> simp (disch := omega) [hm, h1, wrap64]
def mval (o : List Int) (j D : Nat) : Int := match mscan (o.drop j) D with
  | some m => ((j + m : Nat) : Int)
  | none => -1
theorem mval_end {o : List Int} {j D : Nat} (h : o.length ≤ j) : mval o j D = -1 := by
  unfold mval
  rw [List.drop_of_length_le h]
  rfl
theorem mval_step {o : List Int} {j D : Nat} {x : Int} (hx : o[j]? = some x) : mval o j D = if ini x then mval o (j + 1) (D + 1) else if x = 22 then (if D = 0 then (j : Int) else mval o (j + 1) (D - 1)) else mval o (j + 1) D := by
  have key : ∀ D', (match (mscan (o.drop (j + 1)) D').map (· + 1) with
      | some m => ((j + m : Nat) : Int)
      | none => -1) = mval o (j + 1) D' := by
    intro D'
    unfold mval
    cases mscan (o.drop (j + 1)) D' with
    | none => rfl
    | some m => simp only [Option.map_some]; rw [show j + (m + 1) = j + 1 + m by omega]
  have hd : o.drop j = x :: o.drop (j + 1) := drop_at hx
  unfold mval
  rw [hd]
  by_cases hi : ini x = true
  · rw [mscan_ini hi, if_pos hi]
    exact key _
  · have hi' : ini x = false := by simpa using hi
    rw [if_neg hi]
    by_cases h22 : x = 22
    · subst h22
      rw [if_pos rfl]
      cases D with
      | zero => rw [mscan_pd0, if_pos rfl]; simp
      | succ D => rw [mscan_pdS, if_neg (by omega)]; exact key _
    · rw [mscan_oth hi' h22, if_neg h22]
      exact key _
set_option maxHeartbeats 1000000 in
theorem rmatch_ok (hp : prim 101 = none) (h63 : prim 100 = none) (h71 : prim 132 = none) (h47 : prim 99 = none) (t : List Int) (ht : t.length ≤ 2000) (i : Nat) (hi : i < t.length) : callM md (K prim (d + 3)) cfg 101 [rl t, .int .i64 i] h = some (.int .i64 (mt (t.map bidi) i), h) := by
  refine call0 rfl hp Tryz.func101 rfl rfl rfl (by simp) ?_
  have hB := fun cfg h r => rbidi_ok (prim := prim) d cfg h h71 h47 r
  have hI := fun cfg h x => rini_ok (prim := prim) (d + 1) cfg h h63 x
  have hmv : mt (t.map bidi) i = mval (t.map bidi) (i + 1) 0 := rfl
  have hol : (t.map bidi).length = t.length := by simp
  have hg : ∀ (j : Nat) (z : Int), t[j]? = some z → (t.map bidi)[j]? = some (bidi z) := fun j z hz => by rw [List.getElem?_map, hz]; rfl
  generalize t.map bidi = o at *
  rw [hmv]
  simp (disch := omega) [wrap64]
  refine wC_loop (fun m fr H => ∃ (j D : Nat), i + 1 ≤ j ∧ j ≤ t.length ∧ m = t.length - j ∧ D ≤ j ∧ mval o (i + 1) 0 = mval o j D ∧ H = [] ∧ Slots 32 [(0, rl t), (1, .int .i64 i), (5, .int .i64 D), (6, .int .i64 j)] fr) (m := t.length - (i + 1)) (by omega) ⟨i + 1, 0, by omega, by omega, rfl, by omega, rfl, rfl, by simp⟩ ?_
  rintro m fr H ⟨j, D, h1, h2, rfl, h3, hF, rfl, hs⟩
  obtain ⟨j1, rfl⟩ := hs.ex
  clear hs
  by_cases hlt : j < t.length
  · obtain ⟨z, hz⟩ : ∃ z, t[j]? = some z := ⟨_, List.getElem?_eq_getElem hlt⟩
    have hst := mval_step (D := D) (hg j z hz)
    have hjI : (j : Int) < t.length := by omega
    rw [hst] at hF
    by_cases hini : ini (bidi z) = true
    · rw [if_pos hini] at hF
      have h22 : ¬ bidi z = 22 := by intro e; rw [e] at hini; cases hini
      simp (disch := omega) [hjI, hz, hB, hI, hini, h22, wrap64, -getElem?_pos]
      exact Rnd_of (m' := t.length - (j + 1)) (by omega) ⟨j + 1, D + 1, by omega, by omega, rfl, by omega, hF, rfl, by simp (disch := omega)⟩
    · have hini' : ini (bidi z) = false := by simpa using hini
      rw [if_neg hini] at hF
      by_cases h22 : bidi z = 22
      · rw [if_pos h22] at hF
        by_cases hD : D = 0
        · rw [if_pos hD] at hF
          subst hD
          rw [hF]
          have hi22 : ini 22 = false := rfl
          simp (disch := omega) [hjI, hz, hB, hI, hi22, h22, -getElem?_pos]
        · rw [if_neg hD] at hF
          have hDI : ¬ (D : Int) = 0 := by omega
          have hi22 : ini 22 = false := rfl
          simp (disch := omega) [hjI, hz, hB, hI, hi22, h22, hD, wrap64, -getElem?_pos]
          exact Rnd_of (m' := t.length - (j + 1)) (by omega) ⟨j + 1, D - 1, by omega, by omega, rfl, by omega, hF, rfl, by simp (disch := omega); omega⟩
      · rw [if_neg h22] at hF
        simp (disch := omega) [hjI, hz, hB, hI, hini', h22, wrap64, -getElem?_pos]
        exact Rnd_of (m' := t.length - (j + 1)) (by omega) ⟨j + 1, D, by omega, by omega, rfl, by omega, hF, rfl, by simp (disch := omega)⟩
  · have hjI : ¬ (j : Int) < t.length := by omega
    rw [mval_end (o := o) (j := j) (D := D) (by omega)] at hF
    simp (disch := omega) [hjI, hF]
end
end Bi
end Go.Ab
namespace Go.Ab
open Go.Proofs
namespace Bi
section
variable {prim : FuncId → Option Prim} (d : Nat) (cfg : Cfg) (h : Heap)
set_option maxHeartbeats 1000000 in
theorem rbase_ok (hp : prim 57 = none) (h64 : prim 101 = none) (h63 : prim 100 = none) (h71 : prim 132 = none) (h47 : prim 99 = none) (t : List Int) (ht : t.length ≤ 2000) (base : Int) {args : List V} (hargs : args.mapM (frzA h) = some [rl t, .int .i64 base]) :
    callM md (K prim (d + 4)) cfg 57 args h = some (.int .i64 (baseS bidi t base), h) := by
  refine call3 rfl hp Tryz.func57 rfl rfl rfl hargs ?_
  have hB := fun cfg h r => rbidi_ok (prim := prim) (d + 1) cfg h h71 h47 r
  have hI := fun cfg h x => rini_ok (prim := prim) (d + 2) cfg h h63 x
  have hMt := fun cfg h i hi => rmatch_ok (prim := prim) d cfg h h64 h63 h71 h47 t ht i hi
  by_cases h01 : base = 0 ∨ base = 1
  · have hbs : baseS bidi t base = base := by unfold baseS; rw [if_pos h01]
    rw [hbs]
    rcases h01 with rfl | rfl
    · simp [own]
    · simp [own]
  have hbs : baseS bidi t base = fs (t.map bidi) := by unfold baseS; rw [if_neg h01]
  rw [hbs]
  have h0 : ¬ base = 0 := fun e => h01 (.inl e)
  have h1 : ¬ base = 1 := fun e => h01 (.inr e)
  have hol : (t.map bidi).length = t.length := by simp
  have hg : ∀ (j : Nat) (z : Int), t[j]? = some z → (t.map bidi)[j]? = some (bidi z) := fun j z hz => by rw [List.getElem?_map, hz]; rfl
  generalize t.map bidi = o at *
  simp (disch := omega) [h0, h1]
  refine wC_loop (fun m fr H => ∃ (i : Nat), i ≤ t.length ∧ m = t.length - i ∧ fs o = fs (o.drop i) ∧ H = [] ∧ Slots 45 [(0, rl t), (1, .int .i64 base), (5, .int .i64 i)] fr) (m := t.length) (by omega) ⟨0, by omega, by omega, rfl, rfl, by simp⟩ ?_
  rintro m fr H ⟨i, hi, rfl, hF, rfl, hs⟩
  obtain ⟨j1, rfl⟩ := hs.ex
  clear hs
  by_cases hlt : i < t.length
  · obtain ⟨z, hz⟩ : ∃ z, t[i]? = some z := ⟨_, List.getElem?_eq_getElem hlt⟩
    have hiI : (i : Int) < t.length := by omega
    have hMi := fun cfg h => hMt cfg h i hlt
    have hdr : o.drop i = bidi z :: o.drop (i + 1) := drop_at (hg i z hz)
    rw [hdr, fs_cons] at hF
    by_cases hx0 : bidi z = 0
    · rw [if_pos hx0] at hF
      simp (disch := omega) [hiI, hz, hB, hx0, hF, own, -getElem?_pos]
    · rw [if_neg hx0] at hF
      by_cases hx1 : bidi z = 1
      · rw [if_pos (.inl hx1)] at hF
        simp (disch := omega) [hiI, hz, hB, hx1, hF, own, -getElem?_pos]
      · by_cases hx2 : bidi z = 2
        · rw [if_pos (.inr hx2)] at hF
          simp (disch := omega) [hiI, hz, hB, hx2, hF, own, -getElem?_pos]
        · rw [if_neg (by omega)] at hF
          cases hini : ini (bidi z)
          · rw [hini] at hF
            simp only [Bool.false_eq_true, if_false] at hF
            simp (disch := omega) [hiI, hz, hB, hI, hx0, hx1, hx2, hini, wrap64, -getElem?_pos]
            exact Rnd_of (m' := t.length - (i + 1)) (by omega) ⟨i + 1, by omega, rfl, hF, rfl, by simp (disch := omega)⟩
          · rw [hini] at hF
            simp only [if_true] at hF
            have hmt : mt o i = match mscan (o.drop (i + 1)) 0 with
              | some m => ((i + 1 + m : Nat) : Int)
              | none => -1 := rfl
            cases hms : mscan (o.drop (i + 1)) 0 with
            | none =>
              rw [hms] at hF hmt
              simp only at hF hmt
              simp (disch := omega) [hiI, hz, hB, hI, hMi, hx0, hx1, hx2, hini, hmt, hF, own, -getElem?_pos]
            | some m =>
              rw [hms] at hF hmt
              simp only at hF hmt
              have hml := mscan_lt _ _ _ hms
              simp at hml
              have hng : ¬ (i : Int) + 1 + m < 0 := by omega
              simp (disch := omega) [hiI, hz, hB, hI, hMi, hx0, hx1, hx2, hini, hmt, hng, wrap64, -getElem?_pos]
              refine Rnd_of (m' := t.length - (i + 1 + m + 1)) (by omega) ⟨i + 1 + m + 1, by omega, rfl, ?_, rfl, by simp (disch := omega)⟩
              rw [hF, List.drop_drop]
              congr 2
  · have hiI : ¬ (i : Int) < t.length := by omega
    rw [List.drop_of_length_le (by omega)] at hF
    simp (disch := omega) [hiI, hF, own, fs_nil]
end
end Bi
end Go.Ab
namespace Go.Ab
open Go.Proofs
namespace Bi
def refPrs : List Int := [40, 41, 60, 62, 91, 93, 123, 125, 171, 187, 8804, 8805, 12296, 12297, 12298, 12299, 12300, 12301, 12302, 12303, 12304, 12305]
def rbrL : List Int → Int → Int × Int
  | a :: b :: t, r => if a = 60 ∨ a = 171 ∨ a = 8804 then rbrL t r else if a = r then (1, b) else if b = r then (2, a) else rbrL t r
  | _, _ => (0, 0)
theorem rbr_eq (r : Int) : rbrL refPrs r = brS r := by
  by_cases h0 : 40 = r
  · subst h0; rfl
  · by_cases h1 : 41 = r
    · subst h1; rfl
    · by_cases h2 : 91 = r
      · subst h2; rfl
      · by_cases h3 : 93 = r
        · subst h3; rfl
        · by_cases h4 : 123 = r
          · subst h4; rfl
          · by_cases h5 : 125 = r
            · subst h5; rfl
            · by_cases h6 : 12296 = r
              · subst h6; rfl
              · by_cases h7 : 12297 = r
                · subst h7; rfl
                · by_cases h8 : 12298 = r
                  · subst h8; rfl
                  · by_cases h9 : 12299 = r
                    · subst h9; rfl
                    · by_cases h10 : 12300 = r
                      · subst h10; rfl
                      · by_cases h11 : 12301 = r
                        · subst h11; rfl
                        · by_cases h12 : 12302 = r
                          · subst h12; rfl
                          · by_cases h13 : 12303 = r
                            · subst h13; rfl
                            · by_cases h14 : 12304 = r
                              · subst h14; rfl
                              · by_cases h15 : 12305 = r
                                · subst h15; rfl
                                · simp [rbrL, refPrs, brS, othS, brTab, h0, h1, h2, h3, h4, h5, h6, h7, h8, h9, h10, h11, h12, h13, h14, h15]
section
variable {prim : FuncId → Option Prim} (d : Nat) (cfg : Cfg) (h : Heap)
theorem refPrs_ok (hp : prim 141 = none) : callM md (K prim (d + 1)) cfg 141 [] h = some (rl refPrs, h) := by
  refine call0 rfl hp Tryz.func141 rfl rfl rfl (by simp) ?_
  simp
  exact frz_ints (d := 4) (k := .i32) (l := refPrs) rfl (Nat.zero_le _) rfl
set_option maxHeartbeats 1000000 in
theorem rbracket_ok (hp : prim 143 = none) (h91 : prim 141 = none) (r : Int) : callM md (K prim (d + 2)) cfg 143 [.int .i32 r] h = some (.tup [.int .i64 (brS r).1, .int .i32 (brS r).2], h) := by
  refine call0 rfl hp Tryz.func143 rfl rfl rfl (by simp) ?_
  have hP := fun cfg h => refPrs_ok (prim := prim) d cfg h h91
  rw [← rbr_eq r]
  have hl : refPrs.length = 22 := rfl
  generalize refPrs = L at *
  simp (disch := omega) [hP]
  refine wC_loop (fun m fr H => ∃ (k : Nat), k ≤ 11 ∧ m = 11 - k ∧ rbrL L r = rbrL (L.drop (2 * k)) r ∧ H = [] ∧ Slots 54 [(0, .int .i32 r), (4, rl L), (5, .int .i64 (2 * k : Nat))] fr) (m := 11) (by omega) ⟨0, by omega, by omega, rfl, rfl, by simp⟩ ?_
  rintro m fr H ⟨k, hk, rfl, hF, rfl, hs⟩
  obtain ⟨j1, rfl⟩ := hs.ex
  clear hs
  by_cases hlt : k < 11
  · obtain ⟨a, ha⟩ : ∃ a, L[2 * k]? = some a := ⟨_, List.getElem?_eq_getElem (by omega)⟩
    obtain ⟨b, hb⟩ : ∃ b, L[2 * k + 1]? = some b := ⟨_, List.getElem?_eq_getElem (by omega)⟩
    have hdr : L.drop (2 * k) = a :: b :: L.drop (2 * k + 2) := by rw [drop_at ha, drop_at hb]
    have hkI : 2 * (k : Int) < 22 := by omega
    have hn0 : (2 * (k : Int)).toNat = 2 * k := by omega
    have hn1 : (2 * (k : Int) + 1).toNat = 2 * k + 1 := by omega
    rw [hdr] at hF
    by_cases hsk : a = 60 ∨ a = 171 ∨ a = 8804
    · have hF2 : rbrL L r = rbrL (L.drop (2 * k + 2)) r := by rw [hF, rbrL, if_pos hsk]
      rcases hsk with h1 | h1 | h1
      · simp (disch := omega) [hl, hkI, ha, hn0, h1, wrap64, -getElem?_pos]
        exact Rnd_of (m' := 11 - (k + 1)) (by omega) ⟨k + 1, by omega, rfl, hF2, rfl, by simp (disch := omega); omega⟩
      · simp (disch := omega) [hl, hkI, ha, hn0, h1, wrap64, -getElem?_pos]
        exact Rnd_of (m' := 11 - (k + 1)) (by omega) ⟨k + 1, by omega, rfl, hF2, rfl, by simp (disch := omega); omega⟩
      · simp (disch := omega) [hl, hkI, ha, hn0, h1, wrap64, -getElem?_pos]
        exact Rnd_of (m' := 11 - (k + 1)) (by omega) ⟨k + 1, by omega, rfl, hF2, rfl, by simp (disch := omega); omega⟩
    · have hF1 : rbrL L r = if a = r then (1, b) else if b = r then (2, a) else rbrL (L.drop (2 * k + 2)) r := by rw [hF, rbrL, if_neg hsk]
      have s1 : ¬ a = 60 := fun e => hsk (.inl e)
      have s2 : ¬ a = 171 := fun e => hsk (.inr (.inl e))
      have s3 : ¬ a = 8804 := fun e => hsk (.inr (.inr e))
      simp (disch := omega) [hl, hkI, ha, hn0, s1, s2, s3, -getElem?_pos]
      by_cases hr1 : a = r
      · rw [if_pos hr1] at hF1
        simp (disch := omega) [hr1]
        refine wC_draw 6 (by kernel_rfl) ?_
        simp (disch := omega) [hb, hn1, hF1, wrap64, -getElem?_pos]
      · rw [if_neg hr1] at hF1
        simp (disch := omega) [hr1, hb, hn1, wrap64, -getElem?_pos]
        by_cases hr2 : b = r
        · rw [if_pos hr2] at hF1
          simp (disch := omega) [hr2]
          refine wC_draw 5 (by kernel_rfl) ?_
          simp (disch := omega) [ha, hn0, hF1, -getElem?_pos]
        · rw [if_neg hr2] at hF1
          simp (disch := omega) [hr2, wrap64]
          exact Rnd_of (m' := 11 - (k + 1)) (by omega) ⟨k + 1, by omega, rfl, hF1, rfl, by simp (disch := omega); omega⟩
  · obtain rfl : k = 11 := by omega
    rw [List.drop_of_length_le (by omega)] at hF
    simp (disch := omega) [hl, hF, rbrL]
end
end Bi
end Go.Ab
namespace Go.Ab
open Go.Proofs
namespace Bi
attribute [local congr] wGq_congr
section
variable {prim : FuncId → Option Prim} (d : Nat) (cfg : Cfg) (h : Heap)
set_option maxHeartbeats 4000000 in
theorem mirror_ex (hp : ∀ f, Np5 f → prim f = none) (r : Int) :
    ∃ v, (∃ z : Int, v = .int .i32 z) ∧ ∀ cfg h, callM md (K prim (d + 2)) cfg 116 [.int .i32 r] h = some (v, h) := by
  refine call0e rfl (hp 116 (by decide)) Tryz.func116 rfl rfl rfl (by simp) ?_
  have hP := fun cfg h => refPrs_ok (prim := prim) d cfg h (hp 141 (by decide))
  have hl : refPrs.length = 22 := rfl
  generalize refPrs = L at *
  simp (disch := omega) [hP]
  refine wC_loop (fun m fr H => ∃ (k : Nat), k ≤ 11 ∧ m = 11 - k ∧ H = [] ∧ Slots 35 [(0, .int .i32 r), (3, rl L), (4, .int .i64 (2 * k : Nat))] fr) (m := 11) (by omega) ⟨0, by omega, by omega, rfl, by simp⟩ ?_
  rintro m fr H ⟨k, hk, rfl, rfl, hs⟩
  obtain ⟨j1, rfl⟩ := hs.ex
  clear hs
  by_cases hlt : k < 11
  · obtain ⟨a, ha⟩ : ∃ a, L[2 * k]? = some a := ⟨_, List.getElem?_eq_getElem (by omega)⟩
    obtain ⟨b, hb⟩ : ∃ b, L[2 * k + 1]? = some b := ⟨_, List.getElem?_eq_getElem (by omega)⟩
    have hkI : 2 * (k : Int) < 22 := by omega
    have hn0 : (2 * (k : Int)).toNat = 2 * k := by omega
    have hn1 : (2 * (k : Int) + 1).toNat = 2 * k + 1 := by omega
    simp (disch := omega) [hl, hkI, ha, hn0, -getElem?_pos]
    by_cases hr1 : a = r
    · simp (disch := omega) [hb, hn1, hr1, wrap64, -getElem?_pos]
    · simp (disch := omega) [hb, hn1, hr1, wrap64, -getElem?_pos]
      by_cases hr2 : b = r
      · simp (disch := omega) [ha, hn0, hr2, -getElem?_pos]
      · simp (disch := omega) [hr2, wrap64, -getElem?_pos]
        exact Rnd_of (m' := 11 - (k + 1)) (by omega) ⟨k + 1, by omega, rfl, rfl, by simp (disch := omega); omega⟩
  · obtain rfl : k = 11 := by omega
    simp (disch := omega) [hl]
end
end Bi
end Go.Ab
namespace Go.Ab
open Go.Proofs
namespace Bi
structure Spn where
  f : Int
  t : Int
  n : Int
  z : Int
def spnC (s : Spn) : List V := [.int .i64 s.f, .int .i64 s.t, .int .i64 s.n, .int .i64 s.z]
structure Par where
  t : List Int
  s : List Spn
  b : Int
  a : Int
  w : Int
def parC (p : Par) : List V := [rl p.t, .lst (p.s.map spnC), .int .i64 p.b, .int .i64 p.a, .int .i64 p.w]
def Cov : Int → Int → List Spn → Prop
  | a, b, [] => a = b
  | a, b, s :: l => s.f = a ∧ a < s.t ∧ Cov s.t b l
theorem Cov.snoc : ∀ {l : List Spn} {a b : Int} {s : Spn}, Cov a b l → s.f = b → b < s.t → Cov a s.t (l ++ [s])
  | [], _, _, _, h, h1, h2 => ⟨h1.trans h.symm, by rw [h]; exact h2, rfl⟩
  | _ :: _, _, _, _, ⟨h1, h2, h3⟩, g1, g2 => ⟨h1, h2, h3.snoc g1 g2⟩
structure ParOK (p : Par) (n fonts : Nat) : Prop where
  len : p.t.length ≤ n
  b : -1 ≤ p.b ∧ p.b ≤ 1
  a : 0 ≤ p.a ∧ p.a ≤ 2
  w : 0 ≤ p.w ∧ p.w ≤ 1048576
  sp : ∀ s ∈ p.s, 0 ≤ s.n ∧ s.n < fonts ∧ 1 ≤ s.z ∧ s.z ≤ 40
  cov : (p.t = [] ∧ ∃ s, p.s = [s] ∧ s.f = 0 ∧ s.t = 0) ∨ (p.t ≠ [] ∧ Cov 0 p.t.length p.s)
  sl : p.s.length ≤ n + 1
section
variable {prim : FuncId → Option Prim} (d : Nat) (cfg : Cfg) (h : Heap)
set_option maxHeartbeats 4000000 in
theorem fonts_ok (hp : ∀ f, Np5 f → prim f = none) (L : List Int) (k : Nat) (hL : L.length ≤ 4000) (b : Nat) (r : Rd h b L k) (hw : cfg.wr b = true) (hlo : cfg.lo ≤ h.length) :
    ∃ (fs : List Fnt) (k' : Nat), 1 ≤ fs.length ∧ fs.length ≤ 3 ∧ (∀ f ∈ fs, FntOK f) ∧ k' ≤ L.length ∧ callM md (K prim (d + 4)) cfg 16 [.ptr b 0] h = some (.lst (fs.map fntC), hk h b L k') := by
  have hw' : (Cfg.wr ⟨cfg.lo, cfg.ex, h.length⟩ b) = true := hw
  have hbl := r.lt
  suffices HH : ∃ r h2, callM md (K prim (d + 4)) cfg 16 [.ptr b 0] h = some (r, h2) ∧ ∃ (fs : List Fnt) (k' : Nat), 1 ≤ fs.length ∧ fs.length ≤ 3 ∧ (∀ f ∈ fs, FntOK f) ∧ k' ≤ L.length ∧ r = .lst (fs.map fntC) ∧ h2 = hk h b L k' by
    obtain ⟨r, h2, h3, fs, k', h4, h5, h6, h7, rfl, rfl⟩ := HH
    exact ⟨fs, k', h4, h5, h6, h7, h3⟩
  refine call1x rfl (hp 16 (by decide)) Tryz.func16 rfl rfl rfl ?_
  have g0 : Gn h b L k [] h [] := ⟨r.le, by rw [List.append_nil, ← r.same]; exact Hp.start⟩
  obtain ⟨n, k1, hn1, hn2, g1, c1⟩ := g0.r (d + 1) hp r hL 1 3 (by omega) (by omega) (by omega)
  have c1' := c1 ⟨cfg.lo, cfg.ex, h.length⟩ hw'
  obtain ⟨n, rfl⟩ : ∃ m : Nat, n = m := ⟨n.toNat, by omega⟩
  simp (disch := omega) [c1']
  refine wC_loop (fun m fr H => ∃ (i k : Nat) (v : V) (fs : List Fnt), fs.length + i = n ∧ m = i ∧ (∀ f ∈ fs, FntOK f) ∧ Gn h b L k [] H [(8, v, fs.flatMap fntC)] ∧
    Slots 17 [(0, .ptr b 0), (3, v), (4, .int .i64 i)] fr) (m := n) (by omega) ⟨n, k1, .nils, [], by simp, rfl, by simp, ⟨g1.le, g1.hp.nil 8⟩, by simp⟩ ?_
  rintro m fr H ⟨i, k, v, fs, hi, hm, hfs, hg, hs⟩
  replace hm := hm.symm
  subst hm
  obtain ⟨j, rfl⟩ := hs.ex
  clear hs
  by_cases h0 : 0 < i
  · have hI : (0 : Int) < i := by omega
    obtain ⟨f, k2, hf, hk2, c2⟩ := font_ok (prim := prim) d ⟨cfg.lo, cfg.ex, h.length⟩ H hp L k hL b (hg.rd r) hw' (by have := hg.len; simp at this; show cfg.lo ≤ _; omega)
    have hg2 := (hg.step r hk2).push [some (fntC f)]
    have hlf : (fntC f).all V.leaf = true := rfl
    have hln : (fntC f).length = 8 := rfl
    have hbn : blockOf (hk H b L k2 ++ [some (fntC f)]) H.length = some (fntC f) := bAt rfl
    simp (disch := omega) [h0, c2, hlf, hln, hbn]
    have hfl := flat_len (f := fntC) (n := 8) (fun _ => rfl) fs
    have htk : List.take 8 (fntC f) = fntC f := rfl
    rw [htk]
    refine wS_appO (m := 1) hg2.hp (by simp; omega) rfl rfl (by omega) (by omega) (by rw [hfl]; omega) (by rw [hfl]; omega) ?_
    intro v' H' hhp5
    simp (disch := omega) [wrap64]
    refine Rnd_of (m' := i - 1) (by omega) ⟨i - 1, k2, v', fs ++ [f], by simp; omega, rfl, ?_, ⟨hg2.le, by simpa using hhp5⟩, by simp (disch := omega); omega⟩
    intro x hx
    rcases List.mem_append.1 hx with hx | hx
    · exact hfs x hx
    · simp at hx; subst hx; exact hf
  · obtain rfl : i = 0 := by omega
    simp (disch := omega)
    have f1 := OwnC.frzF (ho := hg.hp.head) (f := fntC) (n := 8) (m := h.length) (d := 4) (fun _ => rfl) (by omega) (by simp) (fun _ => rfl) (fun x c hc => by simp [fntC] at hc; rcases hc with rfl | rfl | rfl | rfl | rfl | rfl | rfl | rfl <;> simp)
    exact ⟨_, f1, fs, by omega, by omega, hfs, k, hg.le, rfl, hg.take⟩
theorem hk_at {h : Heap} {b : Nat} {L : List Int} {k : Nat} (i : Nat) {X : Heap} {Y : List V} (hX : X[i]? = some (some Y)) (hm : isMap Y = false) : blockOf (hk h b L k ++ X) (h.length + i) = some Y := by
  rw [blockOf, List.getElem?_append_right (by simp), hk_len, Nat.add_sub_cancel_left, hX]
  simp [hm]
theorem hk_put {h : Heap} {b : Nat} {L : List Int} {k : Nat} (i : Nat) {X : Heap} (Y : Option (List V)) : (hk h b L k ++ X).set (h.length + i) Y = hk h b L k ++ X.set i Y := by
  rw [List.set_append_right _ _ (by simp), hk_len, Nat.add_sub_cancel_left]
def wids : List Int := [0, 1, 10, 20, 30, 40, 60, 100, 200, 400, 1000, 1048576]
set_option maxHeartbeats 8000000 in
theorem par_ok (hp : ∀ f, Np5 f → prim f = none) (L : List Int) (k : Nat) (hL : L.length ≤ 4000) (b : Nat) (r : Rd h b L k) (hw : cfg.wr b = true) (hlo : cfg.lo ≤ h.length) (n fonts : Nat) (hn : n ≤ 1000) (hf1 : 1 ≤ fonts) (hf2 : fonts ≤ 1000) :
    ∃ (p : Par) (k' : Nat), ParOK p n fonts ∧ k' ≤ L.length ∧ callM md (K prim (d + 5)) cfg 17 [.ptr b 0, .int .i64 n, .int .i64 fonts] h = some (.agg (parC p), hk h b L k') := by
  have hw' : (Cfg.wr ⟨cfg.lo, cfg.ex, h.length⟩ b) = true := hw
  have hbl := r.lt
  suffices HH : ∃ r h2, callM md (K prim (d + 5)) cfg 17 [.ptr b 0, .int .i64 n, .int .i64 fonts] h = some (r, h2) ∧ ∃ p k', ParOK p n fonts ∧ k' ≤ L.length ∧ r = .agg (parC p) ∧ h2 = hk h b L k' by
    obtain ⟨r, h2, h3, p, k', h4, h5, rfl, rfl⟩ := HH
    exact ⟨p, k', h4, h5, h3⟩
  refine call1x rfl (hp 17 (by decide)) Tryz.func17 rfl rfl rfl ?_
  have hN := fun {k : Nat} (hk1 : k ≤ L.length) (n : Int) h1 h2 => r.nx (d + 3) hp hL hk1 n h1 h2
  have hR := fun {k : Nat} (hk1 : k ≤ L.length) (lo hi : Int) h1 h2 h3 => r.rx (d + 2) hp hL hk1 lo hi h1 h2 h3
  obtain ⟨tb, k1, htb, htb', hk1, c1⟩ := hR r.le (-1) 1 (by omega) (by omega) (by omega)
  obtain ⟨ta, k2, hta, hk2, c2⟩ := hN hk1 3 (by omega) (by omega)
  obtain ⟨v, k3, hv, hk3, c3⟩ := hN hk2 12 (by omega) (by omega)
  replace c1 := fun x => c1 ⟨cfg.lo, cfg.ex, h.length⟩ x hw'
  replace c2 := fun x => c2 ⟨cfg.lo, cfg.ex, h.length⟩ x hw'
  replace c3 := fun x => c3 ⟨cfg.lo, cfg.ex, h.length⟩ x hw'
  rw [← r.same] at c1
  obtain ⟨tw, htw⟩ : ∃ tw, wids[v]? = some tw := ⟨_, List.getElem?_eq_getElem (show v < wids.length by show v < 12; omega)⟩
  have htwr : 0 ≤ tw ∧ tw ≤ 1048576 := (show ∀ x ∈ wids, 0 ≤ x ∧ x ≤ 1048576 by decide) tw (List.mem_of_getElem? htw)
  have hWe : [V.int .i64 0, V.int .i64 1, V.int .i64 10, V.int .i64 20, V.int .i64 30, V.int .i64 40, V.int .i64 60, V.int .i64 100, V.int .i64 200, V.int .i64 400, V.int .i64 1000, V.int .i64 1048576] = wids.map (V.int .i64) := rfl
  have hwl : wids.length = 12 := rfl
  have wP : (Cfg.wr ⟨cfg.lo, cfg.ex, h.length⟩ (h.length + 1)) = true := wr_lo (by omega)
  unfold hk at c1 c2 c3
  have bP : ∀ (k : Nat) (z : Option (List V)) (A B x : V) (Y : Heap) (F : List V), isMap (A :: F) = false → blockOf (h.set b (some [il L, .int .i64 k]) ++ z :: some (A :: F) :: Y) (h.length + 1) = some (A :: F) := fun k z A B x Y F hm => hk_at 1 rfl hm
  have sP : ∀ (k : Nat) (z F X : Option (List V)) (Y : Heap), (h.set b (some [il L, .int .i64 k]) ++ z :: F :: Y).set (h.length + 1) X = h.set b (some [il L, .int .i64 k]) ++ z :: X :: Y := fun k z F X Y => hk_put 1 X
  have bN := fun k z Y F => bP k z .nils .nils .nils Y F rfl
  have bW : ∀ (k : Nat) (z p : Option (List V)) (l : List Int) (Y : Heap), blockOf (h.set b (some [il L, .int .i64 k]) ++ z :: p :: some (l.map (V.int .i64)) :: Y) (h.length + 1 + 1) = some (l.map (V.int .i64)) := fun k z p l Y => hk_at 2 rfl isMap_ints
  simp (disch := omega) [c1, c2, bN, sP, wP]
  rw [hWe]
  generalize wids = W at htw hwl
  simp (disch := omega) [c3, bN, bW, sP, wP, htw, -getElem?_pos]
  obtain ⟨X, hX⟩ : ∃ X : Heap, X = [some [V.nils, .nils, .int .i64 0, .int .i64 0, .int .i64 0], some [V.nils, .nils, .int .i64 tb, .int .i64 ta, .int .i64 tw], some (W.map (V.int .i64))] := ⟨_, rfl⟩
  obtain ⟨T, k4, hTl, hk4, c4⟩ := text_ok (prim := prim) d ⟨cfg.lo, cfg.ex, h.length⟩ (hk h b L k3 ++ X) hp L k3 hL hk3 n hn b ((r.set hk3).push X).blk hw' (by simp; omega)
  rw [List.set_append_left _ _ (by simpa using hbl), List.set_set, hX] at c4
  unfold hk at c4
  have bT := fun k z Y F => bP k z (rl T) .nils .nils Y F rfl
  simp (disch := omega) [c4, bN, bT, sP, wP]
  by_cases hT0 : T = []
  · subst hT0
    obtain ⟨v1, k5, hv1, hk5, c5⟩ := hN hk4 fonts (by omega) (by omega)
    obtain ⟨v2, k6, hv2, hv2', hk6, c6⟩ := hR hk5 1 40 (by omega) (by omega) (by omega)
    replace c5 := fun x => c5 ⟨cfg.lo, cfg.ex, h.length⟩ x hw'
    replace c6 := fun x => c6 ⟨cfg.lo, cfg.ex, h.length⟩ x hw'
    unfold hk at c5 c6
    have bT0 := fun k z Y F => bP k z (.lst []) .nils .nils Y F rfl
    have b0 : ∀ (k : Nat) (F : List V) (Y : Heap), blockOf (h.set b (some [il L, .int .i64 k]) ++ some (.nils :: F) :: Y) h.length = some (.nils :: F) := fun k F Y => hk_at 0 rfl rfl
    have s0 : ∀ (k : Nat) (F X : Option (List V)) (Y : Heap), (h.set b (some [il L, .int .i64 k]) ++ F :: Y).set h.length X = h.set b (some [il L, .int .i64 k]) ++ X :: Y := fun k F X Y => hk_put 0 X
    have b0' : ∀ (k : Nat) (F : List V) (Y : Heap), blockOf (h.set b (some [il L, .int .i64 k]) ++ some (.lst [] :: F) :: Y) h.length = some (.lst [] :: F) := fun k F Y => hk_at 0 rfl rfl
    have bS : ∀ (k : Nat) (u1 u2 u3 : Option (List V)) (a : Int) (F : List V) (Y : Heap), blockOf (h.set b (some [il L, .int .i64 k]) ++ u1 :: u2 :: u3 :: some (.int .i64 a :: F) :: Y) (h.length + 3) = some (.int .i64 a :: F) := fun k u1 u2 u3 a F Y => hk_at 3 rfl rfl
    have w0 : (Cfg.wr ⟨cfg.lo, cfg.ex, h.length⟩ h.length) = true := wr_lo hlo
    have hle : h.length ≤ h.length + 3 := by omega
    simp (disch := omega) [c5, c6, bT0, sP, wP, b0, s0, b0', w0]
    have f1 : ∀ (u1 u2 u3 : Option (List V)), frz (h.set b (some [il L, .int .i64 k6]) ++ [u1, u2, u3, some [.int .i64 0, .int .i64 0, .int .i64 v1, .int .i64 v2]]) h.length 5 (.sl (h.length + 3) 0 1 1 4) = some (.lst [spnC ⟨0, 0, v1, v2⟩]) := fun u1 u2 u3 => by
      rw [frz_sl, if_neg (by omega), bS]
      rfl
    simp only [f1, Option.bind_some, Function.comp, Option.map_some]
    refine ⟨_, rfl, ⟨[], [⟨0, 0, v1, v2⟩], tb, ta, tw⟩, ⟨by simp, ⟨htb, htb'⟩, by simp; omega, htwr, by simp; omega, .inl ⟨rfl, _, rfl, rfl, rfl⟩, by simp⟩, k6, hk6, rfl, ?_⟩
    rw [List.take_append_of_le_length (by simp), List.take_of_length_le (by simp)]
  · have hTp : ¬ T.length = 0 := fun e => hT0 (List.length_eq_zero_iff.1 e)
    simp (disch := omega) [hT0]
    have hg0 : Gn h b L k4 [some [.nils, .nils, .int .i64 0, .int .i64 0, .int .i64 0], some [rl T, .nils, .int .i64 tb, .int .i64 ta, .int .i64 tw]] (hk h b L k4 ++ [some [.nils, .nils, .int .i64 0, .int .i64 0, .int .i64 0], some [rl T, .nils, .int .i64 tb, .int .i64 ta, .int .i64 tw]] ++ [some (W.map (V.int .i64))]) [] := (Gn.start hk4 _).push _
    simp only [List.append_assoc, List.cons_append, List.nil_append] at hg0
    refine wC_loop (fun m fr H => ∃ (k at_ : Nat) (vs : V) (ss : List Spn), at_ ≤ T.length ∧ m = T.length - at_ ∧ Cov 0 at_ ss ∧ ss.length ≤ at_ ∧ (∀ s ∈ ss, 0 ≤ s.n ∧ s.n < fonts ∧ 1 ≤ s.z ∧ s.z ≤ 40) ∧
      Gn h b L k [some [.nils, .nils, .int .i64 0, .int .i64 0, .int .i64 0], some [rl T, vs, .int .i64 tb, .int .i64 ta, .int .i64 tw]] H [(4, vs, ss.flatMap spnC)] ∧
      Slots 78 [(0, .ptr b 0), (2, .int .i64 fonts), (6, .ptr h.length 0), (7, .ptr (h.length + 1) 0), (9, .int .i64 at_)] fr) (m := T.length) (by omega) ⟨k4, 0, .nils, [], by omega, by omega, rfl, by simp, by simp, ⟨hg0.le, hg0.hp.nil 4⟩, by simp⟩ ?_
    clear hg0 c1 c2 c3 c4 bN bW bT bP sP
    rintro m fr H ⟨k, at_, vs, ss, hat, rfl, hcov, hsl, hsr, hg, hs⟩
    obtain ⟨j, rfl⟩ := hs.ex
    clear hs
    have hb1 := hg.at 1 rfl rfl
    by_cases hlt : at_ < T.length
    · have hI : (at_ : Int) < T.length := by omega
      obtain ⟨v1, k1', hv1, hg1, e1⟩ := hg.n (d + 3) hp r hL T.length (by omega) (by omega)
      replace e1 := e1 ⟨cfg.lo, cfg.ex, h.length⟩ hw'
      have hm := md_N
      have hmR := md_R
      have hbH := (hg.rd r).lt
      have hne : ¬ b = h.length + 1 := by omega
      simp (disch := omega) [hb1, hI, e1, wrap64]
      by_cases hov : T.length < at_ + 1 + v1
      · have hov' : (T.length : Int) < at_ + 1 + v1 := by omega
        simp (disch := omega) [hov', hb1]
        obtain ⟨v2, k2', hv2, hg2, e2⟩ := hg1.n (d + 3) hp r hL fonts (by omega) (by omega)
        simp only [List.set_set] at hg2 e2
        have e2' := fun lo thr => e2 ⟨lo, some b, thr⟩ wr_ex
        obtain ⟨v3, k3', hv3, hv3', hg3, e3⟩ := hg2.r (d + 2) hp r hL 1 40 (by omega) (by omega) (by omega)
        simp only [List.set_set] at hg3 e3
        have e3' := fun lo thr => e3 ⟨lo, some b, thr⟩ wr_ex
        refine wC_draw 11 (by kernel_rfl) ?_
        have hbn : blockOf (H.set b (some [il L, .int .i64 k3']) ++ [some [V.int .i64 at_, V.int .i64 (T.length : Int), V.int .i64 v2, V.int .i64 v3]]) H.length = some [V.int .i64 at_, V.int .i64 (T.length : Int), V.int .i64 v2, V.int .i64 v3] := bAt rfl
        simp (disch := omega) [hb1, hm, hmR, hw', e2', e3', hne, hbH, hbn]
        have hp4 := (hg3.push [some [V.int .i64 at_, V.int .i64 (T.length : Int), V.int .i64 v2, V.int .i64 v3]])
        have hfl := flat_len (f := spnC) (n := 4) (fun _ => rfl) ss
        refine wS_appO (m := 1) hp4.hp (by simp; omega) rfl rfl (by omega) (by omega) (by rw [hfl]; omega) (by rw [hfl]; omega) ?_
        intro vs' H' hhp5
        have hg5 : Gn h b L k3' _ H' _ := ⟨hg3.le, hhp5⟩
        have hb5 := hg5.at 1 rfl rfl
        have hl5 := hg5.len
        have hc5 := hhp5.head.cells
        simp (disch := omega) [hb5, wP, hc5]
        have hg6 := hg5.put 1 (by simp) (some [rl T, vs', .int .i64 tb, .int .i64 ta, .int .i64 tw])
        refine Rnd_of (m' := T.length - (T.length)) (by omega) ⟨k3', T.length, vs', ss ++ [⟨at_, (T.length : Int), v2, v3⟩], by omega, rfl, ?_, by simp; omega, ?_, by simpa [spnC] using hg6, by simp (disch := omega)⟩
        · have := hcov.snoc (s := ⟨at_, (T.length : Int), v2, v3⟩) rfl (by simp; omega)
          simpa using this
        · intro x hx
          rcases List.mem_append.1 hx with hx | hx
          · exact hsr x hx
          · simp at hx; subst hx; simp; omega
      · have hov' : ¬ (T.length : Int) < at_ + 1 + v1 := by omega
        simp (disch := omega) [hov']
        obtain ⟨v2, k2', hv2, hg2, e2⟩ := hg1.n (d + 3) hp r hL fonts (by omega) (by omega)
        simp only [List.set_set] at hg2 e2
        have e2' := fun lo thr => e2 ⟨lo, some b, thr⟩ wr_ex
        obtain ⟨v3, k3', hv3, hv3', hg3, e3⟩ := hg2.r (d + 2) hp r hL 1 40 (by omega) (by omega) (by omega)
        simp only [List.set_set] at hg3 e3
        have e3' := fun lo thr => e3 ⟨lo, some b, thr⟩ wr_ex
        refine wC_draw 11 (by kernel_rfl) ?_
        have hbn : blockOf (H.set b (some [il L, .int .i64 k3']) ++ [some [V.int .i64 at_, V.int .i64 ((at_ : Int) + 1 + v1), V.int .i64 v2, V.int .i64 v3]]) H.length = some [V.int .i64 at_, V.int .i64 ((at_ : Int) + 1 + v1), V.int .i64 v2, V.int .i64 v3] := bAt rfl
        simp (disch := omega) [hb1, hm, hmR, hw', e2', e3', hne, hbH, hbn]
        have hp4 := (hg3.push [some [V.int .i64 at_, V.int .i64 ((at_ : Int) + 1 + v1), V.int .i64 v2, V.int .i64 v3]])
        have hfl := flat_len (f := spnC) (n := 4) (fun _ => rfl) ss
        refine wS_appO (m := 1) hp4.hp (by simp; omega) rfl rfl (by omega) (by omega) (by rw [hfl]; omega) (by rw [hfl]; omega) ?_
        intro vs' H' hhp5
        have hg5 : Gn h b L k3' _ H' _ := ⟨hg3.le, hhp5⟩
        have hb5 := hg5.at 1 rfl rfl
        have hl5 := hg5.len
        have hc5 := hhp5.head.cells
        simp (disch := omega) [hb5, wP, hc5]
        have hg6 := hg5.put 1 (by simp) (some [rl T, vs', .int .i64 tb, .int .i64 ta, .int .i64 tw])
        refine Rnd_of (m' := T.length - (at_ + 1 + v1)) (by omega) ⟨k3', at_ + 1 + v1, vs', ss ++ [⟨at_, ((at_ : Int) + 1 + v1), v2, v3⟩], by omega, rfl, ?_, by simp; omega, ?_, by simpa [spnC] using hg6, by simp (disch := omega)⟩
        · have := hcov.snoc (s := ⟨at_, ((at_ : Int) + 1 + v1), v2, v3⟩) rfl (by simp; omega)
          simpa using this
        · intro x hx
          rcases List.mem_append.1 hx with hx | hx
          · exact hsr x hx
          · simp at hx; subst hx; simp; omega
    · obtain rfl : at_ = T.length := by omega
      have hb0 := hg.at 0 rfl rfl
      rw [Nat.add_zero] at hb0
      have hlv := hg.hp.head.leaf
      have w0 : (Cfg.wr ⟨cfg.lo, cfg.ex, h.length⟩ h.length) = true := wr_lo hlo
      have hl := hg.len
      have hHl : h.length < H.length := by simp at hl; omega
      simp (disch := omega) [hb1, hb0, hlv, w0]
      have hg7 := hg.put 0 (by simp) (some [rl T, vs, .int .i64 tb, .int .i64 ta, .int .i64 tw])
      rw [Nat.add_zero] at hg7
      have f1 := OwnC.frzF (ho := hg7.hp.head) (f := spnC) (n := 4) (m := h.length) (d := 3) (fun _ => rfl) (by omega) (by simp) (fun _ => rfl) (fun x c hc => by simp [spnC] at hc; rcases hc with rfl | rfl | rfl | rfl <;> simp)
      simp only [f1, Option.bind_some, Function.comp, Option.map_some]
      exact ⟨_, rfl, ⟨T, ss, tb, ta, tw⟩, ⟨hTl, ⟨htb, htb'⟩, by simp; omega, htwr, hsr, .inr ⟨hT0, hcov⟩, by simp; omega⟩, k, hg.le, rfl, hg7.take⟩
end
end Bi
end Go.Ab
namespace Go.Ab
open Go.Proofs
namespace Bi
attribute [local congr] wGq_congr
def nlR (r : Int) : Bool := decide (rcl 2 r = 1) || decide (rcl 2 r = 2) || decide (rcl 2 r = 3)
section
variable {prim : FuncId → Option Prim} (d : Nat) (cfg : Cfg) (h : Heap)
theorem newl_ok (hp : ∀ f, Np5 f → prim f = none) (r : Int) : callM md (K prim (d + 3)) cfg 59 [.int .i32 r] h = some (.bool (nlR r), h) := by
  refine call0 rfl (hp 59 (by decide)) Tryz.func59 rfl rfl rfl (by simp) ?_
  have hL := fun cfg h r => rline_ok (prim := prim) d cfg h hp r
  simp +contextual (disch := first | omega | (simp; done) | (simp [Decidable.imp_iff_not_or]; done) | fail) [-wG_bool, wG_q, wGq_some, gq_true, pickV_qO, hL, nlR]
theorem white_ok (hp : ∀ f, Np5 f → prim f = none) (r : Int) : callM md (K prim (d + 4)) cfg 66 [.int .i32 r] h = some (.bool (nlR r || decide (rcl 2 r = 4)), h) := by
  refine call0 rfl (hp 66 (by decide)) Tryz.func66 rfl rfl rfl (by simp) ?_
  have hL := fun cfg h r => rline_ok (prim := prim) (d + 1) cfg h hp r
  have hN := fun cfg h r => newl_ok (prim := prim) d cfg h hp r
  simp +contextual (disch := first | omega | (simp; done) | (simp [Decidable.imp_iff_not_or]; done) | fail) [-wG_bool, wG_q, wGq_some, gq_true, pickV_qO, hL, hN]
set_option maxHeartbeats 4000000 in
theorem covers_ex (hp : ∀ f, Np5 f → prim f = none) (l : List Spn) (hl : l.length ≤ 1000) (n : Int) :
    ∃ v, IsB v ∧ ∀ cfg h, callM md (K prim (d + 1)) cfg 55 [.lst (l.map spnC), .int .i64 n] h = some (v, h) := by
  refine call0e rfl (hp 55 (by decide)) Tryz.func55 rfl rfl rfl (by simp) ?_
  by_cases h0 : l.length = 0
  · simp (disch := omega) [h0]
  by_cases hn : n = 0
  · obtain ⟨s, hs⟩ : ∃ s, l[0]? = some s := ⟨_, List.getElem?_eq_getElem (by omega)⟩
    simp +contextual (disch := first | omega | (simp; done) | (simp [Decidable.imp_iff_not_or]; done) | fail) [-wG_bool, wG_q, wGq_some, gq_true, pickV_qA, -getElem?_pos, h0, hn, hs, spnC]
  simp (disch := omega) [h0, hn]
  refine wC_loop (fun m fr H => ∃ (i : Nat) (a : Int), i ≤ l.length ∧ m = l.length - i ∧ H = [] ∧ Slots 59 [(0, .lst (l.map spnC)), (1, .int .i64 n), (5, .int .i64 a), (6, .int .i64 i)] fr) (m := l.length) (by omega) ⟨0, 0, by omega, by omega, rfl, by simp⟩ ?_
  rintro m fr H ⟨i, a, hi, rfl, rfl, hs⟩
  obtain ⟨j, rfl⟩ := hs.ex
  clear hs
  by_cases hlt : i < l.length
  · have hI : (i : Int) < l.length := by omega
    obtain ⟨s, hx⟩ : ∃ s, l[i]? = some s := ⟨_, List.getElem?_eq_getElem hlt⟩
    simp +contextual (disch := first | omega | (simp; done) | (simp [Decidable.imp_iff_not_or]; done) | fail) [-wG_bool, wG_q, wGq_some, gq_true, pickV_qO, -getElem?_pos, hI, hx, spnC]
    refine wIf_intro (fun _ => by simp) (fun _ => ?_)
    simp (disch := omega) [hx, spnC, wrap64, -getElem?_pos]
    exact Rnd_of (m' := l.length - (i + 1)) (by omega) ⟨i + 1, s.t, by omega, by omega, rfl, by simp (disch := omega)⟩
  · obtain rfl : i = l.length := by omega
    simp (disch := omega)
end
end Bi
end Go.Ab
namespace Go.Ab
open Go.Proofs
namespace Bi
attribute [local congr] wGq_congr
theorem pslots (p : Par) : (parC p).all V.leaf = true ∧ isMap (parC p) = false ∧ slot (parC p) 0 = some (rl p.t) ∧ slot (parC p) 1 = some (.lst (p.s.map spnC)) ∧ slot (parC p) 2 = some (.int .i64 p.b) ∧ slot (parC p) 3 = some (.int .i64 p.a) ∧ slot (parC p) 4 = some (.int .i64 p.w) ∧
    (parC p).length = 5 ∧ (parC p).take 5 = parC p := ⟨rfl, rfl, rfl, rfl, rfl, rfl, rfl, rfl, rfl⟩
section
variable {prim : FuncId → Option Prim} (d : Nat) (cfg : Cfg) (h : Heap)
set_option maxHeartbeats 4000000 in
theorem span_ex (hp : ∀ f, Np5 f → prim f = none) (p : Par) (hl : p.s.length ≤ 2000) (h1 : 0 < p.s.length) (i : Int) :
    ∃ v, (∃ k : Nat, v = .int .i64 k ∧ k < p.s.length) ∧ ∀ cfg h, callM md (K prim (d + 1)) cfg 64 [.agg (parC p), .int .i64 i] h = some (v, h) := by
  refine call0e rfl (hp 64 (by decide)) Tryz.func64 rfl rfl rfl (by simp [parC]) ?_
  obtain ⟨hlf, hmp, s0, s1, s2, s3, s4, l5, t5⟩ := pslots p
  simp (disch := omega) [hlf]
  refine wC_loop (fun m fr H => ∃ (k : Nat), k ≤ p.s.length ∧ m = p.s.length - k ∧ H = [some (parC p)] ∧ Slots 26 [(1, .int .i64 i), (2, .ptr 0 0), (5, .int .i64 k)] fr) (m := p.s.length) (by omega) ⟨0, by omega, by omega, rfl, by simp⟩ ?_
  rintro m fr H ⟨k, hk, rfl, rfl, hs⟩
  obtain ⟨j, rfl⟩ := hs.ex
  clear hs
  by_cases hlt : k < p.s.length
  · have hI : (k : Int) < p.s.length := by omega
    obtain ⟨s, hx⟩ : ∃ s, p.s[k]? = some s := ⟨_, List.getElem?_eq_getElem hlt⟩
    by_cases hi : i < s.t
    · simp (disch := omega) [hI, hx, spnC, hmp, s1, hi, -getElem?_pos]
      exact hlt
    · simp (disch := omega) [hI, hx, spnC, hmp, s1, hi, wrap64, -getElem?_pos]
      exact Rnd_of (m' := p.s.length - (k + 1)) (by omega) ⟨k + 1, by omega, by omega, rfl, by simp (disch := omega)⟩
  · obtain rfl : k = p.s.length := by omega
    simp (disch := omega) [hmp, s1, wrap64, -getElem?_pos]
    try exact ⟨p.s.length - 1, by omega, by omega⟩
set_option maxHeartbeats 4000000 in
theorem blank_ex (hp : ∀ f, Np5 f → prim f = none) (p : Par) (hl : p.t.length ≤ 2000) (a b : Nat) (hab : a ≤ b) (hb : b ≤ p.t.length) :
    ∃ v, (∃ k : Nat, v = .int .i64 k ∧ a ≤ k ∧ k ≤ b) ∧ ∀ cfg h, callM md (K prim (d + 5)) cfg 37 [.agg (parC p), .int .i64 a, .int .i64 b] h = some (v, h) := by
  refine call0e rfl (hp 37 (by decide)) Tryz.func37 rfl rfl rfl (by simp [parC]) ?_
  obtain ⟨hlf, hmp, s0, s1, s2, s3, s4, l5, t5⟩ := pslots p
  have hW := fun cfg h r => white_ok (prim := prim) d cfg h hp r
  simp (disch := omega) [hlf]
  refine wC_loop (fun m fr H => ∃ (k : Nat), a ≤ k ∧ k ≤ b ∧ m = k ∧ H = [some (parC p)] ∧ Slots 22 [(1, .int .i64 a), (2, .int .i64 k), (3, .ptr 0 0)] fr) (m := b) (by omega) ⟨b, by omega, by omega, rfl, rfl, by simp⟩ ?_
  rintro m fr H ⟨k, hk, hkb, hm, rfl, hs⟩
  replace hm := hm.symm
  subst hm
  obtain ⟨j, rfl⟩ := hs.ex
  clear hs
  simp +contextual (disch := first | omega | (simp; done) | (simp [Decidable.imp_iff_not_or]; done) | fail) [-wG_bool, wG_q, wGq_some, gq_true, pickV_qA, wrap64, -getElem?_pos, hW, atI, hmp, s0]
  refine wIf_intro (fun hb => ?_) (fun _ => ?_)
  · have hq1 : a < k := by simp at hb; omega
    simp (disch := omega) [wrap64]
    exact Rnd_of (m' := k - 1) (by omega) ⟨k - 1, by omega, by omega, rfl, rfl, by simp; omega⟩
  simp (disch := omega)
  exact ⟨hk, hkb⟩
set_option maxHeartbeats 8000000 in
theorem valid9_ex (hp : ∀ f, Np5 f → prim f = none) (p : Par) (hl : p.s.length ≤ 2000) (_ht : p.t.length ≤ 4000) (fs : List Fnt) (hf : fs.length ≤ 100) (hF : ∀ f ∈ fs, f.adv.length ≤ 1000 ∧ f.ker.length ≤ 1000 ∧ f.lig.length ≤ 1000) :
    ∃ v, IsI .i64 v ∧ ∀ cfg h, callM md (K prim (d + 3)) cfg 33 [.agg (parC p), .lst (fs.map fntC)] h = some (v, h) := by
  refine call0e rfl (hp 33 (by decide)) Tryz.func33 rfl rfl rfl (by simp [parC]) ?_
  obtain ⟨hlf, hmp, s0, s1, s2, s3, s4, l5, t5⟩ := pslots p
  simp +contextual (disch := first | omega | (simp; done) | (simp [Decidable.imp_iff_not_or]; done) | fail) [-wG_bool, wG_q, wGq_some, gq_true, pickV_qO, -getElem?_pos, hlf, hmp, s0, s1]
  refine wIf_intro (fun _ => by simp) (fun hb1 => ?_)
  have hs100 : p.s.length ≤ 100 := by simp at hb1; omega
  simp +contextual (disch := first | omega | (simp; done) | (simp [Decidable.imp_iff_not_or]; done) | fail) [-wG_bool, wG_q, wGq_some, gq_true, pickV_qO, -getElem?_pos, hmp, s2, s3, s4]
  refine wIf_intro (fun _ => by simp) (fun _ => ?_)
  simp (disch := omega)
  refine wC_loop (fun m fr H => ∃ (i : Nat) (T : Heap), i ≤ p.s.length ∧ m = p.s.length - i ∧ H = some (parC p) :: T ∧ Slots 105 [(1, .lst (fs.map fntC)), (2, .ptr 0 0), (5, .int .i64 i)] fr) (m := p.s.length) (by omega) ⟨0, [], by omega, by omega, rfl, by simp⟩ ?_
  rintro m fr H ⟨i, T, hi, rfl, rfl, hs⟩
  obtain ⟨j, rfl⟩ := hs.ex
  clear hs
  by_cases hlt : i < p.s.length
  · have hI : (i : Int) < p.s.length := by omega
    obtain ⟨s, hx⟩ : ∃ s, p.s[i]? = some s := ⟨_, List.getElem?_eq_getElem hlt⟩
    simp +contextual (disch := first | omega | (simp; done) | (simp [Decidable.imp_iff_not_or]; done) | fail) [-wG_bool, wG_q, wGq_some, gq_true, pickV_qO, -getElem?_pos, hI, hx, spnC, hmp, s1]
    refine wIf_intro (fun _ => by simp) (fun _ => ?_)
    simp (disch := omega) [wrap64, -getElem?_pos]
    exact Rnd_of (m' := p.s.length - (i + 1)) (by omega) ⟨i + 1, _, by omega, by omega, rfl, by simp (disch := omega)⟩
  obtain rfl : i = p.s.length := by omega
  simp (disch := omega) [hmp, s1, -getElem?_pos]
  refine wC_loop (fun m fr H => ∃ (i : Nat), i ≤ fs.length ∧ m = fs.length - i ∧ H = some (parC p) :: T ∧ Slots 105 [(1, .lst (fs.map fntC)), (2, .ptr 0 0), (7, .int .i64 i)] fr) (m := fs.length) (by omega) ⟨0, by omega, by omega, rfl, by simp⟩ ?_
  rintro m fr H ⟨i, hi, rfl, rfl, hs⟩
  obtain ⟨j2, rfl⟩ := hs.ex
  clear hs
  by_cases hlt : i < fs.length
  · have hI : (i : Int) < fs.length := by omega
    obtain ⟨f, hx⟩ : ∃ f, fs[i]? = some f := ⟨_, List.getElem?_eq_getElem hlt⟩
    obtain ⟨g1, g2, g3⟩ := hF f (List.mem_of_getElem? hx)
    obtain ⟨q1, q2, q3, q4, q5, q6, q7, q8, q9, q10, l8, t8⟩ := fslots f
    obtain ⟨_, rfl, hV⟩ := val7_ex (prim := prim) d hp f g1 g2 g3
    simp (disch := omega) [hI, hx, hV, l8, t8, -getElem?_pos]
    refine wIf_intro (fun _ => by simp) (fun _ => ?_)
    simp (disch := omega) [wrap64, -getElem?_pos]
    exact Rnd_of (m' := fs.length - (i + 1)) (by omega) ⟨i + 1, by omega, by omega, rfl, by simp (disch := omega)⟩
  obtain rfl : i = fs.length := by omega
  obtain ⟨_, ⟨cv, rfl⟩, hC⟩ := covers_ex (prim := prim) (d + 1) hp p.s (by omega) p.t.length
  simp (disch := omega) [hmp, s0, s1, hC, -getElem?_pos]
  refine wIf_intro (fun _ => by simp) (fun _ => by simp)
end
end Bi
end Go.Ab
namespace Go.Ab.Bi
theorem mscan_add : ∀ (r : List Int) (d d' q : Nat), mscan r d = some q → mscan r (d + d' + 1) = (mscan (r.drop (q + 1)) d').map (· + (q + 1))
  | [], _, _, _, h => by simp [mscan] at h
  | x :: r, d, d', q, h => by
    by_cases hx : ini x = true
    · rw [mscan_ini hx] at h ⊢
      obtain ⟨k, hk, rfl⟩ := Option.map_eq_some_iff.1 h
      rw [show d + d' + 1 + 1 = (d + 1) + d' + 1 by omega, mscan_add r (d + 1) d' k hk, List.drop_succ_cons, Option.map_map]
      congr 1
    · have hx' : ini x = false := by simpa using hx
      by_cases h2 : x = 22
      · subst h2
        cases d with
        | zero =>
          rw [mscan_pd0] at h
          cases h
          rw [Nat.zero_add, mscan_pdS]
          rfl
        | succ d =>
          rw [mscan_pdS] at h
          obtain ⟨k, hk, rfl⟩ := Option.map_eq_some_iff.1 h
          rw [show d + 1 + d' + 1 = (d + d' + 1) + 1 by omega, mscan_pdS, mscan_add r d d' k hk, List.drop_succ_cons, Option.map_map]
          congr 1
      · rw [mscan_oth hx' h2] at h ⊢
        obtain ⟨k, hk, rfl⟩ := Option.map_eq_some_iff.1 h
        rw [mscan_add r d d' k hk, List.drop_succ_cons, Option.map_map]
        congr 1
theorem mscan_skip : ∀ (u : Nat) (r : List Int) (d a : Nat), mscan r d = some a → u ≤ a → ∃ D, (mscan (r.drop u) D).map (· + u) = some a
  | 0, r, d, a, h, _ => ⟨d, by simpa using h⟩
  | u + 1, [], d, a, h, _ => by simp [mscan] at h
  | u + 1, x :: r, d, a, h, hu => by
    have key : ∀ D, (mscan r D).map (· + 1) = some a → ∃ D, (mscan ((x :: r).drop (u + 1)) D).map (· + (u + 1)) = some a := by
      intro D hD
      obtain ⟨k, hk, rfl⟩ := Option.map_eq_some_iff.1 hD
      obtain ⟨D', hD'⟩ := mscan_skip u r D k hk (by omega)
      obtain ⟨j, hj, hjk⟩ := Option.map_eq_some_iff.1 hD'
      exact ⟨D', by rw [List.drop_succ_cons, hj]; simp; omega⟩
    by_cases hx : ini x = true
    · rw [mscan_ini hx] at h
      exact key _ h
    · have hx' : ini x = false := by simpa using hx
      by_cases h2 : x = 22
      · subst h2
        cases d with
        | zero => rw [mscan_pd0] at h; cases h; omega
        | succ d => rw [mscan_pdS] at h; exact key _ h
      · rw [mscan_oth hx' h2] at h
        exact key _ h
theorem mt_lt2 {c : List Int} {z z' : Nat} (hlt : z < z') {m : Nat} (h1 : mt c z = m) (h2 : mt c z' = m) {x : Int} (hx : c[z']? = some x) (hi : ini x = true) : False := by
  unfold mt at h1 h2
  cases ha : mscan (c.drop (z + 1)) 0 with
  | none => rw [ha] at h1; simp only at h1; omega
  | some a =>
    cases hb : mscan (c.drop (z' + 1)) 0 with
    | none => rw [hb] at h2; simp only at h2; omega
    | some b =>
      rw [ha] at h1
      rw [hb] at h2
      simp only at h1 h2
      obtain ⟨u, rfl⟩ : ∃ u, z' = z + 1 + u := ⟨z' - (z + 1), by omega⟩
      obtain ⟨D, hD⟩ := mscan_skip u _ 0 a ha (by omega)
      obtain ⟨hl, rfl⟩ := List.getElem?_eq_some_iff.1 hx
      rw [List.drop_drop, List.drop_eq_getElem_cons hl, mscan_ini hi] at hD
      have := mscan_add (c.drop (z + 1 + u + 1)) 0 D b hb
      rw [show 0 + D + 1 = D + 1 by omega] at this
      rw [this] at hD
      cases hc : mscan (List.drop (b + 1) (List.drop (z + 1 + u + 1) c)) D with
      | none => rw [hc] at hD; simp at hD
      | some q => rw [hc] at hD; simp at hD; omega
theorem fol_inj {o M : List Int} {rs : List (List Int)} (hM : MOK o M) (hp : rs.flatten.Pairwise (· < ·)) (hn : ∀ x ∈ rs.flatten, 0 ≤ x ∧ x < o.length) {j j' : Nat} (hj : j < rs.length) (hj' : j' < rs.length) (h : fol o M rs j = fol o M rs j') (h0 : 0 ≤ fol o M rs j) : j = j' := by
  have key : ∀ j, j < rs.length → 0 ≤ fol o M rs j → ∃ z : Int, z ∈ rs.getD j [] ∧ 0 ≤ z ∧ z < o.length ∧ ini (o.getD z.toNat 0) = true ∧ ∃ m : Nat, mt o z.toNat = m ∧ ∃ k r, fol o M rs j = (k : Nat) ∧ rs[k]? = some r ∧ r.head? = some (m : Int) := by
    intro j hj h0
    unfold fol at h0 ⊢
    have hd : rs.getD j [] = rs[j] := by rw [List.getD_eq_getElem?_getD, List.getElem?_eq_getElem hj]; rfl
    rw [hd] at h0 ⊢
    cases hz : rs[j].getLast? with
    | none => rw [hz] at h0; simp at h0
    | some z =>
      rw [hz] at h0
      simp only at h0 ⊢
      have hzm : z ∈ rs[j] := List.mem_of_getLast? hz
      have hzf : z ∈ rs.flatten := List.mem_flatten.2 ⟨_, List.getElem_mem hj, hzm⟩
      have hzr := hn z hzf
      split at h0
      · rename_i hc
        rw [if_pos hc]
        rw [Bool.and_eq_true, decide_eq_true_eq] at hc
        have ho : o[z.toNat]? = some (o.getD z.toNat 0) := by rw [List.getD_eq_getElem?_getD, List.getElem?_eq_getElem (by omega)]; rfl
        have hm := hM.at_ z.toNat _ ho hc.1
        have hmg : M.getD z.toNat 0 = mt o z.toNat := by rw [List.getD_eq_getElem?_getD, hm]; rfl
        rw [hmg] at hc h0 ⊢
        obtain ⟨m, hm2⟩ : ∃ m : Nat, mt o z.toNat = m := ⟨(mt o z.toNat).toNat, by omega⟩
        cases hb : bgn rs (mt o z.toNat) with
        | none => rw [hb] at h0; simp at h0
        | some k =>
          obtain ⟨r, h3, h4⟩ := bgn_some hb
          exact ⟨z, hzm, hzr.1, hzr.2, hc.1, m, hm2, k, r, rfl, h3, by rw [h4, hm2]⟩
      · omega
  obtain ⟨z, hz1, hz2, hz3, hz4, m, hz5, k, r, hz6, hz7, hz8⟩ := key j hj h0
  obtain ⟨z', hy1, hy2, hy3, hy4, m', hy5, k', r', hy6, hy7, hy8⟩ := key j' hj' (h ▸ h0)
  have hk : k = k' := by omega
  subst hk
  rw [hz7] at hy7
  cases hy7
  rw [hz8] at hy8
  have hmm : m = m' := by simpa using hy8
  subst hmm
  have ho : ∀ z : Int, 0 ≤ z → z < o.length → o[z.toNat]? = some (o.getD z.toNat 0) := fun z _ _ => by rw [List.getD_eq_getElem?_getD, List.getElem?_eq_getElem (by omega)]; rfl
  have hzz : z = z' := by
    rcases Int.lt_trichotomy z z' with h1 | h1 | h1
    · exact (mt_lt2 (by omega : z.toNat < z'.toNat) hz5 hy5 (ho z' hy2 hy3) hy4).elim
    · exact h1
    · exact (mt_lt2 (by omega : z'.toNat < z.toNat) hy5 hz5 (ho z hz2 hz3) hz4).elim
  subst hzz
  have hd : ∀ j (hj : j < rs.length), rs.getD j [] = rs[j] := fun j hj => by rw [List.getD_eq_getElem?_getD, List.getElem?_eq_getElem hj]; rfl
  rw [hd j hj] at hz1
  rw [hd j' hj'] at hy1
  obtain ⟨p1, p2⟩ := List.pairwise_flatten.1 hp
  rcases Nat.lt_trichotomy j j' with h1 | h1 | h1
  · have := List.pairwise_iff_getElem.1 p2 j j' hj hj' h1 z hz1 z hy1; omega
  · exact h1
  · have := List.pairwise_iff_getElem.1 p2 j' j hj' hj h1 z hy1 z hz1; omega
end Go.Ab.Bi
