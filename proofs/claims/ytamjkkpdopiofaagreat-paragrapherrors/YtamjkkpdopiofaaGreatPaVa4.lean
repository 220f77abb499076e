/- Several texts of this proof in one. -/
import Derived.Test.YtamjkkpdopiofaaGreatPaVa2
/- The check of a paragraph: the program and the reference compute one plain function. -/
namespace Go.Ab
open Go.Proofs
namespace Bi
attribute [local congr] wGq_congr
def covP (l : List Spn) (n : Int) : Prop := if n = 0 then ∃ s, l = [s] ∧ s.f = 0 ∧ s.t = 0 else Cov 0 n l
theorem covP_z (l : List Spn) : covP l 0 ↔ ∃ s, l = [s] ∧ s.f = 0 ∧ s.t = 0 := by unfold covP; rw [if_pos rfl]
theorem covP_n {l : List Spn} {n : Int} (h : n ≠ 0) : covP l n ↔ Cov 0 n l := by unfold covP; rw [if_neg h]
theorem Cov_cons {a n : Int} {s : Spn} {l : List Spn} : Cov a n (s :: l) ↔ s.f = a ∧ a < s.t ∧ Cov s.t n l := Iff.rfl
/-- The first error of some fonts. -/
noncomputable def errF : List Fnt → Int
  | [] => 0
  | f :: r => if val7S f = 0 then errF r else val7S f
theorem Cov_nil {a n : Int} : Cov a n [] ↔ a = n := Iff.rfl
theorem spsl (s : Spn) : (spnC s).all V.leaf = true ∧ isMap (spnC s) = false ∧ (spnC s).length = 4 ∧ (spnC s).take 4 = spnC s ∧ putAt [V.int .i64 0, .int .i64 0, .int .i64 0, .int .i64 0] 0 (spnC s) = spnC s ∧
    slot (spnC s) 0 = some (.int .i64 s.f) ∧ slot (spnC s) 1 = some (.int .i64 s.t) ∧ slot (spnC s) 2 = some (.int .i64 s.n) ∧ slot (spnC s) 3 = some (.int .i64 s.z) := ⟨rfl, rfl, rfl, rfl, rfl, rfl, rfl, rfl, rfl⟩
theorem errF_cons (f : Fnt) (r : List Fnt) : errF (f :: r) = if val7S f = 0 then errF r else val7S f := rfl
def badS (n : Nat) (s : Spn) : Prop := s.n < 0 ∨ (n : Int) ≤ s.n ∨ s.z < 1 ∨ 1000 < s.z
def badN (p : Par) : Prop := p.b < -1 ∨ 1 < p.b ∨ p.a < 0 ∨ 2 < p.a ∨ p.w < 0 ∨ 1048576 < p.w
/-- The check of a paragraph. -/
noncomputable def valS (p : Par) (fs : List Fnt) : Int := by
  classical
  exact if 2000 < p.t.length ∨ 100 < p.s.length ∨ 8 < fs.length then 2 else if badN p ∨ ∃ s ∈ p.s, badS fs.length s then 1 else if errF fs ≠ 0 then errF fs else if covP p.s p.t.length then 0 else 10
theorem valS_long {p : Par} {fs : List Fnt} (h : 2000 < p.t.length ∨ 100 < p.s.length ∨ 8 < fs.length) : valS p fs = 2 := by unfold valS; rw [if_pos h]
theorem valS_rng {p : Par} {fs : List Fnt} (h : ¬ (2000 < p.t.length ∨ 100 < p.s.length ∨ 8 < fs.length)) (h1 : badN p ∨ ∃ s ∈ p.s, badS fs.length s) : valS p fs = 1 := by unfold valS; rw [if_neg h, if_pos h1]
theorem valS_fnt {p : Par} {fs : List Fnt} (h : ¬ (2000 < p.t.length ∨ 100 < p.s.length ∨ 8 < fs.length)) (h1 : ¬ (badN p ∨ ∃ s ∈ p.s, badS fs.length s)) (h2 : errF fs ≠ 0) : valS p fs = errF fs := by unfold valS; rw [if_neg h, if_neg h1, if_pos h2]
theorem valS_cov {p : Par} {fs : List Fnt} (h : ¬ (2000 < p.t.length ∨ 100 < p.s.length ∨ 8 < fs.length)) (h1 : ¬ (badN p ∨ ∃ s ∈ p.s, badS fs.length s)) (h2 : errF fs = 0) (h3 : ¬ covP p.s p.t.length) : valS p fs = 10 := by
  unfold valS; rw [if_neg h, if_neg h1, if_neg (by simp [h2]), if_neg h3]
theorem valS_ok {p : Par} {fs : List Fnt} (h : ¬ (2000 < p.t.length ∨ 100 < p.s.length ∨ 8 < fs.length)) (h1 : ¬ (badN p ∨ ∃ s ∈ p.s, badS fs.length s)) (h2 : errF fs = 0) (h3 : covP p.s p.t.length) : valS p fs = 0 := by
  unfold valS; rw [if_neg h, if_neg h1, if_neg (by simp [h2]), if_pos h3]
theorem errF_take {fs : List Fnt} {i : Nat} {f : Fnt} (hx : fs[i]? = some f) : errF (fs.drop i) = if val7S f = 0 then errF (fs.drop (i + 1)) else val7S f := by
  rw [List.drop_eq_getElem_cons (List.getElem?_eq_some_iff.1 hx).1, (List.getElem?_eq_some_iff.1 hx).2, errF_cons]
theorem parsl (p : Par) : (parC p).all V.leaf = true ∧ isMap (parC p) = false ∧ slot (parC p) 0 = some (rl p.t) ∧ slot (parC p) 1 = some (.lst (p.s.map spnC)) ∧ slot (parC p) 2 = some (.int .i64 p.b) ∧ slot (parC p) 3 = some (.int .i64 p.a) ∧ slot (parC p) 4 = some (.int .i64 p.w) ∧
    (parC p).length = 5 ∧ (parC p).take 5 = parC p := ⟨rfl, rfl, rfl, rfl, rfl, rfl, rfl, rfl, rfl⟩
section
variable {prim : FuncId → Option Prim} (d : Nat) (cfg : Cfg) (h : Heap)
set_option maxHeartbeats 4000000 in
theorem coversP_ex (hp : ∀ f, Np5 f → prim f = none) (l : List Spn) (hl : l.length ≤ 2000) (n : Int) :
    ∃ r, (∃ b : Bool, r = .bool b ∧ (b = true ↔ covP l n)) ∧ ∀ cfg h, callM md (K prim (d + 1)) cfg 15 [.lst (l.map spnC), .int .i64 n] h = some (r, h) := by
  refine call0e rfl (hp 15 (by decide)) Tryz.func15 rfl rfl rfl (by simp) ?_
  by_cases hn : n = 0
  · subst hn
    rcases l with _ | ⟨s, _ | ⟨s2, l⟩⟩
    · simp [covP_z]
    · simp +contextual (disch := first | omega | (simp; done) | (simp [Decidable.imp_iff_not_or]; done) | fail) [-wG_bool, wG_q, wGq_some, gq_true, pickV_qA, spnC, covP_z]
      omega
    · have h1 : ¬ (l.length : Int) + 1 + 1 = 1 := by omega
      simp +contextual (disch := first | omega | (simp; done) | (simp [Decidable.imp_iff_not_or]; done) | fail) [-wG_bool, wG_q, wGq_some, wGq_false, gq_false, spnC, covP_z, h1]
  · simp (disch := omega) [hn]
    refine wC_loop (fun m fr H => ∃ (i : Nat) (a : Int), i ≤ l.length ∧ m = l.length - i ∧ (Cov 0 n l ↔ Cov a n (l.drop i)) ∧ Slots 50 [(1, .int .i64 n), (5, .int .i64 a), (27, .lst (l.map spnC)), (28, .int .i64 l.length), (29, .int .i64 i)] fr) (m := l.length) (by omega) ⟨0, 0, by omega, by omega, by simp, by simp⟩ ?_
    rintro m fr H ⟨i, a, hi, rfl, hc, hs⟩
    obtain ⟨j, rfl⟩ := hs.ex
    clear hs
    by_cases hlt : i < l.length
    · have hI : (i : Int) < l.length := by omega
      obtain ⟨s, hx⟩ : ∃ s, l[i]? = some s := ⟨_, List.getElem?_eq_getElem hlt⟩
      rw [List.drop_eq_getElem_cons hlt, (List.getElem?_eq_some_iff.1 hx).2, Cov_cons] at hc
      obtain ⟨q1, q2, q3, q4, q5, u0, u1, u2, u3⟩ := spsl s
      simp +contextual (disch := first | omega | (simp; done) | (simp [Decidable.imp_iff_not_or]; done) | fail) [-wG_bool, wG_q, wGq_some, gq_true, pickV_qO, -getElem?_pos, q1, q2, q3, q4, q5, u0, u1, hI, hx]
      refine wIf_intro (fun hb => ?_) (fun hb => ?_)
      · have hf : ¬ covP l n := by rw [covP_n hn, hc]; simp at hb; omega
        simp [hf]
      · simp (disch := omega) [q2, u1, wrap64, -getElem?_pos]
        refine Rnd_of (m' := l.length - (i + 1)) (by omega) ⟨i + 1, s.t, by omega, by omega, ?_, by simp (disch := omega)⟩
        rw [hc]
        simp at hb
        constructor
        · exact fun g => g.2.2
        · exact fun g => ⟨by omega, by omega, g⟩
    · obtain rfl : i = l.length := by omega
      rw [List.drop_length] at hc
      simp (disch := omega) [covP_n hn, hc, Cov_nil]
      try omega
set_option maxHeartbeats 4000000 in
theorem covers9_ex (hp : ∀ f, Np5 f → prim f = none) (l : List Spn) (hl : l.length ≤ 2000) (n : Int) (h0 : 0 ≤ n) :
    ∃ r, (∃ b : Bool, r = .bool b ∧ (b = true ↔ covP l n)) ∧ ∀ cfg h, callM md (K prim (d + 1)) cfg 17 [.lst (l.map spnC), .int .i64 n] h = some (r, h) := by
  refine call0e rfl (hp 17 (by decide)) Tryz.func17 rfl rfl rfl (by simp) ?_
  rcases hl0 : l with _ | ⟨s0, l0⟩
  · have hf : ¬ covP [] n := by
      by_cases hn : n = 0
      · subst hn; simp [covP_z]
      · rw [covP_n hn]; exact fun g => hn g.symm
    simp [hf]
  rw [← hl0]
  have hpos : ¬ (l.length : Int) = 0 := by rw [hl0]; simp; omega
  have hpos' : ¬ l = [] := by rw [hl0]; simp
  by_cases hn : n = 0
  · subst hn
    rcases l with _ | ⟨s, _ | ⟨s2, l⟩⟩
    · simp at hpos'
    · simp +contextual (disch := first | omega | (simp; done) | (simp [Decidable.imp_iff_not_or]; done) | fail) [-wG_bool, wG_q, wGq_some, gq_true, pickV_qA, spnC, covP_z]
      omega
    · have h1 : ¬ (l.length : Int) + 1 + 1 = 1 := by omega
      have h2 : ¬ (l.length : Int) + 1 + 1 = 0 := by omega
      simp +contextual (disch := first | omega | (simp; done) | (simp [Decidable.imp_iff_not_or]; done) | fail) [-wG_bool, wG_q, wGq_some, wGq_false, gq_false, spnC, covP_z, h1, h2]
  · simp (disch := omega) [hn, hpos']
    refine wC_loop (fun m fr H => ∃ (i : Nat) (a : Int), i ≤ l.length ∧ m = l.length - i ∧ (Cov 0 n l ↔ Cov a n (l.drop i)) ∧ Slots 59 [(0, .lst (l.map spnC)), (1, .int .i64 n), (5, .int .i64 a), (6, .int .i64 i)] fr) (m := l.length) (by omega) ⟨0, 0, by omega, by omega, by simp, by simp⟩ ?_
    rintro m fr H ⟨i, a, hi, rfl, hc, hs⟩
    obtain ⟨j, rfl⟩ := hs.ex
    clear hs
    by_cases hlt : i < l.length
    · have hI : (i : Int) < l.length := by omega
      obtain ⟨s, hx⟩ : ∃ s, l[i]? = some s := ⟨_, List.getElem?_eq_getElem hlt⟩
      rw [List.drop_eq_getElem_cons hlt, (List.getElem?_eq_some_iff.1 hx).2, Cov_cons] at hc
      simp +contextual (disch := first | omega | (simp; done) | (simp [Decidable.imp_iff_not_or]; done) | fail) [-wG_bool, wG_q, wGq_some, gq_true, pickV_qO, -getElem?_pos, spnC, hI, hx]
      refine wIf_intro (fun hb => ?_) (fun hb => ?_)
      · have hf : ¬ covP l n := by rw [covP_n hn, hc]; simp at hb; omega
        simp [hf]
      · simp (disch := omega) [hx, spnC, wrap64, -getElem?_pos]
        refine Rnd_of (m' := l.length - (i + 1)) (by omega) ⟨i + 1, s.t, by omega, by omega, ?_, by simp (disch := omega)⟩
        rw [hc]
        simp at hb
        constructor
        · exact fun g => g.2.2
        · exact fun g => ⟨by omega, by omega, g⟩
    · obtain rfl : i = l.length := by omega
      rw [List.drop_length] at hc
      simp (disch := omega) [covP_n hn, hc, Cov_nil]
      try omega
end
end Bi
end Go.Ab
/- The check of a paragraph: the program and the reference compute one plain function (Validate). -/
namespace Go.Ab
open Go.Proofs
namespace Bi
attribute [local congr] wGq_congr
section
variable {prim : FuncId → Option Prim} (d : Nat) (cfg : Cfg) (h : Heap)
set_option maxHeartbeats 8000000 in
theorem validP_ex (hp : ∀ f, Np5 f → prim f = none) (p : Par) (hl : p.s.length ≤ 2000) (ht : p.t.length ≤ 4000) (fs : List Fnt) (hf : fs.length ≤ 100) (hF : ∀ f ∈ fs, f.adv.length ≤ 1000 ∧ f.ker.length ≤ 1000 ∧ f.lig.length ≤ 1000) :
    ∃ r, r = .int .i64 (valS p fs) ∧ (md 9 = 0 → ∀ cfg h, callM md (K prim (d + 6)) cfg 9 [.agg (parC p), .lst (fs.map fntC)] h = some (r, h)) ∧
      (md 9 = 3 → ∀ cfg h args, args.mapM (frzA h) = some [.agg (parC p), .lst (fs.map fntC)] → callM md (K prim (d + 6)) cfg 9 args h = some (r, h)) := by
  refine callE (hp 9 (by decide)) Tryz.func9 rfl rfl rfl (by simp [parC]) ?_
  obtain ⟨hlf, hmp, s0, s1, s2, s3, s4, l5, t5⟩ := parsl p
  simp +contextual (disch := first | omega | (simp; done) | (simp [Decidable.imp_iff_not_or]; done) | fail) [-wG_bool, wG_q, wGq_some, gq_true, pickV_qO, -getElem?_pos, hlf, hmp, s0, s1]
  refine wIf_intro (fun hb => ?_) (fun hb1 => ?_)
  · rw [valS_long (by simp at hb; omega)]
    simp
  have hlong : ¬ (2000 < p.t.length ∨ 100 < p.s.length ∨ 8 < fs.length) := by simp at hb1; omega
  clear hb1
  simp +contextual (disch := first | omega | (simp; done) | (simp [Decidable.imp_iff_not_or]; done) | fail) [-wG_bool, wG_q, wGq_some, gq_true, pickV_qO, -getElem?_pos, hmp, s2, s3, s4]
  refine wIf_intro (fun hb => ?_) (fun hb => ?_)
  · rw [valS_rng hlong (.inl (by unfold badN; simp at hb; omega))]
    simp
  have hnum : ¬ badN p := by unfold badN; simp at hb; omega
  clear hb
  simp (disch := omega) [hmp, s1]
  refine wC_loop (fun m fr H => ∃ (i : Nat) (T : Heap), i ≤ p.s.length ∧ m = p.s.length - i ∧ (∀ s ∈ p.s.take i, ¬ badS fs.length s) ∧ H = some (parC p) :: T ∧ Slots 100 [(1, .lst (fs.map fntC)), (2, .ptr 0 0), (54, .lst (p.s.map spnC)), (55, .int .i64 p.s.length), (56, .int .i64 i)] fr) (m := p.s.length) (by omega) ⟨0, [], by omega, by omega, by simp, rfl, by simp⟩ ?_
  rintro m fr H ⟨i, T, hi, rfl, hg, rfl, hs⟩
  obtain ⟨j, rfl⟩ := hs.ex
  clear hs
  by_cases hlt : i < p.s.length
  · have hI : (i : Int) < p.s.length := by omega
    obtain ⟨s, hx⟩ : ∃ s, p.s[i]? = some s := ⟨_, List.getElem?_eq_getElem hlt⟩
    obtain ⟨q1, q2, q3, q4, q5, u0, u1, u2, u3⟩ := spsl s
    simp +contextual (disch := first | omega | (simp; done) | (simp [Decidable.imp_iff_not_or]; done) | fail) [-wG_bool, wG_q, wGq_some, gq_true, pickV_qO, -getElem?_pos, hI, hx, q1, q2, q3, q4, q5, u2, u3]
    refine wIf_intro (fun hb => ?_) (fun hb => ?_)
    · rw [valS_rng hlong (.inr ⟨s, List.mem_of_getElem? hx, by unfold badS; simp at hb; omega⟩)]
      simp
    · have hok : ¬ badS fs.length s := by unfold badS; simp at hb; omega
      simp (disch := omega) [wrap64, -getElem?_pos]
      exact Rnd_of (m' := p.s.length - (i + 1)) (by omega) ⟨i + 1, _, by omega, by omega, take_ok hg hx hok, rfl, by simp (disch := omega)⟩
  obtain rfl : i = p.s.length := by omega
  rw [List.take_length] at hg
  have hsp : ¬ (badN p ∨ ∃ s ∈ p.s, badS fs.length s) := by
    rintro (h | ⟨s, hs, hb⟩)
    · exact hnum h
    · exact hg s hs hb
  clear hg hi hlt
  simp (disch := omega) [-getElem?_pos]
  refine wC_loop (fun m fr H => ∃ (i : Nat) (T : Heap), i ≤ fs.length ∧ m = fs.length - i ∧ errF fs = errF (fs.drop i) ∧ H = some (parC p) :: T ∧ Slots 100 [(2, .ptr 0 0), (81, .lst (fs.map fntC)), (82, .int .i64 fs.length), (83, .int .i64 i)] fr) (m := fs.length) (by omega) ⟨0, _, by omega, by omega, rfl, rfl, by simp⟩ ?_
  rintro m fr H ⟨i, T2, hi, rfl, he, rfl, hs⟩
  obtain ⟨j2, rfl⟩ := hs.ex
  clear hs
  by_cases hlt : i < fs.length
  · have hI : (i : Int) < fs.length := by omega
    obtain ⟨f, hx⟩ : ∃ f, fs[i]? = some f := ⟨_, List.getElem?_eq_getElem hlt⟩
    obtain ⟨g1, g2, g3⟩ := hF f (List.mem_of_getElem? hx)
    obtain ⟨hlf8, hmp8, l8, t8, w0, w1, w2, w3, w4, w5, w6, w7⟩ := fsl f
    have hp8 : putAt [V.int .i64 0, .int .i64 0, .int .i64 0, .int .i64 0, .int .i64 0, .nils, .nils, .nils] 0 (fntC f) = fntC f := rfl
    obtain ⟨_, rfl, hV⟩ := valF_ex (prim := prim) (d + 0) hp f g1 g2 g3
    rw [errF_take hx] at he
    simp (disch := omega) [hI, hx, hV, l8, t8, hlf8, hmp8, hp8, -getElem?_pos]
    by_cases hz : val7S f = 0
    · rw [if_pos hz] at he
      simp (disch := omega) [hz, wrap64, -getElem?_pos]
      exact Rnd_of (m' := fs.length - (i + 1)) (by omega) ⟨i + 1, _, by omega, by omega, he, rfl, by simp (disch := omega)⟩
    · rw [if_neg hz] at he
      rw [valS_fnt hlong hsp (by rw [he]; exact hz), he]
      simp [hz]
  obtain rfl : i = fs.length := by omega
  rw [List.drop_length] at he
  replace he : errF fs = 0 := he
  obtain ⟨_, ⟨b, rfl, hb⟩, hC⟩ := coversP_ex (prim := prim) (d + 4) hp p.s hl p.t.length
  cases b with
  | false =>
    rw [valS_cov hlong hsp he (fun g => by simpa using hb.2 g)]
    simp (disch := omega) [hmp, s0, s1, hC, -getElem?_pos]
  | true =>
    rw [valS_ok hlong hsp he (hb.1 rfl)]
    simp (disch := omega) [hmp, s0, s1, hC, -getElem?_pos]
set_option maxHeartbeats 8000000 in
theorem valid9S_ex (hp : ∀ f, Np5 f → prim f = none) (p : Par) (hl : p.s.length ≤ 2000) (ht : p.t.length ≤ 4000) (fs : List Fnt) (hf : fs.length ≤ 100) (hF : ∀ f ∈ fs, f.adv.length ≤ 1000 ∧ f.ker.length ≤ 1000 ∧ f.lig.length ≤ 1000) :
    ∃ r, r = .int .i64 (valS p fs) ∧ (md 10 = 0 → ∀ cfg h, callM md (K prim (d + 6)) cfg 10 [.agg (parC p), .lst (fs.map fntC)] h = some (r, h)) ∧
      (md 10 = 3 → ∀ cfg h args, args.mapM (frzA h) = some [.agg (parC p), .lst (fs.map fntC)] → callM md (K prim (d + 6)) cfg 10 args h = some (r, h)) := by
  refine callE (hp 10 (by decide)) Tryz.func10 rfl rfl rfl (by simp [parC]) ?_
  obtain ⟨hlf, hmp, s0, s1, s2, s3, s4, l5, t5⟩ := parsl p
  simp +contextual (disch := first | omega | (simp; done) | (simp [Decidable.imp_iff_not_or]; done) | fail) [-wG_bool, wG_q, wGq_some, gq_true, pickV_qO, -getElem?_pos, hlf, hmp, s0, s1]
  refine wIf_intro (fun hb => ?_) (fun hb1 => ?_)
  · rw [valS_long (by simp at hb; omega)]
    simp
  have hlong : ¬ (2000 < p.t.length ∨ 100 < p.s.length ∨ 8 < fs.length) := by simp at hb1; omega
  clear hb1
  simp +contextual (disch := first | omega | (simp; done) | (simp [Decidable.imp_iff_not_or]; done) | fail) [-wG_bool, wG_q, wGq_some, gq_true, pickV_qO, -getElem?_pos, hmp, s2, s3, s4]
  refine wIf_intro (fun hb => ?_) (fun hb => ?_)
  · rw [valS_rng hlong (.inl (by unfold badN; simp at hb; omega))]
    simp
  have hnum : ¬ badN p := by unfold badN; simp at hb; omega
  clear hb
  simp (disch := omega)
  refine wC_loop (fun m fr H => ∃ (i : Nat) (T : Heap), i ≤ p.s.length ∧ m = p.s.length - i ∧ (∀ s ∈ p.s.take i, ¬ badS fs.length s) ∧ H = some (parC p) :: T ∧ Slots 105 [(1, .lst (fs.map fntC)), (2, .ptr 0 0), (5, .int .i64 i)] fr) (m := p.s.length) (by omega) ⟨0, [], by omega, by omega, by simp, rfl, by simp⟩ ?_
  rintro m fr H ⟨i, T, hi, rfl, hg, rfl, hs⟩
  obtain ⟨j, rfl⟩ := hs.ex
  clear hs
  by_cases hlt : i < p.s.length
  · have hI : (i : Int) < p.s.length := by omega
    obtain ⟨s, hx⟩ : ∃ s, p.s[i]? = some s := ⟨_, List.getElem?_eq_getElem hlt⟩
    obtain ⟨q1, q2, q3, q4, q5, u0, u1, u2, u3⟩ := spsl s
    simp +contextual (disch := first | omega | (simp; done) | (simp [Decidable.imp_iff_not_or]; done) | fail) [-wG_bool, wG_q, wGq_some, gq_true, pickV_qO, -getElem?_pos, hI, hx, q1, q2, q3, q4, q5, u2, u3, hmp, s1]
    refine wIf_intro (fun hb => ?_) (fun hb => ?_)
    · rw [valS_rng hlong (.inr ⟨s, List.mem_of_getElem? hx, by unfold badS; simp at hb; omega⟩)]
      simp
    · have hok : ¬ badS fs.length s := by unfold badS; simp at hb; omega
      simp (disch := omega) [wrap64, -getElem?_pos]
      exact Rnd_of (m' := p.s.length - (i + 1)) (by omega) ⟨i + 1, _, by omega, by omega, take_ok hg hx hok, rfl, by simp (disch := omega)⟩
  obtain rfl : i = p.s.length := by omega
  rw [List.take_length] at hg
  have hsp : ¬ (badN p ∨ ∃ s ∈ p.s, badS fs.length s) := by
    rintro (h | ⟨s, hs, hb⟩)
    · exact hnum h
    · exact hg s hs hb
  clear hg hi hlt
  simp (disch := omega) [hmp, s1, -getElem?_pos]
  refine wC_loop (fun m fr H => ∃ (i : Nat) (T : Heap), i ≤ fs.length ∧ m = fs.length - i ∧ errF fs = errF (fs.drop i) ∧ H = some (parC p) :: T ∧ Slots 105 [(1, .lst (fs.map fntC)), (2, .ptr 0 0), (7, .int .i64 i)] fr) (m := fs.length) (by omega) ⟨0, _, by omega, by omega, rfl, rfl, by simp⟩ ?_
  rintro m fr H ⟨i, T2, hi, rfl, he, rfl, hs⟩
  obtain ⟨j2, rfl⟩ := hs.ex
  clear hs
  by_cases hlt : i < fs.length
  · have hI : (i : Int) < fs.length := by omega
    obtain ⟨f, hx⟩ : ∃ f, fs[i]? = some f := ⟨_, List.getElem?_eq_getElem hlt⟩
    obtain ⟨g1, g2, g3⟩ := hF f (List.mem_of_getElem? hx)
    obtain ⟨hlf8, hmp8, l8, t8, w0, w1, w2, w3, w4, w5, w6, w7⟩ := fsl f
    have hp8 : putAt [V.int .i64 0, .int .i64 0, .int .i64 0, .int .i64 0, .int .i64 0, .nils, .nils, .nils] 0 (fntC f) = fntC f := rfl
    obtain ⟨_, rfl, hV⟩ := val7_ex (prim := prim) (d + 3) hp f g1 g2 g3
    rw [errF_take hx] at he
    simp (disch := omega) [hI, hx, hV, l8, t8, -getElem?_pos]
    by_cases hz : val7S f = 0
    · rw [if_pos hz] at he
      simp (disch := omega) [hz, wrap64, -getElem?_pos]
      exact Rnd_of (m' := fs.length - (i + 1)) (by omega) ⟨i + 1, _, by omega, by omega, he, rfl, by simp (disch := omega)⟩
    · rw [if_neg hz] at he
      rw [valS_fnt hlong hsp (by rw [he]; exact hz), he]
      simp [hz]
  obtain rfl : i = fs.length := by omega
  rw [List.drop_length] at he
  replace he : errF fs = 0 := he
  obtain ⟨_, ⟨b, rfl, hb⟩, hC⟩ := covers9_ex (prim := prim) (d + 4) hp p.s hl p.t.length (by omega)
  cases b with
  | false =>
    rw [valS_cov hlong hsp he (fun g => by simpa using hb.2 g)]
    simp (disch := omega) [hmp, s0, s1, hC, -getElem?_pos]
  | true =>
    rw [valS_ok hlong hsp he (hb.1 rfl)]
    simp (disch := omega) [hmp, s0, s1, hC, -getElem?_pos]
end
end Bi
end Go.Ab
