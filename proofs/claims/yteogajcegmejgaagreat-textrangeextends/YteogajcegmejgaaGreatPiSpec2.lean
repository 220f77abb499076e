/- Several texts of this proof in one. -/
import Derived.Test.YteogajcegmejgaaGreatPaRef3
import Derived.Test.YteogajcegmejgaaGreatPiF
import Derived.Test.YteogajcegmejgaaGreatPaRef
namespace Go.Ab
open Go.Proofs
namespace Bi
attribute [local congr] wGq_congr
section
variable {prim : FuncId → Option Prim} (d : Nat) (cfg : Cfg) (h : Heap)
set_option maxRecDepth 100000 in
set_option maxHeartbeats 4000000 in
theorem round_ex (hp : ∀ f, Np5 f → prim f = none) (a b : Int) :
    ∃ r, IsI .i64 r ∧ ∀ cfg h, callM md (K prim (d + 1)) cfg 119 [.int .i64 a, .int .i64 b] h = some (r, h) := by
  refine call0e rfl (hp 119 (by decide)) Tryz.func119 rfl rfl rfl (by simp) ?_
  simp +contextual (disch := first | omega | (simp; done) | (simp [Decidable.imp_iff_not_or]; done) | fail) [-wG_bool, wG_q, wGq_some, gq_true, pickV_qO]
  refine wIf_intro (fun _ => by simp) (fun hb => ?_)
  have hb0 : ¬ b = 0 := by simp at hb; omega
  have hbr : -1152921504606846976 ≤ b ∧ b ≤ 1152921504606846976 ∧ -1152921504606846976 ≤ a ∧ a ≤ 1152921504606846976 := by simp at hb; omega
  simp (disch := omega)
  refine wIf_intro (fun hn => ?_) (fun hn => ?_)
  · have hn' : b < 0 := by simpa using hn
    have hb1 : ¬ -b = 0 := by omega
    simp (disch := omega) [hb0, wrap64]
    refine wIf_intro (fun _ => ?_) (fun _ => ?_)
    · simp (disch := omega)
      refine wIf_intro (fun _ => ?_) (fun _ => ?_) <;> simp
    · simp (disch := omega)
      refine wIf_intro (fun _ => ?_) (fun _ => ?_) <;> simp
  · simp (disch := omega) [hb0]
    refine wIf_intro (fun _ => ?_) (fun _ => ?_)
    · simp (disch := omega)
      refine wIf_intro (fun _ => ?_) (fun _ => ?_) <;> simp
    · simp (disch := omega)
      refine wIf_intro (fun _ => ?_) (fun _ => ?_) <;> simp
theorem fslots (f : Fnt) : (fntC f).all V.leaf = true ∧ isMap (fntC f) = false ∧ slot (fntC f) 0 = some (.int .i64 f.u) ∧ slot (fntC f) 1 = some (.int .i64 f.a) ∧ slot (fntC f) 2 = some (.int .i64 f.d) ∧ slot (fntC f) 3 = some (.int .i64 f.g) ∧ slot (fntC f) 4 = some (.int .i64 f.df) ∧
    slot (fntC f) 5 = some (.lst (f.adv.map advC)) ∧ slot (fntC f) 6 = some (.lst (f.ker.map advC)) ∧ slot (fntC f) 7 = some (.lst (f.lig.map ligC)) ∧ (fntC f).length = 8 ∧ (fntC f).take 8 = fntC f := ⟨rfl, rfl, rfl, rfl, rfl, rfl, rfl, rfl, rfl, rfl, rfl, rfl⟩
theorem scaled_ex (hp : ∀ f, Np5 f → prim f = none) (f : Fnt) (size w : Int) :
    ∃ r, IsI .i64 r ∧ ∀ cfg h, callM md (K prim (d + 2)) cfg 68 [.agg (fntC f), .int .i64 size, .int .i64 w] h = some (r, h) := by
  refine call0e rfl (hp 68 (by decide)) Tryz.func68 rfl rfl rfl (by simp [fntC]) ?_
  obtain ⟨hlf, hmp, s0, s1, s2, s3, s4, s5, s6, s7, l8, t8⟩ := fslots f
  obtain ⟨_, ⟨z, rfl⟩, hR⟩ := round_ex (prim := prim) d hp (IntKind.i64.wrap (w * size)) f.u
  simp (disch := omega) [hlf, hmp, s0, hR]
theorem good_ok (hp : ∀ f, Np5 f → prim f = none) (f : Fnt) (h1 : f.adv.length ≤ 1000) (h2 : f.ker.length ≤ 1000) (h3 : f.lig.length ≤ 1000) (size : Int) :
    callM md (K prim (d + 3)) cfg 67 [.agg (fntC f), .int .i64 size] h = some (.bool (decide (val7S f = 0) && decide (1 ≤ size) && decide (size ≤ 1000)), h) := by
  refine call0 rfl (hp 67 (by decide)) Tryz.func67 rfl rfl rfl (by simp [fntC]) ?_
  obtain ⟨hlf, hmp, s0, s1, s2, s3, s4, s5, s6, s7, l8, t8⟩ := fslots f
  obtain ⟨_, rfl, hV⟩ := val7_ex (prim := prim) d hp f h1 h2 h3
  simp +contextual (disch := first | omega | (simp; done) | (simp [Decidable.imp_iff_not_or]; done) | fail) [-wG_bool, wG_q, wGq_some, gq_true, pickV_qA, hlf, hmp, l8, t8, hV]
set_option maxRecDepth 100000 in
set_option maxHeartbeats 4000000 in
theorem adv7_ex (hp : ∀ f, Np5 f → prim f = none) (f : Fnt) (h1 : f.adv.length ≤ 1000) (h2 : f.ker.length ≤ 1000) (h3 : f.lig.length ≤ 1000) (size r : Int) :
    ∃ v, IsI .i64 v ∧ ∀ cfg h, callM md (K prim (d + 4)) cfg 115 [.agg (fntC f), .int .i64 size, .int .i32 r] h = some (v, h) := by
  refine call0e rfl (hp 115 (by decide)) Tryz.func115 rfl rfl rfl (by simp [fntC]) ?_
  obtain ⟨hlf, hmp, s0, s1, s2, s3, s4, s5, s6, s7, l8, t8⟩ := fslots f
  have hG := fun cfg h => good_ok (prim := prim) d cfg h hp f h1 h2 h3 size
  have hB := fun cfg h r => rbrk_ok (prim := prim) (d + 1) cfg h hp r
  have hms : md 68 = 0 := rfl
  simp (disch := omega) [hlf, hmp, l8, t8, hG]
  refine wIf_intro (fun _ => by simp) (fun hb => ?_)
  simp +contextual (disch := first | omega | (simp; done) | (simp [Decidable.imp_iff_not_or]; done) | fail) [-wG_bool, wG_q, wGq_some, gq_true, pickV_qO, hB]
  refine wIf_intro (fun _ => by simp) (fun _ => ?_)
  simp (disch := omega)
  refine wC_loop (fun m fr H => ∃ (i : Nat), i ≤ f.adv.length ∧ m = f.adv.length - i ∧ H = [some (fntC f)] ∧ Slots 72 [(1, .int .i64 size), (2, .int .i32 r), (3, .ptr 0 0), (8, .int .i64 i)] fr) (m := f.adv.length) (by omega) ⟨0, by omega, by omega, rfl, by simp⟩ ?_
  rintro m fr H ⟨i, hi, rfl, rfl, hs⟩
  obtain ⟨j, rfl⟩ := hs.ex
  clear hs
  by_cases hlt : i < f.adv.length
  · have hI : (i : Int) < f.adv.length := by omega
    obtain ⟨x, hx⟩ : ∃ x, f.adv[i]? = some x := ⟨_, List.getElem?_eq_getElem hlt⟩
    obtain ⟨_, ⟨z, rfl⟩, hS⟩ := scaled_ex (prim := prim) (d + 1) hp f size x.2.2
    simp +contextual (disch := first | omega | (simp; done) | (simp [Decidable.imp_iff_not_or]; done) | fail) [-wG_bool, wG_q, wGq_some, gq_true, pickV_qA, -getElem?_pos, advC, hI, hx, hmp, s5]
    refine wIf_intro (fun _ => ?_) (fun _ => ?_)
    · simp
      refine wC_draw 8 (by kernel_rfl) ?_
      simp (disch := omega) [advC, hx, hmp, l8, t8, s5, hS, -getElem?_pos]
    · simp (disch := omega) [wrap64]
      exact Rnd_of (m' := f.adv.length - (i + 1)) (by omega) ⟨i + 1, by omega, by omega, rfl, by simp (disch := omega)⟩
  · have hI : ¬ (i : Int) < f.adv.length := by omega
    obtain ⟨_, ⟨z, rfl⟩, hS⟩ := scaled_ex (prim := prim) (d + 1) hp f size f.df
    simp (disch := omega) [hI, hmp, s4, s5, l8, t8, hS]
set_option maxRecDepth 100000 in
set_option maxHeartbeats 4000000 in
theorem kern7_ex (hp : ∀ f, Np5 f → prim f = none) (f : Fnt) (h1 : f.adv.length ≤ 1000) (h2 : f.ker.length ≤ 1000) (h3 : f.lig.length ≤ 1000) (size a b : Int) :
    ∃ v, IsI .i64 v ∧ ∀ cfg h, callM md (K prim (d + 4)) cfg 117 [.agg (fntC f), .int .i64 size, .int .i32 a, .int .i32 b] h = some (v, h) := by
  refine call0e rfl (hp 117 (by decide)) Tryz.func117 rfl rfl rfl (by simp [fntC]) ?_
  obtain ⟨hlf, hmp, s0, s1, s2, s3, s4, s5, s6, s7, l8, t8⟩ := fslots f
  have hG := fun cfg h => good_ok (prim := prim) d cfg h hp f h1 h2 h3 size
  have hms : md 68 = 0 := rfl
  simp (disch := omega) [hlf, hmp, l8, t8, hG]
  refine wIf_intro (fun _ => by simp) (fun hb => ?_)
  simp (disch := omega)
  refine wC_loop (fun m fr H => ∃ (i : Nat), i ≤ f.ker.length ∧ m = f.ker.length - i ∧ H = [some (fntC f)] ∧ Slots 48 [(1, .int .i64 size), (2, .int .i32 a), (3, .int .i32 b), (4, .ptr 0 0), (9, .int .i64 i)] fr) (m := f.ker.length) (by omega) ⟨0, by omega, by omega, rfl, by simp⟩ ?_
  rintro m fr H ⟨i, hi, rfl, rfl, hs⟩
  obtain ⟨j, rfl⟩ := hs.ex
  clear hs
  by_cases hlt : i < f.ker.length
  · have hI : (i : Int) < f.ker.length := by omega
    obtain ⟨x, hx⟩ : ∃ x, f.ker[i]? = some x := ⟨_, List.getElem?_eq_getElem hlt⟩
    obtain ⟨_, ⟨z, rfl⟩, hS⟩ := scaled_ex (prim := prim) (d + 1) hp f size x.2.2
    simp +contextual (disch := first | omega | (simp; done) | (simp [Decidable.imp_iff_not_or]; done) | fail) [-wG_bool, wG_q, wGq_some, gq_true, pickV_qA, -getElem?_pos, advC, hI, hx, hmp, s6]
    refine wIf_intro (fun _ => ?_) (fun _ => ?_)
    · simp
      refine wC_draw 8 (by kernel_rfl) ?_
      simp (disch := omega) [advC, hx, hmp, l8, t8, s6, hS, -getElem?_pos]
    · simp (disch := omega) [wrap64]
      exact Rnd_of (m' := f.ker.length - (i + 1)) (by omega) ⟨i + 1, by omega, by omega, rfl, by simp (disch := omega)⟩
  · have hI : ¬ (i : Int) < f.ker.length := by omega
    simp (disch := omega) [hI, hmp, s6]
theorem asc7_ex (hp : ∀ f, Np5 f → prim f = none) (f : Fnt) (h1 : f.adv.length ≤ 1000) (h2 : f.ker.length ≤ 1000) (h3 : f.lig.length ≤ 1000) (size : Int) :
    ∃ v, IsI .i64 v ∧ ∀ cfg h, callM md (K prim (d + 4)) cfg 38 [.agg (fntC f), .int .i64 size] h = some (v, h) := by
  refine call0e rfl (hp 38 (by decide)) Tryz.func38 rfl rfl rfl (by simp [fntC]) ?_
  obtain ⟨hlf, hmp, s0, s1, s2, s3, s4, s5, s6, s7, l8, t8⟩ := fslots f
  have hG := fun cfg h => good_ok (prim := prim) d cfg h hp f h1 h2 h3 size
  obtain ⟨_, ⟨z, rfl⟩, hS⟩ := scaled_ex (prim := prim) (d + 1) hp f size f.a
  obtain ⟨_, ⟨z2, rfl⟩, hS2⟩ := scaled_ex (prim := prim) (d + 1) hp f size f.d
  simp (disch := omega) [hlf, hmp, l8, t8, hG]
  refine wIf_intro (fun _ => by simp) (fun hb => ?_)
  simp +contextual (disch := first | omega | (simp; done) | (simp [Decidable.imp_iff_not_or]; done) | fail) [-wG_bool, wG_q, wGq_some, gq_true, pickV_qA, hmp, l8, t8, s1, s2, hS, hS2]
  exact wIf_intro (fun _ => by simp) (fun _ => by simp)
theorem desc7_ex (hp : ∀ f, Np5 f → prim f = none) (f : Fnt) (h1 : f.adv.length ≤ 1000) (h2 : f.ker.length ≤ 1000) (h3 : f.lig.length ≤ 1000) (size : Int) :
    ∃ v, IsI .i64 v ∧ ∀ cfg h, callM md (K prim (d + 4)) cfg 39 [.agg (fntC f), .int .i64 size] h = some (v, h) := by
  refine call0e rfl (hp 39 (by decide)) Tryz.func39 rfl rfl rfl (by simp [fntC]) ?_
  obtain ⟨hlf, hmp, s0, s1, s2, s3, s4, s5, s6, s7, l8, t8⟩ := fslots f
  have hG := fun cfg h => good_ok (prim := prim) d cfg h hp f h1 h2 h3 size
  obtain ⟨_, ⟨z2, rfl⟩, hS2⟩ := scaled_ex (prim := prim) (d + 1) hp f size f.d
  simp (disch := omega) [hlf, hmp, l8, t8, hG]
  refine wIf_intro (fun _ => by simp) (fun hb => ?_)
  simp (disch := omega) [hmp, l8, t8, s2, hS2]
theorem height7_ex (hp : ∀ f, Np5 f → prim f = none) (f : Fnt) (h1 : f.adv.length ≤ 1000) (h2 : f.ker.length ≤ 1000) (h3 : f.lig.length ≤ 1000) (size : Int) :
    ∃ v, IsI .i64 v ∧ ∀ cfg h, callM md (K prim (d + 5)) cfg 40 [.agg (fntC f), .int .i64 size] h = some (v, h) := by
  refine call0e rfl (hp 40 (by decide)) Tryz.func40 rfl rfl rfl (by simp [fntC]) ?_
  obtain ⟨hlf, hmp, s0, s1, s2, s3, s4, s5, s6, s7, l8, t8⟩ := fslots f
  have hG := fun cfg h => good_ok (prim := prim) (d + 1) cfg h hp f h1 h2 h3 size
  obtain ⟨_, ⟨z1, rfl⟩, hS1⟩ := asc7_ex (prim := prim) d hp f h1 h2 h3 size
  obtain ⟨_, ⟨z2, rfl⟩, hS2⟩ := desc7_ex (prim := prim) d hp f h1 h2 h3 size
  obtain ⟨_, ⟨z3, rfl⟩, hS3⟩ := scaled_ex (prim := prim) (d + 2) hp f size f.g
  have m1 : md 38 = 0 := rfl
  have m2 : md 39 = 0 := rfl
  have m3 : md 68 = 0 := rfl
  simp (disch := omega) [hlf, hmp, l8, t8, hG]
  refine wIf_intro (fun _ => by simp) (fun hb => ?_)
  simp (disch := omega)
  refine wC_draw 11 (by kernel_rfl) ?_
  simp (disch := omega) [hmp, l8, t8, s3, m1, m2, hS1, hS2, hS3]
set_option maxRecDepth 100000 in
set_option maxHeartbeats 4000000 in
theorem lig7_ex (hp : ∀ f, Np5 f → prim f = none) (f : Fnt) (h1 : f.adv.length ≤ 1000) (h2 : f.ker.length ≤ 1000) (h3 : f.lig.length ≤ 1000) (a b : Int) :
    ∃ v, (∃ (x : Int × Int × Int × Int) (o : Bool), v = .tup [.agg (ligC x), .bool o]) ∧ ∀ cfg h, callM md (K prim (d + 3)) cfg 114 [.agg (fntC f), .int .i32 a, .int .i32 b] h = some (v, h) := by
  refine call0e rfl (hp 114 (by decide)) Tryz.func114 rfl rfl rfl (by simp [fntC]) ?_
  obtain ⟨hlf, hmp, s0, s1, s2, s3, s4, s5, s6, s7, l8, t8⟩ := fslots f
  obtain ⟨_, rfl, hV⟩ := val7_ex (prim := prim) d hp f h1 h2 h3
  simp (disch := omega) [hlf, hmp, l8, t8, hV]
  refine wIf_intro (fun _ => ?_) (fun hb => ?_)
  · simp (disch := omega)
    exact ⟨0, 0, 0, 0, rfl⟩
  simp (disch := omega)
  refine wC_loop (fun m fr H => ∃ (i : Nat), i ≤ f.lig.length ∧ m = f.lig.length - i ∧ H = [some (fntC f), some [.int .i32 0, .int .i32 0, .int .i64 0, .int .i64 0]] ∧ Slots 44 [(1, .int .i32 a), (2, .int .i32 b), (3, .ptr 0 0), (6, .ptr 1 0), (8, .int .i64 i)] fr) (m := f.lig.length) (by omega) ⟨0, by omega, by omega, rfl, by simp⟩ ?_
  rintro m fr H ⟨i, hi, rfl, rfl, hs⟩
  obtain ⟨j, rfl⟩ := hs.ex
  clear hs
  by_cases hlt : i < f.lig.length
  · have hI : (i : Int) < f.lig.length := by omega
    obtain ⟨x, hx⟩ : ∃ x, f.lig[i]? = some x := ⟨_, List.getElem?_eq_getElem hlt⟩
    simp +contextual (disch := first | omega | (simp; done) | (simp [Decidable.imp_iff_not_or]; done) | fail) [-wG_bool, wG_q, wGq_some, gq_true, pickV_qA, -getElem?_pos, ligC, hI, hx, hmp, s7]
    refine wIf_intro (fun _ => ?_) (fun _ => ?_)
    · simp (disch := omega) [ligC, hx, hmp, s7, -getElem?_pos]
    · simp (disch := omega) [wrap64]
      exact Rnd_of (m' := f.lig.length - (i + 1)) (by omega) ⟨i + 1, by omega, by omega, rfl, by simp (disch := omega)⟩
  · have hI : ¬ (i : Int) < f.lig.length := by omega
    simp (disch := omega) [hI, hmp, s7]
    exact ⟨0, 0, 0, 0, rfl⟩
end
end Bi
end Go.Ab
namespace Go.Ab
open Go.Proofs
namespace Bi
attribute [local congr] wGq_congr
section
variable {prim : FuncId → Option Prim} (d : Nat) (cfg : Cfg) (h : Heap)
set_option maxRecDepth 100000 in
set_option maxHeartbeats 16000000 in
theorem forms_ex (hp : ∀ f, Np5 f → prim f = none) (t : List Int) (ht : t.length ≤ 2000) :
    ∃ r, (∃ l : List Int, r = il l ∧ l.length = t.length) ∧ ∀ cfg h, callM md (K prim (d + 3)) cfg 113 [rl t] h = some (r, h) := by
  refine call0e rfl (hp 113 (by decide)) Tryz.func113 rfl rfl rfl (by simp) ?_
  have hJ := fun cfg h r => rjoin_ok (prim := prim) d cfg h hp r
  have ht2 : ¬ (2000 : Int) < t.length := by omega
  simp (disch := omega) [ht2, zerosI]
  refine wC_loop (fun m fr H => ∃ (i : Nat) (l : List Int), i ≤ t.length ∧ m = t.length - i ∧ l.length = t.length ∧ H = [some (l.map (V.int .i64))] ∧
    Slots 120 [(0, rl t), (3, .sl 0 0 t.length t.length 1), (4, .int .i64 i)] fr) (m := t.length) (by omega) ⟨0, List.replicate t.length 0, by omega, by omega, by simp, by simp, by simp⟩ ?_
  rintro m fr H ⟨i, l, hi, rfl, hl, rfl, hs⟩
  obtain ⟨j, rfl⟩ := hs.ex
  clear hs
  by_cases hlt : i < t.length
  · have hI : (i : Int) < t.length := by omega
    have hle : i + 1 ≤ t.length := by omega
    simp +contextual (disch := first | omega | (simp; done) | (simp [Decidable.imp_iff_not_or]; done) | fail) [-wG_bool, wG_q, wGq_some, gq_true, pickV_qA, -getElem?_pos, hI, hJ, atI]
    refine wIf_intro (fun _ => ?_) (fun hj => ?_)
    · simp (disch := omega) [wrap64]
      exact Rnd_of (m' := t.length - (i + 1)) (by omega) ⟨i + 1, l, by omega, by omega, hl, rfl, (by first | (simp (disch := omega); done) | fail)⟩
    simp (disch := omega) [wrap64]
    refine wC_loop (fun m fr H => ∃ (q : Nat), q ≤ i ∧ m = q ∧ H = [some (l.map (V.int .i64))] ∧
      Slots 120 [(0, rl t), (3, .sl 0 0 t.length t.length 1), (4, .int .i64 i), (5, .int .i64 (rcl 4 (lgI t i))), (6, .int .i64 ((q : Int) - 1)), (7, .int .i64 ((i : Int) + 1))] fr) (m := i) (by omega) ⟨i, by omega, rfl, rfl, by simp⟩ ?_
    rintro m fr H ⟨q, hq, hmq, rfl, hs⟩
    replace hmq := hmq.symm
    subst hmq
    obtain ⟨j2, rfl⟩ := hs.ex
    clear hs
    simp +contextual (disch := first | omega | (simp; done) | (simp [Decidable.imp_iff_not_or]; done) | fail) [-wG_bool, wG_q, wGq_some, gq_true, pickV_qA, -getElem?_pos, hJ, atI]
    refine wIf_intro (fun hb => ?_) (fun _ => ?_)
    · have hq1 : 1 ≤ q := by simp at hb; omega
      simp (disch := omega) [wrap64]
      exact Rnd_of (m' := q - 1) (by omega) ⟨q - 1, by omega, rfl, rfl, by simp; omega⟩
    simp (disch := omega)
    refine wC_loop (fun m fr H => ∃ (p : Nat), i + 1 ≤ p ∧ p ≤ t.length ∧ m = t.length - p ∧ H = [some (l.map (V.int .i64))] ∧
      Slots 120 [(0, rl t), (3, .sl 0 0 t.length t.length 1), (4, .int .i64 i), (5, .int .i64 (rcl 4 (lgI t i))), (6, .int .i64 ((q : Int) - 1)), (7, .int .i64 p)] fr) (m := t.length - (i + 1)) (by omega) ⟨i + 1, by omega, by omega, rfl, rfl, by simp⟩ ?_
    rintro m fr H ⟨p, hp1, hp2, rfl, rfl, hs⟩
    obtain ⟨j3, rfl⟩ := hs.ex
    clear hs
    simp +contextual (disch := first | omega | (simp; done) | (simp [Decidable.imp_iff_not_or]; done) | fail) [-wG_bool, wG_q, wGq_some, gq_true, pickV_qA, -getElem?_pos, hJ, atI]
    refine wIf_intro (fun hb => ?_) (fun _ => ?_)
    · have hq1 : p < t.length := by simp at hb; omega
      simp (disch := omega) [wrap64]
      exact Rnd_of (m' := t.length - (p + 1)) (by omega) ⟨p + 1, by omega, by omega, by omega, rfl, by simp⟩
    simp (disch := omega)
    repeat' (first
      | exact Rnd_of (m' := t.length - (i + 1)) (by omega) ⟨i + 1, l, by omega, by omega, hl, rfl, (by first | (simp (disch := omega); done) | fail)⟩
      | exact Rnd_of (m' := t.length - (i + 1)) (by omega) ⟨i + 1, l.set i 3, by omega, by omega, by simp [hl], (by first | (simp; done) | fail), (by first | (simp (disch := omega); done) | fail)⟩
      | exact Rnd_of (m' := t.length - (i + 1)) (by omega) ⟨i + 1, l.set i 1, by omega, by omega, by simp [hl], (by first | (simp; done) | fail), (by first | (simp (disch := omega); done) | fail)⟩
      | exact Rnd_of (m' := t.length - (i + 1)) (by omega) ⟨i + 1, l.set i 2, by omega, by omega, by simp [hl], (by first | (simp; done) | fail), (by first | (simp (disch := omega); done) | fail)⟩
      | (refine wIf_intro (fun hb => ?_) (fun hb => ?_) <;> simp at hb)
      | simp +contextual (disch := first | omega | (simp; done) | (simp [Decidable.imp_iff_not_or]; done) | fail) [-wG_bool, wG_q, wGq_some, gq_true, gq_false, pickV_qA, pickV_qO, wrap64, -getElem?_pos, hJ, atI, hl, hle])
  · obtain rfl : i = t.length := by omega
    have f1 := frz_ints (h := [some (l.map (V.int .i64))]) (n := 0) (b := 0) (len := t.length) (cap := t.length) (d := 4) (k := .i64) (l := l) (by simp) (Nat.zero_le _) hl
    simp (disch := omega) [f1]
    exact ⟨l, rfl, hl⟩
end
end Bi
end Go.Ab
namespace Go.Ab
open Go.Proofs
namespace Bi
structure MOK (c M : List Int) : Prop where
  len : M.length = c.length
  at_ : ∀ (i : Nat) (x : Int), c[i]? = some x → ini x = true → M[i]? = some (mt c i)
theorem mt_at {c : List Int} {i : Nat} (h : i < c.length) : mt c i = -1 ∨ ∃ m : Nat, mt c i = m ∧ i < m ∧ m < c.length ∧ mscan (c.drop (i + 1)) 0 = some (m - (i + 1)) := by
  unfold mt
  cases hm : mscan (c.drop (i + 1)) 0 with
  | none => exact .inl rfl
  | some m =>
    have := mscan_lt _ _ _ hm
    simp at this
    refine .inr ⟨i + 1 + m, rfl, by omega, by omega, by congr 1; omega⟩
section
variable {P : Program} {md' : FuncId → Nat} {n : Nat} {prim : FuncId → Option Prim}
end
section
variable {prim : FuncId → Option Prim} (d : Nat) (cfg : Cfg) (h : Heap)
end
def Opens (c M : List Int) (i : Nat) (st : List Nat) : Prop := ∀ (q k : Nat), st[q]? = some k → k < i ∧ M[k]? = some (-1) ∧ mscan (c.drop (k + 1)) 0 = (mscan (c.drop i) q).map (· + (i - (k + 1)))
structure MI (c M : List Int) (i : Nat) (st : List Nat) : Prop where
  len : M.length = c.length
  op : Opens c M i st
  dec : st.Pairwise (· > ·)
  ok : ∀ (j : Nat) (x : Int), j < i → c[j]? = some x → ini x = true → j ∈ st ∨ M[j]? = some (mt c j)
theorem drop_at {c : List Int} {i : Nat} {x : Int} (hx : c[i]? = some x) : c.drop i = x :: c.drop (i + 1) := by
  have hil := (List.getElem?_eq_some_iff.1 hx).1
  rw [List.drop_eq_getElem_cons hil]
  congr 1
  exact (List.getElem?_eq_some_iff.1 hx).2
section
variable {prim : FuncId → Option Prim} (d : Nat)
end
end Bi
end Go.Ab
namespace Go.Ab
open Go.Proofs
namespace Bi
section
variable {prim : FuncId → Option Prim} (d : Nat) (cfg : Cfg) (h : Heap)
def baseS (B : Int → Int) (t : List Int) (base : Int) : Int := if base = 0 ∨ base = 1 then base else fs (t.map B)
end
end Bi
end Go.Ab
namespace Go.Ab
open Go.Proofs
namespace Bi
def encE (st : List Ent) : List V := st.reverse.flatMap fun a => [V.int .i64 a.1, V.int .i64 a.2.1, V.bool a.2.2]
theorem encE_cons (a : Ent) (st : List Ent) : encE (a :: st) = encE st ++ [V.int .i64 a.1, V.int .i64 a.2.1, V.bool a.2.2] := by simp [encE]
theorem encE_len (st : List Ent) : (encE st).length = st.length * 3 := by
  induction st with
  | nil => rfl
  | cons a st ih => rw [encE_cons, List.length_append, ih]; simp; omega
theorem encE_2 (a : Ent) (r : List Ent) (J : List V) : slot (encE (a :: r) ++ J) (r.length * 3 + 2) = some (.bool a.2.2) := by
  rw [← encE_len r, encE_cons, List.append_assoc, slot, List.getElem?_append_right (by omega)]
  simp
theorem encE_all (a : Ent) (r : List Ent) (J : List V) : ((encE (a :: r) ++ J).drop (r.length * 3)).take 3 = [V.int .i64 a.1, V.int .i64 a.2.1, V.bool a.2.2] := by
  rw [← encE_len r, encE_cons, List.append_assoc, List.drop_left]
  rfl
theorem encE_ge (a : Ent) (r : List Ent) (J : List V) : r.length * 3 + 3 ≤ (encE (a :: r)).length + J.length := by
  rw [encE_len]; simp; omega
section
variable {prim : FuncId → Option Prim} (d : Nat) (cfg : Cfg) (h : Heap)
end
end Bi
end Go.Ab
namespace Go.Ab
open Go.Proofs
namespace Bi
structure EW (e : Int) (i : Nat) (s : ES) : Prop where
  last : s.st.getLast? = some (e, -1, false)
  cnt : s.val = (s.st.filter fun a => a.2.2).length
  rng : ∀ a ∈ s.st, 0 ≤ a.1 ∧ a.1 ≤ 125 ∧ (a.2.1 = -1 ∨ a.2.1 = a.1 % 2)
  len : s.st.length ≤ i + 1
  iso : s.iso ≤ i
  emb : s.emb ≤ i
theorem EW.zero {e : Int} (he : 0 ≤ e ∧ e ≤ 1) : EW e 0 (es0 e) := ⟨rfl, rfl, by
  intro a ha
  simp [es0] at ha
  subst ha
  exact ⟨he.1, by omega, .inl rfl⟩, by simp [es0], by simp [es0], by simp [es0]⟩
theorem EW.up {e : Int} {i j : Nat} {s : ES} (h : EW e i s) (hj : i ≤ j) : EW e j s := ⟨h.last, h.cnt, h.rng, by have := h.len; omega, by have := h.iso; omega, by have := h.emb; omega⟩
theorem EW.cons {e : Int} {i : Nat} {s : ES} (h : EW e i s) : ∃ a r, s.st = a :: r := by
  have := h.last
  cases hs : s.st with
  | nil => rw [hs] at this; simp at this
  | cons a r => exact ⟨a, r, rfl⟩
theorem EW.val {e : Int} {i : Nat} {s : ES} (h : EW e i s) : s.val ≤ i + 1 := by
  have := h.cnt
  have := List.length_filter_le (fun a : Ent => a.2.2) s.st
  have := h.len
  omega
theorem nxt_rng {n : Int} (_h : 0 ≤ n) (odd : Bool) : n < nxt n odd ∧ nxt n odd ≤ n + 2 ∧ (nxt n odd % 2 = if odd then 1 else 0) := by
  unfold nxt
  cases odd
  · by_cases h0 : n % 2 = 0 <;> simp [h0] <;> omega
  · by_cases h0 : n % 2 = 0 <;> simp [h0] <;> omega
theorem EW.push {e : Int} {i : Nat} {s : ES} (h : EW e i s) (a : Ent) (ha : 0 ≤ a.1 ∧ a.1 ≤ 125 ∧ (a.2.1 = -1 ∨ a.2.1 = a.1 % 2)) (v : Nat) (hv : v = s.val + if a.2.2 then 1 else 0) : EW e (i + 1) { s with st := a :: s.st, val := v } := by
  obtain ⟨b, r, hs⟩ := h.cons
  refine ⟨?_, ?_, ?_, by have := h.len; simp; omega, by have := h.iso; simp; omega, by have := h.emb; simp; omega⟩
  · have := h.last
    rw [hs] at this ⊢
    rw [List.getLast?_cons_cons]
    exact this
  · simp only [List.filter_cons]
    rw [hv, h.cnt]
    split <;> simp
  · intro x hx
    rcases List.mem_cons.1 hx with rfl | hx
    · exact ha
    · exact h.rng x hx
theorem EW.tail {e : Int} {i : Nat} {s : ES} (h : EW e i s) (hl : 1 < s.st.length) (ht : (topE s.st).2.2 = false) : EW e i { s with st := s.st.tail } := by
  obtain ⟨b, r, hs⟩ := h.cons
  have h1 := h.last
  have h2 := h.cnt
  have h3 := h.len
  rw [hs] at h1 h2 ht hl h3
  obtain ⟨b2, r2, rfl⟩ : ∃ b2 r2, r = b2 :: r2 := by
    cases r with
    | nil => simp at hl
    | cons b2 r2 => exact ⟨b2, r2, rfl⟩
  simp only [topE] at ht
  refine ⟨?_, ?_, ?_, ?_, h.iso, h.emb⟩
  · rw [hs]; rw [List.getLast?_cons_cons] at h1; exact h1
  · rw [hs, h2]; simp [List.filter_cons, ht]
  · intro x hx
    rw [hs] at hx
    exact h.rng x (by rw [hs]; exact List.mem_cons_of_mem _ hx)
  · rw [hs]; simp at h3 ⊢; omega
theorem popI_ok : ∀ (st : List Ent) (e : Int), st.getLast? = some (e, -1, false) → 0 < (st.filter fun a => a.2.2).length →
    (popI st).getLast? = some (e, -1, false) ∧ ((popI st).filter fun a => a.2.2).length + 1 = (st.filter fun a => a.2.2).length ∧ (∀ a ∈ popI st, a ∈ st) ∧ (popI st).length < st.length
  | [], e, h, _ => by simp at h
  | a :: r, e, h, hf => by
    have hr : r ≠ [] := by
      rintro rfl
      simp at h
      subst h
      simp at hf
    obtain ⟨b, r', rfl⟩ : ∃ b r', r = b :: r' := by
      cases r with
      | nil => exact absurd rfl hr
      | cons b r' => exact ⟨b, r', rfl⟩
    rw [List.getLast?_cons_cons] at h
    cases ha : a.2.2
    · have e1 : popI (a :: b :: r') = popI (b :: r') := by rw [popI, ha]; rfl
      have e2 : (a :: b :: r').filter (fun a => a.2.2) = (b :: r').filter fun a => a.2.2 := by rw [List.filter_cons, ha]; rfl
      rw [e2] at hf ⊢
      rw [e1]
      obtain ⟨h1, h2, h3, h4⟩ := popI_ok (b :: r') e h hf
      exact ⟨h1, h2, fun x hx => List.mem_cons_of_mem _ (h3 x hx), by simp at h4 ⊢; omega⟩
    · have e1 : popI (a :: b :: r') = b :: r' := by rw [popI, ha]; rfl
      have e2 : (a :: b :: r').filter (fun a => a.2.2) = a :: (b :: r').filter fun a => a.2.2 := by rw [List.filter_cons, ha]; rfl
      rw [e1, e2]
      exact ⟨h, by simp, fun x hx => List.mem_cons_of_mem _ hx, by simp⟩
theorem EW.step {e : Int} {i : Nat} {s : ES} (h : EW e i s) (x : Int) (odd : Bool) : EW e (i + 1) (exStep e x odd s).2.2 := by
  obtain ⟨a, r, hs⟩ := h.cons
  have ha := h.rng a (by rw [hs]; exact List.mem_cons_self ..)
  have ht : topE s.st = a := by rw [hs]; rfl
  unfold exStep
  split
  · rename_i hx
    simp only
    split
    · rename_i hc
      have hn := nxt_rng ha.1 (decide (x = 16 ∨ x = 17))
      rw [ht] at hc ⊢
      refine h.push (nxt a.1 (decide (x = 16 ∨ x = 17)), ovOf x, false) ⟨by simp only; omega, hc.1, ?_⟩ s.val (by simp)
      simp only
      rw [hn.2.2]
      unfold ovOf
      rcases hx with rfl | rfl | rfl | rfl <;> simp
    · split
      · refine ⟨h.last, h.cnt, h.rng, by have := h.len; simp; omega, by have := h.iso; simp; omega, by have := h.emb; simp; omega⟩
      · exact h.up (by omega)
  · split
    · simp only
      split
      · rename_i hc
        have hn := nxt_rng ha.1 odd
        rw [ht] at hc ⊢
        exact h.push (nxt a.1 odd, -1, true) ⟨by simp only; omega, hc.1, .inl rfl⟩ (s.val + 1) (by simp)
      · refine ⟨h.last, h.cnt, h.rng, by have := h.len; simp; omega, by have := h.iso; simp; omega, by have := h.emb; simp; omega⟩
    · split
      · simp only
        split
        · refine ⟨h.last, h.cnt, h.rng, by have := h.len; simp; omega, by have := h.iso; simp; omega, by have := h.emb; simp; omega⟩
        · split
          · rename_i hv
            obtain ⟨h1, h2, h3, h4⟩ := popI_ok s.st e h.last (by rw [← h.cnt]; exact hv)
            refine ⟨h1, ?_, fun a ha => h.rng a (h3 a ha), by have := h.len; simp; omega, by have := h.iso; simp; omega, by simp⟩
            have := h.cnt
            simp only
            omega
          · exact h.up (by omega)
      · split
        · simp only
          split
          · exact h.up (by omega)
          · split
            · refine ⟨h.last, h.cnt, h.rng, by have := h.len; simp; omega, by have := h.iso; simp; omega, by have := h.emb; simp; omega⟩
            · split
              · rename_i hc
                exact (h.tail hc.2 hc.1).up (by omega)
              · exact h.up (by omega)
        · split
          · exact h.up (by omega)
          · split <;> exact h.up (by omega)
structure EI (e : Int) (o : List Int) (i : Nat) (c lv : List Int) (s : ES) : Prop where
  w : EW e i s
  cl : c.length = o.length
  ll : lv.length = o.length
  ct : ∀ j, j < i → c[j]? = ((expl e o)[j]?).map (·.2)
  cd : ∀ j, i ≤ j → c[j]? = o[j]?
  lt : ∀ j, j < i → lv[j]? = ((expl e o)[j]?).map (·.1)
  rest : ∀ k, (expl e o)[i + k]? = (exGo e (o.drop i) s)[k]?
theorem exGo_len (e : Int) : ∀ (l : List Int) (s : ES), (exGo e l s).length = l.length
  | [], _ => rfl
  | x :: l, s => by simp [exGo, exGo_len e l]
theorem expl_len (e : Int) (o : List Int) : (expl e o).length = o.length := exGo_len e o _
section
variable {P : Program} {md' : FuncId → Nat} {call : Callf}
end
end Bi
end Go.Ab
namespace Go.Ab
open Go.Proofs
namespace Bi
@[simp] theorem wr_lo0 {ex : Option Nat} {q b : Nat} : (Cfg.wr ⟨0, ex, q⟩ b) = true := by simp [Cfg.wr]
section
variable {prim : FuncId → Option Prim} (d : Nat)
end
end Bi
end Go.Ab
namespace Go.Ab.Bi
def nx (y : Int) : Int := if ini y = true ∨ y = 22 then 13 else y
def w1 : Int → List Int → List Int
  | _, [] => []
  | p, x :: r => (if x = 8 then p else x) :: w1 (nx (if x = 8 then p else x)) r
def w2 : Int → List Int → List Int
  | _, [] => []
  | l, x :: r => if x = 0 ∨ x = 1 ∨ x = 2 then x :: w2 x r else if x = 3 ∧ l = 2 then 6 :: w2 l r else x :: w2 l r
def w3 (s : List Int) : List Int := s.map fun x => if x = 2 then 1 else x
def w4c (p x y : Int) : Int := if x = 4 ∧ p = 3 ∧ y = 3 ∨ x = 7 ∧ p = y ∧ (p = 3 ∨ p = 6) then p else x
def w4 : Int → List Int → List Int
  | _, [] => []
  | p, x :: r => w4c p x (r.headD (-1)) :: w4 (w4c p x (r.headD (-1))) r
def w5 : Int → Nat → List Int → List Int
  | p, n, [] => List.replicate n (if p = 3 then 3 else 5)
  | p, n, x :: r => if x = 5 then w5 p (n + 1) r else List.replicate n (if p = 3 ∨ x = 3 then 3 else 5) ++ x :: w5 x 0 r
def w6 : Int → List Int → List Int
  | _, [] => []
  | l, x :: r => if x = 4 ∨ x = 5 ∨ x = 7 then 13 :: w6 l r else if x = 0 ∨ x = 1 then x :: w6 x r else if x = 3 ∧ l = 0 then 0 :: w6 l r else x :: w6 l r
def weakS (start : Int) (s : List Int) : List Int := w6 start (w5 (-1) 0 (w4 (-1) (w3 (w2 start (w1 start s)))))
theorem w5_run (p : Int) : ∀ (k n : Nat) (r : List Int), w5 p k (List.replicate n 5 ++ r) = w5 p (k + n) r
  | _, 0, _ => rfl
  | k, n + 1, r => by
    rw [List.replicate_succ, List.cons_append, w5, if_pos rfl, w5_run p (k + 1) n r, show k + 1 + n = k + (n + 1) by omega]
theorem w5_end (p q : Int) (n : Nat) (r : List Int) (h : r.headD (-1) ≠ 5) : w5 p n r = List.replicate n (if p = 3 ∨ r.headD (-1) = 3 then 3 else 5) ++ w5 q 0 r := by
  rcases r with _ | ⟨y, r⟩
  · simp [w5]
  · simp at h
    simp [w5, h]
structure WB (c : List Int) (l s c' : List Int) : Prop where
  len : c'.length = c.length
  at_ : ∀ (k : Nat) (i : Int), l[k]? = some i → c'[i.toNat]? = s[k]?
  oth : ∀ j : Nat, (j : Int) ∉ l → c'[j]? = c[j]?
  sl : s.length = l.length
structure Pl (n : Nat) (l : List Int) : Prop where
  rng : ∀ i ∈ l, 0 ≤ i ∧ i < n
  nd : l.Nodup
theorem Pl.at_ {n : Nat} {l : List Int} (h : Pl n l) {k : Nat} (hk : k < l.length) : ∃ i : Nat, l[k]? = some (i : Int) ∧ i < n := by
  have hm := h.rng l[k] (List.getElem_mem hk)
  exact ⟨l[k].toNat, by rw [List.getElem?_eq_getElem hk]; congr 1; omega, by omega⟩
theorem WB.start {c l : List Int} (h : Pl c.length l) : WB c l (l.map (lvl c)) c := by
  refine ⟨rfl, fun k i hk => ?_, fun _ _ => rfl, by simp⟩
  have hm := h.rng i (List.mem_of_getElem? hk)
  rw [List.getElem?_map, hk]
  simp only [Option.map_some, lvl, List.getD_eq_getElem?_getD]
  rw [List.getElem?_eq_getElem (by omega)]
  rfl
theorem WB.set {c l s c' : List Int} (h : WB c l s c') (hp : Pl c.length l) {k i : Nat} (hk : l[k]? = some (i : Int)) (x : Int) : WB c l (s.set k x) (c'.set i x) := by
  have hl := h.len
  have hm := hp.rng i (List.mem_of_getElem? hk)
  have hkl := (List.getElem?_eq_some_iff.1 hk).1
  refine ⟨by simpa using h.len, fun q j hq => ?_, fun j hj => ?_, by simpa using h.sl⟩
  · by_cases e : k = q
    · subst e
      rw [hk] at hq
      cases hq
      rw [List.getElem?_set_self (by have := h.sl; omega), Int.toNat_natCast, List.getElem?_set_self (by omega)]
    · have hne : (i : Int) ≠ j := by
        intro e2
        subst e2
        have hql := (List.getElem?_eq_some_iff.1 hq).1
        have h1 : l[k] = l[q] := by
          have e3 := (List.getElem?_eq_some_iff.1 hk).2
          have e4 := (List.getElem?_eq_some_iff.1 hq).2
          rw [e3, e4]
        exact e ((List.getElem_inj hp.nd).1 h1)
      have hjm := hp.rng j (List.mem_of_getElem? hq)
      rw [List.getElem?_set_ne e, List.getElem?_set_ne (by omega)]
      exact h.at_ q j hq
  · have : i ≠ j := by
      rintro rfl
      exact hj (List.mem_of_getElem? hk)
    rw [List.getElem?_set_ne this]
    exact h.oth j hj
theorem set_app {dn td : List Int} {x y : Int} : (dn ++ x :: td).set dn.length y = dn ++ y :: td := by
  rw [List.set_append_right _ _ (Nat.le_refl _)]
  simp
end Go.Ab.Bi
