/- The check of a font, of the program. -/
import Derived.Test.YtoappddifbgegaaGreatPaVal
set_option linter.all false
namespace Go.Ab
open Go.Proofs
namespace Bi
attribute [local congr] wGq_congr
theorem fsl (f : Fnt) : (fntC f).all V.leaf = true ∧ isMap (fntC f) = false ∧ (fntC f).length = 8 ∧ (fntC f).take 8 = fntC f ∧ slot (fntC f) 0 = some (.int .i64 f.u) ∧ slot (fntC f) 1 = some (.int .i64 f.a) ∧ slot (fntC f) 2 = some (.int .i64 f.d) ∧
    slot (fntC f) 3 = some (.int .i64 f.g) ∧ slot (fntC f) 4 = some (.int .i64 f.df) ∧ slot (fntC f) 5 = some (.lst (f.adv.map advC)) ∧ slot (fntC f) 6 = some (.lst (f.ker.map advC)) ∧ slot (fntC f) 7 = some (.lst (f.lig.map ligC)) := ⟨rfl, rfl, rfl, rfl, rfl, rfl, rfl, rfl, rfl, rfl, rfl, rfl⟩
section
variable {prim : FuncId → Option Prim} (d : Nat) (cfg : Cfg) (h : Heap)
set_option maxRecDepth 100000 in
set_option maxHeartbeats 8000000 in
theorem ranges_ex (hp : ∀ f, Np5 f → prim f = none) (f : Fnt) (h1 : f.adv.length ≤ 1000) (h2 : f.ker.length ≤ 1000) (h3 : f.lig.length ≤ 1000) :
    ∃ r, (∃ b : Bool, r = .bool b ∧ (b = true ↔ rngOK f)) ∧ ∀ cfg h, callM md (K prim (d + 2)) cfg 65 [.agg (fntC f)] h = some (r, h) := by
  refine call0e rfl (hp 65 (by decide)) Tryz.func65 rfl rfl rfl (by simp [fntC]) ?_
  have hM := fun cfg h x a b => within_ok (prim := prim) d cfg h hp x a b
  have hV := fun cfg h x => isr_ok (prim := prim) d cfg h hp x
  obtain ⟨hlf, hmp, l8, t8, s0, s1, s2, s3, s4, s5, s6, s7⟩ := fsl f
  have hbF : ∀ Y : Heap, blockOf (some (fntC f) :: Y) 0 = some (fntC f) := fun Y => rfl
  simp +contextual (disch := first | omega | (simp; done) | (simp [Decidable.imp_iff_not_or]; done) | fail) [-wG_bool, wG_q, wG_q2, wGq_some, wGq_true, wGq_false, gq_true, gq_false, pickV_qA, pickV_qO, hlf, hmp, hM, s0, s1, s2, s3, s4]
  refine wIf_intro (fun hb => ?_) (fun hb => ?_)
  · have hn : ¬ rngOK f := fun g => by have := g.1; unfold numOK at this; simp at hb; omega
    simp [hn]
  have hnum : numOK f := by unfold numOK; simp at hb; omega
  clear hb
  simp +contextual (disch := first | omega | (simp; done) | (simp [Decidable.imp_iff_not_or]; done) | fail) [-wG_bool, wG_q, wG_q2, wGq_some, wGq_true, wGq_false, gq_true, gq_false, pickV_qA, pickV_qO, hmp, s5]
  refine wC_loop (fun m fr H => ∃ (i : Nat) (Y : Heap), i ≤ f.adv.length ∧ m = f.adv.length - i ∧ (∀ x ∈ f.adv.take i, okA x) ∧ H = some (fntC f) :: Y ∧ Slots 123 [(1, .ptr 0 0), (46, .lst (f.adv.map advC)), (47, .int .i64 f.adv.length), (48, .int .i64 i)] fr) (m := f.adv.length) (by omega) ⟨0, _, by omega, by omega, by simp, rfl, by simp⟩ ?_
  rintro m fr H ⟨i, Y, hi, rfl, hg, rfl, hs⟩
  obtain ⟨j, rfl⟩ := hs.ex
  clear hs
  by_cases hlt : i < f.adv.length
  · have hI : (i : Int) < f.adv.length := by omega
    obtain ⟨x, hx⟩ : ∃ x, f.adv[i]? = some x := ⟨_, List.getElem?_eq_getElem hlt⟩
    simp +contextual (disch := first | omega | (simp; done) | (simp [Decidable.imp_iff_not_or]; done) | fail) [-wG_bool, wG_q, wG_q2, wGq_some, wGq_true, wGq_false, gq_true, gq_false, pickV_qA, pickV_qO, wrap64, -getElem?_pos, advC, hI, hx, hV, hM]
    refine wIf_intro (fun hb => ?_) (fun hb => ?_)
    · have hn : ¬ rngOK f := fun g => by have := g.2.1 x (List.mem_of_getElem? hx); unfold okA at this; simp at hb; omega
      simp [hn]
    · have hok : okA x := by unfold okA; simp at hb; omega
      simp (disch := omega) [wrap64]
      exact Rnd_of (m' := f.adv.length - (i + 1)) (by omega) ⟨i + 1, _, by omega, by omega, take_ok hg hx hok, rfl, by simp (disch := omega)⟩
  obtain rfl : i = f.adv.length := by omega
  rw [List.take_length] at hg
  have hadv := hg
  clear hg hi hlt
  simp +contextual (disch := first | omega | (simp; done) | (simp [Decidable.imp_iff_not_or]; done) | fail) [-wG_bool, wG_q, wG_q2, wGq_some, wGq_true, wGq_false, gq_true, gq_false, pickV_qA, pickV_qO, hbF, hmp, s6]
  refine wC_loop (fun m fr H => ∃ (i : Nat) (Y : Heap), i ≤ f.ker.length ∧ m = f.ker.length - i ∧ (∀ x ∈ f.ker.take i, okK x) ∧ H = some (fntC f) :: Y ∧ Slots 123 [(1, .ptr 0 0), (70, .lst (f.ker.map advC)), (71, .int .i64 f.ker.length), (72, .int .i64 i)] fr) (m := f.ker.length) (by omega) ⟨0, _, by omega, by omega, by simp, rfl, by simp⟩ ?_
  rintro m fr H ⟨i, Y, hi, rfl, hg, rfl, hs⟩
  obtain ⟨j, rfl⟩ := hs.ex
  clear hs
  by_cases hlt : i < f.ker.length
  · have hI : (i : Int) < f.ker.length := by omega
    obtain ⟨x, hx⟩ : ∃ x, f.ker[i]? = some x := ⟨_, List.getElem?_eq_getElem hlt⟩
    simp +contextual (disch := first | omega | (simp; done) | (simp [Decidable.imp_iff_not_or]; done) | fail) [-wG_bool, wG_q, wG_q2, wGq_some, wGq_true, wGq_false, gq_true, gq_false, pickV_qA, pickV_qO, wrap64, -getElem?_pos, advC, hI, hx, hV, hM]
    refine wIf_intro (fun hb => ?_) (fun hb => ?_)
    · have hn : ¬ rngOK f := fun g => by have := g.2.2.1 x (List.mem_of_getElem? hx); unfold okK at this; simp at hb; omega
      simp [hn]
    · have hok : okK x := by unfold okK; simp at hb; omega
      simp (disch := omega) [wrap64]
      exact Rnd_of (m' := f.ker.length - (i + 1)) (by omega) ⟨i + 1, _, by omega, by omega, take_ok hg hx hok, rfl, by simp (disch := omega)⟩
  obtain rfl : i = f.ker.length := by omega
  rw [List.take_length] at hg
  have hker := hg
  clear hg hi hlt
  simp +contextual (disch := first | omega | (simp; done) | (simp [Decidable.imp_iff_not_or]; done) | fail) [-wG_bool, wG_q, wG_q2, wGq_some, wGq_true, wGq_false, gq_true, gq_false, pickV_qA, pickV_qO, hbF, hmp, s7]
  refine wC_loop (fun m fr H => ∃ (i : Nat) (Y : Heap), i ≤ f.lig.length ∧ m = f.lig.length - i ∧ (∀ x ∈ f.lig.take i, okG x) ∧ H = some (fntC f) :: Y ∧ Slots 123 [(94, .lst (f.lig.map ligC)), (95, .int .i64 f.lig.length), (96, .int .i64 i)] fr) (m := f.lig.length) (by omega) ⟨0, _, by omega, by omega, by simp, rfl, by simp⟩ ?_
  rintro m fr H ⟨i, Y, hi, rfl, hg, rfl, hs⟩
  obtain ⟨j, rfl⟩ := hs.ex
  clear hs
  by_cases hlt : i < f.lig.length
  · have hI : (i : Int) < f.lig.length := by omega
    obtain ⟨x, hx⟩ : ∃ x, f.lig[i]? = some x := ⟨_, List.getElem?_eq_getElem hlt⟩
    simp +contextual (disch := first | omega | (simp; done) | (simp [Decidable.imp_iff_not_or]; done) | fail) [-wG_bool, wG_q, wG_q2, wGq_some, wGq_true, wGq_false, gq_true, gq_false, pickV_qA, pickV_qO, wrap64, -getElem?_pos, ligC, hI, hx, hV, hM]
    refine wIf_intro (fun hb => ?_) (fun hb => ?_)
    · have hn : ¬ rngOK f := fun g => by have := g.2.2.2 x (List.mem_of_getElem? hx); unfold okG at this; simp at hb; omega
      simp [hn]
    · have hok : okG x := by unfold okG; simp at hb; omega
      simp (disch := omega) [wrap64]
      exact Rnd_of (m' := f.lig.length - (i + 1)) (by omega) ⟨i + 1, _, by omega, by omega, take_ok hg hx hok, rfl, by simp (disch := omega)⟩
  obtain rfl : i = f.lig.length := by omega
  rw [List.take_length] at hg
  have hlig := hg
  clear hg hi hlt
  have hr : rngOK f := ⟨hnum, hadv, hker, hlig⟩
  simp [hr]
theorem md_pair : md 111 = 0 := rfl
set_option maxRecDepth 100000 in
set_option maxHeartbeats 8000000 in
theorem ordered_ex (hp : ∀ f, Np5 f → prim f = none) (f : Fnt) (hr : ∀ x ∈ f.adv, 0 ≤ x.1) (h1 : f.adv.length ≤ 1000) (h2 : f.ker.length ≤ 1000) (h3 : f.lig.length ≤ 1000) :
    ∃ r, (∃ b : Bool, r = .bool b ∧ (b = true ↔ ordOK f)) ∧ ∀ cfg h, callM md (K prim (d + 4)) cfg 66 [.agg (fntC f)] h = some (r, h) := by
  refine call0e rfl (hp 66 (by decide)) Tryz.func66 rfl rfl rfl (by simp [fntC]) ?_
  have hA := fun cfg h a b c e => pair_ok (prim := prim) d cfg h hp a b c e
  obtain ⟨hlf, hmp, l8, t8, s0, s1, s2, s3, s4, s5, s6, s7⟩ := fsl f
  have hbF : ∀ Y : Heap, blockOf (some (fntC f) :: Y) 0 = some (fntC f) := fun Y => rfl
  have hm := md_pair
  simp (disch := omega) [hlf, hmp, s5]
  refine wC_loop (fun m fr H => ∃ (i : Nat) (Y : Heap) (last : Int), i ≤ f.adv.length ∧ m = f.adv.length - i ∧ (∀ (q : Nat) x, q < i → f.adv[q]? = some x → x.1 ≤ x.2.1 ∧ ∀ y, 0 < q → f.adv[q - 1]? = some y → y.2.1 < x.1) ∧ (i = 0 → last = -1) ∧ (∀ y, 0 < i → f.adv[i - 1]? = some y → last = y.2.1) ∧ H = some (fntC f) :: Y ∧
    Slots 99 [(1, .ptr 0 0), (3, .int .i32 last), (9, .lst (f.adv.map advC)), (10, .int .i64 f.adv.length), (11, .int .i64 i)] fr) (m := f.adv.length) (by omega) ⟨0, _, -1, by omega, by omega, fun q x h => by omega, fun _ => rfl, fun y h => by omega, rfl, by simp⟩ ?_
  rintro m fr H ⟨i, Y, last, hi, rfl, hg, hl0, hl1, rfl, hs⟩
  obtain ⟨j, rfl⟩ := hs.ex
  clear hs
  by_cases hlt : i < f.adv.length
  · have hI : (i : Int) < f.adv.length := by omega
    obtain ⟨x, hx⟩ : ∃ x, f.adv[i]? = some x := ⟨_, List.getElem?_eq_getElem hlt⟩
    have hx0 := hr x (List.mem_of_getElem? hx)
    simp +contextual (disch := first | omega | (simp; done) | (simp [Decidable.imp_iff_not_or]; done) | fail) [-wG_bool, wG_q, wG_q2, wGq_some, wGq_true, wGq_false, gq_true, gq_false, pickV_qA, pickV_qO, wrap64, -getElem?_pos, advC, hI, hx]
    refine wIf_intro (fun hb => ?_) (fun hb => ?_)
    · have hn : ¬ ordOK f := fun g => by
        have h4 := g.1 i x hx
        rcases i with _ | i
        · have := hl0 rfl
          simp at hb
          omega
        · obtain ⟨y, hy⟩ : ∃ y, f.adv[i]? = some y := ⟨_, List.getElem?_eq_getElem (by omega)⟩
          have h5 := h4.2 y (by omega) hy
          have h6 := hl1 y (by omega) hy
          simp at hb
          omega
      simp [hn]
    · simp (disch := omega) [wrap64, hx]
      refine Rnd_of (m' := f.adv.length - (i + 1)) (by omega) ⟨i + 1, _, x.2.1, by omega, by omega, fun q z hq hz => ?_, fun h => by omega, fun y _ hy => by simp [hx] at hy; rw [hy], rfl, by simp (disch := omega)⟩
      by_cases hqi : q = i
      · subst hqi
        rw [hx] at hz
        cases hz
        refine ⟨by simp at hb; omega, fun y hq0 hy => ?_⟩
        have h6 := hl1 y hq0 hy
        simp at hb
        omega
      · exact hg q z (by omega) hz
  obtain rfl : i = f.adv.length := by omega
  have hordA : ordA f.adv := fun q x hq => hg q x (List.getElem?_eq_some_iff.1 hq).1 hq
  clear hg hi hl0 hl1 hlt
  simp +contextual (disch := first | omega | (simp; done) | (simp [Decidable.imp_iff_not_or]; done) | fail) [-wG_bool, wG_q, wG_q2, wGq_some, wGq_true, wGq_false, gq_true, gq_false, pickV_qA, pickV_qO, hbF, hmp, s6]
  refine wC_loop (fun m fr H => ∃ (i : Nat) (Y : Heap), m = f.ker.length - i ∧ (∀ (q : Nat) x y, q < i → f.ker[q]? = some x → f.ker[q + 1]? = some y → x.1 < y.1 ∨ x.1 = y.1 ∧ x.2.1 < y.2.1) ∧ H = some (fntC f) :: Y ∧ i ≤ f.ker.length ∧ Slots 99 [(1, .ptr 0 0), (6, .int .i64 ((i : Int) + 1))] fr) (m := f.ker.length) (by omega) ⟨0, _, by omega, fun q x y h => by omega, rfl, by omega, by simp⟩ ?_
  rintro m fr H ⟨i, Y, rfl, hg, rfl, hi, hs⟩
  obtain ⟨j, rfl⟩ := hs.ex
  clear hs
  by_cases hlt : i + 1 < f.ker.length
  · have hI : (i : Int) + 1 < f.ker.length := by omega
    obtain ⟨x, hx⟩ : ∃ x, f.ker[i]? = some x := ⟨_, List.getElem?_eq_getElem (by omega)⟩
    obtain ⟨y, hy⟩ : ∃ y, f.ker[i + 1]? = some y := ⟨_, List.getElem?_eq_getElem hlt⟩
    have hn1 : ((i : Int) + 1).toNat = i + 1 := by omega
    simp (disch := omega) [hI, hmp, s6]
    refine wC_draw 26 (by kernel_rfl) ?_
    simp (disch := omega) [advC, hm, hA, hx, hy, hn1, wrap64, -getElem?_pos, hmp, s6]
    refine wIf_intro (fun hw => ?_) (fun hw => ?_)
    · have hb : ¬ (x.1 < y.1 ∨ x.1 = y.1 ∧ x.2.1 < y.2.1) := pairS_neg.1 (by simpa using hw)
      have hn : ¬ ordOK f := fun g => hb (g.2.1 i (x.1, x.2.1) (y.1, y.2.1) (by rw [List.getElem?_map, hx]; rfl) (by rw [List.getElem?_map, hy]; rfl))
      simp [hn]
    · have hb : x.1 < y.1 ∨ x.1 = y.1 ∧ x.2.1 < y.2.1 := by
        have h4 : ¬ 0 ≤ pairS x.1 x.2.1 y.1 y.2.1 := by simpa using hw
        rw [pairS_neg] at h4
        exact Decidable.not_not.1 h4
      simp (disch := omega) [wrap64]
      refine Rnd_of (m' := f.ker.length - (i + 1)) (by omega) ⟨i + 1, _, rfl, fun q u v hq hu hv => ?_, rfl, by omega, by simp (disch := omega)⟩
      by_cases hqi : q = i
      · subst hqi
        rw [hx] at hu
        rw [hy] at hv
        cases hu
        cases hv
        exact hb
      · exact hg q u v (by omega) hu hv
  have hI : ¬ (i : Int) + 1 < f.ker.length := by omega
  have hordker : ordK (f.ker.map fun x => (x.1, x.2.1)) := fun q u v hu hv => by
    rw [List.getElem?_map, Option.map_eq_some_iff] at hu hv
    obtain ⟨u', hu', rfl⟩ := hu
    obtain ⟨v', hv', rfl⟩ := hv
    have := (List.getElem?_eq_some_iff.1 hv').1
    exact hg q u' v' (by omega) hu' hv'
  clear hg
  simp (disch := omega) [hI, s6, hmp]
  refine wC_loop (fun m fr H => ∃ (i : Nat) (Y : Heap), m = f.lig.length - i ∧ (∀ (q : Nat) x y, q < i → f.lig[q]? = some x → f.lig[q + 1]? = some y → x.1 < y.1 ∨ x.1 = y.1 ∧ x.2.1 < y.2.1) ∧ H = some (fntC f) :: Y ∧ i ≤ f.lig.length ∧ Slots 99 [(1, .ptr 0 0), (7, .int .i64 ((i : Int) + 1))] fr) (m := f.lig.length) (by omega) ⟨0, _, by omega, fun q x y h => by omega, rfl, by omega, by simp⟩ ?_
  rintro m fr H ⟨i, Y, rfl, hg, rfl, hi, hs⟩
  obtain ⟨j, rfl⟩ := hs.ex
  clear hs
  by_cases hlt : i + 1 < f.lig.length
  · have hI : (i : Int) + 1 < f.lig.length := by omega
    obtain ⟨x, hx⟩ : ∃ x, f.lig[i]? = some x := ⟨_, List.getElem?_eq_getElem (by omega)⟩
    obtain ⟨y, hy⟩ : ∃ y, f.lig[i + 1]? = some y := ⟨_, List.getElem?_eq_getElem hlt⟩
    have hn1 : ((i : Int) + 1).toNat = i + 1 := by omega
    simp (disch := omega) [hI, hmp, s7]
    refine wC_draw 26 (by kernel_rfl) ?_
    simp (disch := omega) [ligC, hm, hA, hx, hy, hn1, wrap64, -getElem?_pos, hmp, s7]
    refine wIf_intro (fun hw => ?_) (fun hw => ?_)
    · have hb : ¬ (x.1 < y.1 ∨ x.1 = y.1 ∧ x.2.1 < y.2.1) := pairS_neg.1 (by simpa using hw)
      have hn : ¬ ordOK f := fun g => hb (g.2.2 i (x.1, x.2.1) (y.1, y.2.1) (by rw [List.getElem?_map, hx]; rfl) (by rw [List.getElem?_map, hy]; rfl))
      simp [hn]
    · have hb : x.1 < y.1 ∨ x.1 = y.1 ∧ x.2.1 < y.2.1 := by
        have h4 : ¬ 0 ≤ pairS x.1 x.2.1 y.1 y.2.1 := by simpa using hw
        rw [pairS_neg] at h4
        exact Decidable.not_not.1 h4
      simp (disch := omega) [wrap64]
      refine Rnd_of (m' := f.lig.length - (i + 1)) (by omega) ⟨i + 1, _, rfl, fun q u v hq hu hv => ?_, rfl, by omega, by simp (disch := omega)⟩
      by_cases hqi : q = i
      · subst hqi
        rw [hx] at hu
        rw [hy] at hv
        cases hu
        cases hv
        exact hb
      · exact hg q u v (by omega) hu hv
  have hI : ¬ (i : Int) + 1 < f.lig.length := by omega
  have hordlig : ordK (f.lig.map fun x => (x.1, x.2.1)) := fun q u v hu hv => by
    rw [List.getElem?_map, Option.map_eq_some_iff] at hu hv
    obtain ⟨u', hu', rfl⟩ := hu
    obtain ⟨v', hv', rfl⟩ := hv
    have := (List.getElem?_eq_some_iff.1 hv').1
    exact hg q u' v' (by omega) hu' hv'
  clear hg
  have ho : ordOK f := ⟨hordA, hordker, hordlig⟩
  simp (disch := omega) [hI, s7, hmp, ho]
set_option maxHeartbeats 4000000 in
theorem valF_ex (hp : ∀ f, Np5 f → prim f = none) (f : Fnt) (h1 : f.adv.length ≤ 1000) (h2 : f.ker.length ≤ 1000) (h3 : f.lig.length ≤ 1000) :
    ∃ r, r = .int .i64 (val7S f) ∧ ∀ cfg h, callM md (K prim (d + 5)) cfg 28 [.agg (fntC f)] h = some (r, h) := by
  refine call0e rfl (hp 28 (by decide)) Tryz.func28 rfl rfl rfl (by simp [fntC]) ?_
  obtain ⟨_, ⟨b, rfl, hb⟩, hR⟩ := ranges_ex (prim := prim) (d + 2) hp f h1 h2 h3
  obtain ⟨hlf, hmp, l8, t8, s0, s1, s2, s3, s4, s5, s6, s7⟩ := fsl f
  simp +contextual (disch := first | omega | (simp; done) | (simp [Decidable.imp_iff_not_or]; done) | fail) [-wG_bool, wG_q, wG_q2, wGq_some, wGq_true, wGq_false, gq_true, gq_false, pickV_qA, pickV_qO, hlf, hmp, s5, s6, s7]
  refine wIf_intro (fun hc => ?_) (fun hc => ?_)
  · rw [val7_long (by simp at hc; omega)]
    simp
  have hlong : ¬ (100 < f.adv.length ∨ 100 < f.ker.length ∨ 100 < f.lig.length) := by simp at hc; omega
  cases b with
  | false =>
    rw [val7_rng hlong (fun g => by simpa using hb.2 g)]
    simp [hmp, l8, t8, hR]
  | true =>
    have hrng := hb.1 rfl
    obtain ⟨_, ⟨b2, rfl, hb2⟩, hO⟩ := ordered_ex (prim := prim) d hp f (fun x hx => (hrng.2.1 x hx).1) h1 h2 h3
    cases b2 with
    | false =>
      rw [val7_ord hlong hrng (fun g => by simpa using hb2.2 g)]
      simp [hmp, l8, t8, hR, hO]
    | true =>
      rw [val7_ok hlong hrng (hb2.1 rfl)]
      simp [hmp, l8, t8, hR, hO]
end
end Bi
end Go.Ab
