/- The reference: fonts, by their shapes. -/
import Derived.Test.YtoappddifbgegaaGreatPaRef2
import Derived.Test.YtoappddifbgegaaGreatPaGen
set_option linter.all false
namespace Go.Ab
open Go.Proofs
namespace Bi
attribute [local congr] wGq_congr
section
variable {prim : FuncId → Option Prim} (d : Nat) (cfg : Cfg) (h : Heap)
theorem metric_ok (hp : ∀ f, Np5 f → prim f = none) (x : Int) : callM md (K prim (d + 1)) cfg 58 [.int .i64 x] h = some (.bool (decide (0 ≤ x) && decide (x ≤ 4096)), h) := by
  refine call0 rfl (hp 58 (by decide)) Tryz.func58 rfl rfl rfl (by simp) ?_
  simp +contextual (disch := first | omega | (simp; done) | (simp [Decidable.imp_iff_not_or]; done) | fail) [-wG_bool, wG_q, wG_q2, wGq_some, wGq_true, wGq_false, gq_true, gq_false, pickV_qA, pickV_qO]
theorem valid7_ok (hp : ∀ f, Np5 f → prim f = none) (x : Int) : callM md (K prim (d + 1)) cfg 59 [.int .i32 x] h = some (.bool (decide (0 ≤ x) && decide (x ≤ 1114111)), h) := by
  refine call0 rfl (hp 59 (by decide)) Tryz.func59 rfl rfl rfl (by simp) ?_
  simp +contextual (disch := first | omega | (simp; done) | (simp [Decidable.imp_iff_not_or]; done) | fail) [-wG_bool, wG_q, wG_q2, wGq_some, wGq_true, wGq_false, gq_true, gq_false, pickV_qA, pickV_qO]
theorem asc7_ok (hp : ∀ f, Np5 f → prim f = none) (a b c e : Int) : callM md (K prim (d + 1)) cfg 60 [.int .i32 a, .int .i32 b, .int .i32 c, .int .i32 e] h = some (.bool (decide (a < c) || decide (a = c) && decide (b < e)), h) := by
  refine call0 rfl (hp 60 (by decide)) Tryz.func60 rfl rfl rfl (by simp) ?_
  simp +contextual (disch := first | omega | (simp; done) | (simp [Decidable.imp_iff_not_or]; done) | fail) [-wG_bool, wG_q, wG_q2, wGq_some, wGq_true, wGq_false, gq_true, gq_false, pickV_qA, pickV_qO]
def okA (x : Int × Int × Int) : Prop := 0 ≤ x.1 ∧ x.1 ≤ 1114111 ∧ 0 ≤ x.2.1 ∧ x.2.1 ≤ 1114111 ∧ 0 ≤ x.2.2 ∧ x.2.2 ≤ 4096
def okK (x : Int × Int × Int) : Prop := 0 ≤ x.1 ∧ x.1 ≤ 1114111 ∧ 0 ≤ x.2.1 ∧ x.2.1 ≤ 1114111 ∧ -1000 ≤ x.2.2 ∧ x.2.2 ≤ 1000
def okG (x : Int × Int × Int × Int) : Prop := 0 ≤ x.1 ∧ x.1 ≤ 1114111 ∧ 0 ≤ x.2.1 ∧ x.2.1 ≤ 1114111 ∧ 1114112 ≤ x.2.2.1 ∧ x.2.2.1 ≤ 2097151 ∧ 0 ≤ x.2.2.2 ∧ x.2.2.2 ≤ 4096
def numOK (f : Fnt) : Prop := 16 ≤ f.u ∧ f.u ≤ 4096 ∧ 0 ≤ f.a ∧ f.a ≤ 4096 ∧ 0 ≤ f.d ∧ f.d ≤ 4096 ∧ 0 ≤ f.g ∧ f.g ≤ 4096 ∧ 1 ≤ IntKind.i64.wrap (f.a + f.d) ∧ 0 ≤ f.df ∧ f.df ≤ 4096
def rngOK (f : Fnt) : Prop := numOK f ∧ (∀ x ∈ f.adv, okA x) ∧ (∀ x ∈ f.ker, okK x) ∧ ∀ x ∈ f.lig, okG x
def ordA (l : List (Int × Int × Int)) : Prop := ∀ (i : Nat) x, l[i]? = some x → x.1 ≤ x.2.1 ∧ ∀ y, 0 < i → l[i - 1]? = some y → y.2.1 < x.1
def ordK (l : List (Int × Int)) : Prop := ∀ (i : Nat) x y, l[i]? = some x → l[i + 1]? = some y → x.1 < y.1 ∨ x.1 = y.1 ∧ x.2 < y.2
def ordOK (f : Fnt) : Prop := ordA f.adv ∧ ordK (f.ker.map fun x => (x.1, x.2.1)) ∧ ordK (f.lig.map fun x => (x.1, x.2.1))
theorem md_asc7 : md 60 = 0 := rfl
noncomputable def val7S (f : Fnt) : Int := by
  classical
  exact if 100 < f.adv.length ∨ 100 < f.ker.length ∨ 100 < f.lig.length then 2 else if ¬ rngOK f then 1 else if ¬ ordOK f then 10 else 0
theorem val7_long {f : Fnt} (h : 100 < f.adv.length ∨ 100 < f.ker.length ∨ 100 < f.lig.length) : val7S f = 2 := by unfold val7S; exact if_pos h
theorem val7_rng {f : Fnt} (h : ¬ (100 < f.adv.length ∨ 100 < f.ker.length ∨ 100 < f.lig.length)) (h1 : ¬ rngOK f) : val7S f = 1 := by unfold val7S; rw [if_neg h, if_pos h1]
theorem val7_ord {f : Fnt} (h : ¬ (100 < f.adv.length ∨ 100 < f.ker.length ∨ 100 < f.lig.length)) (h1 : rngOK f) (h2 : ¬ ordOK f) : val7S f = 10 := by unfold val7S; rw [if_neg h, if_neg (fun g => g h1), if_pos h2]
theorem val7_ok {f : Fnt} (h : ¬ (100 < f.adv.length ∨ 100 < f.ker.length ∨ 100 < f.lig.length)) (h1 : rngOK f) (h2 : ordOK f) : val7S f = 0 := by unfold val7S; rw [if_neg h, if_neg (fun g => g h1), if_neg (fun g => g h2)]
theorem take_ok {α : Type} {P : α → Prop} {l : List α} {i : Nat} {x : α} (h : ∀ y ∈ l.take i, P y) (hx : l[i]? = some x) (hp : P x) : ∀ y ∈ l.take (i + 1), P y := by
  intro y hy
  rw [List.take_add_one, hx] at hy
  rcases List.mem_append.1 hy with hy | hy
  · exact h y hy
  · simp at hy; subst hy; exact hp
set_option maxRecDepth 100000 in
set_option maxHeartbeats 16000000 in
theorem val7_ex (hp : ∀ f, Np5 f → prim f = none) (f : Fnt) (h1 : f.adv.length ≤ 1000) (h2 : f.ker.length ≤ 1000) (h3 : f.lig.length ≤ 1000) :
    ∃ r, r = .int .i64 (val7S f) ∧ ∀ cfg h, callM md (K prim (d + 2)) cfg 23 [.agg (fntC f)] h = some (r, h) := by
  refine call0e rfl (hp 23 (by decide)) Tryz.func23 rfl rfl rfl (by simp [fntC]) ?_
  have hM := fun cfg h x => metric_ok (prim := prim) d cfg h hp x
  have hV := fun cfg h x => valid7_ok (prim := prim) d cfg h hp x
  have hA := fun cfg h a b c e => asc7_ok (prim := prim) d cfg h hp a b c e
  have hbF : ∀ Y : Heap, blockOf (some (fntC f) :: Y) 0 = some (fntC f) := fun Y => rfl
  have hlf : (fntC f).all V.leaf = true := rfl
  have hmp : isMap (fntC f) = false := rfl
  have s0 : slot (fntC f) 0 = some (.int .i64 f.u) := rfl
  have s1 : slot (fntC f) 1 = some (.int .i64 f.a) := rfl
  have s2 : slot (fntC f) 2 = some (.int .i64 f.d) := rfl
  have s3 : slot (fntC f) 3 = some (.int .i64 f.g) := rfl
  have s4 : slot (fntC f) 4 = some (.int .i64 f.df) := rfl
  have s5 : slot (fntC f) 5 = some (.lst (f.adv.map advC)) := rfl
  have s6 : slot (fntC f) 6 = some (.lst (f.ker.map advC)) := rfl
  have s7 : slot (fntC f) 7 = some (.lst (f.lig.map ligC)) := rfl
  simp +contextual (disch := first | omega | (simp; done) | (simp [Decidable.imp_iff_not_or]; done) | fail) [-wG_bool, wG_q, wG_q2, wGq_some, wGq_true, wGq_false, gq_true, gq_false, pickV_qA, pickV_qO, hlf, hmp, s0, s1, s2, s3, s4, s5, s6, s7]
  refine wIf_intro (fun hb => ?_) (fun hb => ?_)
  · rw [val7_long (by simp at hb; omega)]
    simp
  have hlong : ¬ (100 < f.adv.length ∨ 100 < f.ker.length ∨ 100 < f.lig.length) := by simp at hb; omega
  clear hb
  simp +contextual (disch := first | omega | (simp; done) | (simp [Decidable.imp_iff_not_or]; done) | fail) [-wG_bool, wG_q, wG_q2, wGq_some, wGq_true, wGq_false, gq_true, gq_false, pickV_qA, pickV_qO, hM, hmp, s0, s1, s2, s3, s4, s5, s6, s7]
  refine wIf_intro (fun hb => ?_) (fun hb => ?_)
  · rw [val7_rng hlong (fun g => by have := g.1; unfold numOK at this; simp at hb; omega)]
    simp
  have hnum : numOK f := by unfold numOK; simp at hb; omega
  clear hb
  simp +contextual (disch := first | omega | (simp; done) | (simp [Decidable.imp_iff_not_or]; done) | fail) [-wG_bool, wG_q, wG_q2, wGq_some, wGq_true, wGq_false, gq_true, gq_false, pickV_qA, pickV_qO, hmp, s0, s1, s2, s3, s4, s5, s6, s7]
  refine wC_loop (fun m fr H => ∃ (i : Nat) (Y : Heap), i ≤ f.adv.length ∧ m = f.adv.length - i ∧ (∀ x ∈ f.adv.take i, okA x) ∧ H = some (fntC f) :: Y ∧ Slots 276 [(1, .ptr 0 0), (3, .int .i64 i)] fr) (m := f.adv.length) (by omega) ⟨0, _, by omega, by omega, by simp, rfl, by simp⟩ ?_
  rintro m fr H ⟨i, Y, hi, rfl, hg, rfl, hs⟩
  obtain ⟨j, rfl⟩ := hs.ex
  clear hs
  by_cases hlt : i < f.adv.length
  · have hI : (i : Int) < f.adv.length := by omega
    obtain ⟨x, hx⟩ : ∃ x, f.adv[i]? = some x := ⟨_, List.getElem?_eq_getElem hlt⟩
    simp +contextual (disch := first | omega | (simp; done) | (simp [Decidable.imp_iff_not_or]; done) | fail) [-wG_bool, wG_q, wG_q2, wGq_some, wGq_true, wGq_false, gq_true, gq_false, pickV_qA, pickV_qO, wrap64, -getElem?_pos, advC, hI, hx, hV, hM, hbF, hmp, s0, s1, s2, s3, s4, s5, s6, s7]
    refine wIf_intro (fun hb => ?_) (fun hb => ?_)
    · rw [val7_rng hlong (fun g => by have := g.2.1 x (List.mem_of_getElem? hx); unfold okA at this; simp at hb; omega)]
      simp
    · have hok : okA x := by unfold okA; simp at hb; omega
      simp (disch := omega) [wrap64]
      exact Rnd_of (m' := f.adv.length - (i + 1)) (by omega) ⟨i + 1, _, by omega, by omega, take_ok hg hx hok, rfl, by simp (disch := omega)⟩
  · obtain rfl : i = f.adv.length := by omega
    rw [List.take_length] at hg
    have hadv := hg
    clear hg hi
    simp +contextual (disch := first | omega | (simp; done) | (simp [Decidable.imp_iff_not_or]; done) | fail) [-wG_bool, wG_q, wG_q2, wGq_some, wGq_true, wGq_false, gq_true, gq_false, pickV_qA, pickV_qO, hbF, hmp, s0, s1, s2, s3, s4, s5, s6, s7]
    refine wC_loop (fun m fr H => ∃ (i : Nat) (Y : Heap), i ≤ f.ker.length ∧ m = f.ker.length - i ∧ (∀ x ∈ f.ker.take i, okK x) ∧ H = some (fntC f) :: Y ∧ Slots 276 [(1, .ptr 0 0), (5, .int .i64 i)] fr) (m := f.ker.length) (by omega) ⟨0, _, by omega, by omega, by simp, rfl, by simp⟩ ?_
    rintro m fr H ⟨i, Y, hi, rfl, hg, rfl, hs⟩
    obtain ⟨j, rfl⟩ := hs.ex
    clear hs
    by_cases hlt : i < f.ker.length
    · have hI : (i : Int) < f.ker.length := by omega
      obtain ⟨x, hx⟩ : ∃ x, f.ker[i]? = some x := ⟨_, List.getElem?_eq_getElem hlt⟩
      simp +contextual (disch := first | omega | (simp; done) | (simp [Decidable.imp_iff_not_or]; done) | fail) [-wG_bool, wG_q, wG_q2, wGq_some, wGq_true, wGq_false, gq_true, gq_false, pickV_qA, pickV_qO, wrap64, -getElem?_pos, advC, hI, hx, hV, hM, hbF, hmp, s0, s1, s2, s3, s4, s5, s6, s7]
      refine wIf_intro (fun hb => ?_) (fun hb => ?_)
      · rw [val7_rng hlong (fun g => by have := g.2.2.1 x (List.mem_of_getElem? hx); unfold okK at this; simp at hb; omega)]
        simp
      · have hok : okK x := by unfold okK; simp at hb; omega
        simp (disch := omega) [wrap64]
        exact Rnd_of (m' := f.ker.length - (i + 1)) (by omega) ⟨i + 1, _, by omega, by omega, take_ok hg hx hok, rfl, by simp (disch := omega)⟩
    · obtain rfl : i = f.ker.length := by omega
      rw [List.take_length] at hg
      have hker := hg
      clear hg hi
      simp +contextual (disch := first | omega | (simp; done) | (simp [Decidable.imp_iff_not_or]; done) | fail) [-wG_bool, wG_q, wG_q2, wGq_some, wGq_true, wGq_false, gq_true, gq_false, pickV_qA, pickV_qO, hbF, hmp, s0, s1, s2, s3, s4, s5, s6, s7]
      refine wC_loop (fun m fr H => ∃ (i : Nat) (Y : Heap), i ≤ f.lig.length ∧ m = f.lig.length - i ∧ (∀ x ∈ f.lig.take i, okG x) ∧ H = some (fntC f) :: Y ∧ Slots 276 [(1, .ptr 0 0), (7, .int .i64 i)] fr) (m := f.lig.length) (by omega) ⟨0, _, by omega, by omega, by simp, rfl, by simp⟩ ?_
      rintro m fr H ⟨i, Y, hi, rfl, hg, rfl, hs⟩
      obtain ⟨j, rfl⟩ := hs.ex
      clear hs
      by_cases hlt : i < f.lig.length
      · have hI : (i : Int) < f.lig.length := by omega
        obtain ⟨x, hx⟩ : ∃ x, f.lig[i]? = some x := ⟨_, List.getElem?_eq_getElem hlt⟩
        simp +contextual (disch := first | omega | (simp; done) | (simp [Decidable.imp_iff_not_or]; done) | fail) [-wG_bool, wG_q, wG_q2, wGq_some, wGq_true, wGq_false, gq_true, gq_false, pickV_qA, pickV_qO, wrap64, -getElem?_pos, ligC, hI, hx, hV, hM, hbF, hmp, s0, s1, s2, s3, s4, s5, s6, s7]
        refine wIf_intro (fun hb => ?_) (fun hb => ?_)
        · rw [val7_rng hlong (fun g => by have := g.2.2.2 x (List.mem_of_getElem? hx); unfold okG at this; simp at hb; omega)]
          simp
        · have hok : okG x := by unfold okG; simp at hb; omega
          simp (disch := omega) [wrap64]
          exact Rnd_of (m' := f.lig.length - (i + 1)) (by omega) ⟨i + 1, _, by omega, by omega, take_ok hg hx hok, rfl, by simp (disch := omega)⟩
      · obtain rfl : i = f.lig.length := by omega
        rw [List.take_length] at hg
        have hlig := hg
        clear hg hi
        simp +contextual (disch := first | omega | (simp; done) | (simp [Decidable.imp_iff_not_or]; done) | fail) [-wG_bool, wG_q, wG_q2, wGq_some, wGq_true, wGq_false, gq_true, gq_false, pickV_qA, pickV_qO, hbF, hmp, s0, s1, s2, s3, s4, s5, s6, s7]
        have hrng : rngOK f := ⟨hnum, hadv, hker, hlig⟩
        refine wC_loop (fun m fr H => ∃ (i : Nat) (Y : Heap), i ≤ f.adv.length ∧ m = f.adv.length - i ∧ (∀ (q : Nat) x, q < i → f.adv[q]? = some x → x.1 ≤ x.2.1 ∧ ∀ y, 0 < q → f.adv[q - 1]? = some y → y.2.1 < x.1) ∧ H = some (fntC f) :: Y ∧ Slots 276 [(1, .ptr 0 0), (9, .int .i64 i)] fr) (m := f.adv.length) (by omega) ⟨0, _, by omega, by omega, fun q x h => by omega, rfl, by simp⟩ ?_
        rintro m fr H ⟨i, Y, hi, rfl, hg, rfl, hs⟩
        obtain ⟨j, rfl⟩ := hs.ex
        clear hs
        by_cases hlt : i < f.adv.length
        · have hI : (i : Int) < f.adv.length := by omega
          obtain ⟨x, hx⟩ : ∃ x, f.adv[i]? = some x := ⟨_, List.getElem?_eq_getElem hlt⟩
          simp (disch := omega) [hI, hmp, s0, s1, s2, s3, s4, s5, s6, s7]
          refine wC_draw 30 (by kernel_rfl) ?_
          simp (disch := omega) [advC, hx, wrap64, -getElem?_pos, hmp, s0, s1, s2, s3, s4, s5, s6, s7]
          by_cases hb1 : x.2.1 < x.1
          · rw [val7_ord hlong hrng (fun g => by have := (g.1 i x hx).1; omega)]
            simp [hb1]
          · by_cases hi0 : i = 0
            · subst hi0
              simp (disch := omega) [hb1, wrap64]
              refine Rnd_of (m' := f.adv.length - 1) (by omega) ⟨1, _, by omega, by omega, fun q z hq hz => ?_, rfl, by simp (disch := omega)⟩
              obtain rfl : q = 0 := by omega
              rw [hx] at hz
              cases hz
              exact ⟨by omega, fun y h => by omega⟩
            · obtain ⟨y, hy⟩ : ∃ y, f.adv[i - 1]? = some y := ⟨_, List.getElem?_eq_getElem (by omega)⟩
              have hi1 : (0 : Int) < i := by omega
              have hi2 : 0 < i := by omega
              have hn1 : ((i : Int) - 1).toNat = i - 1 := by omega
              simp (disch := omega) [hb1, hi1, hi2, hy, hn1, advC, hx, wrap64, -getElem?_pos, hmp, s0, s1, s2, s3, s4, s5, s6, s7]
              by_cases hb2 : x.1 ≤ y.2.1
              · rw [val7_ord hlong hrng (fun g => by have := (g.1 i x hx).2 y hi2 hy; omega)]
                simp [hb2]
              · simp (disch := omega) [hb2, wrap64]
                refine Rnd_of (m' := f.adv.length - (i + 1)) (by omega) ⟨i + 1, _, by omega, by omega, fun q z hq hz => ?_, rfl, by simp (disch := omega)⟩
                by_cases hqi : q = i
                · subst hqi
                  rw [hx] at hz
                  cases hz
                  refine ⟨by omega, fun u _ hu => ?_⟩
                  rw [hy] at hu
                  cases hu
                  omega
                · exact hg q z (by omega) hz
        · obtain rfl : i = f.adv.length := by omega
          have hordA : ordA f.adv := fun q x hq => hg q x (List.getElem?_eq_some_iff.1 hq).1 hq
          clear hg hi
          simp +contextual (disch := first | omega | (simp; done) | (simp [Decidable.imp_iff_not_or]; done) | fail) [-wG_bool, wG_q, wG_q2, wGq_some, wGq_true, wGq_false, gq_true, gq_false, pickV_qA, pickV_qO, hbF, hmp, s0, s1, s2, s3, s4, s5, s6, s7]
          refine wC_loop (fun m fr H => ∃ (i : Nat) (Y : Heap), m = f.ker.length - i ∧ (∀ (q : Nat) x y, q < i → f.ker[q]? = some x → f.ker[q + 1]? = some y → x.1 < y.1 ∨ x.1 = y.1 ∧ x.2.1 < y.2.1) ∧ H = some (fntC f) :: Y ∧ i ≤ f.ker.length ∧ Slots 276 [(1, .ptr 0 0), (10, .int .i64 ((i : Int) + 1))] fr) (m := f.ker.length) (by omega) ⟨0, _, by omega, fun q x y h => by omega, rfl, by omega, by simp⟩ ?_
          rintro m fr H ⟨i, Y, rfl, hg, rfl, hi, hs⟩
          obtain ⟨j, rfl⟩ := hs.ex
          clear hs
          by_cases hlt : i + 1 < f.ker.length
          · have hI : (i : Int) + 1 < f.ker.length := by omega
            obtain ⟨x, hx⟩ : ∃ x, f.ker[i]? = some x := ⟨_, List.getElem?_eq_getElem (by omega)⟩
            obtain ⟨y, hy⟩ : ∃ y, f.ker[i + 1]? = some y := ⟨_, List.getElem?_eq_getElem hlt⟩
            have hn1 : ((i : Int) + 1).toNat = i + 1 := by omega
            have hm := md_asc7
            simp (disch := omega) [hI, hmp, s0, s1, s2, s3, s4, s5, s6, s7]
            refine wC_draw 26 (by kernel_rfl) ?_
            simp (disch := omega) [advC, hm, hA, hx, hy, hn1, wrap64, -getElem?_pos, hmp, s0, s1, s2, s3, s4, s5, s6, s7]
            refine wIf_intro (fun hw => ?_) (fun hw => ?_)
            · have hb : ¬ (x.1 < y.1 ∨ x.1 = y.1 ∧ x.2.1 < y.2.1) := by simp at hw; omega
              rw [val7_ord hlong hrng (fun g => hb (g.2.1 i (x.1, x.2.1) (y.1, y.2.1) (by rw [List.getElem?_map, hx]; rfl) (by rw [List.getElem?_map, hy]; rfl)))]
              simp
            · have hb : x.1 < y.1 ∨ x.1 = y.1 ∧ x.2.1 < y.2.1 := by simp at hw; omega
              simp (disch := omega) [wrap64]
              refine Rnd_of (m' := f.ker.length - (i + 1)) (by omega) ⟨i + 1, _, rfl, fun q u v hq hu hv => ?_, rfl, by omega, by simp (disch := omega)⟩
              by_cases hqi : q = i
              · subst hqi
                rw [hx] at hu
                rw [hy] at hv
                cases hu
                cases hv
                exact hb
              · exact hg q u v (by omega) hu hv
          · have hI : ¬ (i : Int) + 1 < f.ker.length := by omega
            have hordker : ordK (f.ker.map fun x => (x.1, x.2.1)) := fun q u v hu hv => by
              rw [List.getElem?_map, Option.map_eq_some_iff] at hu hv
              obtain ⟨u', hu', rfl⟩ := hu
              obtain ⟨v', hv', rfl⟩ := hv
              have := (List.getElem?_eq_some_iff.1 hv').1
              exact hg q u' v' (by omega) hu' hv'
            clear hg
            simp (disch := omega) [hI, s6, hmp]
            refine wC_loop (fun m fr H => ∃ (i : Nat) (Y : Heap), m = f.lig.length - i ∧ (∀ (q : Nat) x y, q < i → f.lig[q]? = some x → f.lig[q + 1]? = some y → x.1 < y.1 ∨ x.1 = y.1 ∧ x.2.1 < y.2.1) ∧ H = some (fntC f) :: Y ∧ i ≤ f.lig.length ∧ Slots 276 [(1, .ptr 0 0), (11, .int .i64 ((i : Int) + 1))] fr) (m := f.lig.length) (by omega) ⟨0, _, by omega, fun q x y h => by omega, rfl, by omega, by simp⟩ ?_
            rintro m fr H ⟨i, Y, rfl, hg, rfl, hi, hs⟩
            obtain ⟨j, rfl⟩ := hs.ex
            clear hs
            by_cases hlt : i + 1 < f.lig.length
            · have hI : (i : Int) + 1 < f.lig.length := by omega
              obtain ⟨x, hx⟩ : ∃ x, f.lig[i]? = some x := ⟨_, List.getElem?_eq_getElem (by omega)⟩
              obtain ⟨y, hy⟩ : ∃ y, f.lig[i + 1]? = some y := ⟨_, List.getElem?_eq_getElem hlt⟩
              have hn1 : ((i : Int) + 1).toNat = i + 1 := by omega
              have hm := md_asc7
              simp (disch := omega) [hI, hmp, s0, s1, s2, s3, s4, s5, s6, s7]
              refine wC_draw 26 (by kernel_rfl) ?_
              simp (disch := omega) [ligC, hm, hA, hx, hy, hn1, wrap64, -getElem?_pos, hmp, s0, s1, s2, s3, s4, s5, s6, s7]
              refine wIf_intro (fun hw => ?_) (fun hw => ?_)
              · have hb : ¬ (x.1 < y.1 ∨ x.1 = y.1 ∧ x.2.1 < y.2.1) := by simp at hw; omega
                rw [val7_ord hlong hrng (fun g => hb (g.2.2 i (x.1, x.2.1) (y.1, y.2.1) (by rw [List.getElem?_map, hx]; rfl) (by rw [List.getElem?_map, hy]; rfl)))]
                simp
              · have hb : x.1 < y.1 ∨ x.1 = y.1 ∧ x.2.1 < y.2.1 := by simp at hw; omega
                simp (disch := omega) [wrap64]
                refine Rnd_of (m' := f.lig.length - (i + 1)) (by omega) ⟨i + 1, _, rfl, fun q u v hq hu hv => ?_, rfl, by omega, by simp (disch := omega)⟩
                by_cases hqi : q = i
                · subst hqi
                  rw [hx] at hu
                  rw [hy] at hv
                  cases hu
                  cases hv
                  exact hb
                · exact hg q u v (by omega) hu hv
            · have hI : ¬ (i : Int) + 1 < f.lig.length := by omega
              have hordlig : ordK (f.lig.map fun x => (x.1, x.2.1)) := fun q u v hu hv => by
                rw [List.getElem?_map, Option.map_eq_some_iff] at hu hv
                obtain ⟨u', hu', rfl⟩ := hu
                obtain ⟨v', hv', rfl⟩ := hv
                have := (List.getElem?_eq_some_iff.1 hv').1
                exact hg q u' v' (by omega) hu' hv'
              clear hg
              rw [val7_ok hlong hrng ⟨hordA, hordker, hordlig⟩]
              simp (disch := omega) [hI, s7, hmp]
end
end Bi
end Go.Ab
