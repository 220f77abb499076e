/- Text fields: Validate and its reference. -/
import Derived.Test.YtoappddifbgegaaGreatPaVa2
import Derived.Test.YtoappddifbgegaaGreatPaRef3
set_option linter.all false
namespace Go.Ab
open Go.Proofs
namespace Bi
attribute [local congr] wGq_congr
structure ECf where
  ml : Bool
  ro : Bool
  mo : Int
  fo : Int
  bf : Int
  sz : Int
  wd : Int
  ba : Int
  al : Int
def ecfC (c : ECf) : List V := [.bool c.ml, .bool c.ro, .int .i64 c.mo, .int .i64 c.fo, .int .i64 c.bf, .int .i64 c.sz, .int .i64 c.wd, .int .i64 c.ba, .int .i64 c.al]
theorem ecf_sl (c : ECf) : (ecfC c).length = 9 ∧ isMap (ecfC c) = false ∧ (∀ x ∈ ecfC c, x.leaf = true) ∧ (ecfC c).take 9 = ecfC c ∧ slot (ecfC c) 0 = some (.bool c.ml) ∧ slot (ecfC c) 2 = some (.int .i64 c.mo) ∧ slot (ecfC c) 3 = some (.int .i64 c.fo) ∧ slot (ecfC c) 4 = some (.int .i64 c.bf) ∧ slot (ecfC c) 5 = some (.int .i64 c.sz) ∧ slot (ecfC c) 6 = some (.int .i64 c.wd) ∧ slot (ecfC c) 7 = some (.int .i64 c.ba) ∧ slot (ecfC c) 8 = some (.int .i64 c.al) :=
  ⟨rfl, rfl, by simp [ecfC], rfl, rfl, rfl, rfl, rfl, rfl, rfl, rfl, rfl⟩
def rngCf (c : ECf) (n : Int) : Bool := decide (1 ≤ c.mo ∧ c.mo ≤ 2000 ∧ 0 ≤ c.fo ∧ c.fo < n ∧ 0 ≤ c.bf ∧ c.bf < n ∧ 1 ≤ c.sz ∧ c.sz ≤ 1000 ∧ 0 ≤ c.wd ∧ c.wd ≤ 1048576 ∧ -1 ≤ c.ba ∧ c.ba ≤ 1 ∧ 0 ≤ c.al ∧ c.al ≤ 2)
noncomputable def fstE : List Fnt → Int
  | [] => 0
  | f :: r => if val7S f = 0 then fstE r else val7S f
theorem fstE_ok : ∀ (fs : List Fnt), (∀ f ∈ fs, val7S f = 0) → fstE fs = 0
  | [], _ => rfl
  | f :: r, h => by
    unfold fstE
    rw [if_pos (h f List.mem_cons_self)]
    exact fstE_ok r fun g hg => h g (List.mem_cons_of_mem _ hg)
theorem fstE_bad : ∀ (fs : List Fnt) (i : Nat) (x : Fnt), (∀ f ∈ fs.take i, val7S f = 0) → fs[i]? = some x → val7S x ≠ 0 → fstE fs = val7S x
  | [], i, x, _, hx, _ => by simp at hx
  | f :: r, 0, x, _, hx, hn => by
    cases hx
    unfold fstE
    rw [if_neg hn]
  | f :: r, i + 1, x, h, hx, hn => by
    unfold fstE
    rw [if_pos (h f (by simp))]
    exact fstE_bad r i x (fun g hg => h g (by simp [hg])) (by simpa using hx) hn
noncomputable def val28 (c : ECf) (fs : List Fnt) : Int := if 8 < fs.length then 2 else if rngCf c fs.length = false then 1 else fstE fs
def FsOK (fs : List Fnt) : Prop := fs.length ≤ 10
section
variable {prim : FuncId → Option Prim} (d : Nat)
theorem btw_ok (hp : ∀ f, Np5 f → prim f = none) (cfg : Cfg) (h : Heap) (x l r : Int) : callM md (K prim (d + 1)) cfg 27 [.int .i64 x, .int .i64 l, .int .i64 r] h = some (.bool (decide (l ≤ x) && decide (x ≤ r)), h) := by
  refine call0 rfl (hp 27 (by decide)) Tryz.func27 rfl rfl rfl (by simp) ?_
  by_cases h1 : l ≤ x <;> simp [h1]
theorem fs_get {fs : List Fnt} {i : Nat} {x : Fnt} (hx : fs[i]? = some x) : (fs.map fntC)[i]? = some (fntC x) := by simp [hx]
theorem len_cases (f : Fnt) : (f.adv.length ≤ 1000 ∧ f.ker.length ≤ 1000 ∧ f.lig.length ≤ 1000) ∨ (100 < f.adv.length ∨ 100 < f.ker.length ∨ 100 < f.lig.length) := by omega
set_option maxRecDepth 100000 in
set_option maxHeartbeats 8000000 in
theorem valFA (hp : ∀ f, Np5 f → prim f = none) (f : Fnt) (cfg : Cfg) (h : Heap) : callM md (K prim (d + 5)) cfg 28 [.agg (fntC f)] h = some (.int .i64 (val7S f), h) := by
  rcases len_cases f with ⟨q1, q2, q3⟩ | hl
  · obtain ⟨_, rfl, hV⟩ := valF_ex (prim := prim) d hp f q1 q2 q3
    exact hV cfg h
  · rw [val7_long hl]
    refine call0 rfl (hp 28 (by decide)) Tryz.func28 rfl rfl rfl (by simp [fntC]) ?_
    obtain ⟨hlf, hmp, l8, t8, s0, s1, s2, s3, s4, s5, s6, s7⟩ := fsl f
    simp +contextual (disch := first | omega | (simp; done) | (simp [Decidable.imp_iff_not_or]; done) | fail) [-wG_bool, wG_q, wG_q2, wGq_some, wGq_true, wGq_false, gq_true, gq_false, pickV_qA, pickV_qO, hlf, hmp, s5, s6, s7]
    exact wIf_intro (fun hc => by simp) (fun hc => by simp at hc; omega)
set_option maxRecDepth 100000 in
set_option maxHeartbeats 8000000 in
theorem vT_ok (hp : ∀ f, Np5 f → prim f = none) (c : ECf) (fs : List Fnt) (hF : FsOK fs) (cfg : Cfg) (h : Heap) :
    callM md (K prim (d + 6)) cfg 6 [.agg (ecfC c), .lst (fs.map fntC)] h = some (.int .i64 (val28 c fs), h) := by
  refine call0 rfl (hp 6 (by decide)) Tryz.func6 rfl rfl rfl (by simp [ecfC]) ?_
  obtain ⟨l9, hmp, hlf, t9, s0, s2, s3, s4, s5, s6, s7, s8⟩ := ecf_sl c
  have hB := fun cfg h x l r => btw_ok (prim := prim) (d + 4) hp cfg h x l r
  have hlq := eq_true hlf
  have hl : fs.length ≤ 10 := hF
  simp +contextual (disch := first | omega | (simp; done) | (simp [Decidable.imp_iff_not_or]; done) | fail) [-wG_bool, wG_q, wG_q2, wGq_some, wGq_true, wGq_false, gq_true, gq_false, pickV_qA, pickV_qO, wrap64, -getElem?_pos, hmp, s2, s3, s4, s5, s6, s7, s8, hlq, hB]
  refine wIf_intro (fun hc => ?_) (fun hc => ?_)
  · have h8 : 8 < fs.length := by simp at hc; omega
    simp [val28, h8]
  have h8 : ¬ 8 < fs.length := by simp at hc; omega
  simp +contextual (disch := first | omega | (simp; done) | (simp [Decidable.imp_iff_not_or]; done) | fail) [-wG_bool, wG_q, wG_q2, wGq_some, wGq_true, wGq_false, gq_true, gq_false, pickV_qA, pickV_qO, wrap64, -getElem?_pos, hmp, s2, s3, s4, s5, s6, s7, s8, hlq, hB]
  refine wIf_intro (fun hc => ?_) (fun hc => ?_)
  · have hr : rngCf c fs.length = false := by simp [rngCf] at hc ⊢; omega
    simp [val28, h8, hr]
  have hr : rngCf c fs.length = true := by simp [rngCf] at hc ⊢; omega
  have hv : val28 c fs = fstE fs := by simp [val28, h8, hr]
  rw [hv]
  simp (disch := omega) [wrap64]
  refine wC_loop (fun m fr H => ∃ (i : Nat), i ≤ fs.length ∧ m = fs.length - i ∧ (∀ f ∈ fs.take i, val7S f = 0) ∧ Slots 69 [(57, .lst (fs.map fntC)), (58, .int .i64 fs.length), (59, .int .i64 i)] fr) (m := fs.length) (by omega) ⟨0, by omega, by omega, by simp, by simp⟩ ?_
  rintro m fr H ⟨i, hi, rfl, hall, hs⟩
  obtain ⟨j, rfl⟩ := hs.ex
  clear hs
  by_cases hlt : i < fs.length
  · have hI : (i : Int) < fs.length := by omega
    obtain ⟨x, hx⟩ : ∃ x, fs[i]? = some x := ⟨_, List.getElem?_eq_getElem hlt⟩
    have hx' := fs_get hx
    have hV := fun cfg h => valFA (prim := prim) d hp x cfg h
    obtain ⟨flf, fmp, f8, ft8, _⟩ := fsl x
    have hpt : putAt [.int .i64 0, .int .i64 0, .int .i64 0, .int .i64 0, .int .i64 0, .nils, .nils, .nils] 0 (fntC x) = fntC x := rfl
    have flq := eq_true (List.all_eq_true.1 flf)
    by_cases h0 : val7S x = 0
    · simp (disch := omega) [hI, hx', hV, flq, fmp, f8, ft8, hpt, h0, wrap64, -getElem?_pos, -List.getElem?_map]
      exact Rnd_of (m' := fs.length - (i + 1)) (by omega) ⟨i + 1, by omega, rfl, take_ok hall hx h0, by simp⟩
    · rw [fstE_bad fs i x hall hx h0]
      simp (disch := omega) [hI, hx', hV, flq, fmp, f8, ft8, hpt, h0, wrap64, -getElem?_pos, -List.getElem?_map]
  · obtain rfl : i = fs.length := by omega
    rw [List.take_length] at hall
    rw [fstE_ok fs hall]
    simp
end
end Bi
end Go.Ab
