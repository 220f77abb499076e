/- The seat's functions: lists compared, reversed, ordered. -/
import Derived.Test.YtcedojbifnangaaBiFacts
import Derived.Test.YtcedojbifnangaaBiSpec
namespace Go.Ab
open Go.Proofs
namespace Bi
def md : FuncId → Nat
  | 12 => 2 | 27 => 2 | 39 => 2
  | 13 => 1 | 18 => 1 | 48 => 1 | 73 => 1 | 74 => 1
  | 30 => 1 | 32 => 1 | 33 => 1 | 34 => 1 | 35 => 1 | 55 => 1
  | 42 => 1 | 43 => 1 | 44 => 1 | 46 => 1 | 69 => 1
  | 49 => 1 | 82 => 1 | 89 => 1 | 93 => 1 | 94 => 1 | 95 => 1 | 97 => 1 | 98 => 1 | 99 => 1 | 100 => 1 | 103 => 1 | 105 => 1 | 106 => 1 | 107 => 1 | 108 => 1
  | 14 => 3 | 15 => 3 | 16 => 3 | 19 => 3 | 22 => 3 | 23 => 3 | 24 => 3 | 25 => 3 | 29 => 3 | 38 => 3 | 40 => 3 | 41 => 3 | 51 => 3 | 52 => 3 | 80 => 3
  | _ => 0
noncomputable abbrev K (prim : FuncId → Option Prim) (d : Nat) : Callf := callN Try.prog md prim 10000 d
abbrev il (l : List Int) : V := .lst (l.map fun n => [.int .i64 n])
abbrev rl (l : List Int) : V := .lst (l.map fun n => [.int .i32 n])
@[simp] theorem frzA_lst {h : Heap} {xs : List (List V)} : frzA h (.lst xs) = some (.lst xs) := rfl
@[simp] theorem frzA_int {h : Heap} {k : IntKind} {i : Int} : frzA h (.int k i) = some (.int k i) := rfl
@[simp] theorem frzA_bool {h : Heap} {b : Bool} : frzA h (.bool b) = some (.bool b) := rfl
@[simp] theorem frzA_agg {h : Heap} {cs : List V} : frzA h (.agg cs) = (cs.mapM (frz h 0 5)).map .agg := by
  unfold frzA; rw [frz_agg]; cases cs.mapM (frz h 0 5) <;> rfl
@[simp] theorem frzA_nils {h : Heap} : frzA h .nils = some (.lst []) := rfl

@[simp] theorem appD_nil0 {cfg : Cfg} {h : Heap} {k y : Nat} : appD cfg h k y .nils 0 [] = some (.nils, h) := by simp [appD, roomy]
@[simp] theorem flat_ints {k : IntKind} {l : List Int} : (l.map fun n => [V.int k n]).flatten = l.map (V.int k) := by
  induction l with
  | nil => rfl
  | cons x l ih => simp [ih]
section
variable {prim : FuncId → Option Prim} (d : Nat) (cfg : Cfg) (h : Heap)

theorem equal_ok (hp : prim 14 = none) (a b : List Int) (ha : a.length < 5000) {args : List V} (hargs : args.mapM (frzA h) = some [il a, il b]) : callM md (K prim (d + 1)) cfg 14 args h = some (.bool (decide (a = b)), h) := by
  refine call3 rfl hp Try.func14 rfl rfl rfl (args' := [il a, il b]) hargs ?_
  simp
  by_cases hl : a.length = b.length
  · simp [hl]
    refine wC_loop (fun m fr h => ∃ i : Nat, i ≤ a.length ∧ m = a.length - i ∧ a.take i = b.take i ∧ h = [] ∧ Slots 26 [(0, il a), (1, il b), (5, .int .i64 i)] fr) (m := a.length) (by omega) ⟨0, by omega, by omega, rfl, rfl, by simp⟩ ?_
    rintro m fr h ⟨i, hi, rfl, htk, rfl, hs⟩
    obtain ⟨j, rfl⟩ := hs.ex
    simp
    by_cases hlt : i < a.length
    · obtain ⟨x, hx⟩ : ∃ x, a[i]? = some x := ⟨a[i], List.getElem?_eq_getElem hlt⟩
      obtain ⟨y, hy⟩ : ∃ y, b[i]? = some y := ⟨b[i], List.getElem?_eq_getElem (by omega)⟩
      simp [hlt]
      refine wC_draw 8 (by kernel_rfl) ?_
      simp [hx, hy]
      by_cases hxy : x = y
      · simp (disch := first | omega | (simp; done) | (simp; omega)) [hxy, wrap64]
        refine Rnd_of (m' := a.length - (i + 1)) (by omega) ⟨i + 1, by omega, rfl, ?_, rfl, by simp⟩
        rw [List.take_add_one, List.take_add_one, htk, hx, hy, hxy]
      · simp [hxy, own]
        rintro rfl
        simp [hx] at hy
        exact hxy hy
    · simp [hlt, own]
      rw [List.take_of_length_le (by omega), List.take_of_length_le (by omega)] at htk
      exact htk
  · simp [hl, own]
    rintro rfl
    exact hl rfl

theorem reverse_ok (hp : prim 49 = none) (a run c : List Int) (hr : run.length ≤ 4000) (b cap : Nat) (hb : blockOf h b = some ((a ++ run ++ c).map (V.int .i64))) (hw : cfg.wr b = true) :
    callM md (K prim (d + 1)) cfg 49 [.sl b a.length run.length cap 1] h = some (.tup [], h.set b (some ((a ++ run.reverse ++ c).map (V.int .i64)))) := by
  have hw' : (Cfg.wr ⟨cfg.lo, cfg.ex, h.length⟩ b) = true := hw
  have hbl := blockOf_lt hb
  refine call1 rfl hp Try.func49 rfl rfl rfl ?_
  simp (disch := omega) [wrap64]
  refine wC_loop (fun m fr H => ∃ (k : Nat) (l : List Int), m = run.length - k ∧ k ≤ run.length ∧ Swp (a ++ run ++ c) a.length (a.length + run.length) k l ∧ H = h.set b (some (l.map (V.int .i64))) ∧
    Slots 28 [(0, .sl b a.length run.length cap 1), (2, .int .i64 k), (3, .int .i64 ((run.length : Int) - 1 - k))] fr) (m := run.length) (by omega) ⟨0, _, by omega, by omega, Swp.zero, (set_same hb).symm, by simp⟩ ?_
  rintro m fr H ⟨k, l, rfl, hk, hS, rfl, hs⟩
  obtain ⟨j, rfl⟩ := hs.ex
  clear hs
  by_cases hlt : (k : Int) < (run.length : Int) - 1 - k
  · have hll := hS.1
    simp only [List.length_append] at hll
    obtain ⟨x, hx⟩ : ∃ x, (a ++ run ++ c)[a.length + k]? = some x := ⟨_, List.getElem?_eq_getElem (by simp; omega)⟩
    obtain ⟨y, hy⟩ : ∃ y, (a ++ run ++ c)[a.length + run.length - 1 - k]? = some y := ⟨_, List.getElem?_eq_getElem (by simp; omega)⟩
    have hx' := (hS.at (q := a.length + k) (by omega) (by omega)).trans hx
    have hy' := (hS.at (q := a.length + run.length - 1 - k) (by omega) (by omega)).trans hy
    have e1 : ((run.length : Int) - 1 - k).toNat = run.length - 1 - k := by omega
    have e2 : a.length + (run.length - 1 - k) = a.length + run.length - 1 - k := by omega
    have l1 : a.length + k + 1 ≤ l.length := by omega
    have l2 : a.length + run.length - 1 - k + 1 ≤ l.length := by omega
    simp [hlt]
    refine wC_draw 12 (by kernel_rfl) ?_
    simp (disch := omega) [hx', hy', e1, e2, l1, hw', -getElem?_pos]
    rw [ints_set]
    simp [l2, -List.map_set]
    refine Rnd_of (m' := run.length - (k + 1)) (by omega) ⟨k + 1, _, rfl, by omega, hS.step (by omega) (by simp) hx hy, rfl, ?_⟩
    simp (disch := omega) [wrap64]
    omega
  · have hfin := hS.fin (by omega)
    subst hfin
    simp [hlt]
    exact List.take_of_length_le (by simp)
end
end Bi
end Go.Ab
