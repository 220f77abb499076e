/- Buffers: Validate and its reference. -/
import Derived.Test.YtkiepcknigbhpaaGreatTrC
namespace Go.Ab
open Go.Proofs
namespace Tr
abbrev ml (r : List (Int × Int)) : V := .lst (r.map fun x => [.int .i64 x.1, .int .i64 x.2])
def scal (r : Int) : Bool := decide (0 ≤ r) && decide (r ≤ 1114111) && (decide (r < 55296) || decide (57343 < r))
def bad (r : Int × Int) : Bool := decide (r.1 < 1) || decide (2000 < r.1) || decide (r.2 < 0) || decide (15 < r.2)
def sumL (l : List (Int × Int)) : Int := (l.map (·.1)).sum
def alikeL : List (Int × Int) → Bool
  | a :: b :: r => decide (a.2 = b.2) || alikeL (b :: r)
  | _ => false
def valB (t : List Int) (runs : List (Int × Int)) : Int :=
  if 2000 < t.length then 2
  else if t.all scal = false then 1
  else if runs.any bad then 1
  else if sumL runs ≠ t.length then 1
  else if alikeL runs then 10 else 0

theorem alike_snoc (x : Int × Int) : ∀ (l : List (Int × Int)), alikeL (l ++ [x]) = (alikeL l || (match l.getLast? with
    | some y => decide (y.2 = x.2)
    | none => false))
  | [] => rfl
  | [a] => by simp [alikeL]
  | a :: b :: r => by
    have ih := alike_snoc x (b :: r)
    simp only [List.cons_append] at ih ⊢
    simp only [alikeL]
    rw [ih, Bool.or_assoc]
    simp
theorem sum_snoc (l : List (Int × Int)) (x : Int × Int) : sumL (l ++ [x]) = sumL l + x.1 := by simp [sumL]
theorem take_snoc' {α : Type} (l : List α) (i : Nat) (x : α) (hx : l[i]? = some x) : l.take (i + 1) = l.take i ++ [x] := by rw [List.take_add_one, hx]; rfl
theorem last_take {α : Type} (l : List α) (i : Nat) (y : α) (hy : l[i]? = some y) : (l.take (i + 1)).getLast? = some y := by rw [take_snoc' l i y hy]; simp
theorem sum_bounds : ∀ (l : List (Int × Int)), l.any bad = false → l.length ≤ sumL l ∧ sumL l ≤ 2000 * l.length
  | [], _ => by simp [sumL]
  | a :: l, h => by
    simp only [List.any_cons, Bool.or_eq_false_iff] at h
    have ih := sum_bounds l h.2
    have hb : 1 ≤ a.1 ∧ a.1 ≤ 2000 := by
      have := h.1
      simp only [bad, Bool.or_eq_false_iff, decide_eq_false_iff_not] at this
      omega
    have : sumL (a :: l) = a.1 + sumL l := by simp [sumL]
    rw [this]
    simp
    omega

section
variable {prim : FuncId → Option Prim} (d : Nat) (cfg : Cfg) (h : Heap)

theorem scalar_ok (hp : prim 112 = none) (r : Int) : callM md (K prim (d + 1)) cfg 112 [.int .i32 r] h = some (.bool (scal r), h) := by
  refine call0 rfl hp Tryz.func112 rfl rfl rfl (by simp) ?_
  unfold scal
  simp
  by_cases h1 : 0 ≤ r <;> by_cases h2 : r ≤ 1114111 <;> by_cases h3 : r < 55296 <;> simp [h1, h2, h3]
theorem scalar'_ok (hp : prim 70 = none) (r : Int) : callM md (K prim (d + 1)) cfg 70 [.int .i32 r] h = some (.bool (scal r), h) := by
  refine call0 rfl hp Tryz.func70 rfl rfl rfl (by simp) ?_
  unfold scal
  simp
  by_cases h1 : 0 ≤ r <;> by_cases h2 : r ≤ 1114111 <;> by_cases h3 : r < 55296 <;> simp [h1, h2, h3]
theorem marked_ok (hp : prim 69 = none) (r : Int) : callM md (K prim (d + 1)) cfg 69 [.int .i64 r] h = some (.bool (decide (0 ≤ r) && decide (r ≤ 15)), h) := by
  refine call0 rfl hp Tryz.func69 rfl rfl rfl (by simp) ?_
  simp
  by_cases h1 : 0 ≤ r <;> simp [h1]

theorem all_take {α : Type} {p : α → Bool} {l : List α} {i : Nat} {x : α} (hx : l[i]? = some x) (hp : p x = false) : l.all p = false := by
  rw [List.all_eq_false]
  exact ⟨x, List.mem_of_getElem? hx, by simpa using hp⟩

theorem scalars_ok (hp : prim 68 = none) (hp1 : prim 112 = none) (t : List Int) (ht : t.length ≤ 2000) : callM md (K prim (d + 2)) cfg 68 [rl t] h = some (.bool (t.all scal), h) := by
  refine call0 rfl hp Tryz.func68 rfl rfl rfl (by simp) ?_
  simp
  refine wC_loop (fun m fr h => ∃ i : Nat, i ≤ t.length ∧ m = t.length - i ∧ (t.take i).all scal = true ∧ h = [] ∧ Slots 15 [(0, rl t), (5, rl t), (6, .int .i64 t.length), (7, .int .i64 i)] fr) (m := t.length) (by omega) ⟨0, by omega, by omega, by simp, rfl, by simp⟩ ?_
  rintro m fr h ⟨i, hi, rfl, hall, rfl, hs⟩
  obtain ⟨j, rfl⟩ := hs.ex
  clear hs
  by_cases hlt : i < t.length
  · obtain ⟨x, hx⟩ : ∃ x, t[i]? = some x := ⟨t[i], List.getElem?_eq_getElem hlt⟩
    cases hsc : scal x
    · have ha := all_take (p := scal) hx hsc
      simp [hlt, hx, scalar_ok d _ _ hp1, hsc, ha, -getElem?_pos]
    · simp (disch := omega) [hlt, hx, scalar_ok d _ _ hp1, hsc, wrap64, -getElem?_pos]
      exact Rnd_of (m' := t.length - (i + 1)) (by omega) ⟨i + 1, by omega, rfl, by rw [take_snoc' t i x hx]; simp [hsc] at hall ⊢; exact hall, rfl, by simp⟩
  · rw [List.take_of_length_le (by omega)] at hall
    simp [hlt, hall]

theorem ml_get {r : List (Int × Int)} {i : Nat} {x : Int × Int} (hx : r[i]? = some x) : (r.map fun x => [V.int .i64 x.1, V.int .i64 x.2])[i]? = some [V.int .i64 x.1, V.int .i64 x.2] := by simp [hx]
theorem any_bad {r : List (Int × Int)} {i : Nat} {x : Int × Int} (hx : r[i]? = some x) (hb : bad x = true) : r.any bad = true := List.any_eq_true.2 ⟨x, List.mem_of_getElem? hx, hb⟩
theorem any_snoc {r : List (Int × Int)} {x : Int × Int} (h : r.any bad = false) (hb : bad x = false) : (r ++ [x]).any bad = false := by simp [h, hb]

set_option maxHeartbeats 2000000 in
theorem validate_ok (hp : prim 42 = none) (hp1 : prim 68 = none) (hp2 : prim 112 = none) (hp3 : prim 69 = none) (t : List Int) (r : List (Int × Int)) (ht : t.length ≤ 2000) (hr : r.length ≤ 2000) :
    callM md (K prim (d + 3)) cfg 42 [.agg [rl t, ml r]] h = some (.int .i64 (valB t r), h) := by
  refine call0 rfl hp Tryz.func42 rfl rfl rfl (by simp) ?_
  have ht' : ¬ (2000 : Int) < t.length := by omega
  have ht2 : ¬ 2000 < t.length := by omega
  simp [ht', scalars_ok d _ _ hp1 hp2 t ht]
  cases hsc : t.all scal
  · simp [valB, ht2, hsc]
  · simp
    refine wC_loop (fun m fr h => ∃ (i : Nat) (T : Heap), i ≤ r.length ∧ m = r.length - i ∧ (r.take i).any bad = false ∧ h = some [rl t, ml r] :: T ∧
        Slots 67 [(1, .ptr 0 0), (3, .int .i64 (sumL (r.take i))), (4, .bool (alikeL (r.take i))), (16, ml r), (17, .int .i64 r.length), (18, .int .i64 i)] fr) (m := r.length) (by omega) ⟨0, [], by omega, by omega, by simp, rfl, by simp [sumL, alikeL]⟩ ?_
    rintro m fr h ⟨i, T, hi, rfl, hnb, rfl, hs⟩
    obtain ⟨j, rfl⟩ := hs.ex
    clear hs
    have hsb := sum_bounds _ hnb
    have hlen : (r.take i).length = i := by simp; omega
    rw [hlen] at hsb
    by_cases hlt : i < r.length
    · obtain ⟨x, hx⟩ : ∃ x, r[i]? = some x := ⟨r[i], List.getElem?_eq_getElem hlt⟩
      have hx' := ml_get hx
      have hsn := take_snoc' r i x hx
      cases hbd : bad x
      · have hb : 1 ≤ x.1 ∧ x.1 ≤ 2000 ∧ 0 ≤ x.2 ∧ x.2 ≤ 15 := by
          simp only [bad, Bool.or_eq_false_iff, decide_eq_false_iff_not] at hbd
          omega
        have h1 : ¬ x.1 < 1 := by omega
        have h2 : ¬ 2000 < x.1 := by omega
        have hm := marked_ok (prim := prim) (d + 1) ⟨0, none, 0⟩ (some [rl t, ml r] :: (T ++ [some [.int .i64 x.1, .int .i64 x.2]])) hp3 x.2
        simp [hb.2.2.1, hb.2.2.2] at hm
        simp (disch := omega) [hlt, hx', h1, h2, hm, wrap64, -getElem?_pos, -List.getElem?_map]
        refine wC_draw 14 (by kernel_rfl) ?_
        have hnb' : (r.take (i + 1)).any bad = false := by rw [hsn]; exact any_snoc hnb hbd
        have hsum : sumL (r.take i) + x.1 = sumL (r.take (i + 1)) := by rw [hsn, sum_snoc]
        cases hav : alikeL (r.take i)
        · by_cases hi0 : i = 0
          · have hni : ¬ 0 < i := by omega
            have hal : alikeL (r.take (i + 1)) = false := by
              rw [hsn, show r.take i = [] by simp [hi0]]
              rfl
            simp (disch := omega) [hni, wrap64, -getElem?_pos, -List.getElem?_map]
            exact Rnd_of (m' := r.length - (i + 1)) (by omega) ⟨i + 1, _, by omega, rfl, hnb', rfl, by simp [hal, hsum]⟩
          · obtain ⟨y, hy⟩ : ∃ y, r[i - 1]? = some y := ⟨r[i - 1], List.getElem?_eq_getElem (by omega)⟩
            have hy' := ml_get hy
            have e1 : ((i : Int) - 1).toNat = i - 1 := by omega
            have hi1 : 0 < i := by omega
            have hlast : (r.take i).getLast? = some y := by
              have := last_take r (i - 1) y hy
              rwa [show i - 1 + 1 = i by omega] at this
            have hal : alikeL (r.take (i + 1)) = decide (y.2 = x.2) := by rw [hsn, alike_snoc, hav, hlast]; simp
            simp (disch := omega) [hi1, e1, hy', wrap64, -getElem?_pos, -List.getElem?_map]
            exact Rnd_of (m' := r.length - (i + 1)) (by omega) ⟨i + 1, _, by omega, rfl, hnb', rfl, by simp [hal, hsum]⟩
        · have hal : alikeL (r.take (i + 1)) = true := by rw [hsn, alike_snoc, hav]; simp
          simp (disch := omega) [wrap64, -getElem?_pos, -List.getElem?_map]
          exact Rnd_of (m' := r.length - (i + 1)) (by omega) ⟨i + 1, _, by omega, rfl, hnb', rfl, by simp [hal, hsum]⟩
      · have hany := any_bad hx hbd
        have hv : valB t r = 1 := by simp [valB, ht2, hsc, hany]
        rw [hv]
        have hm := marked_ok (prim := prim) (d + 1) ⟨0, none, 0⟩ (some [rl t, ml r] :: (T ++ [some [.int .i64 x.1, .int .i64 x.2]])) hp3 x.2
        by_cases h1 : x.1 < 1
        · simp (disch := omega) [hlt, hx', h1, wrap64, -getElem?_pos, -List.getElem?_map]
        · by_cases h2 : 2000 < x.1
          · simp (disch := omega) [hlt, hx', h1, h2, wrap64, -getElem?_pos, -List.getElem?_map]
          · have h3 : (decide (0 ≤ x.2) && decide (x.2 ≤ 15)) = false := by
              simp only [bad, Bool.or_eq_true, decide_eq_true_eq] at hbd
              simp only [Bool.and_eq_false_iff, decide_eq_false_iff_not]
              omega
            rw [h3] at hm
            simp (disch := omega) [hlt, hx', h1, h2, hm, wrap64, -getElem?_pos, -List.getElem?_map]
    · have hall : r.take i = r := List.take_of_length_le (by omega)
      rw [hall] at hnb hsb ⊢
      by_cases hsum : sumL r = t.length
      · cases hal : alikeL r <;> simp [hlt, hsum, hal, valB, ht2, hsc, hnb]
      · simp [hlt, hsum, valB, ht2, hsc, hnb]

theorem sum_prefix (r : List (Int × Int)) (i : Nat) (h : r.any bad = false) : sumL (r.take i) ≤ sumL r := by
  have h0 : ∀ a b : List (Int × Int), sumL (a ++ b) = sumL a + sumL b := fun a b => by simp [sumL]
  have h1 : sumL r = sumL (r.take i) + sumL (r.drop i) := by rw [← h0, List.take_append_drop]
  have h2 : (r.drop i).any bad = false := by
    rw [List.any_eq_false] at h ⊢
    intro x hx
    exact h x (List.mem_of_mem_drop hx)
  have := (sum_bounds _ h2).1
  omega

set_option maxHeartbeats 4000000 in
theorem validate'_ok (hp : prim 43 = none) (hp1 : prim 70 = none) (t : List Int) (r : List (Int × Int)) (ht : t.length ≤ 2000) (hr : r.length ≤ 2000) :
    callM md (K prim (d + 2)) cfg 43 [.agg [rl t, ml r]] h = some (.int .i64 (valB t r), h) := by
  refine call0 rfl hp Tryz.func43 rfl rfl rfl (by simp) ?_
  have ht' : ¬ (2000 : Int) < t.length := by omega
  have ht2 : ¬ 2000 < t.length := by omega
  simp [ht']
  refine wC_loop (fun m fr h => ∃ (i : Nat), i ≤ t.length ∧ m = t.length - i ∧ (t.take i).all scal = true ∧ h = [some [rl t, ml r]] ∧ Slots 96 [(1, .ptr 0 0), (3, .int .i64 i)] fr) (m := t.length) (by omega) ⟨0, by omega, by omega, by simp, rfl, by simp⟩ ?_
  rintro m fr h ⟨i, hi, rfl, hall, rfl, hs⟩
  obtain ⟨j, rfl⟩ := hs.ex
  clear hs
  by_cases hlt : i < t.length
  · obtain ⟨x, hx⟩ : ∃ x, t[i]? = some x := ⟨t[i], List.getElem?_eq_getElem hlt⟩
    cases hsc : scal x
    · have ha := all_take (p := scal) hx hsc
      have hv : valB t r = 1 := by simp [valB, ht2, ha]
      simp [hlt, hx, scalar'_ok d _ _ hp1, hsc, hv, -getElem?_pos]
    · simp (disch := omega) [hlt, hx, scalar'_ok d _ _ hp1, hsc, wrap64, -getElem?_pos]
      exact Rnd_of (m' := t.length - (i + 1)) (by omega) ⟨i + 1, by omega, rfl, by rw [take_snoc' t i x hx]; simp [hsc] at hall ⊢; exact hall, rfl, by simp⟩
  · rw [List.take_of_length_le (by omega)] at hall
    simp [hlt]
    refine wC_loop (fun m fr h => ∃ (i : Nat) (T : Heap), i ≤ r.length ∧ m = r.length - i ∧ (r.take i).any bad = false ∧ sumL (r.take i) ≤ t.length ∧ h = some [rl t, ml r] :: T ∧
        Slots 96 [(1, .ptr 0 0), (4, .int .i64 (sumL (r.take i))), (5, .int .i64 i)] fr) (m := r.length) (by omega) ⟨0, [], by omega, by omega, by simp, by simp [sumL], rfl, by simp [sumL]⟩ ?_
    rintro m fr h ⟨i, T, hi, rfl, hnb, hst, rfl, hs⟩
    obtain ⟨j, rfl⟩ := hs.ex
    clear hs
    have hsb := sum_bounds _ hnb
    have hlen : (r.take i).length = i := by simp; omega
    rw [hlen] at hsb
    by_cases hlt2 : i < r.length
    · obtain ⟨x, hx⟩ : ∃ x, r[i]? = some x := ⟨r[i], List.getElem?_eq_getElem hlt2⟩
      have hx' := ml_get hx
      have hsn := take_snoc' r i x hx
      have hsum : sumL (r.take i) + x.1 = sumL (r.take (i + 1)) := by rw [hsn, sum_snoc]
      cases hbd : bad x
      · have hb : 1 ≤ x.1 ∧ x.1 ≤ 2000 ∧ 0 ≤ x.2 ∧ x.2 ≤ 15 := by
          simp only [bad, Bool.or_eq_false_iff, decide_eq_false_iff_not] at hbd
          omega
        have h1 : ¬ x.1 < 1 := by omega
        have h2 : ¬ 2000 < x.1 := by omega
        have h3 : ¬ x.2 < 0 := by omega
        have h4 : ¬ 15 < x.2 := by omega
        have hnb' : (r.take (i + 1)).any bad = false := by rw [hsn]; exact any_snoc hnb hbd
        by_cases h5 : (t.length : Int) < sumL (r.take i) + x.1
        · have hv : valB t r = 1 := by
            simp only [valB, ht2, if_false, hall, Bool.true_eq_false]
            cases hab : r.any bad
            · have hpre := sum_prefix r (i + 1) hab
              have : sumL r ≠ t.length := by omega
              simp [this]
            · simp
          simp (disch := omega) [hlt2, hx', h1, h2, h3, h4, h5, hv, wrap64, -getElem?_pos, -List.getElem?_map]
        · simp (disch := omega) [hlt2, hx', h1, h2, h3, h4, h5, wrap64, -getElem?_pos, -List.getElem?_map]
          exact Rnd_of (m' := r.length - (i + 1)) (by omega) ⟨i + 1, _, by omega, rfl, hnb', by omega, rfl, by simp [hsum]⟩
      · have hany := any_bad hx hbd
        have hv : valB t r = 1 := by simp [valB, ht2, hall, hany]
        rw [hv]
        by_cases h1 : x.1 < 1
        · simp (disch := omega) [hlt2, hx', h1, wrap64, -getElem?_pos, -List.getElem?_map]
        · by_cases h2 : 2000 < x.1
          · simp (disch := omega) [hlt2, hx', h1, h2, wrap64, -getElem?_pos, -List.getElem?_map]
          · by_cases h3 : x.2 < 0
            · simp (disch := omega) [hlt2, hx', h1, h2, h3, wrap64, -getElem?_pos, -List.getElem?_map]
            · have h4 : 15 < x.2 := by
                simp only [bad, Bool.or_eq_true, decide_eq_true_eq] at hbd
                omega
              simp (disch := omega) [hlt2, hx', h1, h2, h3, h4, wrap64, -getElem?_pos, -List.getElem?_map]
    · have hall2 : r.take i = r := List.take_of_length_le (by omega)
      rw [hall2] at hnb hsb hst ⊢
      by_cases hsum : sumL r = t.length
      · simp [hlt2, hsum]
        refine wC_loop (fun m fr h => ∃ (q : Nat), 1 ≤ q ∧ m = r.length - q ∧ alikeL (r.take q) = false ∧ h = some [rl t, ml r] :: T ∧ Slots 96 [(1, .ptr 0 0), (7, .int .i64 q)] fr) (m := r.length - 1) (by omega) ⟨1, by omega, by omega, by rcases r with _ | ⟨a, r⟩ <;> simp [alikeL], rfl, by simp⟩ ?_
        rintro m fr h ⟨q, hq, rfl, hal, rfl, hs⟩
        obtain ⟨j, rfl⟩ := hs.ex
        clear hs
        by_cases hlt3 : q < r.length
        · obtain ⟨x, hx⟩ : ∃ x, r[q]? = some x := ⟨r[q], List.getElem?_eq_getElem hlt3⟩
          obtain ⟨y, hy⟩ : ∃ y, r[q - 1]? = some y := ⟨r[q - 1], List.getElem?_eq_getElem (by omega)⟩
          have hx' := ml_get hx
          have hy' := ml_get hy
          have e1 : ((q : Int) - 1).toNat = q - 1 := by omega
          have hsn := take_snoc' r q x hx
          have hlast : (r.take q).getLast? = some y := by
            have := last_take r (q - 1) y hy
            rwa [show q - 1 + 1 = q by omega] at this
          have hal' : alikeL (r.take (q + 1)) = decide (y.2 = x.2) := by rw [hsn, alike_snoc, hal, hlast]; simp
          simp (disch := omega) [hlt3, wrap64]
          refine wC_draw 13 (by kernel_rfl) ?_
          by_cases hxy : x.2 = y.2
          · have hv : valB t r = 10 := by
              have halr : alikeL r = true := by
                have key : ∀ (l : List (Int × Int)) (k : Nat), alikeL (l.take k) = true → alikeL l = true := by
                  intro l
                  induction l with
                  | nil => intro k hk; simp [alikeL] at hk
                  | cons a l ih =>
                    intro k hk
                    rcases k with _ | k
                    · simp [alikeL] at hk
                    · rcases l with _ | ⟨b, l⟩
                      · simp [alikeL] at hk
                      · rcases k with _ | k
                        · simp [alikeL] at hk
                        · simp only [List.take_succ_cons, alikeL, Bool.or_eq_true] at hk ⊢
                          rcases hk with hk | hk
                          · exact .inl hk
                          · exact .inr (ih (k + 1) (by simpa using hk))
                exact key r (q + 1) (by rw [hal', hxy]; simp)
              simp [valB, ht2, hall, hnb, hsum, halr]
            simp (disch := omega) [e1, hx', hy', hxy, hv, wrap64, -getElem?_pos, -List.getElem?_map]
          · simp (disch := omega) [e1, hx', hy', hxy, wrap64, -getElem?_pos, -List.getElem?_map]
            refine Rnd_of (m' := r.length - (q + 1)) (by omega) ⟨q + 1, by omega, rfl, ?_, rfl, by simp⟩
            rw [hal']
            simp
            exact fun e => hxy e.symm
        · rw [List.take_of_length_le (by omega)] at hal
          simp [hlt3, valB, ht2, hall, hnb, hsum, hal]
      · simp [hlt2, hsum, valB, ht2, hall, hnb]
end
end Tr
end Go.Ab
