/- The visual order, in plain Lean: the runs of at least a level are reversed, level by level. -/
import Derived.Test.YtcedojbifnangaaAbW6
namespace Go.Ab.Bi

/-- Each maximal run of elements with p is reversed. -/
def rr (p : Int → Bool) : List Int → List Int → List Int
  | acc, [] => acc
  | acc, x :: l => if p x then rr p (x :: acc) l else acc ++ x :: rr p [] l

theorem rr_run (p : Int → Bool) : ∀ (run acc rest : List Int), (∀ x ∈ run, p x = true) → rr p acc (run ++ rest) = rr p (run.reverse ++ acc) rest
  | [], acc, rest, _ => by simp
  | x :: run, acc, rest, h => by
    have hx := h x (List.mem_cons_self ..)
    simp only [List.cons_append, rr, hx, if_true, List.reverse_cons, List.append_assoc, List.nil_append]
    exact rr_run p run (x :: acc) rest fun y hy => h y (List.mem_cons_of_mem _ hy)
theorem rr_all (p : Int → Bool) (run : List Int) (h : ∀ x ∈ run, p x = true) : rr p [] run = run.reverse := by
  have := rr_run p run [] [] h
  simpa [rr] using this
theorem rr_stop {p : Int → Bool} {acc l : List Int} {x : Int} (h : p x = false) : rr p acc (x :: l) = acc ++ x :: rr p [] l := by simp [rr, h]
theorem rr_none (p : Int → Bool) : ∀ l : List Int, (∀ x ∈ l, p x = false) → rr p [] l = l
  | [], _ => rfl
  | x :: l, h => by
    rw [rr_stop (h x (List.mem_cons_self ..)), rr_none p l fun y hy => h y (List.mem_cons_of_mem _ hy)]
    rfl
theorem rr_twice' (p : Int → Bool) : ∀ (l acc : List Int), (∀ x ∈ acc, p x = true) → rr p [] (rr p acc l) = acc.reverse ++ l
  | [], acc, h => by simp [rr, rr_all p acc h]
  | x :: l, acc, h => by
    cases hx : p x
    · rw [rr_stop hx, rr_run p acc [] _ h, rr_stop hx, rr_twice' p l [] (by simp)]
      simp
    · have e : rr p acc (x :: l) = rr p (x :: acc) l := by simp [rr, hx]
      rw [e, rr_twice' p l (x :: acc) (by
        intro y hy
        rcases List.mem_cons.1 hy with rfl | hy
        · exact hx
        · exact h y hy)]
      simp
theorem rr_twice (p : Int → Bool) (l : List Int) : rr p [] (rr p [] l) = l := rr_twice' p l [] (by simp)
theorem rr_congr {p q : Int → Bool} : ∀ (l acc : List Int), (∀ x ∈ l, p x = q x) → rr p acc l = rr q acc l
  | [], _, _ => rfl
  | x :: l, acc, h => by
    have h1 := h x (List.mem_cons_self ..)
    have h2 := fun y hy => h y (List.mem_cons_of_mem _ hy)
    simp only [rr, h1, rr_congr l _ h2]
theorem rr_perm (p : Int → Bool) : ∀ (l acc : List Int), (rr p acc l).Perm (acc ++ l)
  | [], acc => by simp [rr]
  | x :: l, acc => by
    cases hx : p x
    · rw [rr_stop hx]
      exact (List.Perm.append_left acc ((rr_perm p l []).cons x))
    · have e : rr p acc (x :: l) = rr p (x :: acc) l := by simp [rr, hx]
      rw [e]
      exact (rr_perm p l (x :: acc)).trans (by simpa using List.perm_middle.symm)
theorem rr_mem {p : Int → Bool} {l : List Int} {x : Int} : x ∈ rr p [] l ↔ x ∈ l := by simpa using (rr_perm p l []).mem_iff (a := x)
theorem rr_len (p : Int → Bool) (l : List Int) : (rr p [] l).length = l.length := by simpa using (rr_perm p l []).length_eq

/-- The level of an index. -/
def lvl (lv : List Int) (x : Int) : Int := lv.getD x.toNat 0
def ge (lv : List Int) (n : Int) (x : Int) : Bool := decide (n ≤ lvl lv x)
/-- From level n down to 1. -/
def ordD (lv : List Int) : Nat → List Int → List Int
  | 0, l => l
  | n + 1, l => ordD lv n (rr (ge lv (n + 1 : Nat)) [] l)
/-- The indices. -/
def idx (n : Nat) : List Int := (List.range n).map fun x : Nat => (x : Int)
theorem idx_len (n : Nat) : (idx n).length = n := by simp [idx]
theorem idx_mem {n : Nat} {x : Int} : x ∈ idx n ↔ 0 ≤ x ∧ x < n := by
  simp only [idx, List.mem_map, List.mem_range]
  constructor
  · rintro ⟨a, h, rfl⟩; omega
  · intro h; exact ⟨x.toNat, by omega, by omega⟩

theorem ord_perm (lv : List Int) : ∀ (n : Nat) (l : List Int), (ordD lv n l).Perm l
  | 0, l => List.Perm.refl _
  | n + 1, l => (ord_perm lv n _).trans (by simpa using rr_perm (ge lv (n + 1 : Nat)) l [])

/-- Levels above the highest one do nothing. -/
theorem ord_high (lv : List Int) (l : List Int) (m : Nat) : ∀ n : Nat, m ≤ n → (∀ x ∈ l, lvl lv x ≤ m) → ordD lv n l = ordD lv m l
  | 0, h, _ => by obtain rfl : m = 0 := by omega
                  rfl
  | n + 1, h, hx => by
    by_cases e : m = n + 1
    · rw [e]
    · rw [ordD, rr_none _ _ fun x hxx => by
        have := hx x hxx
        simp only [ge, decide_eq_false_iff_not]; omega]
      exact ord_high lv l m n (by omega) hx
/-- Levels below the lowest odd one do nothing. -/
theorem ord_low (lv : List Int) (l : List Int) : ∀ k : Nat, (∀ x ∈ l, lvl lv x < (2 * k : Nat) → lvl lv x % 2 = 0) → ordD lv (2 * k) l = l
  | 0, _ => rfl
  | k + 1, h => by
    rw [show 2 * (k + 1) = 2 * k + 1 + 1 by omega, ordD, ordD]
    have e : rr (ge lv ((2 * k + 1 : Nat) : Int)) [] (rr (ge lv ((2 * k + 1 + 1 : Nat) : Int)) [] l) = l := by
      rw [rr_congr (q := ge lv ((2 * k + 1 + 1 : Nat) : Int)) _ _ ?_, rr_twice]
      intro x hx
      rw [rr_mem] at hx
      have := h x hx
      simp only [ge]
      by_cases hl : lvl lv x < (2 * (k + 1) : Nat)
      · have := this hl
        by_cases h2 : ((2 * k + 1 : Nat) : Int) ≤ lvl lv x
        · omega
        · rw [decide_eq_false h2, decide_eq_false (by omega)]
      · rw [decide_eq_true (by omega), decide_eq_true (by omega)]
    rw [e]
    exact ord_low lv l k fun x hx h2 => h x hx (by omega)

/-- A range that is being reversed: k elements at each end are done. -/
def Swp (l : List Int) (i to k : Nat) (l' : List Int) : Prop := l'.length = l.length ∧ ∀ q, l'[q]? = if i ≤ q ∧ q < to ∧ (q < i + k ∨ to ≤ q + k) then l[i + to - 1 - q]? else l[q]?
theorem Swp.zero {l : List Int} {i to : Nat} : Swp l i to 0 l := ⟨rfl, fun q => by rw [if_neg (by omega)]⟩
theorem Swp.at {l l' : List Int} {i to k q : Nat} (h : Swp l i to k l') (h1 : i + k ≤ q) (h2 : q + k < to) : l'[q]? = l[q]? := by
  rw [h.2, if_neg (by omega)]
theorem Swp.step {l l' : List Int} {i to k : Nat} {x y : Int} (h : Swp l i to k l') (hk : i + k + k + 1 < to) (ht : to ≤ l.length) (hx : l[i + k]? = some x) (hy : l[to - 1 - k]? = some y) :
    Swp l i to (k + 1) ((l'.set (i + k) y).set (to - 1 - k) x) := by
  refine ⟨by simp [h.1], fun q => ?_⟩
  rw [List.getElem?_set, List.getElem?_set, h.2]
  have hl := h.1
  by_cases e1 : to - 1 - k = q
  · subst e1
    rw [if_pos rfl, if_pos (by simp; omega), if_pos (by omega), show i + to - 1 - (to - 1 - k) = i + k by omega, hx]
  · rw [if_neg e1]
    by_cases e2 : i + k = q
    · subst e2
      rw [if_pos rfl, if_pos (by omega), if_pos (by omega), show i + to - 1 - (i + k) = to - 1 - k by omega, hy]
    · rw [if_neg e2]
      by_cases e3 : i ≤ q ∧ q < to ∧ (q < i + k ∨ to ≤ q + k)
      · rw [if_pos e3, if_pos (by omega)]
      · rw [if_neg e3, if_neg (by omega)]
theorem Swp.fin {a run b l' : List Int} {k : Nat} (h : Swp (a ++ run ++ b) a.length (a.length + run.length) k l') (hk : run.length ≤ k + k + 1) : l' = a ++ run.reverse ++ b := by
  apply List.ext_getElem?
  intro q
  rw [h.2]
  by_cases h1 : q < a.length
  · rw [if_neg (by omega)]
    simp [List.getElem?_append_left, h1]
  · by_cases h2 : q < a.length + run.length
    · have e : (a ++ run.reverse ++ b)[q]? = run.reverse[q - a.length]? := by
        rw [List.append_assoc, List.getElem?_append_right (by omega), List.getElem?_append_left (by simp; omega)]
      have e' : ∀ p, a.length ≤ p → p < a.length + run.length → (a ++ run ++ b)[p]? = run[p - a.length]? := fun p p1 p2 => by
        rw [List.append_assoc, List.getElem?_append_right (by omega), List.getElem?_append_left (by omega)]
      rw [e, List.getElem?_reverse (by omega)]
      split
      · rw [e' _ (by omega) (by omega)]
        congr 1
        omega
      · rw [e' _ (by omega) (by omega)]
        congr 1
        omega
    · rw [if_neg (by omega)]
      rw [List.getElem?_append_right (by simp; omega), List.getElem?_append_right (by simp; omega)]
      simp
end Go.Ab.Bi
