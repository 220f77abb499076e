/- Several texts of this proof in one. -/
import Derived.Test.YtcedojbifnangaaBiG
/- The rules for one sequence, in plain Lean; a sequence's classes within a list. -/
namespace Go.Ab.Bi

/-- The class that an NSM gets behind y. -/
def nx (y : Int) : Int := if ini y = true ∨ y = 22 then 13 else y
def w1 : Int → List Int → List Int
  | _, [] => []
  | p, x :: r => (if x = 8 then p else x) :: w1 (nx (if x = 8 then p else x)) r
def w2 : Int → List Int → List Int
  | _, [] => []
  | l, x :: r => if x = 0 ∨ x = 1 ∨ x = 2 then x :: w2 x r else if x = 3 ∧ l = 2 then 6 :: w2 l r else x :: w2 l r
def w3 (s : List Int) : List Int := s.map fun x => if x = 2 then 1 else x
def w4c (p x y : Int) : Int := if x = 4 ∧ p = 3 ∧ y = 3 ∨ x = 7 ∧ p = y ∧ (p = 3 ∨ p = 6) then p else x
def w4 : Int → List Int → List Int
  | _, [] => []
  | p, x :: r => w4c p x (r.headD (-1)) :: w4 (w4c p x (r.headD (-1))) r
/-- n ETs are pending behind p. -/
def w5 : Int → Nat → List Int → List Int
  | p, n, [] => List.replicate n (if p = 3 then 3 else 5)
  | p, n, x :: r => if x = 5 then w5 p (n + 1) r else List.replicate n (if p = 3 ∨ x = 3 then 3 else 5) ++ x :: w5 x 0 r
def w6 : Int → List Int → List Int
  | _, [] => []
  | l, x :: r => if x = 4 ∨ x = 5 ∨ x = 7 then 13 :: w6 l r else if x = 0 ∨ x = 1 then x :: w6 x r else if x = 3 ∧ l = 0 then 0 :: w6 l r else x :: w6 l r
def weakS (start : Int) (s : List Int) : List Int := w6 start (w5 (-1) 0 (w4 (-1) (w3 (w2 start (w1 start s)))))

theorem w5_run (p : Int) : ∀ (k n : Nat) (r : List Int), w5 p k (List.replicate n 5 ++ r) = w5 p (k + n) r
  | _, 0, _ => rfl
  | k, n + 1, r => by
    rw [List.replicate_succ, List.cons_append, w5, if_pos rfl, w5_run p (k + 1) n r, show k + 1 + n = k + (n + 1) by omega]

theorem w5_end (p q : Int) (n : Nat) (r : List Int) (h : r.headD (-1) ≠ 5) : w5 p n r = List.replicate n (if p = 3 ∨ r.headD (-1) = 3 then 3 else 5) ++ w5 q 0 r := by
  rcases r with _ | ⟨y, r⟩
  · simp [w5]
  · simp at h
    simp [w5, h]

theorem w1_len : ∀ (s : List Int) (p : Int), (w1 p s).length = s.length
  | [], _ => rfl
  | x :: r, p => by simp [w1, w1_len r]
theorem w2_len : ∀ (s : List Int) (l : Int), (w2 l s).length = s.length
  | [], _ => rfl
  | x :: r, l => by
    simp only [w2]
    split
    · simp [w2_len r]
    · split <;> simp [w2_len r]
theorem w3_len (s : List Int) : (w3 s).length = s.length := by simp [w3]
theorem w4_len : ∀ (s : List Int) (p : Int), (w4 p s).length = s.length
  | [], _ => rfl
  | x :: r, p => by simp [w4, w4_len r]
theorem w5_len : ∀ (s : List Int) (p : Int) (n : Nat), (w5 p n s).length = n + s.length
  | [], _, _ => by simp [w5]
  | x :: r, p, n => by
    simp only [w5]
    split
    · rw [w5_len r]; simp; omega
    · simp [w5_len r]
theorem w6_len : ∀ (s : List Int) (l : Int), (w6 l s).length = s.length
  | [], _ => rfl
  | x :: r, l => by
    simp only [w6]
    split
    · simp [w6_len r]
    · split
      · simp [w6_len r]
      · split <;> simp [w6_len r]
theorem weak_len (st : Int) (s : List Int) : (weakS st s).length = s.length := by simp [weakS, w6_len, w5_len, w4_len, w3_len, w2_len, w1_len]

/-- c' is c with the classes s at the places l. -/
structure WB (c : List Int) (l s c' : List Int) : Prop where
  len : c'.length = c.length
  at_ : ∀ (k : Nat) (i : Int), l[k]? = some i → c'[i.toNat]? = s[k]?
  oth : ∀ j : Nat, (j : Int) ∉ l → c'[j]? = c[j]?
  sl : s.length = l.length
/-- Places in a list of n, each once. -/
structure Pl (n : Nat) (l : List Int) : Prop where
  rng : ∀ i ∈ l, 0 ≤ i ∧ i < n
  nd : l.Nodup
theorem Pl.at_ {n : Nat} {l : List Int} (h : Pl n l) {k : Nat} (hk : k < l.length) : ∃ i : Nat, l[k]? = some (i : Int) ∧ i < n := by
  have hm := h.rng l[k] (List.getElem_mem hk)
  exact ⟨l[k].toNat, by rw [List.getElem?_eq_getElem hk]; congr 1; omega, by omega⟩
theorem WB.start {c l : List Int} (h : Pl c.length l) : WB c l (l.map (lvl c)) c := by
  refine ⟨rfl, fun k i hk => ?_, fun _ _ => rfl, by simp⟩
  have hm := h.rng i (List.mem_of_getElem? hk)
  rw [List.getElem?_map, hk]
  simp only [Option.map_some, lvl, List.getD_eq_getElem?_getD]
  rw [List.getElem?_eq_getElem (by omega)]
  rfl
theorem WB.set {c l s c' : List Int} (h : WB c l s c') (hp : Pl c.length l) {k i : Nat} (hk : l[k]? = some (i : Int)) (x : Int) : WB c l (s.set k x) (c'.set i x) := by
  have hl := h.len
  have hm := hp.rng i (List.mem_of_getElem? hk)
  have hkl := (List.getElem?_eq_some_iff.1 hk).1
  refine ⟨by simpa using h.len, fun q j hq => ?_, fun j hj => ?_, by simpa using h.sl⟩
  · by_cases e : k = q
    · subst e
      rw [hk] at hq
      cases hq
      rw [List.getElem?_set_self (by have := h.sl; omega), Int.toNat_natCast, List.getElem?_set_self (by omega)]
    · have hne : (i : Int) ≠ j := by
        intro e2
        subst e2
        have hql := (List.getElem?_eq_some_iff.1 hq).1
        have h1 : l[k] = l[q] := by
          have e3 := (List.getElem?_eq_some_iff.1 hk).2
          have e4 := (List.getElem?_eq_some_iff.1 hq).2
          rw [e3, e4]
        exact e ((List.getElem_inj hp.nd).1 h1)
      have hjm := hp.rng j (List.mem_of_getElem? hq)
      rw [List.getElem?_set_ne e, List.getElem?_set_ne (by omega)]
      exact h.at_ q j hq
  · have : i ≠ j := by
      rintro rfl
      exact hj (List.mem_of_getElem? hk)
    rw [List.getElem?_set_ne this]
    exact h.oth j hj
theorem set_app {dn td : List Int} {x y : Int} : (dn ++ x :: td).set dn.length y = dn ++ y :: td := by
  rw [List.set_append_right _ _ (Nat.le_refl _)]
  simp
end Go.Ab.Bi
/- The neutral and implicit rules for one sequence, in plain Lean. -/
namespace Go.Ab.Bi
def strS (lv : Int) : Int := if lv % 2 = 1 then 1 else 0
def dirS (x : Int) : Int := if x = 0 then 0 else if x = 1 ∨ x = 3 ∨ x = 6 then 1 else -1
def neutB (x : Int) : Bool := x == 10 || x == 11 || x == 12 || x == 13 || x == 22 || ini x
/-- n neutral ones are pending behind the direction b. -/
def neuS (d e : Int) : Int → Nat → List Int → List Int
  | b, n, [] => List.replicate n (if b = e then b else d)
  | b, n, x :: r => if neutB x then neuS d e b (n + 1) r else List.replicate n (if b = dirS x then b else d) ++ x :: neuS d e (dirS x) 0 r
def impS (lev x : Int) : Int :=
  if lev % 2 = 0 ∧ x = 1 then 1 else if lev % 2 = 0 ∧ (x = 6 ∨ x = 3) then 2 else if lev % 2 = 1 ∧ (x = 0 ∨ x = 3 ∨ x = 6) then 1 else 0
def impL (lev : Int) : List Int → List Int → List Int
  | a :: u, x :: s => (a + impS lev x) :: impL lev u s
  | _, _ => []
theorem impS_rng (lev x : Int) : 0 ≤ impS lev x ∧ impS lev x ≤ 2 := by
  unfold impS
  split
  · omega
  · split
    · omega
    · split <;> omega
theorem impL_len (lev : Int) : ∀ u s : List Int, u.length = s.length → (impL lev u s).length = u.length
  | [], [], _ => rfl
  | a :: u, x :: s, h => by simp at h; simp [impL, impL_len lev u s h]
  | [], _ :: _, h => by simp at h
  | _ :: _, [], h => by simp at h
theorem neu_run (d e b : Int) : ∀ (run : List Int) (k : Nat) (r : List Int), (∀ x ∈ run, neutB x = true) → neuS d e b k (run ++ r) = neuS d e b (k + run.length) r
  | [], k, r, _ => rfl
  | x :: run, k, r, h => by
    rw [List.cons_append, neuS, if_pos (h x (List.mem_cons_self ..)), neu_run d e b run (k + 1) r fun y hy => h y (List.mem_cons_of_mem _ hy)]
    simp only [List.length_cons]
    rw [show k + 1 + run.length = k + (run.length + 1) by omega]
/-- What stands behind a run. -/
def aft (e : Int) : List Int → Int
  | [] => e
  | x :: _ => dirS x
theorem neu_end (d e b b' : Int) (n : Nat) (r : List Int) (h : ∀ x r', r = x :: r' → neutB x = false) : neuS d e b n r = List.replicate n (if b = aft e r then b else d) ++ neuS d e b' 0 r := by
  rcases r with _ | ⟨x, r⟩
  · simp [neuS, aft]
    exact .inr rfl
  · have hx := h x r rfl
    simp [neuS, hx, aft]
    exact .inr rfl
theorem neu_len (d e : Int) : ∀ (s : List Int) (b : Int) (n : Nat), (neuS d e b n s).length = n + s.length
  | [], b, n => by simp [neuS]
  | x :: r, b, n => by
    simp only [neuS]
    split
    · rw [neu_len d e r]; simp; omega
    · simp [neu_len d e r]
end Go.Ab.Bi
