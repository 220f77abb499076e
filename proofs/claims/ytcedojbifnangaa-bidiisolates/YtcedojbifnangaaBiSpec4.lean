/- Several texts of this proof in one. -/
import Derived.Test.YtcedojbifnangaaBiN
import Derived.Test.YtcedojbifnangaaBiSpec3
/- Brackets of runes: the program. -/
namespace Go.Ab
open Go.Proofs
namespace Bi
def brTab : List (Int × Int) := [(40, 41), (91, 93), (123, 125), (12296, 12297), (12298, 12299), (12300, 12301), (12302, 12303), (12304, 12305)]
def othS : List (Int × Int) → Int → Int × Int
  | [], r => (r, -1)
  | (a, b) :: t, r => if a = r then (b, 1) else if b = r then (a, 0) else othS t r
/-- The kind of a bracket, and the other one. -/
def brS (r : Int) : Int × Int := if (othS brTab r).2 = 1 then (1, (othS brTab r).1) else if (othS brTab r).2 = 0 then (2, (othS brTab r).1) else (0, 0)
abbrev prl (t : List (Int × Int)) : V := .lst (t.map fun x => [.int .i32 x.1, .int .i32 x.2])
section
variable {prim : FuncId → Option Prim} (d : Nat) (cfg : Cfg) (h : Heap)
theorem brackets88_ok (hp : prim 88 = none) : callM md (K prim (d + 1)) cfg 88 [] h = some (prl brTab, h) := by
  have hk : ∃ v H, K prim (d + 1) ⟨0, none, 0⟩ 88 [] [] = some (v, H) ∧ frz H 0 6 v = some (prl brTab) := by
    simp only [K, callN, hp]
    exact ⟨.sl 0 0 8 8 2, [some (brTab.flatMap fun x => [.int .i32 x.1, .int .i32 x.2])], by kernel_rfl, by kernel_rfl⟩
  obtain ⟨v, H, h1, h2⟩ := hk
  simp only [callM, show md 88 = 0 from rfl, List.all_nil, if_true, h1, h2]
set_option maxRecDepth 100000 in
set_option maxHeartbeats 2000000 in
theorem other_ok (hp : prim 87 = none) (t : List (Int × Int)) (ht : t.length ≤ 100) (r : Int) : callM md (K prim (d + 1)) cfg 87 [prl t, .int .i32 r] h = some (.tup [.int .i32 (othS t r).1, .int .i64 (othS t r).2], h) := by
  refine call0 rfl hp Try.func87 rfl rfl rfl (by simp) ?_
  simp
  refine wC_loop (fun m fr H => ∃ (k : Nat) (td : List (Int × Int)), td = t.drop k ∧ m = td.length ∧ othS t r = othS td r ∧ k ≤ t.length ∧ Slots 32 [(0, prl t), (1, .int .i32 r), (9, prl t), (10, .int .i64 t.length), (11, .int .i64 k)] fr) (m := t.length) (by omega) ⟨0, t, rfl, rfl, rfl, by omega, by simp⟩ ?_
  rintro m fr H ⟨k, td, htd, rfl, hF, hkt, hs⟩
  obtain ⟨j, rfl⟩ := hs.ex
  clear hs
  rw [hF]
  by_cases hlt : k < t.length
  · obtain ⟨⟨a, b⟩, hx⟩ : ∃ x, t[k]? = some x := ⟨_, List.getElem?_eq_getElem hlt⟩
    have htd2 : td = (a, b) :: t.drop (k + 1) := by
      rw [htd, List.drop_eq_getElem_cons hlt]
      congr 1
      exact (List.getElem?_eq_some_iff.1 hx).2
    have hb : blockOf (H ++ [some [V.int .i32 a, V.int .i32 b]]) H.length = some [V.int .i32 a, V.int .i32 b] := by
      simp
    simp (disch := omega) [hlt, hx, -getElem?_pos]
    refine wC_loop (fun m' fr H' => ∃ i : Nat, i ≤ 2 ∧ m' = 2 - i ∧ (0 < i → a ≠ r) ∧ (1 < i → b ≠ r) ∧ H' = H ++ [some [V.int .i32 a, V.int .i32 b]] ∧ Slots 32 [(0, prl t), (1, .int .i32 r), (7, .ptr H.length 0), (9, prl t), (10, .int .i64 t.length), (11, .int .i64 k), (15, .int .i64 i)] fr) (m := 2) (by omega) ⟨0, by omega, by omega, by omega, by omega, by simp, by simp⟩ ?_
    rintro m' fr H' ⟨i, hi, rfl, h0, h1, rfl, hs⟩
    obtain ⟨j, rfl⟩ := hs.ex
    clear hs
    rcases (show i = 0 ∨ i = 1 ∨ i = 2 by omega) with rfl | rfl | rfl
    · by_cases ha : a = r
      · simp (disch := omega) [hb, ha, wrap64]
        simp [htd2, othS, ha]
      · simp (disch := omega) [hb, ha, wrap64]
        exact Rnd_of (m' := 1) (by omega) ⟨1, by omega, rfl, fun _ => ha, by omega, by simp, by simp⟩
    · have ha := h0 (by omega)
      by_cases hbr : b = r
      · simp (disch := omega) [hb, hbr, wrap64]
        simp [htd2, othS, ha, hbr]
      · simp (disch := omega) [hb, hbr, wrap64]
        exact Rnd_of (m' := 0) (by omega) ⟨2, by omega, rfl, fun _ => ha, fun _ => hbr, by simp, by simp⟩
    · simp (disch := omega) [wrap64]
      refine Rnd_of (m' := (t.drop (k + 1)).length) (by rw [htd2]; simp) ⟨k + 1, t.drop (k + 1), rfl, rfl, ?_, by omega, by simp (disch := omega) [wrap64]⟩
      rw [htd2]
      simp [othS, h0, h1]
  · have htd2 : td = [] := by rw [htd]; exact List.drop_eq_nil_of_le (by omega)
    subst htd2
    simp [hlt, othS]
theorem bracket_ok (hp : ∀ f, f ≠ 17 ∧ f ≠ 82 → prim f = none) (r : Int) : callM md (K prim (d + 2)) cfg 81 [.int .i32 r] h = some (.tup [.int .i64 (brS r).1, .int .i32 (brS r).2], h) := by
  refine call0 rfl (hp 81 (by decide)) Try.func81 rfl rfl rfl (by simp) ?_
  have h1 := fun cfg h => brackets88_ok (prim := prim) d cfg h (hp 88 (by decide))
  have h2 := fun cfg h => other_ok (prim := prim) d cfg h (hp 87 (by decide)) brTab (by decide) r
  unfold brS
  generalize othS brTab r = x at *
  obtain ⟨x1, x2⟩ := x
  generalize brTab = bt at *
  by_cases c1 : x2 = 1
  · simp [h1, h2, c1]
  · by_cases c0 : x2 = 0
    · simp [h1, h2, c0]
    · simp [h1, h2, c0, c1]
end
end Bi
end Go.Ab
/- The bracket rule for one sequence, in plain Lean. -/
namespace Go.Ab.Bi
/-- n places from k on get the class to. -/
def setR (s : List Int) (k : Nat) (to : Int) : Nat → List Int
  | 0 => s
  | n + 1 => setR (s.set k to) (k + 1) to n
def nsm (os : List Int) (k : Nat) : Nat := ((os.drop k).takeWhile (· == 8)).length
def bset (os s : List Int) (k : Nat) (to : Int) : List Int := setR (s.set k to) (k + 1) to (nsm os (k + 1))
/-- The last direction, or st. -/
def lastD (st : Int) (s : List Int) : Int := match s.reverse.find? fun x => decide (0 ≤ dirS x) with
  | some x => dirS x
  | none => st
def isD (d x : Int) : Bool := decide (dirS x = d)
def isO (d x : Int) : Bool := decide (0 ≤ dirS x) && !decide (dirS x = d)
def seg (s : List Int) (a k : Nat) : List Int := (s.take k).drop (a + 1)
def brk1 (d st : Int) (os s : List Int) (p : Nat × Nat) : List Int :=
  if (seg s p.1 p.2).any (isD d) then bset os (bset os s p.1 d) p.2 d
  else if (seg s p.1 p.2).any (isO d) then bset os (bset os s p.1 (lastD st (s.take p.1))) p.2 (lastD st (s.take p.1))
  else s
def brks (d st : Int) (os : List Int) (ps : List (Nat × Nat)) (s : List Int) : List Int := ps.foldl (brk1 d st os) s

theorem setR_len : ∀ (n : Nat) (s : List Int) (k : Nat) (to : Int), (setR s k to n).length = s.length
  | 0, _, _, _ => rfl
  | n + 1, s, k, to => by rw [setR, setR_len n]; simp
theorem bset_len (os s : List Int) (k : Nat) (to : Int) : (bset os s k to).length = s.length := by simp [bset, setR_len]
theorem brk1_len (d st : Int) (os s : List Int) (p : Nat × Nat) : (brk1 d st os s p).length = s.length := by
  unfold brk1
  split
  · simp [bset_len]
  · split
    · simp [bset_len]
    · rfl
theorem seg_self (s : List Int) (a : Nat) : seg s a (a + 1) = [] := by
  unfold seg
  exact List.drop_eq_nil_of_le (by simp; omega)
theorem seg_snoc {s : List Int} {a k : Nat} {x : Int} (hk : a + 1 ≤ k) (hx : s[k]? = some x) : seg s a (k + 1) = seg s a k ++ [x] := by
  have hl := (List.getElem?_eq_some_iff.1 hx).1
  unfold seg
  rw [List.take_add_one, hx]
  simp only [Option.toList_some]
  rw [List.drop_append_of_le_length (by simp; omega)]
theorem lastD_nil (st : Int) : lastD st [] = st := rfl
theorem lastD_snoc (st : Int) (s : List Int) (x : Int) : lastD st (s ++ [x]) = if 0 ≤ dirS x then dirS x else lastD st s := by
  unfold lastD
  rw [List.reverse_append, List.reverse_singleton, List.singleton_append, List.find?_cons]
  by_cases h : 0 ≤ dirS x
  · simp [h]
  · simp [h]
theorem nsm_yes {os : List Int} {k : Nat} (h : os[k]? = some 8) : nsm os k = nsm os (k + 1) + 1 := by
  have hl := (List.getElem?_eq_some_iff.1 h).1
  unfold nsm
  rw [List.drop_eq_getElem_cons hl, (List.getElem?_eq_some_iff.1 h).2]
  simp
theorem nsm_no {os : List Int} {k : Nat} (h : os[k]? ≠ some 8) : nsm os k = 0 := by
  unfold nsm
  cases hd : os.drop k with
  | nil => rfl
  | cons y r =>
    have hy : os[k]? = some y := by
      have := List.getElem?_drop (xs := os) (i := k) (j := 0)
      rw [hd] at this
      simpa using this.symm
    have hne : ¬ y = 8 := fun e => h (by rw [hy, e])
    simp [List.takeWhile_cons, hne]
theorem dirS_val (x : Int) : dirS x = -1 ∨ dirS x = 0 ∨ dirS x = 1 := by
  unfold dirS
  split
  · omega
  · split <;> omega
end Go.Ab.Bi
