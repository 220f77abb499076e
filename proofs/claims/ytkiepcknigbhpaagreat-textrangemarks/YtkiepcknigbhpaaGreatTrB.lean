/- Find, and its reference: both are one fold over the places. -/
import Derived.Test.YtkiepcknigbhpaaGreatTrA
namespace Go.Ab
open Go.Proofs
namespace Tr

abbrev FRes := (Int × Int) × Bool
def fstep (t nd : List Int) (back : Bool) (s : FRes) (i : Nat) : FRes :=
  if decide ((t.take (i + nd.length)).drop i = nd) && (back || !s.2) then ((i, i + nd.length), true) else s
def ffold (t nd : List Int) (back : Bool) (a n : Nat) : FRes := (List.range' a n).foldl (fstep t nd back) ((0, 0), false)
def findS (t nd : List Int) (a b : Int) (back : Bool) : FRes :=
  if 0 ≤ a ∧ a ≤ b ∧ b ≤ t.length ∧ nd ≠ [] then ffold t nd back a.toNat (b.toNat + 1 - nd.length - a.toNat) else ((0, 0), false)
def fsV (s : FRes) : V := .tup [.agg [.int .i64 s.1.1, .int .i64 s.1.2], .bool s.2]

theorem ffold_succ (t nd : List Int) (back : Bool) (a n : Nat) : ffold t nd back a (n + 1) = fstep t nd back (ffold t nd back a n) (a + n) := by
  simp [ffold, List.range'_concat, List.foldl_append]
theorem fold_found (t nd : List Int) : ∀ (l : List Nat) (s : FRes), s.2 = true → l.foldl (fstep t nd false) s = s
  | [], s, _ => rfl
  | x :: l, s, hs => by
    have : fstep t nd false s x = s := by simp [fstep, hs]
    rw [List.foldl_cons, this]
    exact fold_found t nd l s hs
theorem ffold_more (t nd : List Int) (a n m : Nat) (hnm : n ≤ m) (hs : (ffold t nd false a n).2 = true) : ffold t nd false a m = ffold t nd false a n := by
  obtain ⟨k, rfl⟩ := Nat.exists_eq_add_of_le hnm
  have : List.range' a (n + k) = List.range' a n ++ List.range' (a + n) k := by rw [List.range'_append_1]
  simp only [ffold] at hs ⊢
  rw [this, List.foldl_append]
  exact fold_found t nd _ _ hs

section
variable {prim : FuncId → Option Prim} (d : Nat) (cfg : Cfg) (h : Heap)

set_option maxHeartbeats 2000000 in
theorem find'_ok (hp : prim 19 = none) (hp1 : prim 41 = none) (hp2 : prim 21 = none) (t nd : List Int) (a b : Int) (back : Bool) (ht : t.length < 1000) (hnd : nd.length < 1000) :
    callM md (K prim (d + 2)) cfg 19 [rl t, .agg [.int .i64 a, .int .i64 b], rl nd, .bool back] h = some (fsV (findS t nd a b back), h) := by
  refine call3 rfl hp Tryz.func19 rfl rfl rfl (args' := [rl t, .agg [.int .i64 a, .int .i64 b], rl nd, .bool back]) (by simp [List.mapM_cons]) ?_
  simp [valid'_ok d _ _ hp1]
  by_cases hv : 0 ≤ a ∧ a ≤ b ∧ b ≤ t.length
  · obtain ⟨h1, h2, h3⟩ := hv
    by_cases hn : nd = []
    · simp [h1, h2, h3, hn, own, findS, fsV]
    · have hn' : nd.length ≠ 0 := by simpa using hn
      have e : findS t nd a b back = ffold t nd back a.toNat (b.toNat + 1 - nd.length - a.toNat) := by simp [findS, h1, h2, h3, hn]
      obtain ⟨a', rfl⟩ := Int.eq_ofNat_of_zero_le h1
      obtain ⟨b', rfl⟩ := Int.eq_ofNat_of_zero_le (by omega : 0 ≤ b)
      simp only [Int.toNat_natCast] at e
      rw [e]
      have h2' : a' ≤ b' := by omega
      have h3' : b' ≤ t.length := by omega
      clear e h1 h2 h3
      simp [h2', h3', hn']
      refine wC_loop (fun m fr h => ∃ k i : Nat, i = a' + k ∧ k ≤ b' + 1 - nd.length - a' ∧ m = b' + 1 - nd.length - a' - k ∧
          h = [some [.int .i64 a', .int .i64 b'], some [.int .i64 0, .int .i64 0], some [.int .i64 (ffold t nd back a' k).1.1, .int .i64 (ffold t nd back a' k).1.2]] ∧
          Slots 60 [(0, rl t), (2, rl nd), (3, .bool back), (5, .ptr 0 0), (8, .ptr 1 0), (10, .ptr 2 0), (11, .bool (ffold t nd back a' k).2), (12, .int .i64 i)] fr)
        (m := b' + 1 - nd.length - a') (by omega) ⟨0, a', by omega, by omega, by omega, by simp [ffold], by simp [ffold]⟩ ?_
      rintro m fr h ⟨k, i, hi, hk, rfl, rfl, hs⟩
      obtain ⟨j, rfl⟩ := hs.ex
      clear hs
      have hsucc := ffold_succ t nd back a' k
      rw [← hi] at hsucc
      generalize hcur : ffold t nd back a' k = cur at *
      simp (disch := first | omega | (simp; done) | (simp; omega)) [wrap64]
      by_cases hlt : i + nd.length ≤ b'
      · have hc : (i : Int) + nd.length ≤ b' := by omega
        have hsm := same_ok (prim := prim) d ⟨0, none, 0⟩ [some [.int .i64 a', .int .i64 b'], some [.int .i64 0, .int .i64 0], some [.int .i64 cur.1.1, .int .i64 cur.1.2]] hp2 ((t.take (i + nd.length)).drop i) nd (by simp; omega)
        simp (disch := first | omega | (simp; done) | (simp; omega)) [hc, wrap64, hsm, -List.map_drop, -List.map_take]
        by_cases hm : (t.take (i + nd.length)).drop i = nd <;> cases back <;> cases hb : cur.2 <;> simp (disch := first | omega | (simp; done) | (simp; omega)) [hm, hb, wrap64]
        all_goals
          refine Rnd_of (m' := b' + 1 - nd.length - a' - (k + 1)) (by omega) ⟨k + 1, i + 1, by omega, by omega, rfl, ?_, ?_⟩ <;> rw [hsucc] <;> simp [fstep, hm, hb]
      · have hc : ¬ (i : Int) + nd.length ≤ b' := by omega
        have hkk : b' + 1 - nd.length - a' = k := by omega
        simp [hc, own, fsV, hkk, hcur]
  · have hv' : (decide (0 ≤ a) && decide (a ≤ b) && decide (b ≤ ↑t.length)) = false := by
      simp only [Bool.and_eq_false_iff, decide_eq_false_iff_not]
      omega
    have hv'' : (!decide (0 ≤ a) || !decide (a ≤ b) || !decide (b ≤ ↑t.length)) = true := by
      simp only [Bool.or_eq_true, Bool.not_eq_true', decide_eq_false_iff_not]
      omega
    have e : findS t nd a b back = ((0, 0), false) := by
      unfold findS
      rw [if_neg]
      rintro ⟨a1, a2, a3, _⟩
      exact hv ⟨a1, a2, a3⟩
    simp [hv', hv'', e, own, fsV]
set_option maxHeartbeats 2000000 in
theorem find_ok (hp : prim 18 = none) (hp1 : prim 28 = none) (hp2 : prim 40 = none) (t nd : List Int) (a b : Int) (back : Bool) (ht : t.length < 1000) (hnd : nd.length < 1000) :
    callM md (K prim (d + 2)) cfg 18 [rl t, .agg [.int .i64 a, .int .i64 b], rl nd, .bool back] h = some (fsV (findS t nd a b back), h) := by
  refine call3 rfl hp Tryz.func18 rfl rfl rfl (args' := [rl t, .agg [.int .i64 a, .int .i64 b], rl nd, .bool back]) (by simp [List.mapM_cons]) ?_
  simp [valid_ok d _ _ hp1]
  by_cases hv : 0 ≤ a ∧ a ≤ b ∧ b ≤ t.length
  · obtain ⟨h1, h2, h3⟩ := hv
    by_cases hn : nd = []
    · simp [h1, h2, h3, hn, own, findS, fsV]
    · have hn' : nd.length ≠ 0 := by simpa using hn
      have e : findS t nd a b back = ffold t nd back a.toNat (b.toNat + 1 - nd.length - a.toNat) := by simp [findS, h1, h2, h3, hn]
      obtain ⟨a', rfl⟩ := Int.eq_ofNat_of_zero_le h1
      obtain ⟨b', rfl⟩ := Int.eq_ofNat_of_zero_le (by omega : 0 ≤ b)
      simp only [Int.toNat_natCast] at e
      rw [e]
      have h2' : a' ≤ b' := by omega
      have h3' : b' ≤ t.length := by omega
      clear e h1 h2 h3
      simp [h2', h3', hn']
      refine wC_loop (fun m fr h => ∃ k i : Nat, (back = false → (ffold t nd back a' k).2 = false) ∧ i = a' + k ∧ k ≤ b' + 1 - nd.length - a' ∧ m = b' + 1 - nd.length - a' - k ∧
          h = [some [.int .i64 a', .int .i64 b'], some [.int .i64 0, .int .i64 0], some [.int .i64 (ffold t nd back a' k).1.1, .int .i64 (ffold t nd back a' k).1.2]] ∧
          Slots 54 [(0, rl t), (2, rl nd), (3, .bool back), (5, .ptr 0 0), (8, .ptr 1 0), (10, .ptr 2 0), (11, .bool (ffold t nd back a' k).2), (12, .int .i64 i)] fr)
        (m := b' + 1 - nd.length - a') (by omega) ⟨0, a', fun _ => rfl, by omega, by omega, by omega, by simp [ffold], by simp [ffold]⟩ ?_
      rintro m fr h ⟨k, i, hbk, hi, hk, rfl, rfl, hs⟩
      obtain ⟨j, rfl⟩ := hs.ex
      clear hs
      have hsucc := ffold_succ t nd back a' k
      rw [← hi] at hsucc
      generalize hcur : ffold t nd back a' k = cur at *
      simp (disch := first | omega | (simp; done) | (simp; omega)) [wrap64]
      by_cases hlt : i + nd.length ≤ b'
      · have hc : (i : Int) + nd.length ≤ b' := by omega
        have hsm := equal_ok (prim := prim) d ⟨0, none, 0⟩ [some [.int .i64 a', .int .i64 b'], some [.int .i64 0, .int .i64 0], some [.int .i64 cur.1.1, .int .i64 cur.1.2]] hp2 ((t.take (i + nd.length)).drop i) nd (by simp; omega)
        simp (disch := first | omega | (simp; done) | (simp; omega)) [hc, wrap64, hsm, -List.map_drop, -List.map_take]
        by_cases hm : (t.take (i + nd.length)).drop i = nd <;> cases back <;> cases hb : cur.2 <;> simp (disch := first | omega | (simp; done) | (simp; omega)) [hm, hb, wrap64]
        · have e1 : ffold t nd false a' (k + 1) = (((i : Int), (i : Int) + nd.length), true) := by rw [hsucc]; simp [fstep, hm, hb]
          have e2 := ffold_more t nd a' (k + 1) (b' + 1 - nd.length - a') (by omega) (by rw [e1])
          rw [e2, e1]
          simp [own, fsV]
        all_goals
          try (exfalso; simp [hb] at hbk; done)
        all_goals
          refine Rnd_of (m' := b' + 1 - nd.length - a' - (k + 1)) (by omega) ⟨k + 1, i + 1, ?_, by omega, by omega, rfl, ?_, ?_⟩ <;> rw [hsucc] <;> simp [fstep, hm, hb]
      · have hc : ¬ (i : Int) + nd.length ≤ b' := by omega
        have hkk : b' + 1 - nd.length - a' = k := by omega
        simp [hc, own, fsV, hkk, hcur]
  · have hv' : (decide (0 ≤ a) && decide (a ≤ b) && decide (b ≤ ↑t.length)) = false := by
      simp only [Bool.and_eq_false_iff, decide_eq_false_iff_not]
      omega
    have hv'' : (!decide (0 ≤ a) || !decide (a ≤ b) || !decide (b ≤ ↑t.length)) = true := by
      simp only [Bool.or_eq_true, Bool.not_eq_true', decide_eq_false_iff_not]
      omega
    have e : findS t nd a b back = ((0, 0), false) := by
      unfold findS
      rw [if_neg]
      rintro ⟨a1, a2, a3, _⟩
      exact hv ⟨a1, a2, a3⟩
    simp [hv', hv'', e, own, fsV]
end
end Tr
end Go.Ab
