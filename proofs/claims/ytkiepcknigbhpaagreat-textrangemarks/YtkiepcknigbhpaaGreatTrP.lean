/- The law of Attributes, up to awake. -/
import Derived.Test.YtkiepcknigbhpaaGreatTrN
import Derived.Test.YtkiepcknigbhpaaGreatTrI
import Derived.Test.YtkiepcknigbhpaaGreatTrD
namespace Go.Ab
open Go.Proofs
namespace Tr
theorem runAt_run (r : List (Int × Int)) : ∀ (i : Nat) (f : Int) (x : Int × Int), (∀ x ∈ r, 1 ≤ x.1) → r[i]? = some x → runAt r f (f + sumL (r.take i)) = (x.2, f + sumL (r.take i), f + sumL (r.take i) + x.1) := by
  induction r with
  | nil => intro i f x _ h; simp at h
  | cons a r ih =>
    intro i f x hp h
    rcases i with _ | i
    · simp at h
      subst h
      have := hp a (by simp)
      simp [sumL, runAt]
      intro h; omega
    · simp at h
      have e : sumL ((a :: r).take (i + 1)) = a.1 + sumL (r.take i) := by simp [sumL]
      have h1 := ih i (f + a.1) x (fun y hy => hp y (List.mem_cons_of_mem _ hy)) h
      have hs0 : ∀ (r : List (Int × Int)), (∀ x ∈ r, 1 ≤ x.1) → 0 ≤ sumL r := by
        intro r
        induction r with
        | nil => intro _; simp [sumL]
        | cons a r ih =>
          intro h
          have h1 := ih (fun x hx => h x (List.mem_cons_of_mem _ hx))
          have h2 := h a (List.mem_cons_self ..)
          simp only [sumL, List.map_cons, List.sum_cons] at h1 ⊢
          omega
      have := hs0 (r.take i) (fun y hy => hp y (List.mem_cons_of_mem _ (List.mem_of_mem_take hy)))
      rw [e, runAt, if_neg (by omega), show f + (a.1 + sumL (r.take i)) = f + a.1 + sumL (r.take i) by omega, h1]

theorem sumL_nn : ∀ (r : List (Int × Int)), (∀ x ∈ r, 1 ≤ x.1) → 0 ≤ sumL r
  | [], _ => by simp [sumL]
  | a :: r, h => by
    have h1 := sumL_nn r (fun x hx => h x (List.mem_cons_of_mem _ hx))
    have h2 := h a (List.mem_cons_self ..)
    simp only [sumL, List.map_cons, List.sum_cons] at h1 ⊢
    omega
theorem sumL_take (r : List (Int × Int)) (i : Nat) (x : Int × Int) (h : r[i]? = some x) : sumL (r.take (i + 1)) = sumL (r.take i) + x.1 := by
  rw [List.take_add_one, h]
  simp [sumL, List.sum_append]
theorem sumL_le (r : List (Int × Int)) (i : Nat) (h : ∀ x ∈ r, 1 ≤ x.1) : sumL (r.take i) ≤ sumL r := by
  have h1 := sumL_nn (r.drop i) (fun x hx => h x (List.mem_of_mem_drop hx))
  have h2 : sumL r = sumL (r.take i) + sumL (r.drop i) := by
    unfold sumL
    rw [← List.sum_append, ← List.map_append, List.take_append_drop]
  omega

theorem gath_valid {t m : List Int} (ht : t.length ≤ 2000) (hs : t.all scal = true) (hm : m.length = t.length) (hx : ∀ x ∈ m, 0 ≤ x ∧ x ≤ 15) : valB t (gath m) = 0 := by
  have hg := gok m
  have hsum := hg.sum
  have hle : ∀ (r : List (Int × Int)) (x : Int × Int), (∀ x ∈ r, 1 ≤ x.1) → x ∈ r → x.1 ≤ sumL r := by
    intro r
    induction r with
    | nil => intro x _ h; simp at h
    | cons a r ih =>
      intro x h hx
      have h2 := h a (List.mem_cons_self ..)
      have hs0 : 0 ≤ sumL r := by
        have : ∀ (r : List (Int × Int)), (∀ x ∈ r, 1 ≤ x.1) → 0 ≤ sumL r := by
          intro r
          induction r with
          | nil => intro _; simp [sumL]
          | cons a r ih =>
            intro h
            have h1 := ih (fun x hx => h x (List.mem_cons_of_mem _ hx))
            have h2 := h a (List.mem_cons_self ..)
            simp only [sumL, List.map_cons, List.sum_cons] at h1 ⊢
            omega
        exact this r (fun x hx => h x (List.mem_cons_of_mem _ hx))
      rcases List.mem_cons.1 hx with rfl | hx
      · simp only [sumL, List.map_cons, List.sum_cons] at hs0 ⊢
        omega
      · have h1 := ih x (fun x hx => h x (List.mem_cons_of_mem _ hx)) hx
        simp only [sumL, List.map_cons, List.sum_cons] at h1 ⊢
        omega
  have hb : (gath m).any bad = false := by
    rw [List.any_eq_false]
    intro x hxm
    have h1 := hg.pos x hxm
    have h2 := hx x.2 (hg.mem x hxm)
    have h3 := hle _ x hg.pos hxm
    simp only [bad, Bool.or_eq_true, decide_eq_true_eq, not_or]
    omega
  unfold valB
  rw [if_neg (by omega), if_neg (by simp [hs]), if_neg (by simp [hb]), if_neg (by simp [hsum, hm]), if_neg (by simp [hg.al])]

section
variable {prim : FuncId → Option Prim} (d : Nat)
set_option maxHeartbeats 4000000 in
set_option maxRecDepth 100000 in
theorem marks_ok (hp : ∀ f, f ≠ 15 → prim f = none) (hA : ∀ cfg h, callM md (K prim (d + 6)) cfg 15 [] h = some (.bool true, h)) (l t : List Int) (r : List (Int × Int)) (at' : Int) :
    ∃ v h', callN Tryz.prog md prim 10000 (d + 7) ⟨0, none, 0⟩ 7 [.agg [rl t, ml r], .int .i64 at', il l] [] = some (v, h') ∧ v = .bool true := by
  refine callN_of (R := fun r _ => r = .bool true) (hp 7 (by decide)) Tryz.func7 rfl rfl rfl ?_
  simp
  by_cases ht : 60 < t.length
  · have ht' : (60 : Int) < t.length := by omega
    simp [ht']
  have ht' : ¬ (60 : Int) < t.length := by omega
  by_cases hn : 60 < r.length
  · have hn' : (60 : Int) < r.length := by omega
    simp [ht', hn']
  have hn' : ¬ (60 : Int) < r.length := by omega
  have hf := fun h => attr_ok (prim := prim) (d + 2) ⟨0, none, 0⟩ h hp t r at' (by omega) (by omega)
  have hf' := fun h => attr'_ok (prim := prim) (d + 3) ⟨0, none, 0⟩ h hp t r at' (by omega) (by omega)
  generalize attrS t r at' = sr at hf hf'
  simp only [atV] at hf hf'
  have hL : (l.take 4000).length ≤ 4000 := by simp; omega
  have hnew := fun h => new_ok (prim := prim) (d + 5) ⟨0, none, 0⟩ h (hp 8 (by decide)) l
  generalize l.take 4000 = L at hL hnew
  obtain ⟨u, m, k1, hu, husc, hum, hmx, hk1, hB⟩ := buffer_ok (prim := prim) d ⟨0, none, 0⟩ [some [rl t, ml r], some [.int .i64 sr.2.1, .int .i64 sr.2.2], some [.int .i64 sr.2.1, .int .i64 sr.2.2], some [il L, .int .i64 (0 : Nat)]] hp L 0 hL (by omega) 24 (by omega) 3 (by simp) (by simp) (by simp)
  simp at hB
  have hg := gok m
  have hgl := hg.len
  have hval := gath_valid (by omega) husc hum hmx
  have hsum := hg.sum
  generalize hG : gath m = G at *
  simp [ht', hn', hf, hf', hnew, hB]
  refine wC_loop (fun m fr h => ∃ (i : Nat) (mk a b : Int), i ≤ G.length ∧ m = G.length - i ∧ h = [some [rl t, ml r], some [.int .i64 a, .int .i64 b], some [.int .i64 sr.2.1, .int .i64 sr.2.2], some [il L, .int .i64 k1], some [rl u, ml G]] ∧
      Slots 97 [(7, .int .i64 mk), (8, .ptr 1 0), (11, .ptr 4 0), (12, .int .i64 (sumL (G.take i))), (13, .int .i64 i)] fr) (m := G.length) (by omega) ⟨0, sr.1, sr.2.1, sr.2.2, by omega, by omega, by simp, by simp [sumL]⟩ ?_
  rintro m fr h ⟨i, mk, a, b, hi, rfl, rfl, hs⟩
  obtain ⟨j, rfl⟩ := hs.ex
  clear hs
  have hnn := sumL_nn (G.take i) (fun y hy => hg.pos y (List.mem_of_mem_take hy))
  by_cases hlt : i < G.length
  · obtain ⟨x, hx⟩ : ∃ x, G[i]? = some x := ⟨G[i], List.getElem?_eq_getElem hlt⟩
    have hsx := sumL_take G i x hx
    have hx1 := hg.pos x (List.mem_of_getElem? hx)
    have hle := sumL_le G (i + 1) (fun y hy => hg.pos y hy)
    have hA' : ∀ h, callM md (K prim (d + 6)) ⟨0, none, 0⟩ 22 [.agg [rl u, ml G], .int .i64 (sumL (G.take i))] h = some (.tup [.int .i64 x.2, .agg [.int .i64 (sumL (G.take i)), .int .i64 (sumL (G.take i) + x.1)]], h) := by
      intro h
      have h1 := attr_ok (prim := prim) (d + 2) ⟨0, none, 0⟩ h hp u G (sumL (G.take i)) (by omega) (by omega)
      have h2 : attrS u G (sumL (G.take i)) = (x.2, sumL (G.take i), sumL (G.take i) + x.1) := by
        have h3 := runAt_run G i 0 x (fun y hy => hg.pos y hy) hx
        simp only [Int.zero_add] at h3
        unfold attrS
        rw [if_pos ⟨hval, hnn, by omega⟩, h3]
      rw [h1, h2]
      rfl
    have hs1 : sumL (G.take (i + 1)) = sumL (G.take i) + x.1 := hsx
    simp (disch := omega) [hlt, hA', hx, wrap64, -getElem?_pos]
    refine wC_draw 25 (by kernel_rfl) ?_
    simp (disch := omega) [hlt, hx, wrap64, -getElem?_pos]
    refine Rnd_of (m' := G.length - (i + 1)) (by omega) ⟨i + 1, x.2, sumL (G.take i), sumL (G.take i) + x.1, by omega, rfl, rfl, ?_⟩
    rw [hs1]
    simp
  · have hi' : i = G.length := by omega
    subst hi'
    simp [hA, hsum, hum]
end
end Tr
end Go.Ab
