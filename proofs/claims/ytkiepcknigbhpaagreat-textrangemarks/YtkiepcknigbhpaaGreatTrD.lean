/- The law TextrangeFinds, up to awake. -/
import Derived.Test.YtkiepcknigbhpaaGreatTrC
namespace Go.Ab
open Go.Proofs
namespace Tr

theorem ffold_found (t nd : List Int) (back : Bool) (a : Nat) : ∀ n, (ffold t nd back a n).2 = true → ∃ i : Nat, a ≤ i ∧ i < a + n ∧ (t.take (i + nd.length)).drop i = nd ∧ (ffold t nd back a n).1 = ((i : Int), (i : Int) + nd.length)
  | 0, h => by simp [ffold] at h
  | n + 1, h => by
    rw [ffold_succ] at h ⊢
    unfold fstep at h ⊢
    split
    · rename_i hc
      simp only [Bool.and_eq_true, decide_eq_true_eq] at hc
      exact ⟨a + n, by omega, by omega, hc.1, rfl⟩
    · rename_i hc
      rw [if_neg hc] at h
      obtain ⟨i, h1, h2, h3, h4⟩ := ffold_found t nd back a n h
      exact ⟨i, h1, by omega, h3, h4⟩

theorem findS_found (t nd : List Int) (a b : Nat) (back : Bool) (h : (findS t nd a b back).2 = true) : ∃ i : Nat, a ≤ i ∧ i + nd.length ≤ b ∧ b ≤ t.length ∧ nd ≠ [] ∧ (t.take (i + nd.length)).drop i = nd ∧ (findS t nd a b back).1 = ((i : Int), (i : Int) + nd.length) := by
  unfold findS at h ⊢
  split
  · rename_i hc
    rw [if_pos hc] at h
    simp only [Int.toNat_natCast] at h ⊢
    obtain ⟨i, h1, h2, h3, h4⟩ := ffold_found _ _ _ _ _ h
    exact ⟨i, h1, by omega, by omega, hc.2.2.2, h3, h4⟩
  · rename_i hc
    rw [if_neg hc] at h
    simp at h

theorem callM3_of {P : Program} {md : FuncId → Nat} {prim : FuncId → Option Prim} {n d : Nat} {cfg : Cfg} {h : Heap} {f : FuncId} {args args' : List V} {r : V} (hm : md f = 3) (ha : args.mapM (frzA h) = some args') (hb : args'.mapM (frzA h) = some args')
    (hc : callM md (callN P md prim n d) cfg f args' h = some (r, h)) : callM md (callN P md prim n d) cfg f args h = some (r, h) := by
  simp only [callM, hm, hb] at hc
  simp only [callM, hm, ha]
  exact hc

section
variable {prim : FuncId → Option Prim} (d : Nat) (cfg : Cfg) (h : Heap)

theorem new_ok (hp : prim 8 = none) (l : List Int) : callM md (K prim (d + 1)) cfg 8 [il l] h = some (.ptr h.length 0, h ++ [some [il (l.take 4000), .int .i64 0]]) := by
  refine call2 rfl hp Tryz.func8 rfl rfl rfl ?_
  simp
  by_cases hl : 4000 < l.length
  · have hl' : (4000 : Int) < l.length := by omega
    simp (disch := first | omega | (simp; done) | (simp; omega)) [hl']
  · have hl' : ¬ (4000 : Int) < l.length := by omega
    simp [hl', List.take_of_length_le (show l.length ≤ 4000 by omega)]

set_option maxHeartbeats 4000000 in
set_option maxRecDepth 100000 in
theorem finds_ok (hp : ∀ f, f ≠ 15 → prim f = none) (hA : ∀ cfg h, callM md (K prim (d + 3)) cfg 15 [] h = some (.bool true, h)) (l t nd : List Int) (a b : Int) (back : Bool) :
    ∃ r h', callN Tryz.prog md prim 10000 (d + 4) ⟨0, none, 0⟩ 6 [il l, rl t, rl nd, .agg [.int .i64 a, .int .i64 b], .bool back] [] = some (r, h') ∧ r = .bool true := by
  refine callN_of (R := fun r _ => r = .bool true) (hp 6 (by decide)) Tryz.func6 rfl rfl rfl ?_
  simp
  by_cases ht : 60 < t.length
  · have ht' : (60 : Int) < t.length := by omega
    simp [ht']
  have ht' : ¬ (60 : Int) < t.length := by omega
  by_cases hn : 60 < nd.length
  · have hn' : (60 : Int) < nd.length := by omega
    simp [ht', hn']
  have hn' : ¬ (60 : Int) < nd.length := by omega
  have hf := fun h => find_ok (prim := prim) (d + 1) ⟨0, none, 0⟩ h (hp 18 (by decide)) (hp 28 (by decide)) (hp 40 (by decide)) t nd a b back (by omega) (by omega)
  have hf' := fun h => find'_ok (prim := prim) (d + 1) ⟨0, none, 0⟩ h (hp 19 (by decide)) (hp 41 (by decide)) (hp 21 (by decide)) t nd a b back (by omega) (by omega)
  generalize findS t nd a b back = sr at hf hf'
  have hL : (l.take 4000).length ≤ 4000 := by simp; omega
  have hnew := fun h => new_ok (prim := prim) (d + 2) ⟨0, none, 0⟩ h (hp 8 (by decide)) l
  generalize l.take 4000 = L at hL hnew
  obtain ⟨v, k1, hv, hk1, hN⟩ := N_ok (prim := prim) (d + 2) ⟨0, none, 0⟩ [some [.int .i64 a, .int .i64 b], some [.int .i64 sr.1.1, .int .i64 sr.1.2], some [.int .i64 sr.1.1, .int .i64 sr.1.2], some [il L, .int .i64 (0 : Nat)]] (hp 10 (by decide)) L 0 hL (by omega) 24 (by omega) (by omega) 3 (by simp) (by simp)
  simp at hN
  simp [ht', hn', hf, hf', fsV, hnew, hN]
  refine wC_loop (fun m fr H => ∃ (i kk : Nat) (uv : V) (U : List Int) (T : Heap), i ≤ v ∧ m = i ∧ kk ≤ L.length ∧ U.length = v - i ∧ H = some [.int .i64 a, .int .i64 b] :: some [.int .i64 sr.1.1, .int .i64 sr.1.2] :: some [.int .i64 sr.1.1, .int .i64 sr.1.2] :: some [il L, .int .i64 kk] :: T ∧
      OwnL H 4 .i32 uv U ∧ Slots 149 [(4, .bool back), (11, .ptr 1 0), (13, .ptr 2 0), (15, .ptr 3 0), (16, uv), (17, .int .i64 i)] fr) (m := v) (by omega) ⟨v, k1, .nils, [], [], by omega, rfl, hk1, by simp, rfl, .inl ⟨rfl, rfl⟩, by simp⟩ ?_
  rintro m fr H ⟨i, kk, uv, U, T, hi, rfl, hkk, hU, rfl, hown, hs⟩
  obtain ⟨j, rfl⟩ := hs.ex
  clear hs
  simp
  by_cases hi0 : 0 < m
  · obtain ⟨u, k2, hu, hk2, hN2⟩ := N_ok (prim := prim) (d + 2) ⟨0, none, 0⟩ (some [.int .i64 a, .int .i64 b] :: some [.int .i64 sr.1.1, .int .i64 sr.1.2] :: some [.int .i64 sr.1.1, .int .i64 sr.1.2] :: some [il L, .int .i64 kk] :: (T ++ [some [.int .i32 97, .int .i32 98, .int .i32 97]])) (hp 10 (by decide)) L kk hL hkk 3 (by omega) (by omega) 3 (by simp) (by simp)
    simp at hN2
    obtain ⟨x, hx⟩ : ∃ x : Int, slot [V.int .i32 97, V.int .i32 98, V.int .i32 97] u = some (.int .i32 x) := by
      rcases (show u = 0 ∨ u = 1 ∨ u = 2 by omega) with rfl | rfl | rfl <;> exact ⟨_, rfl⟩
    simp (disch := first | omega | (simp; done) | (simp; omega)) [hi0, hN2, hx, -getElem?_pos]
    refine wS_app (l := U) (lo := 4) ?_ (by simp) (by simp) (by omega) (by omega) ?_
    · refine hown.mono fun c h1 h2 => ?_
      obtain ⟨e, rfl⟩ : ∃ e, c = e + 1 + 1 + 1 + 1 := ⟨c - 4, by omega⟩
      simp only [blockOf_succ]
      exact blockOf_left (by simp at h2; omega)
    · intro d' h' ho' htk hlen'
      simp (disch := first | omega | (simp; done) | (simp; omega)) [wrap64]
      refine Rnd_of (m' := m - 1) (by omega) ⟨m - 1, k2, d', U ++ [x], h'.drop 4, by omega, rfl, hk2, by simp; omega, ?_, ho', by simp; omega⟩
      have := List.take_append_drop 4 h'
      rw [htk] at this
      simpa using this.symm
  · have hlen := hown.len (show Tryz.prog.underlying 25 = some (.slice 21) by kernel_rfl)
    obtain ⟨fr0, k3, hfr0, hk3, hN3⟩ := N_ok (prim := prim) (d + 2) ⟨0, none, 0⟩ (some [.int .i64 a, .int .i64 b] :: some [.int .i64 sr.1.1, .int .i64 sr.1.2] :: some [.int .i64 sr.1.1, .int .i64 sr.1.2] :: some [il L, .int .i64 kk] :: T) (hp 10 (by decide)) L kk hL hkk (U.length + 1) (by omega) (by omega) 3 (by simp) (by simp)
    obtain ⟨ln0, k4, hln0, hk4, hN4⟩ := N_ok (prim := prim) (d + 2) ⟨0, none, 0⟩ (some [.int .i64 a, .int .i64 b] :: some [.int .i64 sr.1.1, .int .i64 sr.1.2] :: some [.int .i64 sr.1.1, .int .i64 sr.1.2] :: some [il L, .int .i64 k3] :: T) (hp 10 (by decide)) L k3 hL hk3 (U.length - fr0 + 1) (by omega) (by omega) 3 (by simp) (by simp)
    simp at hN3 hN4
    obtain ⟨sw, k5, hsw, hk5, hW⟩ := word_ok (prim := prim) (d + 1) ⟨0, none, 0⟩ (some [.int .i64 a, .int .i64 b] :: some [.int .i64 sr.1.1, .int .i64 sr.1.2] :: some [.int .i64 sr.1.1, .int .i64 sr.1.2] :: some [il L, .int .i64 k4] :: (T ++ [some [.int .i64 fr0, .int .i64 (fr0 + ln0)]])) (hp 20 (by decide)) (hp 10 (by decide)) L k4 hL hk4 3 (by omega) 3 (by simp) (by simp) (by simp)
    have hWl := runesOf_len sw sw.size 0
    generalize hWd : runesOf sw sw.size 0 = Wd at hWl
    simp at hW
    have hq : (fr0 : Int) + ln0 = ((fr0 + ln0 : Nat) : Int) := by simp
    have key : ∀ (p q : Int × Int), OwnL (some [.int .i64 a, .int .i64 b] :: some [.int .i64 p.1, .int .i64 p.2] :: some [.int .i64 q.1, .int .i64 q.2] :: some [il L, .int .i64 k5] :: (T ++ [some [.int .i64 fr0, .int .i64 (fr0 + ln0)], some (Wd.map (V.int .i32))])) 4 .i32 uv U := fun p q => hown.mono fun c h1 h2 => by
      obtain ⟨e, rfl⟩ : ∃ e, c = e + 1 + 1 + 1 + 1 := ⟨c - 4, by omega⟩
      simp only [blockOf_succ]
      exact blockOf_left (by simp at h2; omega)
    have hsl : ∀ (p q : Int × Int), frzA (some [.int .i64 a, .int .i64 b] :: some [.int .i64 p.1, .int .i64 p.2] :: some [.int .i64 q.1, .int .i64 q.2] :: some [il L, .int .i64 k5] :: (T ++ [some [.int .i64 fr0, .int .i64 (fr0 + ln0)], some (Wd.map (V.int .i32))])) (.sl (T.length + 1 + 1 + 1 + 1 + 1) 0 Wd.length Wd.length 1) = some (rl Wd) := fun p q => by
      rw [frzA_part (l := Wd) (k := .i32) (by simp only [blockOf_succ]; rw [blockOf_len_add (k := 1)]; simp) (by omega)]
      simp
    have hF : ∀ (p q : Int × Int), callM md (K prim (d + 3)) ⟨0, none, 0⟩ 18 [uv, .agg [.int .i64 fr0, .int .i64 (fr0 + ln0)], .sl (T.length + 1 + 1 + 1 + 1 + 1) 0 Wd.length Wd.length 1, .bool back] (some [.int .i64 a, .int .i64 b] :: some [.int .i64 p.1, .int .i64 p.2] :: some [.int .i64 q.1, .int .i64 q.2] :: some [il L, .int .i64 k5] :: (T ++ [some [.int .i64 fr0, .int .i64 (fr0 + ln0)], some (Wd.map (V.int .i32))])) = some (fsV (findS U Wd fr0 (fr0 + ln0 : Nat) back), some [.int .i64 a, .int .i64 b] :: some [.int .i64 p.1, .int .i64 p.2] :: some [.int .i64 q.1, .int .i64 q.2] :: some [il L, .int .i64 k5] :: (T ++ [some [.int .i64 fr0, .int .i64 (fr0 + ln0)], some (Wd.map (V.int .i32))])) := fun p q => by
      refine callM3_of (args' := [rl U, .agg [.int .i64 fr0, .int .i64 (fr0 + ln0)], rl Wd, .bool back]) rfl (by simp [List.mapM_cons, (key p q).frzA, hsl]) (by simp [List.mapM_cons]) ?_
      rw [hq]
      exact find_ok (prim := prim) (d + 1) _ _ (hp 18 (by decide)) (hp 28 (by decide)) (hp 40 (by decide)) U Wd fr0 (fr0 + ln0 : Nat) back (by omega) (by omega)
    have hF' : ∀ (p q : Int × Int), callM md (K prim (d + 3)) ⟨0, none, 0⟩ 19 [uv, .agg [.int .i64 fr0, .int .i64 (fr0 + ln0)], .sl (T.length + 1 + 1 + 1 + 1 + 1) 0 Wd.length Wd.length 1, .bool back] (some [.int .i64 a, .int .i64 b] :: some [.int .i64 p.1, .int .i64 p.2] :: some [.int .i64 q.1, .int .i64 q.2] :: some [il L, .int .i64 k5] :: (T ++ [some [.int .i64 fr0, .int .i64 (fr0 + ln0)], some (Wd.map (V.int .i32))])) = some (fsV (findS U Wd fr0 (fr0 + ln0 : Nat) back), some [.int .i64 a, .int .i64 b] :: some [.int .i64 p.1, .int .i64 p.2] :: some [.int .i64 q.1, .int .i64 q.2] :: some [il L, .int .i64 k5] :: (T ++ [some [.int .i64 fr0, .int .i64 (fr0 + ln0)], some (Wd.map (V.int .i32))])) := fun p q => by
      refine callM3_of (args' := [rl U, .agg [.int .i64 fr0, .int .i64 (fr0 + ln0)], rl Wd, .bool back]) rfl (by simp [List.mapM_cons, (key p q).frzA, hsl]) (by simp [List.mapM_cons]) ?_
      rw [hq]
      exact find'_ok (prim := prim) (d + 1) _ _ (hp 19 (by decide)) (hp 41 (by decide)) (hp 21 (by decide)) U Wd fr0 (fr0 + ln0 : Nat) back (by omega) (by omega)
    simp only [fsV] at hF hF'
    have hfound := findS_found U Wd fr0 (fr0 + ln0) back
    generalize findS U Wd fr0 (fr0 + ln0 : Nat) back = fs at hF hF' hfound
    have hF1 := hF sr.1 sr.1
    have hF2 := hF' fs.1 sr.1
    simp (disch := omega) [hi0, hlen, wrap64, hN3, hN4, hW, hWd, hF1, hF2, -getElem?_pos]
    clear hF1 hF2 hF hF' hW hN3 hN4
    obtain ⟨⟨f1, f2⟩, f3⟩ := fs
    cases f3
    · simp [hA]
    · obtain ⟨i, hi1, hi2, hi3, hne, hmatch, hpe⟩ := hfound rfl
      simp only [Prod.mk.injEq] at hpe
      obtain ⟨rfl, rfl⟩ := hpe
      have hWpos : 0 < Wd.length := by
        rcases Wd with _ | ⟨_, _⟩
        · exact absurd rfl hne
        · simp
      have c1 : ¬ i < fr0 := by omega
      have c2 : ¬ (fr0 : Int) + ln0 < i + Wd.length := by omega
      have c3 : (i : Int) + Wd.length - i = Wd.length := by omega
      have hk0 := key (i, i + Wd.length) (i, i + Wd.length)
      have hsl0 := hsl (i, i + Wd.length) (i, i + Wd.length)
      rcases hk0 with ⟨rfl, rfl⟩ | ⟨bu, rfl, hb1, hb2⟩
      · simp at hi3
        omega
      · have hS : ∀ off cap, off = i → callM md (K prim (d + 3)) ⟨0, none, 0⟩ 21 [.sl bu off Wd.length cap 1, .sl (T.length + 1 + 1 + 1 + 1 + 1) 0 Wd.length Wd.length 1] (some [.int .i64 a, .int .i64 b] :: some [.int .i64 i, .int .i64 (i + Wd.length)] :: some [.int .i64 i, .int .i64 (i + Wd.length)] :: some [il L, .int .i64 k5] :: (T ++ [some [.int .i64 fr0, .int .i64 (fr0 + ln0)], some (Wd.map (V.int .i32))])) = some (.bool true, some [.int .i64 a, .int .i64 b] :: some [.int .i64 i, .int .i64 (i + Wd.length)] :: some [.int .i64 i, .int .i64 (i + Wd.length)] :: some [il L, .int .i64 k5] :: (T ++ [some [.int .i64 fr0, .int .i64 (fr0 + ln0)], some (Wd.map (V.int .i32))])) := by
          rintro off cap rfl
          refine callM3_of (args' := [rl ((U.drop off).take Wd.length), rl Wd]) rfl ?_ (by simp [List.mapM_cons]) ?_
          · have hfz := frzA_part (cap := cap) hb2 (show off + Wd.length ≤ U.length by omega)
            simp [List.mapM_cons, hfz, hsl0]
          · have hmt : (U.drop off).take Wd.length = Wd := by rw [← hmatch, List.drop_take]; simp
            rw [same_ok (prim := prim) (d + 2) _ _ (hp 21 (by decide)) _ _ (by simp; omega), hmt]
            simp
        have hcc : (fr0 : Int) + ln0 = ((fr0 + ln0 : Nat) : Int) := by simp
        by_cases i0 : i = 0
        · subst i0
          have hS0 := hS 0 U.length rfl
          have hfr : fr0 = 0 := by omega
          subst hfr
          have c4 : ¬ ln0 < Wd.length := by omega
          simp at hS0 c2
          simp (disch := omega) [c2, c4, wrap64, hS0, hA, -getElem?_pos]
        · have hS0 := hS i (U.length - i) rfl
          have hle : i ≤ i + Wd.length := by omega
          have hle2 : i + Wd.length ≤ U.length := by omega
          have hne2 : Wd.length ≠ 0 := by omega
          simp (disch := omega) [c1, c2, c3, wrap64, hS0, hA, i0, show ¬ Wd = [] from hne, -getElem?_pos]
end
end Tr
end Go.Ab
