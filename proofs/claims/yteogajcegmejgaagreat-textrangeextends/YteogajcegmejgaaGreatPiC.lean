/- The reference's visual order. -/
import Derived.Test.YteogajcegmejgaaGreatPiSpec7
namespace Go.Ab
open Go.Proofs
namespace Bi
section
variable {prim : FuncId → Option Prim} (d : Nat) (cfg : Cfg) (h : Heap)
set_option maxHeartbeats 2000000 in
theorem order'_ok (hp : prim 63 = none) (lv : List Int) (hn : lv.length ≤ 2000) {args : List V} (ha : args.mapM (frzA h) = some [il lv]) :
    callM md (K prim (d + 1)) cfg 63 args h = some (il (ordS lv), h) := by
  refine call3 rfl hp Tryz.func63 rfl rfl rfl (args' := [il lv]) ha ?_
  generalize hN : lv.length = N at hn
  have hn1 : ¬ (2000 : Int) < N := by omega
  simp (disch := omega) [hN, hn1]
  refine wC_loop (fun m fr h => ∃ (i : Nat), i ≤ N ∧ m = N - i ∧ (∀ (j : Nat) (x : Int), j < i → lv[j]? = some x → 0 ≤ x ∧ x ≤ 127) ∧ h = [some ((upto N i).map (V.int .i64))] ∧
    Slots 101 [(0, il lv), (3, .sl 0 0 N N 1), (4, .int .i64 i)] fr) (m := N) (by omega) ⟨0, by omega, by omega, fun j x h => by omega, by simp [zerosFor_int, upto], by simp⟩ ?_
  rintro m fr h ⟨i, hi1, rfl, hok, rfl, hs⟩
  obtain ⟨j, rfl⟩ := hs.ex
  clear hs
  have hul := upto_len N i hi1
  by_cases hlt : i < N
  · obtain ⟨x, hx⟩ : ∃ x, lv[i]? = some x := ⟨lv[i], List.getElem?_eq_getElem (by omega)⟩
    have hle : i + 1 ≤ (upto N i).length := by omega
    by_cases hb : x < 0 ∨ 127 < x
    · have hbad := badL_at hx hb
      by_cases h0 : x < 0
      · simp (disch := omega) [hlt, hN, hx, h0, own, ordS, hbad, -getElem?_pos]
      · have h1 : 127 < x := by omega
        simp (disch := omega) [hlt, hN, hx, h0, h1, own, ordS, hbad, -getElem?_pos]
    · have h0 : ¬ x < 0 := by omega
      have h1 : ¬ 127 < x := by omega
      simp (disch := omega) [hlt, hN, hx, h0, h1, hle, upto_set, -getElem?_pos]
      refine Rnd_of (m' := N - (i + 1)) (by omega) ⟨i + 1, by omega, rfl, ?_, rfl, by simp (disch := omega) [wrap64]⟩
      intro q y hq hy
      by_cases e : q = i
      · subst e; rw [hx] at hy; cases hy; omega
      · exact hok q y (by omega) hy
  · obtain rfl : i = N := by omega
    have hbad : badL lv = false := by
      rw [badL, List.any_eq_false]
      intro x hx
      obtain ⟨j, hj, rfl⟩ := List.mem_iff_getElem.1 hx
      have := hok j lv[j] (by omega) (List.getElem?_eq_getElem hj)
      simp
      omega
    have hlv : ∀ x ∈ idx i, 0 ≤ x ∧ x < i := fun x hx => by rw [idx_mem] at hx; exact hx
    have hS : ordS lv = ordD lv 127 (idx i) := by simp [ordS, hbad, hN]
    rw [hS]
    have hidx : upto i i = idx i := upto_all i
    rw [hidx]
    simp [hN]
    refine wC_loop (fun m fr h => ∃ (out : List Int) (n : Nat), m = n ∧ out.length = i ∧ (∀ x ∈ out, x ∈ idx i) ∧ ordD lv 127 (idx i) = ordD lv n out ∧ n ≤ 127 ∧ h = [some (out.map (V.int .i64))] ∧
      Slots 101 [(0, il lv), (3, .sl 0 0 i i 1), (5, .int .i64 n)] fr) (m := 127) (by omega) ⟨idx i, 127, rfl, idx_len i, fun x hx => hx, rfl, by omega, rfl, by simp⟩ ?_
    rintro m fr h ⟨out, n, rfl, hol, hom, hod, hn127, rfl, hs⟩
    obtain ⟨j, rfl⟩ := hs.ex
    clear hs
    by_cases hge : 0 < m
    · simp [hge]
      have hpa : ∀ (l : List Int) (q : Nat) (x : Int), (∀ x ∈ l, x ∈ idx i) → l[q]? = some x → ∃ y, 0 ≤ x ∧ lv[x.toNat]? = some y ∧ (ge lv m x = decide ((m : Int) ≤ y)) := by
        intro l q x hl hx
        have hm := hlv x (hl x (List.mem_of_getElem? hx))
        have hy : lv[x.toNat]? = some lv[x.toNat] := List.getElem?_eq_getElem (by omega)
        refine ⟨_, hm.1, hy, ?_⟩
        simp [ge, lvl, hy]
      refine wC_loop (fun m' fr h => ∃ (dn td o : List Int), o = dn ++ td ∧ m' = td.length ∧ o.length = i ∧ rr (ge lv m) [] out = dn ++ rr (ge lv m) [] td ∧ (∀ x ∈ o, x ∈ idx i) ∧ h = [some (o.map (V.int .i64))] ∧
        Slots 101 [(0, il lv), (3, .sl 0 0 i i 1), (5, .int .i64 m), (6, .int .i64 dn.length)] fr) (m := out.length) (by omega) ⟨[], out, out, rfl, rfl, hol, rfl, hom, rfl, by simp⟩ ?_
      rintro m' fr h ⟨dn, td, o, ho, rfl, hoi, hrr, hmem, rfl, hs⟩
      obtain ⟨j, rfl⟩ := hs.ex
      clear hs
      have hdt : dn.length + td.length = i := by rw [← hoi, ho]; simp
      rcases td with _ | ⟨x0, td⟩
      · simp at ho
        subst ho
        simp [rr] at hrr
        simp [hoi]
        obtain ⟨n', rfl⟩ : ∃ n', m = n' + 1 := ⟨m - 1, by omega⟩
        refine Rnd_of (m' := n') (by omega) ⟨o, n', rfl, hoi, hmem, ?_, by omega, rfl, by simp (disch := omega) [wrap64]⟩
        rw [hod, ordD, ← hrr]
      · simp at hdt
        have hqi : dn.length < i := by omega
        have hx : o[dn.length]? = some x0 := by rw [ho]; simp
        obtain ⟨y, hx0, hy, hge2⟩ := hpa _ _ _ hmem hx
        by_cases hny : y < m
        · rw [decide_eq_false (by omega)] at hge2
          simp (disch := omega) [hqi, hx, hy, hny, -getElem?_pos]
          refine Rnd_of (m' := td.length) (by simp) ⟨dn ++ [x0], td, o, by rw [ho]; simp, rfl, hoi, ?_, hmem, rfl, by simp (disch := omega) [wrap64]⟩
          rw [hrr, rr_stop hge2]
          simp
        · rw [decide_eq_true (by omega)] at hge2
          simp (disch := omega) [hqi, hx, hy, hny, -getElem?_pos]
          refine wC_loop (fun m' fr h => ∃ (run rest : List Int), x0 :: td = run ++ rest ∧ 0 < run.length + 1 ∧ (∀ x ∈ run, ge lv m x = true) ∧ m' = i - dn.length - run.length ∧ h = [some (o.map (V.int .i64))] ∧
            Slots 101 [(0, il lv), (3, .sl 0 0 i i 1), (5, .int .i64 m), (6, .int .i64 dn.length), (7, .int .i64 (dn.length + run.length : Nat))] fr) (m := i - dn.length) (by omega) ⟨[], x0 :: td, rfl, by omega, by simp, by simp, rfl, by simp⟩ ?_
          rintro m' fr h ⟨run, rest, htd, _, hrun, rfl, rfl, hs⟩
          obtain ⟨j, rfl⟩ := hs.ex
          clear hs
          have hlen : dn.length + run.length + rest.length = i := by have := congrArg List.length htd; simp at this; omega
          have hoe : o = dn ++ run ++ rest := by rw [ho, htd]; simp
          have hc : ((dn.length : Int) + run.length).toNat = dn.length + run.length := by omega
          have hol2 : (dn ++ run.reverse ++ rest).length = i := by simp; omega
          have hmem2 : ∀ x ∈ dn ++ run.reverse ++ rest, x ∈ idx i := by
            intro x hx
            refine hmem x ?_
            rw [hoe]
            simpa using hx
          have hcont : (∃ y x, rest = x :: y ∧ ge lv m x = true) ∨ ((rest = [] ∨ ∃ x y, rest = x :: y ∧ ge lv m x = false) ∧ 0 < run.length) := by
            rcases rest with _ | ⟨x, rest⟩
            · exact .inr ⟨.inl rfl, by simp at hlen; omega⟩
            · cases hgx : ge lv m x
              · refine .inr ⟨.inr ⟨x, rest, rfl, hgx⟩, ?_⟩
                rcases run with _ | ⟨z, run⟩
                · simp at htd; rw [htd.1] at hge2; rw [hge2] at hgx; cases hgx
                · simp
              · exact .inl ⟨rest, x, rfl, hgx⟩
          rcases hcont with ⟨rest', x, rfl, hgx⟩ | ⟨hstop, hr0⟩
          · simp at hlen
            have hx1 : o[dn.length + run.length]? = some x := by
              rw [hoe, List.getElem?_append_right (by simp)]
              simp
            obtain ⟨y1, hx10, hy1, hge1⟩ := hpa _ _ _ hmem hx1
            have hny1 : (m : Int) ≤ y1 := by rw [hgx] at hge1; simpa using hge1.symm
            have hlt : (dn.length : Int) + run.length < i := by omega
            simp (disch := omega) [hlt, hc, hx1, hy1, hny1, -getElem?_pos]
            refine Rnd_of (m' := i - dn.length - (run ++ [x]).length) (by simp; omega) ⟨run ++ [x], rest', by rw [htd]; simp, by omega, ?_, rfl, rfl, by simp (disch := omega) [wrap64]; omega⟩
            intro z hz
            rcases List.mem_append.1 hz with hz | hz
            · exact hrun z hz
            · simp at hz; subst hz; exact hgx
          · have hR1 : rr (ge lv m) [] out = dn ++ run.reverse ++ rr (ge lv m) [] rest := by
              rw [hrr, htd, rr_run _ _ _ _ hrun]
              rcases hstop with rfl | ⟨x, y, rfl, hgx⟩
              · simp [rr]
              · rw [rr_stop hgx, rr_stop hgx]; simp
            have hend : (decide ((dn.length : Int) + run.length < i)) = true → ∃ x y1, o[dn.length + run.length]? = some x ∧ 0 ≤ x ∧ lv[x.toNat]? = some y1 ∧ ¬ (m : Int) ≤ y1 := by
              intro hl
              rcases hstop with rfl | ⟨x, y, rfl, hgx⟩
              · simp at hlen hl; omega
              · have hx1 : o[dn.length + run.length]? = some x := by
                  rw [hoe, List.getElem?_append_right (by simp)]
                  simp
                obtain ⟨y1, hx10, hy1, hge1⟩ := hpa _ _ _ hmem hx1
                refine ⟨x, y1, hx1, hx10, hy1, ?_⟩
                rw [hgx] at hge1
                simpa using hge1.symm
            by_cases hlt : (dn.length : Int) + run.length < i
            case' pos =>
              obtain ⟨x, y1, hx1, hx10, hy1, hny1⟩ := hend (by simpa using hlt)
              simp (disch := omega) [hlt, hc, hx1, hy1, hny1, -getElem?_pos]
            case' neg => simp (disch := omega) [hlt, -getElem?_pos]
            all_goals
              refine wC_loop (fun m' fr h => ∃ (k : Nat) (l : List Int), m' = run.length - k ∧ k ≤ run.length ∧ Swp o dn.length (dn.length + run.length) k l ∧ h = [some (l.map (V.int .i64))] ∧
                Slots 101 [(0, il lv), (3, .sl 0 0 i i 1), (5, .int .i64 m), (7, .int .i64 (dn.length + run.length : Nat)), (8, .int .i64 (dn.length + k : Nat)), (9, .int .i64 ((dn.length : Int) + run.length - 1 - k))] fr) (m := run.length) (by omega) ⟨0, o, by omega, by omega, Swp.zero, rfl, by simp (disch := omega) [wrap64]⟩ ?_
              rintro m' fr h ⟨k, l, rfl, hk, hSw, rfl, hs⟩
              obtain ⟨j, rfl⟩ := hs.ex
              clear hs
              have hll : l.length = i := by rw [hSw.1, hoi]
              have c1 : ((dn.length : Int) + k).toNat = dn.length + k := by omega
              by_cases hab : (dn.length : Int) + k < (dn.length : Int) + run.length - 1 - k
              · have c2 : ((dn.length : Int) + run.length - 1 - k).toNat = dn.length + run.length - 1 - k := by omega
                obtain ⟨u, hu⟩ : ∃ u, o[dn.length + k]? = some u := ⟨_, List.getElem?_eq_getElem (by omega)⟩
                obtain ⟨v, hv⟩ : ∃ v, o[dn.length + run.length - 1 - k]? = some v := ⟨_, List.getElem?_eq_getElem (by omega)⟩
                have hu' := (hSw.at (q := dn.length + k) (by omega) (by omega)).trans hu
                have hv' := (hSw.at (q := dn.length + run.length - 1 - k) (by omega) (by omega)).trans hv
                have l1 : dn.length + k + 1 ≤ l.length := by omega
                have l2 : dn.length + run.length - 1 - k + 1 ≤ l.length := by omega
                simp (disch := omega) [hab, -getElem?_pos]
                refine wC_draw 12 (by kernel_rfl) ?_
                simp (disch := omega) [c1, c2, hu', hv', l1, -getElem?_pos]
                rw [ints_set]
                simp [l2, -List.map_set]
                refine Rnd_of (m' := run.length - (k + 1)) (by omega) ⟨k + 1, _, rfl, by omega, hSw.step (by omega) (by omega) hu hv, rfl, ?_⟩
                simp (disch := omega) [wrap64]
                omega
              · subst hoe
                have hfin := hSw.fin (by omega)
                subst hfin
                simp [hab]
                refine Rnd_of (m' := rest.length) ?_ ⟨dn ++ run.reverse, rest, _, rfl, rfl, hol2, hR1, hmem2, by simp, by simp⟩
                have := congrArg List.length htd
                simp at this ⊢
                omega
    · obtain rfl : m = 0 := by omega
      rw [hod]
      simp
      have hb0 : blockOf [some (out.map (V.int .i64))] 0 = some (out.map (V.int .i64)) := by simp
      exact ⟨own_ints (d := 4) hb0, frz_ints (d := 4) (k := .i64) hb0 (Nat.zero_le _) hol⟩
end
end Bi
end Go.Ab
