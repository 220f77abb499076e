/- The visual order. -/
import Derived.Test.YtcedojbifnangaaBiG
namespace Go.Ab
open Go.Proofs
namespace Bi
def upto (n i : Nat) : List Int := (List.range i).map (fun x : Nat => (x : Int)) ++ List.replicate (n - i) 0
theorem upto_len (n i : Nat) (h : i ≤ n) : (upto n i).length = n := by simp [upto]; omega
theorem upto_set (n i : Nat) (h : i < n) : (upto n i).set i (i : Int) = upto n (i + 1) := by
  unfold upto
  rw [List.set_append_right _ _ (by simp)]
  obtain ⟨k, hk⟩ : ∃ k, n - i = k + 1 := ⟨n - i - 1, by omega⟩
  rw [hk, show n - (i + 1) = k by omega]
  simp [List.replicate_succ, List.range_succ]
theorem upto_all (n : Nat) : upto n n = idx n := by simp [upto, idx]

@[simp] theorem maxV_2 {k k' : IntKind} {a b : Int} : maxV [.int k a, .int k' b] = some (.int k (max a b)) := by
  simp only [maxV]
  congr 2
  split <;> omega
@[simp] theorem minV_2 {k k' : IntKind} {a b : Int} : minV [.int k a, .int k' b] = some (.int k (min a b)) := by
  simp only [minV]
  congr 2
  split <;> omega

/-- Levels that are none. -/
def badL (lv : List Int) : Bool := lv.any fun x => decide (x < 0) || decide (127 < x)
def ordS (lv : List Int) : List Int := if badL lv then [] else ordD lv 127 (idx lv.length)
theorem badL_at {lv : List Int} {i : Nat} {x : Int} (hx : lv[i]? = some x) (h : x < 0 ∨ 127 < x) : badL lv = true := by
  rw [badL, List.any_eq_true]
  exact ⟨x, List.mem_of_getElem? hx, by simpa using h⟩
theorem lvl_at {lv : List Int} {i : Nat} {x : Int} (hx : lv[i]? = some x) : lvl lv i = x := by simp [lvl, hx]

/-- What the first loop finds out. -/
structure HL (lv : List Int) (i : Nat) (hi lo : Int) : Prop where
  ok : ∀ (j : Nat) (x : Int), j < i → lv[j]? = some x → 0 ≤ x ∧ x ≤ 127 ∧ x ≤ hi ∧ (x % 2 = 1 → lo ≤ x)
  h1 : 0 ≤ hi ∧ hi ≤ 127
  h2 : hi = 0 ∨ ∃ (j : Nat), j < i ∧ lv[j]? = some hi
  l1 : lo = 129 ∨ (1 ≤ lo ∧ lo ≤ 127 ∧ lo % 2 = 1 ∧ lo ≤ hi)
theorem HL.zero {lv : List Int} : HL lv 0 0 129 := ⟨fun j x h => by omega, by omega, .inl rfl, .inl rfl⟩
theorem HL.step {lv : List Int} {i : Nat} {hi lo x : Int} (h : HL lv i hi lo) (hx : lv[i]? = some x) (h0 : 0 ≤ x) (h1 : x ≤ 127) : HL lv (i + 1) (max hi x) (if x % 2 = 1 then min lo x else lo) := by
  have ha := h.h1
  have hb := h.l1
  refine ⟨fun j y hj hy => ?_, by omega, ?_, ?_⟩
  · by_cases e : j = i
    · subst e
      rw [hx] at hy
      cases hy
      refine ⟨h0, h1, by omega, fun e => ?_⟩
      rw [if_pos e]; omega
    · obtain ⟨a, b, c, d⟩ := h.ok j y (by omega) hy
      refine ⟨a, b, by omega, fun e => ?_⟩
      have := d e
      split <;> omega
  · by_cases e : hi ≤ x
    · exact .inr ⟨i, by omega, by rw [hx]; congr 1; omega⟩
    · rcases h.h2 with h2 | ⟨j, hj, h2⟩
      · omega
      · exact .inr ⟨j, by omega, by rw [h2]; congr 1; omega⟩
  · split <;> omega

section
variable {prim : FuncId → Option Prim} (d : Nat) (cfg : Cfg) (h : Heap)
set_option maxHeartbeats 2000000 in
theorem order_ok (hp : prim 19 = none) (hp2 : prim 49 = none) (lv : List Int) (hn : lv.length ≤ 2000) {args : List V} (ha : args.mapM (frzA h) = some [il lv]) :
    callM md (K prim (d + 2)) cfg 19 args h = some (il (ordS lv), h) := by
  refine call3 rfl hp Try.func19 rfl rfl rfl (args' := [il lv]) ha ?_
  generalize hN : lv.length = N at hn
  have hn1 : ¬ (2000 : Int) < N := by omega
  simp (disch := omega) [hN, hn1]
  refine wC_loop (fun m fr h => ∃ (i : Nat) (hi lo : Int), i ≤ N ∧ m = N - i ∧ HL lv i hi lo ∧ h = [some ((upto N i).map (V.int .i64))] ∧
    Slots 84 [(0, il lv), (3, .sl 0 0 N N 1), (4, .int .i64 hi), (5, .int .i64 lo), (17, il lv), (18, .int .i64 N), (19, .int .i64 i)] fr) (m := N) (by omega) ⟨0, 0, 129, by omega, by omega, HL.zero, by simp [zerosFor_int, upto], by simp⟩ ?_
  rintro m fr h ⟨i, hi, lo, hi1, rfl, hHL, rfl, hs⟩
  obtain ⟨j, rfl⟩ := hs.ex
  clear hs
  have hul := upto_len N i hi1
  by_cases hlt : i < N
  · obtain ⟨x, hx⟩ : ∃ x, lv[i]? = some x := ⟨lv[i], List.getElem?_eq_getElem (by omega)⟩
    have hle : i + 1 ≤ (upto N i).length := by omega
    by_cases hb : x < 0 ∨ 127 < x
    · have hbad := badL_at hx hb
      by_cases h0 : x < 0
      · simp (disch := omega) [hlt, hx, h0, own, ordS, hbad, -getElem?_pos]
      · have h1 : 127 < x := by omega
        simp (disch := omega) [hlt, hx, h0, h1, own, ordS, hbad, -getElem?_pos]
    · have h0 : ¬ x < 0 := by omega
      have h1 : ¬ 127 < x := by omega
      have hst := hHL.step hx (by omega) (by omega)
      simp (disch := omega) [hlt, hx, h0, h1, hle, upto_set, -getElem?_pos]
      by_cases hodd : x % 2 = 1
      · rw [if_pos hodd] at hst
        have ho : x.tmod 2 = 1 := by rw [Int.tmod_eq_emod_of_nonneg (by omega)]; exact hodd
        simp [ho]
        exact Rnd_of (m' := N - (i + 1)) (by omega) ⟨i + 1, _, _, by omega, rfl, hst, rfl, by simp (disch := omega) [wrap64]⟩
      · rw [if_neg hodd] at hst
        have ho : ¬ x.tmod 2 = 1 := by rw [Int.tmod_eq_emod_of_nonneg (by omega)]; exact hodd
        simp [ho]
        exact Rnd_of (m' := N - (i + 1)) (by omega) ⟨i + 1, _, _, by omega, rfl, hst, rfl, by simp (disch := omega) [wrap64]⟩
  · obtain rfl : i = N := by omega
    have hbad : badL lv = false := by
      rw [badL, List.any_eq_false]
      intro x hx
      obtain ⟨j, hj, rfl⟩ := List.mem_iff_getElem.1 hx
      have := hHL.ok j lv[j] (by omega) (List.getElem?_eq_getElem hj)
      simp
      omega
    have hlv : ∀ x ∈ idx i, 0 ≤ x ∧ x < i ∧ 0 ≤ lvl lv x ∧ lvl lv x ≤ hi ∧ lvl lv x ≤ 127 ∧ (lvl lv x % 2 = 1 → lo ≤ lvl lv x) := by
      intro x hx
      rw [idx_mem] at hx
      obtain ⟨j, rfl⟩ := Int.eq_ofNat_of_zero_le hx.1
      have hj : lv[j]? = some lv[j] := List.getElem?_eq_getElem (by omega)
      have := hHL.ok j _ (by omega) hj
      have e := lvl_at hj
      rw [e]
      omega
    have h1 := hHL.h1
    have hev : lo = 129 → hi % 2 = 0 := by
      intro e
      rcases hHL.h2 with h2 | ⟨j, hj, h2⟩
      · omega
      · have := hHL.ok j _ hj h2
        omega
    have hl1 := hHL.l1
    have hS : ordS lv = ordD lv 127 (idx i) := by simp [ordS, hbad, hN]
    rw [hS]
    have hfirst : ordD lv 127 (idx i) = ordD lv hi.toNat (idx i) := ord_high lv _ _ _ (by omega) fun x hx => by have := hlv x hx; omega
    have hidx : upto i i = idx i := upto_all i
    rw [hidx]
    simp
    refine wC_loop (fun m fr h => ∃ (out : List Int) (n : Nat), m = n + 1 - lo.toNat ∧ out.length = i ∧ (∀ x ∈ out, x ∈ idx i) ∧ ordD lv 127 (idx i) = ordD lv n out ∧ (lo ≤ n + 1 ∨ lo = 129 ∧ n % 2 = 0) ∧ n ≤ 127 ∧ h = [some (out.map (V.int .i64))] ∧
      Slots 84 [(0, il lv), (3, .sl 0 0 i i 1), (5, .int .i64 lo), (8, .int .i64 n)] fr) (m := hi.toNat + 1 - lo.toNat) (by omega) ⟨idx i, hi.toNat, rfl, idx_len i, fun x hx => hx, hfirst, by omega, by omega, rfl, by simp; omega⟩ ?_
    rintro m fr h ⟨out, n, rfl, hol, hom, hod, hln, hn127, rfl, hs⟩
    obtain ⟨j, rfl⟩ := hs.ex
    clear hs
    by_cases hge : lo ≤ n
    · simp [hge]
      have hpa : ∀ (l : List Int) (q : Nat) (x : Int), (∀ x ∈ l, x ∈ idx i) → l[q]? = some x → ∃ y, 0 ≤ x ∧ lv[x.toNat]? = some y ∧ (ge lv n x = decide ((n : Int) ≤ y)) := by
        intro l q x hl hx
        have hm := hlv x (hl x (List.mem_of_getElem? hx))
        have hy : lv[x.toNat]? = some lv[x.toNat] := List.getElem?_eq_getElem (by omega)
        refine ⟨_, hm.1, hy, ?_⟩
        simp [ge, lvl, hy]
      refine wC_loop (fun m fr h => ∃ (dn td o : List Int) (q : Nat), o = dn ++ td ∧ m = i + 1 - q ∧ o.length = i ∧ rr (ge lv n) [] out = dn ++ rr (ge lv n) [] td ∧ (∀ x ∈ o, x ∈ idx i) ∧ (q = dn.length ∨ td = [] ∧ q = dn.length + 1) ∧ h = [some (o.map (V.int .i64))] ∧
        Slots 84 [(0, il lv), (3, .sl 0 0 i i 1), (5, .int .i64 lo), (8, .int .i64 n), (9, .int .i64 q)] fr) (m := i + 1) (by omega) ⟨[], out, out, 0, rfl, by omega, hol, rfl, hom, .inl rfl, rfl, by simp⟩ ?_
      rintro m fr h ⟨dn, td, o, q, ho, rfl, hoi, hrr, hmem, hq, rfl, hs⟩
      obtain ⟨j, rfl⟩ := hs.ex
      clear hs
      have hdt : dn.length + td.length = i := by rw [← hoi, ho]; simp
      by_cases hqi : q < i
      · obtain rfl : q = dn.length := by
          rcases hq with hq | ⟨rfl, hq⟩
          · exact hq
          · simp at hdt; omega
        simp [hqi]
        refine wC_loop (fun m fr h => ∃ (run rest : List Int), td = run ++ rest ∧ (∀ x ∈ run, ge lv n x = true) ∧ m = i - dn.length - run.length ∧ h = [some (o.map (V.int .i64))] ∧
          Slots 84 [(0, il lv), (3, .sl 0 0 i i 1), (5, .int .i64 lo), (8, .int .i64 n), (9, .int .i64 dn.length), (10, .int .i64 (dn.length + run.length : Nat))] fr) (m := i - dn.length) (by omega) ⟨[], td, rfl, by simp, by simp, rfl, by simp⟩ ?_
        rintro m fr h ⟨run, rest, htd, hrun, rfl, rfl, hs⟩
        obtain ⟨j, rfl⟩ := hs.ex
        clear hs
        have hlen : dn.length + run.length + rest.length = i := by rw [htd] at hdt; simp at hdt; omega
        have hoe : o = dn ++ run ++ rest := by rw [ho, htd]; simp
        have hc : ((dn.length : Int) + run.length).toNat = dn.length + run.length := by omega
        have hR : 0 < run.length → ∀ cap, callM md (K prim (d + 1)) ⟨0, none, 0⟩ 49 [.sl 0 dn.length run.length cap 1] [some (o.map (V.int .i64))] = some (.tup [], [some ((dn ++ run.reverse ++ rest).map (V.int .i64))]) := by
          intro _ cap
          have := reverse_ok (prim := prim) d ⟨0, none, 0⟩ [some (o.map (V.int .i64))] hp2 dn run rest (by omega) 0 cap (by simp [hoe]) (by simp)
          simpa using this
        have hsl : 0 < run.length → slcS 1 0 0 i i 1 (some dn.length) (some (dn.length + run.length)) = some (.sl 0 dn.length run.length (i - dn.length) 1) := by
          intro h0
          rw [slcS_of (by omega) (by omega) (by omega)]
          split
          · rename_i e; simp [e]
          · rw [if_neg (by omega)]; simp
        have hol2 : (dn ++ run.reverse ++ rest).length = i := by simp; omega
        have hmem2 : ∀ x ∈ dn ++ run.reverse ++ rest, x ∈ idx i := by
          intro x hx
          refine hmem x ?_
          rw [hoe]
          simpa using hx
        rcases rest with _ | ⟨x, rest⟩
        · simp at hlen
          have hr0 : 0 < run.length := by omega
          have hlt : ¬ (dn.length : Int) + run.length < i := by omega
          have hR := hR hr0
          have hsl := hsl hr0
          have hgt : (dn.length : Int) < dn.length + run.length := by omega
          generalize ho2 : dn ++ run.reverse ++ [] = o2 at *
          simp (disch := omega) [hlt, hsl, hc, hgt, hR, -slcS_of]
          refine Rnd_of (m' := i + 1 - (dn.length + run.length + 1)) (by omega) ⟨dn ++ run.reverse, [], o2, dn.length + run.length + 1, ho2.symm, rfl, hol2, ?_, hmem2, .inr ⟨rfl, by simp⟩, rfl, by simp (disch := omega) [wrap64]⟩
          rw [hrr, htd]
          simp [rr, rr_all _ run hrun]
        · simp at hlen
          have hx : o[dn.length + run.length]? = some x := by
            rw [hoe, List.getElem?_append_right (by simp)]
            simp
          obtain ⟨y, hx0, hy, hge2⟩ := hpa _ _ _ hmem hx
          have hlt : (dn.length : Int) + run.length < i := by omega
          by_cases hny : (n : Int) ≤ y
          · simp (disch := omega) [hlt, hc, hx, hy, hny, -getElem?_pos]
            refine Rnd_of (m' := i - dn.length - (run ++ [x]).length) (by simp; omega) ⟨run ++ [x], rest, by rw [htd]; simp, ?_, rfl, rfl, by simp (disch := omega) [wrap64]; omega⟩
            intro z hz
            rcases List.mem_append.1 hz with hz | hz
            · exact hrun z hz
            · simp at hz; subst hz; rw [hge2, decide_eq_true hny]
          · rw [decide_eq_false hny] at hge2
            by_cases hr0 : run = []
            · subst hr0
              simp at hx hlt
              simp (disch := omega) [hlt, hx, hy, hny, -getElem?_pos]
              refine Rnd_of (m' := i + 1 - (dn.length + 1)) (by omega) ⟨dn ++ [x], rest, o, dn.length + 1, by rw [hoe]; simp, rfl, hoi, ?_, hmem, .inl (by simp), rfl, by simp (disch := omega) [wrap64]⟩
              rw [hrr, htd]
              simp [rr_stop hge2]
            · have hr0 : 0 < run.length := List.length_pos_iff.2 hr0
              have hR := hR hr0
              have hsl := hsl hr0
              have hgt : (dn.length : Int) < dn.length + run.length := by omega
              generalize ho2 : dn ++ run.reverse ++ x :: rest = o2 at *
              simp (disch := omega) [hlt, hc, hx, hy, hny, hsl, hgt, hR, -slcS_of, -getElem?_pos]
              refine Rnd_of (m' := i + 1 - (dn.length + run.length + 1)) (by omega) ⟨dn ++ run.reverse ++ [x], rest, o2, dn.length + run.length + 1, by rw [← ho2]; simp, rfl, hol2, ?_, hmem2, .inl (by simp; omega), rfl, by simp (disch := omega) [wrap64]⟩
              rw [hrr, htd, rr_run _ _ _ _ hrun, rr_stop hge2]
              simp
      · have htd : td = [] := by
          rcases hq with rfl | ⟨rfl, _⟩
          · exact List.length_eq_zero_iff.1 (by omega)
          · rfl
        subst htd
        simp at ho
        subst ho
        simp [rr] at hrr
        simp [hqi]
        obtain ⟨n', rfl⟩ : ∃ n', n = n' + 1 := ⟨n - 1, by omega⟩
        refine Rnd_of (m' := n' + 1 - lo.toNat) (by omega) ⟨o, n', rfl, hoi, hmem, ?_, by omega, by omega, rfl, by simp (disch := omega) [wrap64]⟩
        rw [hod, ordD, ← hrr]
    · have hlow : ordD lv n out = out := by
        obtain ⟨k, rfl⟩ : ∃ k, n = 2 * k := ⟨n / 2, by omega⟩
        refine ord_low lv out k fun x hx hx2 => ?_
        have := hlv x (hom x hx)
        omega
      rw [hod, hlow]
      simp [hge]
      have hb0 : blockOf [some (out.map (V.int .i64))] 0 = some (out.map (V.int .i64)) := by simp
      exact ⟨own_ints (d := 4) hb0, frz_ints (d := 4) (k := .i64) hb0 (Nat.zero_le _) hol⟩
end
end Bi
end Go.Ab
