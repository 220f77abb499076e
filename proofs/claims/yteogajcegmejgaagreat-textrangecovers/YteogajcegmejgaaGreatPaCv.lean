/- Several texts of this proof in one. -/
import Derived.Test.YteogajcegmejgaaGreatAbSortI
import Derived.Test.YteogajcegmejgaaGreatPiL
import Derived.Test.YteogajcegmejgaaGreatPaXt
import Derived.Test.YteogajcegmejgaaGreatPaRef9
import Derived.Test.YteogajcegmejgaaGreatExtra
namespace Go.Ab
open Go.Proofs
namespace Bi
section
variable {prim : FuncId → Option Prim} (d : Nat)
theorem gt_ok (hp : prim 29 = none) (h : Heap) (bs : Nat) (n x : Int) (hb : blockOf h bs = some [.int .i64 n]) :
    ∀ cfg, callM md (K prim (d + 1)) cfg 29 [.int .i64 x, .ptr bs 0] h = some (.bool (decide (n ≤ x)), h) := by
  obtain ⟨r, h2, h3, rfl, rfl⟩ := call0rx (md' := md) (prim := prim) (n := 10000) (d := d) (h := h) (args := [.int .i64 x, .ptr bs 0]) (Post := fun r h2 => r = .bool (decide (n ≤ x)) ∧ h2 = h) rfl hp Tryz.func29 rfl rfl rfl (by simp) (by
    simp (disch := omega) [hb])
  exact h3
theorem idx_ok (hp : prim 29 = none) (hp2 : prim 50 = none) (h : Heap) (bs b : Nat) (n N : Int) (l : List Int) (hl : l.length ≤ 5000) (hs : blockOf h bs = some [.int .i64 n]) (hb : blockOf h b = some ((l ++ [N]).map (V.int .i64))) (h1 : ∀ x ∈ l, x < n) (h2 : n ≤ N) :
    ∀ cfg, callM md (K prim (d + 2)) cfg 50 [.sl b 0 (l.length + 1) (l.length + 1) 1, .func (.func 29) [] [.ptr bs 0]] h = some (.int .i64 l.length, h) := by
  have hG := fun x => gt_ok d hp h bs n x hs
  obtain ⟨r, h2, h3, rfl, rfl⟩ := call0rx (md' := md) (prim := prim) (n := 10000) (d := d + 1) (h := h) (args := [.sl b 0 (l.length + 1) (l.length + 1) 1, .func (.func 29) [] [.ptr bs 0]]) (Post := fun r h2 => r = .int .i64 l.length ∧ h2 = h) rfl hp2 Tryz.func50 rfl rfl rfl (by simp) (by
    simp (disch := omega)
    refine wC_loop (fun m fr H => ∃ i : Nat, i ≤ l.length ∧ m = l.length - i ∧ H = h ∧ Slots 19 [(0, .sl b 0 (l.length + 1) (l.length + 1) 1), (1, .func (.func 29) [] [.ptr bs 0]), (7, .int .i64 ((l.length : Int) + 1)), (8, .int .i64 i)] fr) (m := l.length) (by omega) ⟨0, by omega, by omega, rfl, by simp⟩ ?_
    rintro m fr H ⟨i, hi, rfl, rfl, hs'⟩
    obtain ⟨j, rfl⟩ := hs'.ex
    clear hs'
    have hlt : (i : Int) < (l.length : Int) + 1 := by omega
    have hiw : IntKind.i64.wrap ((i : Int) + 1) = ((i + 1 : Nat) : Int) := by rw [wrap64 (by omega) (by omega)]; omega
    by_cases hil : i < l.length
    · obtain ⟨x, hx⟩ : ∃ x, l[i]? = some x := ⟨_, List.getElem?_eq_getElem hil⟩
      have hxn : ¬ n ≤ x := by have := h1 x (List.mem_of_getElem? hx); omega
      have hx' : (l ++ [N])[i]? = some x := by rw [List.getElem?_append_left hil]; exact hx
      simp (disch := omega) [hlt, hb, hx', hG, hxn, hiw, -List.map_append, -getElem?_pos]
      exact Rnd_of (m' := l.length - (i + 1)) (by omega) ⟨i + 1, by omega, by omega, rfl, by simp⟩
    · obtain rfl : i = l.length := by omega
      have hx' : (l ++ [N])[l.length]? = some N := by simp
      simp (disch := omega) [hlt, hb, hx', hG, h2, -List.map_append, -getElem?_pos])
  exact h3
theorem clone_ok (hp : prim 28 = none) (cfg : Cfg) (h : Heap) (hlo : cfg.lo ≤ h.length) (b : List Int) (hb0 : b ≠ []) (hb : b.length ≤ 5000) :
    ∃ k h', callM md (K prim (d + 1)) cfg 28 [il b] h = some (.sl k 0 b.length b.length 1, h') ∧ h.length ≤ k ∧ Hp h' h [(1, .sl k 0 b.length b.length 1, b.map (V.int .i64))] := by
  suffices HH : ∃ r h', callM md (K prim (d + 1)) cfg 28 [il b] h = some (r, h') ∧ ∃ k, r = .sl k 0 b.length b.length 1 ∧ h.length ≤ k ∧ Hp h' h [(1, .sl k 0 b.length b.length 1, b.map (V.int .i64))] by
    obtain ⟨r, h', h1, k, rfl, h2, h3⟩ := HH
    exact ⟨k, h', h1, h2, h3⟩
  refine call2x rfl hp Tryz.func28 rfl rfl rfl ?_
  have hu : Tryz.prog.underlying 22 = some (.slice 3) := by kernel_rfl
  have hq : binV Tryz.prog .eql 22 (il b) .nils = some (.bool false) := by
    rcases b with _ | ⟨x, b⟩
    · exact absurd rfl hb0
    · simp only [binV, eqV, il, List.map_cons, hu]
  have hbl : 0 < b.length := List.length_pos_iff.2 hb0
  have hn := (Hp.start (H := h)).new (cs := ([] : List V)) (n := 0) (k := 1) rfl rfl []
  simp (disch := omega) [hq]
  refine wS_appO (m := b.length) hn hlo (by simp) (by cases b <;> rfl) hbl (by omega) (by simp; omega) (by simp; omega) ?_
  intro v' H' hh
  rw [List.nil_append] at hh
  obtain ⟨k, rfl, hk1, hk2, hk3⟩ := hh.head.ints hbl
  simp (disch := omega)
  exact ⟨hk1, hh⟩
set_option maxHeartbeats 4000000 in
theorem delf_ok (hp : prim 29 = none) (hp2 : prim 50 = none) (hp3 : prim 27 = none) (cfg : Cfg) (h : Heap) (bs b : Nat) (n N : Int) (l : List Int) (hl0 : l ≠ []) (hl : l.length ≤ 5000) (hs : blockOf h bs = some [.int .i64 n]) (hb : blockOf h b = some ((l ++ [N]).map (V.int .i64))) (h1 : ∀ x ∈ l, x < n) (h2 : n ≤ N) (hw : cfg.wr b = true) :
    callM md (K prim (d + 3)) cfg 27 [.sl b 0 (l.length + 1) (l.length + 1) 1, .func (.func 29) [] [.ptr bs 0]] h = some (.sl b 0 l.length (l.length + 1) 1, h.set b (some ((l ++ [0]).map (V.int .i64)))) := by
  have hI := idx_ok (prim := prim) d hp hp2 h bs b n N l hl hs hb h1 h2
  have hbl := blockOf_lt hb
  have hlp : 0 < l.length := List.length_pos_iff.2 hl0
  have hiw : IntKind.i64.wrap ((l.length : Int) + 1) = ((l.length + 1 : Nat) : Int) := by rw [wrap64 (by omega) (by omega)]; omega
  refine call2 rfl hp3 Tryz.func27 rfl rfl rfl ?_
  have hne : ¬ (l.length : Int) = -1 := by omega
  simp (disch := omega) [hI, hne, hiw]
  refine wC_loop (fun m fr H => m = 0 ∧ H = h ∧ Slots 42 [(0, .sl b 0 (l.length + 1) (l.length + 1) 1), (5, .int .i64 l.length), (6, .int .i64 ((l.length : Int) + 1))] fr) (m := 0) (by omega) ⟨rfl, rfl, by simp⟩ ?_
  rintro m fr H ⟨rfl, rfl, hs'⟩
  obtain ⟨j, rfl⟩ := hs'.ex
  clear hs'
  have hK0 : ¬ l.length = 0 := by omega
  have hsz : szOf Tryz.prog 3 = some 1 := by kernel_rfl
  have hz : zerosFor [V.int .i64 0] 1 = [V.int .i64 0] := rfl
  simp (disch := omega) [hb, hK0, hw, clearV, hsz, hz, vcells, -List.map_append]
end
end Bi
end Go.Ab
namespace Go.Ab
open Go.Proofs
namespace Bi
theorem pass_slS (d : Nat) (h : Heap) (bk cap : Nat) (b z : List Int) (hb : b.length ≤ 5000) (hbk : blockOf h bk = some ((b ++ z).map (V.int .i64))) (a n : Int) (cfg : Cfg) :
    callM md (K pY (d + 1)) cfg 30 [.sl bk 0 b.length cap 1, .int .i64 a, .int .i64 n] h = some (.tup [.int .i64 (Tx.passS b a n).1, .int .i64 (Tx.passS b a n).2], h) := pass_sl d h bk cap b z hb hbk a n cfg
theorem pY_clone : pY 28 = none := by
  unfold pY pX
  rw [if_neg (by decide), if_neg (by decide), if_neg (by decide)]
set_option maxHeartbeats 8000000 in
theorem move_ok (d : Nat) (hd : d + 7 ≤ 40) (cfg : Cfg) (h : Heap) (p : Par) (L : List LinG) (u : Int) (b : List Int) (hb : b.length ≤ 4900) (hn : Tx.Bnd b p.t.length)
    (hB : ∀ cfg h, callM md (K pY (d + 6)) cfg 11 [.agg (parC p), .lst (L.map linF), .int .i64 u] h = some (il b, h)) (f t k : Int) (h0 : 0 ≤ f) (h1 : f ≤ t) (h2 : t ≤ p.t.length) :
    callM md (K pY (d + 7)) cfg 14 [.agg (parC p), .lst (L.map linF), .agg [.int .i64 f, .int .i64 t], .int .i64 u, .int .i64 k] h = some (.tup [.agg [.int .i64 (Tx.movS b f t p.t.length k).1, .int .i64 (Tx.movS b f t p.t.length k).2.1], .int .i64 (Tx.movS b f t p.t.length k).2.2], h) := by
  refine call0 rfl (pY_none _ (by decide) (by decide)) Tryz.func14 rfl rfl rfl (by simp [parC]) ?_
  obtain ⟨hlf, hmp, s0, s1, s2, s3, s4, l5, t5⟩ := pslots p
  have hV := fun cfg h => toY (d := d + 6) (by omega) (tvalid_ok (prim := pX) (d + 5) pX_none cfg h f t p.t.length)
  have hbp : ¬ b = [] := fun e => by have := hn.zero; rw [e] at this; simp at this
  have hbl : ¬ (b.length : Int) = 0 := fun e => hbp (List.eq_nil_of_length_eq_zero (by omega))
  simp only [h0, h1, h2, decide_true, Bool.and_true] at hV
  simp (disch := omega) [hlf, hmp, l5, t5, s0, hB, hbp, hV]
  by_cases hft : f < t
  · obtain ⟨b', hb'⟩ : ∃ b', b = b' ++ [(p.t.length : Int)] := by
      have h1 := hn.last
      have h2 := (List.getElem?_eq_some_iff.1 hn.first).1
      refine ⟨b.take (b.length - 1), ?_⟩
      conv => lhs; rw [← List.take_append_drop (b.length - 1) b]
      rw [(Tx.up_split hn.up h1).2.2, List.drop_eq_nil_of_le (by omega)]
    have hup := hn.up
    rw [hb'] at hup
    have hlt' : ∀ x ∈ b', x < (p.t.length : Int) := fun x hx => (List.pairwise_append.1 hup).2.2 x hx _ (by simp)
    have hfil : b.filter (fun x => decide (x < (p.t.length : Int))) = b' := by
      rw [hb', List.filter_append, List.filter_eq_self.2 fun x hx => by simpa using hlt' x hx]
      simp
    have hbl' : b.length = b'.length + 1 := by rw [hb']; simp
    have hb0' : b' ≠ [] := by
      rintro rfl
      have := hn.len (by omega)
      simp at hbl'
      omega
    have hm : Tx.movS b f t p.t.length k = if (Tx.passS b' f k).2 = 0 then (f, t, 0) else (Tx.whF (Tx.passS b' f k).1 p.t.length b 0, Tx.whT (Tx.whF (Tx.passS b' f k).1 p.t.length b 0) (Tx.passS b' f k).1 p.t.length b, (Tx.passS b' f k).2) := by
      unfold Tx.movS
      simp only [if_pos hft, hfil]
    rw [hm]
    clear hm
    simp (disch := omega) [hft, -wC_block]
    obtain ⟨H4, hH4⟩ : ∃ H4 : Heap, H4 = [some (parC p), some [.int .i64 f, .int .i64 t], some [.int .i64 0, .int .i64 0], some [.int .i64 p.t.length]] := ⟨_, rfl⟩
    have hl4 : H4.length = 4 := by rw [hH4]; rfl
    obtain ⟨kk, H5, hC, hk4, hhp⟩ := clone_ok (prim := pY) (d + 5) pY_clone ⟨0, none, 0⟩ H4 (Nat.zero_le _) b hbp (by omega)
    have hat := hhp.head.at
    have hbk : blockOf H5 kk = some ((b' ++ [(p.t.length : Int)]).map (V.int .i64)) := by rw [← hb']; exact hat.2.2.1
    have hs3 : blockOf H5 3 = some [.int .i64 p.t.length] := by rw [hhp.block (by omega), hH4]; rfl
    have hD := delf_ok (prim := pY) (d + 3) (pY_none _ (by decide) (by decide)) (pY_none _ (by decide) (by decide)) (pY_none _ (by decide) (by decide)) ⟨0, none, 0⟩ H5 3 kk p.t.length p.t.length b' hb0' (by omega) hs3 hbk hlt' (Int.le_refl _) (wr_lo (Nat.zero_le _))
    have e0 : blockOf (H5.set kk (some ((b' ++ [0]).map (V.int .i64)))) 0 = some (parC p) := by rw [blockOf_set (by omega), hhp.block (by omega), hH4]; simp [blockOf, hmp]
    have e1 : blockOf (H5.set kk (some ((b' ++ [0]).map (V.int .i64)))) 1 = some [.int .i64 f, .int .i64 t] := by rw [blockOf_set (by omega), hhp.block (by omega), hH4]; rfl
    have e2 : blockOf (H5.set kk (some ((b' ++ [0]).map (V.int .i64)))) 2 = some [.int .i64 0, .int .i64 0] := by rw [blockOf_set (by omega), hhp.block (by omega), hH4]; rfl
    have e3 : blockOf (H5.set kk (some ((b' ++ [0]).map (V.int .i64)))) 3 = some [.int .i64 p.t.length] := by rw [blockOf_set (by omega), hs3]
    have ek : blockOf (H5.set kk (some ((b' ++ [0]).map (V.int .i64)))) kk = some ((b' ++ [0]).map (V.int .i64)) := by rw [blockOf_set_self hat.2.1, isMap_ints]; rfl
    have hP := pass_slS (d + 5) _ kk (b'.length + 1) b' [0] (by omega) ek f k
    have hlH : 4 ≤ (H5.set kk (some ((b' ++ [0]).map (V.int .i64)))).length := by have := hat.2.1; simp; omega
    have hWh := fun cfg h a => toY (d := d + 6) (by omega) (whole_ex (prim := pX) (d + 5) pX_none cfg h b (by omega) a a p.t.length)
    rw [hbl'] at hC
    have mC : md 28 = 2 := rfl
    have mD : md 27 = 2 := rfl
    rw [← hH4]
    generalize Tx.passS b' f k = q at *
    generalize H5.set kk (some ((b' ++ [0]).map (V.int .i64))) = H6 at *
    clear hhp hbk hat hk4 hs3 ek hb' hup hlt' hfil hH4
    simp (disch := omega) [hC, hD, e1, hP]
    by_cases hq : q.2 = 0
    · rw [if_pos hq]
      simp (disch := omega) [hq, e1, e2]
    · rw [if_neg hq]
      simp (disch := omega) [hq, hft, e1, e2, e3, hWh]
  · have hP := fun cfg h => pass_okS (d + 5) cfg h b hbp (by omega) f k
    have hm : Tx.movS b f t p.t.length k = if (Tx.passS b f k).2 = 0 then (f, t, 0) else ((Tx.passS b f k).1, (Tx.passS b f k).1, (Tx.passS b f k).2) := by
      unfold Tx.movS
      simp only [if_neg hft]
    rw [hm]
    simp (disch := omega) [hft, hP]
    by_cases hq : (Tx.passS b f k).2 = 0
    · simp (disch := omega) [hq]
    · simp (disch := omega) [hq, hft]
end Bi
end Go.Ab
namespace Go.Ab
open Go.Proofs
namespace Bi
set_option maxHeartbeats 16000000 in
set_option maxRecDepth 100000 in
theorem covers_ok (d : Nat) (hd : d + 11 ≤ 40) (l : List Int) : ∃ v h', callN Tryz.prog md pY 10000 (d + 11) ⟨0, none, 0⟩ 4 [il l] [] = some (v, h') ∧ v = .bool true := by
  have hA := fun cfg h => awakeY (d + 9) (by omega) cfg h
  have hNw := fun cfg h => toY (d := d + 10) (by omega) (new_ok (prim := pX) (d + 9) cfg h (pX_none _ (by decide)) l)
  have hL : (l.take 4000).length ≤ 4000 := by simp; omega
  refine callN_of (R := fun r _ => r = .bool true) (pY_none _ (by decide) (by decide)) Tryz.func4 rfl rfl rfl ?_
  generalize hLL : l.take 4000 = L at *
  obtain ⟨p, ls, k0, hpt, hls, hlr, hk0, hBu⟩ := built_ok (prim := pX) d pX_none L hL
  rw [show ((0 : Nat) : Int) = 0 from rfl] at hBu
  have hBu' := toY (d := d + 10) (by omega) hBu
  obtain ⟨hlf, hmp, s0, s1, s2, s3, s4, l5, t5⟩ := pslots p
  have hpp : putAt [.nils, .nils, .int .i64 0, .int .i64 0, .int .i64 0] 0 (parC p) = parC p := rfl
  obtain ⟨u, k3, hu1, hu5, hk3, hR⟩ := R_all (prim := pX) (d + 8) pX_none L k0 hL hk0 1 5 (by omega) (by omega) (by omega)
  have hR' := toY (d := d + 10) (by omega) (hR ⟨0, none, 0⟩ [some [il L, .int .i64 k0], some (parC p)] 0 rfl rfl)
  simp only [List.set_cons_zero] at hR'
  obtain ⟨_, ⟨b, rfl, hbl, hbn⟩, hB⟩ := bnds_ex (prim := pX) (d + 3) pX_none pX_sort p (by omega) ls hls hlr u hu1 hu5
  have hM := fun cfg h f t k h0 h1 h2 => move_ok (d + 3) (by omega) cfg h p ls u b hbl hbn (fun cfg h => toY (by omega) (hB cfg h)) f t k h0 h1 h2
  have hf := hbn.first
  have hl := hbn.last
  by_cases hn0 : p.t.length = 0
  · have hb1 : b = [0] := by
      rw [hn0] at hbn
      exact hbn.one
    have hM0 := fun cfg h => hM cfg h 0 0 3 (by omega) (by omega) (by omega)
    have hms : Tx.movS b 0 0 p.t.length 3 = (0, 0, 0) := by rw [hb1, hn0]; rfl
    simp only [hms] at hM0
    have hnI : (p.t.length : Int) = 0 := by omega
    have htn : p.t = [] := List.eq_nil_of_length_eq_zero hn0
    simp (disch := omega) [hNw, hBu', hlf, hmp, l5, t5, s0, hpp, hR', htn, hM0, hA]
  have hlen := hbn.len (by omega)
  have hE := fun cfg h => toY (d := d + 10) (by omega) (expand_ok (prim := pX) (d + 8) pX_none cfg h p ls u b hbl hbn hB 0 0 (by omega) (by omega) (by omega))
  obtain ⟨c1, hc1⟩ : ∃ x, b[1]? = some x := ⟨_, List.getElem?_eq_getElem (by omega)⟩
  obtain ⟨w1, w2⟩ := Tx.whole_at hbn (i := 0) hf hc1 0
  rw [w1, w2] at hE
  have htn : ¬ p.t = [] := fun e => hn0 (by rw [e]; rfl)
  have hnI : ¬ (p.t.length : Int) = 0 := by omega
  simp (disch := omega) [hNw, hBu', hlf, hmp, l5, t5, s0, hpp, hR', htn, hE]
  refine wC_loop (fun m fr H => ∃ (i : Nat) (x y : Int) (X : Heap), i + 1 < b.length ∧ m = b.length - i ∧ b[i]? = some x ∧ b[i + 1]? = some y ∧ H = some [il L, .int .i64 k3] :: some (parC p) :: some [.int .i64 x, .int .i64 y] :: X ∧
    Slots 153 [(4, .ptr 1 0), (5, .lst (ls.map linF)), (6, .int .i64 p.t.length), (7, .int .i64 u), (10, .ptr 2 0), (11, .int .i64 i), (12, .int .i64 i)] fr) (m := b.length) (by omega) ⟨0, 0, c1, [], by omega, by omega, hf, hc1, rfl, by simp⟩ ?_
  rintro m fr H ⟨i, x, y, X, hi, rfl, hx, hy, rfl, hs⟩
  obtain ⟨j, rfl⟩ := hs.ex
  clear hs
  have hxr := hbn.rng x (List.mem_of_getElem? hx)
  have hyr := hbn.rng y (List.mem_of_getElem? hy)
  have hxi := hbn.get i x hx
  have hxy : x < y := by
    have h1 := List.pairwise_iff_getElem.1 hbn.up i (i + 1) (by omega) hi (by omega)
    rw [(List.getElem?_eq_some_iff.1 hx).2, (List.getElem?_eq_some_iff.1 hy).2] at h1
    exact h1
  have hiw : IntKind.i64.wrap ((i : Int) + 1) = ((i + 1 : Nat) : Int) := by rw [wrap64 (by omega) (by omega)]; omega
  by_cases hlt : y < p.t.length
  · have hi2 : i + 2 < b.length := by
      rcases Nat.lt_or_ge (i + 2) b.length with h | h
      · exact h
      · rw [show b.length - 1 = i + 1 by omega, hy] at hl
        have := Option.some.inj hl
        omega
    obtain ⟨z, hz⟩ : ∃ x, b[i + 2]? = some x := ⟨_, List.getElem?_eq_getElem hi2⟩
    have hzr := hbn.rng z (List.mem_of_getElem? hz)
    have hyz : y < z := by
      have h1 := List.pairwise_iff_getElem.1 hbn.up (i + 1) (i + 2) (by omega) hi2 (by omega)
      rw [(List.getElem?_eq_some_iff.1 hy).2, (List.getElem?_eq_some_iff.1 hz).2] at h1
      exact h1
    have hM1 := fun cfg h => hM cfg h x y 1 (by omega) (by omega) (by omega)
    have hM2 := fun cfg h => hM cfg h y z (-1) (by omega) (by omega) (by omega)
    have e1 := Tx.mov_next hbn hx hy hz
    have e2 := Tx.mov_back hbn (i := i + 1) hy hz (k := -1) (by omega) (u := x) (v := y) (by rw [show min (i + 1) (-1 : Int).natAbs = 1 by omega]; exact hx) (by rw [show min (i + 1) (-1 : Int).natAbs = 1 by omega]; exact hy) (by omega)
    rw [show min (i + 1) (-1 : Int).natAbs = 1 by omega] at e2
    simp only [e1] at hM1
    simp only [e2] at hM2
    rw [show -((1 : Nat) : Int) = -1 from rfl] at hM2
    have hin : ¬ (p.t.length : Int) < i := by omega
    simp (disch := omega) [hlt, hmp, l5, t5, hM1, hM2, hin, hiw]
    exact Rnd_of (m' := b.length - (i + 1)) (by omega) ⟨i + 1, y, z, _, by omega, by omega, hy, hz, rfl, by simp⟩
  · have hyn : y = p.t.length := by omega
    have e1 : Tx.movS b x y p.t.length 1 = (x, y, 0) := by
      rw [hyn]
      exact Tx.mov_stay hbn hx (by rw [← hyn]; exact hy)
    obtain ⟨v, e2⟩ : ∃ v : Int, Tx.movS b x y p.t.length (-(i : Int) - 5) = (0, v, -(i : Int)) := by
      rcases Nat.eq_zero_or_pos i with hi0 | hi0
      · have e3 : x = 0 := by
          rw [hi0, hf] at hx
          exact (Option.some.inj hx).symm
        rw [hi0] at hx hy
        have e4 := Tx.mov_none hbn hx hy (k := -(i : Int) - 5) (by omega)
        rw [e4, e3, hi0]
        exact ⟨y, rfl⟩
      · have e5 : min i (-(i : Int) - 5).natAbs = i := by omega
        have e4 := Tx.mov_back hbn hx hy (k := -(i : Int) - 5) (by omega) (u := 0) (v := c1) (by rw [e5, Nat.sub_self]; exact hf) (by rw [e5, Nat.sub_self]; exact hc1) hi0
        rw [e5] at e4
        exact ⟨c1, e4⟩
    have hM1 := fun cfg h => hM cfg h x y 1 (by omega) (by omega) (by omega)
    have hM2 := fun cfg h => hM cfg h x y (-(i : Int) - 5) (by omega) (by omega) (by omega)
    simp only [e1] at hM1
    simp only [e2] at hM2
    rw [hyn] at hM1 hM2
    have hw1 : IntKind.i64.wrap (-(i : Int)) = -(i : Int) := wrap64 (by omega) (by omega)
    have hw2 : IntKind.i64.wrap (-(i : Int) - 5) = -(i : Int) - 5 := wrap64 (by omega) (by omega)
    simp (disch := omega) [hmp, l5, t5, hM1, hM2, hw1, hw2, hyn, hA]
end Bi
end Go.Ab
