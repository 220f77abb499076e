/- The reference: explicit levels. -/
import Derived.Test.YteogajcegmejgaaGreatPiDis
namespace Go.Ab
open Go.Proofs
namespace Bi
structure EI2 (e : Int) (o : List Int) (i : Nat) (c lv : List Int) (s : ES) : Prop where
  w : EW e i s
  cl : c.length = o.length
  ll : lv.length = o.length
  ct : ∀ j, j < i → c[j]? = ((expl e o)[j]?).map (·.2)
  lt : ∀ j, j < i → lv[j]? = ((expl e o)[j]?).map (·.1)
  rest : ∀ k, (expl e o)[i + k]? = (exGo e (o.drop i) s)[k]?
theorem EI2.zero {e : Int} {o c lv : List Int} (he : 0 ≤ e ∧ e ≤ 1) (hc : c.length = o.length) (hl : lv.length = o.length) : EI2 e o 0 c lv (es0 e) :=
  ⟨EW.zero he, hc, hl, fun j hj => by omega, fun j hj => by omega, fun k => by simp [expl]⟩
theorem EI2.step {e : Int} {o c lv : List Int} {i : Nat} {s : ES} {x : Int} (h : EI2 e o i c lv s) (hx : o[i]? = some x) {l1 c1 : Int} {s' : ES} (hst : exStep e x (oddI x (o.drop (i + 1))) s = (l1, c1, s')) :
    EI2 e o (i + 1) (c.set i c1) (lv.set i l1) s' := by
  have hil := (List.getElem?_eq_some_iff.1 hx).1
  have hcl := h.cl
  have hll := h.ll
  have hr : exGo e (o.drop i) s = (l1, c1) :: exGo e (o.drop (i + 1)) s' := by rw [drop_at hx, exGo, hst]
  have h0 := h.rest 0
  rw [hr] at h0
  simp at h0
  refine ⟨?_, by simpa using hcl, by simpa using hll, fun j hj => ?_, fun j hj => ?_, fun k => ?_⟩
  · have := h.w.step x (oddI x (o.drop (i + 1)))
    rw [hst] at this
    exact this
  · by_cases e1 : i = j
    · subst e1; rw [List.getElem?_set_self (by omega), h0]; rfl
    · rw [List.getElem?_set_ne e1, h.ct j (by omega)]
  · by_cases e1 : i = j
    · subst e1; rw [List.getElem?_set_self (by omega), h0]; rfl
    · rw [List.getElem?_set_ne e1, h.lt j (by omega)]
  · have := h.rest (k + 1)
    rw [hr] at this
    rw [show i + 1 + k = i + (k + 1) by omega, this]
    simp
theorem EI2.fin {e : Int} {o c lv : List Int} {s : ES} (h : EI2 e o o.length c lv s) : c = (expl e o).map (·.2) ∧ lv = (expl e o).map (·.1) := by
  have hcl := h.cl
  have hll := h.ll
  have hel := expl_len e o
  constructor
  · apply List.ext_getElem?
    intro j
    by_cases hj : j < o.length
    · rw [h.ct j hj, List.getElem?_map]
    · rw [List.getElem?_eq_none (by omega), List.getElem?_eq_none (by simp; omega)]
  · apply List.ext_getElem?
    intro j
    by_cases hj : j < o.length
    · rw [h.lt j hj, List.getElem?_map]
    · rw [List.getElem?_eq_none (by omega), List.getElem?_eq_none (by simp; omega)]
theorem zeros0 : ∀ n : Nat, zerosFor [V.int .i64 0] n = List.replicate n (V.int .i64 0)
  | 0 => rfl
  | n + 1 => by rw [zerosFor, zeros0 n]; rfl
theorem lit2 {h : Heap} {a0 a1 : Option (List V)} (ht : h.take 2 = [a0, a1]) : ∃ T, h = a0 :: a1 :: T := by
  rcases h with _ | ⟨b0, _ | ⟨b1, T⟩⟩ <;> simp at ht
  obtain ⟨rfl, rfl⟩ := ht
  exact ⟨T, rfl⟩
section
variable {P : Program} {md' : FuncId → Nat} {call : Callf}
theorem wS_push2 {dst : Option Tmp} {fr : List V} {ops : Array Oper} {rest : List Oper} {Q : KontO} {y1 y2 : Option (List V)} {v : V} {T : Heap} {st : List Ent} {N O : Int} {I : Bool} {y : Nat}
    (ho : Stk (y1 :: y2 :: T) 2 3 v (encE st)) (hl : st.length ≤ 4000) (hy : y ≤ 100)
    (H : ∀ d' T', Stk (y1 :: y2 :: T') 2 3 d' (encE ((N, O, I) :: st)) → @wO P md' call ⟨0, none, 0⟩ ⟨ops⟩ ⟨rest⟩ (put fr dst d') (y1 :: y2 :: T') ⟨Q⟩) :
    @wS P md' call ⟨0, none, 0⟩ ⟨dst⟩ ⟨fr⟩ (appD ⟨0, none, 0⟩ (y1 :: y2 :: T) 3 y v 1 [.int .i64 N, .int .i64 O, .bool I]) ⟨ops⟩ ⟨rest⟩ ⟨Q⟩ := by
  have hsz : (st.length + 1) * y ≤ 1099511627776 := by
    have : (st.length + 1) * y ≤ 4001 * 100 := Nat.mul_le_mul (by omega) hy
    omega
  refine wS_appP (lo := 2) (cs := encE st) ho (by simp) (by simp) (by simp) rfl rfl (by omega) (by rw [encE_len, Nat.mul_div_cancel _ (by omega)]; exact hsz) (by rw [encE_len, Nat.mul_div_cancel _ (by omega)]; omega) ?_
  intro d' h' hst' hd' htk hlen' hot hb
  obtain ⟨T', rfl⟩ := lit2 (a0 := y1) (a1 := y2) (by rw [htk]; rfl)
  exact H d' T' (by rw [encE_cons]; exact hst')
end
section
variable {prim : FuncId → Option Prim} (d : Nat)
set_option maxRecDepth 100000 in
set_option maxHeartbeats 8000000 in
theorem rexplicit_ok (hp : prim 102 = none) (h71 : prim 132 = none) (h47 : prim 99 = none) (h63 : prim 100 = none) (h64 : prim 101 = none) (h65 : prim 133 = none) (h38 : prim 57 = none) (t : List Int) (n : Nat) (hn : t.length = n) (hn2 : n ≤ 2000) (e : Int) (he : 0 ≤ e ∧ e ≤ 1) :
    ∃ T, callM md (K prim (d + 5)) ⟨0, none, 0⟩ 102 [rl t, .int .i64 e] [] = some (.tup [.sl 0 0 n n 1, .sl 1 0 n n 1], some (((expl e (t.map bidi)).map (·.1)).map (V.int .i64)) :: some (((expl e (t.map bidi)).map (·.2)).map (V.int .i64)) :: T) := by
  suffices HH : ∃ r h2, callM md (K prim (d + 5)) ⟨0, none, 0⟩ 102 [rl t, .int .i64 e] [] = some (r, h2) ∧ ∃ T, r = .tup [.sl 0 0 n n 1, .sl 1 0 n n 1] ∧ h2 = some (((expl e (t.map bidi)).map (·.1)).map (V.int .i64)) :: some (((expl e (t.map bidi)).map (·.2)).map (V.int .i64)) :: T by
    obtain ⟨r, h2, h3, T, rfl, rfl⟩ := HH
    exact ⟨T, h3⟩
  refine call2x rfl hp Tryz.func102 rfl rfl rfl ?_
  have hB := fun cfg h r => rbidi_ok (prim := prim) (d + 2) cfg h h71 h47 r
  have hI := fun cfg h x => rini_ok (prim := prim) (d + 3) cfg h h63 x
  have hU := fun cfg h m hm odd => rup_ok (prim := prim) (d + 3) cfg h h65 m hm odd
  have hMt := fun cfg h i hi => rmatch_ok (prim := prim) (d + 1) cfg h h64 h63 h71 h47 t (by omega) i hi
  have hBs := fun cfg h t' ht' => rbase_ok (prim := prim) d cfg h h38 h64 h63 h71 h47 t' ht' (-1) (args := [rl t', .int .i64 (-1)]) rfl
  have hgt : ∀ (j : Nat) (z : Int), t[j]? = some z → (t.map bidi)[j]? = some (bidi z) := fun j z hz => by rw [List.getElem?_map, hz]; rfl
  have hon : (t.map bidi).length = n := by simpa using hn
  have hmd : ∀ a b : Nat, (t.map bidi).drop a = (t.drop a).map bidi ∧ ((t.map bidi).drop a).take b = ((t.drop a).take b).map bidi := fun a b => by simp [List.map_drop, List.map_take]
  generalize t.map bidi = o at *
  simp (disch := omega) [hn]
  refine wC_loop (fun m fr H => ∃ (i : Nat) (c lv : List Int) (s : ES) (v : V) (T : Heap), i ≤ n ∧ m = n - i ∧ EI2 e o i c lv s ∧
    H = some (lv.map (V.int .i64)) :: some (c.map (V.int .i64)) :: T ∧ Stk H 2 3 v (encE s.st) ∧
    Slots 249 [(0, rl t), (1, .int .i64 e), (6, .sl 0 0 n n 1), (7, .sl 1 0 n n 1), (8, v), (9, .int .i64 s.iso), (10, .int .i64 s.emb), (11, .int .i64 s.val), (12, .int .i64 i)] fr) (m := n) (by omega)
    ⟨0, List.replicate n 0, List.replicate n 0, es0 e, .sl 2 0 1 1 3, [some [.int .i64 e, .int .i64 (-1), .bool false]], by omega, by omega, EI2.zero he (by simpa using hon.symm) (by simpa using hon.symm), by simp [zeros0], .inr ⟨2, 1, 1, [], rfl, by omega, rfl, by simp [blockOf, encE, es0, isMap], rfl, by omega⟩, by simp [es0]⟩ ?_
  rintro m fr H ⟨i, c, lv, s, v, T, hi, rfl, hEI, rfl, hst, hs⟩
  obtain ⟨j, rfl⟩ := hs.ex
  clear hs
  obtain ⟨a, r, hsr⟩ := hEI.w.cons
  have hcl := hEI.cl
  have hll := hEI.ll
  rw [hon] at hcl hll
  by_cases hlt : i < n
  · have hltI : (i : Int) < n := by omega
    obtain ⟨z, hz⟩ : ∃ z, t[i]? = some z := ⟨_, List.getElem?_eq_getElem (by omega)⟩
    have hx := hgt i z hz
    rw [hsr] at hst
    obtain ⟨b, q, cap, J, rfl, hb2, hbl, hq, hbk, hcap, hqc⟩ := hst.pos (by simp [encE_cons])
    obtain rfl : q = r.length + 1 := by rw [encE_len] at hq; simp at hq; omega
    have hbl' : b < T.length + 1 + 1 := by simpa using hbl
    have hbx : ∀ (y1 y2 : Option (List V)) (T' : Heap), blockOf (y1 :: y2 :: (T ++ T')) b = some (encE (a :: r) ++ J) := by
      intro y1 y2 T'
      have h1 := blockOf_left (r := T') hbl
      rw [hbk] at h1
      rw [← h1]
      obtain ⟨b', rfl⟩ : ∃ b', b = b' + 2 := ⟨b - 2, by omega⟩
      simp
    have hbx0 : ∀ (y1 y2 : Option (List V)), blockOf (y1 :: y2 :: T) b = some (encE (a :: r) ++ J) := fun y1 y2 => by simpa using hbx y1 y2 []
    have hw := hEI.w
    have hwl := hw.len
    rw [hsr] at hwl
    simp at hwl
    have hge := encE_ge a r J
    have hal := encE_all a r J
    have hle : i + 1 ≤ lv.length := by omega
    have hle2 : i + 1 ≤ n := by omega
    have ha := hw.rng a (by rw [hsr]; exact List.mem_cons_self ..)
    have hstk : ∀ (y1 y2 : Option (List V)) (T' : Heap), Stk (y1 :: y2 :: (T ++ T')) 2 3 (.sl b 0 (r.length + 1) cap 3) (encE (a :: r)) := fun y1 y2 T' =>
      .inr ⟨b, _, cap, J, rfl, hb2, hq, hbx y1 y2 T', hcap, hqc⟩
    have htop : topE s.st = a := by rw [hsr]; rfl
    have hrl : ((r.length : Int) + 1 - 1).toNat = r.length := by omega
    have bL : ∀ (y1 y2 : Option (List V)) (Y : List V) (T' : Heap), isMap Y = false → blockOf (y1 :: y2 :: (T ++ some Y :: T')) (T.length + 1 + 1) = some Y := fun y1 y2 Y T' hY => by
      have := blockOf_len_add (h := T) (r := some Y :: T') (k := 0)
      simp [hY]
    have bL2 : ∀ (y1 y2 : Option (List V)) (Y : List V), isMap Y = false → blockOf (y1 :: y2 :: (T ++ [some Y])) (T.length + 1 + 1) = some Y := fun y1 y2 Y hY => bL y1 y2 Y [] hY
    have hbN : ∀ (y1 y2 Y : Option (List V)) (Z : List V) (T' : Heap), isMap Z = false → blockOf (y1 :: y2 :: (T ++ Y :: some Z :: T')) (T.length + 1 + 1 + 1) = some Z := fun y1 y2 Y Z T' hZ => by
      have := blockOf_len_add (h := T) (r := Y :: some Z :: T') (k := 1)
      simp [hZ] at this ⊢
    generalize hxe : bidi z = x at *
    simp (disch := omega) [hn, hltI, hz, hB, hxe, hbx0, hcl, hll, hle2, hge, hal, wrap64, -getElem?_pos]
    by_cases h16 : x = 16
    · subst h16
      have hN := fun cfg H => hU cfg H a.1 (by omega) true
      have hs' : ∀ s', (if nxt a.1 true ≤ 125 ∧ s.iso = 0 ∧ s.emb = 0 then { s with st := (nxt a.1 true, -1, false) :: s.st } else if s.iso = 0 then { s with emb := s.emb + 1 } else s) = s' → exStep e 16 (oddI 16 (o.drop (i + 1))) s = (a.1, 16, s') := by
        rintro s' rfl
        simp [exStep, htop, ovOf]
      generalize nxt a.1 true = N at hN hs'
      have hie := hw.iso
      have hee := hw.emb
      by_cases k2 : s.iso = 0
      · by_cases k13 : N ≤ 125 ∧ s.emb = 0
        · obtain ⟨k1, k3⟩ := k13
          have hE := hEI.step hx (hs' _ (by rw [if_pos ⟨k1, k2, k3⟩]))
          rw [hsr] at hE
          simp (disch := omega) [hN, k1, k2, k3, -getElem?_pos]
          refine wS_push2 (st := a :: r) (hstk _ _ _) (by simp; omega) (by omega) ?_
          intro d' T' hd'
          simp (disch := omega) [wrap64]
          exact Rnd_of (m' := n - (i + 1)) (by omega) ⟨i + 1, _, _, _, d', T', by omega, rfl, hE, by simp [List.map_set], hd', by simp [k2, k3]⟩
        · have hE := hEI.step hx (hs' _ (by rw [if_neg (fun h => k13 ⟨h.1, h.2.2⟩), if_pos k2]))
          by_cases k1 : N ≤ 125
          · have k3 : ¬ s.emb = 0 := fun h => k13 ⟨k1, h⟩
            simp (disch := omega) [hN, k1, k2, k3, wrap64, -getElem?_pos]
            exact Rnd_of (m' := n - (i + 1)) (by omega) ⟨i + 1, _, _, _, .sl b 0 (r.length + 1) cap 3, T ++ [some [.int .i64 a.1, .int .i64 a.2.1, .bool a.2.2]], by omega, rfl, hE, by simp [List.map_set], by first | exact hstk _ _ _ | (rw [hsr]; exact hstk _ _ _), by simp (disch := omega) [k2]⟩
          · simp (disch := omega) [hN, k1, k2, wrap64, -getElem?_pos]
            exact Rnd_of (m' := n - (i + 1)) (by omega) ⟨i + 1, _, _, _, .sl b 0 (r.length + 1) cap 3, T ++ [some [.int .i64 a.1, .int .i64 a.2.1, .bool a.2.2]], by omega, rfl, hE, by simp [List.map_set], by first | exact hstk _ _ _ | (rw [hsr]; exact hstk _ _ _), by simp (disch := omega) [k2]⟩
      · have hE := hEI.step hx (hs' _ (by rw [if_neg (fun h => k2 h.2.1), if_neg k2]))
        by_cases k1 : N ≤ 125
        · simp (disch := omega) [hN, k1, k2, wrap64, -getElem?_pos]
          exact Rnd_of (m' := n - (i + 1)) (by omega) ⟨i + 1, _, _, s, .sl b 0 (r.length + 1) cap 3, T ++ [some [.int .i64 a.1, .int .i64 a.2.1, .bool a.2.2]], by omega, rfl, hE, by simp [List.map_set], by first | exact hstk _ _ _ | (rw [hsr]; exact hstk _ _ _), by simp (disch := omega); try omega⟩
        · simp (disch := omega) [hN, k1, k2, wrap64, -getElem?_pos]
          exact Rnd_of (m' := n - (i + 1)) (by omega) ⟨i + 1, _, _, s, .sl b 0 (r.length + 1) cap 3, T ++ [some [.int .i64 a.1, .int .i64 a.2.1, .bool a.2.2]], by omega, rfl, hE, by simp [List.map_set], by first | exact hstk _ _ _ | (rw [hsr]; exact hstk _ _ _), by simp (disch := omega); try omega⟩
    · by_cases h14 : x = 14
      · subst h14
        have hN := fun cfg H => hU cfg H a.1 (by omega) false
        have hs' : ∀ s', (if nxt a.1 false ≤ 125 ∧ s.iso = 0 ∧ s.emb = 0 then { s with st := (nxt a.1 false, -1, false) :: s.st } else if s.iso = 0 then { s with emb := s.emb + 1 } else s) = s' → exStep e 14 (oddI 14 (o.drop (i + 1))) s = (a.1, 14, s') := by
          rintro s' rfl
          simp [exStep, htop, ovOf]
        generalize nxt a.1 false = N at hN hs'
        have hie := hw.iso
        have hee := hw.emb
        by_cases k2 : s.iso = 0
        · by_cases k13 : N ≤ 125 ∧ s.emb = 0
          · obtain ⟨k1, k3⟩ := k13
            have hE := hEI.step hx (hs' _ (by rw [if_pos ⟨k1, k2, k3⟩]))
            rw [hsr] at hE
            simp (disch := omega) [hN, k1, k2, k3, -getElem?_pos]
            refine wS_push2 (st := a :: r) (hstk _ _ _) (by simp; omega) (by omega) ?_
            intro d' T' hd'
            simp (disch := omega) [wrap64]
            exact Rnd_of (m' := n - (i + 1)) (by omega) ⟨i + 1, _, _, _, d', T', by omega, rfl, hE, by simp [List.map_set], hd', by simp [k2, k3]⟩
          · have hE := hEI.step hx (hs' _ (by rw [if_neg (fun h => k13 ⟨h.1, h.2.2⟩), if_pos k2]))
            by_cases k1 : N ≤ 125
            · have k3 : ¬ s.emb = 0 := fun h => k13 ⟨k1, h⟩
              simp (disch := omega) [hN, k1, k2, k3, wrap64, -getElem?_pos]
              exact Rnd_of (m' := n - (i + 1)) (by omega) ⟨i + 1, _, _, _, .sl b 0 (r.length + 1) cap 3, T ++ [some [.int .i64 a.1, .int .i64 a.2.1, .bool a.2.2]], by omega, rfl, hE, by simp [List.map_set], by first | exact hstk _ _ _ | (rw [hsr]; exact hstk _ _ _), by simp (disch := omega) [k2]⟩
            · simp (disch := omega) [hN, k1, k2, wrap64, -getElem?_pos]
              exact Rnd_of (m' := n - (i + 1)) (by omega) ⟨i + 1, _, _, _, .sl b 0 (r.length + 1) cap 3, T ++ [some [.int .i64 a.1, .int .i64 a.2.1, .bool a.2.2]], by omega, rfl, hE, by simp [List.map_set], by first | exact hstk _ _ _ | (rw [hsr]; exact hstk _ _ _), by simp (disch := omega) [k2]⟩
        · have hE := hEI.step hx (hs' _ (by rw [if_neg (fun h => k2 h.2.1), if_neg k2]))
          by_cases k1 : N ≤ 125
          · simp (disch := omega) [hN, k1, k2, wrap64, -getElem?_pos]
            exact Rnd_of (m' := n - (i + 1)) (by omega) ⟨i + 1, _, _, s, .sl b 0 (r.length + 1) cap 3, T ++ [some [.int .i64 a.1, .int .i64 a.2.1, .bool a.2.2]], by omega, rfl, hE, by simp [List.map_set], by first | exact hstk _ _ _ | (rw [hsr]; exact hstk _ _ _), by simp (disch := omega); try omega⟩
          · simp (disch := omega) [hN, k1, k2, wrap64, -getElem?_pos]
            exact Rnd_of (m' := n - (i + 1)) (by omega) ⟨i + 1, _, _, s, .sl b 0 (r.length + 1) cap 3, T ++ [some [.int .i64 a.1, .int .i64 a.2.1, .bool a.2.2]], by omega, rfl, hE, by simp [List.map_set], by first | exact hstk _ _ _ | (rw [hsr]; exact hstk _ _ _), by simp (disch := omega); try omega⟩
      · by_cases h17 : x = 17
        · subst h17
          have hN := fun cfg H => hU cfg H a.1 (by omega) true
          have hs' : ∀ s', (if nxt a.1 true ≤ 125 ∧ s.iso = 0 ∧ s.emb = 0 then { s with st := (nxt a.1 true, 1, false) :: s.st } else if s.iso = 0 then { s with emb := s.emb + 1 } else s) = s' → exStep e 17 (oddI 17 (o.drop (i + 1))) s = (a.1, 17, s') := by
            rintro s' rfl
            simp [exStep, htop, ovOf]
          generalize nxt a.1 true = N at hN hs'
          have hie := hw.iso
          have hee := hw.emb
          by_cases k2 : s.iso = 0
          · by_cases k13 : N ≤ 125 ∧ s.emb = 0
            · obtain ⟨k1, k3⟩ := k13
              have hE := hEI.step hx (hs' _ (by rw [if_pos ⟨k1, k2, k3⟩]))
              rw [hsr] at hE
              simp (disch := omega) [hN, k1, k2, k3, -getElem?_pos]
              refine wS_push2 (st := a :: r) (hstk _ _ _) (by simp; omega) (by omega) ?_
              intro d' T' hd'
              simp (disch := omega) [wrap64]
              exact Rnd_of (m' := n - (i + 1)) (by omega) ⟨i + 1, _, _, _, d', T', by omega, rfl, hE, by simp [List.map_set], hd', by simp [k2, k3]⟩
            · have hE := hEI.step hx (hs' _ (by rw [if_neg (fun h => k13 ⟨h.1, h.2.2⟩), if_pos k2]))
              by_cases k1 : N ≤ 125
              · have k3 : ¬ s.emb = 0 := fun h => k13 ⟨k1, h⟩
                simp (disch := omega) [hN, k1, k2, k3, wrap64, -getElem?_pos]
                exact Rnd_of (m' := n - (i + 1)) (by omega) ⟨i + 1, _, _, _, .sl b 0 (r.length + 1) cap 3, T ++ [some [.int .i64 a.1, .int .i64 a.2.1, .bool a.2.2]], by omega, rfl, hE, by simp [List.map_set], by first | exact hstk _ _ _ | (rw [hsr]; exact hstk _ _ _), by simp (disch := omega) [k2]⟩
              · simp (disch := omega) [hN, k1, k2, wrap64, -getElem?_pos]
                exact Rnd_of (m' := n - (i + 1)) (by omega) ⟨i + 1, _, _, _, .sl b 0 (r.length + 1) cap 3, T ++ [some [.int .i64 a.1, .int .i64 a.2.1, .bool a.2.2]], by omega, rfl, hE, by simp [List.map_set], by first | exact hstk _ _ _ | (rw [hsr]; exact hstk _ _ _), by simp (disch := omega) [k2]⟩
          · have hE := hEI.step hx (hs' _ (by rw [if_neg (fun h => k2 h.2.1), if_neg k2]))
            by_cases k1 : N ≤ 125
            · simp (disch := omega) [hN, k1, k2, wrap64, -getElem?_pos]
              exact Rnd_of (m' := n - (i + 1)) (by omega) ⟨i + 1, _, _, s, .sl b 0 (r.length + 1) cap 3, T ++ [some [.int .i64 a.1, .int .i64 a.2.1, .bool a.2.2]], by omega, rfl, hE, by simp [List.map_set], by first | exact hstk _ _ _ | (rw [hsr]; exact hstk _ _ _), by simp (disch := omega); try omega⟩
            · simp (disch := omega) [hN, k1, k2, wrap64, -getElem?_pos]
              exact Rnd_of (m' := n - (i + 1)) (by omega) ⟨i + 1, _, _, s, .sl b 0 (r.length + 1) cap 3, T ++ [some [.int .i64 a.1, .int .i64 a.2.1, .bool a.2.2]], by omega, rfl, hE, by simp [List.map_set], by first | exact hstk _ _ _ | (rw [hsr]; exact hstk _ _ _), by simp (disch := omega); try omega⟩
        · by_cases h15 : x = 15
          · subst h15
            have hN := fun cfg H => hU cfg H a.1 (by omega) false
            have hs' : ∀ s', (if nxt a.1 false ≤ 125 ∧ s.iso = 0 ∧ s.emb = 0 then { s with st := (nxt a.1 false, 0, false) :: s.st } else if s.iso = 0 then { s with emb := s.emb + 1 } else s) = s' → exStep e 15 (oddI 15 (o.drop (i + 1))) s = (a.1, 15, s') := by
              rintro s' rfl
              simp [exStep, htop, ovOf]
            generalize nxt a.1 false = N at hN hs'
            have hie := hw.iso
            have hee := hw.emb
            by_cases k2 : s.iso = 0
            · by_cases k13 : N ≤ 125 ∧ s.emb = 0
              · obtain ⟨k1, k3⟩ := k13
                have hE := hEI.step hx (hs' _ (by rw [if_pos ⟨k1, k2, k3⟩]))
                rw [hsr] at hE
                simp (disch := omega) [hN, k1, k2, k3, -getElem?_pos]
                refine wS_push2 (st := a :: r) (hstk _ _ _) (by simp; omega) (by omega) ?_
                intro d' T' hd'
                simp (disch := omega) [wrap64]
                exact Rnd_of (m' := n - (i + 1)) (by omega) ⟨i + 1, _, _, _, d', T', by omega, rfl, hE, by simp [List.map_set], hd', by simp [k2, k3]⟩
              · have hE := hEI.step hx (hs' _ (by rw [if_neg (fun h => k13 ⟨h.1, h.2.2⟩), if_pos k2]))
                by_cases k1 : N ≤ 125
                · have k3 : ¬ s.emb = 0 := fun h => k13 ⟨k1, h⟩
                  simp (disch := omega) [hN, k1, k2, k3, wrap64, -getElem?_pos]
                  exact Rnd_of (m' := n - (i + 1)) (by omega) ⟨i + 1, _, _, _, .sl b 0 (r.length + 1) cap 3, T ++ [some [.int .i64 a.1, .int .i64 a.2.1, .bool a.2.2]], by omega, rfl, hE, by simp [List.map_set], by first | exact hstk _ _ _ | (rw [hsr]; exact hstk _ _ _), by simp (disch := omega) [k2]⟩
                · simp (disch := omega) [hN, k1, k2, wrap64, -getElem?_pos]
                  exact Rnd_of (m' := n - (i + 1)) (by omega) ⟨i + 1, _, _, _, .sl b 0 (r.length + 1) cap 3, T ++ [some [.int .i64 a.1, .int .i64 a.2.1, .bool a.2.2]], by omega, rfl, hE, by simp [List.map_set], by first | exact hstk _ _ _ | (rw [hsr]; exact hstk _ _ _), by simp (disch := omega) [k2]⟩
            · have hE := hEI.step hx (hs' _ (by rw [if_neg (fun h => k2 h.2.1), if_neg k2]))
              by_cases k1 : N ≤ 125
              · simp (disch := omega) [hN, k1, k2, wrap64, -getElem?_pos]
                exact Rnd_of (m' := n - (i + 1)) (by omega) ⟨i + 1, _, _, s, .sl b 0 (r.length + 1) cap 3, T ++ [some [.int .i64 a.1, .int .i64 a.2.1, .bool a.2.2]], by omega, rfl, hE, by simp [List.map_set], by first | exact hstk _ _ _ | (rw [hsr]; exact hstk _ _ _), by simp (disch := omega); try omega⟩
              · simp (disch := omega) [hN, k1, k2, wrap64, -getElem?_pos]
                exact Rnd_of (m' := n - (i + 1)) (by omega) ⟨i + 1, _, _, s, .sl b 0 (r.length + 1) cap 3, T ++ [some [.int .i64 a.1, .int .i64 a.2.1, .bool a.2.2]], by omega, rfl, hE, by simp [List.map_set], by first | exact hstk _ _ _ | (rw [hsr]; exact hstk _ _ _), by simp (disch := omega); try omega⟩
          · have hem : ¬ (x = 16 ∨ x = 14 ∨ x = 17 ∨ x = 15) := by omega
            cases hix : ini x
            · by_cases h22 : x = 22
              · subst h22
                have hst22 : ∀ s', (if 0 < s.iso then { s with iso := s.iso - 1 } else if 0 < s.val then { s with st := popI s.st, emb := 0, val := s.val - 1 } else s) = s' → exStep e 22 (oddI 22 (o.drop (i + 1))) s = ((topE s'.st).1, ovr (topE s'.st).2.1 22, s') := by
                  rintro s' rfl
                  simp [exStep, ini]
                have hiw := hw.iso
                by_cases k1 : 0 < s.iso
                · have hE := hEI.step hx (hst22 _ (by rw [if_pos k1]))
                  simp only [htop] at hE
                  by_cases ko : 0 ≤ a.2.1
                  · rw [show ovr a.2.1 22 = a.2.1 from if_pos ko] at hE
                    simp (disch := omega) [hI, ini, ko, k1, hcl, hll, hle2, hbx, hge, hal, wrap64, -getElem?_pos]
                    exact Rnd_of (m' := n - (i + 1)) (by omega) ⟨i + 1, _, _, _, .sl b 0 (r.length + 1) cap 3, T ++ [some [.int .i64 a.1, .int .i64 a.2.1, .bool a.2.2]], by omega, rfl, hE, by simp [List.map_set, setS], by first | exact hstk _ _ _ | (rw [hsr]; exact hstk _ _ _), by simp (disch := omega); try omega⟩
                  · rw [show ovr a.2.1 22 = 22 from if_neg ko] at hE
                    simp (disch := omega) [hI, ini, ko, k1, hll, hle2, hbx, hge, hal, wrap64, -getElem?_pos]
                    exact Rnd_of (m' := n - (i + 1)) (by omega) ⟨i + 1, _, _, _, .sl b 0 (r.length + 1) cap 3, T ++ [some [.int .i64 a.1, .int .i64 a.2.1, .bool a.2.2]], by omega, rfl, hE, by simp [List.map_set, setS], by first | exact hstk _ _ _ | (rw [hsr]; exact hstk _ _ _), by simp (disch := omega); try omega⟩
                · by_cases k2 : 0 < s.val
                  · have hE := hEI.step hx (hst22 _ (by rw [if_neg k1, if_pos k2]))
                    have hlast := hw.last
                    have hcnt := hw.cnt
                    obtain ⟨g1, g2, g3, g4⟩ := popI_ok s.st e hlast (by omega)
                    have hvl := hw.val
                    simp (disch := omega) [hI, ini, k1, k2]
                    refine wC_loop (fun m' fr H => ∃ (a' : Ent) (r' : List Ent) (J' : List V), m' = r'.length ∧ encE (a :: r) ++ J = encE (a' :: r') ++ J' ∧ popI s.st = popI (a' :: r') ∧ 0 < ((a' :: r').filter fun a => a.2.2).length ∧ r'.length ≤ r.length ∧
                      H = some ((lv.map (V.int .i64)).set i (.int .i64 a.1)) :: some ((c.map (V.int .i64)).set i (.int .i64 22)) :: (T ++ [some [.int .i64 a.1, .int .i64 a.2.1, .bool a.2.2]]) ∧
                      Slots 249 [(0, rl t), (1, .int .i64 e), (6, .sl 0 0 n n 1), (7, .sl 1 0 n n 1), (8, .sl b 0 (r'.length + 1) cap 3), (9, .int .i64 s.iso), (10, .int .i64 0), (11, .int .i64 s.val), (12, .int .i64 i), (13, .int .i64 22), (14, .ptr (T.length + 1 + 1) 0)] fr) (m := r.length) (by omega)
                      ⟨a, r, J, rfl, rfl, by rw [hsr], by rw [← hsr]; omega, Nat.le_refl _, rfl, by simp⟩ ?_
                    rintro m' fr H ⟨a', r', J', rfl, heq, hpe, hpf, hrr, rfl, hs⟩
                    obtain ⟨j, rfl⟩ := hs.ex
                    clear hs
                    have hbx' : ∀ (y1 y2 : Option (List V)) (T' : Heap), blockOf (y1 :: y2 :: (T ++ T')) b = some (encE (a' :: r') ++ J') := fun y1 y2 T' => by rw [← heq]; exact hbx _ _ _
                    have e2 := encE_2 a' r' J'
                    cases hai : a'.2.2
                    · rw [hai] at e2
                      obtain ⟨a2, r2, rfl⟩ : ∃ a2 r2, r' = a2 :: r2 := by
                        cases r' with
                        | nil => simp [hai] at hpf
                        | cons a2 r2 => exact ⟨a2, r2, rfl⟩
                      have hq2 : encE (a' :: a2 :: r2) ++ J' = encE (a2 :: r2) ++ ([V.int .i64 a'.1, V.int .i64 a'.2.1, V.bool a'.2.2] ++ J') := by rw [encE_cons]; simp
                      simp at hrr
                      simp only [List.length_cons] at e2
                      simp (disch := omega) [hbx', e2, wrap64, -getElem?_pos]
                      refine Rnd_of (m' := r2.length) (by simp) ⟨a2, r2, _, rfl, heq.trans hq2, ?_, ?_, by omega, rfl, by simp⟩
                      · rw [hpe, popI, if_neg (by simp [hai])]
                      · rw [List.filter_cons, if_neg (by simp [hai])] at hpf
                        exact hpf
                    · rw [hai] at e2
                      have hp1 : popI (a' :: r') = r' := by rw [popI, if_pos hai]
                      rw [hpe, hp1] at hE g1
                      obtain ⟨a2, r2, rfl⟩ : ∃ a2 r2, r' = a2 :: r2 := by
                        cases r' with
                        | nil => simp at g1
                        | cons a2 r2 => exact ⟨a2, r2, rfl⟩
                      have hq2 : encE (a' :: a2 :: r2) ++ J' = encE (a2 :: r2) ++ ([V.int .i64 a'.1, V.int .i64 a'.2.1, V.bool a'.2.2] ++ J') := by rw [encE_cons]; simp
                      have hbx2 : ∀ (y1 y2 : Option (List V)) (T' : Heap), blockOf (y1 :: y2 :: (T ++ T')) b = some (encE (a2 :: r2) ++ ([V.int .i64 a'.1, V.int .i64 a'.2.1, V.bool a'.2.2] ++ J')) := fun y1 y2 T' => by rw [← heq.trans hq2]; exact hbx _ _ _
                      have hal2 := encE_all a2 r2 ([V.int .i64 a'.1, V.int .i64 a'.2.1, V.bool a'.2.2] ++ J')
                      have hrl2 : ((r2.length : Int) + 1 - 1).toNat = r2.length := by omega
                      have hge3 : r2.length * 3 + 3 ≤ (encE (a' :: a2 :: r2)).length + J'.length := by rw [encE_len]; simp; omega
                      have hal3 : List.take 3 (List.drop (r2.length * 3) (encE (a' :: a2 :: r2) ++ J')) = [V.int .i64 a2.1, V.int .i64 a2.2.1, V.bool a2.2.2] := by rw [hq2]; exact hal2
                      have hstk2 : ∀ (y1 y2 : Option (List V)) (T' : Heap), Stk (y1 :: y2 :: (T ++ T')) 2 3 (.sl b 0 (r2.length + 1) cap 3) (encE (a2 :: r2)) := fun y1 y2 T' =>
                        .inr ⟨b, _, cap, _, rfl, hb2, by rw [encE_len]; rfl, hbx2 y1 y2 T', by rw [← heq.trans hq2]; exact hcap, by simp at hrr; omega⟩
                      simp at hrr
                      simp only [topE] at hE
                      simp only [List.length_cons] at e2
                      by_cases ko : 0 ≤ a2.2.1
                      · rw [show ovr a2.2.1 22 = a2.2.1 from if_pos ko] at hE
                        simp (disch := omega) [hbx', e2, hge3, hal3, ko, hcl, hll, hle2, wrap64, -getElem?_pos]
                        exact Rnd_of (m' := n - (i + 1)) (by omega) ⟨i + 1, _, _, _, .sl b 0 (r2.length + 1) cap 3, T ++ [some [.int .i64 a2.1, .int .i64 a2.2.1, .bool a2.2.2]], by omega, rfl, hE, by simp [List.map_set, setS], by exact hstk2 _ _ _, by simp (disch := omega); omega⟩
                      · rw [show ovr a2.2.1 22 = 22 from if_neg ko] at hE
                        simp (disch := omega) [hbx', e2, hge3, hal3, ko, hll, hle2, wrap64, -getElem?_pos]
                        exact Rnd_of (m' := n - (i + 1)) (by omega) ⟨i + 1, _, _, _, .sl b 0 (r2.length + 1) cap 3, T ++ [some [.int .i64 a2.1, .int .i64 a2.2.1, .bool a2.2.2]], by omega, rfl, hE, by simp [List.map_set, setS], by exact hstk2 _ _ _, by simp (disch := omega); omega⟩
                  · have hE := hEI.step hx (hst22 _ (by rw [if_neg k1, if_neg k2]))
                    simp only [htop] at hE
                    by_cases ko : 0 ≤ a.2.1
                    · rw [show ovr a.2.1 22 = a.2.1 from if_pos ko] at hE
                      simp (disch := omega) [hI, ini, ko, k1, k2, hcl, hll, hle2, hbx, hge, hal, wrap64, -getElem?_pos]
                      exact Rnd_of (m' := n - (i + 1)) (by omega) ⟨i + 1, _, _, _, .sl b 0 (r.length + 1) cap 3, T ++ [some [.int .i64 a.1, .int .i64 a.2.1, .bool a.2.2]], by omega, rfl, hE, by simp [List.map_set, setS], by first | exact hstk _ _ _ | (rw [hsr]; exact hstk _ _ _), by simp (disch := omega)⟩
                    · rw [show ovr a.2.1 22 = 22 from if_neg ko] at hE
                      simp (disch := omega) [hI, ini, ko, k1, k2, hll, hle2, hbx, hge, hal, wrap64, -getElem?_pos]
                      exact Rnd_of (m' := n - (i + 1)) (by omega) ⟨i + 1, _, _, _, .sl b 0 (r.length + 1) cap 3, T ++ [some [.int .i64 a.1, .int .i64 a.2.1, .bool a.2.2]], by omega, rfl, hE, by simp [List.map_set, setS], by first | exact hstk _ _ _ | (rw [hsr]; exact hstk _ _ _), by simp (disch := omega)⟩
              · by_cases h18 : x = 18
                · subst h18
                  have hpop := fun y1 y2 T' => (hstk y1 y2 T').pop (encE_cons a r) (encE_len r) (by omega)
                  have hx18 : ∀ s', (if 0 < s.iso then s else if 0 < s.emb then { s with emb := s.emb - 1 } else if a.2.2 = false ∧ 1 < (a :: r).length then { s with st := r } else s) = s' → exStep e 18 (oddI 18 (o.drop (i + 1))) s = (a.1, 18, s') := by
                    rintro s' rfl
                    simp [exStep, ini, hsr, topE]
                  have hem := hw.emb
                  by_cases k1 : 0 < s.iso
                  · have hE := hEI.step hx (hx18 s (by rw [if_pos k1]))
                    simp (disch := omega) [hI, ini, k1, wrap64, -getElem?_pos]
                    exact Rnd_of (m' := n - (i + 1)) (by omega) ⟨i + 1, _, _, s, .sl b 0 (r.length + 1) cap 3, T ++ [some [.int .i64 a.1, .int .i64 a.2.1, .bool a.2.2]], by omega, rfl, hE, by simp [List.map_set], by first | exact hstk _ _ _ | (rw [hsr]; exact hstk _ _ _), by simp (disch := omega); try omega⟩
                  · by_cases k2 : 0 < s.emb
                    · have hE := hEI.step hx (hx18 _ (by rw [if_neg k1, if_pos k2]))
                      simp (disch := omega) [hI, ini, k1, k2, wrap64, -getElem?_pos]
                      exact Rnd_of (m' := n - (i + 1)) (by omega) ⟨i + 1, _, _, _, .sl b 0 (r.length + 1) cap 3, T ++ [some [.int .i64 a.1, .int .i64 a.2.1, .bool a.2.2]], by omega, rfl, hE, by simp [List.map_set], by first | exact hstk _ _ _ | (rw [hsr]; exact hstk _ _ _), by simp (disch := omega); try omega⟩
                    · cases h2 : a.2.2
                      · by_cases k4 : 0 < r.length
                        · have k5 : (1 : Int) < (r.length : Int) + 1 := by omega
                          have hE := hEI.step hx (hx18 _ (by rw [if_neg k1, if_neg k2, if_pos ⟨h2, by simp; omega⟩]))
                          simp (disch := omega) [hI, ini, k1, k2, k5, wrap64, -getElem?_pos]
                          exact Rnd_of (m' := n - (i + 1)) (by omega) ⟨i + 1, _, _, _, .sl b 0 r.length cap 3, T ++ [some [.int .i64 a.1, .int .i64 a.2.1, .bool a.2.2]], by omega, rfl, hE, by simp [List.map_set, h2], by exact hpop _ _ _, by simp (disch := omega); try omega⟩
                        · have k5 : ¬ (1 : Int) < (r.length : Int) + 1 := by omega
                          have hE := hEI.step hx (hx18 s (by rw [if_neg k1, if_neg k2, if_neg (fun h => k4 (by have := h.2; simp at this; omega))]))
                          simp (disch := omega) [hI, ini, k1, k2, k5, wrap64, -getElem?_pos]
                          exact Rnd_of (m' := n - (i + 1)) (by omega) ⟨i + 1, _, _, s, .sl b 0 (r.length + 1) cap 3, T ++ [some [.int .i64 a.1, .int .i64 a.2.1, .bool a.2.2]], by omega, rfl, hE, by simp [List.map_set, h2], by first | exact hstk _ _ _ | (rw [hsr]; exact hstk _ _ _), by simp (disch := omega); try omega⟩
                      · have hE := hEI.step hx (hx18 s (by rw [if_neg k1, if_neg k2, if_neg (fun h => by rw [h2] at h; cases h.1)]))
                        simp (disch := omega) [hI, ini, k1, k2, wrap64, -getElem?_pos]
                        exact Rnd_of (m' := n - (i + 1)) (by omega) ⟨i + 1, _, _, s, .sl b 0 (r.length + 1) cap 3, T ++ [some [.int .i64 a.1, .int .i64 a.2.1, .bool a.2.2]], by omega, rfl, hE, by simp [List.map_set, h2], by first | exact hstk _ _ _ | (rw [hsr]; exact hstk _ _ _), by simp (disch := omega); try omega⟩
                · have hem1 : ¬ x = 16 := h16
                  have hem2 : ¬ x = 14 := h14
                  have hem3 : ¬ x = 17 := h17
                  have hem4 : ¬ x = 15 := h15
                  by_cases h10 : x = 10
                  · have hso : exStep e x (oddI x (o.drop (i + 1))) s = (e, x, s) := by
                      unfold exStep
                      rw [if_neg hem, if_neg (by simp [hix]), if_neg h22, if_neg h18, if_pos h10]
                    have hE := hEI.step hx hso
                    subst h10
                    simp (disch := omega) [hI, hix, hll, hle2, wrap64, -getElem?_pos]
                    exact Rnd_of (m' := n - (i + 1)) (by omega) ⟨i + 1, _, _, s, .sl b 0 (r.length + 1) cap 3, T ++ [some [.int .i64 a.1, .int .i64 a.2.1, .bool a.2.2]], by omega, rfl, hE, by simp [List.map_set, setS], by first | exact hstk _ _ _ | (rw [hsr]; exact hstk _ _ _), by simp (disch := omega); try omega⟩
                  · by_cases h9 : x = 9
                    · have hso : exStep e x (oddI x (o.drop (i + 1))) s = (a.1, x, s) := by
                        unfold exStep
                        rw [if_neg hem, if_neg (by simp [hix]), if_neg h22, if_neg h18, if_neg h10, if_pos h9, htop]
                      have hE := hEI.step hx hso
                      subst h9
                      simp (disch := omega) [hI, hix, wrap64, -getElem?_pos]
                      exact Rnd_of (m' := n - (i + 1)) (by omega) ⟨i + 1, _, _, s, .sl b 0 (r.length + 1) cap 3, T ++ [some [.int .i64 a.1, .int .i64 a.2.1, .bool a.2.2]], by omega, rfl, hE, by simp [List.map_set], by first | exact hstk _ _ _ | (rw [hsr]; exact hstk _ _ _), by simp (disch := omega); try omega⟩
                    · have hso : exStep e x (oddI x (o.drop (i + 1))) s = (a.1, ovr a.2.1 x, s) := by
                        unfold exStep
                        rw [if_neg hem, if_neg (by simp [hix]), if_neg h22, if_neg h18, if_neg h10, if_neg h9, htop]
                      by_cases ko : 0 ≤ a.2.1
                      · rw [show ovr a.2.1 x = a.2.1 from if_pos ko] at hso
                        have hE := hEI.step hx hso
                        simp (disch := omega) [hI, hix, hem1, hem2, hem3, hem4, h22, h18, h10, h9, ko, hcl, hle2, wrap64, -getElem?_pos]
                        exact Rnd_of (m' := n - (i + 1)) (by omega) ⟨i + 1, _, _, s, .sl b 0 (r.length + 1) cap 3, T ++ [some [.int .i64 a.1, .int .i64 a.2.1, .bool a.2.2]], by omega, rfl, hE, by simp [List.map_set, setS], by first | exact hstk _ _ _ | (rw [hsr]; exact hstk _ _ _), by simp (disch := omega); try omega⟩
                      · rw [show ovr a.2.1 x = x from if_neg ko] at hso
                        have hE := hEI.step hx hso
                        simp (disch := omega) [hI, hix, hem1, hem2, hem3, hem4, h22, h18, h10, h9, ko, wrap64, -getElem?_pos]
                        exact Rnd_of (m' := n - (i + 1)) (by omega) ⟨i + 1, _, _, s, .sl b 0 (r.length + 1) cap 3, T ++ [some [.int .i64 a.1, .int .i64 a.2.1, .bool a.2.2]], by omega, rfl, hE, by simp [List.map_set], by first | exact hstk _ _ _ | (rw [hsr]; exact hstk _ _ _), by simp (disch := omega); try omega⟩
            · have hi3 : x = 20 ∨ x = 19 ∨ x = 21 := by
                unfold ini at hix
                simp at hix
                omega
              rcases hi3 with rfl | rfl | rfl
              · skip
                skip
                have hs' : ∀ s', (if nxt a.1 true ≤ 125 ∧ s.iso = 0 ∧ s.emb = 0 then { s with st := (nxt a.1 true, -1, true) :: s.st, val := s.val + 1 } else { s with iso := s.iso + 1 }) = s' → exStep e 20 (oddI 20 (o.drop (i + 1))) s = (a.1, ovr a.2.1 20, s') := by
                  rintro s' rfl
                  simp [exStep, ini, htop, oddI]
                have hN := fun cfg H => hU cfg H a.1 (by omega) true
                generalize nxt a.1 true = N at hN hs'
                have hie := hw.iso
                have hvl := hw.val
                by_cases ko : 0 ≤ a.2.1
                · rw [show ovr a.2.1 20 = a.2.1 from if_pos ko] at hs'
                  have k14 : ¬ 20 = (16 : Int) := by omega
                  by_cases k : N ≤ 125 ∧ s.iso = 0 ∧ s.emb = 0
                  · have hE := hEI.step hx (hs' _ (by rw [if_pos k]))
                    obtain ⟨k1, k2, k3⟩ := k
                    rw [hsr] at hE
                    simp (disch := omega) [hI, ini, ko, hN, k1, k2, k3, hcl, hle2, wrap64, -getElem?_pos]
                    refine wS_push2 (st := a :: r) (hstk _ _ _) (by simp; omega) (by omega) ?_
                    intro d' T' hd'
                    simp (disch := omega) [wrap64]
                    exact Rnd_of (m' := n - (i + 1)) (by omega) ⟨i + 1, _, _, _, d', T', by omega, rfl, hE, by simp [List.map_set, setS], hd', by simp (disch := omega) [k2, k3]⟩
                  · have hE := hEI.step hx (hs' _ (by rw [if_neg k]))
                    by_cases k1 : N ≤ 125
                    · by_cases k2 : s.iso = 0
                      · have k3 : ¬ s.emb = 0 := fun h => k ⟨k1, k2, h⟩
                        simp (disch := omega) [hI, ini, ko, hN, k1, k2, k3, hcl, hle2, wrap64, -getElem?_pos]
                        exact Rnd_of (m' := n - (i + 1)) (by omega) ⟨i + 1, _, _, _, .sl b 0 (r.length + 1) cap 3, T ++ [some [.int .i64 a.1, .int .i64 a.2.1, .bool a.2.2]], by omega, rfl, hE, by simp [List.map_set, setS], by first | exact hstk _ _ _ | (rw [hsr]; exact hstk _ _ _), by simp (disch := omega) [k2]⟩
                      · simp (disch := omega) [hI, ini, ko, hN, k1, k2, hcl, hle2, wrap64, -getElem?_pos]
                        exact Rnd_of (m' := n - (i + 1)) (by omega) ⟨i + 1, _, _, _, .sl b 0 (r.length + 1) cap 3, T ++ [some [.int .i64 a.1, .int .i64 a.2.1, .bool a.2.2]], by omega, rfl, hE, by simp [List.map_set, setS], by first | exact hstk _ _ _ | (rw [hsr]; exact hstk _ _ _), by simp (disch := omega); try omega⟩
                    · simp (disch := omega) [hI, ini, ko, hN, k1, hcl, hle2, wrap64, -getElem?_pos]
                      exact Rnd_of (m' := n - (i + 1)) (by omega) ⟨i + 1, _, _, _, .sl b 0 (r.length + 1) cap 3, T ++ [some [.int .i64 a.1, .int .i64 a.2.1, .bool a.2.2]], by omega, rfl, hE, by simp [List.map_set, setS], by first | exact hstk _ _ _ | (rw [hsr]; exact hstk _ _ _), by simp (disch := omega); try omega⟩
                · rw [show ovr a.2.1 20 = 20 from if_neg ko] at hs'
                  have k14 : ¬ 20 = (16 : Int) := by omega
                  by_cases k : N ≤ 125 ∧ s.iso = 0 ∧ s.emb = 0
                  · have hE := hEI.step hx (hs' _ (by rw [if_pos k]))
                    obtain ⟨k1, k2, k3⟩ := k
                    rw [hsr] at hE
                    simp (disch := omega) [hI, ini, ko, hN, k1, k2, k3, wrap64, -getElem?_pos]
                    refine wS_push2 (st := a :: r) (hstk _ _ _) (by simp; omega) (by omega) ?_
                    intro d' T' hd'
                    simp (disch := omega) [wrap64]
                    exact Rnd_of (m' := n - (i + 1)) (by omega) ⟨i + 1, _, _, _, d', T', by omega, rfl, hE, by simp [List.map_set], hd', by simp (disch := omega) [k2, k3]⟩
                  · have hE := hEI.step hx (hs' _ (by rw [if_neg k]))
                    by_cases k1 : N ≤ 125
                    · by_cases k2 : s.iso = 0
                      · have k3 : ¬ s.emb = 0 := fun h => k ⟨k1, k2, h⟩
                        simp (disch := omega) [hI, ini, ko, hN, k1, k2, k3, wrap64, -getElem?_pos]
                        exact Rnd_of (m' := n - (i + 1)) (by omega) ⟨i + 1, _, _, _, .sl b 0 (r.length + 1) cap 3, T ++ [some [.int .i64 a.1, .int .i64 a.2.1, .bool a.2.2]], by omega, rfl, hE, by simp [List.map_set], by first | exact hstk _ _ _ | (rw [hsr]; exact hstk _ _ _), by simp (disch := omega) [k2]⟩
                      · simp (disch := omega) [hI, ini, ko, hN, k1, k2, wrap64, -getElem?_pos]
                        exact Rnd_of (m' := n - (i + 1)) (by omega) ⟨i + 1, _, _, _, .sl b 0 (r.length + 1) cap 3, T ++ [some [.int .i64 a.1, .int .i64 a.2.1, .bool a.2.2]], by omega, rfl, hE, by simp [List.map_set], by first | exact hstk _ _ _ | (rw [hsr]; exact hstk _ _ _), by simp (disch := omega); try omega⟩
                    · simp (disch := omega) [hI, ini, ko, hN, k1, wrap64, -getElem?_pos]
                      exact Rnd_of (m' := n - (i + 1)) (by omega) ⟨i + 1, _, _, _, .sl b 0 (r.length + 1) cap 3, T ++ [some [.int .i64 a.1, .int .i64 a.2.1, .bool a.2.2]], by omega, rfl, hE, by simp [List.map_set], by first | exact hstk _ _ _ | (rw [hsr]; exact hstk _ _ _), by simp (disch := omega); try omega⟩
              · skip
                skip
                have hs' : ∀ s', (if nxt a.1 false ≤ 125 ∧ s.iso = 0 ∧ s.emb = 0 then { s with st := (nxt a.1 false, -1, true) :: s.st, val := s.val + 1 } else { s with iso := s.iso + 1 }) = s' → exStep e 19 (oddI 19 (o.drop (i + 1))) s = (a.1, ovr a.2.1 19, s') := by
                  rintro s' rfl
                  simp [exStep, ini, htop, oddI]
                have hN := fun cfg H => hU cfg H a.1 (by omega) false
                generalize nxt a.1 false = N at hN hs'
                have hie := hw.iso
                have hvl := hw.val
                by_cases ko : 0 ≤ a.2.1
                · rw [show ovr a.2.1 19 = a.2.1 from if_pos ko] at hs'
                  have k14 : ¬ 19 = (16 : Int) := by omega
                  by_cases k : N ≤ 125 ∧ s.iso = 0 ∧ s.emb = 0
                  · have hE := hEI.step hx (hs' _ (by rw [if_pos k]))
                    obtain ⟨k1, k2, k3⟩ := k
                    rw [hsr] at hE
                    simp (disch := omega) [hI, ini, ko, hN, k1, k2, k3, hcl, hle2, wrap64, -getElem?_pos]
                    refine wS_push2 (st := a :: r) (hstk _ _ _) (by simp; omega) (by omega) ?_
                    intro d' T' hd'
                    simp (disch := omega) [wrap64]
                    exact Rnd_of (m' := n - (i + 1)) (by omega) ⟨i + 1, _, _, _, d', T', by omega, rfl, hE, by simp [List.map_set, setS], hd', by simp (disch := omega) [k2, k3]⟩
                  · have hE := hEI.step hx (hs' _ (by rw [if_neg k]))
                    by_cases k1 : N ≤ 125
                    · by_cases k2 : s.iso = 0
                      · have k3 : ¬ s.emb = 0 := fun h => k ⟨k1, k2, h⟩
                        simp (disch := omega) [hI, ini, ko, hN, k1, k2, k3, hcl, hle2, wrap64, -getElem?_pos]
                        exact Rnd_of (m' := n - (i + 1)) (by omega) ⟨i + 1, _, _, _, .sl b 0 (r.length + 1) cap 3, T ++ [some [.int .i64 a.1, .int .i64 a.2.1, .bool a.2.2]], by omega, rfl, hE, by simp [List.map_set, setS], by first | exact hstk _ _ _ | (rw [hsr]; exact hstk _ _ _), by simp (disch := omega) [k2]⟩
                      · simp (disch := omega) [hI, ini, ko, hN, k1, k2, hcl, hle2, wrap64, -getElem?_pos]
                        exact Rnd_of (m' := n - (i + 1)) (by omega) ⟨i + 1, _, _, _, .sl b 0 (r.length + 1) cap 3, T ++ [some [.int .i64 a.1, .int .i64 a.2.1, .bool a.2.2]], by omega, rfl, hE, by simp [List.map_set, setS], by first | exact hstk _ _ _ | (rw [hsr]; exact hstk _ _ _), by simp (disch := omega); try omega⟩
                    · simp (disch := omega) [hI, ini, ko, hN, k1, hcl, hle2, wrap64, -getElem?_pos]
                      exact Rnd_of (m' := n - (i + 1)) (by omega) ⟨i + 1, _, _, _, .sl b 0 (r.length + 1) cap 3, T ++ [some [.int .i64 a.1, .int .i64 a.2.1, .bool a.2.2]], by omega, rfl, hE, by simp [List.map_set, setS], by first | exact hstk _ _ _ | (rw [hsr]; exact hstk _ _ _), by simp (disch := omega); try omega⟩
                · rw [show ovr a.2.1 19 = 19 from if_neg ko] at hs'
                  have k14 : ¬ 19 = (16 : Int) := by omega
                  by_cases k : N ≤ 125 ∧ s.iso = 0 ∧ s.emb = 0
                  · have hE := hEI.step hx (hs' _ (by rw [if_pos k]))
                    obtain ⟨k1, k2, k3⟩ := k
                    rw [hsr] at hE
                    simp (disch := omega) [hI, ini, ko, hN, k1, k2, k3, wrap64, -getElem?_pos]
                    refine wS_push2 (st := a :: r) (hstk _ _ _) (by simp; omega) (by omega) ?_
                    intro d' T' hd'
                    simp (disch := omega) [wrap64]
                    exact Rnd_of (m' := n - (i + 1)) (by omega) ⟨i + 1, _, _, _, d', T', by omega, rfl, hE, by simp [List.map_set], hd', by simp (disch := omega) [k2, k3]⟩
                  · have hE := hEI.step hx (hs' _ (by rw [if_neg k]))
                    by_cases k1 : N ≤ 125
                    · by_cases k2 : s.iso = 0
                      · have k3 : ¬ s.emb = 0 := fun h => k ⟨k1, k2, h⟩
                        simp (disch := omega) [hI, ini, ko, hN, k1, k2, k3, wrap64, -getElem?_pos]
                        exact Rnd_of (m' := n - (i + 1)) (by omega) ⟨i + 1, _, _, _, .sl b 0 (r.length + 1) cap 3, T ++ [some [.int .i64 a.1, .int .i64 a.2.1, .bool a.2.2]], by omega, rfl, hE, by simp [List.map_set], by first | exact hstk _ _ _ | (rw [hsr]; exact hstk _ _ _), by simp (disch := omega) [k2]⟩
                      · simp (disch := omega) [hI, ini, ko, hN, k1, k2, wrap64, -getElem?_pos]
                        exact Rnd_of (m' := n - (i + 1)) (by omega) ⟨i + 1, _, _, _, .sl b 0 (r.length + 1) cap 3, T ++ [some [.int .i64 a.1, .int .i64 a.2.1, .bool a.2.2]], by omega, rfl, hE, by simp [List.map_set], by first | exact hstk _ _ _ | (rw [hsr]; exact hstk _ _ _), by simp (disch := omega); try omega⟩
                    · simp (disch := omega) [hI, ini, ko, hN, k1, wrap64, -getElem?_pos]
                      exact Rnd_of (m' := n - (i + 1)) (by omega) ⟨i + 1, _, _, _, .sl b 0 (r.length + 1) cap 3, T ++ [some [.int .i64 a.1, .int .i64 a.2.1, .bool a.2.2]], by omega, rfl, hE, by simp [List.map_set], by first | exact hstk _ _ _ | (rw [hsr]; exact hstk _ _ _), by simp (disch := omega); try omega⟩
              · skip
                have key : ∃ to : Nat, i + 1 ≤ to ∧ to ≤ n ∧ (mt o i = -1 ∧ to = n ∨ mt o i = to) ∧ oddI 21 (o.drop (i + 1)) = decide (fs (((t.take to).drop (i + 1)).map bidi) = 1) := by
                  have hdt : ∀ to : Nat, ((t.take to).drop (i + 1)).map bidi = (o.drop (i + 1)).take (to - (i + 1)) := fun to => by
                    rw [List.drop_take, (hmd (i + 1) (to - (i + 1))).2]
                  unfold oddI mt
                  cases hsc : mscan (o.drop (i + 1)) 0 with
                  | none => exact ⟨n, by omega, Nat.le_refl _, .inl ⟨rfl, rfl⟩, by rw [hdt, List.take_of_length_le (by simp; omega)]; simp⟩
                  | some m =>
                    have := mscan_lt _ _ _ hsc
                    simp at this
                    exact ⟨i + 1 + m, by omega, by omega, .inr rfl, by rw [hdt, show i + 1 + m - (i + 1) = m by omega]; simp⟩
                obtain ⟨to, ht1, ht2, ht3, hodd⟩ := key
                have hMi := fun cfg h => hMt cfg h i (by omega)
                have hF : ∀ cfg h, callM md (K prim (d + 4)) cfg 57 [rl ((t.take to).drop (i + 1)), .int .i64 (-1)] h = some (.int .i64 (fs (((t.take to).drop (i + 1)).map bidi)), h) := fun cfg h => by
                  have := hBs cfg h ((t.take to).drop (i + 1)) (by simp; omega)
                  rw [this]
                  simp [baseS]
                generalize fs (((t.take to).drop (i + 1)).map bidi) = fv at hF hodd
                have hs' : ∀ s', (if nxt a.1 (decide (fv = 1)) ≤ 125 ∧ s.iso = 0 ∧ s.emb = 0 then { s with st := (nxt a.1 (decide (fv = 1)), -1, true) :: s.st, val := s.val + 1 } else { s with iso := s.iso + 1 }) = s' → exStep e 21 (oddI 21 (o.drop (i + 1))) s = (a.1, ovr a.2.1 21, s') := by
                  rintro s' rfl
                  simp [exStep, ini, htop, hodd]
                have hN := fun cfg H => hU cfg H a.1 (by omega) (decide (fv = 1))
                generalize nxt a.1 (decide (fv = 1)) = N at hN hs'
                have hie := hw.iso
                have hvl := hw.val
                simp only [rl, List.map_drop, List.map_take] at hF
                have n1 : ¬ (to : Int) < 0 := by omega
                rcases ht3 with ⟨hm1, hto⟩ | hm1
                · rw [hto] at hF
                  by_cases ko : 0 ≤ a.2.1
                  · rw [show ovr a.2.1 21 = a.2.1 from if_pos ko] at hs'
                    have k14 : ¬ 21 = (16 : Int) := by omega
                    by_cases k : N ≤ 125 ∧ s.iso = 0 ∧ s.emb = 0
                    · have hE := hEI.step hx (hs' _ (by rw [if_pos k]))
                      obtain ⟨k1, k2, k3⟩ := k
                      rw [hsr] at hE
                      simp (disch := omega) [hI, ini, ko, hN, k1, k2, k3, hMi, hm1, hF, hn, hcl, hle2, wrap64, -getElem?_pos]
                      refine wS_push2 (st := a :: r) (hstk _ _ _) (by simp; omega) (by omega) ?_
                      intro d' T' hd'
                      simp (disch := omega) [wrap64]
                      exact Rnd_of (m' := n - (i + 1)) (by omega) ⟨i + 1, _, _, _, d', T', by omega, rfl, hE, by simp [List.map_set, setS], hd', by simp (disch := omega) [k2, k3]⟩
                    · have hE := hEI.step hx (hs' _ (by rw [if_neg k]))
                      by_cases k1 : N ≤ 125
                      · by_cases k2 : s.iso = 0
                        · have k3 : ¬ s.emb = 0 := fun h => k ⟨k1, k2, h⟩
                          simp (disch := omega) [hI, ini, ko, hN, k1, k2, k3, hMi, hm1, hF, hn, hcl, hle2, wrap64, -getElem?_pos]
                          exact Rnd_of (m' := n - (i + 1)) (by omega) ⟨i + 1, _, _, _, .sl b 0 (r.length + 1) cap 3, T ++ [some [.int .i64 a.1, .int .i64 a.2.1, .bool a.2.2]], by omega, rfl, hE, by simp [List.map_set, setS], by first | exact hstk _ _ _ | (rw [hsr]; exact hstk _ _ _), by simp (disch := omega) [k2]⟩
                        · simp (disch := omega) [hI, ini, ko, hN, k1, k2, hMi, hm1, hF, hn, hcl, hle2, wrap64, -getElem?_pos]
                          exact Rnd_of (m' := n - (i + 1)) (by omega) ⟨i + 1, _, _, _, .sl b 0 (r.length + 1) cap 3, T ++ [some [.int .i64 a.1, .int .i64 a.2.1, .bool a.2.2]], by omega, rfl, hE, by simp [List.map_set, setS], by first | exact hstk _ _ _ | (rw [hsr]; exact hstk _ _ _), by simp (disch := omega); try omega⟩
                      · simp (disch := omega) [hI, ini, ko, hN, k1, hMi, hm1, hF, hn, hcl, hle2, wrap64, -getElem?_pos]
                        exact Rnd_of (m' := n - (i + 1)) (by omega) ⟨i + 1, _, _, _, .sl b 0 (r.length + 1) cap 3, T ++ [some [.int .i64 a.1, .int .i64 a.2.1, .bool a.2.2]], by omega, rfl, hE, by simp [List.map_set, setS], by first | exact hstk _ _ _ | (rw [hsr]; exact hstk _ _ _), by simp (disch := omega); try omega⟩
                  · rw [show ovr a.2.1 21 = 21 from if_neg ko] at hs'
                    have k14 : ¬ 21 = (16 : Int) := by omega
                    by_cases k : N ≤ 125 ∧ s.iso = 0 ∧ s.emb = 0
                    · have hE := hEI.step hx (hs' _ (by rw [if_pos k]))
                      obtain ⟨k1, k2, k3⟩ := k
                      rw [hsr] at hE
                      simp (disch := omega) [hI, ini, ko, hN, k1, k2, k3, hMi, hm1, hF, hn, wrap64, -getElem?_pos]
                      refine wS_push2 (st := a :: r) (hstk _ _ _) (by simp; omega) (by omega) ?_
                      intro d' T' hd'
                      simp (disch := omega) [wrap64]
                      exact Rnd_of (m' := n - (i + 1)) (by omega) ⟨i + 1, _, _, _, d', T', by omega, rfl, hE, by simp [List.map_set], hd', by simp (disch := omega) [k2, k3]⟩
                    · have hE := hEI.step hx (hs' _ (by rw [if_neg k]))
                      by_cases k1 : N ≤ 125
                      · by_cases k2 : s.iso = 0
                        · have k3 : ¬ s.emb = 0 := fun h => k ⟨k1, k2, h⟩
                          simp (disch := omega) [hI, ini, ko, hN, k1, k2, k3, hMi, hm1, hF, hn, wrap64, -getElem?_pos]
                          exact Rnd_of (m' := n - (i + 1)) (by omega) ⟨i + 1, _, _, _, .sl b 0 (r.length + 1) cap 3, T ++ [some [.int .i64 a.1, .int .i64 a.2.1, .bool a.2.2]], by omega, rfl, hE, by simp [List.map_set], by first | exact hstk _ _ _ | (rw [hsr]; exact hstk _ _ _), by simp (disch := omega) [k2]⟩
                        · simp (disch := omega) [hI, ini, ko, hN, k1, k2, hMi, hm1, hF, hn, wrap64, -getElem?_pos]
                          exact Rnd_of (m' := n - (i + 1)) (by omega) ⟨i + 1, _, _, _, .sl b 0 (r.length + 1) cap 3, T ++ [some [.int .i64 a.1, .int .i64 a.2.1, .bool a.2.2]], by omega, rfl, hE, by simp [List.map_set], by first | exact hstk _ _ _ | (rw [hsr]; exact hstk _ _ _), by simp (disch := omega); try omega⟩
                      · simp (disch := omega) [hI, ini, ko, hN, k1, hMi, hm1, hF, hn, wrap64, -getElem?_pos]
                        exact Rnd_of (m' := n - (i + 1)) (by omega) ⟨i + 1, _, _, _, .sl b 0 (r.length + 1) cap 3, T ++ [some [.int .i64 a.1, .int .i64 a.2.1, .bool a.2.2]], by omega, rfl, hE, by simp [List.map_set], by first | exact hstk _ _ _ | (rw [hsr]; exact hstk _ _ _), by simp (disch := omega); try omega⟩
                · skip
                  by_cases ko : 0 ≤ a.2.1
                  · rw [show ovr a.2.1 21 = a.2.1 from if_pos ko] at hs'
                    have k14 : ¬ 21 = (16 : Int) := by omega
                    by_cases k : N ≤ 125 ∧ s.iso = 0 ∧ s.emb = 0
                    · have hE := hEI.step hx (hs' _ (by rw [if_pos k]))
                      obtain ⟨k1, k2, k3⟩ := k
                      rw [hsr] at hE
                      simp (disch := omega) [hI, ini, ko, hN, k1, k2, k3, hMi, hm1, n1, hF, hn, hcl, hle2, wrap64, -getElem?_pos]
                      refine wS_push2 (st := a :: r) (hstk _ _ _) (by simp; omega) (by omega) ?_
                      intro d' T' hd'
                      simp (disch := omega) [wrap64]
                      exact Rnd_of (m' := n - (i + 1)) (by omega) ⟨i + 1, _, _, _, d', T', by omega, rfl, hE, by simp [List.map_set, setS], hd', by simp (disch := omega) [k2, k3]⟩
                    · have hE := hEI.step hx (hs' _ (by rw [if_neg k]))
                      by_cases k1 : N ≤ 125
                      · by_cases k2 : s.iso = 0
                        · have k3 : ¬ s.emb = 0 := fun h => k ⟨k1, k2, h⟩
                          simp (disch := omega) [hI, ini, ko, hN, k1, k2, k3, hMi, hm1, n1, hF, hn, hcl, hle2, wrap64, -getElem?_pos]
                          exact Rnd_of (m' := n - (i + 1)) (by omega) ⟨i + 1, _, _, _, .sl b 0 (r.length + 1) cap 3, T ++ [some [.int .i64 a.1, .int .i64 a.2.1, .bool a.2.2]], by omega, rfl, hE, by simp [List.map_set, setS], by first | exact hstk _ _ _ | (rw [hsr]; exact hstk _ _ _), by simp (disch := omega) [k2]⟩
                        · simp (disch := omega) [hI, ini, ko, hN, k1, k2, hMi, hm1, n1, hF, hn, hcl, hle2, wrap64, -getElem?_pos]
                          exact Rnd_of (m' := n - (i + 1)) (by omega) ⟨i + 1, _, _, _, .sl b 0 (r.length + 1) cap 3, T ++ [some [.int .i64 a.1, .int .i64 a.2.1, .bool a.2.2]], by omega, rfl, hE, by simp [List.map_set, setS], by first | exact hstk _ _ _ | (rw [hsr]; exact hstk _ _ _), by simp (disch := omega); try omega⟩
                      · simp (disch := omega) [hI, ini, ko, hN, k1, hMi, hm1, n1, hF, hn, hcl, hle2, wrap64, -getElem?_pos]
                        exact Rnd_of (m' := n - (i + 1)) (by omega) ⟨i + 1, _, _, _, .sl b 0 (r.length + 1) cap 3, T ++ [some [.int .i64 a.1, .int .i64 a.2.1, .bool a.2.2]], by omega, rfl, hE, by simp [List.map_set, setS], by first | exact hstk _ _ _ | (rw [hsr]; exact hstk _ _ _), by simp (disch := omega); try omega⟩
                  · rw [show ovr a.2.1 21 = 21 from if_neg ko] at hs'
                    have k14 : ¬ 21 = (16 : Int) := by omega
                    by_cases k : N ≤ 125 ∧ s.iso = 0 ∧ s.emb = 0
                    · have hE := hEI.step hx (hs' _ (by rw [if_pos k]))
                      obtain ⟨k1, k2, k3⟩ := k
                      rw [hsr] at hE
                      simp (disch := omega) [hI, ini, ko, hN, k1, k2, k3, hMi, hm1, n1, hF, hn, wrap64, -getElem?_pos]
                      refine wS_push2 (st := a :: r) (hstk _ _ _) (by simp; omega) (by omega) ?_
                      intro d' T' hd'
                      simp (disch := omega) [wrap64]
                      exact Rnd_of (m' := n - (i + 1)) (by omega) ⟨i + 1, _, _, _, d', T', by omega, rfl, hE, by simp [List.map_set], hd', by simp (disch := omega) [k2, k3]⟩
                    · have hE := hEI.step hx (hs' _ (by rw [if_neg k]))
                      by_cases k1 : N ≤ 125
                      · by_cases k2 : s.iso = 0
                        · have k3 : ¬ s.emb = 0 := fun h => k ⟨k1, k2, h⟩
                          simp (disch := omega) [hI, ini, ko, hN, k1, k2, k3, hMi, hm1, n1, hF, hn, wrap64, -getElem?_pos]
                          exact Rnd_of (m' := n - (i + 1)) (by omega) ⟨i + 1, _, _, _, .sl b 0 (r.length + 1) cap 3, T ++ [some [.int .i64 a.1, .int .i64 a.2.1, .bool a.2.2]], by omega, rfl, hE, by simp [List.map_set], by first | exact hstk _ _ _ | (rw [hsr]; exact hstk _ _ _), by simp (disch := omega) [k2]⟩
                        · simp (disch := omega) [hI, ini, ko, hN, k1, k2, hMi, hm1, n1, hF, hn, wrap64, -getElem?_pos]
                          exact Rnd_of (m' := n - (i + 1)) (by omega) ⟨i + 1, _, _, _, .sl b 0 (r.length + 1) cap 3, T ++ [some [.int .i64 a.1, .int .i64 a.2.1, .bool a.2.2]], by omega, rfl, hE, by simp [List.map_set], by first | exact hstk _ _ _ | (rw [hsr]; exact hstk _ _ _), by simp (disch := omega); try omega⟩
                      · simp (disch := omega) [hI, ini, ko, hN, k1, hMi, hm1, n1, hF, hn, wrap64, -getElem?_pos]
                        exact Rnd_of (m' := n - (i + 1)) (by omega) ⟨i + 1, _, _, _, .sl b 0 (r.length + 1) cap 3, T ++ [some [.int .i64 a.1, .int .i64 a.2.1, .bool a.2.2]], by omega, rfl, hE, by simp [List.map_set], by first | exact hstk _ _ _ | (rw [hsr]; exact hstk _ _ _), by simp (disch := omega); try omega⟩
  · have hltI : ¬ (i : Int) < n := by omega
    obtain rfl : i = o.length := by omega
    obtain ⟨f1, f2⟩ := hEI.fin
    simp (disch := omega) [hn, hltI]
    rw [f1, f2]
    simp
end
end Bi
end Go.Ab
