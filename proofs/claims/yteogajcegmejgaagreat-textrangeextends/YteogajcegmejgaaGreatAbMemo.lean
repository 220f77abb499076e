/- Several texts of this proof in one. -/
import Derived.Test.YteogajcegmejgaaGreatAbSortI
import Derived.Test.YteogajcegmejgaaGreatPaRef9
import Derived.Test.YteogajcegmejgaaGreatPiDis
import Derived.Test.YteogajcegmejgaaGreatPiC
import Derived.Test.YteogajcegmejgaaGreatAbW
namespace Go.Ab
open Go.Proofs
namespace Bi
attribute [local congr] wGq_congr
section
variable {prim : FuncId → Option Prim} (d : Nat)
theorem sortI_call (hs : prim 24 = some sortI) (cfg : Cfg) (H : Heap) (b : Nat) (l : List Int) (hl : l.length ≤ 100000) (hlo : cfg.lo ≤ b) (hb : blockOf H b = some (l.map (V.int .i64))) :
    callM md (K prim (d + 1)) cfg 24 [.sl b 0 l.length l.length 1] H = some (.tup [], H.set b (some ((srtI l).map (V.int .i64)))) := by
  have hbl := blockOf_lt hb
  have hw : (Cfg.wr ⟨cfg.lo, cfg.ex, H.length⟩ b) = true := wr_lo hlo
  have hrf : ((srtI l).map (V.int .i64)).all V.rf = true := by simp
  have hst : storeCellsV ⟨cfg.lo, cfg.ex, H.length⟩ H b 0 ((srtI l).map (V.int .i64)) = some (H.set b (some ((srtI l).map (V.int .i64)))) := by
    rw [storeCells_eq, hb]
    simp only [Option.bind_some]
    rw [if_pos]
    · have := putAt_mid ((srtI l).map (V.int .i64)) [] (l.map (V.int .i64)) (by simp [srtI_len])
      simp only [List.nil_append, List.length_nil] at this
      rw [this, List.drop_eq_nil_of_le (by simp [srtI_len]), List.append_nil]
    · simp only [hw, hrf, Bool.or_true, Bool.and_true, decide_eq_true_eq, List.length_map, srtI_len]
      omega
  have hP : sortI ⟨cfg.lo, cfg.ex, H.length⟩ [.sl b 0 l.length l.length 1] H = some (.tup [], H.set b (some ((srtI l).map (V.int .i64)))) := by
    simp only [sortI]
    rw [if_pos (by omega), hb]
    simp only
    rw [if_pos (by simp), List.drop_zero, List.take_of_length_le (by simp), intIn_map]
    simp only
    rw [hst]
  have hK : K prim (d + 1) ⟨cfg.lo, cfg.ex, H.length⟩ 24 [.sl b 0 l.length l.length 1] H = some (.tup [], H.set b (some ((srtI l).map (V.int .i64)))) := by
    show (match prim 24 with
      | some p => p _ _ _
      | none => _) = _
    rw [hs]
    exact hP
  have hm : md 24 = 1 := rfl
  simp only [callM, hm, hK]
  simp [frz]
  exact List.take_of_length_le (by simp)
structure Pos (l : List Int) (n : Nat) : Prop where
  len : 2 ≤ l.length ∧ l.length ≤ 4900
  zero : (0 : Int) ∈ l
  all : (n : Int) ∈ l
  rng : ∀ x ∈ l, 0 ≤ x ∧ x ≤ n
theorem Pos.app {l : List Int} {n : Nat} (h : Pos l n) {k : List Int} (hk : l.length + k.length ≤ 4900) (hr : ∀ x ∈ k, 0 ≤ x ∧ x ≤ n) : Pos (l ++ k) n :=
  ⟨by have := h.len; simp; omega, by simp [h.zero], by simp [h.all], fun x hx => (List.mem_append.1 hx).elim (h.rng x) (hr x)⟩
theorem Pos.bnd {l c : List Int} {n m : Nat} (h : Pos l n) (hc : Tx.Cp (srtI l) (srtI l).length (c.take m)) : Tx.Bnd (c.take m) n := by
  have e : ∀ x, x ∈ c.take m ↔ x ∈ l := fun x => by
    rw [hc.mem, List.take_length]
    exact (srtI_perm l).mem_iff
  exact ⟨hc.up, (e 0).2 h.zero, (e n).2 h.all, fun x hx => h.rng x ((e x).1 hx)⟩
theorem isMap_ints (l : List Int) : isMap (l.map (V.int .i64)) = false := by cases l <;> rfl
set_option maxHeartbeats 8000000 in
theorem bnds_ex (hp : ∀ f, Np5 f → prim f = none) (hs : prim 24 = some sortI) (p : Par) (ht : p.t.length ≤ 60) (L : List LinG) (hL : L.length ≤ 3721) (hLr : ∀ x ∈ L, 0 ≤ x.l.f ∧ x.l.f ≤ p.t.length) (u : Int) (hu1 : 1 ≤ u) (hu5 : u ≤ 5) :
    ∃ r, (∃ b : List Int, r = il b ∧ b.length ≤ 4900 ∧ Tx.Bnd b p.t.length) ∧ ∀ cfg h, callM md (K prim (d + 6)) cfg 11 [.agg (parC p), .lst (L.map linF), .int .i64 u] h = some (r, h) := by
  refine call0e rfl (hp 11 (by decide)) Tryz.func11 rfl rfl rfl (by simp [parC]) ?_
  obtain ⟨hlf, hmp, s0, s1, s2, s3, s4, l5, t5⟩ := pslots p
  obtain ⟨_, ⟨cl, rfl, hcl, hcr⟩, hCl⟩ := clusP_ex (prim := prim) (d + 1) hp p.t (by omega)
  obtain ⟨_, ⟨wl, rfl, hwl, hwr⟩, hWd⟩ := words_ex (prim := prim) d hp p.t (by omega)
  obtain ⟨_, ⟨pl, rfl, hpl, hpr⟩, hPa⟩ := paras_ex (prim := prim) (d + 1) hp p.t (by omega)
  have g0 : Hp [some (parC p)] [some (parC p)] [] := Hp.start
  have hn := g0.new (cs := [V.int .i64 0, V.int .i64 p.t.length]) (n := 2) (k := 1) rfl rfl []
  have q0 : Pos [0, (p.t.length : Int)] p.t.length := ⟨by simp, by simp, by simp, fun x hx => by simp at hx; omega⟩
  have hbp : ∀ {H : Heap} {os : List Own}, Hp H [some (parC p)] os → blockOf H 0 = some (parC p) := fun h => by rw [h.block (by simp)]; simp [blockOf, hmp]
  simp (disch := omega) [hlf, hmp, s0, -wC_block]
  refine wC_mid (fun fr' H2 => ∃ (v : V) (l : List Int), Pos l p.t.length ∧ Hp H2 [some (parC p)] [(1, v, l.map (V.int .i64))] ∧ Slots 56 [(7, v)] fr') ?_ ?_
  · have hcase : u = 1 ∨ u = 2 ∨ u = 3 ∨ u = 4 ∨ u = 5 := by omega
    rw [wC_block]
    rcases hcase with rfl | rfl | rfl | rfl | rfl
    · simp (disch := omega) [hmp, s0, hCl]
      refine wS_appG (m := cl.length) hn (by simp) (by simp) (isMap_ints _) (by omega) (by simp; omega) (by simp; omega) ?_
      intro v' H' hh
      simp (disch := omega)
      exact Mid_of ⟨v', [0, (p.t.length : Int)] ++ cl, q0.app (by simp; omega) hcr, by simpa using hh, by simp⟩
    · simp (disch := omega) [hmp, s0, hWd]
      refine wS_appG (m := wl.length) hn (by simp) (by simp) (isMap_ints _) (by omega) (by simp; omega) (by simp; omega) ?_
      intro v' H' hh
      simp (disch := omega)
      exact Mid_of ⟨v', [0, (p.t.length : Int)] ++ wl, q0.app (by simp; omega) hwr, by simpa using hh, by simp⟩
    · simp (disch := omega)
      refine wC_loop (fun m fr H => ∃ (i : Nat) (v : V) (l : List Int), i ≤ L.length ∧ m = L.length - i ∧ l.length ≤ 2 + i ∧ Pos l p.t.length ∧ Hp H [some (parC p)] [(1, v, l.map (V.int .i64))] ∧
        Slots 56 [(7, v), (31, .lst (L.map linF)), (32, .int .i64 L.length), (33, .int .i64 i)] fr) (m := L.length) (by omega) ⟨0, .sl 1 0 2 2 1, [0, (p.t.length : Int)], by omega, by omega, by simp, q0, hn, by simp⟩ ?_
      rintro m fr H ⟨i, v, l, hi, rfl, hll, hpos, hhp, hs'⟩
      obtain ⟨j, rfl⟩ := hs'.ex
      clear hs'
      by_cases hlt : i < L.length
      · obtain ⟨x, hx⟩ : ∃ x, L[i]? = some x := ⟨_, List.getElem?_eq_getElem hlt⟩
        have hxr := hLr x (List.mem_of_getElem? hx)
        have hiw : IntKind.i64.wrap ((i : Int) + 1) = ((i + 1 : Nat) : Int) := by rw [wrap64 (by omega) (by omega)]; omega
        simp (disch := omega) [hlt, hx, linF, linC, -getElem?_pos]
        refine wS_appO (m := 1) (hhp.push _) (by simp) rfl rfl (by omega) (by omega) (by simp; omega) (by simp; omega) ?_
        intro v' H' hh
        simp (disch := omega) [hiw]
        refine Rnd_of (m' := L.length - (i + 1)) (by omega) ⟨i + 1, v', l ++ [x.l.f], by omega, by omega, by simp; omega, hpos.app (by simp; omega) (fun y hy => by simp at hy; omega), by simpa using hh, by simp⟩
      · obtain rfl : i = L.length := by omega
        simp (disch := omega)
        exact Mid_of ⟨v, l, hpos, hhp, by simp⟩
    · simp (disch := omega) [hmp, s0, hPa]
      refine wS_appG (m := pl.length) hn (by simp) (by simp) (isMap_ints _) (by omega) (by simp; omega) (by simp; omega) ?_
      intro v' H' hh
      simp (disch := omega)
      exact Mid_of ⟨v', [0, (p.t.length : Int)] ++ pl, q0.app (by simp; omega) hpr, by simpa using hh, by simp⟩
    · simp (disch := omega)
      exact Mid_of ⟨_, [0, (p.t.length : Int)], q0, hn, by simp⟩
  rintro fr H2 ⟨v, l, hpos, hhp, hs'⟩
  obtain ⟨j, rfl⟩ := hs'.ex
  clear hs'
  obtain ⟨b, rfl, hb1, hb2, hb⟩ := hhp.head.ints (by have := hpos.len; omega)
  have hlen := hpos.len
  have hS := sortI_call (prim := prim) (d + 4) hs ⟨0, none, 0⟩ H2 b l (by omega) (Nat.zero_le _) hb
  have hbs : blockOf (H2.set b (some ((srtI l).map (V.int .i64)))) b = some ((srtI l).map (V.int .i64)) := by rw [blockOf_set_self hb2, isMap_ints]; rfl
  have hCp := fun cfg hw => compact_ex (prim := prim) (d + 4) hp (srtI l) (by rw [srtI_len]; omega) (by rw [srtI_len]; omega) (srtI_up l) cfg (H2.set b (some ((srtI l).map (V.int .i64)))) b hbs hw
  have mC : md 25 = 2 := rfl
  have mS : md 24 = 1 := rfl
  obtain ⟨r, h', hC, m, c, rfl, hcl2, hm, hcp, rfl⟩ := hCp ⟨0, none, 0⟩ (wr_lo (Nat.zero_le _))
  rw [srtI_len] at hC hcl2 hm
  simp (disch := omega) [hS, hC]
  have hbc : blockOf ((H2.set b (some ((srtI l).map (V.int .i64)))).set b (some (c.map (V.int .i64)))) b = some (c.map (V.int .i64)) := by rw [blockOf_set_self (by simpa using hb2), isMap_ints]; rfl
  have hfr := frz_part (n := 0) (d := 4) (off := 0) (len := m) (cap := l.length) hbc (Nat.zero_le _) (by omega)
  rw [List.drop_zero, List.set_set] at hfr
  refine ⟨_, hfr, c.take m, rfl, by simp; omega, hpos.bnd hcp⟩
set_option maxHeartbeats 4000000 in
theorem expand_ok (hp : ∀ f, Np5 f → prim f = none) (cfg : Cfg) (h : Heap) (p : Par) (L : List LinG) (u : Int) (b : List Int) (hb : b.length ≤ 4900) (hn : Tx.Bnd b p.t.length)
    (hB : ∀ cfg h, callM md (K prim (d + 1)) cfg 11 [.agg (parC p), .lst (L.map linF), .int .i64 u] h = some (il b, h)) (f t : Int) (h0 : 0 ≤ f) (h1 : f ≤ t) (h2 : t ≤ p.t.length) :
    callM md (K prim (d + 2)) cfg 10 [.agg (parC p), .lst (L.map linF), .agg [.int .i64 f, .int .i64 t], .int .i64 u] h = some (.agg [.int .i64 (Tx.whF f p.t.length b 0), .int .i64 (Tx.whT (Tx.whF f p.t.length b 0) t p.t.length b)], h) := by
  refine call0 rfl (hp 10 (by decide)) Tryz.func10 rfl rfl rfl (by simp [parC]) ?_
  obtain ⟨hlf, hmp, s0, s1, s2, s3, s4, l5, t5⟩ := pslots p
  have hV := fun cfg h => tvalid_ok (prim := prim) d hp cfg h f t p.t.length
  have hW := fun cfg h => whole_ex (prim := prim) d hp cfg h b (by omega) f t p.t.length
  have hbp : ¬ b = [] := fun e => by have := hn.zero; rw [e] at this; simp at this
  have hbl : ¬ (b.length : Int) = 0 := fun e => hbp (List.eq_nil_of_length_eq_zero (by omega))
  simp only [h0, h1, h2, decide_true, Bool.and_true] at hV
  have mV : md 19 = 0 := rfl
  simp (disch := omega) [hlf, hmp, l5, t5, s0, hB, hbp, hV, hW]
end
end Bi
end Go.Ab
namespace Go.Ab
open Go.Proofs
namespace Bi
theorem upto_get (n i : Nat) (h : i < n) : (upto n n)[i]? = some (i : Int) := by
  simp [upto, h]
section
variable {prim : FuncId → Option Prim} (d : Nat)
set_option maxHeartbeats 1000000 in
set_option maxRecDepth 10000 in
theorem order0_ok (hp : prim 63 = none) (n : Nat) (hn : n ≤ 100) : K prim (d + 1) ⟨0, none, 0⟩ 63 [il (List.replicate n 0)] [] = some (.sl 0 0 n n 1, [some ((upto n n).map (V.int .i64))]) := by
  have hc := callN_of (md := md) (n := 10000) (d := d) (cfg := ⟨0, none, 0⟩) (h := []) (args := [il (List.replicate n 0)]) (R := fun r h' => r = .sl 0 0 n n 1 ∧ h' = [some ((upto n n).map (V.int .i64))]) hp Tryz.func63 rfl rfl rfl ?_
  · obtain ⟨r, h', h1, rfl, rfl⟩ := hc
    exact h1
  have e0 : il (List.replicate n 0) = .lst (List.replicate n [.int .i64 0]) := by simp
  have hn1 : ¬ (2000 : Int) < n := by omega
  rw [e0]
  simp (disch := omega) [hn1]
  refine wC_loop (fun m fr h => ∃ i : Nat, i ≤ n ∧ m = n - i ∧ h = [some ((upto n i).map (V.int .i64))] ∧ Slots 101 [(0, .lst (List.replicate n [.int .i64 0])), (3, .sl 0 0 n n 1), (4, .int .i64 i)] fr) (m := n) (by omega) ⟨0, by omega, by omega, by simp [zerosFor_int, upto], by simp⟩ ?_
  rintro m fr h ⟨i, hi, rfl, rfl, hs⟩
  obtain ⟨j, rfl⟩ := hs.ex
  clear hs
  have hul := upto_len n i hi
  by_cases hlt : i < n
  · have hx : (List.replicate n [V.int .i64 0])[i]? = some [.int .i64 0] := by simp [hlt]
    have hle : i + 1 ≤ (upto n i).length := by omega
    simp (disch := omega) [hlt, hx, hle, wrap64, upto_set, -getElem?_pos]
    exact Rnd_of (m' := n - (i + 1)) (by omega) ⟨i + 1, by omega, rfl, rfl, by simp⟩
  · obtain rfl : i = n := by omega
    simp
    refine wC_loop (fun m fr h => ∃ lv : Nat, lv ≤ 127 ∧ m = lv ∧ h = [some ((upto i i).map (V.int .i64))] ∧ Slots 101 [(0, .lst (List.replicate i [.int .i64 0])), (3, .sl 0 0 i i 1), (5, .int .i64 lv)] fr) (m := 127) (by omega) ⟨127, by omega, rfl, rfl, by simp⟩ ?_
    rintro m fr h ⟨lv, hlv, rfl, rfl, hs⟩
    obtain ⟨j, rfl⟩ := hs.ex
    clear hs
    by_cases hl0 : 0 < m
    · simp [hl0]
      refine wC_loop (fun m' fr h => ∃ q : Nat, q ≤ i ∧ m' = i - q ∧ h = [some ((upto i i).map (V.int .i64))] ∧ Slots 101 [(0, .lst (List.replicate i [.int .i64 0])), (3, .sl 0 0 i i 1), (5, .int .i64 m), (6, .int .i64 q)] fr) (m := i) (by omega) ⟨0, by omega, by omega, rfl, by simp⟩ ?_
      rintro m' fr h ⟨q, hq, rfl, rfl, hs⟩
      obtain ⟨j, rfl⟩ := hs.ex
      clear hs
      by_cases hqn : q < i
      · have hx := upto_get i q hqn
        have hy : (List.replicate i [V.int .i64 0])[q]? = some [.int .i64 0] := by simp [hqn]
        simp (disch := omega) [hqn, hx, hy, hl0, wrap64, -getElem?_pos]
        exact Rnd_of (m' := i - (q + 1)) (by omega) ⟨q + 1, by omega, rfl, rfl, by simp⟩
      · simp (disch := omega) [hqn, wrap64]
        exact Rnd_of (m' := m - 1) (by omega) ⟨m - 1, by omega, rfl, rfl, by simp; omega⟩
    · simp [hl0]
end
end Bi
end Go.Ab
namespace Go.Ab
def kindEq : IntKind → IntKind → Bool
  | .i8, .i8 | .i16, .i16 | .i32, .i32 | .i64, .i64 | .u8, .u8 | .u16, .u16 | .u32, .u32 | .u64, .u64 => true
  | _, _ => false
theorem kindEq_ok {a b : IntKind} (h : kindEq a b = true) : a = b := by
  cases a <;> cases b <;> first | rfl | simp [kindEq] at h
def listEq {α : Type} (f : α → α → Bool) : List α → List α → Bool
  | [], [] => true
  | a :: x, b :: y => f a b && listEq f x y
  | _, _ => false
theorem listEq_ok {α : Type} {f : α → α → Bool} (hf : ∀ a b, f a b = true → a = b) : ∀ x y, listEq f x y = true → x = y
  | [], [], _ => rfl
  | [], _ :: _, h => by simp [listEq] at h
  | _ :: _, [], h => by simp [listEq] at h
  | a :: x, b :: y, h => by
    simp only [listEq, Bool.and_eq_true] at h
    rw [hf a b h.1, listEq_ok hf x y h.2]
def eqb : Nat → V → V → Bool
  | 0, _, _ => false
  | d + 1, x, y => match x, y with
    | .int k a, .int k' b => kindEq k k' && (a == b)
    | .bool a, .bool b => a == b
    | .str a, .str b => listEq (fun (p q : UInt8) => p.toNat == q.toNat) a.data.toList b.data.toList
    | .lst xs, .lst ys => listEq (listEq (eqb d)) xs ys
    | .agg xs, .agg ys => listEq (eqb d) xs ys
    | .nils, .nils => true
    | .nilp, .nilp => true
    | .no, .no => true
    | .sl a b c e f, .sl a' b' c' e' f' => a == a' && b == b' && c == c' && e == e' && f == f'
    | .ptr a b, .ptr a' b' => a == a' && b == b'
    | .tup xs, .tup ys => listEq (eqb d) xs ys
    | _, _ => false
theorem eqb_ok : ∀ (d : Nat) (x y : V), eqb d x y = true → x = y
  | 0, x, y, h => by simp [eqb] at h
  | d + 1, x, y, h => by
    have ih := eqb_ok d
    unfold eqb at h
    split at h
    · simp only [Bool.and_eq_true, beq_iff_eq] at h
      rw [kindEq_ok h.1, h.2]
    · simp only [beq_iff_eq] at h
      rw [h]
    · rename_i a b
      have := listEq_ok (fun (p q : UInt8) hpq => UInt8.toNat_inj.1 (by simpa using hpq)) _ _ h
      obtain ⟨⟨l⟩⟩ := a
      obtain ⟨⟨m⟩⟩ := b
      simp only at this
      rw [this]
    · rw [listEq_ok (listEq_ok ih) _ _ h]
    · rw [listEq_ok ih _ _ h]
    · rfl
    · rfl
    · rfl
    · simp only [Bool.and_eq_true, beq_iff_eq] at h
      obtain ⟨⟨⟨⟨rfl, rfl⟩, rfl⟩, rfl⟩, rfl⟩ := h
      rfl
    · simp only [Bool.and_eq_true, beq_iff_eq] at h
      obtain ⟨rfl, rfl⟩ := h
      rfl
    · rw [listEq_ok ih _ _ h]
    · cases h
def blkEq : Option (List V) → Option (List V) → Bool
  | none, none => true
  | some x, some y => listEq (eqb 9) x y
  | _, _ => false
theorem blkEq_ok (x y : Option (List V)) (h : blkEq x y = true) : x = y := by
  cases x <;> cases y <;> first | rfl | (simp [blkEq] at h; done) | (simp only [blkEq] at h; rw [listEq_ok (eqb_ok 9) _ _ h])
def cfgEq (a b : Cfg) : Bool := a.lo == b.lo && a.thr == b.thr && (match a.ex, b.ex with
  | none, none => true
  | some x, some y => x == y
  | _, _ => false)
theorem cfgEq_ok (a b : Cfg) (h : cfgEq a b = true) : a = b := by
  obtain ⟨l, e, t⟩ := a
  obtain ⟨l', e', t'⟩ := b
  simp only [cfgEq, Bool.and_eq_true, beq_iff_eq] at h
  obtain ⟨⟨rfl, rfl⟩, h⟩ := h
  cases e <;> cases e' <;> simp_all
structure Key where
  cfg : Cfg
  args : List V
  h : Heap
abbrev Tbl := List (Key × V × Heap)
def keyEq (k : Key) (cfg : Cfg) (args : List V) (h : Heap) : Bool := cfgEq k.cfg cfg && listEq (eqb 9) k.args args && listEq blkEq k.h h
def find : Tbl → Cfg → List V → Heap → Option (V × Heap)
  | [], _, _, _ => none
  | (k, r) :: t, cfg, args, h => if keyEq k cfg args h then some r else find t cfg args h
def memoP (t : Tbl) : Prim := fun cfg args h => find t cfg args h
def primOf : List (FuncId × Tbl) → FuncId → Option Prim
  | [], _ => none
  | (g, t) :: r, f => if f == g then some (memoP t) else primOf r f
section
variable {P : Program} {md : FuncId → Nat} {prim : FuncId → Option Prim} {n d : Nat}
def RowsOK (P : Program) (md : FuncId → Nat) (prim : FuncId → Option Prim) (n d : Nat) (f : FuncId) (t : Tbl) : Prop := ∀ k r, (k, r) ∈ t → callN P md prim n d k.cfg f k.args k.h = some r
theorem rows_nil {f : FuncId} : RowsOK P md prim n d f [] := fun _ _ h => by simp at h
theorem rows_cons {f : FuncId} {k : Key} {r : V × Heap} {t : Tbl} (hr : callN P md prim n d k.cfg f k.args k.h = some r) (ht : RowsOK P md prim n d f t) : RowsOK P md prim n d f ((k, r) :: t) := by
  intro k' r' hm
  rcases List.mem_cons.1 hm with hm | hm
  · cases hm; exact hr
  · exact ht k' r' hm
theorem find_mem : ∀ (t : Tbl) (cfg : Cfg) (args : List V) (h : Heap) (r : V × Heap), find t cfg args h = some r → (⟨cfg, args, h⟩, r) ∈ t
  | [], _, _, _, _, h => by simp [find] at h
  | (k, s) :: t, cfg, args, h, r, hf => by
    unfold find at hf
    split at hf
    · rename_i he
      cases hf
      simp only [keyEq, Bool.and_eq_true] at he
      obtain ⟨kc, ka, kh⟩ := k
      obtain ⟨⟨h1, h2⟩, h3⟩ := he
      rw [← cfgEq_ok _ _ h1, ← listEq_ok (eqb_ok 9) _ _ h2, ← listEq_ok blkEq_ok _ _ h3]
      exact List.mem_cons_self ..
    · exact List.mem_cons_of_mem _ (find_mem t cfg args h r hf)
theorem memo_ok (hm : P.follows .mixedOrders = true) (hN : Named P) (hp : ∀ f p, prim f = some p → PrimOK P f p) {f : FuncId} {t : Tbl} (ht : RowsOK P md prim n d f t) : PrimOK P f (memoP t) := by
  intro cfg args h r h' hx
  exact callN_ok hm hN hp d _ _ _ _ _ _ (ht _ _ (find_mem t cfg args h _ hx))
theorem memo_cons {l : List (FuncId × Tbl)} (hl : ∀ f t, (f, t) ∈ l → PrimOK P f (memoP t)) {f : FuncId} {t : Tbl} (hf : PrimOK P f (memoP t)) : ∀ g u, (g, u) ∈ (f, t) :: l → PrimOK P g (memoP u) := by
  intro g u hgu
  rcases List.mem_cons.1 hgu with h | h
  · cases h; exact hf
  · exact hl g u h
theorem primOf_ok : ∀ (l : List (FuncId × Tbl)), (∀ f t, (f, t) ∈ l → PrimOK P f (memoP t)) → ∀ f p, primOf l f = some p → PrimOK P f p
  | [], _, f, p, h => by simp [primOf] at h
  | (g, t) :: r, hl, f, p, h => by
    unfold primOf at h
    split at h
    · rename_i he
      cases h
      rw [eq_of_beq he]
      exact hl g t (List.mem_cons_self ..)
    · exact primOf_ok r (fun f t hft => hl f t (List.mem_cons_of_mem _ hft)) f p h
end
end Go.Ab
