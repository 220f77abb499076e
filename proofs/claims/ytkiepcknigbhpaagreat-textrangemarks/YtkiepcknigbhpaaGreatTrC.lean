/- The reader of numbers. -/
import Derived.Test.YtkiepcknigbhpaaGreatTrB
import Derived.Test.YtkiepcknigbhpaaGreatAbW4
namespace Go.Ab
open Go.Proofs
namespace Tr
@[simp] theorem cv3_5 {h : Heap} {k : IntKind} {n : Int} : convV Tryz.prog h 3 5 (.int k n) = some (.int .u8 (IntKind.u8.wrap n), h) := by kernel_rfl
@[simp] theorem cv78_9 {h : Heap} {x : V} : convV Tryz.prog h 78 9 x = ((elemsOf h x).bind bytesIn).map fun bs => (.str ⟨bs.toArray⟩, h) := by
  have h1 : Tryz.prog.underlying 78 = some (.slice 5) := by kernel_rfl
  have h2 : Tryz.prog.underlying 9 = some .string := by kernel_rfl
  have h3 : Tryz.prog.underlying 5 = some (.int .u8) := by kernel_rfl
  simp only [convV, h1, h2, h3]
  cases elemsOf h x with
  | none => rfl
  | some cs => simp only [Option.bind_some]; cases bytesIn cs <;> rfl
@[simp] theorem cv9_25 {h : Heap} {s : ByteArray} : convV Tryz.prog h 9 25 (.str s) = some (.sl h.length 0 (runesOf s s.size 0).length (runesOf s s.size 0).length 1, h ++ [some ((runesOf s s.size 0).map (V.int .i32))]) := by kernel_rfl
section
variable {prim : FuncId → Option Prim} (d : Nat) (cfg : Cfg) (h : Heap)

theorem N_ok (hp : prim 10 = none) (L : List Int) (k : Nat) (hL : L.length ≤ 4000) (hk : k ≤ L.length) (n : Int) (hn : 1 ≤ n) (hn2 : n ≤ 4000000000) (b : Nat) (hb : blockOf h b = some [il L, .int .i64 k]) (hw : cfg.wr b = true) :
    ∃ v k' : Nat, (v : Int) < n ∧ k' ≤ L.length ∧ callM md (K prim (d + 1)) cfg 10 [.ptr b 0, .int .i64 n] h = some (.int .i64 v, h.set b (some [il L, .int .i64 k'])) := by
  have hw' : (Cfg.wr ⟨cfg.lo, cfg.ex, h.length⟩ b) = true := hw
  have hbl := blockOf_lt hb
  by_cases hlt : k < L.length
  · obtain ⟨x, hx⟩ : ∃ x, L[k] = x := ⟨_, rfl⟩
    have hr := Int.tmod_lt_of_pos x (b := n) (by omega)
    have hr2 := Int.lt_tmod_of_pos x (b := n) (by omega)
    refine ⟨(if x.tmod n < 0 then x.tmod n + n else x.tmod n).toNat, k + 1, by split <;> omega, by omega, call1 rfl hp Tryz.func10 rfl rfl rfl ?_⟩
    simp
    refine wC_draw 9 (by kernel_rfl) ?_
    have hk1 : ¬ L.length ≤ k := by omega
    have hn1 : ¬ n < 1 := by omega
    have hn0 : ¬ n = 0 := by omega
    simp [hb, hk1, hn1]
    refine wC_draw 11 (by kernel_rfl) ?_
    simp (disch := first | omega | (simp; done) | (simp; omega)) [hb, hx, hw', wrap64]
    by_cases hneg : x.tmod n < 0
    · simp (disch := first | omega | (simp; done) | (simp; omega)) [hneg, wrap64]
      exact ⟨by omega, List.take_of_length_le (by simp)⟩
    · simp (disch := first | omega | (simp; done) | (simp; omega)) [hneg]
      exact ⟨by omega, List.take_of_length_le (by simp)⟩
  · refine ⟨0, k, by omega, hk, ?_⟩
    rw [set_same hb]
    refine call1 rfl hp Tryz.func10 rfl rfl rfl ?_
    have hk1 : L.length ≤ k := by omega
    simp
    refine wC_draw 9 (by kernel_rfl) ?_
    simp [hb, hk1]

theorem word_ok (hp : prim 20 = none) (hp1 : prim 10 = none) (L : List Int) (k : Nat) (hL : L.length ≤ 4000) (hk : k ≤ L.length) (n : Nat) (hn : n ≤ 100) (b : Nat) (hb : blockOf h b = some [il L, .int .i64 k]) (hw : cfg.wr b = true) (hlo : cfg.lo ≤ h.length) :
    ∃ (s : ByteArray) (k' : Nat), s.size ≤ n ∧ k' ≤ L.length ∧ callM md (K prim (d + 2)) cfg 20 [.ptr b 0, .int .i64 n] h = some (.str s, h.set b (some [il L, .int .i64 k'])) := by
  have hw' : (Cfg.wr ⟨cfg.lo, cfg.ex, h.length⟩ b) = true := hw
  have hbl := blockOf_lt hb
  obtain ⟨v, k1, hv, hk1, hN⟩ := N_ok d ⟨cfg.lo, cfg.ex, h.length⟩ h hp1 L k hL hk (n + 1) (by omega) (by omega) b hb hw'
  have hc := call1x (md := md) (n := 10000) (d := d + 1) (cfg := cfg) (h := h) (args := [.ptr b 0, .int .i64 n]) (Post := fun r h2 => ∃ (s : ByteArray) (k' : Nat), s.size ≤ n ∧ k' ≤ L.length ∧ r = .str s ∧ h2 = h.set b (some [il L, .int .i64 k'])) rfl hp Tryz.func20 rfl rfl rfl ?_
  · obtain ⟨r, h2, h3, s, k', h4, h5, rfl, rfl⟩ := hc
    exact ⟨s, k', h4, h5, h3⟩
  simp (disch := first | omega | (simp; done) | (simp; omega)) [wrap64, hN]
  refine wC_loop (fun m fr H => ∃ (i kk : Nat) (l : List Int), i ≤ v ∧ m = v - i ∧ kk ≤ L.length ∧ l.length = v ∧ H = h.set b (some [il L, .int .i64 kk]) ++ [some (l.map (V.int .u8))] ∧
      Slots 28 [(0, .ptr b 0), (5, .int .i64 v), (6, .sl h.length 0 v v 1), (7, .int .i64 i)] fr) (m := v) (by omega) ⟨0, k1, List.replicate v 0, by omega, by omega, hk1, by simp, by rw [zerosFor_int], by simp⟩ ?_
  rintro m fr H ⟨i, kk, l, hi, rfl, hkk, hl, rfl, hs⟩
  obtain ⟨j, rfl⟩ := hs.ex
  clear hs
  simp
  by_cases hlt : i < v
  · obtain ⟨u, k2, hu, hk2, hN2⟩ := N_ok d ⟨cfg.lo, cfg.ex, h.length⟩ (h.set b (some [il L, .int .i64 kk]) ++ [some (l.map (V.int .u8))]) hp1 L kk hL hkk 4 (by omega) (by omega) b (by simp [hbl]) hw'
    simp (disch := first | omega | (simp; done) | (simp; omega)) [hbl] at hN2
    have hwl : (Cfg.wr ⟨cfg.lo, cfg.ex, h.length⟩ h.length) = true := wr_lo hlo
    have hil : i + 1 ≤ l.length := by omega
    simp (disch := first | omega | (simp; done) | (simp; omega)) [hlt, hN2, wrap64, hwl, hil]
    exact Rnd_of (m' := v - (i + 1)) (by omega) ⟨i + 1, k2, l.set i (IntKind.u8.wrap (97 + u)), by omega, rfl, hk2, by simp [hl], by rw [ints_set], by simp⟩
  · have htk : List.take v (l.map (V.int .u8)) = l.map (V.int .u8) := List.take_of_length_le (by simp [hl])
    simp [hlt, hl, htk, bytesIn_ints]
    exact ⟨_, by simp [ByteArray.size, hl]; omega, kk, hkk, rfl, rfl⟩
end
end Tr
end Go.Ab
