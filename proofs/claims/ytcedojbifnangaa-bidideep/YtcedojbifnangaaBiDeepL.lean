/- Several texts of this proof in one. -/
import Derived.Test.YtcedojbifnangaaBiG
import Derived.Test.YtcedojbifnangaaBiLvs
/- The generator: new, N, texts. -/
namespace Go.Ab
open Go.Proofs
namespace Bi
def alph : List Int := [97, 98, 102, 105, 88, 49, 50, 32, 32, 46, 44, 45, 39, 34, 40, 41, 91, 93, 60, 33, 58, 95, 37, 43, 47, 9, 10, 13, 0x0B, 0x85, 0xA0, 0xAD, 0xB7, 0x301, 0x5D0, 0x5D1, 0x5BE, 0x5B0, 0x600, 0x627, 0x628, 0x633, 0x640, 0x64B, 0x661, 0x66A, 0x60C, 0x61C, 0x6F1, 0x903, 0x905, 0x93C, 0x1100, 0x1161, 0x11A8, 0xAC00, 0xAC01, 0x2009, 0x200B, 0x200C, 0x200D, 0x200E, 0x200F, 0x2019, 0x2028, 0x2029, 0x202A, 0x202B, 0x202C, 0x202D, 0x202E, 0x2060, 0x2066, 0x2067, 0x2068, 0x2069, 0x2600, 0x3000, 0x3001, 0x300C, 0x300D, 0x30A2, 0x4E00, 0xFE0F, 0x1F1E6, 0x1F1E7, 0x1F3FB, 0x1F468, 0x10FFFF]
section
variable {prim : FuncId → Option Prim} (d : Nat) (cfg : Cfg) (h : Heap)
theorem new_ok (hp : prim 12 = none) (l : List Int) : callM md (K prim (d + 1)) cfg 12 [il l] h = some (.ptr h.length 0, h ++ [some [il (l.take 4000), .int .i64 0]]) := by
  refine call2 rfl hp Try.func12 rfl rfl rfl ?_
  simp
  by_cases hl : 4000 < l.length
  · have hl' : (4000 : Int) < l.length := by omega
    simp (disch := first | omega | (simp; done) | (simp; omega)) [hl']
  · have hl' : ¬ (4000 : Int) < l.length := by omega
    simp [hl', List.take_of_length_le (show l.length ≤ 4000 by omega)]
theorem N_ok (hp : prim 13 = none) (L : List Int) (k : Nat) (hL : L.length ≤ 4000) (hk : k ≤ L.length) (n : Int) (hn : 1 ≤ n) (hn2 : n ≤ 4000000000) (b : Nat) (hb : blockOf h b = some [il L, .int .i64 k]) (hw : cfg.wr b = true) :
    ∃ v k' : Nat, (v : Int) < n ∧ k' ≤ L.length ∧ callM md (K prim (d + 1)) cfg 13 [.ptr b 0, .int .i64 n] h = some (.int .i64 v, h.set b (some [il L, .int .i64 k'])) := by
  have hw' : (Cfg.wr ⟨cfg.lo, cfg.ex, h.length⟩ b) = true := hw
  have hbl := blockOf_lt hb
  by_cases hlt : k < L.length
  · obtain ⟨x, hx⟩ : ∃ x, L[k] = x := ⟨_, rfl⟩
    have hr := Int.tmod_lt_of_pos x (b := n) (by omega)
    have hr2 := Int.lt_tmod_of_pos x (b := n) (by omega)
    refine ⟨(if x.tmod n < 0 then x.tmod n + n else x.tmod n).toNat, k + 1, by split <;> omega, by omega, call1 rfl hp Try.func13 rfl rfl rfl ?_⟩
    simp
    refine wC_draw 9 (by kernel_rfl) ?_
    have hk1 : ¬ L.length ≤ k := by omega
    have hn1 : ¬ n < 1 := by omega
    have hn0 : ¬ n = 0 := by omega
    simp [hb, hk1, hn1]
    refine wC_draw 11 (by kernel_rfl) ?_
    simp (disch := first | omega | (simp; done) | (simp; omega)) [hb, hx, hw', wrap64]
    by_cases hneg : x.tmod n < 0
    · simp (disch := first | omega | (simp; done) | (simp; omega)) [hneg, wrap64]
      exact ⟨by omega, List.take_of_length_le (by simp)⟩
    · simp (disch := first | omega | (simp; done) | (simp; omega)) [hneg]
      exact ⟨by omega, List.take_of_length_le (by simp)⟩
  · refine ⟨0, k, by omega, hk, ?_⟩
    rw [set_same hb]
    refine call1 rfl hp Try.func13 rfl rfl rfl ?_
    have hk1 : L.length ≤ k := by omega
    simp
    refine wC_draw 9 (by kernel_rfl) ?_
    simp [hb, hk1]
@[simp] theorem cv3_21 {h : Heap} {k : IntKind} {n : Int} : convV Try.prog h 3 21 (.int k n) = some (.int .i32 (IntKind.i32.wrap n), h) := by kernel_rfl
theorem chance_ok (hp : ∀ f, f ≠ 17 ∧ f ≠ 82 ∧ f ≠ 15 ∧ f ≠ 51 ∧ f ≠ 27 → prim f = none) (L : List Int) (k : Nat) (hL : L.length ≤ 4000) (hk : k ≤ L.length) (n : Int) (hn : 1 ≤ n) (hn2 : n ≤ 4000000000) (b : Nat) (hb : blockOf h b = some [il L, .int .i64 k]) (hw : cfg.wr b = true) :
    ∃ (v : Bool) (k' : Nat), k' ≤ L.length ∧ callM md (K prim (d + 2)) cfg 73 [.ptr b 0, .int .i64 n] h = some (.bool v, h.set b (some [il L, .int .i64 k'])) := by
  obtain ⟨v, k', hv, hk', hN⟩ := N_ok (prim := prim) d ⟨cfg.lo, cfg.ex, h.length⟩ h (hp 13 (by decide)) L k hL hk n hn hn2 b hb hw
  refine ⟨decide ((v : Int) = n - 1), k', hk', call1 rfl (hp 73 (by decide)) Try.func73 rfl rfl rfl ?_⟩
  simp (disch := omega) [hN, wrap64]
  exact List.take_of_length_le (by simp)
theorem raw_ok (hp : ∀ f, f ≠ 17 ∧ f ≠ 82 ∧ f ≠ 15 ∧ f ≠ 51 ∧ f ≠ 27 → prim f = none) (L : List Int) (k : Nat) (hL : L.length ≤ 4000) (hk : k ≤ L.length) (b : Nat) (hb : blockOf h b = some [il L, .int .i64 k]) (hw : cfg.wr b = true) :
    ∃ (v : Int) (k' : Nat), k' ≤ L.length ∧ callM md (K prim (d + 1)) cfg 74 [.ptr b 0] h = some (.int .i64 v, h.set b (some [il L, .int .i64 k'])) := by
  have hw' : (Cfg.wr ⟨cfg.lo, cfg.ex, h.length⟩ b) = true := hw
  have hbl := blockOf_lt hb
  by_cases hlt : k < L.length
  · obtain ⟨x, hx⟩ : ∃ x, L[k]? = some x := ⟨L[k], List.getElem?_eq_getElem hlt⟩
    refine ⟨x, k + 1, by omega, call1 rfl (hp 74 (by decide)) Try.func74 rfl rfl rfl ?_⟩
    have hk1 : ¬ L.length ≤ k := by omega
    simp
    refine wC_draw 9 (by kernel_rfl) ?_
    simp (disch := omega) [hb, hk1, hw', wrap64]
    refine wC_draw 9 (by kernel_rfl) ?_
    have e1 : ((k : Int) + 1 - 1).toNat = k := by omega
    simp (disch := omega) [hx, wrap64, -getElem?_pos]
    exact List.take_of_length_le (by simp)
  · refine ⟨0, k, hk, ?_⟩
    rw [set_same hb]
    refine call1 rfl (hp 74 (by decide)) Try.func74 rfl rfl rfl ?_
    have hk1 : L.length ≤ k := by omega
    simp
    refine wC_draw 9 (by kernel_rfl) ?_
    simp [hb, hk1]
set_option maxRecDepth 100000 in
theorem alphabet_ok (hp : prim 72 = none) : ∃ A : List Int, A.length = 89 ∧ ∀ cfg h, callM md (K prim (d + 1)) cfg 72 [] h = some (rl A, h) := by
  refine ⟨alph, rfl, fun cfg h => ?_⟩
  refine call0 rfl hp Try.func72 rfl rfl rfl (by simp) ?_
  simp
  exact frz_ints (d := 4) (k := .i32) (l := alph) rfl (Nat.zero_le _) rfl
theorem rune_ok (hp : ∀ f, f ≠ 17 ∧ f ≠ 82 ∧ f ≠ 15 ∧ f ≠ 51 ∧ f ≠ 27 → prim f = none) (L : List Int) (k : Nat) (hL : L.length ≤ 4000) (hk : k ≤ L.length) (b : Nat) (hb : blockOf h b = some [il L, .int .i64 k]) (hw : cfg.wr b = true) :
    ∃ (v : Int) (k' : Nat), k' ≤ L.length ∧ callM md (K prim (d + 3)) cfg 48 [.ptr b 0] h = some (.int .i32 v, h.set b (some [il L, .int .i64 k'])) := by
  have hbl := blockOf_lt hb
  obtain ⟨A, hA, hal⟩ := alphabet_ok (prim := prim) (d + 1) (hp 72 (by decide))
  obtain ⟨c, k1, hk1, hC⟩ := chance_ok (prim := prim) d ⟨cfg.lo, cfg.ex, h.length⟩ h hp L k hL hk 40 (by omega) (by omega) b hb hw
  have hb1 : blockOf (h.set b (some [il L, .int .i64 k1])) b = some [il L, .int .i64 k1] := by simp [hbl]
  cases c
  · obtain ⟨v, k2, hv, hk2, hN⟩ := N_ok (prim := prim) (d + 1) ⟨cfg.lo, cfg.ex, h.length⟩ (h.set b (some [il L, .int .i64 k1])) (hp 13 (by decide)) L k1 hL hk1 89 (by omega) (by omega) b hb1 hw
    obtain ⟨x, hx⟩ : ∃ x, A[v]? = some x := ⟨A[v], List.getElem?_eq_getElem (by omega)⟩
    refine ⟨x, k2, hk2, call1 rfl (hp 48 (by decide)) Try.func48 rfl rfl rfl ?_⟩
    simp at hN
    simp (disch := omega) [hal, hC, hA, hN, hx, -getElem?_pos]
    exact List.take_of_length_le (by simp)
  · obtain ⟨v, k2, hk2, hR⟩ := raw_ok (prim := prim) (d + 1) ⟨cfg.lo, cfg.ex, h.length⟩ (h.set b (some [il L, .int .i64 k1])) hp L k1 hL hk1 b hb1 hw
    refine ⟨IntKind.i32.wrap v, k2, hk2, call1 rfl (hp 48 (by decide)) Try.func48 rfl rfl rfl ?_⟩
    simp at hR
    simp (disch := omega) [hal, hC, hR]
    exact List.take_of_length_le (by simp)
set_option maxHeartbeats 4000000 in
theorem text_ok (hp : ∀ f, f ≠ 17 ∧ f ≠ 82 ∧ f ≠ 15 ∧ f ≠ 51 ∧ f ≠ 27 → prim f = none) (L : List Int) (k : Nat) (hL : L.length ≤ 4000) (hk : k ≤ L.length) (n : Nat) (hn : n ≤ 1000) (b : Nat) (hb : blockOf h b = some [il L, .int .i64 k]) (hw : cfg.wr b = true) (hlo : cfg.lo ≤ h.length) :
    ∃ (l : List Int) (k' : Nat), l.length ≤ n ∧ k' ≤ L.length ∧ callM md (K prim (d + 4)) cfg 18 [.ptr b 0, .int .i64 n] h = some (rl l, h.set b (some [il L, .int .i64 k'])) := by
  have hw' : (Cfg.wr ⟨cfg.lo, cfg.ex, h.length⟩ b) = true := hw
  have hbl := blockOf_lt hb
  obtain ⟨v, k1, hv, hk1, hN⟩ := N_ok (prim := prim) (d + 2) ⟨cfg.lo, cfg.ex, h.length⟩ h (hp 13 (by decide)) L k hL hk (n + 1) (by omega) (by omega) b hb hw'
  have hb1 : blockOf (h.set b (some [il L, .int .i64 k1])) b = some [il L, .int .i64 k1] := by simp [hbl]
  obtain ⟨few, k2, hfew, hk2, hN2⟩ := N_ok (prim := prim) (d + 2) ⟨cfg.lo, cfg.ex, h.length⟩ (h.set b (some [il L, .int .i64 k1])) (hp 13 (by decide)) L k1 hL hk1 3 (by omega) (by omega) b hb1 hw'
  simp at hN2
  have hc := call1x (md := md) (n := 10000) (d := d + 3) (cfg := cfg) (h := h) (args := [.ptr b 0, .int .i64 n]) (Post := fun r h2 => ∃ (l : List Int) (k' : Nat), l.length ≤ n ∧ k' ≤ L.length ∧ r = rl l ∧ h2 = h.set b (some [il L, .int .i64 k'])) rfl (hp 18 (by decide)) Try.func18 rfl rfl rfl ?_
  · obtain ⟨r, h2, h3, l, k', h4, h5, rfl, rfl⟩ := hc
    exact ⟨l, k', h4, h5, h3⟩
  have hu0 : Upd h b [il L, .int .i64 k2] (h.set b (some [il L, .int .i64 k2])) := (Upd.refl hb).set
  simp (disch := omega) [hN, hN2, wrap64]
  refine wC_loop (fun m fr H => ∃ (i kk : Nat) (sv : V) (S : List Int), i ≤ 5 ∧ m = 5 - i ∧ kk ≤ L.length ∧ S.length = i ∧ Upd h b [il L, .int .i64 kk] H ∧ OwnL H h.length .i32 sv S ∧
      Slots 47 [(0, .ptr b 0), (5, .int .i64 v), (6, .nils), (7, .int .i64 few), (8, sv), (9, .int .i64 i)] fr) (m := 5) (by omega) ⟨0, k2, .nils, [], by omega, by omega, hk2, rfl, hu0, .inl ⟨rfl, rfl⟩, by simp⟩ ?_
  rintro m fr H ⟨i, kk, sv, S, hi, rfl, hkk, hS, hu, hown, hs⟩
  obtain ⟨j, rfl⟩ := hs.ex
  clear hs
  by_cases hlt : i < 5
  · obtain ⟨x, k3, hk3, hR⟩ := rune_ok (prim := prim) d ⟨cfg.lo, cfg.ex, h.length⟩ H hp L kk hL hkk b (hu.block hbl rfl) hw'
    have hu1 : Upd h b [il L, .int .i64 k3] (H.set b (some [il L, .int .i64 k3])) := hu.set
    have hlt' : (i : Int) < 5 := by omega
    have hbn : blockOf (H.set b (some [il L, .int .i64 k3]) ++ [some [.int .i32 x]]) H.length = some [.int .i32 x] := by rw [blockOf_len' (by simp)]; rfl
    simp (disch := omega) [hlt', hR, hbn]
    refine wS_app (l := S) (lo := h.length) (y := 4) ?_ ?_ ?_ ?_ ?_ ?_
    · refine hown.mono fun c h1 h2 => ?_
      rw [blockOf_left (by simpa using h2), blockOf_set_ne' (by omega)]
    · exact hlo
    · have := hu.2; simp; omega
    · rw [hS]; omega
    · rw [hS]; omega
    · intro d' h' ho' htk hlen'
      simp (disch := omega) [wrap64]
      exact Rnd_of (m' := 5 - (i + 1)) (by omega) ⟨i + 1, k3, d', S ++ [x], by omega, rfl, hk3, by simp [hS], (hu1.push _).of_take htk hlen', ho', by simp⟩
  · have hlt' : ¬ (i : Int) < 5 := by omega
    have hi5 : i = 5 := by omega
    subst hi5
    simp
    refine wC_loop (fun m fr H => ∃ (q kk : Nat) (lv : V) (Ls : List Int), q ≤ v ∧ m = v - q ∧ kk ≤ L.length ∧ Ls.length = q ∧ Upd h b [il L, .int .i64 kk] H ∧ OwnL H h.length .i32 sv S ∧ OwnL H h.length .i32 lv Ls ∧ Dj sv lv ∧
      Slots 47 [(0, .ptr b 0), (5, .int .i64 v), (6, lv), (7, .int .i64 few), (8, sv), (10, .int .i64 q)] fr) (m := v) (by omega) ⟨0, kk, .nils, [], by omega, by omega, hkk, rfl, hu, hown, .inl ⟨rfl, rfl⟩, Dj.nils, by simp⟩ ?_
    clear hu hown hkk
    rintro m fr H ⟨q, kk, lv, Ls, hq, rfl, hkk, hLs, hu, hown, howl, hdj, hs⟩
    obtain ⟨j, rfl⟩ := hs.ex
    clear hs
    by_cases hqv : q < v
    · by_cases hf : 0 < few
      · obtain ⟨u, k3, hu5, hk3, hN3⟩ := N_ok (prim := prim) (d + 2) ⟨cfg.lo, cfg.ex, h.length⟩ H (hp 13 (by decide)) L kk hL hkk 5 (by omega) (by omega) b (hu.block hbl rfl) hw'
        obtain ⟨x, hx⟩ : ∃ x, S[u]? = some x := ⟨S[u], List.getElem?_eq_getElem (by omega)⟩
        rcases hown with ⟨rfl, rfl⟩ | ⟨sb, rfl, hsb1, hsb2⟩
        · simp at hx
        have hown' : OwnL H h.length .i32 (.sl sb 0 S.length S.length 1) S := .inr ⟨sb, rfl, hsb1, hsb2⟩
        have hsl : sb < H.length := blockOf_lt hsb2
        have hu1 : Upd h b [il L, .int .i64 k3] (H.set b (some [il L, .int .i64 k3])) := hu.set
        have hbs : b ≠ sb := by omega
        have hbk : blockOf (H.set b (some [il L, .int .i64 k3])) sb = some (S.map (V.int .i32)) := by rw [blockOf_set_ne' hbs]; exact hsb2
        have hbn : blockOf (H.set b (some [il L, .int .i64 k3]) ++ [some [.int .i32 x]]) H.length = some [.int .i32 x] := by rw [blockOf_len' (by simp)]; rfl
        simp (disch := omega) [hqv, hf, hN3, hbk, hx, hbn, -getElem?_pos]
        refine wS_app2 (l := Ls) (lo := h.length) (y := 4) ?_ ?_ ?_ ?_ ?_ ?_
        · refine howl.mono fun c h1 h2 => ?_
          rw [blockOf_left (by simpa using h2), blockOf_set_ne' (by omega)]
        · exact hlo
        · have := hu.2; simp; omega
        · rw [hLs]; omega
        · rw [hLs]; omega
        · intro d' h' ho' htk hlen' _ hoth
          obtain ⟨hd1, hd2⟩ := hoth _ hdj (fun c hc => by cases hc; simp; omega)
          simp (disch := omega) [wrap64]
          refine Rnd_of (m' := v - (q + 1)) (by omega) ⟨q + 1, k3, d', Ls ++ [x], by omega, rfl, hk3, by simp [hLs], (hu1.push _).of_take htk hlen', ?_, ho', hd1, by simp⟩
          refine .inr ⟨sb, rfl, hsb1, ?_⟩
          rw [hd2 sb rfl, blockOf_left (by simpa using hsl)]
          exact hbk
      · obtain ⟨x, k3, hk3, hR⟩ := rune_ok (prim := prim) d ⟨cfg.lo, cfg.ex, h.length⟩ H hp L kk hL hkk b (hu.block hbl rfl) hw'
        have hu1 : Upd h b [il L, .int .i64 k3] (H.set b (some [il L, .int .i64 k3])) := hu.set
        have hbn : blockOf (H.set b (some [il L, .int .i64 k3]) ++ [some [.int .i32 x]]) H.length = some [.int .i32 x] := by rw [blockOf_len' (by simp)]; rfl
        simp (disch := omega) [hqv, hf, hR, hbn]
        refine wS_app2 (l := Ls) (lo := h.length) (y := 4) ?_ ?_ ?_ ?_ ?_ ?_
        · refine howl.mono fun c h1 h2 => ?_
          rw [blockOf_left (by simpa using h2), blockOf_set_ne' (by omega)]
        · exact hlo
        · have := hu.2; simp; omega
        · rw [hLs]; omega
        · rw [hLs]; omega
        · intro d' h' ho' htk hlen' _ hoth
          obtain ⟨hd1, hd2⟩ := hoth sv hdj (fun c hc => by have := (hown.blk hc).2; simp; omega)
          simp (disch := omega) [wrap64]
          refine Rnd_of (m' := v - (q + 1)) (by omega) ⟨q + 1, k3, d', Ls ++ [x], by omega, rfl, hk3, by simp [hLs], (hu1.push _).of_take htk hlen', ?_, ho', hd1, by simp⟩
          refine hown.of_blk fun c hc => ?_
          have := hown.blk hc
          rw [hd2 c hc, blockOf_left (by simpa using this.2), blockOf_set_ne' (by omega)]
    · simp [hqv]
      refine ⟨_, ?_, Ls, by omega, kk, hkk, rfl, hu.1⟩
      rcases howl with ⟨rfl, rfl⟩ | ⟨lb, rfl, hlb1, hlb2⟩
      · rfl
      · exact frz_ints (d := 4) hlb2 hlb1 rfl
end
end Bi
end Go.Ab
/- The law BidiExplicit. -/
namespace Go.Ab
open Go.Proofs
namespace Bi
def alpB : List Int := [97, 1488, 1575, 49, 1633, 32, 40, 41, 91, 93, 8234, 8235, 8236, 8237, 8238, 8294, 8295, 8296, 8297, 769, 43, 44, 36, 8205, 10, 9]
theorem alpB_ok (d : Nat) (cfg : Cfg) (h : Heap) : callM md (K pL (d + 1)) cfg 11 [] h = some (rl alpB, h) := by
  refine call0 rfl (pL_none 11 (by decide)) Try.func11 rfl rfl rfl (by simp) ?_
  simp
  exact frz_ints (d := 4) (k := .i32) (l := alpB) rfl (Nat.zero_le _) rfl
set_option maxHeartbeats 4000000 in
set_option maxRecDepth 100000 in
theorem explicitL_ok (d : Nat) (l : List Int) (base : Int) : ∃ v h', callN Try.prog md pL 10000 (d + 8) ⟨0, none, 0⟩ 3 [il l, .int .i64 base] [] = some (v, h') ∧ v = .bool true := by
  have hA := fun cfg h => awakeL (d + 6) cfg h
  have hAl := fun cfg h => alpB_ok (d + 6) cfg h
  have hNw := fun cfg h => new_ok (prim := pL) (d + 6) cfg h (pL_none 12 (by decide)) l
  have hL : (l.take 4000).length ≤ 4000 := by simp; omega
  refine callN_of (R := fun r _ => r = .bool true) (pL_none 3 (by decide)) Try.func3 rfl rfl rfl ?_
  by_cases hn : 60 < l.length
  · have hnI : (60 : Int) < l.length := by omega
    simp (disch := omega) [hnI]
  have hnI : ¬ (60 : Int) < l.length := by omega
  simp (disch := omega) [hnI, hAl, hNw]
  generalize hLL : l.take 4000 = L at *
  refine wC_loop (fun m fr H => ∃ (i kk : Nat) (v : V) (t : List Int) (Z : Heap), i ≤ l.length ∧ m = l.length - i ∧ kk ≤ L.length ∧ t.length = i ∧ H = some [il L, .int .i64 kk] :: Z ∧
    Hp H [some [il L, .int .i64 kk]] [(1, v, t.map (V.int .i32))] ∧
    Slots 41 [(0, il l), (1, .int .i64 base), (5, rl alpB), (6, .ptr 0 0), (7, v), (8, .int .i64 i)] fr) (m := l.length) (by omega) ⟨0, 0, .nils, [], [], by omega, by omega, by omega, rfl, rfl, Hp.start.nil 1, by simp⟩ ?_
  rintro m fr H ⟨i, kk, v, t, Z, hi1, rfl, hkk, htl, rfl, hhp, hs⟩
  obtain ⟨j, rfl⟩ := hs.ex
  clear hs
  have hal : alpB.length = 26 := rfl
  by_cases hlt : i < l.length
  · have hI1 : (i : Int) < l.length := by omega
    obtain ⟨u, k', hu, hk', hN⟩ := N_ok (prim := pL) (d + 6) ⟨0, none, 0⟩ (some [il L, .int .i64 kk] :: Z) (pL_none 13 (by decide)) L kk hL hkk 26 (by omega) (by omega) 0 rfl rfl
    simp only [List.set_cons_zero] at hN
    obtain ⟨x, hx⟩ : ∃ x, alpB[u]? = some x := ⟨_, List.getElem?_eq_getElem (by omega)⟩
    have hp1 := hhp.set (b := 0) (by simp) (some [il L, .int .i64 k'])
    simp only [List.set_cons_zero] at hp1
    have hp2 := hp1.push [some [V.int .i32 x]]
    generalize alpB = AP at *
    simp (disch := omega) [hI1, hN, hal, hx, -getElem?_pos]
    simp only [List.cons_append] at hp2
    refine wS_appO (m := 1) hp2 (by simp) rfl rfl (by omega) (by omega) (by simp; omega) (by simp; omega) ?_
    intro v' H' hhp2
    obtain ⟨Z2, hZ2⟩ := hp_lit hhp2
    simp only [List.cons_append, List.nil_append] at hZ2
    subst hZ2
    simp (disch := omega) [wrap64]
    exact Rnd_of (m' := l.length - (i + 1)) (by omega) ⟨i + 1, k', v', t ++ [x], Z2, by omega, by omega, hk', by simp [htl], rfl, by simpa using hhp2, by simp (disch := omega)⟩
  · obtain rfl : i = l.length := by omega
    have hfv : frzA (some [il L, .int .i64 kk] :: Z) v = some (rl t) := hhp.head.frzA
    obtain ⟨r, h1, h2, h3, h4⟩ := levs_ok (d + 1) t (by omega) base
    have e1 := fun cfg => h1 cfg (some [il L, .int .i64 kk] :: Z) [v, .int .i64 base] (by simp [List.mapM_cons, hfv])
    have e2 := fun cfg => h2 cfg (some [il L, .int .i64 kk] :: Z) [v, .int .i64 base] (by simp [List.mapM_cons, hfv])
    have hE : ∀ cfg H, callM md (K pL (d + 6 + 1)) cfg 14 [il r, il r] H = some (.bool true, H) := fun cfg H => by
      have := equal_ok (prim := pL) (d + 6) cfg H (pL_none 14 (by decide)) r r (by omega) (args := [il r, il r]) (by simp)
      simpa using this
    generalize alpB = AP at *
    simp (disch := omega) [e1, e2, hE, hA]
end Bi
end Go.Ab
/- The law BidiDeep. -/
namespace Go.Ab
open Go.Proofs
namespace Bi
set_option maxHeartbeats 4000000 in
set_option maxRecDepth 100000 in
theorem deepL_ok (d : Nat) (n kinds : Int) (l : List Int) : ∃ v h', callN Try.prog md pL 10000 (d + 8) ⟨0, none, 0⟩ 4 [.int .i64 n, .int .i64 kinds, il l] [] = some (v, h') ∧ v = .bool true := by
  have hA := fun cfg h => awakeL (d + 6) cfg h
  have hAl := fun cfg h => alpB_ok (d + 6) cfg h
  have hNw := fun cfg h => new_ok (prim := pL) (d + 6) cfg h (pL_none 12 (by decide)) l
  have hL : (l.take 4000).length ≤ 4000 := by simp; omega
  refine callN_of (R := fun r _ => r = .bool true) (pL_none 4 (by decide)) Try.func4 rfl rfl rfl ?_
  by_cases hn0 : n < 0
  · simp (disch := omega) [hn0]
  by_cases hn1 : 200 < n
  · simp (disch := omega) [hn0, hn1]
  by_cases hl : 30 < l.length
  · have hlI : (30 : Int) < l.length := by omega
    simp (disch := omega) [hn0, hn1, hlI]
  have hlI : ¬ (30 : Int) < l.length := by omega
  obtain ⟨n, rfl⟩ : ∃ k : Nat, n = k := ⟨n.toNat, by omega⟩
  simp (disch := omega) [hn0, hn1, hlI, hAl]
  obtain ⟨OP, hOP⟩ : ∃ OP : List Int, OP = [8234, 8235, 8237, 8238, 8294, 8295, 8296] := ⟨_, rfl⟩
  have hopl : OP.length = 7 := by rw [hOP]; rfl
  rw [show [V.int .i32 8234, V.int .i32 8235, V.int .i32 8237, V.int .i32 8238, V.int .i32 8294, V.int .i32 8295, V.int .i32 8296] = OP.map (V.int .i32) by rw [hOP]; rfl]
  clear hOP
  generalize hLL : l.take 4000 = L at *
  have hal : alpB.length = 26 := rfl
  generalize alpB = AP at *
  refine wC_loop (fun m fr H => ∃ (i : Nat) (v : V) (t : List Int) (Z : Heap), i ≤ n ∧ m = n - i ∧ t.length = i ∧ H = some (OP.map (V.int .i32)) :: Z ∧
    Hp H [some (OP.map (V.int .i32))] [(1, v, t.map (V.int .i32))] ∧
    Slots 70 [(0, .int .i64 n), (1, .int .i64 kinds), (2, il l), (7, rl AP), (8, .sl 0 0 7 7 1), (9, v), (10, .int .i64 i)] fr) (m := n) (by omega) ⟨0, .nils, [], [], by omega, by omega, rfl, rfl, Hp.start.nil 1, by simp⟩ ?_
  rintro m fr H ⟨i, v, t, Z, hi1, rfl, htl, rfl, hhp, hs⟩
  obtain ⟨j, rfl⟩ := hs.ex
  clear hs
  have hb0 : ∀ Y : Heap, blockOf (some (OP.map (V.int .i32)) :: Y) 0 = some (OP.map (V.int .i32)) := fun Y => by simp [blockOf]
  by_cases hlt : i < n
  · have hI1 : (i : Int) < n := by omega
    have htm : (i : Int).tmod 60 = ((i % 60 : Nat) : Int) := by rw [Int.tmod_eq_emod_of_nonneg (by omega)]; omega
    have htw : IntKind.u64.wrap ((i % 60 : Nat) : Int) = ((i % 60 : Nat) : Int) := wrapu64 (by omega) (by omega)
    have htn : ¬ ((i % 60 : Nat) : Int) < 0 := by omega
    generalize i % 60 = q at htm htw htn
    have hU : ∀ y : Int, ∃ u : Nat, u < 7 ∧ (IntKind.u64.wrap y).tmod 7 = u := fun y => by
      have h0 : 0 ≤ IntKind.u64.wrap y := by rw [IntKind.wrap_u64]; exact Int.emod_nonneg _ (by omega)
      exact ⟨((IntKind.u64.wrap y).tmod 7).toNat, by rw [Int.tmod_eq_emod_of_nonneg h0]; omega, by rw [Int.tmod_eq_emod_of_nonneg h0]; omega⟩
    obtain ⟨u, hu, hU1⟩ := hU (kinds.fdiv (2 ^ min q IntKind.i64.bits))
    obtain ⟨x, hx⟩ : ∃ x, OP[u]? = some x := ⟨_, List.getElem?_eq_getElem (by omega)⟩
    have hp2 := hhp.push [some [V.int .i32 x]]
    simp (disch := omega) [hI1, htm, htw, hU1, hb0, hx, -getElem?_pos]
    simp only [List.cons_append] at hp2
    refine wS_appO (m := 1) hp2 (by simp) rfl rfl (by omega) (by omega) (by simp; omega) (by simp; omega) ?_
    intro v' H' hhp2
    obtain ⟨Z2, hZ2⟩ := hp_lit hhp2
    simp only [List.cons_append, List.nil_append] at hZ2
    subst hZ2
    simp (disch := omega) [wrap64]
    exact Rnd_of (m' := n - (i + 1)) (by omega) ⟨i + 1, v', t ++ [x], Z2, by omega, by omega, by simp [htl], rfl, by simpa using hhp2, by simp (disch := omega)⟩
  · obtain rfl : i = n := by omega
    simp (disch := omega) [hNw]
    obtain ⟨B, hB⟩ : ∃ B, B = (some (OP.map (V.int .i32)) :: Z).length := ⟨_, rfl⟩
    have hhp0 := (hhp.new (n := 1) (k := 2) (cs := [il L, .int .i64 ((0 : Nat) : Int)]) rfl rfl []).swap
    have hB' : Z.length + 1 = B := by rw [hB]; rfl
    simp only [List.length_cons, List.cons_append, hB'] at hhp0 ⊢
    clear hB hb0 hhp
    refine wC_loop (fun m fr H => ∃ (q kk : Nat) (v : V) (t : List Int), q ≤ l.length ∧ m = l.length - q ∧ kk ≤ L.length ∧ t.length = i + q ∧
      Hp H [some (OP.map (V.int .i32))] [(1, v, t.map (V.int .i32)), (2, .sl B 0 1 1 2, [il L, .int .i64 (kk : Int)])] ∧
      Slots 70 [(2, il l), (7, rl AP), (9, v), (11, .ptr B 0), (12, .int .i64 q)] fr) (m := l.length) (by omega) ⟨0, 0, v, t, by omega, by omega, by omega, by omega, by simpa using hhp0, by simp⟩ ?_
    rintro m fr H ⟨q, kk, v, t, hq1, rfl, hkk, htl, hhp, hs⟩
    obtain ⟨j2, rfl⟩ := hs.ex
    clear hs hhp0
    have hBb : blockOf H B = some [il L, .int .i64 (kk : Int)] := by
      rcases hhp.snd with ⟨h, _⟩ | ⟨b', n', h1, _, _, h2⟩
      · cases h
      · cases h1; exact h2
    by_cases hlt2 : q < l.length
    · have hI1 : (q : Int) < l.length := by omega
      obtain ⟨u, k', hu, hk', hN⟩ := N_ok (prim := pL) (d + 6) ⟨0, none, 0⟩ H (pL_none 13 (by decide)) L kk hL hkk 26 (by omega) (by omega) B hBb (by simp [Cfg.wr])
      obtain ⟨x, hx⟩ : ∃ x, AP[u]? = some x := ⟨_, List.getElem?_eq_getElem (by omega)⟩
      have hp1 := (hhp.swap.setO (cs' := [il L, .int .i64 (k' : Int)]) rfl rfl).swap
      have hp2 := hp1.push [some [V.int .i32 x]]
      have hbn : ∀ X, blockOf (H.set B X ++ [some [V.int .i32 x]]) H.length = some [V.int .i32 x] := fun X => bA rfl
      simp (disch := omega) [hI1, hN, hal, hx, hbn, -getElem?_pos]
      refine wS_appO (m := 1) hp2 (by simp) rfl rfl (by omega) (by omega) (by simp; omega) (by simp; omega) ?_
      intro v' H' hhp2
      simp (disch := omega) [wrap64]
      exact Rnd_of (m' := l.length - (q + 1)) (by omega) ⟨q + 1, k', v', t ++ [x], by omega, by omega, hk', by simp [htl]; omega, by simpa using hhp2, by simp (disch := omega)⟩
    · obtain rfl : q = l.length := by omega
      have hfv : frzA H v = some (rl t) := hhp.head.frzA
      obtain ⟨r, h1, h2, h3, h4⟩ := levs_ok (d + 1) t (by omega) (-1)
      have e1 := fun cfg => h1 cfg H [v, .int .i64 (-1)] (by simp [List.mapM_cons, hfv])
      have e2 := fun cfg => h2 cfg H [v, .int .i64 (-1)] (by simp [List.mapM_cons, hfv])
      have hE : ∀ cfg H, callM md (K pL (d + 6 + 1)) cfg 14 [il r, il r] H = some (.bool true, H) := fun cfg H => by
        have := equal_ok (prim := pL) (d + 6) cfg H (pL_none 14 (by decide)) r r (by omega) (args := [il r, il r]) (by simp)
        simpa using this
      simp (disch := omega) [e1, e2, hE, hA]
end Bi
end Go.Ab
