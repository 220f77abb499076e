/- Several texts of this proof in one. -/
import Derived.Test.YtcedojbifnangaaBiG
import Derived.Test.YtcedojbifnangaaBiPrim
import Derived.Test.YtcedojbifnangaaBiIso4
/- The generator: new, N, texts. -/
namespace Go.Ab
open Go.Proofs
namespace Bi
def alph : List Int := [97, 98, 102, 105, 88, 49, 50, 32, 32, 46, 44, 45, 39, 34, 40, 41, 91, 93, 60, 33, 58, 95, 37, 43, 47, 9, 10, 13, 0x0B, 0x85, 0xA0, 0xAD, 0xB7, 0x301, 0x5D0, 0x5D1, 0x5BE, 0x5B0, 0x600, 0x627, 0x628, 0x633, 0x640, 0x64B, 0x661, 0x66A, 0x60C, 0x61C, 0x6F1, 0x903, 0x905, 0x93C, 0x1100, 0x1161, 0x11A8, 0xAC00, 0xAC01, 0x2009, 0x200B, 0x200C, 0x200D, 0x200E, 0x200F, 0x2019, 0x2028, 0x2029, 0x202A, 0x202B, 0x202C, 0x202D, 0x202E, 0x2060, 0x2066, 0x2067, 0x2068, 0x2069, 0x2600, 0x3000, 0x3001, 0x300C, 0x300D, 0x30A2, 0x4E00, 0xFE0F, 0x1F1E6, 0x1F1E7, 0x1F3FB, 0x1F468, 0x10FFFF]

section
variable {prim : FuncId → Option Prim} (d : Nat) (cfg : Cfg) (h : Heap)
theorem new_ok (hp : prim 12 = none) (l : List Int) : callM md (K prim (d + 1)) cfg 12 [il l] h = some (.ptr h.length 0, h ++ [some [il (l.take 4000), .int .i64 0]]) := by
  refine call2 rfl hp Try.func12 rfl rfl rfl ?_
  simp
  by_cases hl : 4000 < l.length
  · have hl' : (4000 : Int) < l.length := by omega
    simp (disch := first | omega | (simp; done) | (simp; omega)) [hl']
  · have hl' : ¬ (4000 : Int) < l.length := by omega
    simp [hl', List.take_of_length_le (show l.length ≤ 4000 by omega)]

theorem N_ok (hp : prim 13 = none) (L : List Int) (k : Nat) (hL : L.length ≤ 4000) (hk : k ≤ L.length) (n : Int) (hn : 1 ≤ n) (hn2 : n ≤ 4000000000) (b : Nat) (hb : blockOf h b = some [il L, .int .i64 k]) (hw : cfg.wr b = true) :
    ∃ v k' : Nat, (v : Int) < n ∧ k' ≤ L.length ∧ callM md (K prim (d + 1)) cfg 13 [.ptr b 0, .int .i64 n] h = some (.int .i64 v, h.set b (some [il L, .int .i64 k'])) := by
  have hw' : (Cfg.wr ⟨cfg.lo, cfg.ex, h.length⟩ b) = true := hw
  have hbl := blockOf_lt hb
  by_cases hlt : k < L.length
  · obtain ⟨x, hx⟩ : ∃ x, L[k] = x := ⟨_, rfl⟩
    have hr := Int.tmod_lt_of_pos x (b := n) (by omega)
    have hr2 := Int.lt_tmod_of_pos x (b := n) (by omega)
    refine ⟨(if x.tmod n < 0 then x.tmod n + n else x.tmod n).toNat, k + 1, by split <;> omega, by omega, call1 rfl hp Try.func13 rfl rfl rfl ?_⟩
    simp
    refine wC_draw 9 (by kernel_rfl) ?_
    have hk1 : ¬ L.length ≤ k := by omega
    have hn1 : ¬ n < 1 := by omega
    have hn0 : ¬ n = 0 := by omega
    simp [hb, hk1, hn1]
    refine wC_draw 11 (by kernel_rfl) ?_
    simp (disch := first | omega | (simp; done) | (simp; omega)) [hb, hx, hw', wrap64]
    by_cases hneg : x.tmod n < 0
    · simp (disch := first | omega | (simp; done) | (simp; omega)) [hneg, wrap64]
      exact ⟨by omega, List.take_of_length_le (by simp)⟩
    · simp (disch := first | omega | (simp; done) | (simp; omega)) [hneg]
      exact ⟨by omega, List.take_of_length_le (by simp)⟩
  · refine ⟨0, k, by omega, hk, ?_⟩
    rw [set_same hb]
    refine call1 rfl hp Try.func13 rfl rfl rfl ?_
    have hk1 : L.length ≤ k := by omega
    simp
    refine wC_draw 9 (by kernel_rfl) ?_
    simp [hb, hk1]

@[simp] theorem cv3_21 {h : Heap} {k : IntKind} {n : Int} : convV Try.prog h 3 21 (.int k n) = some (.int .i32 (IntKind.i32.wrap n), h) := by kernel_rfl

theorem chance_ok (hp : ∀ f, f ≠ 17 ∧ f ≠ 82 ∧ f ≠ 15 → prim f = none) (L : List Int) (k : Nat) (hL : L.length ≤ 4000) (hk : k ≤ L.length) (n : Int) (hn : 1 ≤ n) (hn2 : n ≤ 4000000000) (b : Nat) (hb : blockOf h b = some [il L, .int .i64 k]) (hw : cfg.wr b = true) :
    ∃ (v : Bool) (k' : Nat), k' ≤ L.length ∧ callM md (K prim (d + 2)) cfg 73 [.ptr b 0, .int .i64 n] h = some (.bool v, h.set b (some [il L, .int .i64 k'])) := by
  obtain ⟨v, k', hv, hk', hN⟩ := N_ok (prim := prim) d ⟨cfg.lo, cfg.ex, h.length⟩ h (hp 13 (by decide)) L k hL hk n hn hn2 b hb hw
  refine ⟨decide ((v : Int) = n - 1), k', hk', call1 rfl (hp 73 (by decide)) Try.func73 rfl rfl rfl ?_⟩
  simp (disch := omega) [hN, wrap64]
  exact List.take_of_length_le (by simp)

theorem raw_ok (hp : ∀ f, f ≠ 17 ∧ f ≠ 82 ∧ f ≠ 15 → prim f = none) (L : List Int) (k : Nat) (hL : L.length ≤ 4000) (hk : k ≤ L.length) (b : Nat) (hb : blockOf h b = some [il L, .int .i64 k]) (hw : cfg.wr b = true) :
    ∃ (v : Int) (k' : Nat), k' ≤ L.length ∧ callM md (K prim (d + 1)) cfg 74 [.ptr b 0] h = some (.int .i64 v, h.set b (some [il L, .int .i64 k'])) := by
  have hw' : (Cfg.wr ⟨cfg.lo, cfg.ex, h.length⟩ b) = true := hw
  have hbl := blockOf_lt hb
  by_cases hlt : k < L.length
  · obtain ⟨x, hx⟩ : ∃ x, L[k]? = some x := ⟨L[k], List.getElem?_eq_getElem hlt⟩
    refine ⟨x, k + 1, by omega, call1 rfl (hp 74 (by decide)) Try.func74 rfl rfl rfl ?_⟩
    have hk1 : ¬ L.length ≤ k := by omega
    simp
    refine wC_draw 9 (by kernel_rfl) ?_
    simp (disch := omega) [hb, hk1, hw', wrap64]
    refine wC_draw 9 (by kernel_rfl) ?_
    have e1 : ((k : Int) + 1 - 1).toNat = k := by omega
    simp (disch := omega) [hx, wrap64, -getElem?_pos]
    exact List.take_of_length_le (by simp)
  · refine ⟨0, k, hk, ?_⟩
    rw [set_same hb]
    refine call1 rfl (hp 74 (by decide)) Try.func74 rfl rfl rfl ?_
    have hk1 : L.length ≤ k := by omega
    simp
    refine wC_draw 9 (by kernel_rfl) ?_
    simp [hb, hk1]

set_option maxRecDepth 100000 in
theorem alphabet_ok (hp : prim 72 = none) : ∃ A : List Int, A.length = 89 ∧ ∀ cfg h, callM md (K prim (d + 1)) cfg 72 [] h = some (rl A, h) := by
  refine ⟨alph, rfl, fun cfg h => ?_⟩
  refine call0 rfl hp Try.func72 rfl rfl rfl (by simp) ?_
  simp
  exact frz_ints (d := 4) (k := .i32) (l := alph) rfl (Nat.zero_le _) rfl

theorem rune_ok (hp : ∀ f, f ≠ 17 ∧ f ≠ 82 ∧ f ≠ 15 → prim f = none) (L : List Int) (k : Nat) (hL : L.length ≤ 4000) (hk : k ≤ L.length) (b : Nat) (hb : blockOf h b = some [il L, .int .i64 k]) (hw : cfg.wr b = true) :
    ∃ (v : Int) (k' : Nat), k' ≤ L.length ∧ callM md (K prim (d + 3)) cfg 48 [.ptr b 0] h = some (.int .i32 v, h.set b (some [il L, .int .i64 k'])) := by
  have hbl := blockOf_lt hb
  obtain ⟨A, hA, hal⟩ := alphabet_ok (prim := prim) (d + 1) (hp 72 (by decide))
  obtain ⟨c, k1, hk1, hC⟩ := chance_ok (prim := prim) d ⟨cfg.lo, cfg.ex, h.length⟩ h hp L k hL hk 40 (by omega) (by omega) b hb hw
  have hb1 : blockOf (h.set b (some [il L, .int .i64 k1])) b = some [il L, .int .i64 k1] := by simp [hbl]
  cases c
  · obtain ⟨v, k2, hv, hk2, hN⟩ := N_ok (prim := prim) (d + 1) ⟨cfg.lo, cfg.ex, h.length⟩ (h.set b (some [il L, .int .i64 k1])) (hp 13 (by decide)) L k1 hL hk1 89 (by omega) (by omega) b hb1 hw
    obtain ⟨x, hx⟩ : ∃ x, A[v]? = some x := ⟨A[v], List.getElem?_eq_getElem (by omega)⟩
    refine ⟨x, k2, hk2, call1 rfl (hp 48 (by decide)) Try.func48 rfl rfl rfl ?_⟩
    simp at hN
    simp (disch := omega) [hal, hC, hA, hN, hx, -getElem?_pos]
    exact List.take_of_length_le (by simp)
  · obtain ⟨v, k2, hk2, hR⟩ := raw_ok (prim := prim) (d + 1) ⟨cfg.lo, cfg.ex, h.length⟩ (h.set b (some [il L, .int .i64 k1])) hp L k1 hL hk1 b hb1 hw
    refine ⟨IntKind.i32.wrap v, k2, hk2, call1 rfl (hp 48 (by decide)) Try.func48 rfl rfl rfl ?_⟩
    simp at hR
    simp (disch := omega) [hal, hC, hR]
    exact List.take_of_length_le (by simp)
set_option maxHeartbeats 4000000 in
theorem text_ok (hp : ∀ f, f ≠ 17 ∧ f ≠ 82 ∧ f ≠ 15 → prim f = none) (L : List Int) (k : Nat) (hL : L.length ≤ 4000) (hk : k ≤ L.length) (n : Nat) (hn : n ≤ 1000) (b : Nat) (hb : blockOf h b = some [il L, .int .i64 k]) (hw : cfg.wr b = true) (hlo : cfg.lo ≤ h.length) :
    ∃ (l : List Int) (k' : Nat), l.length ≤ n ∧ k' ≤ L.length ∧ callM md (K prim (d + 4)) cfg 18 [.ptr b 0, .int .i64 n] h = some (rl l, h.set b (some [il L, .int .i64 k'])) := by
  have hw' : (Cfg.wr ⟨cfg.lo, cfg.ex, h.length⟩ b) = true := hw
  have hbl := blockOf_lt hb
  obtain ⟨v, k1, hv, hk1, hN⟩ := N_ok (prim := prim) (d + 2) ⟨cfg.lo, cfg.ex, h.length⟩ h (hp 13 (by decide)) L k hL hk (n + 1) (by omega) (by omega) b hb hw'
  have hb1 : blockOf (h.set b (some [il L, .int .i64 k1])) b = some [il L, .int .i64 k1] := by simp [hbl]
  obtain ⟨few, k2, hfew, hk2, hN2⟩ := N_ok (prim := prim) (d + 2) ⟨cfg.lo, cfg.ex, h.length⟩ (h.set b (some [il L, .int .i64 k1])) (hp 13 (by decide)) L k1 hL hk1 3 (by omega) (by omega) b hb1 hw'
  simp at hN2
  have hc := call1x (md := md) (n := 10000) (d := d + 3) (cfg := cfg) (h := h) (args := [.ptr b 0, .int .i64 n]) (Post := fun r h2 => ∃ (l : List Int) (k' : Nat), l.length ≤ n ∧ k' ≤ L.length ∧ r = rl l ∧ h2 = h.set b (some [il L, .int .i64 k'])) rfl (hp 18 (by decide)) Try.func18 rfl rfl rfl ?_
  · obtain ⟨r, h2, h3, l, k', h4, h5, rfl, rfl⟩ := hc
    exact ⟨l, k', h4, h5, h3⟩
  have hu0 : Upd h b [il L, .int .i64 k2] (h.set b (some [il L, .int .i64 k2])) := (Upd.refl hb).set
  simp (disch := omega) [hN, hN2, wrap64]
  refine wC_loop (fun m fr H => ∃ (i kk : Nat) (sv : V) (S : List Int), i ≤ 5 ∧ m = 5 - i ∧ kk ≤ L.length ∧ S.length = i ∧ Upd h b [il L, .int .i64 kk] H ∧ OwnL H h.length .i32 sv S ∧
      Slots 47 [(0, .ptr b 0), (5, .int .i64 v), (6, .nils), (7, .int .i64 few), (8, sv), (9, .int .i64 i)] fr) (m := 5) (by omega) ⟨0, k2, .nils, [], by omega, by omega, hk2, rfl, hu0, .inl ⟨rfl, rfl⟩, by simp⟩ ?_
  rintro m fr H ⟨i, kk, sv, S, hi, rfl, hkk, hS, hu, hown, hs⟩
  obtain ⟨j, rfl⟩ := hs.ex
  clear hs
  by_cases hlt : i < 5
  · obtain ⟨x, k3, hk3, hR⟩ := rune_ok (prim := prim) d ⟨cfg.lo, cfg.ex, h.length⟩ H hp L kk hL hkk b (hu.block hbl rfl) hw'
    have hu1 : Upd h b [il L, .int .i64 k3] (H.set b (some [il L, .int .i64 k3])) := hu.set
    have hlt' : (i : Int) < 5 := by omega
    have hbn : blockOf (H.set b (some [il L, .int .i64 k3]) ++ [some [.int .i32 x]]) H.length = some [.int .i32 x] := by rw [blockOf_len' (by simp)]; rfl
    simp (disch := omega) [hlt', hR, hbn]
    refine wS_app (l := S) (lo := h.length) (y := 4) ?_ ?_ ?_ ?_ ?_ ?_
    · refine hown.mono fun c h1 h2 => ?_
      rw [blockOf_left (by simpa using h2), blockOf_set_ne' (by omega)]
    · exact hlo
    · have := hu.2; simp; omega
    · rw [hS]; omega
    · rw [hS]; omega
    · intro d' h' ho' htk hlen'
      simp (disch := omega) [wrap64]
      exact Rnd_of (m' := 5 - (i + 1)) (by omega) ⟨i + 1, k3, d', S ++ [x], by omega, rfl, hk3, by simp [hS], (hu1.push _).of_take htk hlen', ho', by simp⟩
  · have hlt' : ¬ (i : Int) < 5 := by omega
    have hi5 : i = 5 := by omega
    subst hi5
    simp
    refine wC_loop (fun m fr H => ∃ (q kk : Nat) (lv : V) (Ls : List Int), q ≤ v ∧ m = v - q ∧ kk ≤ L.length ∧ Ls.length = q ∧ Upd h b [il L, .int .i64 kk] H ∧ OwnL H h.length .i32 sv S ∧ OwnL H h.length .i32 lv Ls ∧ Dj sv lv ∧
      Slots 47 [(0, .ptr b 0), (5, .int .i64 v), (6, lv), (7, .int .i64 few), (8, sv), (10, .int .i64 q)] fr) (m := v) (by omega) ⟨0, kk, .nils, [], by omega, by omega, hkk, rfl, hu, hown, .inl ⟨rfl, rfl⟩, Dj.nils, by simp⟩ ?_
    clear hu hown hkk
    rintro m fr H ⟨q, kk, lv, Ls, hq, rfl, hkk, hLs, hu, hown, howl, hdj, hs⟩
    obtain ⟨j, rfl⟩ := hs.ex
    clear hs
    by_cases hqv : q < v
    · by_cases hf : 0 < few
      · obtain ⟨u, k3, hu5, hk3, hN3⟩ := N_ok (prim := prim) (d + 2) ⟨cfg.lo, cfg.ex, h.length⟩ H (hp 13 (by decide)) L kk hL hkk 5 (by omega) (by omega) b (hu.block hbl rfl) hw'
        obtain ⟨x, hx⟩ : ∃ x, S[u]? = some x := ⟨S[u], List.getElem?_eq_getElem (by omega)⟩
        rcases hown with ⟨rfl, rfl⟩ | ⟨sb, rfl, hsb1, hsb2⟩
        · simp at hx
        have hown' : OwnL H h.length .i32 (.sl sb 0 S.length S.length 1) S := .inr ⟨sb, rfl, hsb1, hsb2⟩
        have hsl : sb < H.length := blockOf_lt hsb2
        have hu1 : Upd h b [il L, .int .i64 k3] (H.set b (some [il L, .int .i64 k3])) := hu.set
        have hbs : b ≠ sb := by omega
        have hbk : blockOf (H.set b (some [il L, .int .i64 k3])) sb = some (S.map (V.int .i32)) := by rw [blockOf_set_ne' hbs]; exact hsb2
        have hbn : blockOf (H.set b (some [il L, .int .i64 k3]) ++ [some [.int .i32 x]]) H.length = some [.int .i32 x] := by rw [blockOf_len' (by simp)]; rfl
        simp (disch := omega) [hqv, hf, hN3, hbk, hx, hbn, -getElem?_pos]
        refine wS_app2 (l := Ls) (lo := h.length) (y := 4) ?_ ?_ ?_ ?_ ?_ ?_
        · refine howl.mono fun c h1 h2 => ?_
          rw [blockOf_left (by simpa using h2), blockOf_set_ne' (by omega)]
        · exact hlo
        · have := hu.2; simp; omega
        · rw [hLs]; omega
        · rw [hLs]; omega
        · intro d' h' ho' htk hlen' _ hoth
          obtain ⟨hd1, hd2⟩ := hoth _ hdj (fun c hc => by cases hc; simp; omega)
          simp (disch := omega) [wrap64]
          refine Rnd_of (m' := v - (q + 1)) (by omega) ⟨q + 1, k3, d', Ls ++ [x], by omega, rfl, hk3, by simp [hLs], (hu1.push _).of_take htk hlen', ?_, ho', hd1, by simp⟩
          refine .inr ⟨sb, rfl, hsb1, ?_⟩
          rw [hd2 sb rfl, blockOf_left (by simpa using hsl)]
          exact hbk
      · obtain ⟨x, k3, hk3, hR⟩ := rune_ok (prim := prim) d ⟨cfg.lo, cfg.ex, h.length⟩ H hp L kk hL hkk b (hu.block hbl rfl) hw'
        have hu1 : Upd h b [il L, .int .i64 k3] (H.set b (some [il L, .int .i64 k3])) := hu.set
        have hbn : blockOf (H.set b (some [il L, .int .i64 k3]) ++ [some [.int .i32 x]]) H.length = some [.int .i32 x] := by rw [blockOf_len' (by simp)]; rfl
        simp (disch := omega) [hqv, hf, hR, hbn]
        refine wS_app2 (l := Ls) (lo := h.length) (y := 4) ?_ ?_ ?_ ?_ ?_ ?_
        · refine howl.mono fun c h1 h2 => ?_
          rw [blockOf_left (by simpa using h2), blockOf_set_ne' (by omega)]
        · exact hlo
        · have := hu.2; simp; omega
        · rw [hLs]; omega
        · rw [hLs]; omega
        · intro d' h' ho' htk hlen' _ hoth
          obtain ⟨hd1, hd2⟩ := hoth sv hdj (fun c hc => by have := (hown.blk hc).2; simp; omega)
          simp (disch := omega) [wrap64]
          refine Rnd_of (m' := v - (q + 1)) (by omega) ⟨q + 1, k3, d', Ls ++ [x], by omega, rfl, hk3, by simp [hLs], (hu1.push _).of_take htk hlen', ?_, ho', hd1, by simp⟩
          refine hown.of_blk fun c hc => ?_
          have := hown.blk hc
          rw [hd2 c hc, blockOf_left (by simpa using this.2), blockOf_set_ne' (by omega)]
    · simp [hqv]
      refine ⟨_, ?_, Ls, by omega, kk, hkk, rfl, hu.1⟩
      rcases howl with ⟨rfl, rfl⟩ | ⟨lb, rfl, hlb1, hlb2⟩
      · rfl
      · exact frz_ints (d := 4) hlb2 hlb1 rfl
end
end Bi
end Go.Ab
/- The law BidiIsolates. -/
namespace Go.Ab
open Go.Proofs
namespace Bi
set_option maxHeartbeats 1000000 in
set_option maxRecDepth 100000 in
theorem plainT_ok (d : Nat) (l : List Int) : ∃ t : List Int, (∀ z ∈ t, z ∈ alpI) ∧ t.length ≤ 12 ∧ ∀ cfg h, callM md (K pL (d + 3)) cfg 21 [il l] h = some (rl t, h) := by
  suffices H : ∃ r, (∀ cfg h, callM md (K pL (d + 3)) cfg 21 [il l] h = some (r, h)) ∧ ∃ t : List Int, r = rl t ∧ (∀ z ∈ t, z ∈ alpI) ∧ t.length ≤ 12 by
    obtain ⟨r, h1, t, rfl, h2, h3⟩ := H
    exact ⟨t, h2, h3, h1⟩
  have hNw := fun cfg h => new_ok (prim := pL) (d + 1) cfg h (pL_none 12 (by decide)) l
  have hL : (l.take 4000).length ≤ 4000 := by simp; omega
  refine call0y rfl (pL_none 21 (by decide)) Try.func21 rfl rfl rfl (by simp) ?_
  simp (disch := omega) [hNw]
  generalize hLL : l.take 4000 = L at *
  refine wC_loop (fun m fr H => ∃ (i kk : Nat) (v : V) (t : List Int) (Z : Heap), i ≤ l.length ∧ i ≤ 12 ∧ m = 12 - i ∧ kk ≤ L.length ∧ t.length = i ∧ (∀ x ∈ t, x ∈ alpI) ∧ H = some (alpI.map (V.int .i32)) :: some [il L, .int .i64 kk] :: Z ∧
    Hp H [some (alpI.map (V.int .i32)), some [il L, .int .i64 kk]] [(1, v, t.map (V.int .i32))] ∧
    Slots 31 [(0, il l), (3, .sl 0 0 12 12 1), (4, .ptr 1 0), (5, v), (6, .int .i64 i)] fr) (m := 12) (by omega) ⟨0, 0, .nils, [], [], by omega, by omega, by omega, by omega, rfl, by simp, rfl, Hp.start.nil 1, by simp⟩ ?_
  rintro m fr H ⟨i, kk, v, t, Z, hi1, hi2, rfl, hkk, htl, hta, rfl, hhp, hs⟩
  obtain ⟨j, rfl⟩ := hs.ex
  clear hs
  by_cases hlt : i < l.length ∧ i < 12
  · obtain ⟨hlt, h40⟩ := hlt
    have hI1 : (i : Int) < l.length := by omega
    have hI2 : (i : Int) < 12 := by omega
    obtain ⟨u, k', hu, hk', hN⟩ := N_ok (prim := pL) (d + 1) ⟨0, none, 0⟩ (some (alpI.map (V.int .i32)) :: some [il L, .int .i64 kk] :: Z) (pL_none 13 (by decide)) L kk hL hkk 12 (by omega) (by omega) 1 rfl rfl
    simp only [List.set_cons_succ, List.set_cons_zero] at hN
    obtain ⟨x, hx⟩ : ∃ x, alpI[u]? = some x := ⟨_, List.getElem?_eq_getElem (by simp [alpI]; omega)⟩
    have hxa : x ∈ alpI := List.mem_of_getElem? hx
    have hb0 : ∀ Y : Heap, blockOf (some (alpI.map (V.int .i32)) :: Y) 0 = some (alpI.map (V.int .i32)) := fun Y => by simp [blockOf]
    have hp1 := hhp.set (b := 1) (by simp) (some [il L, .int .i64 k'])
    simp only [List.set_cons_succ, List.set_cons_zero] at hp1
    have hp2 := hp1.push [some [V.int .i32 x]]
    generalize hal2 : alpI = AP at *
    simp (disch := omega) [hI1, hI2, hN, hb0, hx, -getElem?_pos]
    simp only [List.cons_append] at hp2
    refine wS_appO (m := 1) hp2 (by simp) rfl rfl (by omega) (by omega) (by simp; omega) (by simp; omega) ?_
    intro v' H' hhp2
    obtain ⟨Z2, hZ2⟩ := hp_lit hhp2
    simp only [List.cons_append, List.nil_append] at hZ2
    subst hZ2
    simp (disch := omega) [wrap64]
    refine Rnd_of (m' := 12 - (i + 1)) (by omega) ⟨i + 1, k', v', t ++ [x], Z2, by omega, by omega, by omega, hk', by simp [htl], fun y hy => ?_, rfl, by simpa using hhp2, by simp (disch := omega)⟩
    rcases List.mem_append.1 hy with hy | hy
    · exact hta y hy
    · simp at hy; subst hy; exact hxa
  · have hI2 : (i : Int) < l.length → ¬ (i : Int) < 12 := fun h => by omega
    have hfz : frz (some (alpI.map (V.int .i32)) :: some [il L, .int .i64 kk] :: Z) 0 6 v = some (rl t) := hhp.head.frzI (d := 4) (Nat.zero_le _)
    generalize alpI = AP at *
    by_cases hI1 : (i : Int) < l.length
    · simp (disch := omega) [hI1, hI2]
      exact ⟨_, hfz, t, rfl, hta, by omega⟩
    · simp (disch := omega) [hI1]
      exact ⟨_, hfz, t, rfl, hta, by omega⟩
/-- append of any number of elements to the first of the own slices. -/
theorem wS_appA {P : Program} {md' : FuncId → Nat} {call : Callf} {cfg : Cfg} {dst : Option Tmp} {fr : List V} {ops : Array Oper} {rest : List Oper} {Q : KontO} {h base : Heap} {os : List Own} {d : V} {cs new : List V} {k m y : Nat} (ho : Hp h base ((k, d, cs) :: os)) (hlo : cfg.lo ≤ base.length)
    (hnew : new.length = m * k) (hmn : isMap new = false) (hk : 0 < k) (hsz : (cs.length / k + m) * y ≤ 1099511627776) (hlen : cs.length / k + m ≤ 1099511627776)
    (H : ∀ d' h', Hp h' base ((k, d', cs ++ new) :: os) → @wO P md' call cfg ⟨ops⟩ ⟨rest⟩ (put fr dst d') h' ⟨Q⟩) :
    @wS P md' call cfg ⟨dst⟩ ⟨fr⟩ (appD cfg h k y d m new) ⟨ops⟩ ⟨rest⟩ ⟨Q⟩ := by
  rcases Nat.eq_zero_or_pos m with h0 | h0
  · subst h0
    have hn : new = [] := List.length_eq_zero_iff.1 (by simpa using hnew)
    subst hn
    rcases ho.head with ⟨hh, hcs⟩ | ⟨b, n, hv, hn, h1, hb⟩
    · subst hh
      rw [appD_nil0, wS_some]
      exact H _ _ (by simpa using ho)
    · subst hv
      have hw : cfg.wr b = true := by simp only [Cfg.wr, Bool.or_eq_true, decide_eq_true_eq]; left; omega
      have hr : roomy n y = true := by
        rw [hn, Nat.mul_div_cancel _ hk, Nat.add_zero] at hsz hlen
        simp only [roomy, Bool.and_eq_true, decide_eq_true_eq]
        exact ⟨hsz, hlen⟩
      have e : appD cfg h k y (.sl b 0 n n k) 0 [] = some (.sl b 0 n n k, h) := by
        unfold appD
        have hst : storeCellsV cfg h b (0 + n * k) [] = some h := by
          rw [storeCells_eq, hb]
          simp only [Option.bind_some, hw, List.length_nil, Nat.add_zero, Nat.zero_add, List.all_nil, Bool.or_true, Bool.and_true, putAt_nil]
          rw [if_pos (by simp; omega), set_same hb]
        simp only [Nat.add_zero, hr, decide_true, Bool.and_self, if_true, Nat.le_refl, hst]
      rw [e, wS_some]
      exact H _ _ (by simpa using ho)
  · exact wS_appO ho hlo hnew hmn h0 hk hsz hlen H
set_option maxHeartbeats 2000000 in
set_option maxRecDepth 100000 in
theorem isolates_ok (d : Nat) (la lb li lo : List Int) (kind : Int) : ∃ v h', callN Try.prog md pL 10000 (d + 8) ⟨0, none, 0⟩ 7 [il la, il lb, il li, il lo, .int .i64 kind] [] = some (v, h') ∧ v = .bool true := by
  have hA := fun cfg h => awakeL (d + 6) cfg h
  obtain ⟨x, hxa, hxl, hx⟩ := plainT_ok (d + 4) la
  obtain ⟨y, hya, hyl, hy⟩ := plainT_ok (d + 4) lb
  obtain ⟨p, hpa, hpl, hp⟩ := plainT_ok (d + 4) li
  obtain ⟨q, hqa, hql, hq⟩ := plainT_ok (d + 4) lo
  refine callN_of (R := fun r _ => r = .bool true) (pL_none 7 (by decide)) Try.func7 rfl rfl rfl ?_
  obtain ⟨kb, hkb, hand⟩ : ∃ kb : Int, (kb = 0 ∨ kb = 1) ∧ intBin .and .i64 kind 1 = some (.int .i64 kb) := by
    have h1 : (BitVec.ofInt 64 kind &&& BitVec.ofInt 64 1).toNat ≤ 1 := by
      rw [BitVec.toNat_and]
      exact Nat.and_le_right
    obtain ⟨k, hk⟩ : ∃ k, k = (BitVec.ofInt 64 kind &&& BitVec.ofInt 64 1).toNat := ⟨_, rfl⟩
    rw [← hk] at h1
    refine ⟨(k : Int), by omega, ?_⟩
    show some (V.int .i64 (IntKind.i64.wrap (((BitVec.ofInt 64 kind &&& BitVec.ofInt 64 1).toNat : Nat) : Int))) = _
    rw [← hk, wrap64 (by omega) (by omega)]
  have hop : IntKind.i32.wrap (8294 + kb) = 8294 + kb := by rcases hkb with rfl | rfl <;> rfl
  obtain ⟨op, hopd⟩ : ∃ op, op = 8294 + kb := ⟨_, rfl⟩
  have hop2 : op = 8294 ∨ op = 8295 := by omega
  simp (disch := omega) [hx, hy, hp, hq, hand, wrap64, hop]
  rw [← hopd]
  refine wS_appA (Hp.start.nil 1) (by simp) (by simp) (by simp) (by omega) (by simp; omega) (by simp; omega) ?_
  intro v1 H1 hh1
  simp (disch := omega)
  refine wS_appA (m := 1) (hh1.push [some [.int .i32 op]]) (by simp) rfl rfl (by omega) (by simp; omega) (by simp; omega) ?_
  intro v2 H2 hh2
  simp (disch := omega)
  refine wS_appA hh2 (by simp) (by simp) (by simp) (by omega) (by simp; omega) (by simp; omega) ?_
  intro v3 H3 hh3
  simp (disch := omega)
  refine wS_appA (m := 1) (hh3.push [some [.int .i32 8297]]) (by simp) rfl rfl (by omega) (by simp; omega) (by simp; omega) ?_
  intro v4 H4 hh4
  simp (disch := omega)
  refine wS_appA hh4 (by simp) (by simp) (by simp) (by omega) (by simp; omega) (by simp; omega) ?_
  intro v5 H5 hh5
  simp (disch := omega)
  refine wS_appA (hh5.nil 1) (by simp) (by simp) (by simp) (by omega) (by simp; omega) (by simp; omega) ?_
  intro w1 H6 hh6
  simp (disch := omega)
  refine wS_appA (m := 1) (hh6.push [some [.int .i32 op]]) (by simp) rfl rfl (by omega) (by simp; omega) (by simp; omega) ?_
  intro w2 H7 hh7
  simp (disch := omega)
  refine wS_appA hh7 (by simp) (by simp) (by simp) (by omega) (by simp; omega) (by simp; omega) ?_
  intro w3 H8 hh8
  simp (disch := omega)
  refine wS_appA (m := 1) (hh8.push [some [.int .i32 8297]]) (by simp) rfl rfl (by omega) (by simp; omega) (by simp; omega) ?_
  intro w4 H9 hh9
  simp (disch := omega)
  refine wS_appA hh9 (by simp) (by simp) (by simp) (by omega) (by simp; omega) (by simp; omega) ?_
  intro w5 HH hhf
  clear hh1 hh2 hh3 hh4 hh5 hh6 hh7 hh8 hh9
  have c1 : ∀ z : List Int, [] ++ x.map (V.int .i32) ++ [V.int .i32 op] ++ z.map (V.int .i32) ++ [V.int .i32 8297] ++ y.map (V.int .i32) = (x ++ op :: (z ++ 8297 :: y)).map (V.int .i32) := fun z => by simp
  rw [c1, c1] at hhf
  have hfp : frzA HH v5 = some (rl (x ++ op :: (p ++ 8297 :: y))) := hhf.snd.frzA
  have hfq : frzA HH w5 = some (rl (x ++ op :: (q ++ 8297 :: y))) := hhf.head.frzA
  have hvl := hhf.snd.len1 (show Try.prog.underlying 23 = some (.slice 21) by kernel_rfl)
  have hwl := hhf.head.len1 (show Try.prog.underlying 23 = some (.slice 21) by kernel_rfl)
  rw [List.length_map] at hvl hwl
  have hn : ∀ z : List Int, (x ++ op :: (z ++ 8297 :: y)).length = x.length + z.length + y.length + 2 := fun z => by simp; omega
  rw [hn] at hvl hwl
  have hlev : ∀ base : Int, base = 0 ∨ base = 1 → ∃ (r1 r2 : List Int) (G1 G2 : Nat → Int), (∀ cfg, callM md (K pL (d + 6 + 1)) cfg 15 [v5, .int .i64 base] HH = some (il r1, HH)) ∧ (∀ cfg, callM md (K pL (d + 6 + 1)) cfg 15 [w5, .int .i64 base] HH = some (il r2, HH)) ∧
      r1.length = x.length + p.length + y.length + 2 ∧ r2.length = x.length + q.length + y.length + 2 ∧ (∀ i, i ≤ x.length → r1[i]? = some (G1 i)) ∧ (∀ i, i ≤ x.length → r2[i]? = some (G1 i)) ∧
      (∀ i, i ≤ y.length → r1[x.length + p.length + y.length + 1 - i]? = some (G2 i)) ∧ (∀ i, i ≤ y.length → r2[x.length + q.length + y.length + 1 - i]? = some (G2 i)) := by
    intro base hb
    obtain ⟨G1, G2, hG⟩ := iso_lev hb hop2 hxa hya
    obtain ⟨r1, h1, h2⟩ := lev_ok (d + 6) (x ++ op :: (p ++ 8297 :: y)) (by rw [hn]; omega) (by simp) base
    obtain ⟨r2, h3, h4⟩ := lev_ok (d + 6) (x ++ op :: (q ++ 8297 :: y)) (by rw [hn]; omega) (by simp) base
    obtain ⟨a1, a2, a3⟩ := hG p r1 hpa (by omega) h2
    obtain ⟨b1, b2, b3⟩ := hG q r2 hqa (by omega) h4
    exact ⟨r1, r2, G1, G2, fun cfg => h1 cfg _ _ (by simp [List.mapM_cons, hfp]), fun cfg => h3 cfg _ _ (by simp [List.mapM_cons, hfq]), a1, b1, a2, b2, a3, b3⟩
  simp (disch := omega)
  refine wC_loop (fun m fr H => ∃ (b : Nat), b ≤ 2 ∧ m = 2 - b ∧ H = HH ∧ Slots 118 [(11, rl x), (12, rl y), (16, v5), (17, w5), (18, .int .i64 b)] fr) (m := 2) (by omega) ⟨0, by omega, by omega, rfl, by simp⟩ ?_
  rintro m fr H ⟨b, hb, rfl, rfl, hs⟩
  obtain ⟨j, rfl⟩ := hs.ex
  clear hs
  by_cases hb2 : b ≤ 1
  · obtain ⟨r1, r2, G1, G2, k1, k2, n1, n2, g1, g2, g3, g4⟩ := hlev b (by omega)
    have hbI : (b : Int) ≤ 1 := by omega
    simp (disch := omega) [hbI, k1, k2, n1, n2, hvl, hwl]
    refine wC_loop (fun m fr H' => ∃ (i : Nat), i ≤ x.length + 1 ∧ m = x.length + 1 - i ∧ H' = H ∧ Slots 118 [(11, rl x), (12, rl y), (16, v5), (17, w5), (18, .int .i64 b), (19, il r1), (20, il r2), (21, .int .i64 i)] fr) (m := x.length + 1) (by omega) ⟨0, by omega, by omega, rfl, by simp⟩ ?_
    rintro m fr H' ⟨i, hi, rfl, rfl, hs⟩
    obtain ⟨j2, rfl⟩ := hs.ex
    clear hs
    by_cases hix : i ≤ x.length
    · have hiI : (i : Int) ≤ x.length := by omega
      have e1 := g1 i hix
      have e2 := g2 i hix
      simp (disch := omega) [hiI]
      refine wC_draw 8 (by kernel_rfl) ?_
      simp (disch := omega) [e1, e2, wrap64, -getElem?_pos]
      exact Rnd_of (m' := x.length + 1 - (i + 1)) (by omega) ⟨i + 1, by omega, rfl, rfl, by simp (disch := omega)⟩
    · have hiI : ¬ (i : Int) ≤ x.length := by omega
      simp (disch := omega) [hiI]
      refine wC_loop (fun m fr H2 => ∃ (i : Nat), i ≤ y.length + 1 ∧ m = y.length + 1 - i ∧ H2 = H' ∧ Slots 118 [(11, rl x), (12, rl y), (16, v5), (17, w5), (18, .int .i64 b), (19, il r1), (20, il r2), (22, .int .i64 i)] fr) (m := y.length + 1) (by omega) ⟨0, by omega, by omega, rfl, by simp⟩ ?_
      rintro m fr H2 ⟨k, hk, rfl, rfl, hs⟩
      obtain ⟨j3, rfl⟩ := hs.ex
      clear hs
      by_cases hky : k ≤ y.length
      · have hkI : (k : Int) ≤ y.length := by omega
        have e1 := g3 k hky
        have e2 := g4 k hky
        have t1 : ((x.length : Int) + p.length + y.length + 2 - 1 - k).toNat = x.length + p.length + y.length + 1 - k := by omega
        have t2 : ((x.length : Int) + q.length + y.length + 2 - 1 - k).toNat = x.length + q.length + y.length + 1 - k := by omega
        simp (disch := omega) [hkI]
        refine wC_draw 16 (by kernel_rfl) ?_
        simp (disch := omega) [n1, n2, e1, e2, t1, t2, wrap64, -getElem?_pos]
        exact Rnd_of (m' := y.length + 1 - (k + 1)) (by omega) ⟨k + 1, by omega, rfl, rfl, by simp (disch := omega)⟩
      · have hkI : ¬ (k : Int) ≤ y.length := by omega
        simp (disch := omega) [hkI, wrap64]
        exact Rnd_of (m' := 2 - (b + 1)) (by omega) ⟨b + 1, by omega, rfl, rfl, by simp (disch := omega)⟩
  · have hbI : ¬ (b : Int) ≤ 1 := by omega
    simp (disch := omega) [hbI, hA]
end Bi
end Go.Ab
