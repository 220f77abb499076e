/- Several texts of this proof in one. -/
import Derived.Test.YtamjkkpdopiofaaGreatPiF
import Derived.Test.YtamjkkpdopiofaaGreatPaRef
/- Slices of structs: their cells, and what they are frozen to. -/
namespace Go.Ab
theorem flat_len {α : Type} {f : α → List V} {n : Nat} (hf : ∀ x, (f x).length = n) : ∀ l : List α, (l.flatMap f).length = l.length * n
  | [] => by simp
  | x :: l => by rw [List.flatMap_cons, List.length_append, hf, flat_len hf l, List.length_cons, Nat.add_mul]; omega
theorem chunk_flat {α : Type} {f : α → List V} {n : Nat} (hf : ∀ x, (f x).length = n) : ∀ l : List α, chunk n l.length (l.flatMap f) = l.map f
  | [] => rfl
  | x :: l => by
    have h1 : (x :: l).flatMap f = f x ++ l.flatMap f := List.flatMap_cons
    rw [h1, List.length_cons, chunk, List.take_append_of_le_length (by rw [hf]; exact Nat.le_refl _), List.drop_append_of_le_length (by rw [hf]; exact Nat.le_refl _)]
    have e1 : (f x).take n = f x := by rw [← hf x, List.take_length]
    have e2 : (f x).drop n = [] := by rw [← hf x, List.drop_length]
    rw [e1, e2, List.nil_append, chunk_flat hf l, List.map_cons]
theorem OwnC.frzF {α : Type} {f : α → List V} {n : Nat} (hf : ∀ x, (f x).length = n) (hn : 0 < n) {h : Heap} {lo m d : Nat} {v : V} {l : List α} (ho : OwnC h lo n v (l.flatMap f)) (hm : m ≤ lo) (hr : ∀ x, (f x).all V.rf = true) (hnn : ∀ x, ∀ c ∈ f x, c ≠ .nils) : Go.Ab.frz h m (d + 2) v = some (.lst (l.map f)) := by
  have h1 : (l.flatMap f).all V.rf = true := by
    rw [List.all_eq_true]
    intro c hc
    obtain ⟨x, _, hx⟩ := List.mem_flatMap.1 hc
    exact List.all_eq_true.1 (hr x) c hx
  have h2 : ∀ c ∈ l.flatMap f, c ≠ .nils := fun c hc => by
    obtain ⟨x, _, hx⟩ := List.mem_flatMap.1 hc
    exact hnn x c hx
  rw [ho.frz hm h1 h2 hn, flat_len hf, Nat.mul_div_cancel _ hn, chunk_flat hf]
theorem setI {k : IntKind} {l : List Int} {i : Nat} {x : Int} : setS (l.map (V.int k)) i (.int k x) = (l.set i x).map (V.int k) := by rw [setS, List.map_set]
theorem setB {l : List Bool} {i : Nat} {x : Bool} : setS (l.map V.bool) i (.bool x) = (l.set i x).map V.bool := by rw [setS, List.map_set]
theorem zerosB : ∀ n, zerosFor [V.bool false] n = (List.replicate n false).map V.bool
  | 0 => rfl
  | n + 1 => by rw [zerosFor, zerosB n, List.replicate_succ]; rfl
theorem zerosI : ∀ n, zerosFor [V.int .i64 0] n = (List.replicate n 0).map (V.int .i64)
  | 0 => rfl
  | n + 1 => by rw [zerosFor, zerosI n, List.replicate_succ]; rfl
theorem flat_one {α : Type} {f : α → V} : ∀ l : List α, (l.flatMap fun x => [f x]) = l.map f
  | [] => rfl
  | x :: l => by rw [List.flatMap_cons, flat_one l]; rfl
theorem frz_bools {h : Heap} {n d b len cap : Nat} {l : List Bool} (hb : blockOf h b = some (l.map V.bool)) (hn : n ≤ b) (hl : l.length = len) : frz h n (d + 2) (.sl b 0 len cap 1) = some (.lst (l.map fun x => [.bool x])) := by
  have h1 : OwnC h n 1 (.sl b 0 len len 1) (l.flatMap fun x => [V.bool x]) := .inr ⟨b, len, rfl, by rw [flat_one]; simp; omega, hn, by rw [hb, flat_one]⟩
  have h2 := OwnC.frzF (ho := h1) (f := fun x => [V.bool x]) (n := 1) (m := n) (d := d) (fun _ => rfl) (by omega) (Nat.le_refl _) (fun _ => rfl) (fun x c hc => by simp at hc; subst hc; simp)
  rw [frz_sl, if_neg (by omega)] at h2 ⊢
  exact h2
end Go.Ab
/- The reference: breaks, by their shapes. -/
namespace Go.Ab
open Go.Proofs
namespace Bi
attribute [local congr] wGq_congr
section
variable {prim : FuncId → Option Prim} (d : Nat) (cfg : Cfg) (h : Heap)
end
end Bi
end Go.Ab
/- The generator: new, N, texts. -/
namespace Go.Ab
open Go.Proofs
namespace Bi
def alph : List Int := [97, 98, 102, 105, 88, 49, 50, 32, 32, 46, 44, 45, 39, 34, 40, 41, 91, 93, 60, 33, 58, 95, 37, 43, 47, 9, 10, 13, 0x0B, 0x85, 0xA0, 0xAD, 0xB7, 0x301, 0x5D0, 0x5D1, 0x5BE, 0x5B0, 0x600, 0x627, 0x628, 0x633, 0x640, 0x64B, 0x661, 0x66A, 0x60C, 0x61C, 0x6F1, 0x903, 0x905, 0x93C, 0x1100, 0x1161, 0x11A8, 0xAC00, 0xAC01, 0x2009, 0x200B, 0x200C, 0x200D, 0x200E, 0x200F, 0x2019, 0x2028, 0x2029, 0x202A, 0x202B, 0x202C, 0x202D, 0x202E, 0x2060, 0x2066, 0x2067, 0x2068, 0x2069, 0x2600, 0x3000, 0x3001, 0x300C, 0x300D, 0x30A2, 0x4E00, 0xFE0F, 0x1F1E6, 0x1F1E7, 0x1F3FB, 0x1F468, 0x10FFFF]

section
variable {prim : FuncId → Option Prim} (d : Nat) (cfg : Cfg) (h : Heap)
theorem new_ok (hp : prim 4 = none) (l : List Int) : callM md (K prim (d + 1)) cfg 4 [il l] h = some (.ptr h.length 0, h ++ [some [il (l.take 4000), .int .i64 0]]) := by
  refine call2 rfl hp Tryz.func4 rfl rfl rfl ?_
  simp
  by_cases hl : 4000 < l.length
  · have hl' : (4000 : Int) < l.length := by omega
    simp (disch := first | omega | (simp; done) | (simp; omega)) [hl']
  · have hl' : ¬ (4000 : Int) < l.length := by omega
    simp [hl', List.take_of_length_le (show l.length ≤ 4000 by omega)]

theorem N_ok (hp : prim 7 = none) (L : List Int) (k : Nat) (hL : L.length ≤ 4000) (hk : k ≤ L.length) (n : Int) (hn : 1 ≤ n) (hn2 : n ≤ 4000000000) (b : Nat) (hb : blockOf h b = some [il L, .int .i64 k]) (hw : cfg.wr b = true) :
    ∃ v k' : Nat, (v : Int) < n ∧ k' ≤ L.length ∧ callM md (K prim (d + 1)) cfg 7 [.ptr b 0, .int .i64 n] h = some (.int .i64 v, h.set b (some [il L, .int .i64 k'])) := by
  have hw' : (Cfg.wr ⟨cfg.lo, cfg.ex, h.length⟩ b) = true := hw
  have hbl := blockOf_lt hb
  by_cases hlt : k < L.length
  · obtain ⟨x, hx⟩ : ∃ x, L[k] = x := ⟨_, rfl⟩
    have hr := Int.tmod_lt_of_pos x (b := n) (by omega)
    have hr2 := Int.lt_tmod_of_pos x (b := n) (by omega)
    refine ⟨(if x.tmod n < 0 then x.tmod n + n else x.tmod n).toNat, k + 1, by split <;> omega, by omega, call1 rfl hp Tryz.func7 rfl rfl rfl ?_⟩
    simp
    refine wC_draw 9 (by kernel_rfl) ?_
    have hk1 : ¬ L.length ≤ k := by omega
    have hn1 : ¬ n < 1 := by omega
    have hn0 : ¬ n = 0 := by omega
    simp [hb, hk1, hn1]
    refine wC_draw 11 (by kernel_rfl) ?_
    simp (disch := first | omega | (simp; done) | (simp; omega)) [hb, hx, hw', wrap64]
    by_cases hneg : x.tmod n < 0
    · simp (disch := first | omega | (simp; done) | (simp; omega)) [hneg, wrap64]
      exact ⟨by omega, List.take_of_length_le (by simp)⟩
    · simp (disch := first | omega | (simp; done) | (simp; omega)) [hneg]
      exact ⟨by omega, List.take_of_length_le (by simp)⟩
  · refine ⟨0, k, by omega, hk, ?_⟩
    rw [set_same hb]
    refine call1 rfl hp Tryz.func7 rfl rfl rfl ?_
    have hk1 : L.length ≤ k := by omega
    simp
    refine wC_draw 9 (by kernel_rfl) ?_
    simp [hb, hk1]

@[simp] theorem cv3_21 {h : Heap} {k : IntKind} {n : Int} : convV Tryz.prog h 3 21 (.int k n) = some (.int .i32 (IntKind.i32.wrap n), h) := by kernel_rfl

theorem chance_ok (hp : ∀ f, Np5 f → prim f = none) (L : List Int) (k : Nat) (hL : L.length ≤ 4000) (hk : k ≤ L.length) (n : Int) (hn : 1 ≤ n) (hn2 : n ≤ 4000000000) (b : Nat) (hb : blockOf h b = some [il L, .int .i64 k]) (hw : cfg.wr b = true) :
    ∃ (v : Bool) (k' : Nat), k' ≤ L.length ∧ callM md (K prim (d + 2)) cfg 34 [.ptr b 0, .int .i64 n] h = some (.bool v, h.set b (some [il L, .int .i64 k'])) := by
  obtain ⟨v, k', hv, hk', hN⟩ := N_ok (prim := prim) d ⟨cfg.lo, cfg.ex, h.length⟩ h (hp 7 (by decide)) L k hL hk n hn hn2 b hb hw
  refine ⟨decide ((v : Int) = n - 1), k', hk', call1 rfl (hp 34 (by decide)) Tryz.func34 rfl rfl rfl ?_⟩
  simp (disch := omega) [hN, wrap64]
  exact List.take_of_length_le (by simp)

theorem raw_ok (hp : ∀ f, Np5 f → prim f = none) (L : List Int) (k : Nat) (hL : L.length ≤ 4000) (hk : k ≤ L.length) (b : Nat) (hb : blockOf h b = some [il L, .int .i64 k]) (hw : cfg.wr b = true) :
    ∃ (v : Int) (k' : Nat), k' ≤ L.length ∧ callM md (K prim (d + 1)) cfg 35 [.ptr b 0] h = some (.int .i64 v, h.set b (some [il L, .int .i64 k'])) := by
  have hw' : (Cfg.wr ⟨cfg.lo, cfg.ex, h.length⟩ b) = true := hw
  have hbl := blockOf_lt hb
  by_cases hlt : k < L.length
  · obtain ⟨x, hx⟩ : ∃ x, L[k]? = some x := ⟨L[k], List.getElem?_eq_getElem hlt⟩
    refine ⟨x, k + 1, by omega, call1 rfl (hp 35 (by decide)) Tryz.func35 rfl rfl rfl ?_⟩
    have hk1 : ¬ L.length ≤ k := by omega
    simp
    refine wC_draw 9 (by kernel_rfl) ?_
    simp (disch := omega) [hb, hk1, hw', wrap64]
    refine wC_draw 9 (by kernel_rfl) ?_
    have e1 : ((k : Int) + 1 - 1).toNat = k := by omega
    simp (disch := omega) [hx, wrap64, -getElem?_pos]
    exact List.take_of_length_le (by simp)
  · refine ⟨0, k, hk, ?_⟩
    rw [set_same hb]
    refine call1 rfl (hp 35 (by decide)) Tryz.func35 rfl rfl rfl ?_
    have hk1 : L.length ≤ k := by omega
    simp
    refine wC_draw 9 (by kernel_rfl) ?_
    simp [hb, hk1]

set_option maxRecDepth 100000 in
theorem alphabet_ok (hp : prim 23 = none) : ∃ A : List Int, A.length = 89 ∧ ∀ cfg h, callM md (K prim (d + 1)) cfg 23 [] h = some (rl A, h) := by
  refine ⟨alph, rfl, fun cfg h => ?_⟩
  refine call0 rfl hp Tryz.func23 rfl rfl rfl (by simp) ?_
  simp
  exact frz_ints (d := 4) (k := .i32) (l := alph) rfl (Nat.zero_le _) rfl

theorem rune_ok (hp : ∀ f, Np5 f → prim f = none) (L : List Int) (k : Nat) (hL : L.length ≤ 4000) (hk : k ≤ L.length) (b : Nat) (hb : blockOf h b = some [il L, .int .i64 k]) (hw : cfg.wr b = true) :
    ∃ (v : Int) (k' : Nat), k' ≤ L.length ∧ callM md (K prim (d + 3)) cfg 24 [.ptr b 0] h = some (.int .i32 v, h.set b (some [il L, .int .i64 k'])) := by
  have hbl := blockOf_lt hb
  obtain ⟨A, hA, hal⟩ := alphabet_ok (prim := prim) (d + 1) (hp 23 (by decide))
  obtain ⟨c, k1, hk1, hC⟩ := chance_ok (prim := prim) d ⟨cfg.lo, cfg.ex, h.length⟩ h hp L k hL hk 40 (by omega) (by omega) b hb hw
  have hb1 : blockOf (h.set b (some [il L, .int .i64 k1])) b = some [il L, .int .i64 k1] := by simp [hbl]
  cases c
  · obtain ⟨v, k2, hv, hk2, hN⟩ := N_ok (prim := prim) (d + 1) ⟨cfg.lo, cfg.ex, h.length⟩ (h.set b (some [il L, .int .i64 k1])) (hp 7 (by decide)) L k1 hL hk1 89 (by omega) (by omega) b hb1 hw
    obtain ⟨x, hx⟩ : ∃ x, A[v]? = some x := ⟨A[v], List.getElem?_eq_getElem (by omega)⟩
    refine ⟨x, k2, hk2, call1 rfl (hp 24 (by decide)) Tryz.func24 rfl rfl rfl ?_⟩
    simp at hN
    simp (disch := omega) [hal, hC, hA, hN, hx, -getElem?_pos]
    exact List.take_of_length_le (by simp)
  · obtain ⟨v, k2, hk2, hR⟩ := raw_ok (prim := prim) (d + 1) ⟨cfg.lo, cfg.ex, h.length⟩ (h.set b (some [il L, .int .i64 k1])) hp L k1 hL hk1 b hb1 hw
    refine ⟨IntKind.i32.wrap v, k2, hk2, call1 rfl (hp 24 (by decide)) Tryz.func24 rfl rfl rfl ?_⟩
    simp at hR
    simp (disch := omega) [hal, hC, hR]
    exact List.take_of_length_le (by simp)
set_option maxHeartbeats 4000000 in
theorem text_ok (hp : ∀ f, Np5 f → prim f = none) (L : List Int) (k : Nat) (hL : L.length ≤ 4000) (hk : k ≤ L.length) (n : Nat) (hn : n ≤ 1000) (b : Nat) (hb : blockOf h b = some [il L, .int .i64 k]) (hw : cfg.wr b = true) (hlo : cfg.lo ≤ h.length) :
    ∃ (l : List Int) (k' : Nat), l.length ≤ n ∧ k' ≤ L.length ∧ callM md (K prim (d + 4)) cfg 13 [.ptr b 0, .int .i64 n] h = some (rl l, h.set b (some [il L, .int .i64 k'])) := by
  have hw' : (Cfg.wr ⟨cfg.lo, cfg.ex, h.length⟩ b) = true := hw
  have hbl := blockOf_lt hb
  obtain ⟨v, k1, hv, hk1, hN⟩ := N_ok (prim := prim) (d + 2) ⟨cfg.lo, cfg.ex, h.length⟩ h (hp 7 (by decide)) L k hL hk (n + 1) (by omega) (by omega) b hb hw'
  have hb1 : blockOf (h.set b (some [il L, .int .i64 k1])) b = some [il L, .int .i64 k1] := by simp [hbl]
  obtain ⟨few, k2, hfew, hk2, hN2⟩ := N_ok (prim := prim) (d + 2) ⟨cfg.lo, cfg.ex, h.length⟩ (h.set b (some [il L, .int .i64 k1])) (hp 7 (by decide)) L k1 hL hk1 3 (by omega) (by omega) b hb1 hw'
  simp at hN2
  have hc := call1x (md := md) (n := 10000) (d := d + 3) (cfg := cfg) (h := h) (args := [.ptr b 0, .int .i64 n]) (Post := fun r h2 => ∃ (l : List Int) (k' : Nat), l.length ≤ n ∧ k' ≤ L.length ∧ r = rl l ∧ h2 = h.set b (some [il L, .int .i64 k'])) rfl (hp 13 (by decide)) Tryz.func13 rfl rfl rfl ?_
  · obtain ⟨r, h2, h3, l, k', h4, h5, rfl, rfl⟩ := hc
    exact ⟨l, k', h4, h5, h3⟩
  have hu0 : Upd h b [il L, .int .i64 k2] (h.set b (some [il L, .int .i64 k2])) := (Upd.refl hb).set
  simp (disch := omega) [hN, hN2, wrap64]
  refine wC_loop (fun m fr H => ∃ (i kk : Nat) (sv : V) (S : List Int), i ≤ 5 ∧ m = 5 - i ∧ kk ≤ L.length ∧ S.length = i ∧ Upd h b [il L, .int .i64 kk] H ∧ OwnL H h.length .i32 sv S ∧
      Slots 47 [(0, .ptr b 0), (5, .int .i64 v), (6, .nils), (7, .int .i64 few), (8, sv), (9, .int .i64 i)] fr) (m := 5) (by omega) ⟨0, k2, .nils, [], by omega, by omega, hk2, rfl, hu0, .inl ⟨rfl, rfl⟩, by simp⟩ ?_
  rintro m fr H ⟨i, kk, sv, S, hi, rfl, hkk, hS, hu, hown, hs⟩
  obtain ⟨j, rfl⟩ := hs.ex
  clear hs
  by_cases hlt : i < 5
  · obtain ⟨x, k3, hk3, hR⟩ := rune_ok (prim := prim) d ⟨cfg.lo, cfg.ex, h.length⟩ H hp L kk hL hkk b (hu.block hbl rfl) hw'
    have hu1 : Upd h b [il L, .int .i64 k3] (H.set b (some [il L, .int .i64 k3])) := hu.set
    have hlt' : (i : Int) < 5 := by omega
    have hbn : blockOf (H.set b (some [il L, .int .i64 k3]) ++ [some [.int .i32 x]]) H.length = some [.int .i32 x] := by rw [blockOf_len' (by simp)]; rfl
    simp (disch := omega) [hlt', hR, hbn]
    refine wS_app (l := S) (lo := h.length) (y := 4) ?_ ?_ ?_ ?_ ?_ ?_
    · refine hown.mono fun c h1 h2 => ?_
      rw [blockOf_left (by simpa using h2), blockOf_set_ne' (by omega)]
    · exact hlo
    · have := hu.2; simp; omega
    · rw [hS]; omega
    · rw [hS]; omega
    · intro d' h' ho' htk hlen'
      simp (disch := omega) [wrap64]
      exact Rnd_of (m' := 5 - (i + 1)) (by omega) ⟨i + 1, k3, d', S ++ [x], by omega, rfl, hk3, by simp [hS], (hu1.push _).of_take htk hlen', ho', by simp⟩
  · have hlt' : ¬ (i : Int) < 5 := by omega
    have hi5 : i = 5 := by omega
    subst hi5
    simp
    refine wC_loop (fun m fr H => ∃ (q kk : Nat) (lv : V) (Ls : List Int), q ≤ v ∧ m = v - q ∧ kk ≤ L.length ∧ Ls.length = q ∧ Upd h b [il L, .int .i64 kk] H ∧ OwnL H h.length .i32 sv S ∧ OwnL H h.length .i32 lv Ls ∧ Dj sv lv ∧
      Slots 47 [(0, .ptr b 0), (5, .int .i64 v), (6, lv), (7, .int .i64 few), (8, sv), (10, .int .i64 q)] fr) (m := v) (by omega) ⟨0, kk, .nils, [], by omega, by omega, hkk, rfl, hu, hown, .inl ⟨rfl, rfl⟩, Dj.nils, by simp⟩ ?_
    clear hu hown hkk
    rintro m fr H ⟨q, kk, lv, Ls, hq, rfl, hkk, hLs, hu, hown, howl, hdj, hs⟩
    obtain ⟨j, rfl⟩ := hs.ex
    clear hs
    by_cases hqv : q < v
    · by_cases hf : 0 < few
      · obtain ⟨u, k3, hu5, hk3, hN3⟩ := N_ok (prim := prim) (d + 2) ⟨cfg.lo, cfg.ex, h.length⟩ H (hp 7 (by decide)) L kk hL hkk 5 (by omega) (by omega) b (hu.block hbl rfl) hw'
        obtain ⟨x, hx⟩ : ∃ x, S[u]? = some x := ⟨S[u], List.getElem?_eq_getElem (by omega)⟩
        rcases hown with ⟨rfl, rfl⟩ | ⟨sb, rfl, hsb1, hsb2⟩
        · simp at hx
        have hown' : OwnL H h.length .i32 (.sl sb 0 S.length S.length 1) S := .inr ⟨sb, rfl, hsb1, hsb2⟩
        have hsl : sb < H.length := blockOf_lt hsb2
        have hu1 : Upd h b [il L, .int .i64 k3] (H.set b (some [il L, .int .i64 k3])) := hu.set
        have hbs : b ≠ sb := by omega
        have hbk : blockOf (H.set b (some [il L, .int .i64 k3])) sb = some (S.map (V.int .i32)) := by rw [blockOf_set_ne' hbs]; exact hsb2
        have hbn : blockOf (H.set b (some [il L, .int .i64 k3]) ++ [some [.int .i32 x]]) H.length = some [.int .i32 x] := by rw [blockOf_len' (by simp)]; rfl
        simp (disch := omega) [hqv, hf, hN3, hbk, hx, hbn, -getElem?_pos]
        refine wS_app2 (l := Ls) (lo := h.length) (y := 4) ?_ ?_ ?_ ?_ ?_ ?_
        · refine howl.mono fun c h1 h2 => ?_
          rw [blockOf_left (by simpa using h2), blockOf_set_ne' (by omega)]
        · exact hlo
        · have := hu.2; simp; omega
        · rw [hLs]; omega
        · rw [hLs]; omega
        · intro d' h' ho' htk hlen' _ hoth
          obtain ⟨hd1, hd2⟩ := hoth _ hdj (fun c hc => by cases hc; simp; omega)
          simp (disch := omega) [wrap64]
          refine Rnd_of (m' := v - (q + 1)) (by omega) ⟨q + 1, k3, d', Ls ++ [x], by omega, rfl, hk3, by simp [hLs], (hu1.push _).of_take htk hlen', ?_, ho', hd1, by simp⟩
          refine .inr ⟨sb, rfl, hsb1, ?_⟩
          rw [hd2 sb rfl, blockOf_left (by simpa using hsl)]
          exact hbk
      · obtain ⟨x, k3, hk3, hR⟩ := rune_ok (prim := prim) d ⟨cfg.lo, cfg.ex, h.length⟩ H hp L kk hL hkk b (hu.block hbl rfl) hw'
        have hu1 : Upd h b [il L, .int .i64 k3] (H.set b (some [il L, .int .i64 k3])) := hu.set
        have hbn : blockOf (H.set b (some [il L, .int .i64 k3]) ++ [some [.int .i32 x]]) H.length = some [.int .i32 x] := by rw [blockOf_len' (by simp)]; rfl
        simp (disch := omega) [hqv, hf, hR, hbn]
        refine wS_app2 (l := Ls) (lo := h.length) (y := 4) ?_ ?_ ?_ ?_ ?_ ?_
        · refine howl.mono fun c h1 h2 => ?_
          rw [blockOf_left (by simpa using h2), blockOf_set_ne' (by omega)]
        · exact hlo
        · have := hu.2; simp; omega
        · rw [hLs]; omega
        · rw [hLs]; omega
        · intro d' h' ho' htk hlen' _ hoth
          obtain ⟨hd1, hd2⟩ := hoth sv hdj (fun c hc => by have := (hown.blk hc).2; simp; omega)
          simp (disch := omega) [wrap64]
          refine Rnd_of (m' := v - (q + 1)) (by omega) ⟨q + 1, k3, d', Ls ++ [x], by omega, rfl, hk3, by simp [hLs], (hu1.push _).of_take htk hlen', ?_, ho', hd1, by simp⟩
          refine hown.of_blk fun c hc => ?_
          have := hown.blk hc
          rw [hd2 c hc, blockOf_left (by simpa using this.2), blockOf_set_ne' (by omega)]
    · simp [hqv]
      refine ⟨_, ?_, Ls, by omega, kk, hkk, rfl, hu.1⟩
      rcases howl with ⟨rfl, rfl⟩ | ⟨lb, rfl, hlb1, hlb2⟩
      · rfl
      · exact frz_ints (d := 4) hlb2 hlb1 rfl
end
end Bi
end Go.Ab
/- The generator: fonts and paragraphs. -/
namespace Go.Ab
open Go.Proofs
namespace Bi
/-- A font: its numbers and its lists. -/
structure Fnt where
  u : Int
  a : Int
  d : Int
  g : Int
  df : Int
  adv : List (Int × Int × Int)
  ker : List (Int × Int × Int)
  lig : List (Int × Int × Int × Int)
def advC (x : Int × Int × Int) : List V := [.int .i32 x.1, .int .i32 x.2.1, .int .i64 x.2.2]
def ligC (x : Int × Int × Int × Int) : List V := [.int .i32 x.1, .int .i32 x.2.1, .int .i64 x.2.2.1, .int .i64 x.2.2.2]
def fntC (f : Fnt) : List V := [.int .i64 f.u, .int .i64 f.a, .int .i64 f.d, .int .i64 f.g, .int .i64 f.df, .lst (f.adv.map advC), .lst (f.ker.map advC), .lst (f.lig.map ligC)]
structure FntOK (f : Fnt) : Prop where
  u : 16 ≤ f.u ∧ f.u ≤ 200
  a : 1 ≤ f.a ∧ f.a ≤ 100
  d : 0 ≤ f.d ∧ f.d < 40
  g : 0 ≤ f.g ∧ f.g < 30
  df : 0 ≤ f.df ∧ f.df < 120
  adv : ∀ x ∈ f.adv, 0 ≤ x.1 ∧ x.1 ≤ x.2.1 ∧ x.2.1 ≤ 1114111 ∧ 0 ≤ x.2.2 ∧ x.2.2 < 200
  advA : f.adv.Pairwise fun x y => x.2.1 < y.1
  advL : f.adv.length ≤ 4
  ker : ∀ x ∈ f.ker, 0 ≤ x.1 ∧ x.1 ≤ 1114111 ∧ 0 ≤ x.2.1 ∧ x.2.1 ≤ 1114111 ∧ -60 ≤ x.2.2 ∧ x.2.2 ≤ 60
  kerA : f.ker.Pairwise fun x y => x.1 < y.1 ∨ x.1 = y.1 ∧ x.2.1 < y.2.1
  kerL : f.ker.length ≤ 5
  lig : ∀ x ∈ f.lig, 0 ≤ x.1 ∧ x.1 ≤ 1114111 ∧ 0 ≤ x.2.1 ∧ x.2.1 ≤ 1114111 ∧ 1114112 ≤ x.2.2.1 ∧ x.2.2.1 ≤ 1114120 ∧ 0 ≤ x.2.2.2 ∧ x.2.2.2 < 200
  ligA : f.lig.Pairwise fun x y => x.1 < y.1 ∨ x.1 = y.1 ∧ x.2.1 < y.2.1
  ligL : f.lig.length ≤ 4
section
variable {prim : FuncId → Option Prim} (d : Nat) (cfg : Cfg) (h : Heap)
theorem N_all (hp : ∀ f, Np5 f → prim f = none) (L : List Int) (k : Nat) (hL : L.length ≤ 4000) (hk : k ≤ L.length) (n : Int) (hn : 1 ≤ n) (hn2 : n ≤ 4000000000) :
    ∃ v k' : Nat, (v : Int) < n ∧ k' ≤ L.length ∧ ∀ (cfg : Cfg) (h : Heap) (b : Nat), blockOf h b = some [il L, .int .i64 k] → cfg.wr b = true → callM md (K prim (d + 1)) cfg 7 [.ptr b 0, .int .i64 n] h = some (.int .i64 v, h.set b (some [il L, .int .i64 k'])) := by
  have hp13 := hp 7 (by decide)
  by_cases hlt : k < L.length
  · obtain ⟨x, hx⟩ : ∃ x, L[k] = x := ⟨_, rfl⟩
    have hr := Int.tmod_lt_of_pos x (b := n) (by omega)
    have hr2 := Int.lt_tmod_of_pos x (b := n) (by omega)
    refine ⟨(if x.tmod n < 0 then x.tmod n + n else x.tmod n).toNat, k + 1, by split <;> omega, by omega, fun cfg h b hb hw => call1 rfl hp13 Tryz.func7 rfl rfl rfl ?_⟩
    have hw' : (Cfg.wr ⟨cfg.lo, cfg.ex, h.length⟩ b) = true := hw
    have hbl := blockOf_lt hb
    simp
    refine wC_draw 9 (by kernel_rfl) ?_
    have hk1 : ¬ L.length ≤ k := by omega
    have hn1 : ¬ n < 1 := by omega
    have hn0 : ¬ n = 0 := by omega
    simp [hb, hk1, hn1]
    refine wC_draw 11 (by kernel_rfl) ?_
    simp (disch := first | omega | (simp; done) | (simp; omega)) [hb, hx, hw', wrap64]
    by_cases hneg : x.tmod n < 0
    · simp (disch := first | omega | (simp; done) | (simp; omega)) [hneg, wrap64]
      exact ⟨by omega, List.take_of_length_le (by simp)⟩
    · simp (disch := first | omega | (simp; done) | (simp; omega)) [hneg]
      exact ⟨by omega, List.take_of_length_le (by simp)⟩
  · refine ⟨0, k, by omega, hk, fun cfg h b hb hw => ?_⟩
    rw [set_same hb]
    refine call1 rfl hp13 Tryz.func7 rfl rfl rfl ?_
    have hk1 : L.length ≤ k := by omega
    simp
    refine wC_draw 9 (by kernel_rfl) ?_
    simp [hb, hk1]
theorem R_all (hp : ∀ f, Np5 f → prim f = none) (L : List Int) (k : Nat) (hL : L.length ≤ 4000) (hk : k ≤ L.length) (lo hi : Int) (h1 : lo ≤ hi) (h2 : -1000000 ≤ lo) (h3 : hi ≤ 1000000) :
    ∃ (v : Int) (k' : Nat), lo ≤ v ∧ v ≤ hi ∧ k' ≤ L.length ∧ ∀ (cfg : Cfg) (h : Heap) (b : Nat), blockOf h b = some [il L, .int .i64 k] → cfg.wr b = true → callM md (K prim (d + 2)) cfg 8 [.ptr b 0, .int .i64 lo, .int .i64 hi] h = some (.int .i64 v, h.set b (some [il L, .int .i64 k'])) := by
  obtain ⟨v, k', hv, hk', hN⟩ := N_all (prim := prim) d hp L k hL hk (hi - lo + 1) (by omega) (by omega)
  refine ⟨lo + v, k', by omega, by omega, hk', fun cfg h b hb hw => call1 rfl (hp 8 (by decide)) Tryz.func8 rfl rfl rfl ?_⟩
  have hN' := hN ⟨cfg.lo, cfg.ex, h.length⟩ h b hb hw
  simp (disch := omega) [hN', wrap64]
  exact List.take_of_length_le (by simp)
theorem alph_rng : ∀ x ∈ alph, 0 ≤ x ∧ x ≤ 1114111 := by decide
set_option maxRecDepth 100000 in
theorem alphabet_at (hp : prim 23 = none) : ∀ cfg h, callM md (K prim (d + 1)) cfg 23 [] h = some (rl alph, h) := by
  intro cfg h
  refine call0 rfl hp Tryz.func23 rfl rfl rfl (by simp) ?_
  simp
  exact frz_ints (d := 4) (k := .i32) (l := alph) rfl (Nat.zero_le _) rfl
theorem md_N : md 7 = 1 := rfl
theorem md_R : md 8 = 1 := rfl
theorem bAt {H : Heap} {b : Nat} {X : Option (List V)} {Y : List V} (hY : isMap Y = false) : blockOf (H.set b X ++ [some Y]) H.length = some Y := by
  have := blockOf_len_add (h := H.set b X) (r := [some Y]) (k := 0)
  simp only [List.length_set, Nat.add_zero] at this
  rw [this]
  simp [hY]
/-- A reader's place: the block of the reader holds the list L at k. -/
structure Rd (H : Heap) (b : Nat) (L : List Int) (k : Nat) : Prop where
  blk : blockOf H b = some [il L, .int .i64 k]
  le : k ≤ L.length
theorem Rd.lt {H : Heap} {b : Nat} {L : List Int} {k : Nat} (r : Rd H b L k) : b < H.length := blockOf_lt r.blk
theorem Rd.set {H : Heap} {b : Nat} {L : List Int} {k k' : Nat} (r : Rd H b L k) (h : k' ≤ L.length) : Rd (H.set b (some [il L, .int .i64 k'])) b L k' := ⟨by have := r.lt; simp [this], h⟩
theorem Rd.push {H : Heap} {b : Nat} {L : List Int} {k : Nat} (r : Rd H b L k) (x : Heap) : Rd (H ++ x) b L k := ⟨by rw [blockOf_left r.lt]; exact r.blk, r.le⟩
/-- The heap with the reader at k. -/
abbrev hk (h : Heap) (b : Nat) (L : List Int) (k : Nat) : Heap := h.set b (some [il L, .int .i64 k])
theorem Rd.nx (hp : ∀ f, Np5 f → prim f = none) {h : Heap} {b : Nat} {L : List Int} {k0 : Nat} (r : Rd h b L k0) (hL : L.length ≤ 4000) {k : Nat} (hk1 : k ≤ L.length) (n : Int) (h1 : 1 ≤ n) (h2 : n ≤ 4000000000) :
    ∃ v k' : Nat, (v : Int) < n ∧ k' ≤ L.length ∧ ∀ (cfg : Cfg) (x : Heap), cfg.wr b = true → callM md (K prim (d + 1)) cfg 7 [.ptr b 0, .int .i64 n] (hk h b L k ++ x) = some (.int .i64 v, hk h b L k' ++ x) := by
  obtain ⟨v, k', g1, g2, g3⟩ := N_all (prim := prim) d hp L k hL hk1 n h1 h2
  refine ⟨v, k', g1, g2, fun cfg x hw => ?_⟩
  rw [g3 cfg _ b ((r.set hk1).push x).blk hw, List.set_append_left _ _ (by simpa using r.lt), List.set_set]
theorem Rd.rx (hp : ∀ f, Np5 f → prim f = none) {h : Heap} {b : Nat} {L : List Int} {k0 : Nat} (r : Rd h b L k0) (hL : L.length ≤ 4000) {k : Nat} (hk1 : k ≤ L.length) (lo hi : Int) (h1 : lo ≤ hi) (h2 : -1000000 ≤ lo) (h3 : hi ≤ 1000000) :
    ∃ (v : Int) (k' : Nat), lo ≤ v ∧ v ≤ hi ∧ k' ≤ L.length ∧ ∀ (cfg : Cfg) (x : Heap), cfg.wr b = true → callM md (K prim (d + 2)) cfg 8 [.ptr b 0, .int .i64 lo, .int .i64 hi] (hk h b L k ++ x) = some (.int .i64 v, hk h b L k' ++ x) := by
  obtain ⟨v, k', g1, g2, g4, g3⟩ := R_all (prim := prim) d hp L k hL hk1 lo hi h1 h2 h3
  refine ⟨v, k', g1, g2, g4, fun cfg x hw => ?_⟩
  rw [g3 cfg _ b ((r.set hk1).push x).blk hw, List.set_append_left _ _ (by simpa using r.lt), List.set_set]
theorem Rd.same {h : Heap} {b : Nat} {L : List Int} {k : Nat} (r : Rd h b L k) : h = hk h b L k := (set_same r.blk).symm
theorem hk_len {h : Heap} {b : Nat} {L : List Int} {k : Nat} : (hk h b L k).length = h.length := by simp
/-- The heap of a function of the generator: the reader at k, blocks X of its own behind, slices of its own anywhere. -/
structure Gn (h : Heap) (b : Nat) (L : List Int) (k : Nat) (X H : Heap) (os : List Own) : Prop where
  le : k ≤ L.length
  hp : Hp H (hk h b L k ++ X) os
theorem Gn.start {h : Heap} {b : Nat} {L : List Int} {k : Nat} (hk1 : k ≤ L.length) (X : Heap) : Gn h b L k X (hk h b L k ++ X) [] := ⟨hk1, Hp.start⟩
theorem Gn.at {h : Heap} {b : Nat} {L : List Int} {k : Nat} {X H : Heap} {os : List Own} (g : Gn h b L k X H os) (i : Nat) {Y : List V} (hX : X[i]? = some (some Y)) (hm : isMap Y = false) : blockOf H (h.length + i) = some Y := by
  have hl := (List.getElem?_eq_some_iff.1 hX).1
  rw [g.hp.block (by simp; omega), blockOf, List.getElem?_append_right (by simp), hk_len, Nat.add_sub_cancel_left, hX]
  simp [hm]
theorem Gn.put {h : Heap} {b : Nat} {L : List Int} {k : Nat} {X H : Heap} {os : List Own} (g : Gn h b L k X H os) (i : Nat) (hi : i < X.length) (Y : Option (List V)) : Gn h b L k (X.set i Y) (H.set (h.length + i) Y) os := by
  refine ⟨g.le, ?_⟩
  have := g.hp.set (b := h.length + i) (by simp; omega) Y
  rwa [List.set_append_right _ _ (by simp), hk_len, Nat.add_sub_cancel_left] at this
theorem Gn.len {h : Heap} {b : Nat} {L : List Int} {k : Nat} {X H : Heap} {os : List Own} (g : Gn h b L k X H os) : h.length + X.length ≤ H.length := by
  have := g.hp.le
  simpa using this
theorem Gn.take {h : Heap} {b : Nat} {L : List Int} {k : Nat} {X H : Heap} {os : List Own} (g : Gn h b L k X H os) : H.take h.length = hk h b L k := by
  have h1 := congrArg (List.take h.length) g.hp.take
  rw [List.take_take, Nat.min_eq_left (by simp), List.take_append_of_le_length (by simp)] at h1
  rw [h1, ← hk_len (h := h) (b := b) (L := L) (k := k), List.take_length]
theorem Gn.rd {h : Heap} {b : Nat} {L : List Int} {k k0 : Nat} {X H : Heap} {os : List Own} (g : Gn h b L k X H os) (r : Rd h b L k0) : Rd H b L k := by
  refine ⟨?_, g.le⟩
  have hl := r.lt
  rw [g.hp.block (by simp; omega), blockOf_left (by simpa using hl)]
  simp [hl]
theorem Gn.step {h : Heap} {b : Nat} {L : List Int} {k k0 k' : Nat} {X H : Heap} {os : List Own} (g : Gn h b L k X H os) (r : Rd h b L k0) (hk1 : k' ≤ L.length) : Gn h b L k' X (H.set b (some [il L, .int .i64 k'])) os := by
  have hl := r.lt
  refine ⟨hk1, ?_⟩
  have := g.hp.set (b := b) (by simp; omega) (some [il L, .int .i64 k'])
  rwa [List.set_append_left _ _ (by simpa using hl), List.set_set] at this
theorem Gn.push {h : Heap} {b : Nat} {L : List Int} {k : Nat} {X H : Heap} {os : List Own} (g : Gn h b L k X H os) (Y : Heap) : Gn h b L k X (H ++ Y) os := ⟨g.le, g.hp.push Y⟩
theorem Gn.n (hp : ∀ f, Np5 f → prim f = none) {h : Heap} {b : Nat} {L : List Int} {k k0 : Nat} {X H : Heap} {os : List Own} (g : Gn h b L k X H os) (r : Rd h b L k0) (hL : L.length ≤ 4000) (n : Int) (h1 : 1 ≤ n) (h2 : n ≤ 4000000000) :
    ∃ v k' : Nat, (v : Int) < n ∧ Gn h b L k' X (H.set b (some [il L, .int .i64 k'])) os ∧ ∀ cfg : Cfg, cfg.wr b = true → callM md (K prim (d + 1)) cfg 7 [.ptr b 0, .int .i64 n] H = some (.int .i64 v, H.set b (some [il L, .int .i64 k'])) := by
  obtain ⟨v, k', g1, g2, g3⟩ := N_all (prim := prim) d hp L k hL g.le n h1 h2
  exact ⟨v, k', g1, g.step r g2, fun cfg hw => g3 cfg H b (g.rd r).blk hw⟩
theorem Gn.r (hp : ∀ f, Np5 f → prim f = none) {h : Heap} {b : Nat} {L : List Int} {k k0 : Nat} {X H : Heap} {os : List Own} (g : Gn h b L k X H os) (r : Rd h b L k0) (hL : L.length ≤ 4000) (lo hi : Int) (h1 : lo ≤ hi) (h2 : -1000000 ≤ lo) (h3 : hi ≤ 1000000) :
    ∃ (v : Int) (k' : Nat), lo ≤ v ∧ v ≤ hi ∧ Gn h b L k' X (H.set b (some [il L, .int .i64 k'])) os ∧ ∀ cfg : Cfg, cfg.wr b = true → callM md (K prim (d + 2)) cfg 8 [.ptr b 0, .int .i64 lo, .int .i64 hi] H = some (.int .i64 v, H.set b (some [il L, .int .i64 k'])) := by
  obtain ⟨v, k', g1, g2, g4, g3⟩ := R_all (prim := prim) d hp L k hL g.le lo hi h1 h2 h3
  exact ⟨v, k', g1, g2, g.step r g4, fun cfg hw => g3 cfg H b (g.rd r).blk hw⟩
attribute [local congr] wGp_ctx
set_option maxHeartbeats 8000000 in
theorem font_ok (hp : ∀ f, Np5 f → prim f = none) (L : List Int) (k : Nat) (hL : L.length ≤ 4000) (b : Nat) (r : Rd h b L k) (hw : cfg.wr b = true) (hlo : cfg.lo ≤ h.length) :
    ∃ (f : Fnt) (k' : Nat), FntOK f ∧ k' ≤ L.length ∧ callM md (K prim (d + 3)) cfg 12 [.ptr b 0] h = some (.agg (fntC f), hk h b L k') := by
  have hw' : (Cfg.wr ⟨cfg.lo, cfg.ex, h.length⟩ b) = true := hw
  have hbl := r.lt
  suffices HH : ∃ r h2, callM md (K prim (d + 3)) cfg 12 [.ptr b 0] h = some (r, h2) ∧ ∃ f k', FntOK f ∧ k' ≤ L.length ∧ r = .agg (fntC f) ∧ h2 = hk h b L k' by
    obtain ⟨r, h2, h3, f, k', h4, h5, rfl, rfl⟩ := HH
    exact ⟨f, k', h4, h5, h3⟩
  refine call1x rfl (hp 12 (by decide)) Tryz.func12 rfl rfl rfl ?_
  have hAl := alphabet_at (prim := prim) (d + 1) (hp 23 (by decide))
  have hN := fun {k : Nat} (hk1 : k ≤ L.length) (n : Int) h1 h2 => r.nx (d + 1) hp hL hk1 n h1 h2
  have hR := fun {k : Nat} (hk1 : k ≤ L.length) (lo hi : Int) h1 h2 h3 => r.rx d hp hL hk1 lo hi h1 h2 h3
  obtain ⟨Z, hZ⟩ : ∃ Z : List V, Z = [.int .i64 0, .int .i64 0, .int .i64 0, .int .i64 0, .int .i64 0, .nils, .nils, .nils] := ⟨_, rfl⟩
  obtain ⟨u1, k1, hu1, hu1', hk1, c1⟩ := hR r.le 16 200 (by omega) (by omega) (by omega)
  obtain ⟨u2, k2, hu2, hu2', hk2, c2⟩ := hR hk1 1 100 (by omega) (by omega) (by omega)
  obtain ⟨u3, k3, hu3, hk3, c3⟩ := hN hk2 40 (by omega) (by omega)
  obtain ⟨u4, k4, hu4, hk4, c4⟩ := hN hk3 30 (by omega) (by omega)
  obtain ⟨u5, k5, hu5, hk5, c5⟩ := hN hk4 120 (by omega) (by omega)
  replace c1 := fun x => c1 ⟨cfg.lo, cfg.ex, h.length⟩ x hw'
  replace c2 := fun x => c2 ⟨cfg.lo, cfg.ex, h.length⟩ x hw'
  replace c3 := fun x => c3 ⟨cfg.lo, cfg.ex, h.length⟩ x hw'
  replace c4 := fun x => c4 ⟨cfg.lo, cfg.ex, h.length⟩ x hw'
  replace c5 := fun x => c5 ⟨cfg.lo, cfg.ex, h.length⟩ x hw'
  rw [← r.same] at c1
  have kl : ∀ k, (hk h b L k).length = h.length := fun k => by simp
  have bF : ∀ (k : Nat) (z : Option (List V)) (x : Int) (F : List V) (Y : Heap), blockOf (hk h b L k ++ z :: some (.int .i64 x :: F) :: Y) (h.length + 1) = some (.int .i64 x :: F) := fun k z x F Y => by
    have := blockOf_len_add (h := hk h b L k) (r := z :: some (.int .i64 x :: F) :: Y) (k := 1)
    rw [kl] at this
    rw [this]
    rfl
  have sF : ∀ (k : Nat) (z : Option (List V)) (F X : Option (List V)) (Y : Heap), (hk h b L k ++ z :: F :: Y).set (h.length + 1) X = hk h b L k ++ z :: X :: Y := fun k z F X Y => by
    rw [List.set_append_right _ _ (by rw [kl]; omega), kl]
    have : h.length + 1 - h.length = 1 := by omega
    rw [this]
    rfl
  have wF : (Cfg.wr ⟨cfg.lo, cfg.ex, h.length⟩ (h.length + 1)) = true := wr_lo (by omega)
  unfold hk at *
  simp (disch := omega) [c1, c2, c3, c4, c5, hAl, bF, sF, wF]
  rw [← hZ]
  clear c1 c2 c3 c4 c5 bF sF hN hR
  have hal : alph.length = 89 := rfl
  have har := alph_rng
  generalize alph = A at hal har
  refine wC_loop (fun m fr H => ∃ (i k : Nat) (at_ : Int) (va : V) (xs : List (Int × Int × Int)), i ≤ 4 ∧ m = 4 - i ∧ xs.length ≤ i ∧ -1 ≤ at_ ∧ at_ ≤ 1114111 ∧ (∀ x ∈ xs, 0 ≤ x.1 ∧ x.1 ≤ x.2.1 ∧ x.2.1 ≤ at_ ∧ 0 ≤ x.2.2 ∧ x.2.2 < 200) ∧ (xs.Pairwise fun x y => x.2.1 < y.1) ∧
    Gn h b L k [some Z, some [.int .i64 u1, .int .i64 u2, .int .i64 u3, .int .i64 u4, .int .i64 u5, va, .nils, .nils]] H [(3, va, xs.flatMap advC)] ∧
    Slots 142 [(0, .ptr b 0), (2, .ptr h.length 0), (3, .ptr (h.length + 1) 0), (4, rl A), (5, .int .i32 at_), (6, .int .i64 i)] fr) (m := 4) (by omega) ⟨0, k5, -1, .nils, [], by omega, by omega, by simp, by omega, by omega, by simp, by simp, ⟨hk5, Hp.start.nil 3⟩, by simp⟩ ?_
  rintro m fr H ⟨i, k, at_, va, xs, hi, rfl, hxl, hat1, hat2, hxs, hxp, hg, hs⟩
  obtain ⟨j, rfl⟩ := hs.ex
  clear hs
  by_cases hlt : i < 4
  · have hI : (i : Int) < 4 := by omega
    obtain ⟨v1, k1', hv1, hg1, e1⟩ := hg.n (d + 1) hp r hL 89 (by omega) (by omega)
    obtain ⟨x, hx⟩ : ∃ x, A[v1]? = some x := ⟨_, List.getElem?_eq_getElem (by omega)⟩
    have hxr := har x (List.mem_of_getElem? hx)
    simp (disch := omega) [hI, hal, e1, hx, -getElem?_pos]
    by_cases hgt : at_ < x
    · obtain ⟨v2, k2', hv2, hg2, e2⟩ := hg1.n (d + 1) hp r hL 3 (by omega) (by omega)
      simp only [List.set_set] at hg2 e2
      have hwv : IntKind.i32.wrap (v2 : Int) = v2 := wrap32 (by omega) (by omega)
      have hwx : IntKind.i32.wrap (x + v2) = x + v2 := wrap32 (by omega) (by omega)
      obtain ⟨tv, htv, ht1, ht2⟩ : ∃ tv : Int, minV [V.int .i32 (x + v2), V.int .i32 1114111] = some (.int .i32 tv) ∧ x ≤ tv ∧ tv ≤ 1114111 := by
        refine ⟨if 1114111 < x + v2 then 1114111 else x + v2, rfl, ?_, ?_⟩ <;> split <;> omega
      obtain ⟨v3, k3', hv3, hg3, e3⟩ := hg2.n (d + 1) hp r hL 200 (by omega) (by omega)
      simp only [List.set_set] at hg3 e3
      have hb2 := hg.at 1 rfl rfl
      have wF : (Cfg.wr ⟨cfg.lo, cfg.ex, h.length⟩ (h.length + 1)) = true := wr_lo (by omega)
      have hne : ¬ b = h.length + 1 := by omega
      simp (disch := omega) [hgt, e2, hwv, hwx, htv]
      refine wC_draw 8 (by kernel_rfl) ?_
      have hm := md_N
      have e3' := fun lo thr => e3 ⟨lo, [b], thr⟩ wr_ex
      have hbH := (hg.rd r).lt
      have hbn : blockOf (H.set b (some [il L, .int .i64 k3']) ++ [some [V.int .i32 x, V.int .i32 tv, V.int .i64 v3]]) H.length = some [V.int .i32 x, V.int .i32 tv, V.int .i64 v3] := bAt rfl
      simp (disch := omega) [hb2, hm, hw', e3', hne, hbH, hbn]
      have hp4 := (hg3.push [some [V.int .i32 x, V.int .i32 tv, V.int .i64 v3]])
      have hfl := flat_len (f := advC) (n := 3) (fun _ => rfl) xs
      refine wS_appO (m := 1) hp4.hp (by simp; omega) rfl rfl (by omega) (by omega) (by rw [hfl]; omega) (by rw [hfl]; omega) ?_
      intro va' H' hhp5
      have hg5 : Gn h b L k3' _ H' _ := ⟨hg3.le, hhp5⟩
      have hb5 := hg5.at 1 rfl rfl
      have hl5 := hg5.len
      have hc5 := hhp5.head.cells
      have hle5 := hhp5.head.leaf
      simp (disch := omega) [hb5, wF, hc5, wrap64]
      have hg6 := hg5.put 1 (by simp) (some [.int .i64 u1, .int .i64 u2, .int .i64 u3, .int .i64 u4, .int .i64 u5, va', .nils, .nils])
      refine Rnd_of (m' := 4 - (i + 1)) (by omega) ⟨i + 1, k3', tv, va', xs ++ [(x, tv, (v3 : Int))], by omega, by omega, by simp; omega, by omega, by omega, ?_, ?_, ?_, by simp (disch := omega)⟩
      · intro y hy
        rcases List.mem_append.1 hy with hy | hy
        · have := hxs y hy; omega
        · simp at hy
          subst hy
          simp
          omega
      · refine List.pairwise_append.2 ⟨hxp, by simp, fun y hy z hz => ?_⟩
        simp at hz
        subst hz
        have := hxs y hy
        simp
        omega
      · simpa [advC] using hg6
    · simp (disch := omega) [hgt, wrap64]
      exact Rnd_of (m' := 4 - (i + 1)) (by omega) ⟨i + 1, k1', at_, va, xs, by omega, by omega, by omega, by omega, by omega, hxs, hxp, hg1, by simp (disch := omega)⟩
  · obtain rfl : i = 4 := by omega
    simp (disch := omega)
    refine wC_loop (fun m fr H => ∃ (i k : Nat) (x y : Int) (vk : V) (ys : List (Int × Int × Int)), i ≤ 5 ∧ m = 5 - i ∧ ys.length ≤ i ∧ (∀ z ∈ ys, z.1 < x ∨ z.1 = x ∧ z.2.1 ≤ y) ∧ (∀ z ∈ ys, 0 ≤ z.1 ∧ z.1 ≤ 1114111 ∧ 0 ≤ z.2.1 ∧ z.2.1 ≤ 1114111 ∧ -60 ≤ z.2.2 ∧ z.2.2 ≤ 60) ∧ (ys.Pairwise fun x y => x.1 < y.1 ∨ x.1 = y.1 ∧ x.2.1 < y.2.1) ∧
      Gn h b L k [some Z, some [.int .i64 u1, .int .i64 u2, .int .i64 u3, .int .i64 u4, .int .i64 u5, va, vk, .nils]] H [(3, vk, ys.flatMap advC), (3, va, xs.flatMap advC)] ∧
      Slots 142 [(0, .ptr b 0), (2, .ptr h.length 0), (3, .ptr (h.length + 1) 0), (4, rl A), (9, .int .i32 x), (10, .int .i32 y), (11, .int .i64 i)] fr) (m := 5) (by omega) ⟨0, k, -1, -1, .nils, [], by omega, by omega, by simp, by simp, by simp, by simp, ⟨hg.le, hg.hp.nil 3⟩, by simp⟩ ?_
    clear hg
    rintro m fr H ⟨i, k, x, y, vk, ys, hi, rfl, hyl, hyy, hyr, hyp, hg, hs⟩
    obtain ⟨j2, rfl⟩ := hs.ex
    clear hs
    by_cases hlt : i < 5
    · have hI : (i : Int) < 5 := by omega
      obtain ⟨v1, k1', hv1, hg1, e1⟩ := hg.n (d + 1) hp r hL 12 (by omega) (by omega)
      obtain ⟨p, hpx⟩ : ∃ p, A[v1]? = some p := ⟨_, List.getElem?_eq_getElem (by omega)⟩
      have hpr := har p (List.mem_of_getElem? hpx)
      obtain ⟨v2, k2', hv2, hg2, e2⟩ := hg1.n (d + 1) hp r hL 12 (by omega) (by omega)
      simp only [List.set_set] at hg2 e2
      obtain ⟨q, hqx⟩ : ∃ q, A[v2]? = some q := ⟨_, List.getElem?_eq_getElem (by omega)⟩
      have hqr := har q (List.mem_of_getElem? hqx)
      have hm := md_N
      have e1' := fun lo thr => e1 ⟨lo, [b], thr⟩ wr_ex
      have e2' := fun lo thr => e2 ⟨lo, [b], thr⟩ wr_ex
      have hw1 := hw'
      simp (disch := omega) [hI]
      refine wC_draw 11 (by kernel_rfl) ?_
      have hbH := (hg.rd r).lt
      simp +contextual (disch := omega) [-wG_bool, wG_gd, wG_gd2, wGp_some, gd_true, pickV_gdA, pickV_gdO, hm, hw', e1', e2', hbH, hpx, hqx, -getElem?_pos]
      refine wIf_intro (fun hb => ?_) (fun hb => ?_)
      · have hlex : x < p ∨ p = x ∧ y < q := by simpa using hb
        obtain ⟨v3, k3', hv3, hv3', hg3, e3⟩ := hg2.r d hp r hL (-60) 60 (by omega) (by omega) (by omega)
        simp only [List.set_set] at hg3 e3
        have e3' := fun lo thr => e3 ⟨lo, [b], thr⟩ wr_ex
        have hb2 := hg.at 1 rfl rfl
        have wF : (Cfg.wr ⟨cfg.lo, cfg.ex, h.length⟩ (h.length + 1)) = true := wr_lo (by omega)
        have hne : ¬ b = h.length + 1 := by omega
        have hmR := md_R
        simp (disch := omega)
        refine wC_draw 8 (by kernel_rfl) ?_
        have hbn : blockOf (H.set b (some [il L, .int .i64 k3']) ++ [some [V.int .i32 p, V.int .i32 q, V.int .i64 v3]]) H.length = some [V.int .i32 p, V.int .i32 q, V.int .i64 v3] := bAt rfl
        simp (disch := omega) [hb2, hmR, hw', e3', hne, hbH, hbn]
        have hp4 := (hg3.push [some [V.int .i32 p, V.int .i32 q, V.int .i64 v3]])
        have hfl := flat_len (f := advC) (n := 3) (fun _ => rfl) ys
        refine wS_appO (m := 1) hp4.hp (by simp; omega) rfl rfl (by omega) (by omega) (by rw [hfl]; omega) (by rw [hfl]; omega) ?_
        intro vk' H' hhp5
        have hg5 : Gn h b L k3' _ H' _ := ⟨hg3.le, hhp5⟩
        have hb5 := hg5.at 1 rfl rfl
        have hl5 := hg5.len
        have hc5 := hhp5.head.cells
        simp (disch := omega) [hb5, wF, hc5, wrap64]
        have hg6 := hg5.put 1 (by simp) (some [.int .i64 u1, .int .i64 u2, .int .i64 u3, .int .i64 u4, .int .i64 u5, va, vk', .nils])
        refine Rnd_of (m' := 5 - (i + 1)) (by omega) ⟨i + 1, k3', p, q, vk', ys ++ [(p, q, v3)], by omega, by omega, by simp; omega, ?_, ?_, ?_, ?_, by simp (disch := omega)⟩
        · intro z hz
          rcases List.mem_append.1 hz with hz | hz
          · have := hyy z hz; omega
          · simp at hz; subst hz; simp
        · intro z hz
          rcases List.mem_append.1 hz with hz | hz
          · exact hyr z hz
          · simp at hz; subst hz; simp; omega
        · refine List.pairwise_append.2 ⟨hyp, by simp, fun u hu z hz => ?_⟩
          simp at hz
          subst hz
          have := hyy u hu
          simp
          omega
        · simpa [advC] using hg6
      · simp (disch := omega) [wrap64]
        exact Rnd_of (m' := 5 - (i + 1)) (by omega) ⟨i + 1, k2', x, y, vk, ys, by omega, by omega, by omega, hyy, hyr, hyp, hg2, by simp (disch := omega)⟩
    · obtain rfl : i = 5 := by omega
      simp (disch := omega)
      refine wC_loop (fun m fr H => ∃ (i k : Nat) (x y : Int) (vl : V) (ls : List (Int × Int × Int × Int)), i ≤ 4 ∧ m = 4 - i ∧ ls.length ≤ i ∧ (∀ z ∈ ls, z.1 < x ∨ z.1 = x ∧ z.2.1 ≤ y) ∧ (∀ z ∈ ls, 0 ≤ z.1 ∧ z.1 ≤ 1114111 ∧ 0 ≤ z.2.1 ∧ z.2.1 ≤ 1114111 ∧ 1114112 ≤ z.2.2.1 ∧ z.2.2.1 ≤ 1114120 ∧ 0 ≤ z.2.2.2 ∧ z.2.2.2 < 200) ∧ (ls.Pairwise fun x y => x.1 < y.1 ∨ x.1 = y.1 ∧ x.2.1 < y.2.1) ∧
        Gn h b L k [some Z, some [.int .i64 u1, .int .i64 u2, .int .i64 u3, .int .i64 u4, .int .i64 u5, va, vk, vl]] H [(4, vl, ls.flatMap ligC), (3, vk, ys.flatMap advC), (3, va, xs.flatMap advC)] ∧
        Slots 142 [(0, .ptr b 0), (2, .ptr h.length 0), (3, .ptr (h.length + 1) 0), (4, rl A), (9, .int .i32 x), (10, .int .i32 y), (14, .int .i64 i)] fr) (m := 4) (by omega) ⟨0, k, -1, -1, .nils, [], by omega, by omega, by simp, by simp, by simp, by simp, ⟨hg.le, hg.hp.nil 4⟩, by simp⟩ ?_
      clear hg
      rintro m fr H ⟨i, k, x, y, vl, ls, hi, rfl, hll, hzy, hzr, hzp, hg, hs⟩
      obtain ⟨j3, rfl⟩ := hs.ex
      clear hs
      by_cases hlt : i < 4
      · have hI : (i : Int) < 4 := by omega
        obtain ⟨v1, k1', hv1, hg1, e1⟩ := hg.n (d + 1) hp r hL 48 (by omega) (by omega)
        obtain ⟨p, hpx⟩ : ∃ p, A[v1]? = some p := ⟨_, List.getElem?_eq_getElem (by omega)⟩
        have hpr := har p (List.mem_of_getElem? hpx)
        obtain ⟨v2, k2', hv2, hg2, e2⟩ := hg1.n (d + 1) hp r hL 48 (by omega) (by omega)
        simp only [List.set_set] at hg2 e2
        obtain ⟨q, hqx⟩ : ∃ q, A[v2]? = some q := ⟨_, List.getElem?_eq_getElem (by omega)⟩
        have hqr := har q (List.mem_of_getElem? hqx)
        have hm := md_N
        have e1' := fun lo thr => e1 ⟨lo, [b], thr⟩ wr_ex
        have e2' := fun lo thr => e2 ⟨lo, [b], thr⟩ wr_ex
        have hw1 := hw'
        simp (disch := omega) [hI]
        refine wC_draw 11 (by kernel_rfl) ?_
        have hbH := (hg.rd r).lt
        simp +contextual (disch := omega) [-wG_bool, wG_gd, wG_gd2, wGp_some, gd_true, pickV_gdA, pickV_gdO, hm, hw', e1', e2', hbH, hpx, hqx, -getElem?_pos]
        refine wIf_intro (fun hb => ?_) (fun hb => ?_)
        · have hlex : x < p ∨ p = x ∧ y < q := by simpa using hb
          obtain ⟨v3, k3', hv3, hg3, e3⟩ := hg2.n (d + 1) hp r hL 9 (by omega) (by omega)
          simp only [List.set_set] at hg3 e3
          have e3' := fun lo thr => e3 ⟨lo, [b], thr⟩ wr_ex
          obtain ⟨v4, k4', hv4, hg4, e4⟩ := hg3.n (d + 1) hp r hL 200 (by omega) (by omega)
          simp only [List.set_set] at hg4 e4
          have e4' := fun lo thr => e4 ⟨lo, [b], thr⟩ wr_ex
          have hb2 := hg.at 1 rfl rfl
          have wF : (Cfg.wr ⟨cfg.lo, cfg.ex, h.length⟩ (h.length + 1)) = true := wr_lo (by omega)
          have hne : ¬ b = h.length + 1 := by omega
          simp (disch := omega)
          refine wC_draw 11 (by kernel_rfl) ?_
          have hbn : blockOf (H.set b (some [il L, .int .i64 k4']) ++ [some [V.int .i32 p, V.int .i32 q, V.int .i64 (1114112 + v3), V.int .i64 v4]]) H.length = some [V.int .i32 p, V.int .i32 q, V.int .i64 (1114112 + v3), V.int .i64 v4] := bAt rfl
          simp (disch := omega) [hb2, hm, hw', e3', e4', hne, hbH, hbn, wrap64]
          have hp4 := (hg4.push [some [V.int .i32 p, V.int .i32 q, V.int .i64 (1114112 + v3), V.int .i64 v4]])
          have hfl := flat_len (f := ligC) (n := 4) (fun _ => rfl) ls
          refine wS_appO (m := 1) hp4.hp (by simp; omega) rfl rfl (by omega) (by omega) (by rw [hfl]; omega) (by rw [hfl]; omega) ?_
          intro vl' H' hhp5
          have hg5 : Gn h b L k4' _ H' _ := ⟨hg4.le, hhp5⟩
          have hb5 := hg5.at 1 rfl rfl
          have hl5 := hg5.len
          have hc5 := hhp5.head.cells
          simp (disch := omega) [hb5, wF, hc5, wrap64]
          have hg6 := hg5.put 1 (by simp) (some [.int .i64 u1, .int .i64 u2, .int .i64 u3, .int .i64 u4, .int .i64 u5, va, vk, vl'])
          refine Rnd_of (m' := 4 - (i + 1)) (by omega) ⟨i + 1, k4', p, q, vl', ls ++ [(p, q, (1114112 + v3 : Int), (v4 : Int))], by omega, by omega, by simp; omega, ?_, ?_, ?_, ?_, by simp (disch := omega)⟩
          · intro z hz
            rcases List.mem_append.1 hz with hz | hz
            · have := hzy z hz; omega
            · simp at hz; subst hz; simp
          · intro z hz
            rcases List.mem_append.1 hz with hz | hz
            · exact hzr z hz
            · simp at hz; subst hz; simp; omega
          · refine List.pairwise_append.2 ⟨hzp, by simp, fun u hu z hz => ?_⟩
            simp at hz
            subst hz
            have := hzy u hu
            simp
            omega
          · simpa [ligC] using hg6
        · simp (disch := omega) [wrap64]
          exact Rnd_of (m' := 4 - (i + 1)) (by omega) ⟨i + 1, k2', x, y, vl, ls, by omega, by omega, by omega, hzy, hzr, hzp, hg2, by simp (disch := omega)⟩
      · obtain rfl : i = 4 := by omega
        have hb2 := hg.at 1 rfl rfl
        have hb1 := hg.at 0 (Y := Z) rfl (by rw [hZ]; rfl)
        have hl := hg.len
        rw [Nat.add_zero] at hb1
        have hlv1 := hg.hp.head.leaf
        have hlv2 := hg.hp.snd.leaf
        have hlv3 := hg.hp.thd.leaf
        have hHl : h.length < H.length := by simp at hl; omega
        have wZ : (Cfg.wr ⟨cfg.lo, cfg.ex, h.length⟩ h.length) = true := wr_lo hlo
        subst hZ
        simp (disch := omega) [hb2, hb1, hlv1, hlv2, hlv3, wZ]
        have hg7 := hg.put 0 (by simp) (some [.int .i64 u1, .int .i64 u2, .int .i64 u3, .int .i64 u4, .int .i64 u5, va, vk, vl])
        rw [Nat.add_zero] at hg7
        have f1 := OwnC.frzF (ho := hg7.hp.head) (f := ligC) (n := 4) (m := h.length) (d := 3) (fun _ => rfl) (by omega) (by simp) (fun _ => rfl) (fun x c hc => by simp [ligC] at hc; rcases hc with rfl | rfl | rfl | rfl <;> simp)
        have f2 := OwnC.frzF (ho := hg7.hp.snd) (f := advC) (n := 3) (m := h.length) (d := 3) (fun _ => rfl) (by omega) (by simp) (fun _ => rfl) (fun x c hc => by simp [advC] at hc; rcases hc with rfl | rfl | rfl <;> simp)
        have f3 := OwnC.frzF (ho := hg7.hp.thd) (f := advC) (n := 3) (m := h.length) (d := 3) (fun _ => rfl) (by omega) (by simp) (fun _ => rfl) (fun x c hc => by simp [advC] at hc; rcases hc with rfl | rfl | rfl <;> simp)
        simp only [f1, f2, f3, Option.bind_some, Function.comp, Option.map_some]
        refine ⟨_, rfl, ⟨u1, u2, u3, u4, u5, xs, ys, ls⟩, ⟨⟨hu1, hu1'⟩, ⟨hu2, hu2'⟩, by simp; omega, by simp; omega, by simp; omega, fun x hx => ?_, hxp, hxl, hyr, hyp, hyl, hzr, hzp, hll⟩, k, hg.le, rfl, hg7.take⟩
        have := hxs x hx
        omega
end
end Bi
end Go.Ab
