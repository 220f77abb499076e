/- Several texts of this proof in one. -/
import Derived.Test.YtcedojbifnangaaBiG
import Derived.Test.YtcedojbifnangaaAbW
import Derived.WalkKit
/- The first strong class; the base: the program. -/
namespace Go.Ab
open Go.Proofs
namespace Bi
theorem part_at {c : List Int} {b i : Nat} {x : Int} (hx : c[i]? = some x) (hi : i < b) : (c.take b).drop i = x :: (c.take b).drop (i + 1) := drop_at (by rw [List.getElem?_take_of_lt hi]; exact hx)
theorem part_scan (c : List Int) (b i : Nat) : mscan ((c.take b).drop i) 0 = match mscan (c.drop i) 0 with
    | some m => if m < b - i then some m else none
    | none => none := by
  rw [List.drop_take, mscan_take]
  cases mscan (c.drop i) 0 <;> rfl

section
variable {prim : FuncId → Option Prim} (d : Nat) (cfg : Cfg) (h : Heap)
set_option maxHeartbeats 2000000 in
theorem first_ok (hp : prim 54 = none) (hp2 : prim 53 = none) (c M : List Int) (hM : MOK c M) (hc : c.length ≤ 2000) (a b : Nat) (hab : a ≤ b) (hb : b ≤ c.length) :
    callM md (K prim (d + 2)) cfg 54 [il c, il M, .int .i64 a, .int .i64 b] h = some (.int .i64 (fs ((c.take b).drop a)), h) := by
  refine call0 rfl hp Try.func54 rfl rfl rfl (by simp) ?_
  have hI := fun cfg h x => ini_ok (prim := prim) d cfg h hp2 x
  simp
  refine wC_loop (fun m fr H => ∃ i : Nat, i ≤ b ∧ m = b - i ∧ fs ((c.take b).drop a) = fs ((c.take b).drop i) ∧ H = [] ∧ Slots 66 [(0, il c), (1, il M), (3, .int .i64 b), (9, .int .i64 i)] fr) (m := b - a) (by omega) ⟨a, hab, rfl, rfl, rfl, by simp⟩ ?_
  rintro m fr H ⟨i, hi, rfl, hfs, rfl, hs⟩
  obtain ⟨j, rfl⟩ := hs.ex
  clear hs
  rw [hfs]
  by_cases hlt : i < b
  · obtain ⟨x, hx⟩ : ∃ x, c[i]? = some x := ⟨_, List.getElem?_eq_getElem (by omega)⟩
    have hcons := fs_cons x ((c.take b).drop (i + 1))
    rw [← part_at hx hlt, part_scan] at hcons
    by_cases h0 : x = 0
    · rw [if_pos h0] at hcons
      simp [hlt, hx, h0, hcons, -getElem?_pos]
    · by_cases h12 : x = 1 ∨ x = 2
      · rw [if_neg h0, if_pos h12] at hcons
        rcases h12 with rfl | rfl <;> simp [hlt, hx, hcons, -getElem?_pos]
      · have h1 : ¬ x = 1 := fun e => h12 (.inl e)
        have h2 : ¬ x = 2 := fun e => h12 (.inr e)
        rw [if_neg h0, if_neg h12] at hcons
        cases hix : ini x
        · rw [hix, if_neg (by simp)] at hcons
          simp [hlt, hx, h0, h1, h2, hI, hix, -getElem?_pos]
          exact Rnd_of (m' := b - (i + 1)) (by omega) ⟨i + 1, by omega, rfl, by rw [hcons], rfl, by simp (disch := omega) [wrap64]⟩
        · rw [hix, if_pos rfl] at hcons
          have hMi := hM.at_ i x hx hix
          rcases mt_at (c := c) (i := i) (by omega) with hmt | ⟨m, hmt, him, hmc, hsc⟩
          · have hsc : mscan (c.drop (i + 1)) 0 = none := by
              unfold mt at hmt
              cases hq : mscan (c.drop (i + 1)) 0 with
              | none => rfl
              | some m => rw [hq] at hmt; simp at hmt; omega
            rw [hsc] at hcons
            rw [hmt] at hMi
            simp [hlt, hx, h0, h1, h2, hI, hix, hMi, hcons, -getElem?_pos]
          · rw [hsc] at hcons
            rw [hmt] at hMi
            by_cases hmb : m < b
            · simp only [show m - (i + 1) < b - (i + 1) by omega, if_true] at hcons
              rw [List.drop_drop, show i + 1 + (m - (i + 1) + 1) = m + 1 by omega] at hcons
              have n1 : ¬ (m : Int) < 0 := by omega
              have n2 : ¬ b ≤ m := by omega
              simp [hlt, hx, h0, h1, h2, hI, hix, hMi, n1, n2, -getElem?_pos]
              exact Rnd_of (m' := b - (m + 1)) (by omega) ⟨m + 1, by omega, rfl, by rw [hcons], rfl, by simp (disch := omega) [wrap64]⟩
            · simp only [show ¬ m - (i + 1) < b - (i + 1) by omega, if_false] at hcons
              have n1 : ¬ (m : Int) < 0 := by omega
              have n2 : b ≤ m := by omega
              simp [hlt, hx, h0, h1, h2, hI, hix, hMi, n1, n2, hcons, -getElem?_pos]
  · obtain rfl : i = b := by omega
    rw [List.drop_eq_nil_of_le (by simp; omega)]
    simp [fs_nil]

/-- The base. -/
def baseS (B : Int → Int) (t : List Int) (base : Int) : Int := if base = 0 ∨ base = 1 then base else fs (t.map B)
theorem base_ok (hp : ∀ f, f ≠ 17 ∧ f ≠ 82 → prim f = none) (B : Int → Int) (hB : ∀ cfg h r, callM md (K prim (d + 1)) cfg 20 [.int .i32 r] h = some (.int .i64 (B r), h)) (t : List Int) (ht : t.length ≤ 2000) (base : Int) :
    callM md (K prim (d + 3)) cfg 29 [rl t, .int .i64 base] h = some (.int .i64 (baseS B t base), h) := by
  refine call3 rfl (hp 29 (by decide)) Try.func29 rfl rfl rfl (args' := [rl t, .int .i64 base]) (by simp) ?_
  by_cases h01 : base = 0 ∨ base = 1
  · rcases h01 with rfl | rfl <;> simp [baseS]
  · have h0 : ¬ base = 0 := fun e => h01 (.inl e)
    have h1 : ¬ base = 1 := fun e => h01 (.inr e)
    have hC := fun cfg h => classes_ok (prim := prim) d cfg h (hp 26 (by decide)) B hB t ht
    obtain ⟨M, hMc, hMO⟩ := matching_ok (prim := prim) d (hp 28 (by decide)) (hp 53 (by decide)) (t.map B) (by simpa using ht)
    have hF := fun cfg h => first_ok (prim := prim) d cfg h (hp 54 (by decide)) (hp 53 (by decide)) (t.map B) M hMO (by simpa using ht) 0 t.length (by omega) (by simp)
    have e : ((t.map B).take t.length).drop 0 = t.map B := by rw [List.drop_zero, List.take_of_length_le (by simp)]
    rw [e] at hF
    simp at hC hMc hF
    simp [h0, h1, hC, hMc, hF, baseS]
end
end Bi
end Go.Ab
/- Explicit levels: the program's helpers. -/
namespace Go.Ab
open Go.Proofs
namespace Bi
def encE (st : List Ent) : List V := st.reverse.flatMap fun a => [V.int .i64 a.1, V.int .i64 a.2.1, V.bool a.2.2]
theorem encE_cons (a : Ent) (st : List Ent) : encE (a :: st) = encE st ++ [V.int .i64 a.1, V.int .i64 a.2.1, V.bool a.2.2] := by simp [encE]
theorem encE_len (st : List Ent) : (encE st).length = st.length * 3 := by
  induction st with
  | nil => rfl
  | cons a st ih => rw [encE_cons, List.length_append, ih]; simp; omega
theorem encE_map (st : List Ent) : isMap (encE st) = false := by
  induction st with
  | nil => rfl
  | cons a st ih => rw [encE_cons]; exact isMap_append ih rfl
theorem encE_0 (a : Ent) (r : List Ent) (J : List V) : slot (encE (a :: r) ++ J) (r.length * 3) = some (.int .i64 a.1) := by
  rw [← encE_len r, encE_cons, List.append_assoc, slot, List.getElem?_append_right (Nat.le_refl _)]
  simp
theorem encE_1 (a : Ent) (r : List Ent) (J : List V) : slot (encE (a :: r) ++ J) (r.length * 3 + 1) = some (.int .i64 a.2.1) := by
  rw [← encE_len r, encE_cons, List.append_assoc, slot, List.getElem?_append_right (by omega)]
  simp
theorem encE_2 (a : Ent) (r : List Ent) (J : List V) : slot (encE (a :: r) ++ J) (r.length * 3 + 2) = some (.bool a.2.2) := by
  rw [← encE_len r, encE_cons, List.append_assoc, slot, List.getElem?_append_right (by omega)]
  simp
theorem encE_all (a : Ent) (r : List Ent) (J : List V) : ((encE (a :: r) ++ J).drop (r.length * 3)).take 3 = [V.int .i64 a.1, V.int .i64 a.2.1, V.bool a.2.2] := by
  rw [← encE_len r, encE_cons, List.append_assoc, List.drop_left]
  rfl
theorem encE_ge (a : Ent) (r : List Ent) (J : List V) : r.length * 3 + 3 ≤ (encE (a :: r)).length + J.length := by
  rw [encE_len]; simp; omega

section
variable {prim : FuncId → Option Prim} (d : Nat) (cfg : Cfg) (h : Heap)
theorem next_ok (hp : prim 56 = none) (n : Int) (hn : 0 ≤ n ∧ n ≤ 1000) (odd : Bool) : callM md (K prim (d + 1)) cfg 56 [.int .i64 n, .bool odd] h = some (.int .i64 (nxt n odd), h) := by
  refine call0 rfl hp Try.func56 rfl rfl rfl (by simp) ?_
  have m1 : n.tmod 2 = n % 2 := Int.tmod_eq_emod_of_nonneg hn.1
  unfold nxt
  by_cases h0 : n % 2 = 0
  · cases odd <;> simp (disch := omega) [m1, h0, wrap64]
  · cases odd <;> simp (disch := omega) [m1, h0, wrap64]

theorem override_ok (hp : prim 55 = none) (t o M : List Int) (n : Nat) (e : Int) (c : List Int) (y2 X : Option (List V)) (T : Heap) (a : Ent) (r : List Ent) (b cap : Nat) (J : List V) (bi i : Nat) (hr : r.length ≤ 4000)
    (hw : cfg.wr 1 = true) (hlo : cfg.lo ≤ T.length + 7) (hn : c.length = n) (hi : i < n)
    (hb : ∀ c', blockOf (none :: some c' :: y2 :: some [rl t, il o, .sl 1 0 n n 1, il M, .sl 2 0 n n 1, .int .i64 e] :: some [.ptr 3 0] :: X :: some [.sl b 0 (r.length + 1) cap 3] :: T) b = some (encE (a :: r) ++ J))
    (hbl : b < T.length + 7) (hbi : blockOf T bi = some [.int .i64 i]) :
    callM md (K prim (d + 1)) cfg 55 [.ptr 6 0, .ptr 4 0, .ptr (bi + 1 + 1 + 1 + 1 + 1 + 1 + 1) 0] (none :: some (c.map (V.int .i64)) :: y2 :: some [rl t, il o, .sl 1 0 n n 1, il M, .sl 2 0 n n 1, .int .i64 e] :: some [.ptr 3 0] :: X :: some [.sl b 0 (r.length + 1) cap 3] :: T) =
      some (.tup [], none :: some ((if 0 ≤ a.2.1 then c.set i a.2.1 else c).map (V.int .i64)) :: y2 :: some [rl t, il o, .sl 1 0 n n 1, il M, .sl 2 0 n n 1, .int .i64 e] :: some [.ptr 3 0] :: X :: some [.sl b 0 (r.length + 1) cap 3] :: T) := by
  have hw' : ∀ q, (Cfg.wr ⟨cfg.lo, cfg.ex, q⟩ 1) = true := fun q => hw
  refine call1 rfl hp Try.func55 rfl rfl rfl ?_
  have hb1 : ∀ c' T', blockOf (none :: some c' :: y2 :: some [rl t, il o, .sl 1 0 n n 1, il M, .sl 2 0 n n 1, .int .i64 e] :: some [.ptr 3 0] :: X :: some [.sl b 0 (r.length + 1) cap 3] :: (T ++ T')) b = some (encE (a :: r) ++ J) := by
    intro c' T'
    have := blockOf_left (h := none :: some c' :: y2 :: some [rl t, il o, .sl 1 0 n n 1, il M, .sl 2 0 n n 1, .int .i64 e] :: some [.ptr 3 0] :: X :: some [.sl b 0 (r.length + 1) cap 3] :: T) (r := T') (b := b) (by simpa using hbl)
    rw [hb] at this
    simpa using this
  have hge := encE_ge a r J
  have hal := encE_all a r J
  have hwl : ∀ q, (Cfg.wr ⟨cfg.lo, cfg.ex, q⟩ (List.length T + 1 + 1 + 1 + 1 + 1 + 1 + 1)) = true := fun q => wr_lo (by omega)
  have hbil : bi < T.length := blockOf_lt hbi
  have hbi1 : ∀ x, blockOf (T ++ x) bi = some [.int .i64 i] := fun x => (blockOf_left hbil).trans hbi
  have hle : i + 1 ≤ c.length := by omega
  by_cases h0 : 0 ≤ a.2.1
  · simp (disch := omega) [hb, wrap64, hge, hal, hwl, h0]
    refine wC_draw 7 (by kernel_rfl) ?_
    simp (disch := omega) [hbi1, h0, hw', hle]
  · simp (disch := omega) [hb, wrap64, hge, hal, hwl, h0]
end
end Bi
end Go.Ab
/- Explicit levels: what holds at each rune. -/
namespace Go.Ab
open Go.Proofs
namespace Bi
structure EW (e : Int) (i : Nat) (s : ES) : Prop where
  last : s.st.getLast? = some (e, -1, false)
  cnt : s.val = (s.st.filter fun a => a.2.2).length
  rng : ∀ a ∈ s.st, 0 ≤ a.1 ∧ a.1 ≤ 125 ∧ (a.2.1 = -1 ∨ a.2.1 = a.1 % 2)
  len : s.st.length ≤ i + 1
  iso : s.iso ≤ i
  emb : s.emb ≤ i
theorem EW.zero {e : Int} (he : 0 ≤ e ∧ e ≤ 1) : EW e 0 (es0 e) := ⟨rfl, rfl, by
  intro a ha
  simp [es0] at ha
  subst ha
  exact ⟨he.1, by omega, .inl rfl⟩, by simp [es0], by simp [es0], by simp [es0]⟩
theorem EW.up {e : Int} {i j : Nat} {s : ES} (h : EW e i s) (hj : i ≤ j) : EW e j s := ⟨h.last, h.cnt, h.rng, by have := h.len; omega, by have := h.iso; omega, by have := h.emb; omega⟩
theorem EW.cons {e : Int} {i : Nat} {s : ES} (h : EW e i s) : ∃ a r, s.st = a :: r := by
  have := h.last
  cases hs : s.st with
  | nil => rw [hs] at this; simp at this
  | cons a r => exact ⟨a, r, rfl⟩
theorem EW.val {e : Int} {i : Nat} {s : ES} (h : EW e i s) : s.val ≤ i + 1 := by
  have := h.cnt
  have := List.length_filter_le (fun a : Ent => a.2.2) s.st
  have := h.len
  omega
theorem nxt_rng {n : Int} (h : 0 ≤ n) (odd : Bool) : n < nxt n odd ∧ nxt n odd ≤ n + 2 ∧ (nxt n odd % 2 = if odd then 1 else 0) := by
  unfold nxt
  cases odd
  · by_cases h0 : n % 2 = 0 <;> simp [h0] <;> omega
  · by_cases h0 : n % 2 = 0 <;> simp [h0] <;> omega
theorem EW.push {e : Int} {i : Nat} {s : ES} (h : EW e i s) (a : Ent) (ha : 0 ≤ a.1 ∧ a.1 ≤ 125 ∧ (a.2.1 = -1 ∨ a.2.1 = a.1 % 2)) (v : Nat) (hv : v = s.val + if a.2.2 then 1 else 0) : EW e (i + 1) { s with st := a :: s.st, val := v } := by
  obtain ⟨b, r, hs⟩ := h.cons
  refine ⟨?_, ?_, ?_, by have := h.len; simp; omega, by have := h.iso; simp; omega, by have := h.emb; simp; omega⟩
  · have := h.last
    rw [hs] at this ⊢
    rw [List.getLast?_cons_cons]
    exact this
  · simp only [List.filter_cons]
    rw [hv, h.cnt]
    split <;> simp
  · intro x hx
    rcases List.mem_cons.1 hx with rfl | hx
    · exact ha
    · exact h.rng x hx
theorem EW.tail {e : Int} {i : Nat} {s : ES} (h : EW e i s) (hl : 1 < s.st.length) (ht : (topE s.st).2.2 = false) : EW e i { s with st := s.st.tail } := by
  obtain ⟨b, r, hs⟩ := h.cons
  have h1 := h.last
  have h2 := h.cnt
  have h3 := h.len
  rw [hs] at h1 h2 ht hl h3
  obtain ⟨b2, r2, rfl⟩ : ∃ b2 r2, r = b2 :: r2 := by
    cases r with
    | nil => simp at hl
    | cons b2 r2 => exact ⟨b2, r2, rfl⟩
  simp only [topE] at ht
  refine ⟨?_, ?_, ?_, ?_, h.iso, h.emb⟩
  · rw [hs]; rw [List.getLast?_cons_cons] at h1; exact h1
  · rw [hs, h2]; simp [List.filter_cons, ht]
  · intro x hx
    rw [hs] at hx
    exact h.rng x (by rw [hs]; exact List.mem_cons_of_mem _ hx)
  · rw [hs]; simp at h3 ⊢; omega
/-- What is left once the last isolate has been removed. -/
theorem popI_ok : ∀ (st : List Ent) (e : Int), st.getLast? = some (e, -1, false) → 0 < (st.filter fun a => a.2.2).length →
    (popI st).getLast? = some (e, -1, false) ∧ ((popI st).filter fun a => a.2.2).length + 1 = (st.filter fun a => a.2.2).length ∧ (∀ a ∈ popI st, a ∈ st) ∧ (popI st).length < st.length
  | [], e, h, _ => by simp at h
  | a :: r, e, h, hf => by
    have hr : r ≠ [] := by
      rintro rfl
      simp at h
      subst h
      simp at hf
    obtain ⟨b, r', rfl⟩ : ∃ b r', r = b :: r' := by
      cases r with
      | nil => exact absurd rfl hr
      | cons b r' => exact ⟨b, r', rfl⟩
    rw [List.getLast?_cons_cons] at h
    cases ha : a.2.2
    · have e1 : popI (a :: b :: r') = popI (b :: r') := by rw [popI, ha]; rfl
      have e2 : (a :: b :: r').filter (fun a => a.2.2) = (b :: r').filter fun a => a.2.2 := by rw [List.filter_cons, ha]; rfl
      rw [e2] at hf ⊢
      rw [e1]
      obtain ⟨h1, h2, h3, h4⟩ := popI_ok (b :: r') e h hf
      exact ⟨h1, h2, fun x hx => List.mem_cons_of_mem _ (h3 x hx), by simp at h4 ⊢; omega⟩
    · have e1 : popI (a :: b :: r') = b :: r' := by rw [popI, ha]; rfl
      have e2 : (a :: b :: r').filter (fun a => a.2.2) = a :: (b :: r').filter fun a => a.2.2 := by rw [List.filter_cons, ha]; rfl
      rw [e1, e2]
      exact ⟨h, by simp, fun x hx => List.mem_cons_of_mem _ hx, by simp⟩

theorem EW.step {e : Int} {i : Nat} {s : ES} (h : EW e i s) (x : Int) (odd : Bool) : EW e (i + 1) (exStep e x odd s).2.2 := by
  obtain ⟨a, r, hs⟩ := h.cons
  have ha := h.rng a (by rw [hs]; exact List.mem_cons_self ..)
  have ht : topE s.st = a := by rw [hs]; rfl
  unfold exStep
  split
  · rename_i hx
    simp only
    split
    · rename_i hc
      have hn := nxt_rng ha.1 (decide (x = 16 ∨ x = 17))
      rw [ht] at hc ⊢
      refine h.push (nxt a.1 (decide (x = 16 ∨ x = 17)), ovOf x, false) ⟨by simp only; omega, hc.1, ?_⟩ s.val (by simp)
      simp only
      rw [hn.2.2]
      unfold ovOf
      rcases hx with rfl | rfl | rfl | rfl <;> simp
    · split
      · refine ⟨h.last, h.cnt, h.rng, by have := h.len; simp; omega, by have := h.iso; simp; omega, by have := h.emb; simp; omega⟩
      · exact h.up (by omega)
  · split
    · simp only
      split
      · rename_i hc
        have hn := nxt_rng ha.1 odd
        rw [ht] at hc ⊢
        exact h.push (nxt a.1 odd, -1, true) ⟨by simp only; omega, hc.1, .inl rfl⟩ (s.val + 1) (by simp)
      · refine ⟨h.last, h.cnt, h.rng, by have := h.len; simp; omega, by have := h.iso; simp; omega, by have := h.emb; simp; omega⟩
    · split
      · simp only
        split
        · refine ⟨h.last, h.cnt, h.rng, by have := h.len; simp; omega, by have := h.iso; simp; omega, by have := h.emb; simp; omega⟩
        · split
          · rename_i hv
            obtain ⟨h1, h2, h3, h4⟩ := popI_ok s.st e h.last (by rw [← h.cnt]; exact hv)
            refine ⟨h1, ?_, fun a ha => h.rng a (h3 a ha), by have := h.len; simp; omega, by have := h.iso; simp; omega, by simp⟩
            have := h.cnt
            simp only
            omega
          · exact h.up (by omega)
      · split
        · simp only
          split
          · exact h.up (by omega)
          · split
            · refine ⟨h.last, h.cnt, h.rng, by have := h.len; simp; omega, by have := h.iso; simp; omega, by have := h.emb; simp; omega⟩
            · split
              · rename_i hc
                exact (h.tail hc.2 hc.1).up (by omega)
              · exact h.up (by omega)
        · split
          · exact h.up (by omega)
          · split <;> exact h.up (by omega)

/-- What holds of the two lists before rune i. -/
structure EI (e : Int) (o : List Int) (i : Nat) (c lv : List Int) (s : ES) : Prop where
  w : EW e i s
  cl : c.length = o.length
  ll : lv.length = o.length
  ct : ∀ j, j < i → c[j]? = ((expl e o)[j]?).map (·.2)
  cd : ∀ j, i ≤ j → c[j]? = o[j]?
  lt : ∀ j, j < i → lv[j]? = ((expl e o)[j]?).map (·.1)
  rest : ∀ k, (expl e o)[i + k]? = (exGo e (o.drop i) s)[k]?
theorem exGo_len (e : Int) : ∀ (l : List Int) (s : ES), (exGo e l s).length = l.length
  | [], _ => rfl
  | x :: l, s => by simp [exGo, exGo_len e l]
theorem expl_len (e : Int) (o : List Int) : (expl e o).length = o.length := exGo_len e o _
theorem EI.zero {e : Int} {o lv : List Int} (he : 0 ≤ e ∧ e ≤ 1) (hl : lv.length = o.length) : EI e o 0 o lv (es0 e) :=
  ⟨EW.zero he, rfl, hl, fun j hj => by omega, fun j _ => rfl, fun j hj => by omega, fun k => by simp [expl]⟩
theorem EI.step {e : Int} {o c lv : List Int} {i : Nat} {s : ES} {x : Int} (h : EI e o i c lv s) (hx : o[i]? = some x) (odd : Bool) (hodd : odd = oddI x (o.drop (i + 1))) {l1 c1 : Int} {s' : ES} (hst : exStep e x odd s = (l1, c1, s')) :
    EI e o (i + 1) (c.set i c1) (lv.set i l1) s' := by
  subst hodd
  have hil := (List.getElem?_eq_some_iff.1 hx).1
  have hcl := h.cl
  have hll := h.ll
  have hr : exGo e (o.drop i) s = (l1, c1) :: exGo e (o.drop (i + 1)) s' := by rw [drop_at hx, exGo, hst]
  have h0 := h.rest 0
  rw [hr] at h0
  simp at h0
  refine ⟨?_, by simpa using hcl, by simpa using hll, fun j hj => ?_, fun j hj => ?_, fun j hj => ?_, fun k => ?_⟩
  · have := h.w.step x (oddI x (o.drop (i + 1)))
    rw [hst] at this
    exact this
  · by_cases e1 : i = j
    · subst e1; rw [List.getElem?_set_self (by omega), h0]; rfl
    · rw [List.getElem?_set_ne e1, h.ct j (by omega)]
  · rw [List.getElem?_set_ne (by omega), h.cd j (by omega)]
  · by_cases e1 : i = j
    · subst e1; rw [List.getElem?_set_self (by omega), h0]; rfl
    · rw [List.getElem?_set_ne e1, h.lt j (by omega)]
  · have := h.rest (k + 1)
    rw [hr] at this
    rw [show i + 1 + k = i + (k + 1) by omega, this]
    simp
theorem EI.fin {e : Int} {o c lv : List Int} {s : ES} (h : EI e o o.length c lv s) : c = (expl e o).map (·.2) ∧ lv = (expl e o).map (·.1) := by
  have hcl := h.cl
  have hll := h.ll
  have hel := expl_len e o
  constructor
  · apply List.ext_getElem?
    intro j
    by_cases hj : j < o.length
    · rw [h.ct j hj, List.getElem?_map]
    · rw [List.getElem?_eq_none (by omega), List.getElem?_eq_none (by simp; omega)]
  · apply List.ext_getElem?
    intro j
    by_cases hj : j < o.length
    · rw [h.lt j hj, List.getElem?_map]
    · rw [List.getElem?_eq_none (by omega), List.getElem?_eq_none (by simp; omega)]
theorem lit7 {h : Heap} {a0 a1 a2 a3 a4 y : Option (List V)} (ht : h.take 5 = [a0, a1, a2, a3, a4]) (h6 : h[6]? = some y) : ∃ X T, h = a0 :: a1 :: a2 :: a3 :: a4 :: X :: y :: T := by
  rcases h with _ | ⟨b0, _ | ⟨b1, _ | ⟨b2, _ | ⟨b3, _ | ⟨b4, _ | ⟨b5, _ | ⟨b6, T⟩⟩⟩⟩⟩⟩⟩ <;> simp at ht h6
  obtain ⟨rfl, rfl, rfl, rfl, rfl⟩ := ht
  subst h6
  exact ⟨b5, T, rfl⟩
section
variable {P : Program} {md' : FuncId → Nat} {call : Callf}
theorem wS_push {dst : Option Tmp} {fr : List V} {ops : Array Oper} {rest : List Oper} {Q : KontO} {y1 y2 y3 y4 X : Option (List V)} {v : V} {T : Heap} {st : List Ent} {N O : Int} {I : Bool} {y : Nat}
    (ho : Stk (none :: y1 :: y2 :: y3 :: y4 :: X :: some [v] :: T) 5 3 v (encE st)) (h6 : blkOf v ≠ some 6) (hv : v.leaf = true) (hl : st.length ≤ 4000) (hy : y ≤ 100)
    (H : ∀ d' X' T', (∀ y6, Stk (none :: y1 :: y2 :: y3 :: y4 :: X' :: y6 :: T') 5 3 d' (encE ((N, O, I) :: st))) → cellsOf d' = some [d'] → blkOf d' ≠ some 6 → @wO P md' call ⟨0, none, 4⟩ ⟨ops⟩ ⟨rest⟩ (put fr dst d') (none :: y1 :: y2 :: y3 :: y4 :: X' :: some [v] :: T') ⟨Q⟩) :
    @wS P md' call ⟨0, none, 4⟩ ⟨dst⟩ ⟨fr⟩ (appD ⟨0, none, 4⟩ (none :: y1 :: y2 :: y3 :: y4 :: X :: some [v] :: T) 3 y v 1 [.int .i64 N, .int .i64 O, .bool I]) ⟨ops⟩ ⟨rest⟩ ⟨Q⟩ := by
  have hsz : (st.length + 1) * y ≤ 1099511627776 := by
    have : (st.length + 1) * y ≤ 4001 * 100 := Nat.mul_le_mul (by omega) hy
    omega
  refine wS_appP (lo := 5) (cs := encE st) ho (by simp) (by simp) (by simp) rfl rfl (by omega) (by rw [encE_len, Nat.mul_div_cancel _ (by omega)]; exact hsz) (by rw [encE_len, Nat.mul_div_cancel _ (by omega)]; omega) ?_
  intro d' h' hst' hd' htk hlen' hot hb
  have hm : isMap [v] = false := by cases v <;> first | rfl | simp [V.leaf] at hv
  have h6' : h'[6]? = some (some [v]) := by
    have h1 := hot 6 h6 (by simp)
    have h2 : blockOf (none :: y1 :: y2 :: y3 :: y4 :: X :: some [v] :: T) 6 = some [v] := by simp [hm]
    rw [h2] at h1
    exact live_of_blockOf h1
  obtain ⟨X', T', rfl⟩ := lit7 (a0 := none) (a1 := y1) (a2 := y2) (a3 := y3) (a4 := y4) (by rw [htk]; rfl) h6'
  have hd6 : blkOf d' ≠ some 6 := by
    rcases hb with hb | hb
    · rw [hb]; exact h6
    · rw [hb]; simp
  refine H d' X' T' (fun y6 => ?_) hst'.cells hd6
  rw [encE_cons]
  have := hst'.set hd6 y6
  simpa using this
end
end Bi
end Go.Ab
/- What comes in, as the evaluator has it. -/
namespace Go.Ab
open Go.RowKit

/-- A slice of integers that came in: nil, or it leads to a row of cells. -/
def IsRow (k : IntKind) (w : World) (a : Option Addr) (len cap : Nat) (zs : List Int) : Prop :=
  (a = none ∧ len = 0 ∧ cap = 0 ∧ zs = []) ∨
  ∃ x, a = some x ∧ len ≤ cap ∧ cap ≤ maxLen ∧ zs.length = cap ∧ (∀ i, i < zs.length → w.cell? (x.add i) = some (.int k (zs.getD i 0))) ∧ ∀ n ∈ zs, (Lit.int k n).wf = true

theorem cell_lt {w : World} {b o : Nat} {v : Value} (h : w.cell? ⟨b, o, none⟩ = some v) : b < w.heap.size := by
  rcases Nat.lt_or_ge b w.heap.size with hb | hb
  · exact hb
  · simp [World.cell?, Array.getElem?_eq_none hb] at h

theorem isRow_R {k : IntKind} {w : World} {a : Option Addr} {len cap : Nat} {zs : List Int} (h : IsRow k w a len cap zs) : R noMu [] w (.lst ((zs.take len).map fun n => [.int k n])) (.slice a len cap) := by
  rcases h with ⟨rfl, rfl, rfl, rfl⟩ | ⟨x, rfl, hl, hm, hz, hcell, _⟩
  · exact .lst0 _ _
  · by_cases h0 : len = 0
    · subst h0; exact .lst0 _ _
    · obtain ⟨b, off, spot⟩ := x
      have hc0 := hcell 0 (by omega)
      have hspot : spot = none := by simpa [Addr.add] using World.cell?_spot hc0
      subst hspot
      have hc : ∀ i, i < cap → w.cell? ⟨b, off + i, none⟩ = some (.int k (zs.getD i 0)) := fun i hi => by
        have := hcell i (by omega)
        by_cases h0 : i = 0
        · subst h0; simpa [Addr.add] using this
        · simpa [Addr.add, h0] using this
      have hlt : b < w.heap.size := cell_lt (hc 0 (by omega))
      have hlen : ((zs.take len).map fun n => [V.int k n]).length = len := by simp; omega
      have key : ∀ (i : Nat) (e : List V), ((zs.take len).map fun n => [V.int k n])[i]? = some e → i < len ∧ e = [.int k (zs.getD i 0)] := by
        intro i e he
        have hi : i < len := by
          have := (List.getElem?_eq_some_iff.1 he).1
          omega
        refine ⟨hi, ?_⟩
        rw [List.getElem?_map, List.getElem?_take_of_lt hi, List.getElem?_eq_getElem (by omega : i < zs.length)] at he
        simp only [Option.map_some, Option.some.injEq] at he
        rw [← he, List.getD_eq_getElem?_getD, List.getElem?_eq_getElem (by omega : i < zs.length)]
        rfl
      have := R.lst (m := noMu) (h := []) (w := w) (xs := (zs.take len).map fun n => [V.int k n]) (b := b) (o := off) (k := 1) (rc := cap) (fun i _ => .int k (zs.getD i 0)) ⟨hlt, fun h => h, fun x hx => by obtain ⟨cs, hc⟩ := hx; simp at hc⟩ (by rw [hlen]; exact hl)
        (fun i e he => by rw [(key i e he).2]; rfl)
        (fun i e j c he hj => by
          obtain ⟨hi, rfl⟩ := key i e he
          match j, hj with
          | 0, _ => simpa using hc i (by omega)
          | j + 1, hj => simp at hj)
        (fun i e j c he hj => by
          obtain ⟨hi, rfl⟩ := key i e he
          match j, hj with
          | 0, hj => simp at hj; subst hj; rfl
          | j + 1, hj => simp at hj)
        (fun i e j c he hj => by
          obtain ⟨hi, rfl⟩ := key i e he
          match j, hj with
          | 0, hj => simp at hj; subst hj; exact .int _ _
          | j + 1, hj => simp at hj)
      rwa [hlen] at this

theorem pw_nil {m : Mu} {h : Heap} {w : World} : PW m h w [] #[] := ⟨rfl, by simp⟩
theorem pw_cons {m : Mu} {h : Heap} {w : World} {x : V} {v : Value} {xs : List V} {vs : List Value} (hr : R m h w x v) (ht : PW m h w xs vs.toArray) : PW m h w (x :: xs) (v :: vs).toArray := by
  refine ⟨by have := ht.1; simp at this ⊢; omega, fun i c u hc hu => ?_⟩
  cases i with
  | zero => simp at hc hu; subst hc hu; exact hr
  | succ i => exact ht.2 i c u (by simpa using hc) (by simpa using hu)
theorem agg_R {m : Mu} {h : Heap} {w : World} {cs : List V} {vs : List Value} (hp : PW m h w cs vs.toArray) : R m h w (.agg cs) (.agg vs.toArray) := .agg hp.1 hp.2
end Go.Ab
/- The classes of runes: the program's tables. -/
namespace Go.Ab
open Go.Proofs
namespace Bi
/-- A row: first, last, the classes break, word, line, bidi, join. -/
abbrev Row := Int × Int × Int × Int × Int × Int × Int
def tab1 : List Row := [(0, 8, 3, 0, 7, 9, 0), (9, 9, 3, 0, 10, 11, 0), (10, 10, 2, 1, 3, 10, 0), (11, 11, 3, 1, 1, 11, 0), (12, 12, 3, 1, 1, 12, 0), (13, 13, 1, 1, 2, 10, 0), (14, 31, 3, 0, 7, 9, 0), (32, 32, 0, 2, 4, 12, 0), (33, 33, 0, 0, 15, 13, 0), (34, 34, 0, 0, 14, 13, 0), (35, 37, 0, 0, 0, 5, 0), (38, 38, 0, 0, 0, 13, 0), (39, 39, 0, 7, 14, 13, 0), (40, 40, 0, 0, 12, 13, 0), (41, 41, 0, 0, 13, 13, 0), (42, 42, 0, 0, 0, 13, 0), (43, 43, 0, 0, 0, 4, 0), (44, 44, 0, 6, 16, 7, 0), (45, 45, 0, 0, 11, 4, 0), (46, 46, 0, 7, 16, 7, 0), (47, 47, 0, 0, 10, 7, 0), (48, 57, 0, 4, 17, 3, 0), (58, 58, 0, 5, 16, 7, 0), (59, 59, 0, 6, 16, 13, 0), (60, 62, 0, 0, 0, 13, 0), (63, 63, 0, 0, 15, 13, 0), (64, 64, 0, 0, 0, 13, 0), (65, 90, 0, 3, 0, 0, 0), (91, 91, 0, 0, 12, 13, 0), (92, 92, 0, 0, 0, 13, 0), (93, 93, 0, 0, 13, 13, 0), (94, 94, 0, 0, 0, 13, 0), (95, 95, 0, 8, 0, 13, 0), (96, 96, 0, 0, 0, 13, 0), (97, 122, 0, 3, 0, 0, 0), (123, 123, 0, 0, 12, 13, 0), (124, 124, 0, 0, 10, 13, 0), (125, 125, 0, 0, 13, 13, 0), (126, 126, 0, 0, 0, 13, 0), (127, 132, 3, 0, 7, 9, 0), (133, 133, 3, 1, 1, 10, 0), (134, 159, 3, 0, 7, 9, 0), (160, 160, 0, 0, 9, 7, 0), (161, 161, 0, 0, 12, 13, 0)]
def tab2 : List Row := [(162, 165, 0, 0, 0, 5, 0), (166, 169, 0, 0, 0, 13, 0), (170, 170, 0, 3, 0, 0, 0), (171, 171, 0, 0, 14, 13, 0), (172, 172, 0, 0, 0, 13, 0), (173, 173, 3, 10, 10, 9, 4), (174, 180, 0, 0, 0, 13, 0), (181, 181, 0, 3, 0, 0, 0), (182, 182, 0, 0, 0, 13, 0), (183, 183, 0, 5, 0, 13, 0), (184, 185, 0, 0, 0, 13, 0), (186, 186, 0, 3, 0, 0, 0), (187, 187, 0, 0, 14, 13, 0), (188, 191, 0, 0, 0, 13, 0), (192, 767, 0, 3, 0, 0, 0), (768, 879, 4, 10, 7, 8, 4), (880, 1423, 0, 3, 0, 0, 0), (1424, 1469, 4, 10, 7, 8, 4), (1470, 1470, 0, 0, 10, 1, 0), (1471, 1479, 4, 10, 7, 8, 4), (1488, 1514, 0, 3, 0, 1, 0), (1536, 1541, 7, 0, 0, 6, 0), (1548, 1548, 0, 6, 16, 7, 0), (1552, 1562, 4, 10, 7, 8, 4), (1563, 1563, 0, 0, 15, 2, 0), (1564, 1564, 3, 10, 7, 2, 4), (1567, 1567, 0, 0, 15, 2, 0), (1568, 1568, 0, 3, 0, 2, 2), (1569, 1569, 0, 3, 0, 2, 0), (1570, 1573, 0, 3, 0, 2, 1), (1574, 1574, 0, 3, 0, 2, 2), (1575, 1575, 0, 3, 0, 2, 1), (1576, 1576, 0, 3, 0, 2, 2), (1577, 1577, 0, 3, 0, 2, 1), (1578, 1582, 0, 3, 0, 2, 2), (1583, 1586, 0, 3, 0, 2, 1), (1587, 1599, 0, 3, 0, 2, 2), (1600, 1600, 0, 3, 0, 2, 3), (1601, 1607, 0, 3, 0, 2, 2), (1608, 1608, 0, 3, 0, 2, 1), (1609, 1610, 0, 3, 0, 2, 2), (1611, 1631, 4, 10, 7, 8, 4), (1632, 1641, 0, 4, 17, 6, 0), (1642, 1642, 0, 0, 0, 5, 0)]
def tab3 : List Row := [(1643, 1644, 0, 6, 16, 6, 0), (1648, 1648, 4, 10, 7, 8, 4), (1649, 1655, 0, 3, 0, 2, 1), (1656, 1671, 0, 3, 0, 2, 2), (1672, 1689, 0, 3, 0, 2, 1), (1690, 1727, 0, 3, 0, 2, 2), (1728, 1739, 0, 3, 0, 2, 1), (1740, 1747, 0, 3, 0, 2, 2), (1750, 1756, 4, 10, 7, 8, 4), (1776, 1785, 0, 4, 17, 3, 0), (2304, 2306, 4, 10, 7, 8, 0), (2307, 2307, 8, 10, 7, 0, 0), (2308, 2361, 0, 3, 0, 0, 0), (2364, 2364, 4, 10, 7, 8, 0), (2366, 2368, 8, 10, 7, 0, 0), (2369, 2376, 4, 10, 7, 8, 0), (2377, 2380, 8, 10, 7, 0, 0), (2381, 2381, 4, 10, 7, 8, 0), (2406, 2415, 0, 4, 17, 0, 0), (4352, 4447, 9, 3, 18, 0, 0), (4448, 4519, 10, 3, 18, 0, 0), (4520, 4607, 11, 3, 18, 0, 0), (8192, 8198, 0, 2, 10, 12, 0), (8199, 8199, 0, 0, 9, 12, 0), (8200, 8202, 0, 2, 10, 12, 0), (8203, 8203, 3, 0, 5, 9, 0), (8204, 8204, 4, 10, 7, 9, 0), (8205, 8205, 5, 11, 6, 9, 3), (8206, 8206, 3, 10, 7, 0, 4), (8207, 8207, 3, 10, 7, 1, 4), (8208, 8208, 0, 0, 10, 13, 0), (8209, 8209, 0, 0, 9, 13, 0), (8210, 8212, 0, 0, 10, 13, 0), (8213, 8215, 0, 0, 0, 13, 0), (8216, 8216, 0, 0, 14, 13, 0), (8217, 8217, 0, 7, 14, 13, 0), (8218, 8218, 0, 0, 12, 13, 0), (8220, 8221, 0, 0, 14, 13, 0), (8232, 8232, 3, 1, 1, 12, 0), (8233, 8233, 3, 1, 1, 10, 0), (8234, 8234, 3, 10, 7, 14, 4), (8235, 8235, 3, 10, 7, 16, 4), (8236, 8236, 3, 10, 7, 18, 4), (8237, 8237, 3, 10, 7, 15, 4)]
def tab4 : List Row := [(8238, 8238, 3, 10, 7, 17, 4), (8240, 8244, 0, 0, 0, 5, 0), (8255, 8256, 0, 8, 0, 13, 0), (8288, 8288, 3, 10, 8, 9, 4), (8294, 8294, 3, 10, 7, 19, 0), (8295, 8295, 3, 10, 7, 20, 0), (8296, 8296, 3, 10, 7, 21, 0), (8297, 8297, 3, 10, 7, 22, 0), (8352, 8399, 0, 0, 0, 5, 0), (8400, 8432, 4, 10, 7, 8, 4), (8592, 8959, 0, 0, 0, 13, 0), (9728, 10175, 14, 0, 18, 13, 0), (12288, 12288, 0, 2, 10, 12, 0), (12289, 12290, 0, 0, 13, 13, 0), (12293, 12295, 0, 0, 18, 0, 0), (12296, 12296, 0, 0, 12, 13, 0), (12297, 12297, 0, 0, 13, 13, 0), (12298, 12298, 0, 0, 12, 13, 0), (12299, 12299, 0, 0, 13, 13, 0), (12300, 12300, 0, 0, 12, 13, 0), (12301, 12301, 0, 0, 13, 13, 0), (12302, 12302, 0, 0, 12, 13, 0), (12303, 12303, 0, 0, 13, 13, 0), (12304, 12304, 0, 0, 12, 13, 0), (12305, 12305, 0, 0, 13, 13, 0), (12353, 12438, 0, 0, 18, 0, 0), (12441, 12442, 4, 10, 7, 8, 4), (12449, 12538, 0, 9, 18, 0, 0), (12540, 12540, 0, 9, 18, 0, 0), (13312, 40959, 0, 0, 18, 0, 0), (64285, 64335, 0, 3, 0, 1, 0), (64336, 65023, 0, 3, 0, 2, 0), (65024, 65039, 4, 10, 7, 8, 4), (65136, 65276, 0, 3, 0, 2, 0), (65279, 65279, 3, 10, 8, 9, 4), (127462, 127487, 6, 12, 19, 0, 0), (127744, 127994, 14, 0, 18, 13, 0), (127995, 127999, 4, 10, 7, 13, 4), (128000, 129791, 14, 0, 18, 13, 0), (131072, 262141, 0, 0, 18, 0, 0), (917760, 917999, 4, 10, 7, 8, 4)]
def rowC : Row → List V
  | (a, b, c, d, e, f, g) => [.int .i32 a, .int .i32 b, .int .u8 c, .int .u8 d, .int .u8 e, .int .u8 f, .int .u8 g]
def zrow : Row := (0, 0, 0, 0, 0, 0, 0)
def tcells (t : List Row) : List V := t.flatMap rowC
theorem rowC_len (x : Row) : (rowC x).length = 7 := rfl
theorem tcells_len : ∀ t : List Row, (tcells t).length = t.length * 7
  | [] => rfl
  | x :: t => by
    have ih := tcells_len t
    simp only [tcells, List.flatMap_cons, List.length_append, rowC_len, List.length_cons] at ih ⊢
    omega
theorem tcells_rf (t : List Row) : (tcells t).all V.rf = true := by
  simp only [tcells, List.all_flatMap]
  rw [List.all_eq_true]
  intro x _
  rfl
theorem tcells_leaf (t : List Row) : (tcells t).all V.leaf = true := by
  simp only [tcells, List.all_flatMap]
  rw [List.all_eq_true]
  intro x _
  rfl
theorem tcells_nn (t : List Row) : ∀ c ∈ tcells t, c ≠ V.nils := by
  intro c hc
  simp only [tcells, List.mem_flatMap] at hc
  obtain ⟨x, _, hx⟩ := hc
  simp only [rowC, List.mem_cons, List.not_mem_nil, or_false] at hx
  rcases hx with rfl | rfl | rfl | rfl | rfl | rfl | rfl <;> simp
theorem tcells_map (t : List Row) : isMap (tcells t) = false := by cases t <;> rfl
theorem tcells_chunk : ∀ t : List Row, chunk 7 t.length (tcells t) = t.map rowC
  | [] => rfl
  | x :: t => by
    have e : tcells (x :: t) = rowC x ++ tcells t := rfl
    rw [e, List.length_cons, chunk, List.map_cons, List.take_left' (rowC_len x), List.drop_left' (rowC_len x), tcells_chunk t]
theorem frz_rows {h : Heap} {b : Nat} {t : List Row} (hb : blockOf h b = some (tcells t)) : frzA h (.sl b 0 t.length t.length 7) = some (.lst (t.map rowC)) := by
  have ho : OwnC h 0 7 (.sl b 0 t.length t.length 7) (tcells t) := .inr ⟨b, t.length, rfl, tcells_len t, Nat.zero_le _, hb⟩
  unfold frzA
  rw [ho.frz (d := 4) (Nat.zero_le _) (tcells_rf t) (tcells_nn t) (by omega), tcells_len, Nat.mul_div_cancel _ (by omega), tcells_chunk]
  rfl

/-- The first row that ends at or behind r, if it holds r. -/
def searchS (t : List Row) (r : Int) : Row := match t.find? fun x => decide (r ≤ x.2.1) with
  | some x => if x.1 ≤ r then x else zrow
  | none => zrow
theorem find_at (t : List Row) (p : Row → Bool) : ∀ i : Nat, (∀ (j : Nat) (x : Row), j < i → t[j]? = some x → p x = false) → (∀ x, t[i]? = some x → p x = true) → t.find? p = t[i]? := by
  induction t with
  | nil => intro i _ _; simp
  | cons a t ih =>
    intro i h1 h2
    rcases i with _ | i
    · simp at h2
      simp [h2]
    · have h0 := h1 0 a (by omega) rfl
      rw [List.find?_cons, h0]
      simp only
      rw [ih i (fun j x hj hx => h1 (j + 1) x (by omega) (by simpa using hx)) (fun x hx => h2 x (by simpa using hx))]
      simp

section
variable {prim : FuncId → Option Prim} (d : Nat) (cfg : Cfg) (h : Heap)

set_option maxHeartbeats 1000000 in
theorem search_ok (hp : prim 76 = none) (t : List Row) (ht : t.length ≤ 100) (hso : ∀ (i j : Nat) (x y : Row), i < j → t[i]? = some x → t[j]? = some y → x.2.1 < y.2.1) (r : Int) {args : List V} (ha : args.mapM (frzA h) = some [.lst (t.map rowC), .int .i32 r]) :
    callM md (K prim (d + 1)) cfg 76 args h = some (.agg (rowC (searchS t r)), h) := by
  refine call3 rfl hp Try.func76 rfl rfl rfl (args' := [.lst (t.map rowC), .int .i32 r]) ha ?_
  simp
  refine wC_loop (fun m fr H => ∃ (lo hi : Nat), lo ≤ hi ∧ hi ≤ t.length ∧ m = hi - lo ∧ (∀ (j : Nat) (x : Row), j < lo → t[j]? = some x → x.2.1 < r) ∧ (∀ (j : Nat) (x : Row), hi ≤ j → t[j]? = some x → r ≤ x.2.1) ∧ H = [some (rowC zrow)] ∧
    Slots 45 [(0, .lst (t.map rowC)), (1, .int .i32 r), (4, .ptr 0 0), (5, .int .i64 lo), (6, .int .i64 hi)] fr) (m := t.length) (by omega) ⟨0, t.length, by omega, by omega, by omega, fun j x h => by omega, (fun j x hj hx => by rw [List.getElem?_eq_none hj] at hx; cases hx), rfl, by simp⟩ ?_
  rintro m fr H ⟨lo, hi, hlh, hhl, rfl, hlo, hhi, rfl, hs⟩
  obtain ⟨j, rfl⟩ := hs.ex
  clear hs
  by_cases hlt : lo < hi
  · have hm : ((lo : Int) + hi).tdiv 2 = ((lo + hi) / 2 : Nat) := by rw [Int.tdiv_eq_ediv_of_nonneg (by omega)]; omega
    have hml : (lo + hi) / 2 < t.length := by omega
    obtain ⟨x, hx⟩ : ∃ x, t[(lo + hi) / 2]? = some x := ⟨_, List.getElem?_eq_getElem hml⟩
    obtain ⟨x1, x2, x3, x4, x5, x6, x7⟩ := x
    have hm : ((lo : Int) + hi).tdiv 2 = ((lo : Int) + hi) / 2 := Int.tdiv_eq_ediv_of_nonneg (by omega)
    have hm2 : (((lo : Int) + hi) / 2).toNat = (lo + hi) / 2 := by omega
    have hm3 : ((lo : Int) + hi) / 2 = ((lo + hi) / 2 : Nat) := by omega
    simp (disch := omega) [hlt, hm, hm2, hx, rowC, wrap64, -getElem?_pos]
    by_cases hc : x2 < r
    · simp (disch := omega) [hc, wrap64]
      refine Rnd_of (m' := hi - ((lo + hi) / 2 + 1)) (by omega) ⟨(lo + hi) / 2 + 1, hi, by omega, hhl, rfl, fun j y hj hy => ?_, hhi, rfl, by simp (disch := omega)⟩
      by_cases e : j = (lo + hi) / 2
      · subst e; rw [hx] at hy; cases hy; exact hc
      · have := hso j _ y _ (by omega) hy hx
        simp only at this
        omega
    · simp [hc]
      refine Rnd_of (m' := (lo + hi) / 2 - lo) (by omega) ⟨lo, (lo + hi) / 2, by omega, by omega, rfl, hlo, fun j y hj hy => ?_, rfl, by simp⟩
      by_cases e : j = (lo + hi) / 2
      · subst e; rw [hx] at hy; cases hy; simp; omega
      · have := hso _ j _ y (by omega) hx hy
        simp at this
        omega
  · obtain rfl : lo = hi := by omega
    have hfind : t.find? (fun x => decide (r ≤ x.2.1)) = t[lo]? := find_at t _ lo (fun j x hj hx => by have := hlo j x hj hx; simp; omega) (fun x hx => by have := hhi lo x (Nat.le_refl _) hx; simpa using this)
    unfold searchS
    rw [hfind]
    by_cases hlt : lo < t.length
    · obtain ⟨⟨x1, x2, x3, x4, x5, x6, x7⟩, hx⟩ : ∃ x, t[lo]? = some x := ⟨_, List.getElem?_eq_getElem hlt⟩
      by_cases hc : x1 ≤ r
      · simp (disch := omega) [hlt, hx, rowC, hc, own, -getElem?_pos]
      · simp (disch := omega) [hlt, hx, rowC, hc, own, zrow, -getElem?_pos]
    · rw [List.getElem?_eq_none (by omega)]
      simp [hlt, own, rowC, zrow]
end
end Bi
end Go.Ab
