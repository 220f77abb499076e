/- The generator's valid texts; Gather. -/
import Derived.Test.YtkiepcknigbhpaaGreatTrK
import Derived.Test.YtkiepcknigbhpaaGreatTrL
import Derived.Test.YtkiepcknigbhpaaGreatAbW6
namespace Go.Ab
open Go.Proofs
namespace Tr

@[simp] theorem elemsOf_rl {h : Heap} {l : List Int} : elemsOf h (rl l) = some (l.map (V.int .i32)) := by
  simp only [elemsOf]
  induction l with
  | nil => rfl
  | cons x l ih => simp [List.mapM_cons] at ih ⊢; simp [ih]
theorem runesIn_ints : ∀ l : List Int, runesIn (l.map (V.int .i32)) = some l
  | [] => rfl
  | x :: l => by simp [runesIn, runesIn_ints l]
@[simp] theorem cv25_9 {h : Heap} {x : V} : convV Tryz.prog h 25 9 x = ((elemsOf h x).bind runesIn).map fun ns => (.str (encAll ns), h) := by
  have h1 : Tryz.prog.underlying 25 = some (.slice 21) := by kernel_rfl
  have h2 : Tryz.prog.underlying 9 = some .string := by kernel_rfl
  have h3 : Tryz.prog.underlying 21 = some (.int .i32) := by kernel_rfl
  simp only [convV, h1, h2, h3]
  cases elemsOf h x with
  | none => rfl
  | some cs => simp only [Option.bind_some]; cases runesIn cs <;> rfl

section
variable {prim : FuncId → Option Prim} (d : Nat) (cfg : Cfg) (h : Heap)

theorem svalid_ok (hp : prim 71 = none) (b : Nat) (l : List Int) :
    ∃ l' : List Int, l'.all scal = true ∧ callM md (K prim (d + 1)) cfg 71 [.ptr b 0, rl l] h = some (rl l', h) := by
  refine ⟨runesOf (encAll l) (encAll l).size 0, runes_scal _ _ _, call1 rfl hp Tryz.func71 rfl rfl rfl ?_⟩
  simp [runesIn_ints]
  exact frz_ints (d := 4) (k := .i32) (by simp) (Nat.le_refl _) rfl

theorem Valid_ok (hp : ∀ f, f ≠ 15 → prim f = none) (L : List Int) (k : Nat) (hL : L.length ≤ 4000) (hk : k ≤ L.length) (n : Nat) (hn : n ≤ 1000) (b : Nat) (hb : blockOf h b = some [il L, .int .i64 k]) (hw : cfg.wr b = true) (hlo : cfg.lo ≤ h.length) :
    ∃ (l : List Int) (k' : Nat), l.length ≤ n ∧ l.all scal = true ∧ k' ≤ L.length ∧ callM md (K prim (d + 5)) cfg 45 [.ptr b 0, .int .i64 n] h = some (rl l, h.set b (some [il L, .int .i64 k'])) := by
  obtain ⟨l, k1, _, hk1, hT⟩ := text_ok (prim := prim) d ⟨cfg.lo, cfg.ex, h.length⟩ h hp L k hL hk n hn b hb hw hlo
  obtain ⟨l', hs, hV⟩ := svalid_ok (prim := prim) (d + 3) ⟨cfg.lo, cfg.ex, h.length⟩ (h.set b (some [il L, .int .i64 k1])) (hp 71 (by decide)) b l
  by_cases hlen : n < l'.length
  · refine ⟨l'.take n, k1, by simp; omega, ?_, hk1, call1 rfl (hp 45 (by decide)) Tryz.func45 rfl rfl rfl ?_⟩
    · rw [List.all_eq_true] at hs ⊢
      exact fun x hx => hs x (List.mem_of_mem_take hx)
    · simp (disch := omega) [hT, hV, hlen]
      exact List.take_of_length_le (by simp)
  · refine ⟨l', k1, by omega, hs, hk1, call1 rfl (hp 45 (by decide)) Tryz.func45 rfl rfl rfl ?_⟩
    simp (disch := omega) [hT, hV, hlen]
    exact List.take_of_length_le (by simp)
end

/-- The cells of runs. -/
def pc (r : List (Int × Int)) : List V := r.flatMap fun x => [V.int .i64 x.1, V.int .i64 x.2]
theorem pc_snoc (r : List (Int × Int)) (x : Int × Int) : pc (r ++ [x]) = pc r ++ [V.int .i64 x.1, V.int .i64 x.2] := by simp [pc]
theorem pc_len (r : List (Int × Int)) : (pc r).length = r.length * 2 := by
  induction r with
  | nil => rfl
  | cons x r ih => simp only [pc, List.flatMap_cons, List.length_append, List.length_cons, List.length_nil] at ih ⊢; omega
theorem pc_map (r : List (Int × Int)) : isMap (pc r) = false := by cases r <;> rfl
theorem pc_rf (r : List (Int × Int)) : (pc r).all V.rf = true := by simp [pc, List.all_flatMap]
theorem pc_nn (r : List (Int × Int)) : ∀ c ∈ pc r, c ≠ V.nils := by
  intro c hc
  simp only [pc, List.mem_flatMap] at hc
  obtain ⟨x, _, hx⟩ := hc
  simp at hx
  rcases hx with rfl | rfl <;> simp
theorem pc_chunk (r : List (Int × Int)) : chunk 2 r.length (pc r) = r.map fun x => [V.int .i64 x.1, V.int .i64 x.2] := by
  induction r with
  | nil => rfl
  | cons x r ih =>
    have e : pc (x :: r) = V.int .i64 x.1 :: V.int .i64 x.2 :: pc r := rfl
    simp [chunk, e, ih]

def gstep (r : List (Int × Int)) (x : Int) : List (Int × Int) :=
  match r.getLast? with
  | some y => if x = y.2 then r.dropLast ++ [(y.1 + 1, y.2)] else r ++ [(1, x)]
  | none => [(1, x)]
def gath (m : List Int) : List (Int × Int) := m.foldl gstep []
theorem gath_snoc (m : List Int) (x : Int) : gath (m ++ [x]) = gstep (gath m) x := by simp [gath]

/-- What is so of runs that were gathered. -/
structure GOK (m : List Int) (r : List (Int × Int)) : Prop where
  last : r.getLast?.map (·.2) = m.getLast?
  sum : sumL r = m.length
  pos : ∀ x ∈ r, 1 ≤ x.1
  mem : ∀ x ∈ r, x.2 ∈ m
  al : alikeL r = false
  len : r.length ≤ m.length

theorem snoc_of {α : Type} {r : List α} {y : α} (h : r.getLast? = some y) : ∃ r', r = r' ++ [y] := by
  rcases List.eq_nil_or_concat r with rfl | ⟨r', z, rfl⟩
  · simp at h
  · simp at h; subst h; exact ⟨r', by simp⟩

theorem gok_snoc {m : List Int} {r : List (Int × Int)} (h : GOK m r) (x : Int) : GOK (m ++ [x]) (gstep r x) := by
  unfold gstep
  cases hl : r.getLast? with
  | none =>
    have : r = [] := List.getLast?_eq_none_iff.1 hl
    subst this
    have hm : m.length = 0 := by have := h.sum; simp [sumL] at this; omega
    have hm : m = [] := List.length_eq_zero_iff.1 hm
    subst hm
    exact ⟨rfl, rfl, by simp, by simp, rfl, by simp⟩
  | some y =>
    obtain ⟨r', rfl⟩ := snoc_of hl
    simp only [List.dropLast_concat]
    have hs := h.sum
    rw [sum_snoc] at hs
    have hal := h.al
    rw [alike_snoc] at hal
    split
    · rename_i hx
      subst hx
      refine ⟨by simp, by rw [sum_snoc]; simp; omega, ?_, ?_, ?_, by have := h.len; simp at this ⊢; omega⟩
      · intro z hz
        rcases List.mem_append.1 hz with hz | hz
        · exact h.pos z (List.mem_append_left _ hz)
        · simp at hz; subst hz
          have := h.pos y (by simp)
          simp; omega
      · intro z hz
        rcases List.mem_append.1 hz with hz | hz
        · exact List.mem_append_left _ (h.mem z (List.mem_append_left _ hz))
        · simp at hz; subst hz; simp
      · rw [alike_snoc]; exact hal
    · rename_i hx
      refine ⟨by simp, by rw [sum_snoc, sum_snoc]; simp; omega, ?_, ?_, ?_, by have := h.len; simp at this ⊢; omega⟩
      · intro z hz
        rcases List.mem_append.1 hz with hz | hz
        · exact h.pos z hz
        · simp at hz; subst hz; simp
      · intro z hz
        rcases List.mem_append.1 hz with hz | hz
        · exact List.mem_append_left _ (h.mem z hz)
        · simp at hz; subst hz; simp
      · rw [alike_snoc, h.al]
        simp
        exact fun e => hx e.symm
theorem gok (m : List Int) : GOK m (gath m) := by
  have : ∀ (m a : List Int) (r : List (Int × Int)), GOK a r → GOK (a ++ m) (m.foldl gstep r) := by
    intro m
    induction m with
    | nil => intro a r h; simpa using h
    | cons x m ih =>
      intro a r h
      have := ih (a ++ [x]) _ (gok_snoc h x)
      simpa using this
  exact this m [] [] ⟨rfl, rfl, by simp, by simp, rfl, by simp⟩

@[simp] theorem appD_nil0 {cfg : Cfg} {h : Heap} {k y : Nat} : appD cfg h k y .nils 0 [] = some (.nils, h) := by simp [appD, roomy]
@[simp] theorem flat_ints {k : IntKind} {l : List Int} : (l.map fun n => [V.int k n]).flatten = l.map (V.int k) := by
  induction l with
  | nil => rfl
  | cons x l ih => simp [ih]
theorem set_pc {r : List (Int × Int)} {l mk l' : Int} : setS (pc r ++ [V.int .i64 l, V.int .i64 mk]) (r.length * 2) (.int .i64 l') = pc r ++ [V.int .i64 l', V.int .i64 mk] := by
  rw [← pc_len, setS, List.set_append_right _ _ (Nat.le_refl _)]
  simp
theorem slot_pc {r : List (Int × Int)} {l mk : Int} : slot (pc r ++ [V.int .i64 l, V.int .i64 mk]) (r.length * 2) = some (.int .i64 l) := by
  rw [← pc_len, slot, List.getElem?_append_right (Nat.le_refl _)]
  simp

section
variable {prim : FuncId → Option Prim} (d : Nat) (cfg : Cfg) (h : Heap)

set_option maxHeartbeats 4000000 in
theorem gather_ok (hp : prim 46 = none) (t m : List Int) (hm : m.length = t.length) (ht : t.length ≤ 1000) {args : List V} (ha : args.mapM (frzA h) = some [rl t, il m]) :
    callM md (K prim (d + 1)) cfg 46 args h = some (.agg [rl t, ml (gath m)], h) := by
  refine call3 rfl hp Tryz.func46 rfl rfl rfl (args' := [rl t, il m]) ha ?_
  by_cases h0 : t = []
  · subst h0
    simp at hm
    subst hm
    simp
    refine wC_loop (fun m fr h => m = 0 ∧ h = [some [.nils, .nils], some [.nils, .nils]] ∧ Slots 53 [(0, rl []), (1, il []), (4, .ptr 0 0), (5, .ptr 1 0), (6, .int .i64 0)] fr) (m := 0) (by omega) ⟨rfl, rfl, by simp⟩ ?_
    rintro m fr h ⟨rfl, rfl, hs⟩
    obtain ⟨j, rfl⟩ := hs.ex
    clear hs
    simp [own, gath]
  · have htl : 0 < t.length := List.length_pos_iff.2 h0
    simp
    rw [appD_nils (by omega) (by omega) htl, wS_some]
    simp
    refine wC_loop (fun mm fr H => ∃ (i : Nat) (rv : V), i ≤ t.length ∧ mm = t.length - i ∧ Hp H [some [.nils, .nils], some (t.map (V.int .i32)), some [.sl 1 0 t.length t.length 1, rv]] [(2, rv, pc (gath (m.take i)))] ∧
        Slots 53 [(0, rl t), (1, il m), (4, .ptr 0 0), (5, .ptr 2 0), (6, .int .i64 i)] fr) (m := t.length) (by omega) ⟨0, .nils, by omega, by omega, Hp.start.nil 2, by simp⟩ ?_
    rintro mm fr H ⟨i, rv, hi, rfl, hH, hs⟩
    obtain ⟨j, rfl⟩ := hs.ex
    clear hs
    have hb2 : blockOf H 2 = some [.sl 1 0 t.length t.length 1, rv] := hH.block (by simp)
    by_cases hlt : i < t.length
    · obtain ⟨x, hx⟩ : ∃ x, m[i]? = some x := ⟨m[i], List.getElem?_eq_getElem (by omega)⟩
      have hg := gok (m.take i)
      have hgl : (gath (m.take i)).length ≤ i := by have := hg.len; simp at this; omega
      have hsn := take_snoc' m i x hx
      have hlast : ∀ y, (gath (m.take i)).getLast? = some y → ∃ k, i = k + 1 ∧ m[k]? = some y.2 := by
        intro y hy
        have := hg.last
        rw [hy] at this
        rcases i with _ | k
        · simp at this
        · obtain ⟨z, hz⟩ : ∃ z, m[k]? = some z := ⟨m[k], List.getElem?_eq_getElem (by omega)⟩
          rw [last_take m k z hz] at this
          exact ⟨k, rfl, by rw [hz, ← this]; rfl⟩
      have hsum := hg.sum
      rw [List.length_take, Nat.min_eq_left (by omega)] at hsum
      simp (disch := omega) [hlt]
      rw [← wC_seq]
      refine wC_mid (fun fr H => ∃ (rv : V) (r : List (Int × Int)) (l mk : Int), Hp H [some [.nils, .nils], some (t.map (V.int .i32)), some [.sl 1 0 t.length t.length 1, rv]] [(2, rv, pc (r ++ [(l, mk)]))] ∧ gath (m.take (i + 1)) = r ++ [(l + 1, mk)] ∧ 0 ≤ l ∧ l ≤ 1000 ∧ r.length ≤ 1000 ∧
        Slots 53 [(0, rl t), (1, il m), (4, .ptr 0 0), (5, .ptr 2 0), (6, .int .i64 i)] fr) ?_ ?_
      · simp
        refine wC_draw 12 (by kernel_rfl) ?_
        by_cases hi0 : i = 0
        · have hnil : gath (m.take i) = [] := by subst hi0; rfl
          have hgs : gath (m.take (i + 1)) = gath (m.take i) ++ [(0 + 1, x)] := by rw [hsn, gath_snoc, gstep, hnil]; rfl
          simp [hi0]
          refine wC_draw 8 (by kernel_rfl) ?_
          have hx0 := hx
          rw [hi0] at hx0
          simp (disch := omega) [hb2, hx0, -getElem?_pos]
          refine wS_appO (k := 2) (hH.push _) (by simp) (by simp) rfl (by omega) (by omega) (by simp [hnil, pc]) (by simp [hnil, pc]) ?_
          intro d' H' hH'
          have hb2' : blockOf H' 2 = some [.sl 1 0 t.length t.length 1, rv] := hH'.block (by simp)
          simp [hb2', hH'.head.cells]
          refine Mid_of ⟨d', gath (m.take i), 0, x, ?_, hgs, by omega, by omega, by omega, by simp [hi0]⟩
          rw [pc_snoc]
          exact hH'.set (b := 2) (by simp) _
        · obtain ⟨k, rfl⟩ : ∃ k, i = k + 1 := ⟨i - 1, by omega⟩
          obtain ⟨y, hy⟩ : ∃ y, m[k]? = some y := ⟨m[k], List.getElem?_eq_getElem (by omega)⟩
          have hla := hg.last
          rw [last_take m k y hy] at hla
          obtain ⟨z, hz, hzy⟩ : ∃ z, (gath (m.take (k + 1))).getLast? = some z ∧ z.2 = y := by
            cases hq : (gath (m.take (k + 1))).getLast? with
            | none => rw [hq] at hla; simp at hla
            | some z => rw [hq] at hla; exact ⟨z, rfl, by simpa using hla⟩
          have hk0 : ¬ (k : Int) + 1 = 0 := by omega
          have hkk : ((k : Int) + 1 - 1).toNat = k := by omega
          by_cases hxy : x = y
          · obtain ⟨r', hr'⟩ := snoc_of hz
            have hgs : gath (m.take (k + 1 + 1)) = r' ++ [(z.1 + 1, z.2)] := by rw [hsn, gath_snoc, gstep, hz, hr']; simp [hxy, hzy]
            have hz1 := hg.pos z (by rw [hr']; simp)
            have hsb := hsum
            rw [hr', sum_snoc] at hsb
            have hs0 : ∀ (r : List (Int × Int)), (∀ x ∈ r, 1 ≤ x.1) → 0 ≤ sumL r := by
              intro r
              induction r with
              | nil => intro _; simp [sumL]
              | cons a r ih =>
                intro h
                have h1 := ih (fun x hx => h x (List.mem_cons_of_mem _ hx))
                have h2 := h a (List.mem_cons_self ..)
                simp only [sumL, List.map_cons, List.sum_cons] at h1 ⊢
                omega
            have := hs0 r' (fun x hx => hg.pos x (by rw [hr']; exact List.mem_append_left _ hx))
            rw [hr'] at hH hgl
            simp at hgl
            simp (disch := omega) [hk0, hx, hy, hxy, wrap64, -getElem?_pos]
            exact Mid_of ⟨rv, r', z.1, z.2, hH, hgs, by omega, by omega, by omega, by simp⟩
          · have hgs : gath (m.take (k + 1 + 1)) = gath (m.take (k + 1)) ++ [(0 + 1, x)] := by rw [hsn, gath_snoc, gstep, hz]; simp [hxy, hzy]
            simp (disch := omega) [hk0, hx, hy, hxy, wrap64, -getElem?_pos]
            refine wC_draw 8 (by kernel_rfl) ?_
            simp (disch := omega) [hb2, hx, -getElem?_pos]
            refine wS_appO (k := 2) (hH.push _) (by simp) (by simp) rfl (by omega) (by omega) (by simp [pc_len]; omega) (by simp [pc_len]; omega) ?_
            intro d' H' hH'
            have hb2' : blockOf H' 2 = some [.sl 1 0 t.length t.length 1, rv] := hH'.block (by simp)
            simp [hb2', hH'.head.cells]
            refine Mid_of ⟨d', gath (m.take (k + 1)), 0, x, ?_, hgs, by omega, by omega, by omega, by simp⟩
            rw [pc_snoc]
            exact hH'.set (b := 2) (by simp) _
      · clear hH hb2
        rintro fr H ⟨rv, r, l, mk, hH, hgs, hl0, hl1, hrl, hs⟩
        obtain ⟨j, rfl⟩ := hs.ex
        clear hs
        have hb2 : blockOf H 2 = some [.sl 1 0 t.length t.length 1, rv] := hH.block (by simp)
        obtain ⟨b, n, rfl, hn, hb1, hbl, hbk⟩ := hH.head.pos (by simp [pc_snoc])
        simp [pc_len] at hn hb1
        obtain rfl : n = r.length + 1 := by omega
        simp only [pc_snoc] at hbk
        have hbs := slot_pc (r := r) (l := l) (mk := mk)
        have hH2 := hH.setO (cs' := pc (r ++ [(l + 1, mk)])) (pc_map _) (by simp [pc_len])
        simp only [pc_snoc] at hH2
        simp (disch := omega) [hb2, hbk, hbs, set_pc, pc_len, wrap64]
        refine Rnd_of (m' := t.length - (i + 1)) (by omega) ⟨i + 1, .sl b 0 (r.length + 1) (r.length + 1) 2, by omega, rfl, ?_, by simp⟩
        rw [hgs, pc_snoc]
        exact hH2
    · have hb0 : blockOf H 0 = some [.nils, .nils] := hH.block (by simp)
      have h0l : 0 < H.length := blockOf_lt hb0
      have hH2 := hH.set (b := 0) (by simp) (some [.sl 1 0 t.length t.length 1, rv])
      have hfz := hH2.head.frz (n := 0) (d := 3) (Nat.zero_le _) (pc_rf _) (pc_nn _) (by omega)
      simp only [pc_len, Nat.mul_div_cancel _ (show 0 < 2 by omega), pc_chunk] at hfz
      have hft : blockOf (H.set 0 (some [.sl 1 0 t.length t.length 1, rv])) 1 = some (t.map (V.int .i32)) := by rw [hH2.block (by simp)]; simp
      rw [List.take_of_length_le (by omega)] at hfz
      have how := hH2.head.own (d := 3) (fun c hc => by
        simp only [pc, List.mem_flatMap] at hc
        obtain ⟨x, _, hx⟩ := hc
        simp at hx
        rcases hx with rfl | rfl <;> rfl)
      have hown1 : own (H.set 0 (some [.sl 1 0 t.length t.length 1, rv])) 5 (.sl 1 0 t.length t.length 1) = true := own_ints hft
      simp [hlt, hb2, hb0, hH.head.leaf, h0l, frz_ints hft (Nat.zero_le _) rfl, hfz]
      simp [hown1, how]

set_option maxHeartbeats 4000000 in
theorem buffer_ok (hp : ∀ f, f ≠ 15 → prim f = none) (L : List Int) (k : Nat) (hL : L.length ≤ 4000) (hk : k ≤ L.length) (n : Nat) (hn : n ≤ 1000) (b : Nat) (hb : blockOf h b = some [il L, .int .i64 k]) (hw : cfg.wr b = true) (hlo : cfg.lo ≤ h.length) :
    ∃ (t m : List Int) (k' : Nat), t.length ≤ n ∧ t.all scal = true ∧ m.length = t.length ∧ (∀ x ∈ m, 0 ≤ x ∧ x ≤ 15) ∧ k' ≤ L.length ∧ callM md (K prim (d + 6)) cfg 24 [.ptr b 0, .int .i64 n] h = some (.agg [rl t, ml (gath m)], h.set b (some [il L, .int .i64 k'])) := by
  have hw' : (Cfg.wr ⟨cfg.lo, cfg.ex, h.length⟩ b) = true := hw
  have hbl := blockOf_lt hb
  have hc := call1x (md := md) (n := 10000) (d := d + 5) (cfg := cfg) (h := h) (args := [.ptr b 0, .int .i64 n]) (Post := fun r h2 => ∃ (t m : List Int) (k' : Nat), t.length ≤ n ∧ t.all scal = true ∧ m.length = t.length ∧ (∀ x ∈ m, 0 ≤ x ∧ x ≤ 15) ∧ k' ≤ L.length ∧ r = .agg [rl t, ml (gath m)] ∧ h2 = h.set b (some [il L, .int .i64 k'])) rfl (hp 24 (by decide)) Tryz.func24 rfl rfl rfl ?_
  · obtain ⟨r, h2, h3, t, m, k', h4, h5, h6, h7, h8, rfl, rfl⟩ := hc
    exact ⟨t, m, k', h4, h5, h6, h7, h8, h3⟩
  obtain ⟨t, k1, ht, hsc, hk1, hV⟩ := Valid_ok (prim := prim) d ⟨cfg.lo, cfg.ex, h.length⟩ (h ++ [some [.nils, .nils]]) hp L k hL hk n hn b (by simp [hbl, hb]) hw (by simp; omega)
  obtain ⟨v, k2, hv, hk2, hN⟩ := N_ok (prim := prim) (d + 4) ⟨cfg.lo, cfg.ex, h.length⟩ (h.set b (some [il L, .int .i64 k1]) ++ [some [.nils, .nils], some ((List.replicate t.length 0).map (V.int .i64))]) (hp 10 (by decide)) L k1 hL hk1 16 (by omega) (by omega) b (by simp [hbl]) hw'
  have hsetb : ∀ (x y : Option (List V)) (r : Heap), (h.set b x ++ r).set b y = h.set b y ++ r := fun x y r => by rw [set_left (by simpa using hbl)]; simp
  simp (disch := omega) at hV hN
  rw [hsetb] at hN
  simp (disch := omega) [hV, zerosFor_int, hN]
  refine wC_loop (fun mm fr H => ∃ (i kk v : Nat) (l : List Int), i ≤ t.length ∧ mm = t.length - i ∧ kk ≤ L.length ∧ v < 16 ∧ l.length = t.length ∧ (∀ x ∈ l, 0 ≤ x ∧ x ≤ 15) ∧ H = h.set b (some [il L, .int .i64 kk]) ++ [some [.nils, .nils], some (l.map (V.int .i64))] ∧
      Slots 35 [(0, .ptr b 0), (4, .ptr h.length 0), (5, rl t), (6, .sl (h.length + 1) 0 t.length t.length 1), (7, .int .i64 v), (8, .int .i64 i)] fr) (m := t.length) (by omega) ⟨0, k2, v, List.replicate t.length 0, by omega, by omega, hk2, by omega, by simp, by intro x hx; simp at hx; omega, by simp, by simp⟩ ?_
  rintro mm fr H ⟨i, kk, v, l, hi, rfl, hkk, hv, hl, hlx, rfl, hs⟩
  obtain ⟨j, rfl⟩ := hs.ex
  clear hs
  have hwl : (Cfg.wr ⟨cfg.lo, cfg.ex, h.length⟩ (h.length + 1)) = true := wr_lo (by omega)
  have hbk : ∀ kk, blockOf (h.set b (some [il L, .int .i64 kk]) ++ [some [.nils, .nils], some (l.map (V.int .i64))]) (h.length + 1) = some (l.map (V.int .i64)) := fun kk => by
    have := blockOf_len_add (h := h.set b (some [il L, .int .i64 kk])) (r := [some [.nils, .nils], some (l.map (V.int .i64))]) (k := 1)
    simp at this ⊢
    exact this
  have hst : ∀ (x : Option (List V)) (y : Option (List V)), (h.set b y ++ [some [.nils, .nils], some (l.map (V.int .i64))]).set (h.length + 1) x = h.set b y ++ [some [.nils, .nils], x] := fun x y => by
    have := set_len_add (h := h.set b y) (r := [some [.nils, .nils], some (l.map (V.int .i64))]) (k := 1) (y := x)
    simp
  by_cases hlt : i < t.length
  · obtain ⟨u, k3, hu, hk3, hN3⟩ := N_ok (prim := prim) (d + 4) ⟨cfg.lo, cfg.ex, h.length⟩ (h.set b (some [il L, .int .i64 kk]) ++ [some [.nils, .nils], some (l.map (V.int .i64))]) (hp 10 (by decide)) L kk hL hkk 3 (by omega) (by omega) b (by simp [hbl]) hw'
    rw [hsetb] at hN3
    have hil : i + 1 ≤ l.length := by omega
    by_cases hu0 : u = 0
    · obtain ⟨u2, k4, hu2, hk4, hN4⟩ := N_ok (prim := prim) (d + 4) ⟨cfg.lo, cfg.ex, h.length⟩ (h.set b (some [il L, .int .i64 k3]) ++ [some [.nils, .nils], some (l.map (V.int .i64))]) (hp 10 (by decide)) L k3 hL hk3 16 (by omega) (by omega) b (by simp [hbl]) hw'
      rw [hsetb] at hN4
      simp (disch := omega) [hlt, hN3, hu0, hN4, hbk, hst, hil, hwl, wrap64]
      refine Rnd_of (m' := t.length - (i + 1)) (by omega) ⟨i + 1, k4, u2, l.set i u2, by omega, rfl, hk4, by omega, by simp [hl], ?_, by rw [ints_set], by simp⟩
      intro x hx
      rcases List.mem_or_eq_of_mem_set hx with hx | hx
      · exact hlx x hx
      · subst hx; omega
    · simp (disch := omega) [hlt, hN3, hu0, hbk, hst, hil, hwl, wrap64]
      refine Rnd_of (m' := t.length - (i + 1)) (by omega) ⟨i + 1, k3, v, l.set i v, by omega, rfl, hk3, by omega, by simp [hl], ?_, by rw [ints_set], by simp⟩
      intro x hx
      rcases List.mem_or_eq_of_mem_set hx with hx | hx
      · exact hlx x hx
      · subst hx; omega
  · have hG := gather_ok (prim := prim) (d + 4) ⟨cfg.lo, cfg.ex, h.length⟩ (h.set b (some [il L, .int .i64 kk]) ++ [some [.nils, .nils], some (l.map (V.int .i64))]) (hp 46 (by decide)) t l hl (by omega) (args := [rl t, .sl (h.length + 1) 0 t.length t.length 1]) (by
      have := frzA_part (off := 0) (len := t.length) (cap := t.length) (hbk kk) (by omega)
      simp only [List.drop_zero] at this
      rw [List.take_of_length_le (by omega)] at this
      simp [this])
    have hwl0 : (Cfg.wr ⟨cfg.lo, cfg.ex, h.length⟩ h.length) = true := wr_lo hlo
    simp [hlt, hG, hwl0]
    exact ⟨t, by omega, by simpa using hsc, l, hl, hlx, kk, hkk, ⟨rfl, rfl⟩, rfl⟩
end
end Tr
end Go.Ab
