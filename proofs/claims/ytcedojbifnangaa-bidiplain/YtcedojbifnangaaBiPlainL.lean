/- Several texts of this proof in one. -/
import Derived.Test.YtcedojbifnangaaBiSpec4
import Derived.Test.YtcedojbifnangaaBiLev0
import Derived.Test.YtcedojbifnangaaBiG
import Derived.Test.YtcedojbifnangaaBiPrim
/- Plain texts (letters, spaces, digits, full stops): what the rules make of one sequence. -/
namespace Go.Ab.Bi
/-- Latin letters, digits, full stops, spaces. -/
def plc (x : Int) : Bool := x == 0 || x == 3 || x == 7 || x == 12
theorem plc_iff {x : Int} : plc x = true ↔ x = 0 ∨ x = 3 ∨ x = 7 ∨ x = 12 := by simp [plc, or_assoc]
theorem w1_id : ∀ (s : List Int) (p : Int), (∀ x ∈ s, x ≠ 8) → w1 p s = s
  | [], _, _ => rfl
  | x :: r, p, h => by
    have hx := h x (List.mem_cons_self ..)
    rw [w1, if_neg hx, w1_id r _ fun y hy => h y (List.mem_cons_of_mem _ hy)]
theorem w2_id : ∀ (s : List Int) (l : Int), (∀ x ∈ s, x ≠ 2) → l ≠ 2 → w2 l s = s
  | [], _, _, _ => rfl
  | x :: r, l, h, hl => by
    have hx := h x (List.mem_cons_self ..)
    have hr : ∀ y ∈ r, y ≠ 2 := fun y hy => h y (List.mem_cons_of_mem _ hy)
    rw [w2]
    split
    · rw [w2_id r x hr hx]
    · rw [if_neg (fun e => hl e.2), w2_id r l hr hl]
theorem w3_id {s : List Int} (h : ∀ x ∈ s, x ≠ 2) : w3 s = s := by
  unfold w3
  conv => rhs; rw [← List.map_id s]
  apply List.map_congr_left
  intro x hx
  simp [h x hx]
theorem w5_id : ∀ (s : List Int) (p : Int), (∀ x ∈ s, x ≠ 5) → w5 p 0 s = s
  | [], _, _ => rfl
  | x :: r, p, h => by
    have hx := h x (List.mem_cons_self ..)
    rw [w5, if_neg hx, w5_id r _ fun y hy => h y (List.mem_cons_of_mem _ hy)]
    rfl
theorem w4c_plc {p x y : Int} (hp : p ≠ 6) (hx : plc x = true) : plc (w4c p x y) = true ∧ (x = 0 ∨ x = 3 → w4c p x y = x) := by
  rw [plc_iff] at hx
  unfold w4c
  rcases hx with rfl | rfl | rfl | rfl
  · simp [plc]
  · simp [plc]
  · by_cases h : p = y ∧ (p = 3 ∨ p = 6)
    · rcases h.2 with rfl | rfl
      · simp [plc, ← h.1]
      · exact absurd rfl hp
    · simp [plc, h]
  · simp [plc]
theorem w4_at : ∀ (s : List Int) (p : Int), p ≠ 6 → (∀ x ∈ s, plc x = true) → ∀ (k : Nat) (x : Int), s[k]? = some x → ∃ x', (w4 p s)[k]? = some x' ∧ plc x' = true ∧ (x = 0 ∨ x = 3 → x' = x)
  | [], _, _, _, k, x, hx => by simp at hx
  | a :: r, p, hp, h, k, x, hx => by
    have ha := w4c_plc (y := r.headD (-1)) hp (h a (List.mem_cons_self ..))
    rw [w4]
    cases k with
    | zero =>
      simp at hx
      subst hx
      exact ⟨_, rfl, ha.1, ha.2⟩
    | succ k =>
      have hne : w4c p a (r.headD (-1)) ≠ 6 := by
        have := plc_iff.1 ha.1
        omega
      exact w4_at r _ hne (fun y hy => h y (List.mem_cons_of_mem _ hy)) k x (by simpa using hx)
theorem mem_of_at {s s' : List Int} {p : Int → Prop} (hl : s'.length = s.length) (h : ∀ (k : Nat) (x : Int), s[k]? = some x → ∃ x', s'[k]? = some x' ∧ p x') : ∀ x ∈ s', p x := by
  intro x hx
  obtain ⟨k, hk⟩ := List.mem_iff_getElem?.1 hx
  have hkl := (List.getElem?_eq_some_iff.1 hk).1
  obtain ⟨x', h1, h2⟩ := h k s[k] (List.getElem?_eq_getElem (by omega))
  rw [hk] at h1
  cases h1
  exact h2
theorem w6_at : ∀ (s : List Int) (l : Int), (∀ x ∈ s, plc x = true) → ∀ (k : Nat) (x : Int), s[k]? = some x → ∃ x', (w6 l s)[k]? = some x' ∧ (x' = 0 ∨ x' = 3 ∨ x' = 12 ∨ x' = 13) ∧ (x = 0 ∨ x = 3 → x' = 0 ∨ x' = 3) ∧ (l = 0 → x' ≠ 3)
  | [], _, _, k, x, hx => by simp at hx
  | a :: r, l, h, k, x, hx => by
    have ha := plc_iff.1 (h a (List.mem_cons_self ..))
    have hr : ∀ y ∈ r, plc y = true := fun y hy => h y (List.mem_cons_of_mem _ hy)
    rw [w6]
    rcases ha with rfl | rfl | rfl | rfl
    · rw [if_neg (by omega), if_pos (by omega)]
      cases k with
      | zero => simp at hx; subst hx; exact ⟨0, rfl, by omega, by omega, by omega⟩
      | succ k =>
        obtain ⟨x', h1, h2, h3, h4⟩ := w6_at r 0 hr k x (by simpa using hx)
        exact ⟨x', h1, h2, h3, fun _ => h4 rfl⟩
    · rw [if_neg (by omega), if_neg (by omega)]
      by_cases hl : l = 0
      · rw [if_pos ⟨rfl, hl⟩]
        cases k with
        | zero => simp at hx; subst hx; exact ⟨0, rfl, by omega, by omega, by omega⟩
        | succ k => exact w6_at r l hr k x (by simpa using hx)
      · rw [if_neg (fun e => hl e.2)]
        cases k with
        | zero => simp at hx; subst hx; exact ⟨3, rfl, by omega, by omega, fun e => absurd e hl⟩
        | succ k => exact w6_at r l hr k x (by simpa using hx)
    · rw [if_pos (by omega)]
      cases k with
      | zero => simp at hx; subst hx; exact ⟨13, rfl, by omega, by omega, by omega⟩
      | succ k => exact w6_at r l hr k x (by simpa using hx)
    · rw [if_neg (by omega), if_neg (by omega), if_neg (by omega)]
      cases k with
      | zero => simp at hx; subst hx; exact ⟨12, rfl, by omega, by omega, by omega⟩
      | succ k => exact w6_at r l hr k x (by simpa using hx)
theorem weak_at {s : List Int} (h : ∀ x ∈ s, plc x = true) {st : Int} (hst : st = 0 ∨ st = 1) (k : Nat) (x : Int) (hx : s[k]? = some x) : ∃ x', (weakS st s)[k]? = some x' ∧ (x' = 0 ∨ x' = 3 ∨ x' = 12 ∨ x' = 13) ∧ (x = 0 ∨ x = 3 → x' = 0 ∨ x' = 3) ∧ (st = 0 → x' ≠ 3) := by
  have hm : ∀ v : Int, v ≠ 0 → v ≠ 3 → v ≠ 7 → v ≠ 12 → ∀ x ∈ s, x ≠ v := by
    intro v h0 h3 h7 h12 x hx e
    have := plc_iff.1 (h x hx)
    omega
  have h4 := w4_at s (-1) (by omega) h
  have hp4 : ∀ x ∈ w4 (-1) s, plc x = true := mem_of_at (w4_len s (-1)) (fun k x hx => by obtain ⟨x', a, b, _⟩ := h4 k x hx; exact ⟨x', a, b⟩)
  have hm4 : ∀ x ∈ w4 (-1) s, x ≠ 5 := by
    intro x hx e
    have := plc_iff.1 (hp4 x hx)
    omega
  have e : weakS st s = w6 st (w4 (-1) s) := by
    unfold weakS
    rw [w1_id s st (hm 8 (by omega) (by omega) (by omega) (by omega)), w2_id s st (hm 2 (by omega) (by omega) (by omega) (by omega)) (by omega), w3_id (hm 2 (by omega) (by omega) (by omega) (by omega)), w5_id _ _ hm4]
  rw [e]
  obtain ⟨y, h5, h6, h7⟩ := h4 k x hx
  obtain ⟨x', a, b, c, d⟩ := w6_at (w4 (-1) s) st hp4 k y h5
  exact ⟨x', a, b, fun hh => c (by have := h7 hh; omega), d⟩
/-- The neutral rules: from the left all becomes L; from the right what is strong stays. -/
theorem neu_zero : ∀ (s : List Int) (n : Nat), (∀ x ∈ s, x = 0 ∨ x = 12 ∨ x = 13) → ∀ x ∈ neuS 0 0 0 n s, x = 0
  | [], n, _ => by
    intro x hx
    simp [neuS] at hx
    exact hx.2
  | a :: r, n, h => by
    have ha := h a (List.mem_cons_self ..)
    have hr : ∀ y ∈ r, y = 0 ∨ y = 12 ∨ y = 13 := fun y hy => h y (List.mem_cons_of_mem _ hy)
    intro x hx
    rw [neuS] at hx
    split at hx
    · exact neu_zero r (n + 1) hr x hx
    · rename_i hn
      have : a = 0 := by
        rcases ha with rfl | rfl | rfl
        · rfl
        · simp [neutB] at hn
        · simp [neutB] at hn
      subst this
      rcases List.mem_append.1 hx with hx | hx
      · simp at hx; exact hx.2
      · rcases List.mem_cons.1 hx with rfl | hx
        · rfl
        · exact neu_zero r 0 hr x hx
theorem neu_at (d e : Int) : ∀ (s : List Int) (b : Int) (n k : Nat) (x : Int), s[k]? = some x → neutB x = false → (neuS d e b n s)[n + k]? = some x
  | [], b, n, k, x, hx, _ => by simp at hx
  | a :: r, b, n, k, x, hx, hn => by
    rw [neuS]
    cases k with
    | zero =>
      simp at hx
      subst hx
      simp [hn]
    | succ k =>
      have hx' : r[k]? = some x := by simpa using hx
      split
      · have := neu_at d e r b (n + 1) k x hx' hn
        rwa [show n + 1 + k = n + (k + 1) by omega] at this
      · have := neu_at d e r (dirS a) 0 k x hx' hn
        rw [List.getElem?_append_right (by simp), List.length_replicate, show n + (k + 1) - n = k + 1 by omega, List.getElem?_cons_succ]
        simpa using this
end Go.Ab.Bi
/- Plain texts: their levels. -/
namespace Go.Ab
open Go.Proofs
namespace Bi
theorem exGo_plain (e : Int) : ∀ (l : List Int) (s : ES), (∀ x ∈ l, plc x = true) → topE s.st = (e, -1, false) → exGo e l s = l.map fun x => (e, x)
  | [], _, _, _ => rfl
  | x :: r, s, h, hs => by
    have hx := plc_iff.1 (h x (List.mem_cons_self ..))
    have hi : ini x = false := by rcases hx with rfl | rfl | rfl | rfl <;> rfl
    have hst : ∀ odd, exStep e x odd s = (e, x, s) := by
      intro odd
      unfold exStep
      rw [if_neg (by omega), if_neg (by rw [hi]; simp), if_neg (by omega), if_neg (by omega), if_neg (by omega), if_neg (by omega), hs]
      simp [ovr]
    rw [exGo, hst, exGo_plain e r s (fun y hy => h y (List.mem_cons_of_mem _ hy)) hs]
    rfl
def nums (n : Nat) : List Int := (List.range n).map Int.ofNat
theorem nums_len (n : Nat) : (nums n).length = n := by simp [nums]
theorem nums_get {n k : Nat} (h : k < n) : (nums n)[k]? = some (k : Int) := by simp [nums, h]
theorem nums_succ (n : Nat) : nums (n + 1) = nums n ++ [(n : Int)] := by simp [nums, List.range_succ]
theorem keptL_all {o : List Int} (h : ∀ x ∈ o, gone x = false) : ∀ k, k ≤ o.length → keptL o k = nums k
  | 0, _ => rfl
  | k + 1, hk => by
    have hg : gone (o.getD k 0) = false := by
      rw [List.getD_eq_getElem?_getD, List.getElem?_eq_getElem (by omega)]
      exact h _ (List.getElem_mem _)
    rw [show keptL o (k + 1) = if gone (o.getD k 0) then keptL o k else keptL o k ++ [(k : Int)] from rfl, hg, keptL_all h k (by omega), nums_succ]
    rfl
theorem grp_one {lv kept : List Int} {e : Int} (h : ∀ i, i < kept.length → lvl lv (kept.getD i 0) = e) : ∀ k, 0 < k → k ≤ kept.length → grp lv kept k = [kept.take k]
  | 0, h0, _ => by omega
  | k + 1, _, hk => by
    have hx : kept[k]? = some (kept.getD k 0) := by rw [List.getD_eq_getElem?_getD, List.getElem?_eq_getElem (by omega)]; rfl
    rw [show grp lv kept (k + 1) = if k = 0 ∨ lvl lv (kept.getD k 0) ≠ lvl lv (kept.getD (k - 1) 0) then grp lv kept k ++ [[kept.getD k 0]] else snocL (grp lv kept k) (kept.getD k 0) from rfl, List.take_add_one, hx]
    by_cases hz : k = 0
    · subst hz
      rw [if_pos (.inl rfl)]
      rfl
    · rw [if_neg (by rw [h k (by omega), h (k - 1) (by omega)]; simp [hz]), grp_one h k (by omega) (by omega)]
      rfl
theorem map_full {c : List Int} {n : Nat} (h : c.length = n) : (nums n).map (lvl c) = c := by
  apply List.ext_getElem?
  intro k
  by_cases hk : k < n
  · rw [List.getElem?_map, nums_get hk]
    simp only [Option.map_some, lvl, Int.toNat_natCast, List.getD_eq_getElem?_getD]
    rw [List.getElem?_eq_getElem (by omega)]
    rfl
  · rw [List.getElem?_eq_none (by simp [nums_len]; omega), List.getElem?_eq_none (by omega)]
theorem WB_full {c s c' : List Int} {n : Nat} (hc : c.length = n) (h : WB c (nums n) s c') : c' = s := by
  have h1 := h.len
  have h2 := h.sl
  rw [nums_len] at h2
  apply List.ext_getElem?
  intro k
  by_cases hk : k < n
  · have := h.at_ k k (nums_get hk)
    rwa [Int.toNat_natCast] at this
  · rw [List.getElem?_eq_none (by omega), List.getElem?_eq_none (by omega)]
theorem pgo_none : ∀ (l : List (Int × Int)) (k : Nat) (p : PS), (∀ x ∈ l, (brS x.2).1 = 0) → pgo k l p = some p.out
  | [], _, _, _ => rfl
  | (x, r) :: l, k, p, h => by
    have hr := h (x, r) (List.mem_cons_self ..)
    have ih := fun k p => pgo_none l k p fun y hy => h y (List.mem_cons_of_mem _ hy)
    simp only at hr
    rw [pgo]
    split
    · exact ih _ _
    · rw [if_neg (by omega), if_neg (by omega)]
      exact ih _ _
theorem srtS_nil : srtS [] = [] := List.length_eq_zero_iff.1 (by rw [srtS_len]; rfl)
theorem prsS_none {l : List (Int × Int)} (h : ∀ x ∈ l, (brS x.2).1 = 0) : prsS l = [] := by
  unfold prsS
  rw [pgo_none l 0 _ h]
  exact srtS_nil
theorem nums_idx {n : Nat} {x : Int} (h : x ∈ nums n) : ((nums n).idxOf x : Int) = x := by
  have h1 := idx_get h
  have h2 := (List.getElem?_eq_some_iff.1 h1).1
  rw [nums_len] at h2
  rw [nums_get h2] at h1
  simpa using h1
/-- A text without removed runes, isolates, in one level: one sequence, of all its runes. -/
theorem seqs_one {o M lv : List Int} {n : Nat} {e : Int} (hn : 0 < n) (ho : o.length = n) (hg : ∀ x ∈ o, gone x = false ∧ ini x = false) (hlv : lv.length = n) (hl : ∀ x ∈ lv, x = e) : seqsS o M lv n e = [⟨nums n, e, strS e, strS e⟩] := by
  have hk : keptL o n = nums n := keptL_all (fun x hx => (hg x hx).1) n (by omega)
  have hlvl : ∀ i : Nat, i < n → lvl lv (i : Int) = e := by
    intro i hi
    unfold lvl
    rw [Int.toNat_natCast, List.getD_eq_getElem?_getD, List.getElem?_eq_getElem (by omega)]
    exact hl _ (List.getElem_mem _)
  have hgr : grp lv (nums n) n = [nums n] := by
    have := grp_one (lv := lv) (kept := nums n) (e := e) (fun i hi => by
      rw [nums_len] at hi
      rw [List.getD_eq_getElem?_getD, nums_get hi]
      exact hlvl i hi) n hn (by rw [nums_len]; exact Nat.le_refl _)
    rw [this, List.take_of_length_le (by rw [nums_len]; exact Nat.le_refl _)]
  have hlast : (nums n).getLast? = some ((n - 1 : Nat) : Int) := by
    rw [List.getLast?_eq_getElem?, nums_len, nums_get (by omega)]
  have hf : fol o M [nums n] 0 = -1 := fol_no (r := nums n) rfl hlast (.inl (by
    rw [Int.toNat_natCast, List.getD_eq_getElem?_getD, List.getElem?_eq_getElem (by omega)]
    exact (hg _ (List.getElem_mem _)).2))
  have hch : chn (fol o M [nums n]) [nums n] 1 (0 : Nat) = nums n := by
    rw [chn_step (r := nums n) rfl]
    simp [chn]
  have hcon : con (fol o M [nums n]) 1 0 = false := by
    rw [con_succ, con_zero, hf]
    rfl
  have hh : (nums n).headD 0 = 0 := by
    have := nums_get hn
    cases hu : nums n with
    | nil => rfl
    | cons a r => rw [hu] at this; simpa using this
  have hll : (nums n).getLastD 0 = ((n - 1 : Nat) : Int) := by
    have h1 := lastD_of (l := nums n) (by intro e; rw [e] at hlast; cases hlast)
    rw [nums_len, nums_get (by omega)] at h1
    simpa using h1.symm
  have hm0 : (0 : Int) ∈ nums n := List.mem_of_getElem? (nums_get hn)
  have hm1 : ((n - 1 : Nat) : Int) ∈ nums n := List.mem_of_getElem? (nums_get (by omega))
  have hi0 : (nums n).idxOf 0 = 0 := by have := nums_idx hm0; omega
  have hi1 : (nums n).idxOf ((n - 1 : Nat) : Int) = n - 1 := by have := nums_idx hm1; omega
  unfold seqsS
  rw [hk, nums_len, hgr]
  show sqsU o (fol o M [nums n]) [nums n] lv (nums n) e 1 = _
  rw [sqsU, show ([nums n] : List (List Int)).length = 1 from rfl, hcon]
  simp only [Bool.false_eq_true, if_false, sqsU, List.nil_append]
  unfold sqOf
  have hl0 := hlvl 0 hn
  simp only [show ([nums n] : List (List Int)).length = 1 from rfl, hch, hh, hll, hi0, hi1]
  rw [show ((0 : Nat) : Int) = 0 from rfl] at hl0
  rw [hl0]
  unfold endS
  rw [if_neg (by omega), nums_len, if_neg (by omega), Int.max_self]
theorem brks_nil (d st : Int) (os s : List Int) : brks d st os [] s = s := rfl
/-- Texts of these runes. -/
def alpP : List Int := [97, 98, 32, 49, 46, 122]
theorem alpP_cls : ∀ x ∈ alpP, plc (bidi x) = true ∧ (brS x).1 = 0 := by
  have h : alpP.all (fun x => plc (bidi x) && decide ((brS x).1 = 0)) = true := by kernel_rfl
  intro x hx
  have := List.all_eq_true.1 h x hx
  simpa using this
theorem impL_get {lev : Int} : ∀ {u s : List Int} {k : Nat} {a x : Int}, u[k]? = some a → s[k]? = some x → (impL lev u s)[k]? = some (a + impS lev x)
  | [], _, _, _, _, h, _ => by simp at h
  | _ :: _, [], _, _, _, _, h => by simp at h
  | b :: u, y :: s, 0, a, x, h1, h2 => by simp at h1 h2; simp [impL, h1, h2]
  | b :: u, y :: s, k + 1, a, x, h1, h2 => by
    simp only [impL, List.getElem?_cons_succ] at h1 h2 ⊢
    exact impL_get h1 h2
theorem remL_id : ∀ (o y : List Int) (p : Int), o.length = y.length → (∀ x ∈ o, gone x = false) → remL p o y = y
  | [], [], _, _, _ => rfl
  | x :: o, a :: y, p, h, hg => by
    simp at h
    have hx := hg x (List.mem_cons_self ..)
    rw [remL, hx]
    simp only [Bool.false_eq_true, if_false]
    rw [remL_id o y a h fun z hz => hg z (List.mem_cons_of_mem _ hz)]
  | [], _ :: _, _, h, _ => by simp at h
  | _ :: _, [], _, h, _ => by simp at h
theorem trl_get {e : Int} : ∀ {o y : List Int} {k : Nat} {x a : Int}, o[k]? = some x → y[k]? = some a → ∃ b, (trl e o y).2[k]? = some b ∧ (b = a ∨ b = e) ∧ (x ≠ 10 → x ≠ 11 → blankB x = false → b = a)
  | [], _, _, _, _, h, _ => by simp at h
  | _ :: _, [], _, _, _, _, h => by simp at h
  | z :: o, c :: y, 0, x, a, h1, h2 => by
    simp at h1 h2
    subst h1 h2
    refine ⟨_, rfl, ?_, fun h3 h4 h5 => ?_⟩
    · split
      · exact .inr rfl
      · exact .inl rfl
    · have : trB z (trl e o y).1 = false := by
        unfold trB
        rw [if_neg (by omega), h5]
        rfl
      rw [if_neg (by rw [this]; simp)]
  | z :: o, c :: y, k + 1, x, a, h1, h2 => by
    simp only [trl, List.getElem?_cons_succ] at h1 h2 ⊢
    exact trl_get h1 h2
theorem plain_lev {t : List Int} {base : Int} {r : List Int} (hne : t ≠ []) (ht : ∀ x ∈ t, x ∈ alpP) (hb : base = 0 ∨ base = 1) (h : LevR t base r) :
    r.length = t.length ∧ ∀ (k : Nat) (x : Int), (t.map bidi)[k]? = some x → ∃ a, r[k]? = some a ∧ (base = 0 → a = 0) ∧ (base = 1 → (a = 1 ∨ a = 2) ∧ (x = 0 ∨ x = 3 → a = 2)) := by
  obtain ⟨M, c', y', hM, hst, hr⟩ := h
  have hbe : baseS bidi t base = base := by
    unfold baseS
    rw [if_pos hb]
  rw [hbe] at hst hr
  have hn : 0 < t.length := List.length_pos_iff.2 hne
  have hpl : ∀ x ∈ t.map bidi, plc x = true := by
    intro x hx
    obtain ⟨a, ha, rfl⟩ := List.mem_map.1 hx
    exact (alpP_cls a (ht a ha)).1
  have hol : (t.map bidi).length = t.length := by simp
  have hbr : ∀ c : List Int, prsS (c.zip t) = [] := fun c => prsS_none fun x hx => (alpP_cls x.2 (ht _ (List.of_mem_zip hx).2)).2
  generalize t.map bidi = o at *
  generalize hnn : t.length = n at *
  have hgi : ∀ x ∈ o, gone x = false ∧ ini x = false ∧ x ≠ 10 ∧ x ≠ 11 ∧ (x = 0 ∨ x = 3 → blankB x = false) := by
    intro x hx
    rcases plc_iff.1 (hpl x hx) with rfl | rfl | rfl | rfl <;> refine ⟨rfl, rfl, by omega, by omega, fun _ => ?_⟩ <;> first | rfl | omega
  have hex : expl base o = o.map fun x => (base, x) := exGo_plain base o (es0 base) hpl rfl
  have h1 : (expl base o).map (·.1) = o.map fun _ => base := by rw [hex, List.map_map]; rfl
  have h2 : (expl base o).map (·.2) = o := by rw [hex, List.map_map]; exact List.map_id _
  rw [h1, h2, seqs_one hn hol (fun x hx => ⟨(hgi x hx).1, (hgi x hx).2.1⟩) (by simpa using hol) (by simp)] at hst
  obtain ⟨c3, y3, ⟨c1, c2, w1, w2, w3, w4⟩, rfl, rfl⟩ := hst
  simp only at w1 w2 w3 w4
  rw [map_full hol] at w1 w2
  have e1 := WB_full hol w1
  subst e1
  have hl1 : (weakS (strS base) o).length = n := by rw [weak_len, hol]
  rw [map_full hl1, map_full hnn, hbr, brks_nil] at w2
  have e2 := WB_full hl1 w2
  subst e2
  rw [map_full hl1] at w3
  have e3 := WB_full hl1 w3
  subst e3
  have hl3 : (neuS (strS base) (strS base) (strS base) 0 (weakS (strS base) o)).length = n := by rw [neu_len, hl1]; omega
  have hlu : (o.map fun _ => base).length = n := by simpa using hol
  rw [map_full hlu, map_full hl3] at w4
  have e4 := WB_full hlu w4
  subst e4
  have hl4 : (impL base (o.map fun _ => base) (neuS (strS base) (strS base) (strS base) 0 (weakS (strS base) o))).length = n := by rw [impL_len _ _ _ (by rw [hlu, hl3]), hlu]
  rw [remL_id o _ base (by rw [hl4, hol]) (fun x hx => (hgi x hx).1)] at hr
  subst hr
  refine ⟨by rw [trl_len _ _ _ (by rw [hl4, hol]), hl4], fun k x hx => ?_⟩
  have hk := (List.getElem?_eq_some_iff.1 hx).1
  have hss : strS base = 0 ∨ strS base = 1 := by rcases hb with rfl | rfl <;> simp [strS]
  obtain ⟨x2, a1, a2, a3, a4⟩ := weak_at hpl hss k x hx
  obtain ⟨x3, b1⟩ : ∃ x3, (neuS (strS base) (strS base) (strS base) 0 (weakS (strS base) o))[k]? = some x3 := ⟨_, List.getElem?_eq_getElem (by omega)⟩
  have hu : (o.map fun _ => base)[k]? = some base := by rw [List.getElem?_map, hx]; rfl
  have hi := impL_get (lev := base) hu b1
  have hg := hgi x (List.mem_of_getElem? hx)
  obtain ⟨b, d1, d2, d3⟩ := trl_get (e := base) hx hi
  refine ⟨b, d1, fun hb0 => ?_, fun hb1 => ?_⟩
  · subst hb0
    have hz : x3 = 0 := neu_zero (weakS 0 o) 0 (fun y hy => by
      obtain ⟨q, hq⟩ := List.mem_iff_getElem?.1 hy
      have hql := (List.getElem?_eq_some_iff.1 hq).1
      have hl1' : (weakS 0 o).length = n := hl1
      obtain ⟨y2, u1, u2, u3, u4⟩ := weak_at hpl (.inl rfl) q o[q] (List.getElem?_eq_getElem (by omega))
      rw [hq] at u1
      cases u1
      have := u4 rfl
      omega) x3 (List.mem_of_getElem? b1)
    subst hz
    have : impS 0 0 = 0 := rfl
    rw [this] at d2
    omega
  · subst hb1
    have hir : impS 1 x3 = 0 ∨ impS 1 x3 = 1 := by
      unfold impS
      rw [if_neg (by omega), if_neg (by omega)]
      split
      · exact .inr rfl
      · exact .inl rfl
    refine ⟨by omega, fun hx0 => ?_⟩
    have hb2 := d3 hg.2.2.1 hg.2.2.2.1 (hg.2.2.2.2 hx0)
    have hx2 := a3 hx0
    have hnb : neutB x2 = false := by rcases hx2 with rfl | rfl <;> rfl
    have hb3 := neu_at (strS 1) (strS 1) (weakS (strS 1) o) (strS 1) 0 k x2 a1 hnb
    rw [Nat.zero_add, b1] at hb3
    cases hb3
    have : impS 1 x2 = 1 := by rcases hx2 with rfl | rfl <;> rfl
    omega
end Bi
end Go.Ab
/- The generator: new, N, texts. -/
namespace Go.Ab
open Go.Proofs
namespace Bi
def alph : List Int := [97, 98, 102, 105, 88, 49, 50, 32, 32, 46, 44, 45, 39, 34, 40, 41, 91, 93, 60, 33, 58, 95, 37, 43, 47, 9, 10, 13, 0x0B, 0x85, 0xA0, 0xAD, 0xB7, 0x301, 0x5D0, 0x5D1, 0x5BE, 0x5B0, 0x600, 0x627, 0x628, 0x633, 0x640, 0x64B, 0x661, 0x66A, 0x60C, 0x61C, 0x6F1, 0x903, 0x905, 0x93C, 0x1100, 0x1161, 0x11A8, 0xAC00, 0xAC01, 0x2009, 0x200B, 0x200C, 0x200D, 0x200E, 0x200F, 0x2019, 0x2028, 0x2029, 0x202A, 0x202B, 0x202C, 0x202D, 0x202E, 0x2060, 0x2066, 0x2067, 0x2068, 0x2069, 0x2600, 0x3000, 0x3001, 0x300C, 0x300D, 0x30A2, 0x4E00, 0xFE0F, 0x1F1E6, 0x1F1E7, 0x1F3FB, 0x1F468, 0x10FFFF]

section
variable {prim : FuncId → Option Prim} (d : Nat) (cfg : Cfg) (h : Heap)
theorem new_ok (hp : prim 12 = none) (l : List Int) : callM md (K prim (d + 1)) cfg 12 [il l] h = some (.ptr h.length 0, h ++ [some [il (l.take 4000), .int .i64 0]]) := by
  refine call2 rfl hp Try.func12 rfl rfl rfl ?_
  simp
  by_cases hl : 4000 < l.length
  · have hl' : (4000 : Int) < l.length := by omega
    simp (disch := first | omega | (simp; done) | (simp; omega)) [hl']
  · have hl' : ¬ (4000 : Int) < l.length := by omega
    simp [hl', List.take_of_length_le (show l.length ≤ 4000 by omega)]

theorem N_ok (hp : prim 13 = none) (L : List Int) (k : Nat) (hL : L.length ≤ 4000) (hk : k ≤ L.length) (n : Int) (hn : 1 ≤ n) (hn2 : n ≤ 4000000000) (b : Nat) (hb : blockOf h b = some [il L, .int .i64 k]) (hw : cfg.wr b = true) :
    ∃ v k' : Nat, (v : Int) < n ∧ k' ≤ L.length ∧ callM md (K prim (d + 1)) cfg 13 [.ptr b 0, .int .i64 n] h = some (.int .i64 v, h.set b (some [il L, .int .i64 k'])) := by
  have hw' : (Cfg.wr ⟨cfg.lo, cfg.ex, h.length⟩ b) = true := hw
  have hbl := blockOf_lt hb
  by_cases hlt : k < L.length
  · obtain ⟨x, hx⟩ : ∃ x, L[k] = x := ⟨_, rfl⟩
    have hr := Int.tmod_lt_of_pos x (b := n) (by omega)
    have hr2 := Int.lt_tmod_of_pos x (b := n) (by omega)
    refine ⟨(if x.tmod n < 0 then x.tmod n + n else x.tmod n).toNat, k + 1, by split <;> omega, by omega, call1 rfl hp Try.func13 rfl rfl rfl ?_⟩
    simp
    refine wC_draw 9 (by kernel_rfl) ?_
    have hk1 : ¬ L.length ≤ k := by omega
    have hn1 : ¬ n < 1 := by omega
    have hn0 : ¬ n = 0 := by omega
    simp [hb, hk1, hn1]
    refine wC_draw 11 (by kernel_rfl) ?_
    simp (disch := first | omega | (simp; done) | (simp; omega)) [hb, hx, hw', wrap64]
    by_cases hneg : x.tmod n < 0
    · simp (disch := first | omega | (simp; done) | (simp; omega)) [hneg, wrap64]
      exact ⟨by omega, List.take_of_length_le (by simp)⟩
    · simp (disch := first | omega | (simp; done) | (simp; omega)) [hneg]
      exact ⟨by omega, List.take_of_length_le (by simp)⟩
  · refine ⟨0, k, by omega, hk, ?_⟩
    rw [set_same hb]
    refine call1 rfl hp Try.func13 rfl rfl rfl ?_
    have hk1 : L.length ≤ k := by omega
    simp
    refine wC_draw 9 (by kernel_rfl) ?_
    simp [hb, hk1]

@[simp] theorem cv3_21 {h : Heap} {k : IntKind} {n : Int} : convV Try.prog h 3 21 (.int k n) = some (.int .i32 (IntKind.i32.wrap n), h) := by kernel_rfl

theorem chance_ok (hp : ∀ f, f ≠ 17 ∧ f ≠ 82 ∧ f ≠ 15 → prim f = none) (L : List Int) (k : Nat) (hL : L.length ≤ 4000) (hk : k ≤ L.length) (n : Int) (hn : 1 ≤ n) (hn2 : n ≤ 4000000000) (b : Nat) (hb : blockOf h b = some [il L, .int .i64 k]) (hw : cfg.wr b = true) :
    ∃ (v : Bool) (k' : Nat), k' ≤ L.length ∧ callM md (K prim (d + 2)) cfg 73 [.ptr b 0, .int .i64 n] h = some (.bool v, h.set b (some [il L, .int .i64 k'])) := by
  obtain ⟨v, k', hv, hk', hN⟩ := N_ok (prim := prim) d ⟨cfg.lo, cfg.ex, h.length⟩ h (hp 13 (by decide)) L k hL hk n hn hn2 b hb hw
  refine ⟨decide ((v : Int) = n - 1), k', hk', call1 rfl (hp 73 (by decide)) Try.func73 rfl rfl rfl ?_⟩
  simp (disch := omega) [hN, wrap64]
  exact List.take_of_length_le (by simp)

theorem raw_ok (hp : ∀ f, f ≠ 17 ∧ f ≠ 82 ∧ f ≠ 15 → prim f = none) (L : List Int) (k : Nat) (hL : L.length ≤ 4000) (hk : k ≤ L.length) (b : Nat) (hb : blockOf h b = some [il L, .int .i64 k]) (hw : cfg.wr b = true) :
    ∃ (v : Int) (k' : Nat), k' ≤ L.length ∧ callM md (K prim (d + 1)) cfg 74 [.ptr b 0] h = some (.int .i64 v, h.set b (some [il L, .int .i64 k'])) := by
  have hw' : (Cfg.wr ⟨cfg.lo, cfg.ex, h.length⟩ b) = true := hw
  have hbl := blockOf_lt hb
  by_cases hlt : k < L.length
  · obtain ⟨x, hx⟩ : ∃ x, L[k]? = some x := ⟨L[k], List.getElem?_eq_getElem hlt⟩
    refine ⟨x, k + 1, by omega, call1 rfl (hp 74 (by decide)) Try.func74 rfl rfl rfl ?_⟩
    have hk1 : ¬ L.length ≤ k := by omega
    simp
    refine wC_draw 9 (by kernel_rfl) ?_
    simp (disch := omega) [hb, hk1, hw', wrap64]
    refine wC_draw 9 (by kernel_rfl) ?_
    have e1 : ((k : Int) + 1 - 1).toNat = k := by omega
    simp (disch := omega) [hx, wrap64, -getElem?_pos]
    exact List.take_of_length_le (by simp)
  · refine ⟨0, k, hk, ?_⟩
    rw [set_same hb]
    refine call1 rfl (hp 74 (by decide)) Try.func74 rfl rfl rfl ?_
    have hk1 : L.length ≤ k := by omega
    simp
    refine wC_draw 9 (by kernel_rfl) ?_
    simp [hb, hk1]

set_option maxRecDepth 100000 in
theorem alphabet_ok (hp : prim 72 = none) : ∃ A : List Int, A.length = 89 ∧ ∀ cfg h, callM md (K prim (d + 1)) cfg 72 [] h = some (rl A, h) := by
  refine ⟨alph, rfl, fun cfg h => ?_⟩
  refine call0 rfl hp Try.func72 rfl rfl rfl (by simp) ?_
  simp
  exact frz_ints (d := 4) (k := .i32) (l := alph) rfl (Nat.zero_le _) rfl

theorem rune_ok (hp : ∀ f, f ≠ 17 ∧ f ≠ 82 ∧ f ≠ 15 → prim f = none) (L : List Int) (k : Nat) (hL : L.length ≤ 4000) (hk : k ≤ L.length) (b : Nat) (hb : blockOf h b = some [il L, .int .i64 k]) (hw : cfg.wr b = true) :
    ∃ (v : Int) (k' : Nat), k' ≤ L.length ∧ callM md (K prim (d + 3)) cfg 48 [.ptr b 0] h = some (.int .i32 v, h.set b (some [il L, .int .i64 k'])) := by
  have hbl := blockOf_lt hb
  obtain ⟨A, hA, hal⟩ := alphabet_ok (prim := prim) (d + 1) (hp 72 (by decide))
  obtain ⟨c, k1, hk1, hC⟩ := chance_ok (prim := prim) d ⟨cfg.lo, cfg.ex, h.length⟩ h hp L k hL hk 40 (by omega) (by omega) b hb hw
  have hb1 : blockOf (h.set b (some [il L, .int .i64 k1])) b = some [il L, .int .i64 k1] := by simp [hbl]
  cases c
  · obtain ⟨v, k2, hv, hk2, hN⟩ := N_ok (prim := prim) (d + 1) ⟨cfg.lo, cfg.ex, h.length⟩ (h.set b (some [il L, .int .i64 k1])) (hp 13 (by decide)) L k1 hL hk1 89 (by omega) (by omega) b hb1 hw
    obtain ⟨x, hx⟩ : ∃ x, A[v]? = some x := ⟨A[v], List.getElem?_eq_getElem (by omega)⟩
    refine ⟨x, k2, hk2, call1 rfl (hp 48 (by decide)) Try.func48 rfl rfl rfl ?_⟩
    simp at hN
    simp (disch := omega) [hal, hC, hA, hN, hx, -getElem?_pos]
    exact List.take_of_length_le (by simp)
  · obtain ⟨v, k2, hk2, hR⟩ := raw_ok (prim := prim) (d + 1) ⟨cfg.lo, cfg.ex, h.length⟩ (h.set b (some [il L, .int .i64 k1])) hp L k1 hL hk1 b hb1 hw
    refine ⟨IntKind.i32.wrap v, k2, hk2, call1 rfl (hp 48 (by decide)) Try.func48 rfl rfl rfl ?_⟩
    simp at hR
    simp (disch := omega) [hal, hC, hR]
    exact List.take_of_length_le (by simp)
set_option maxHeartbeats 4000000 in
theorem text_ok (hp : ∀ f, f ≠ 17 ∧ f ≠ 82 ∧ f ≠ 15 → prim f = none) (L : List Int) (k : Nat) (hL : L.length ≤ 4000) (hk : k ≤ L.length) (n : Nat) (hn : n ≤ 1000) (b : Nat) (hb : blockOf h b = some [il L, .int .i64 k]) (hw : cfg.wr b = true) (hlo : cfg.lo ≤ h.length) :
    ∃ (l : List Int) (k' : Nat), l.length ≤ n ∧ k' ≤ L.length ∧ callM md (K prim (d + 4)) cfg 18 [.ptr b 0, .int .i64 n] h = some (rl l, h.set b (some [il L, .int .i64 k'])) := by
  have hw' : (Cfg.wr ⟨cfg.lo, cfg.ex, h.length⟩ b) = true := hw
  have hbl := blockOf_lt hb
  obtain ⟨v, k1, hv, hk1, hN⟩ := N_ok (prim := prim) (d + 2) ⟨cfg.lo, cfg.ex, h.length⟩ h (hp 13 (by decide)) L k hL hk (n + 1) (by omega) (by omega) b hb hw'
  have hb1 : blockOf (h.set b (some [il L, .int .i64 k1])) b = some [il L, .int .i64 k1] := by simp [hbl]
  obtain ⟨few, k2, hfew, hk2, hN2⟩ := N_ok (prim := prim) (d + 2) ⟨cfg.lo, cfg.ex, h.length⟩ (h.set b (some [il L, .int .i64 k1])) (hp 13 (by decide)) L k1 hL hk1 3 (by omega) (by omega) b hb1 hw'
  simp at hN2
  have hc := call1x (md := md) (n := 10000) (d := d + 3) (cfg := cfg) (h := h) (args := [.ptr b 0, .int .i64 n]) (Post := fun r h2 => ∃ (l : List Int) (k' : Nat), l.length ≤ n ∧ k' ≤ L.length ∧ r = rl l ∧ h2 = h.set b (some [il L, .int .i64 k'])) rfl (hp 18 (by decide)) Try.func18 rfl rfl rfl ?_
  · obtain ⟨r, h2, h3, l, k', h4, h5, rfl, rfl⟩ := hc
    exact ⟨l, k', h4, h5, h3⟩
  have hu0 : Upd h b [il L, .int .i64 k2] (h.set b (some [il L, .int .i64 k2])) := (Upd.refl hb).set
  simp (disch := omega) [hN, hN2, wrap64]
  refine wC_loop (fun m fr H => ∃ (i kk : Nat) (sv : V) (S : List Int), i ≤ 5 ∧ m = 5 - i ∧ kk ≤ L.length ∧ S.length = i ∧ Upd h b [il L, .int .i64 kk] H ∧ OwnL H h.length .i32 sv S ∧
      Slots 47 [(0, .ptr b 0), (5, .int .i64 v), (6, .nils), (7, .int .i64 few), (8, sv), (9, .int .i64 i)] fr) (m := 5) (by omega) ⟨0, k2, .nils, [], by omega, by omega, hk2, rfl, hu0, .inl ⟨rfl, rfl⟩, by simp⟩ ?_
  rintro m fr H ⟨i, kk, sv, S, hi, rfl, hkk, hS, hu, hown, hs⟩
  obtain ⟨j, rfl⟩ := hs.ex
  clear hs
  by_cases hlt : i < 5
  · obtain ⟨x, k3, hk3, hR⟩ := rune_ok (prim := prim) d ⟨cfg.lo, cfg.ex, h.length⟩ H hp L kk hL hkk b (hu.block hbl rfl) hw'
    have hu1 : Upd h b [il L, .int .i64 k3] (H.set b (some [il L, .int .i64 k3])) := hu.set
    have hlt' : (i : Int) < 5 := by omega
    have hbn : blockOf (H.set b (some [il L, .int .i64 k3]) ++ [some [.int .i32 x]]) H.length = some [.int .i32 x] := by rw [blockOf_len' (by simp)]; rfl
    simp (disch := omega) [hlt', hR, hbn]
    refine wS_app (l := S) (lo := h.length) (y := 4) ?_ ?_ ?_ ?_ ?_ ?_
    · refine hown.mono fun c h1 h2 => ?_
      rw [blockOf_left (by simpa using h2), blockOf_set_ne' (by omega)]
    · exact hlo
    · have := hu.2; simp; omega
    · rw [hS]; omega
    · rw [hS]; omega
    · intro d' h' ho' htk hlen'
      simp (disch := omega) [wrap64]
      exact Rnd_of (m' := 5 - (i + 1)) (by omega) ⟨i + 1, k3, d', S ++ [x], by omega, rfl, hk3, by simp [hS], (hu1.push _).of_take htk hlen', ho', by simp⟩
  · have hlt' : ¬ (i : Int) < 5 := by omega
    have hi5 : i = 5 := by omega
    subst hi5
    simp
    refine wC_loop (fun m fr H => ∃ (q kk : Nat) (lv : V) (Ls : List Int), q ≤ v ∧ m = v - q ∧ kk ≤ L.length ∧ Ls.length = q ∧ Upd h b [il L, .int .i64 kk] H ∧ OwnL H h.length .i32 sv S ∧ OwnL H h.length .i32 lv Ls ∧ Dj sv lv ∧
      Slots 47 [(0, .ptr b 0), (5, .int .i64 v), (6, lv), (7, .int .i64 few), (8, sv), (10, .int .i64 q)] fr) (m := v) (by omega) ⟨0, kk, .nils, [], by omega, by omega, hkk, rfl, hu, hown, .inl ⟨rfl, rfl⟩, Dj.nils, by simp⟩ ?_
    clear hu hown hkk
    rintro m fr H ⟨q, kk, lv, Ls, hq, rfl, hkk, hLs, hu, hown, howl, hdj, hs⟩
    obtain ⟨j, rfl⟩ := hs.ex
    clear hs
    by_cases hqv : q < v
    · by_cases hf : 0 < few
      · obtain ⟨u, k3, hu5, hk3, hN3⟩ := N_ok (prim := prim) (d + 2) ⟨cfg.lo, cfg.ex, h.length⟩ H (hp 13 (by decide)) L kk hL hkk 5 (by omega) (by omega) b (hu.block hbl rfl) hw'
        obtain ⟨x, hx⟩ : ∃ x, S[u]? = some x := ⟨S[u], List.getElem?_eq_getElem (by omega)⟩
        rcases hown with ⟨rfl, rfl⟩ | ⟨sb, rfl, hsb1, hsb2⟩
        · simp at hx
        have hown' : OwnL H h.length .i32 (.sl sb 0 S.length S.length 1) S := .inr ⟨sb, rfl, hsb1, hsb2⟩
        have hsl : sb < H.length := blockOf_lt hsb2
        have hu1 : Upd h b [il L, .int .i64 k3] (H.set b (some [il L, .int .i64 k3])) := hu.set
        have hbs : b ≠ sb := by omega
        have hbk : blockOf (H.set b (some [il L, .int .i64 k3])) sb = some (S.map (V.int .i32)) := by rw [blockOf_set_ne' hbs]; exact hsb2
        have hbn : blockOf (H.set b (some [il L, .int .i64 k3]) ++ [some [.int .i32 x]]) H.length = some [.int .i32 x] := by rw [blockOf_len' (by simp)]; rfl
        simp (disch := omega) [hqv, hf, hN3, hbk, hx, hbn, -getElem?_pos]
        refine wS_app2 (l := Ls) (lo := h.length) (y := 4) ?_ ?_ ?_ ?_ ?_ ?_
        · refine howl.mono fun c h1 h2 => ?_
          rw [blockOf_left (by simpa using h2), blockOf_set_ne' (by omega)]
        · exact hlo
        · have := hu.2; simp; omega
        · rw [hLs]; omega
        · rw [hLs]; omega
        · intro d' h' ho' htk hlen' _ hoth
          obtain ⟨hd1, hd2⟩ := hoth _ hdj (fun c hc => by cases hc; simp; omega)
          simp (disch := omega) [wrap64]
          refine Rnd_of (m' := v - (q + 1)) (by omega) ⟨q + 1, k3, d', Ls ++ [x], by omega, rfl, hk3, by simp [hLs], (hu1.push _).of_take htk hlen', ?_, ho', hd1, by simp⟩
          refine .inr ⟨sb, rfl, hsb1, ?_⟩
          rw [hd2 sb rfl, blockOf_left (by simpa using hsl)]
          exact hbk
      · obtain ⟨x, k3, hk3, hR⟩ := rune_ok (prim := prim) d ⟨cfg.lo, cfg.ex, h.length⟩ H hp L kk hL hkk b (hu.block hbl rfl) hw'
        have hu1 : Upd h b [il L, .int .i64 k3] (H.set b (some [il L, .int .i64 k3])) := hu.set
        have hbn : blockOf (H.set b (some [il L, .int .i64 k3]) ++ [some [.int .i32 x]]) H.length = some [.int .i32 x] := by rw [blockOf_len' (by simp)]; rfl
        simp (disch := omega) [hqv, hf, hR, hbn]
        refine wS_app2 (l := Ls) (lo := h.length) (y := 4) ?_ ?_ ?_ ?_ ?_ ?_
        · refine howl.mono fun c h1 h2 => ?_
          rw [blockOf_left (by simpa using h2), blockOf_set_ne' (by omega)]
        · exact hlo
        · have := hu.2; simp; omega
        · rw [hLs]; omega
        · rw [hLs]; omega
        · intro d' h' ho' htk hlen' _ hoth
          obtain ⟨hd1, hd2⟩ := hoth sv hdj (fun c hc => by have := (hown.blk hc).2; simp; omega)
          simp (disch := omega) [wrap64]
          refine Rnd_of (m' := v - (q + 1)) (by omega) ⟨q + 1, k3, d', Ls ++ [x], by omega, rfl, hk3, by simp [hLs], (hu1.push _).of_take htk hlen', ?_, ho', hd1, by simp⟩
          refine hown.of_blk fun c hc => ?_
          have := hown.blk hc
          rw [hd2 c hc, blockOf_left (by simpa using this.2), blockOf_set_ne' (by omega)]
    · simp [hqv]
      refine ⟨_, ?_, Ls, by omega, kk, hkk, rfl, hu.1⟩
      rcases howl with ⟨rfl, rfl⟩ | ⟨lb, rfl, hlb1, hlb2⟩
      · rfl
      · exact frz_ints (d := 4) hlb2 hlb1 rfl
end
end Bi
end Go.Ab
/- The law BidiPlain. -/
namespace Go.Ab
open Go.Proofs
namespace Bi
set_option maxHeartbeats 4000000 in
set_option maxRecDepth 100000 in
theorem plain_ok (d : Nat) (l : List Int) : ∃ v h', callN Try.prog md pL 10000 (d + 8) ⟨0, none, 0⟩ 6 [il l] [] = some (v, h') ∧ v = .bool true := by
  have hA := fun cfg h => awakeL (d + 6) cfg h
  have hNw := fun cfg h => new_ok (prim := pL) (d + 6) cfg h (pL_none 12 (by decide)) l
  have hL : (l.take 4000).length ≤ 4000 := by simp; omega
  refine callN_of (R := fun r _ => r = .bool true) (pL_none 6 (by decide)) Try.func6 rfl rfl rfl ?_
  simp (disch := omega) [hNw]
  generalize hLL : l.take 4000 = L at *
  refine wC_loop (fun m fr H => ∃ (i kk : Nat) (v : V) (t : List Int) (Z : Heap), i ≤ l.length ∧ i ≤ 40 ∧ m = 40 - i ∧ kk ≤ L.length ∧ t.length = i ∧ (∀ x ∈ t, x ∈ alpP) ∧ H = some (alpP.map (V.int .i32)) :: some [il L, .int .i64 kk] :: Z ∧
    Hp H [some (alpP.map (V.int .i32)), some [il L, .int .i64 kk]] [(1, v, t.map (V.int .i32))] ∧
    Slots 100 [(0, il l), (3, .sl 0 0 6 6 1), (4, .ptr 1 0), (5, v), (6, .int .i64 i)] fr) (m := 40) (by omega) ⟨0, 0, .nils, [], [], by omega, by omega, by omega, by omega, rfl, by simp, rfl, Hp.start.nil 1, by simp⟩ ?_
  rintro m fr H ⟨i, kk, v, t, Z, hi1, hi2, rfl, hkk, htl, hta, rfl, hhp, hs⟩
  obtain ⟨j, rfl⟩ := hs.ex
  clear hs
  by_cases hlt : i < l.length ∧ i < 40
  · obtain ⟨hlt, h40⟩ := hlt
    have hI1 : (i : Int) < l.length := by omega
    have hI2 : (i : Int) < 40 := by omega
    obtain ⟨u, k', hu, hk', hN⟩ := N_ok (prim := pL) (d + 6) ⟨0, none, 0⟩ (some (alpP.map (V.int .i32)) :: some [il L, .int .i64 kk] :: Z) (pL_none 13 (by decide)) L kk hL hkk 6 (by omega) (by omega) 1 rfl rfl
    simp only [List.set_cons_succ, List.set_cons_zero] at hN
    obtain ⟨x, hx⟩ : ∃ x, alpP[u]? = some x := ⟨_, List.getElem?_eq_getElem (by simp [alpP]; omega)⟩
    have hxa : x ∈ alpP := List.mem_of_getElem? hx
    have hb0 : ∀ Y : Heap, blockOf (some (alpP.map (V.int .i32)) :: Y) 0 = some (alpP.map (V.int .i32)) := fun Y => by simp [blockOf]
    have hp1 := hhp.set (b := 1) (by simp) (some [il L, .int .i64 k'])
    simp only [List.set_cons_succ, List.set_cons_zero] at hp1
    have hp2 := hp1.push [some [V.int .i32 x]]
    have hal : alpP.length = 6 := rfl
    generalize hal2 : alpP = AP at *
    simp (disch := omega) [hI1, hI2, hN, hb0, hx, -getElem?_pos]
    simp only [List.cons_append] at hp2
    refine wS_appO (m := 1) hp2 (by simp) rfl rfl (by omega) (by omega) (by simp; omega) (by simp; omega) ?_
    intro v' H' hhp2
    obtain ⟨Z2, hZ2⟩ := hp_lit hhp2
    simp only [List.cons_append, List.nil_append] at hZ2
    subst hZ2
    simp (disch := omega) [wrap64]
    refine Rnd_of (m' := 40 - (i + 1)) (by omega) ⟨i + 1, k', v', t ++ [x], Z2, by omega, by omega, by omega, hk', by simp [htl], fun y hy => ?_, rfl, by simpa using hhp2, by simp (disch := omega)⟩
    rcases List.mem_append.1 hy with hy | hy
    · exact hta y hy
    · simp at hy; subst hy; exact hxa
  · have hlev : ∀ base : Int, base = 0 ∨ base = 1 → ∃ r : List Int, (∀ cfg, callM md (K pL (d + 6 + 1)) cfg 15 [v, .int .i64 base] (some (alpP.map (V.int .i32)) :: some [il L, .int .i64 kk] :: Z) = some (il r, some (alpP.map (V.int .i32)) :: some [il L, .int .i64 kk] :: Z)) ∧ r.length = t.length ∧
        ∀ (k : Nat) (x : Int), (t.map bidi)[k]? = some x → ∃ a, r[k]? = some a ∧ (base = 0 → a = 0) ∧ (base = 1 → (a = 1 ∨ a = 2) ∧ (x = 0 ∨ x = 3 → a = 2)) := by
      intro base hb
      have hfv : frzA (some (alpP.map (V.int .i32)) :: some [il L, .int .i64 kk] :: Z) v = some (rl t) := hhp.head.frzA
      by_cases ht0 : t = []
      · subst ht0
        refine ⟨[], fun cfg => ?_, rfl, fun k x h => by simp at h⟩
        rcases hb with rfl | rfl
        · exact no_at no_0 (d + 6) cfg _ _ (by simp [List.mapM_cons, hfv])
        · exact no_at no_1 (d + 6) cfg _ _ (by simp [List.mapM_cons, hfv])
      · obtain ⟨r, h1, h2⟩ := lev_ok (d + 6) t (by omega) ht0 base
        obtain ⟨h3, h4⟩ := plain_lev ht0 hta hb h2
        exact ⟨r, fun cfg => h1 cfg _ _ (by simp [List.mapM_cons, hfv]), h3, h4⟩
    obtain ⟨r0, l0, n0, g0⟩ := hlev 0 (.inl rfl)
    obtain ⟨r1, l1, n1, g1⟩ := hlev 1 (.inr rfl)
    have hvl := hhp.head.len1 (show Try.prog.underlying 23 = some (.slice 21) by kernel_rfl)
    rw [List.length_map] at hvl
    have hI2 : (i : Int) < l.length → ¬ (i : Int) < 40 := fun h => by omega
    have hBi := fun cfg h r => bidi_ok (prim := pL) (d + 4) cfg h pL_none r
    generalize alpP = AP at *
    by_cases hI1 : (i : Int) < l.length
    · simp (disch := omega) [hI1, hI2, l0, l1, hvl, n0, n1]
      refine wC_loop (fun m fr H => ∃ (k : Nat), k ≤ t.length ∧ m = t.length - k ∧ H = some (AP.map (V.int .i32)) :: some [il L, .int .i64 kk] :: Z ∧
        Slots 100 [(5, v), (7, il r0), (8, il r1), (9, .int .i64 k)] fr) (m := t.length) (by omega) ⟨0, by omega, by omega, rfl, by simp⟩ ?_
      rintro m fr H ⟨k, hk, rfl, rfl, hs⟩
      obtain ⟨j2, rfl⟩ := hs.ex
      clear hs
      by_cases hkt : k < t.length
      · obtain ⟨z, hz⟩ : ∃ z, t[k]? = some z := ⟨_, List.getElem?_eq_getElem hkt⟩
        have hzb : (t.map bidi)[k]? = some (bidi z) := by rw [List.getElem?_map, hz]; rfl
        obtain ⟨a0, p0, p1, -⟩ := g0 k _ hzb
        have p1 := p1 rfl
        subst p1
        obtain ⟨a1, q0, -, q1⟩ := g1 k _ hzb
        obtain ⟨q1, q2⟩ := q1 rfl
        obtain ⟨b, rfl, hb1, hb2, hb3⟩ := hhp.head.ints (by omega)
        obtain ⟨b, rfl⟩ : ∃ b', b = b' + 1 + 1 := ⟨b - 2, by simp at hb1; omega⟩
        have hb4 : blockOf Z b = some (t.map (V.int .i32)) := by simpa using hb3
        have hkI : (k : Int) < t.length := by omega
        simp (disch := omega) [hkI, hvl, hb4, hz, hBi, -getElem?_pos]
        by_cases hx0 : bidi z = 0
        · have q3 := q2 (.inl hx0)
          subst q3
          simp (disch := omega) [hx0, p0, q0, wrap64, -getElem?_pos]
          exact Rnd_of (m' := t.length - (k + 1)) (by omega) ⟨k + 1, by omega, rfl, rfl, by simp (disch := omega)⟩
        · by_cases hx3 : bidi z = 3
          · have q3 := q2 (.inr hx3)
            subst q3
            simp (disch := omega) [hx3, hb4, hz, hBi, p0, q0, wrap64, -getElem?_pos]
            exact Rnd_of (m' := t.length - (k + 1)) (by omega) ⟨k + 1, by omega, rfl, rfl, by simp (disch := omega)⟩
          · rcases q1 with rfl | rfl
            · simp (disch := omega) [hx0, hx3, hb4, hz, hBi, p0, q0, wrap64, -getElem?_pos]
              exact Rnd_of (m' := t.length - (k + 1)) (by omega) ⟨k + 1, by omega, rfl, rfl, by simp (disch := omega)⟩
            · simp (disch := omega) [hx0, hx3, hb4, hz, hBi, p0, q0, wrap64, -getElem?_pos]
              exact Rnd_of (m' := t.length - (k + 1)) (by omega) ⟨k + 1, by omega, rfl, rfl, by simp (disch := omega)⟩
      · obtain rfl : k = t.length := by omega
        simp (disch := omega) [hvl, hA]
    · simp (disch := omega) [hI1, l0, l1, hvl, n0, n1]
      refine wC_loop (fun m fr H => ∃ (k : Nat), k ≤ t.length ∧ m = t.length - k ∧ H = some (AP.map (V.int .i32)) :: some [il L, .int .i64 kk] :: Z ∧
        Slots 100 [(5, v), (7, il r0), (8, il r1), (9, .int .i64 k)] fr) (m := t.length) (by omega) ⟨0, by omega, by omega, rfl, by simp⟩ ?_
      rintro m fr H ⟨k, hk, rfl, rfl, hs⟩
      obtain ⟨j2, rfl⟩ := hs.ex
      clear hs
      by_cases hkt : k < t.length
      · obtain ⟨z, hz⟩ : ∃ z, t[k]? = some z := ⟨_, List.getElem?_eq_getElem hkt⟩
        have hzb : (t.map bidi)[k]? = some (bidi z) := by rw [List.getElem?_map, hz]; rfl
        obtain ⟨a0, p0, p1, -⟩ := g0 k _ hzb
        have p1 := p1 rfl
        subst p1
        obtain ⟨a1, q0, -, q1⟩ := g1 k _ hzb
        obtain ⟨q1, q2⟩ := q1 rfl
        obtain ⟨b, rfl, hb1, hb2, hb3⟩ := hhp.head.ints (by omega)
        obtain ⟨b, rfl⟩ : ∃ b', b = b' + 1 + 1 := ⟨b - 2, by simp at hb1; omega⟩
        have hb4 : blockOf Z b = some (t.map (V.int .i32)) := by simpa using hb3
        have hkI : (k : Int) < t.length := by omega
        simp (disch := omega) [hkI, hvl, hb4, hz, hBi, -getElem?_pos]
        by_cases hx0 : bidi z = 0
        · have q3 := q2 (.inl hx0)
          subst q3
          simp (disch := omega) [hx0, p0, q0, wrap64, -getElem?_pos]
          exact Rnd_of (m' := t.length - (k + 1)) (by omega) ⟨k + 1, by omega, rfl, rfl, by simp (disch := omega)⟩
        · by_cases hx3 : bidi z = 3
          · have q3 := q2 (.inr hx3)
            subst q3
            simp (disch := omega) [hx3, hb4, hz, hBi, p0, q0, wrap64, -getElem?_pos]
            exact Rnd_of (m' := t.length - (k + 1)) (by omega) ⟨k + 1, by omega, rfl, rfl, by simp (disch := omega)⟩
          · rcases q1 with rfl | rfl
            · simp (disch := omega) [hx0, hx3, hb4, hz, hBi, p0, q0, wrap64, -getElem?_pos]
              exact Rnd_of (m' := t.length - (k + 1)) (by omega) ⟨k + 1, by omega, rfl, rfl, by simp (disch := omega)⟩
            · simp (disch := omega) [hx0, hx3, hb4, hz, hBi, p0, q0, wrap64, -getElem?_pos]
              exact Rnd_of (m' := t.length - (k + 1)) (by omega) ⟨k + 1, by omega, rfl, rfl, by simp (disch := omega)⟩
      · obtain rfl : k = t.length := by omega
        simp (disch := omega) [hvl, hA]
end Bi
end Go.Ab
