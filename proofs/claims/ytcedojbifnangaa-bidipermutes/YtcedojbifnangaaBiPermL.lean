/- Several texts of this proof in one. -/
import Derived.Test.YtcedojbifnangaaBiSq
import Derived.Test.YtcedojbifnangaaBiSpec4
import Derived.Test.YtcedojbifnangaaBiLev0
import Derived.Test.YtcedojbifnangaaBiG
import Derived.Test.YtcedojbifnangaaBiPrim
/- No place lies in two sequences. -/
namespace Go.Ab.Bi
theorem mscan_add : ∀ (r : List Int) (d d' q : Nat), mscan r d = some q → mscan r (d + d' + 1) = (mscan (r.drop (q + 1)) d').map (· + (q + 1))
  | [], _, _, _, h => by simp [mscan] at h
  | x :: r, d, d', q, h => by
    by_cases hx : ini x = true
    · rw [mscan_ini hx] at h ⊢
      obtain ⟨k, hk, rfl⟩ := Option.map_eq_some_iff.1 h
      rw [show d + d' + 1 + 1 = (d + 1) + d' + 1 by omega, mscan_add r (d + 1) d' k hk, List.drop_succ_cons, Option.map_map]
      congr 1
    · have hx' : ini x = false := by simpa using hx
      by_cases h2 : x = 22
      · subst h2
        cases d with
        | zero =>
          rw [mscan_pd0] at h
          cases h
          rw [Nat.zero_add, mscan_pdS]
          rfl
        | succ d =>
          rw [mscan_pdS] at h
          obtain ⟨k, hk, rfl⟩ := Option.map_eq_some_iff.1 h
          rw [show d + 1 + d' + 1 = (d + d' + 1) + 1 by omega, mscan_pdS, mscan_add r d d' k hk, List.drop_succ_cons, Option.map_map]
          congr 1
      · rw [mscan_oth hx' h2] at h ⊢
        obtain ⟨k, hk, rfl⟩ := Option.map_eq_some_iff.1 h
        rw [mscan_add r d d' k hk, List.drop_succ_cons, Option.map_map]
        congr 1
theorem mscan_skip : ∀ (u : Nat) (r : List Int) (d a : Nat), mscan r d = some a → u ≤ a → ∃ D, (mscan (r.drop u) D).map (· + u) = some a
  | 0, r, d, a, h, _ => ⟨d, by simpa using h⟩
  | u + 1, [], d, a, h, _ => by simp [mscan] at h
  | u + 1, x :: r, d, a, h, hu => by
    have key : ∀ D, (mscan r D).map (· + 1) = some a → ∃ D, (mscan ((x :: r).drop (u + 1)) D).map (· + (u + 1)) = some a := by
      intro D hD
      obtain ⟨k, hk, rfl⟩ := Option.map_eq_some_iff.1 hD
      obtain ⟨D', hD'⟩ := mscan_skip u r D k hk (by omega)
      obtain ⟨j, hj, hjk⟩ := Option.map_eq_some_iff.1 hD'
      exact ⟨D', by rw [List.drop_succ_cons, hj]; simp; omega⟩
    by_cases hx : ini x = true
    · rw [mscan_ini hx] at h
      exact key _ h
    · have hx' : ini x = false := by simpa using hx
      by_cases h2 : x = 22
      · subst h2
        cases d with
        | zero => rw [mscan_pd0] at h; cases h; omega
        | succ d => rw [mscan_pdS] at h; exact key _ h
      · rw [mscan_oth hx' h2] at h
        exact key _ h
theorem mt_lt2 {c : List Int} {z z' : Nat} (hlt : z < z') {m : Nat} (h1 : mt c z = m) (h2 : mt c z' = m) {x : Int} (hx : c[z']? = some x) (hi : ini x = true) : False := by
  unfold mt at h1 h2
  cases ha : mscan (c.drop (z + 1)) 0 with
  | none => rw [ha] at h1; simp only at h1; omega
  | some a =>
    cases hb : mscan (c.drop (z' + 1)) 0 with
    | none => rw [hb] at h2; simp only at h2; omega
    | some b =>
      rw [ha] at h1
      rw [hb] at h2
      simp only at h1 h2
      obtain ⟨u, rfl⟩ : ∃ u, z' = z + 1 + u := ⟨z' - (z + 1), by omega⟩
      obtain ⟨D, hD⟩ := mscan_skip u _ 0 a ha (by omega)
      obtain ⟨hl, rfl⟩ := List.getElem?_eq_some_iff.1 hx
      rw [List.drop_drop, List.drop_eq_getElem_cons hl, mscan_ini hi] at hD
      have := mscan_add (c.drop (z + 1 + u + 1)) 0 D b hb
      rw [show 0 + D + 1 = D + 1 by omega] at this
      rw [this] at hD
      cases hc : mscan (List.drop (b + 1) (List.drop (z + 1 + u + 1) c)) D with
      | none => rw [hc] at hD; simp at hD
      | some q => rw [hc] at hD; simp at hD; omega
/-- Two runs are not followed by the same run. -/
theorem fol_inj {o M : List Int} {rs : List (List Int)} (hM : MOK o M) (hp : rs.flatten.Pairwise (· < ·)) (hn : ∀ x ∈ rs.flatten, 0 ≤ x ∧ x < o.length) {j j' : Nat} (hj : j < rs.length) (hj' : j' < rs.length) (h : fol o M rs j = fol o M rs j') (h0 : 0 ≤ fol o M rs j) : j = j' := by
  have key : ∀ j, j < rs.length → 0 ≤ fol o M rs j → ∃ z : Int, z ∈ rs.getD j [] ∧ 0 ≤ z ∧ z < o.length ∧ ini (o.getD z.toNat 0) = true ∧ ∃ m : Nat, mt o z.toNat = m ∧ ∃ k r, fol o M rs j = (k : Nat) ∧ rs[k]? = some r ∧ r.head? = some (m : Int) := by
    intro j hj h0
    unfold fol at h0 ⊢
    have hd : rs.getD j [] = rs[j] := by rw [List.getD_eq_getElem?_getD, List.getElem?_eq_getElem hj]; rfl
    rw [hd] at h0 ⊢
    cases hz : rs[j].getLast? with
    | none => rw [hz] at h0; simp at h0
    | some z =>
      rw [hz] at h0
      simp only at h0 ⊢
      have hzm : z ∈ rs[j] := List.mem_of_getLast? hz
      have hzf : z ∈ rs.flatten := List.mem_flatten.2 ⟨_, List.getElem_mem hj, hzm⟩
      have hzr := hn z hzf
      split at h0
      · rename_i hc
        rw [if_pos hc]
        rw [Bool.and_eq_true, decide_eq_true_eq] at hc
        have ho : o[z.toNat]? = some (o.getD z.toNat 0) := by rw [List.getD_eq_getElem?_getD, List.getElem?_eq_getElem (by omega)]; rfl
        have hm := hM.at_ z.toNat _ ho hc.1
        have hmg : M.getD z.toNat 0 = mt o z.toNat := by rw [List.getD_eq_getElem?_getD, hm]; rfl
        rw [hmg] at hc h0 ⊢
        obtain ⟨m, hm2⟩ : ∃ m : Nat, mt o z.toNat = m := ⟨(mt o z.toNat).toNat, by omega⟩
        cases hb : bgn rs (mt o z.toNat) with
        | none => rw [hb] at h0; simp at h0
        | some k =>
          obtain ⟨r, h3, h4⟩ := bgn_some hb
          exact ⟨z, hzm, hzr.1, hzr.2, hc.1, m, hm2, k, r, rfl, h3, by rw [h4, hm2]⟩
      · omega
  obtain ⟨z, hz1, hz2, hz3, hz4, m, hz5, k, r, hz6, hz7, hz8⟩ := key j hj h0
  obtain ⟨z', hy1, hy2, hy3, hy4, m', hy5, k', r', hy6, hy7, hy8⟩ := key j' hj' (h ▸ h0)
  have hk : k = k' := by omega
  subst hk
  rw [hz7] at hy7
  cases hy7
  rw [hz8] at hy8
  have hmm : m = m' := by simpa using hy8
  subst hmm
  have ho : ∀ z : Int, 0 ≤ z → z < o.length → o[z.toNat]? = some (o.getD z.toNat 0) := fun z _ _ => by rw [List.getD_eq_getElem?_getD, List.getElem?_eq_getElem (by omega)]; rfl
  have hzz : z = z' := by
    rcases Int.lt_trichotomy z z' with h1 | h1 | h1
    · exact (mt_lt2 (by omega : z.toNat < z'.toNat) hz5 hy5 (ho z' hy2 hy3) hy4).elim
    · exact h1
    · exact (mt_lt2 (by omega : z'.toNat < z.toNat) hy5 hz5 (ho z hz2 hz3) hz4).elim
  subst hzz
  have hd : ∀ j (hj : j < rs.length), rs.getD j [] = rs[j] := fun j hj => by rw [List.getD_eq_getElem?_getD, List.getElem?_eq_getElem hj]; rfl
  rw [hd j hj] at hz1
  rw [hd j' hj'] at hy1
  obtain ⟨p1, p2⟩ := List.pairwise_flatten.1 hp
  rcases Nat.lt_trichotomy j j' with h1 | h1 | h1
  · have := List.pairwise_iff_getElem.1 p2 j j' hj hj' h1 z hz1 z hy1; omega
  · exact h1
  · have := List.pairwise_iff_getElem.1 p2 j' j hj' hj h1 z hy1 z hz1; omega
/-- The runs of a chain. -/
def chI (F : Nat → Int) : Nat → Int → List Nat
  | 0, _ => []
  | f + 1, j => if 0 ≤ j then j.toNat :: chI F f (F j.toNat) else []
theorem chI_chn (F : Nat → Int) (rs : List (List Int)) : ∀ (f : Nat) (j : Int) (x : Int), x ∈ chn F rs f j → ∃ k ∈ chI F f j, x ∈ rs.getD k []
  | 0, _, x, h => by simp [chn] at h
  | f + 1, j, x, h => by
    unfold chn at h
    unfold chI
    split at h
    · rename_i hj
      rw [if_pos hj]
      rcases List.mem_append.1 h with h | h
      · exact ⟨_, List.mem_cons_self .., h⟩
      · obtain ⟨k, h1, h2⟩ := chI_chn F rs f _ x h
        exact ⟨k, List.mem_cons_of_mem _ h1, h2⟩
    · simp at h
/-- A run of a chain is its first, or follows one of it. -/
theorem chI_step (F : Nat → Int) : ∀ (f : Nat) (j : Int) (k : Nat), k ∈ chI F f j → (k : Int) = j ∨ ∃ q ∈ chI F f j, F q = (k : Int)
  | 0, _, k, h => by simp [chI] at h
  | f + 1, j, k, h => by
    unfold chI at h ⊢
    split at h
    · rename_i hj
      rw [if_pos hj]
      rcases List.mem_cons.1 h with h | h
      · left; omega
      · right
        rcases chI_step F f _ k h with h1 | ⟨q, h1, h2⟩
        · exact ⟨j.toNat, List.mem_cons_self .., h1.symm⟩
        · exact ⟨q, List.mem_cons_of_mem _ h1, h2⟩
    · simp at h
theorem chI_lt {F : Nat → Int} {N : Nat} (hF : ∀ j, j < N → F j < 0 ∨ ((j : Int) < F j ∧ F j < N)) : ∀ (f : Nat) (j : Int), j < N → ∀ k ∈ chI F f j, k < N
  | 0, _, _, k, h => by simp [chI] at h
  | f + 1, j, hj, k, h => by
    unfold chI at h
    split at h
    · rcases List.mem_cons.1 h with h | h
      · omega
      · refine chI_lt hF f _ ?_ k h
        have := hF j.toNat (by omega)
        omega
    · simp at h
theorem chI_one {F : Nat → Int} {N : Nat} (hF : ∀ j, j < N → F j < 0 ∨ ((j : Int) < F j ∧ F j < N)) (hI : ∀ j j', j < N → j' < N → F j = F j' → 0 ≤ F j → j = j') {a b f : Nat} (ha : a < N) (hb : b < N) (hca : con F N a = false) (hcb : con F N b = false) :
    ∀ (n k : Nat), k ≤ n → k ∈ chI F f a → k ∈ chI F f b → a = b
  | n, k, hkn, h1, h2 => by
    have hno : ∀ c, c < N → con F N c = false → ∀ q, q < N → F q ≠ (c : Int) := by
      intro c hc hcc q hq e
      have : con F N c = true := by
        unfold con
        rw [List.any_eq_true]
        exact ⟨q, by simpa using hq, by simpa using e⟩
      rw [hcc] at this
      cases this
    rcases chI_step F f a k h1 with e1 | ⟨q1, hq1, e1⟩
    · rcases chI_step F f b k h2 with e2 | ⟨q2, hq2, e2⟩
      · omega
      · exact (hno a ha hca q2 (chI_lt hF f b (by omega) q2 hq2) (by omega)).elim
    · rcases chI_step F f b k h2 with e2 | ⟨q2, hq2, e2⟩
      · exact (hno b hb hcb q1 (chI_lt hF f a (by omega) q1 hq1) (by omega)).elim
      · have l1 := chI_lt hF f a (by omega) q1 hq1
        have l2 := chI_lt hF f b (by omega) q2 hq2
        have hq : q1 = q2 := hI q1 q2 l1 l2 (by omega) (by omega)
        subst hq
        have hlt := hF q1 l1
        have hqk : q1 < k := by omega
        cases n with
        | zero => omega
        | succ n => exact chI_one hF hI ha hb hca hcb n q1 (by omega) hq1 hq2
end Go.Ab.Bi
/- Plain texts (letters, spaces, digits, full stops): what the rules make of one sequence. -/
namespace Go.Ab.Bi
/-- Latin letters, digits, full stops, spaces. -/
def plc (x : Int) : Bool := x == 0 || x == 3 || x == 7 || x == 12
theorem plc_iff {x : Int} : plc x = true ↔ x = 0 ∨ x = 3 ∨ x = 7 ∨ x = 12 := by simp [plc, or_assoc]
theorem w1_id : ∀ (s : List Int) (p : Int), (∀ x ∈ s, x ≠ 8) → w1 p s = s
  | [], _, _ => rfl
  | x :: r, p, h => by
    have hx := h x (List.mem_cons_self ..)
    rw [w1, if_neg hx, w1_id r _ fun y hy => h y (List.mem_cons_of_mem _ hy)]
theorem w2_id : ∀ (s : List Int) (l : Int), (∀ x ∈ s, x ≠ 2) → l ≠ 2 → w2 l s = s
  | [], _, _, _ => rfl
  | x :: r, l, h, hl => by
    have hx := h x (List.mem_cons_self ..)
    have hr : ∀ y ∈ r, y ≠ 2 := fun y hy => h y (List.mem_cons_of_mem _ hy)
    rw [w2]
    split
    · rw [w2_id r x hr hx]
    · rw [if_neg (fun e => hl e.2), w2_id r l hr hl]
theorem w3_id {s : List Int} (h : ∀ x ∈ s, x ≠ 2) : w3 s = s := by
  unfold w3
  conv => rhs; rw [← List.map_id s]
  apply List.map_congr_left
  intro x hx
  simp [h x hx]
theorem w5_id : ∀ (s : List Int) (p : Int), (∀ x ∈ s, x ≠ 5) → w5 p 0 s = s
  | [], _, _ => rfl
  | x :: r, p, h => by
    have hx := h x (List.mem_cons_self ..)
    rw [w5, if_neg hx, w5_id r _ fun y hy => h y (List.mem_cons_of_mem _ hy)]
    rfl
theorem w4c_plc {p x y : Int} (hp : p ≠ 6) (hx : plc x = true) : plc (w4c p x y) = true ∧ (x = 0 ∨ x = 3 → w4c p x y = x) := by
  rw [plc_iff] at hx
  unfold w4c
  rcases hx with rfl | rfl | rfl | rfl
  · simp [plc]
  · simp [plc]
  · by_cases h : p = y ∧ (p = 3 ∨ p = 6)
    · rcases h.2 with rfl | rfl
      · simp [plc, ← h.1]
      · exact absurd rfl hp
    · simp [plc, h]
  · simp [plc]
theorem w4_at : ∀ (s : List Int) (p : Int), p ≠ 6 → (∀ x ∈ s, plc x = true) → ∀ (k : Nat) (x : Int), s[k]? = some x → ∃ x', (w4 p s)[k]? = some x' ∧ plc x' = true ∧ (x = 0 ∨ x = 3 → x' = x)
  | [], _, _, _, k, x, hx => by simp at hx
  | a :: r, p, hp, h, k, x, hx => by
    have ha := w4c_plc (y := r.headD (-1)) hp (h a (List.mem_cons_self ..))
    rw [w4]
    cases k with
    | zero =>
      simp at hx
      subst hx
      exact ⟨_, rfl, ha.1, ha.2⟩
    | succ k =>
      have hne : w4c p a (r.headD (-1)) ≠ 6 := by
        have := plc_iff.1 ha.1
        omega
      exact w4_at r _ hne (fun y hy => h y (List.mem_cons_of_mem _ hy)) k x (by simpa using hx)
theorem mem_of_at {s s' : List Int} {p : Int → Prop} (hl : s'.length = s.length) (h : ∀ (k : Nat) (x : Int), s[k]? = some x → ∃ x', s'[k]? = some x' ∧ p x') : ∀ x ∈ s', p x := by
  intro x hx
  obtain ⟨k, hk⟩ := List.mem_iff_getElem?.1 hx
  have hkl := (List.getElem?_eq_some_iff.1 hk).1
  obtain ⟨x', h1, h2⟩ := h k s[k] (List.getElem?_eq_getElem (by omega))
  rw [hk] at h1
  cases h1
  exact h2
theorem w6_at : ∀ (s : List Int) (l : Int), (∀ x ∈ s, plc x = true) → ∀ (k : Nat) (x : Int), s[k]? = some x → ∃ x', (w6 l s)[k]? = some x' ∧ (x' = 0 ∨ x' = 3 ∨ x' = 12 ∨ x' = 13) ∧ (x = 0 ∨ x = 3 → x' = 0 ∨ x' = 3) ∧ (l = 0 → x' ≠ 3)
  | [], _, _, k, x, hx => by simp at hx
  | a :: r, l, h, k, x, hx => by
    have ha := plc_iff.1 (h a (List.mem_cons_self ..))
    have hr : ∀ y ∈ r, plc y = true := fun y hy => h y (List.mem_cons_of_mem _ hy)
    rw [w6]
    rcases ha with rfl | rfl | rfl | rfl
    · rw [if_neg (by omega), if_pos (by omega)]
      cases k with
      | zero => simp at hx; subst hx; exact ⟨0, rfl, by omega, by omega, by omega⟩
      | succ k =>
        obtain ⟨x', h1, h2, h3, h4⟩ := w6_at r 0 hr k x (by simpa using hx)
        exact ⟨x', h1, h2, h3, fun _ => h4 rfl⟩
    · rw [if_neg (by omega), if_neg (by omega)]
      by_cases hl : l = 0
      · rw [if_pos ⟨rfl, hl⟩]
        cases k with
        | zero => simp at hx; subst hx; exact ⟨0, rfl, by omega, by omega, by omega⟩
        | succ k => exact w6_at r l hr k x (by simpa using hx)
      · rw [if_neg (fun e => hl e.2)]
        cases k with
        | zero => simp at hx; subst hx; exact ⟨3, rfl, by omega, by omega, fun e => absurd e hl⟩
        | succ k => exact w6_at r l hr k x (by simpa using hx)
    · rw [if_pos (by omega)]
      cases k with
      | zero => simp at hx; subst hx; exact ⟨13, rfl, by omega, by omega, by omega⟩
      | succ k => exact w6_at r l hr k x (by simpa using hx)
    · rw [if_neg (by omega), if_neg (by omega), if_neg (by omega)]
      cases k with
      | zero => simp at hx; subst hx; exact ⟨12, rfl, by omega, by omega, by omega⟩
      | succ k => exact w6_at r l hr k x (by simpa using hx)
theorem weak_at {s : List Int} (h : ∀ x ∈ s, plc x = true) {st : Int} (hst : st = 0 ∨ st = 1) (k : Nat) (x : Int) (hx : s[k]? = some x) : ∃ x', (weakS st s)[k]? = some x' ∧ (x' = 0 ∨ x' = 3 ∨ x' = 12 ∨ x' = 13) ∧ (x = 0 ∨ x = 3 → x' = 0 ∨ x' = 3) ∧ (st = 0 → x' ≠ 3) := by
  have hm : ∀ v : Int, v ≠ 0 → v ≠ 3 → v ≠ 7 → v ≠ 12 → ∀ x ∈ s, x ≠ v := by
    intro v h0 h3 h7 h12 x hx e
    have := plc_iff.1 (h x hx)
    omega
  have h4 := w4_at s (-1) (by omega) h
  have hp4 : ∀ x ∈ w4 (-1) s, plc x = true := mem_of_at (w4_len s (-1)) (fun k x hx => by obtain ⟨x', a, b, _⟩ := h4 k x hx; exact ⟨x', a, b⟩)
  have hm4 : ∀ x ∈ w4 (-1) s, x ≠ 5 := by
    intro x hx e
    have := plc_iff.1 (hp4 x hx)
    omega
  have e : weakS st s = w6 st (w4 (-1) s) := by
    unfold weakS
    rw [w1_id s st (hm 8 (by omega) (by omega) (by omega) (by omega)), w2_id s st (hm 2 (by omega) (by omega) (by omega) (by omega)) (by omega), w3_id (hm 2 (by omega) (by omega) (by omega) (by omega)), w5_id _ _ hm4]
  rw [e]
  obtain ⟨y, h5, h6, h7⟩ := h4 k x hx
  obtain ⟨x', a, b, c, d⟩ := w6_at (w4 (-1) s) st hp4 k y h5
  exact ⟨x', a, b, fun hh => c (by have := h7 hh; omega), d⟩
/-- The neutral rules: from the left all becomes L; from the right what is strong stays. -/
theorem neu_zero : ∀ (s : List Int) (n : Nat), (∀ x ∈ s, x = 0 ∨ x = 12 ∨ x = 13) → ∀ x ∈ neuS 0 0 0 n s, x = 0
  | [], n, _ => by
    intro x hx
    simp [neuS] at hx
    exact hx.2
  | a :: r, n, h => by
    have ha := h a (List.mem_cons_self ..)
    have hr : ∀ y ∈ r, y = 0 ∨ y = 12 ∨ y = 13 := fun y hy => h y (List.mem_cons_of_mem _ hy)
    intro x hx
    rw [neuS] at hx
    split at hx
    · exact neu_zero r (n + 1) hr x hx
    · rename_i hn
      have : a = 0 := by
        rcases ha with rfl | rfl | rfl
        · rfl
        · simp [neutB] at hn
        · simp [neutB] at hn
      subst this
      rcases List.mem_append.1 hx with hx | hx
      · simp at hx; exact hx.2
      · rcases List.mem_cons.1 hx with rfl | hx
        · rfl
        · exact neu_zero r 0 hr x hx
theorem neu_at (d e : Int) : ∀ (s : List Int) (b : Int) (n k : Nat) (x : Int), s[k]? = some x → neutB x = false → (neuS d e b n s)[n + k]? = some x
  | [], b, n, k, x, hx, _ => by simp at hx
  | a :: r, b, n, k, x, hx, hn => by
    rw [neuS]
    cases k with
    | zero =>
      simp at hx
      subst hx
      simp [hn]
    | succ k =>
      have hx' : r[k]? = some x := by simpa using hx
      split
      · have := neu_at d e r b (n + 1) k x hx' hn
        rwa [show n + 1 + k = n + (k + 1) by omega] at this
      · have := neu_at d e r (dirS a) 0 k x hx' hn
        rw [List.getElem?_append_right (by simp), List.length_replicate, show n + (k + 1) - n = k + 1 by omega, List.getElem?_cons_succ]
        simpa using this
end Go.Ab.Bi
/- Plain texts: their levels. -/
namespace Go.Ab
open Go.Proofs
namespace Bi
theorem exGo_plain (e : Int) : ∀ (l : List Int) (s : ES), (∀ x ∈ l, plc x = true) → topE s.st = (e, -1, false) → exGo e l s = l.map fun x => (e, x)
  | [], _, _, _ => rfl
  | x :: r, s, h, hs => by
    have hx := plc_iff.1 (h x (List.mem_cons_self ..))
    have hi : ini x = false := by rcases hx with rfl | rfl | rfl | rfl <;> rfl
    have hst : ∀ odd, exStep e x odd s = (e, x, s) := by
      intro odd
      unfold exStep
      rw [if_neg (by omega), if_neg (by rw [hi]; simp), if_neg (by omega), if_neg (by omega), if_neg (by omega), if_neg (by omega), hs]
      simp [ovr]
    rw [exGo, hst, exGo_plain e r s (fun y hy => h y (List.mem_cons_of_mem _ hy)) hs]
    rfl
def nums (n : Nat) : List Int := (List.range n).map Int.ofNat
theorem nums_len (n : Nat) : (nums n).length = n := by simp [nums]
theorem nums_get {n k : Nat} (h : k < n) : (nums n)[k]? = some (k : Int) := by simp [nums, h]
theorem nums_succ (n : Nat) : nums (n + 1) = nums n ++ [(n : Int)] := by simp [nums, List.range_succ]
theorem keptL_all {o : List Int} (h : ∀ x ∈ o, gone x = false) : ∀ k, k ≤ o.length → keptL o k = nums k
  | 0, _ => rfl
  | k + 1, hk => by
    have hg : gone (o.getD k 0) = false := by
      rw [List.getD_eq_getElem?_getD, List.getElem?_eq_getElem (by omega)]
      exact h _ (List.getElem_mem _)
    rw [show keptL o (k + 1) = if gone (o.getD k 0) then keptL o k else keptL o k ++ [(k : Int)] from rfl, hg, keptL_all h k (by omega), nums_succ]
    rfl
theorem grp_one {lv kept : List Int} {e : Int} (h : ∀ i, i < kept.length → lvl lv (kept.getD i 0) = e) : ∀ k, 0 < k → k ≤ kept.length → grp lv kept k = [kept.take k]
  | 0, h0, _ => by omega
  | k + 1, _, hk => by
    have hx : kept[k]? = some (kept.getD k 0) := by rw [List.getD_eq_getElem?_getD, List.getElem?_eq_getElem (by omega)]; rfl
    rw [show grp lv kept (k + 1) = if k = 0 ∨ lvl lv (kept.getD k 0) ≠ lvl lv (kept.getD (k - 1) 0) then grp lv kept k ++ [[kept.getD k 0]] else snocL (grp lv kept k) (kept.getD k 0) from rfl, List.take_add_one, hx]
    by_cases hz : k = 0
    · subst hz
      rw [if_pos (.inl rfl)]
      rfl
    · rw [if_neg (by rw [h k (by omega), h (k - 1) (by omega)]; simp [hz]), grp_one h k (by omega) (by omega)]
      rfl
theorem map_full {c : List Int} {n : Nat} (h : c.length = n) : (nums n).map (lvl c) = c := by
  apply List.ext_getElem?
  intro k
  by_cases hk : k < n
  · rw [List.getElem?_map, nums_get hk]
    simp only [Option.map_some, lvl, Int.toNat_natCast, List.getD_eq_getElem?_getD]
    rw [List.getElem?_eq_getElem (by omega)]
    rfl
  · rw [List.getElem?_eq_none (by simp [nums_len]; omega), List.getElem?_eq_none (by omega)]
theorem WB_full {c s c' : List Int} {n : Nat} (hc : c.length = n) (h : WB c (nums n) s c') : c' = s := by
  have h1 := h.len
  have h2 := h.sl
  rw [nums_len] at h2
  apply List.ext_getElem?
  intro k
  by_cases hk : k < n
  · have := h.at_ k k (nums_get hk)
    rwa [Int.toNat_natCast] at this
  · rw [List.getElem?_eq_none (by omega), List.getElem?_eq_none (by omega)]
theorem pgo_none : ∀ (l : List (Int × Int)) (k : Nat) (p : PS), (∀ x ∈ l, (brS x.2).1 = 0) → pgo k l p = some p.out
  | [], _, _, _ => rfl
  | (x, r) :: l, k, p, h => by
    have hr := h (x, r) (List.mem_cons_self ..)
    have ih := fun k p => pgo_none l k p fun y hy => h y (List.mem_cons_of_mem _ hy)
    simp only at hr
    rw [pgo]
    split
    · exact ih _ _
    · rw [if_neg (by omega), if_neg (by omega)]
      exact ih _ _
theorem srtS_nil : srtS [] = [] := List.length_eq_zero_iff.1 (by rw [srtS_len]; rfl)
theorem prsS_none {l : List (Int × Int)} (h : ∀ x ∈ l, (brS x.2).1 = 0) : prsS l = [] := by
  unfold prsS
  rw [pgo_none l 0 _ h]
  exact srtS_nil
theorem nums_idx {n : Nat} {x : Int} (h : x ∈ nums n) : ((nums n).idxOf x : Int) = x := by
  have h1 := idx_get h
  have h2 := (List.getElem?_eq_some_iff.1 h1).1
  rw [nums_len] at h2
  rw [nums_get h2] at h1
  simpa using h1
/-- A text without removed runes, isolates, in one level: one sequence, of all its runes. -/
theorem seqs_one {o M lv : List Int} {n : Nat} {e : Int} (hn : 0 < n) (ho : o.length = n) (hg : ∀ x ∈ o, gone x = false ∧ ini x = false) (hlv : lv.length = n) (hl : ∀ x ∈ lv, x = e) : seqsS o M lv n e = [⟨nums n, e, strS e, strS e⟩] := by
  have hk : keptL o n = nums n := keptL_all (fun x hx => (hg x hx).1) n (by omega)
  have hlvl : ∀ i : Nat, i < n → lvl lv (i : Int) = e := by
    intro i hi
    unfold lvl
    rw [Int.toNat_natCast, List.getD_eq_getElem?_getD, List.getElem?_eq_getElem (by omega)]
    exact hl _ (List.getElem_mem _)
  have hgr : grp lv (nums n) n = [nums n] := by
    have := grp_one (lv := lv) (kept := nums n) (e := e) (fun i hi => by
      rw [nums_len] at hi
      rw [List.getD_eq_getElem?_getD, nums_get hi]
      exact hlvl i hi) n hn (by rw [nums_len]; exact Nat.le_refl _)
    rw [this, List.take_of_length_le (by rw [nums_len]; exact Nat.le_refl _)]
  have hlast : (nums n).getLast? = some ((n - 1 : Nat) : Int) := by
    rw [List.getLast?_eq_getElem?, nums_len, nums_get (by omega)]
  have hf : fol o M [nums n] 0 = -1 := fol_no (r := nums n) rfl hlast (.inl (by
    rw [Int.toNat_natCast, List.getD_eq_getElem?_getD, List.getElem?_eq_getElem (by omega)]
    exact (hg _ (List.getElem_mem _)).2))
  have hch : chn (fol o M [nums n]) [nums n] 1 (0 : Nat) = nums n := by
    rw [chn_step (r := nums n) rfl]
    simp [chn]
  have hcon : con (fol o M [nums n]) 1 0 = false := by
    rw [con_succ, con_zero, hf]
    rfl
  have hh : (nums n).headD 0 = 0 := by
    have := nums_get hn
    cases hu : nums n with
    | nil => rfl
    | cons a r => rw [hu] at this; simpa using this
  have hll : (nums n).getLastD 0 = ((n - 1 : Nat) : Int) := by
    have h1 := lastD_of (l := nums n) (by intro e; rw [e] at hlast; cases hlast)
    rw [nums_len, nums_get (by omega)] at h1
    simpa using h1.symm
  have hm0 : (0 : Int) ∈ nums n := List.mem_of_getElem? (nums_get hn)
  have hm1 : ((n - 1 : Nat) : Int) ∈ nums n := List.mem_of_getElem? (nums_get (by omega))
  have hi0 : (nums n).idxOf 0 = 0 := by have := nums_idx hm0; omega
  have hi1 : (nums n).idxOf ((n - 1 : Nat) : Int) = n - 1 := by have := nums_idx hm1; omega
  unfold seqsS
  rw [hk, nums_len, hgr]
  show sqsU o (fol o M [nums n]) [nums n] lv (nums n) e 1 = _
  rw [sqsU, show ([nums n] : List (List Int)).length = 1 from rfl, hcon]
  simp only [Bool.false_eq_true, if_false, sqsU, List.nil_append]
  unfold sqOf
  have hl0 := hlvl 0 hn
  simp only [show ([nums n] : List (List Int)).length = 1 from rfl, hch, hh, hll, hi0, hi1]
  rw [show ((0 : Nat) : Int) = 0 from rfl] at hl0
  rw [hl0]
  unfold endS
  rw [if_neg (by omega), nums_len, if_neg (by omega), Int.max_self]
theorem brks_nil (d st : Int) (os s : List Int) : brks d st os [] s = s := rfl
/-- Texts of these runes. -/
def alpP : List Int := [97, 98, 32, 49, 46, 122]
theorem alpP_cls : ∀ x ∈ alpP, plc (bidi x) = true ∧ (brS x).1 = 0 := by
  have h : alpP.all (fun x => plc (bidi x) && decide ((brS x).1 = 0)) = true := by kernel_rfl
  intro x hx
  have := List.all_eq_true.1 h x hx
  simpa using this
theorem impL_get {lev : Int} : ∀ {u s : List Int} {k : Nat} {a x : Int}, u[k]? = some a → s[k]? = some x → (impL lev u s)[k]? = some (a + impS lev x)
  | [], _, _, _, _, h, _ => by simp at h
  | _ :: _, [], _, _, _, _, h => by simp at h
  | b :: u, y :: s, 0, a, x, h1, h2 => by simp at h1 h2; simp [impL, h1, h2]
  | b :: u, y :: s, k + 1, a, x, h1, h2 => by
    simp only [impL, List.getElem?_cons_succ] at h1 h2 ⊢
    exact impL_get h1 h2
theorem remL_id : ∀ (o y : List Int) (p : Int), o.length = y.length → (∀ x ∈ o, gone x = false) → remL p o y = y
  | [], [], _, _, _ => rfl
  | x :: o, a :: y, p, h, hg => by
    simp at h
    have hx := hg x (List.mem_cons_self ..)
    rw [remL, hx]
    simp only [Bool.false_eq_true, if_false]
    rw [remL_id o y a h fun z hz => hg z (List.mem_cons_of_mem _ hz)]
  | [], _ :: _, _, h, _ => by simp at h
  | _ :: _, [], _, h, _ => by simp at h
theorem trl_get {e : Int} : ∀ {o y : List Int} {k : Nat} {x a : Int}, o[k]? = some x → y[k]? = some a → ∃ b, (trl e o y).2[k]? = some b ∧ (b = a ∨ b = e) ∧ (x ≠ 10 → x ≠ 11 → blankB x = false → b = a)
  | [], _, _, _, _, h, _ => by simp at h
  | _ :: _, [], _, _, _, _, h => by simp at h
  | z :: o, c :: y, 0, x, a, h1, h2 => by
    simp at h1 h2
    subst h1 h2
    refine ⟨_, rfl, ?_, fun h3 h4 h5 => ?_⟩
    · split
      · exact .inr rfl
      · exact .inl rfl
    · have : trB z (trl e o y).1 = false := by
        unfold trB
        rw [if_neg (by omega), h5]
        rfl
      rw [if_neg (by rw [this]; simp)]
  | z :: o, c :: y, k + 1, x, a, h1, h2 => by
    simp only [trl, List.getElem?_cons_succ] at h1 h2 ⊢
    exact trl_get h1 h2
theorem plain_lev {t : List Int} {base : Int} {r : List Int} (hne : t ≠ []) (ht : ∀ x ∈ t, x ∈ alpP) (hb : base = 0 ∨ base = 1) (h : LevR t base r) :
    r.length = t.length ∧ ∀ (k : Nat) (x : Int), (t.map bidi)[k]? = some x → ∃ a, r[k]? = some a ∧ (base = 0 → a = 0) ∧ (base = 1 → (a = 1 ∨ a = 2) ∧ (x = 0 ∨ x = 3 → a = 2)) := by
  obtain ⟨M, c', y', hM, hst, hr⟩ := h
  have hbe : baseS bidi t base = base := by
    unfold baseS
    rw [if_pos hb]
  rw [hbe] at hst hr
  have hn : 0 < t.length := List.length_pos_iff.2 hne
  have hpl : ∀ x ∈ t.map bidi, plc x = true := by
    intro x hx
    obtain ⟨a, ha, rfl⟩ := List.mem_map.1 hx
    exact (alpP_cls a (ht a ha)).1
  have hol : (t.map bidi).length = t.length := by simp
  have hbr : ∀ c : List Int, prsS (c.zip t) = [] := fun c => prsS_none fun x hx => (alpP_cls x.2 (ht _ (List.of_mem_zip hx).2)).2
  generalize t.map bidi = o at *
  generalize hnn : t.length = n at *
  have hgi : ∀ x ∈ o, gone x = false ∧ ini x = false ∧ x ≠ 10 ∧ x ≠ 11 ∧ (x = 0 ∨ x = 3 → blankB x = false) := by
    intro x hx
    rcases plc_iff.1 (hpl x hx) with rfl | rfl | rfl | rfl <;> refine ⟨rfl, rfl, by omega, by omega, fun _ => ?_⟩ <;> first | rfl | omega
  have hex : expl base o = o.map fun x => (base, x) := exGo_plain base o (es0 base) hpl rfl
  have h1 : (expl base o).map (·.1) = o.map fun _ => base := by rw [hex, List.map_map]; rfl
  have h2 : (expl base o).map (·.2) = o := by rw [hex, List.map_map]; exact List.map_id _
  rw [h1, h2, seqs_one hn hol (fun x hx => ⟨(hgi x hx).1, (hgi x hx).2.1⟩) (by simpa using hol) (by simp)] at hst
  obtain ⟨c3, y3, ⟨c1, c2, w1, w2, w3, w4⟩, rfl, rfl⟩ := hst
  simp only at w1 w2 w3 w4
  rw [map_full hol] at w1 w2
  have e1 := WB_full hol w1
  subst e1
  have hl1 : (weakS (strS base) o).length = n := by rw [weak_len, hol]
  rw [map_full hl1, map_full hnn, hbr, brks_nil] at w2
  have e2 := WB_full hl1 w2
  subst e2
  rw [map_full hl1] at w3
  have e3 := WB_full hl1 w3
  subst e3
  have hl3 : (neuS (strS base) (strS base) (strS base) 0 (weakS (strS base) o)).length = n := by rw [neu_len, hl1]; omega
  have hlu : (o.map fun _ => base).length = n := by simpa using hol
  rw [map_full hlu, map_full hl3] at w4
  have e4 := WB_full hlu w4
  subst e4
  have hl4 : (impL base (o.map fun _ => base) (neuS (strS base) (strS base) (strS base) 0 (weakS (strS base) o))).length = n := by rw [impL_len _ _ _ (by rw [hlu, hl3]), hlu]
  rw [remL_id o _ base (by rw [hl4, hol]) (fun x hx => (hgi x hx).1)] at hr
  subst hr
  refine ⟨by rw [trl_len _ _ _ (by rw [hl4, hol]), hl4], fun k x hx => ?_⟩
  have hk := (List.getElem?_eq_some_iff.1 hx).1
  have hss : strS base = 0 ∨ strS base = 1 := by rcases hb with rfl | rfl <;> simp [strS]
  obtain ⟨x2, a1, a2, a3, a4⟩ := weak_at hpl hss k x hx
  obtain ⟨x3, b1⟩ : ∃ x3, (neuS (strS base) (strS base) (strS base) 0 (weakS (strS base) o))[k]? = some x3 := ⟨_, List.getElem?_eq_getElem (by omega)⟩
  have hu : (o.map fun _ => base)[k]? = some base := by rw [List.getElem?_map, hx]; rfl
  have hi := impL_get (lev := base) hu b1
  have hg := hgi x (List.mem_of_getElem? hx)
  obtain ⟨b, d1, d2, d3⟩ := trl_get (e := base) hx hi
  refine ⟨b, d1, fun hb0 => ?_, fun hb1 => ?_⟩
  · subst hb0
    have hz : x3 = 0 := neu_zero (weakS 0 o) 0 (fun y hy => by
      obtain ⟨q, hq⟩ := List.mem_iff_getElem?.1 hy
      have hql := (List.getElem?_eq_some_iff.1 hq).1
      have hl1' : (weakS 0 o).length = n := hl1
      obtain ⟨y2, u1, u2, u3, u4⟩ := weak_at hpl (.inl rfl) q o[q] (List.getElem?_eq_getElem (by omega))
      rw [hq] at u1
      cases u1
      have := u4 rfl
      omega) x3 (List.mem_of_getElem? b1)
    subst hz
    have : impS 0 0 = 0 := rfl
    rw [this] at d2
    omega
  · subst hb1
    have hir : impS 1 x3 = 0 ∨ impS 1 x3 = 1 := by
      unfold impS
      rw [if_neg (by omega), if_neg (by omega)]
      split
      · exact .inr rfl
      · exact .inl rfl
    refine ⟨by omega, fun hx0 => ?_⟩
    have hb2 := d3 hg.2.2.1 hg.2.2.2.1 (hg.2.2.2.2 hx0)
    have hx2 := a3 hx0
    have hnb : neutB x2 = false := by rcases hx2 with rfl | rfl <;> rfl
    have hb3 := neu_at (strS 1) (strS 1) (weakS (strS 1) o) (strS 1) 0 k x2 a1 hnb
    rw [Nat.zero_add, b1] at hb3
    cases hb3
    have : impS 1 x2 = 1 := by rcases hx2 with rfl | rfl <;> rfl
    omega
end Bi
end Go.Ab
/- The levels' range; runs of one level stay together: in plain Lean. -/
namespace Go.Ab
open Go.Proofs
namespace Bi
/-- No place lies in two sequences. -/
theorem sqsU_dis {o M : List Int} {rs : List (List Int)} {lv kept : List Int} {e : Int} (hM : MOK o M) (hp : rs.flatten.Pairwise (· < ·)) (hn : ∀ x ∈ rs.flatten, 0 ≤ x ∧ x < o.length) :
    ∀ k, k ≤ rs.length → (sqsU o (fol o M rs) rs lv kept e k).Pairwise fun a b => ∀ i ∈ a.l, i ∉ b.l
  | 0, _ => by simp [sqsU]
  | k + 1, hk => by
    have ih := sqsU_dis (lv := lv) (kept := kept) (e := e) hM hp hn k (by omega)
    unfold sqsU
    cases hc : con (fol o M rs) rs.length k
    · simp only [Bool.false_eq_true, if_false]
      refine List.pairwise_append.2 ⟨ih, by simp, ?_⟩
      intro a ha b hb i hi1 hi2
      simp at hb
      subst hb
      obtain ⟨j, h1, h2, rfl⟩ := sqsU_mem ha
      obtain ⟨q, hq1, hq2⟩ := chI_chn _ _ _ _ _ hi1
      obtain ⟨q', hr1, hr2⟩ := chI_chn _ _ _ _ _ hi2
      have hF := fun j hj => fol_ok hM hp hn j hj
      have l1 := chI_lt hF _ _ (by omega) q hq1
      have l2 := chI_lt hF _ _ (by omega) q' hr1
      have hd : ∀ j (hj : j < rs.length), rs.getD j [] = rs[j] := fun j hj => by rw [List.getD_eq_getElem?_getD, List.getElem?_eq_getElem hj]; rfl
      rw [hd q l1] at hq2
      rw [hd q' l2] at hr2
      obtain ⟨p1, p2⟩ := List.pairwise_flatten.1 hp
      have hqq : q = q' := by
        rcases Nat.lt_trichotomy q q' with h3 | h3 | h3
        · have := List.pairwise_iff_getElem.1 p2 q q' l1 l2 h3 i hq2 i hr2; omega
        · exact h3
        · have := List.pairwise_iff_getElem.1 p2 q' q l2 l1 h3 i hr2 i hq2; omega
      subst hqq
      have := chI_one hF (fun j j' hj hj' h h0 => fol_inj hM hp hn hj hj' h h0) (by omega : j < rs.length) (by omega : k < rs.length) h2 hc q q (Nat.le_refl _) hq1 hr1
      omega
    · simp only [if_true]
      exact ih
theorem seqsS_dis {o M lv : List Int} {n : Nat} {e : Int} (hM : MOK o M) (hon : o.length = n) : (seqsS o M lv n e).Pairwise fun a b => ∀ i ∈ a.l, i ∉ b.l := by
  unfold seqsS
  refine sqsU_dis hM ?_ ?_ _ (Nat.le_refl _)
  · rw [keptL_grp]; exact keptL_asc o n
  · rw [keptL_grp]
    intro x hx
    have := keptL_mem o n x hx
    omega
theorem Stp.oth {t o c y c' y' : List Int} {s : Sq} (h : Stp t o s c y c' y') {j : Nat} (hj : (j : Int) ∉ s.l) : c'[j]? = c[j]? ∧ y'[j]? = y[j]? := by
  obtain ⟨c1, c2, h1, h2, h3, h4⟩ := h
  exact ⟨by rw [h3.oth j hj, h2.oth j hj, h1.oth j hj], h4.oth j hj⟩
theorem Stps.oth {t o : List Int} {j : Nat} : ∀ {ss : List Sq} {c y c' y' : List Int}, Stps t o ss c y c' y' → (∀ s ∈ ss, (j : Int) ∉ s.l) → c'[j]? = c[j]? ∧ y'[j]? = y[j]?
  | [], _, _, _, _, ⟨rfl, rfl⟩, _ => ⟨rfl, rfl⟩
  | s :: ss, c, y, c', y', ⟨c1, y1, h1, h2⟩, h => by
    obtain ⟨a1, a2⟩ := h1.oth (h s (List.mem_cons_self ..))
    obtain ⟨b1, b2⟩ := Stps.oth h2 fun x hx => h x (List.mem_cons_of_mem _ hx)
    exact ⟨b1.trans a1, b2.trans a2⟩
theorem Stp.up {t o c y c' y' : List Int} {s : Sq} (h : Stp t o s c y c' y') {n : Nat} (hs : Pl n s.l) (hc : c.length = n) (hy : y.length = n) {j : Nat} {a : Int} (ha : y[j]? = some a) : ∃ b, y'[j]? = some b ∧ a ≤ b ∧ b ≤ a + 2 := by
  by_cases hj : (j : Int) ∈ s.l
  · obtain ⟨c1, c2, h1, h2, h3, h4⟩ := h
    obtain ⟨k, hk⟩ := List.mem_iff_getElem?.1 hj
    have h5 := h4.at_ k _ hk
    rw [Int.toNat_natCast] at h5
    have hc' : c'.length = n := h3.len.trans (h2.len.trans (h1.len.trans hc))
    have hu : (s.l.map (lvl y))[k]? = some a := by
      rw [List.getElem?_map, hk]
      simp only [Option.map_some, lvl, Int.toNat_natCast, List.getD_eq_getElem?_getD, ha]
      rfl
    have hx : (s.l.map (lvl c'))[k]? = some (lvl c' j) := by rw [List.getElem?_map, hk]; rfl
    have hi := impL_get (lev := s.lev) hu hx
    have := impS_rng s.lev (lvl c' j)
    exact ⟨_, h5.trans hi, by omega, by omega⟩
  · exact ⟨a, by rw [(h.oth hj).2]; exact ha, by omega, by omega⟩
theorem Stps.up {t o : List Int} {n : Nat} : ∀ {ss : List Sq} {c y c' y' : List Int}, Stps t o ss c y c' y' → (∀ s ∈ ss, Pl n s.l) → ss.Pairwise (fun a b => ∀ i ∈ a.l, i ∉ b.l) → c.length = n → y.length = n → ∀ {j : Nat} {a : Int}, y[j]? = some a → ∃ b, y'[j]? = some b ∧ a ≤ b ∧ b ≤ a + 2
  | [], _, _, _, _, ⟨rfl, rfl⟩, _, _, _, _, j, a, ha => ⟨a, ha, by omega, by omega⟩
  | s :: ss, c, y, c', y', ⟨c1, y1, h1, h2⟩, hs, hp, hc, hy, j, a, ha => by
    obtain ⟨p1, p2⟩ := List.pairwise_cons.1 hp
    by_cases hj : (j : Int) ∈ s.l
    · obtain ⟨b, hb1, hb2⟩ := h1.up (hs s (List.mem_cons_self ..)) hc hy ha
      refine ⟨b, ?_, hb2⟩
      rw [(Stps.oth h2 fun x hx hjx => p1 x hx _ hj hjx).2]
      exact hb1
    · have h3 := (h1.oth hj).2
      obtain ⟨l1, l2⟩ := h1.len
      exact Stps.up h2 (fun x hx => hs x (List.mem_cons_of_mem _ hx)) p2 (l1.trans hc) (l2.trans hy) (by rw [h3]; exact ha)
theorem Stps.len {t o : List Int} : ∀ {ss : List Sq} {c y c' y' : List Int}, Stps t o ss c y c' y' → c'.length = c.length ∧ y'.length = y.length
  | [], _, _, _, _, ⟨rfl, rfl⟩ => ⟨rfl, rfl⟩
  | s :: ss, _, _, _, _, ⟨c1, y1, h1, h2⟩ => by
    obtain ⟨a1, a2⟩ := h1.len
    obtain ⟨b1, b2⟩ := Stps.len h2
    exact ⟨b1.trans a1, b2.trans a2⟩
theorem remL_rng {P : Int → Prop} : ∀ (o y : List Int) (p : Int), P p → (∀ a ∈ y, P a) → ∀ a ∈ remL p o y, P a
  | [], _, _, _, _, a, ha => by simp [remL] at ha
  | _ :: _, [], _, _, _, a, ha => by simp [remL] at ha
  | x :: o, b :: y, p, hp, hy, a, ha => by
    rw [remL] at ha
    have hv : P (if gone x then p else b) := by
      split
      · exact hp
      · exact hy b (List.mem_cons_self ..)
    rcases List.mem_cons.1 ha with rfl | ha
    · exact hv
    · exact remL_rng o y _ hv (fun c hc => hy c (List.mem_cons_of_mem _ hc)) a ha
theorem trl_rng {P : Int → Prop} (e : Int) (he : P e) : ∀ (o y : List Int), (∀ a ∈ y, P a) → ∀ a ∈ (trl e o y).2, P a
  | [], _, _, a, ha => by simp [trl] at ha
  | _ :: _, [], _, a, ha => by simp [trl] at ha
  | x :: o, b :: y, hy, a, ha => by
    rw [trl] at ha
    rcases List.mem_cons.1 ha with rfl | ha
    · split
      · exact he
      · exact hy b (List.mem_cons_self ..)
    · exact trl_rng e he o y (fun c hc => hy c (List.mem_cons_of_mem _ hc)) a ha
/-- The levels: as many as runes, from 0 to 127. -/
theorem lev_rng {t : List Int} {base : Int} {r : List Int} (h : LevR t base r) : r.length = t.length ∧ ∀ x ∈ r, 0 ≤ x ∧ x ≤ 127 := by
  obtain ⟨M, c', y', hM, hst, rfl⟩ := h
  have he : 0 ≤ baseS bidi t base ∧ baseS bidi t base ≤ 1 := by
    unfold baseS
    split
    · omega
    · have := fs_val (t.map bidi).length (t.map bidi)
      unfold fs
      omega
  have hol : (t.map bidi).length = t.length := by simp
  generalize t.map bidi = o at *
  generalize baseS bidi t base = e at *
  have hxl := expl_len e o
  have hlr := expl_rng he o
  have hcl : ((expl e o).map (·.2)).length = t.length := by simp [hxl, hol]
  have hll : ((expl e o).map (·.1)).length = t.length := by simp [hxl, hol]
  obtain ⟨l1, l2⟩ := Stps.len hst
  have hoy : o.length = y'.length := by omega
  have hrl := remL_len o y' e hoy
  refine ⟨by rw [trl_len e o _ (by omega)]; omega, ?_⟩
  refine trl_rng (P := fun x => 0 ≤ x ∧ x ≤ 127) e ⟨he.1, by omega⟩ _ _ (remL_rng (P := fun x => 0 ≤ x ∧ x ≤ 127) _ _ _ ⟨he.1, by omega⟩ ?_)
  intro x hx
  obtain ⟨j, hj⟩ := List.mem_iff_getElem?.1 hx
  have hjl := (List.getElem?_eq_some_iff.1 hj).1
  obtain ⟨a, ha⟩ : ∃ a, ((expl e o).map (·.1))[j]? = some a := ⟨_, List.getElem?_eq_getElem (by omega)⟩
  obtain ⟨b, hb1, hb2, hb3⟩ := Stps.up hst (fun s hs => (sq_facts hM hol hll hlr hs).1) (seqsS_dis hM hol) hcl hll ha
  rw [hj] at hb1
  cases hb1
  have := hlr a (List.mem_of_getElem? ha)
  omega
/-- a, and b right behind it. -/
def Adj (l : List Int) (a b : Int) : Prop := ∃ u v, l = u ++ a :: b :: v
theorem Adj.pre {l : List Int} {a b : Int} (h : Adj l a b) (p : List Int) : Adj (p ++ l) a b := by
  obtain ⟨u, v, rfl⟩ := h
  exact ⟨p ++ u, v, by simp⟩
theorem rr_acc (p : Int → Bool) : ∀ (l acc : List Int), ∃ u v, rr p acc l = u ++ (acc ++ v)
  | [], acc => ⟨[], [], by simp [rr]⟩
  | x :: l, acc => by
    cases hx : p x
    · rw [rr_stop hx]
      exact ⟨[], x :: rr p [] l, by simp⟩
    · have e : rr p acc (x :: l) = rr p (x :: acc) l := by simp [rr, hx]
      obtain ⟨u, v, h⟩ := rr_acc p l (x :: acc)
      rw [e, h]
      exact ⟨u ++ [x], v, by simp⟩
theorem rr_adj {p : Int → Bool} {a b : Int} (hab : p a = p b) (v : List Int) : ∀ (u acc : List Int), if p a then Adj (rr p acc (u ++ a :: b :: v)) b a else Adj (rr p acc (u ++ a :: b :: v)) a b
  | [], acc => by
    cases ha : p a
    · have hb : p b = false := by rw [← hab, ha]
      simp only [Bool.false_eq_true, if_false, List.nil_append]
      rw [rr_stop ha, rr_stop hb]
      exact ⟨acc, rr p [] v, by simp⟩
    · have hb : p b = true := by rw [← hab, ha]
      simp only [if_true, List.nil_append]
      have e : rr p acc (a :: b :: v) = rr p (b :: a :: acc) v := by simp [rr, ha, hb]
      obtain ⟨u, w, h⟩ := rr_acc p v (b :: a :: acc)
      rw [e, h]
      exact ⟨u, acc ++ w, by simp⟩
  | x :: u, acc => by
    have ih := fun acc => rr_adj hab v u acc
    cases hx : p x
    · rw [List.cons_append, rr_stop hx]
      have := ih []
      split <;> rename_i h
      · rw [if_pos h] at this
        exact (this.pre [x]).pre acc
      · rw [if_neg h] at this
        exact (this.pre [x]).pre acc
    · have e : rr p acc (x :: (u ++ a :: b :: v)) = rr p (x :: acc) (u ++ a :: b :: v) := by simp [rr, hx]
      rw [List.cons_append, e]
      exact ih _
theorem Adj.rr {p : Int → Bool} {l : List Int} {a b : Int} (h : Adj l a b) (hab : p a = p b) : if p a then Adj (rr p [] l) b a else Adj (rr p [] l) a b := by
  obtain ⟨u, v, rfl⟩ := h
  exact rr_adj hab v u []
/-- Two neighbours of one level m are neighbours in the order, turned round if m is odd. -/
theorem ord_adj {lv : List Int} {m : Nat} : ∀ (N : Nat) (l : List Int) (a b : Int), lvl lv a = m → lvl lv b = m → Adj l a b → if min m N % 2 = 0 then Adj (ordD lv N l) a b else Adj (ordD lv N l) b a
  | 0, l, a, b, _, _, h => by simpa [ordD] using h
  | N + 1, l, a, b, ha, hb, h => by
    have hab : ge lv (N + 1 : Nat) a = ge lv (N + 1 : Nat) b := by unfold ge; rw [ha, hb]
    have h1 := h.rr hab
    rw [ordD]
    by_cases hm : N + 1 ≤ m
    · have hga : ge lv (N + 1 : Nat) a = true := by unfold ge; rw [ha]; simp; omega
      rw [if_pos hga] at h1
      have ih := ord_adj N _ b a hb ha h1
      have e1 : min m (N + 1) = N + 1 := by omega
      have e2 : min m N = N := by omega
      rw [e1]
      rw [e2] at ih
      by_cases hp : N % 2 = 0
      · rw [if_pos hp] at ih
        rw [if_neg (by omega)]
        exact ih
      · rw [if_neg hp] at ih
        rw [if_pos (by omega)]
        exact ih
    · have hga : ge lv (N + 1 : Nat) a = false := by unfold ge; rw [ha]; simp; omega
      rw [if_neg (by rw [hga]; simp)] at h1
      have ih := ord_adj N _ a b ha hb h1
      have e1 : min m (N + 1) = min m N := by omega
      rw [e1]
      exact ih
end Bi
end Go.Ab
/- The generator: new, N, texts. -/
namespace Go.Ab
open Go.Proofs
namespace Bi
def alph : List Int := [97, 98, 102, 105, 88, 49, 50, 32, 32, 46, 44, 45, 39, 34, 40, 41, 91, 93, 60, 33, 58, 95, 37, 43, 47, 9, 10, 13, 0x0B, 0x85, 0xA0, 0xAD, 0xB7, 0x301, 0x5D0, 0x5D1, 0x5BE, 0x5B0, 0x600, 0x627, 0x628, 0x633, 0x640, 0x64B, 0x661, 0x66A, 0x60C, 0x61C, 0x6F1, 0x903, 0x905, 0x93C, 0x1100, 0x1161, 0x11A8, 0xAC00, 0xAC01, 0x2009, 0x200B, 0x200C, 0x200D, 0x200E, 0x200F, 0x2019, 0x2028, 0x2029, 0x202A, 0x202B, 0x202C, 0x202D, 0x202E, 0x2060, 0x2066, 0x2067, 0x2068, 0x2069, 0x2600, 0x3000, 0x3001, 0x300C, 0x300D, 0x30A2, 0x4E00, 0xFE0F, 0x1F1E6, 0x1F1E7, 0x1F3FB, 0x1F468, 0x10FFFF]

section
variable {prim : FuncId → Option Prim} (d : Nat) (cfg : Cfg) (h : Heap)
theorem new_ok (hp : prim 12 = none) (l : List Int) : callM md (K prim (d + 1)) cfg 12 [il l] h = some (.ptr h.length 0, h ++ [some [il (l.take 4000), .int .i64 0]]) := by
  refine call2 rfl hp Try.func12 rfl rfl rfl ?_
  simp
  by_cases hl : 4000 < l.length
  · have hl' : (4000 : Int) < l.length := by omega
    simp (disch := first | omega | (simp; done) | (simp; omega)) [hl']
  · have hl' : ¬ (4000 : Int) < l.length := by omega
    simp [hl', List.take_of_length_le (show l.length ≤ 4000 by omega)]

theorem N_ok (hp : prim 13 = none) (L : List Int) (k : Nat) (hL : L.length ≤ 4000) (hk : k ≤ L.length) (n : Int) (hn : 1 ≤ n) (hn2 : n ≤ 4000000000) (b : Nat) (hb : blockOf h b = some [il L, .int .i64 k]) (hw : cfg.wr b = true) :
    ∃ v k' : Nat, (v : Int) < n ∧ k' ≤ L.length ∧ callM md (K prim (d + 1)) cfg 13 [.ptr b 0, .int .i64 n] h = some (.int .i64 v, h.set b (some [il L, .int .i64 k'])) := by
  have hw' : (Cfg.wr ⟨cfg.lo, cfg.ex, h.length⟩ b) = true := hw
  have hbl := blockOf_lt hb
  by_cases hlt : k < L.length
  · obtain ⟨x, hx⟩ : ∃ x, L[k] = x := ⟨_, rfl⟩
    have hr := Int.tmod_lt_of_pos x (b := n) (by omega)
    have hr2 := Int.lt_tmod_of_pos x (b := n) (by omega)
    refine ⟨(if x.tmod n < 0 then x.tmod n + n else x.tmod n).toNat, k + 1, by split <;> omega, by omega, call1 rfl hp Try.func13 rfl rfl rfl ?_⟩
    simp
    refine wC_draw 9 (by kernel_rfl) ?_
    have hk1 : ¬ L.length ≤ k := by omega
    have hn1 : ¬ n < 1 := by omega
    have hn0 : ¬ n = 0 := by omega
    simp [hb, hk1, hn1]
    refine wC_draw 11 (by kernel_rfl) ?_
    simp (disch := first | omega | (simp; done) | (simp; omega)) [hb, hx, hw', wrap64]
    by_cases hneg : x.tmod n < 0
    · simp (disch := first | omega | (simp; done) | (simp; omega)) [hneg, wrap64]
      exact ⟨by omega, List.take_of_length_le (by simp)⟩
    · simp (disch := first | omega | (simp; done) | (simp; omega)) [hneg]
      exact ⟨by omega, List.take_of_length_le (by simp)⟩
  · refine ⟨0, k, by omega, hk, ?_⟩
    rw [set_same hb]
    refine call1 rfl hp Try.func13 rfl rfl rfl ?_
    have hk1 : L.length ≤ k := by omega
    simp
    refine wC_draw 9 (by kernel_rfl) ?_
    simp [hb, hk1]

@[simp] theorem cv3_21 {h : Heap} {k : IntKind} {n : Int} : convV Try.prog h 3 21 (.int k n) = some (.int .i32 (IntKind.i32.wrap n), h) := by kernel_rfl

theorem chance_ok (hp : ∀ f, f ≠ 17 ∧ f ≠ 82 ∧ f ≠ 15 → prim f = none) (L : List Int) (k : Nat) (hL : L.length ≤ 4000) (hk : k ≤ L.length) (n : Int) (hn : 1 ≤ n) (hn2 : n ≤ 4000000000) (b : Nat) (hb : blockOf h b = some [il L, .int .i64 k]) (hw : cfg.wr b = true) :
    ∃ (v : Bool) (k' : Nat), k' ≤ L.length ∧ callM md (K prim (d + 2)) cfg 73 [.ptr b 0, .int .i64 n] h = some (.bool v, h.set b (some [il L, .int .i64 k'])) := by
  obtain ⟨v, k', hv, hk', hN⟩ := N_ok (prim := prim) d ⟨cfg.lo, cfg.ex, h.length⟩ h (hp 13 (by decide)) L k hL hk n hn hn2 b hb hw
  refine ⟨decide ((v : Int) = n - 1), k', hk', call1 rfl (hp 73 (by decide)) Try.func73 rfl rfl rfl ?_⟩
  simp (disch := omega) [hN, wrap64]
  exact List.take_of_length_le (by simp)

theorem raw_ok (hp : ∀ f, f ≠ 17 ∧ f ≠ 82 ∧ f ≠ 15 → prim f = none) (L : List Int) (k : Nat) (hL : L.length ≤ 4000) (hk : k ≤ L.length) (b : Nat) (hb : blockOf h b = some [il L, .int .i64 k]) (hw : cfg.wr b = true) :
    ∃ (v : Int) (k' : Nat), k' ≤ L.length ∧ callM md (K prim (d + 1)) cfg 74 [.ptr b 0] h = some (.int .i64 v, h.set b (some [il L, .int .i64 k'])) := by
  have hw' : (Cfg.wr ⟨cfg.lo, cfg.ex, h.length⟩ b) = true := hw
  have hbl := blockOf_lt hb
  by_cases hlt : k < L.length
  · obtain ⟨x, hx⟩ : ∃ x, L[k]? = some x := ⟨L[k], List.getElem?_eq_getElem hlt⟩
    refine ⟨x, k + 1, by omega, call1 rfl (hp 74 (by decide)) Try.func74 rfl rfl rfl ?_⟩
    have hk1 : ¬ L.length ≤ k := by omega
    simp
    refine wC_draw 9 (by kernel_rfl) ?_
    simp (disch := omega) [hb, hk1, hw', wrap64]
    refine wC_draw 9 (by kernel_rfl) ?_
    have e1 : ((k : Int) + 1 - 1).toNat = k := by omega
    simp (disch := omega) [hx, wrap64, -getElem?_pos]
    exact List.take_of_length_le (by simp)
  · refine ⟨0, k, hk, ?_⟩
    rw [set_same hb]
    refine call1 rfl (hp 74 (by decide)) Try.func74 rfl rfl rfl ?_
    have hk1 : L.length ≤ k := by omega
    simp
    refine wC_draw 9 (by kernel_rfl) ?_
    simp [hb, hk1]

set_option maxRecDepth 100000 in
theorem alphabet_ok (hp : prim 72 = none) : ∃ A : List Int, A.length = 89 ∧ ∀ cfg h, callM md (K prim (d + 1)) cfg 72 [] h = some (rl A, h) := by
  refine ⟨alph, rfl, fun cfg h => ?_⟩
  refine call0 rfl hp Try.func72 rfl rfl rfl (by simp) ?_
  simp
  exact frz_ints (d := 4) (k := .i32) (l := alph) rfl (Nat.zero_le _) rfl

theorem rune_ok (hp : ∀ f, f ≠ 17 ∧ f ≠ 82 ∧ f ≠ 15 → prim f = none) (L : List Int) (k : Nat) (hL : L.length ≤ 4000) (hk : k ≤ L.length) (b : Nat) (hb : blockOf h b = some [il L, .int .i64 k]) (hw : cfg.wr b = true) :
    ∃ (v : Int) (k' : Nat), k' ≤ L.length ∧ callM md (K prim (d + 3)) cfg 48 [.ptr b 0] h = some (.int .i32 v, h.set b (some [il L, .int .i64 k'])) := by
  have hbl := blockOf_lt hb
  obtain ⟨A, hA, hal⟩ := alphabet_ok (prim := prim) (d + 1) (hp 72 (by decide))
  obtain ⟨c, k1, hk1, hC⟩ := chance_ok (prim := prim) d ⟨cfg.lo, cfg.ex, h.length⟩ h hp L k hL hk 40 (by omega) (by omega) b hb hw
  have hb1 : blockOf (h.set b (some [il L, .int .i64 k1])) b = some [il L, .int .i64 k1] := by simp [hbl]
  cases c
  · obtain ⟨v, k2, hv, hk2, hN⟩ := N_ok (prim := prim) (d + 1) ⟨cfg.lo, cfg.ex, h.length⟩ (h.set b (some [il L, .int .i64 k1])) (hp 13 (by decide)) L k1 hL hk1 89 (by omega) (by omega) b hb1 hw
    obtain ⟨x, hx⟩ : ∃ x, A[v]? = some x := ⟨A[v], List.getElem?_eq_getElem (by omega)⟩
    refine ⟨x, k2, hk2, call1 rfl (hp 48 (by decide)) Try.func48 rfl rfl rfl ?_⟩
    simp at hN
    simp (disch := omega) [hal, hC, hA, hN, hx, -getElem?_pos]
    exact List.take_of_length_le (by simp)
  · obtain ⟨v, k2, hk2, hR⟩ := raw_ok (prim := prim) (d + 1) ⟨cfg.lo, cfg.ex, h.length⟩ (h.set b (some [il L, .int .i64 k1])) hp L k1 hL hk1 b hb1 hw
    refine ⟨IntKind.i32.wrap v, k2, hk2, call1 rfl (hp 48 (by decide)) Try.func48 rfl rfl rfl ?_⟩
    simp at hR
    simp (disch := omega) [hal, hC, hR]
    exact List.take_of_length_le (by simp)
set_option maxHeartbeats 4000000 in
theorem text_ok (hp : ∀ f, f ≠ 17 ∧ f ≠ 82 ∧ f ≠ 15 → prim f = none) (L : List Int) (k : Nat) (hL : L.length ≤ 4000) (hk : k ≤ L.length) (n : Nat) (hn : n ≤ 1000) (b : Nat) (hb : blockOf h b = some [il L, .int .i64 k]) (hw : cfg.wr b = true) (hlo : cfg.lo ≤ h.length) :
    ∃ (l : List Int) (k' : Nat), l.length ≤ n ∧ k' ≤ L.length ∧ callM md (K prim (d + 4)) cfg 18 [.ptr b 0, .int .i64 n] h = some (rl l, h.set b (some [il L, .int .i64 k'])) := by
  have hw' : (Cfg.wr ⟨cfg.lo, cfg.ex, h.length⟩ b) = true := hw
  have hbl := blockOf_lt hb
  obtain ⟨v, k1, hv, hk1, hN⟩ := N_ok (prim := prim) (d + 2) ⟨cfg.lo, cfg.ex, h.length⟩ h (hp 13 (by decide)) L k hL hk (n + 1) (by omega) (by omega) b hb hw'
  have hb1 : blockOf (h.set b (some [il L, .int .i64 k1])) b = some [il L, .int .i64 k1] := by simp [hbl]
  obtain ⟨few, k2, hfew, hk2, hN2⟩ := N_ok (prim := prim) (d + 2) ⟨cfg.lo, cfg.ex, h.length⟩ (h.set b (some [il L, .int .i64 k1])) (hp 13 (by decide)) L k1 hL hk1 3 (by omega) (by omega) b hb1 hw'
  simp at hN2
  have hc := call1x (md := md) (n := 10000) (d := d + 3) (cfg := cfg) (h := h) (args := [.ptr b 0, .int .i64 n]) (Post := fun r h2 => ∃ (l : List Int) (k' : Nat), l.length ≤ n ∧ k' ≤ L.length ∧ r = rl l ∧ h2 = h.set b (some [il L, .int .i64 k'])) rfl (hp 18 (by decide)) Try.func18 rfl rfl rfl ?_
  · obtain ⟨r, h2, h3, l, k', h4, h5, rfl, rfl⟩ := hc
    exact ⟨l, k', h4, h5, h3⟩
  have hu0 : Upd h b [il L, .int .i64 k2] (h.set b (some [il L, .int .i64 k2])) := (Upd.refl hb).set
  simp (disch := omega) [hN, hN2, wrap64]
  refine wC_loop (fun m fr H => ∃ (i kk : Nat) (sv : V) (S : List Int), i ≤ 5 ∧ m = 5 - i ∧ kk ≤ L.length ∧ S.length = i ∧ Upd h b [il L, .int .i64 kk] H ∧ OwnL H h.length .i32 sv S ∧
      Slots 47 [(0, .ptr b 0), (5, .int .i64 v), (6, .nils), (7, .int .i64 few), (8, sv), (9, .int .i64 i)] fr) (m := 5) (by omega) ⟨0, k2, .nils, [], by omega, by omega, hk2, rfl, hu0, .inl ⟨rfl, rfl⟩, by simp⟩ ?_
  rintro m fr H ⟨i, kk, sv, S, hi, rfl, hkk, hS, hu, hown, hs⟩
  obtain ⟨j, rfl⟩ := hs.ex
  clear hs
  by_cases hlt : i < 5
  · obtain ⟨x, k3, hk3, hR⟩ := rune_ok (prim := prim) d ⟨cfg.lo, cfg.ex, h.length⟩ H hp L kk hL hkk b (hu.block hbl rfl) hw'
    have hu1 : Upd h b [il L, .int .i64 k3] (H.set b (some [il L, .int .i64 k3])) := hu.set
    have hlt' : (i : Int) < 5 := by omega
    have hbn : blockOf (H.set b (some [il L, .int .i64 k3]) ++ [some [.int .i32 x]]) H.length = some [.int .i32 x] := by rw [blockOf_len' (by simp)]; rfl
    simp (disch := omega) [hlt', hR, hbn]
    refine wS_app (l := S) (lo := h.length) (y := 4) ?_ ?_ ?_ ?_ ?_ ?_
    · refine hown.mono fun c h1 h2 => ?_
      rw [blockOf_left (by simpa using h2), blockOf_set_ne' (by omega)]
    · exact hlo
    · have := hu.2; simp; omega
    · rw [hS]; omega
    · rw [hS]; omega
    · intro d' h' ho' htk hlen'
      simp (disch := omega) [wrap64]
      exact Rnd_of (m' := 5 - (i + 1)) (by omega) ⟨i + 1, k3, d', S ++ [x], by omega, rfl, hk3, by simp [hS], (hu1.push _).of_take htk hlen', ho', by simp⟩
  · have hlt' : ¬ (i : Int) < 5 := by omega
    have hi5 : i = 5 := by omega
    subst hi5
    simp
    refine wC_loop (fun m fr H => ∃ (q kk : Nat) (lv : V) (Ls : List Int), q ≤ v ∧ m = v - q ∧ kk ≤ L.length ∧ Ls.length = q ∧ Upd h b [il L, .int .i64 kk] H ∧ OwnL H h.length .i32 sv S ∧ OwnL H h.length .i32 lv Ls ∧ Dj sv lv ∧
      Slots 47 [(0, .ptr b 0), (5, .int .i64 v), (6, lv), (7, .int .i64 few), (8, sv), (10, .int .i64 q)] fr) (m := v) (by omega) ⟨0, kk, .nils, [], by omega, by omega, hkk, rfl, hu, hown, .inl ⟨rfl, rfl⟩, Dj.nils, by simp⟩ ?_
    clear hu hown hkk
    rintro m fr H ⟨q, kk, lv, Ls, hq, rfl, hkk, hLs, hu, hown, howl, hdj, hs⟩
    obtain ⟨j, rfl⟩ := hs.ex
    clear hs
    by_cases hqv : q < v
    · by_cases hf : 0 < few
      · obtain ⟨u, k3, hu5, hk3, hN3⟩ := N_ok (prim := prim) (d + 2) ⟨cfg.lo, cfg.ex, h.length⟩ H (hp 13 (by decide)) L kk hL hkk 5 (by omega) (by omega) b (hu.block hbl rfl) hw'
        obtain ⟨x, hx⟩ : ∃ x, S[u]? = some x := ⟨S[u], List.getElem?_eq_getElem (by omega)⟩
        rcases hown with ⟨rfl, rfl⟩ | ⟨sb, rfl, hsb1, hsb2⟩
        · simp at hx
        have hown' : OwnL H h.length .i32 (.sl sb 0 S.length S.length 1) S := .inr ⟨sb, rfl, hsb1, hsb2⟩
        have hsl : sb < H.length := blockOf_lt hsb2
        have hu1 : Upd h b [il L, .int .i64 k3] (H.set b (some [il L, .int .i64 k3])) := hu.set
        have hbs : b ≠ sb := by omega
        have hbk : blockOf (H.set b (some [il L, .int .i64 k3])) sb = some (S.map (V.int .i32)) := by rw [blockOf_set_ne' hbs]; exact hsb2
        have hbn : blockOf (H.set b (some [il L, .int .i64 k3]) ++ [some [.int .i32 x]]) H.length = some [.int .i32 x] := by rw [blockOf_len' (by simp)]; rfl
        simp (disch := omega) [hqv, hf, hN3, hbk, hx, hbn, -getElem?_pos]
        refine wS_app2 (l := Ls) (lo := h.length) (y := 4) ?_ ?_ ?_ ?_ ?_ ?_
        · refine howl.mono fun c h1 h2 => ?_
          rw [blockOf_left (by simpa using h2), blockOf_set_ne' (by omega)]
        · exact hlo
        · have := hu.2; simp; omega
        · rw [hLs]; omega
        · rw [hLs]; omega
        · intro d' h' ho' htk hlen' _ hoth
          obtain ⟨hd1, hd2⟩ := hoth _ hdj (fun c hc => by cases hc; simp; omega)
          simp (disch := omega) [wrap64]
          refine Rnd_of (m' := v - (q + 1)) (by omega) ⟨q + 1, k3, d', Ls ++ [x], by omega, rfl, hk3, by simp [hLs], (hu1.push _).of_take htk hlen', ?_, ho', hd1, by simp⟩
          refine .inr ⟨sb, rfl, hsb1, ?_⟩
          rw [hd2 sb rfl, blockOf_left (by simpa using hsl)]
          exact hbk
      · obtain ⟨x, k3, hk3, hR⟩ := rune_ok (prim := prim) d ⟨cfg.lo, cfg.ex, h.length⟩ H hp L kk hL hkk b (hu.block hbl rfl) hw'
        have hu1 : Upd h b [il L, .int .i64 k3] (H.set b (some [il L, .int .i64 k3])) := hu.set
        have hbn : blockOf (H.set b (some [il L, .int .i64 k3]) ++ [some [.int .i32 x]]) H.length = some [.int .i32 x] := by rw [blockOf_len' (by simp)]; rfl
        simp (disch := omega) [hqv, hf, hR, hbn]
        refine wS_app2 (l := Ls) (lo := h.length) (y := 4) ?_ ?_ ?_ ?_ ?_ ?_
        · refine howl.mono fun c h1 h2 => ?_
          rw [blockOf_left (by simpa using h2), blockOf_set_ne' (by omega)]
        · exact hlo
        · have := hu.2; simp; omega
        · rw [hLs]; omega
        · rw [hLs]; omega
        · intro d' h' ho' htk hlen' _ hoth
          obtain ⟨hd1, hd2⟩ := hoth sv hdj (fun c hc => by have := (hown.blk hc).2; simp; omega)
          simp (disch := omega) [wrap64]
          refine Rnd_of (m' := v - (q + 1)) (by omega) ⟨q + 1, k3, d', Ls ++ [x], by omega, rfl, hk3, by simp [hLs], (hu1.push _).of_take htk hlen', ?_, ho', hd1, by simp⟩
          refine hown.of_blk fun c hc => ?_
          have := hown.blk hc
          rw [hd2 c hc, blockOf_left (by simpa using this.2), blockOf_set_ne' (by omega)]
    · simp [hqv]
      refine ⟨_, ?_, Ls, by omega, kk, hkk, rfl, hu.1⟩
      rcases howl with ⟨rfl, rfl⟩ | ⟨lb, rfl, hlb1, hlb2⟩
      · rfl
      · exact frz_ints (d := 4) hlb2 hlb1 rfl
end
end Bi
end Go.Ab
/- The law BidiPermutes. -/
namespace Go.Ab
open Go.Proofs
namespace Bi
set_option maxHeartbeats 1000000 in
set_option maxRecDepth 100000 in
theorem permutes_ok (d : Nat) (l : List Int) : ∃ v h', callN Try.prog md pL 10000 (d + 8) ⟨0, none, 0⟩ 5 [il l] [] = some (v, h') ∧ v = .bool true := by
  have hA := fun cfg h => awakeL (d + 6) cfg h
  have hNw := fun cfg h => new_ok (prim := pL) (d + 6) cfg h (pL_none 12 (by decide)) l
  have hL : (l.take 4000).length ≤ 4000 := by simp; omega
  refine callN_of (R := fun r _ => r = .bool true) (pL_none 5 (by decide)) Try.func5 rfl rfl rfl ?_
  generalize hLL : l.take 4000 = L at *
  obtain ⟨t, k', ht, hk', hT⟩ := text_ok (prim := pL) (d + 3) ⟨0, none, 0⟩ [some [il L, .int .i64 (0 : Nat)]] pL_none L 0 hL (by omega) 30 (by omega) 0 rfl rfl (by simp)
  simp only [List.set_cons_zero] at hT
  have hT' : callM md (K pL (d + 3 + 4)) ⟨0, none, 0⟩ 18 [.ptr 0 0, .int .i64 30] [some [il L, .int .i64 0]] = some (rl t, [some [il L, .int .i64 k']]) := hT
  obtain ⟨r, hr1, hr2, hr3⟩ : ∃ r : List Int, (∀ cfg h args, args.mapM (frzA h) = some [rl t, .int .i64 (-1)] → callM md (K pL (d + 6 + 1)) cfg 15 args h = some (il r, h)) ∧ r.length = t.length ∧ ∀ x ∈ r, 0 ≤ x ∧ x ≤ 127 := by
    by_cases ht0 : t = []
    · subst ht0
      exact ⟨[], fun cfg h args ha => no_at no_m1 (d + 6) cfg _ _ ha, rfl, by simp⟩
    · obtain ⟨r, h1, h2⟩ := lev_ok (d + 6) t (by omega) ht0 (-1)
      obtain ⟨h3, h4⟩ := lev_rng h2
      exact ⟨r, h1, h3, h4⟩
  have hLv : ∀ cfg h, callM md (K pL (d + 6 + 1)) cfg 15 [rl t, .int .i64 (-1)] h = some (il r, h) := fun cfg h => hr1 cfg h _ (by simp)
  have hO : ∀ cfg h, callM md (K pL (d + 5 + 2)) cfg 19 [il r] h = some (il (ordS r), h) := fun cfg h => order_ok (prim := pL) (d + 5) cfg h (pL_none 19 (by decide)) (pL_none 49 (by decide)) r (by omega) (by simp)
  have hbad : badL r = false := by
    unfold badL
    rw [List.any_eq_false]
    intro x hx
    have := hr3 x hx
    simp
    omega
  obtain ⟨N, hN⟩ : ∃ N : Nat, N = 127 := ⟨_, rfl⟩
  have hoS : ordS r = ordD r N (idx r.length) := by
    unfold ordS
    rw [hbad, hN]
    exact if_neg (by simp)
  have hpm := ord_perm r N (idx r.length)
  rw [← hoS] at hpm
  have hol : (ordS r).length = t.length := by rw [hpm.length_eq, idx_len, hr2]
  have hom : ∀ x ∈ ordS r, 0 ≤ x ∧ x < t.length := fun x hx => by
    have := idx_mem.1 (hpm.mem_iff.1 hx)
    omega
  have hnd : (ordS r).Nodup := by
    refine hpm.nodup_iff.2 ?_
    rw [List.nodup_iff_pairwise_ne]
    unfold idx
    rw [List.pairwise_map]
    exact List.pairwise_lt_range.imp (fun h => by omega)
  have hadj : ∀ (i : Nat) (m : Int), i + 1 < r.length → r[i]? = some m → r[i + 1]? = some m → if m % 2 = 0 then Adj (ordS r) i (i + 1 : Nat) else Adj (ordS r) (i + 1 : Nat) i := by
    intro i m hi h1 h2
    have hm := hr3 m (List.mem_of_getElem? h1)
    obtain ⟨k, rfl⟩ : ∃ k : Nat, m = k := ⟨m.toNat, by omega⟩
    have ha : Adj (idx r.length) i (i + 1 : Nat) := by
      refine ⟨(idx r.length).take i, (idx r.length).drop (i + 2), ?_⟩
      have e1 : (idx r.length)[i]? = some (i : Int) := by unfold idx; rw [List.getElem?_map, List.getElem?_range (by omega)]; rfl
      have e2 : (idx r.length)[i + 1]? = some ((i + 1 : Nat) : Int) := by unfold idx; rw [List.getElem?_map, List.getElem?_range (by omega)]; rfl
      conv => lhs; rw [← List.take_append_drop i (idx r.length)]
      congr 1
      rw [drop_at e1, drop_at e2]
    have := ord_adj (lv := r) (m := k) N (idx r.length) i (i + 1 : Nat) (lvl_at h1) (lvl_at h2) ha
    rw [← hoS, show min k N = k by omega] at this
    by_cases hk : k % 2 = 0
    · rw [if_pos hk] at this
      rw [if_pos (by omega)]
      exact this
    · rw [if_neg hk] at this
      rw [if_neg (by omega)]
      exact this
  generalize ordS r = od at *
  simp (disch := omega) [hNw, hT', hLv, hO, hol]
  have hz1 : zerosFor [V.bool false] t.length = (List.replicate t.length false).map V.bool := by
    generalize t.length = N
    induction N with
    | zero => rfl
    | succ N ih => simp [zerosFor, ih, List.replicate_succ]
  have hz2 : zerosFor [V.int .i64 0] t.length = (List.replicate t.length 0).map (V.int .i64) := zerosFor_int ..
  rw [hz1, hz2]
  have hbs : ∀ (l : List Bool) (i : Nat) (b : Bool), (l.map V.bool).set i (.bool b) = (l.set i b).map V.bool := fun l i b => by rw [List.map_set]
  have hbg : ∀ (l : List Bool) (i : Nat) (b : Bool), l[i]? = some b → slot (l.map V.bool) i = some (.bool b) := fun l i b h => by rw [slot, List.getElem?_map, h]; rfl
  refine wC_loop (fun m fr H => ∃ (q : Nat) (S : List Bool) (P : List Int), q ≤ t.length ∧ m = t.length - q ∧ S.length = t.length ∧ P.length = t.length ∧ (∀ x : Nat, x < t.length → S[x]? = some (decide ((x : Int) ∈ od.take q))) ∧ (∀ (q' : Nat) (x : Int), q' < q → od[q']? = some x → P[x.toNat]? = some (q' : Int)) ∧
    H = [some [il L, .int .i64 k'], some (S.map V.bool), some (P.map (V.int .i64))] ∧
    Slots 107 [(3, rl t), (4, il r), (5, il od), (6, .sl 1 0 t.length t.length 1), (7, .sl 2 0 t.length t.length 1), (8, .int .i64 q)] fr) (m := t.length) (by omega)
    ⟨0, List.replicate t.length false, List.replicate t.length 0, by omega, by omega, by simp, by simp, fun x hx => by simp [hx], fun q' x h => by omega, rfl, by simp⟩ ?_
  rintro m fr H ⟨q, S, P, hq, rfl, hSl, hPl, hS, hP, rfl, hs⟩
  obtain ⟨j, rfl⟩ := hs.ex
  clear hs
  by_cases hlt : q < t.length
  · obtain ⟨x, hx⟩ : ∃ x, od[q]? = some x := ⟨_, List.getElem?_eq_getElem (by omega)⟩
    have hxr := hom x (List.mem_of_getElem? hx)
    obtain ⟨x, rfl⟩ : ∃ n : Nat, x = n := ⟨x.toNat, by omega⟩
    have hql : q < od.length := by omega
    have hxq : (x : Int) ∉ od.take q := by
      intro hm
      obtain ⟨k, hk⟩ := List.mem_iff_getElem?.1 hm
      have hkl := (List.getElem?_eq_some_iff.1 hk).1
      have hkq : k < q := by simp at hkl; omega
      rw [List.getElem?_take_of_lt hkq] at hk
      have h1 : od[k]'(by omega) = od[q] := by
        rw [(List.getElem?_eq_some_iff.1 hk).2, (List.getElem?_eq_some_iff.1 hx).2]
      have := (List.getElem_inj hnd).1 h1
      omega
    have hSx := hS x (by omega)
    rw [decide_eq_false hxq] at hSx
    have hSs := hbg S x _ hSx
    have hqI : (q : Int) < t.length := by omega
    have hxI : (x : Int) < t.length := by omega
    have hxl : x + 1 ≤ t.length := by omega
    have hxlt : x < t.length := by omega
    simp (disch := omega) [hqI, hol, hx, -getElem?_pos]
    have hx0 : ¬ (x : Int) < 0 := by omega
    have hxn : ¬ (t.length : Int) ≤ x := by omega
    have hxs : ∀ b, isMap ((S.map V.bool).set x (.bool b)) = false := fun b => by rw [hbs]; exact isMap_bools
    simp (disch := omega) [hx0, hxn, hx, hSs, hSl, hPl, hxl, wrap64, -getElem?_pos]
    have htk : od.take (q + 1) = od.take q ++ [(x : Int)] := by rw [List.take_add_one, hx]; rfl
    refine Rnd_of (m' := t.length - (q + 1)) (by omega) ⟨q + 1, S.set x true, P.set x (q : Int), by omega, rfl, by simp [hSl], by simp [hPl], fun y hy => ?_, fun q' z hq' hz => ?_, ?_, by simp (disch := omega)⟩
    · rw [htk]
      by_cases hxy : x = y
      · subst hxy
        rw [List.getElem?_set_self (by omega)]
        simp
      · rw [List.getElem?_set_ne hxy, hS y hy]
        have : ¬ (y : Int) = x := by omega
        simp [this]
    · by_cases hqq : q' = q
      · subst hqq
        rw [hx] at hz
        cases hz
        rw [Int.toNat_natCast, List.getElem?_set_self (by omega)]
      · have hzr := hom z (List.mem_of_getElem? hz)
        have hne : x ≠ z.toNat := by
          intro e
          have hzx : z = (x : Int) := by omega
          subst hzx
          have hql' := (List.getElem?_eq_some_iff.1 hz).1
          have h1 : od[q'] = od[q] := by rw [(List.getElem?_eq_some_iff.1 hz).2, (List.getElem?_eq_some_iff.1 hx).2]
          exact hqq ((List.getElem_inj hnd).1 h1)
        rw [List.getElem?_set_ne hne]
        exact hP q' z (by omega) hz
    · simp only [setS, hbs, ints_set]
  · obtain rfl : q = t.length := by omega
    simp (disch := omega) [hol]
    refine wC_loop (fun m fr H => ∃ (i : Nat), 1 ≤ i ∧ i ≤ t.length + 1 ∧ m = t.length + 1 - i ∧ H = [some [il L, .int .i64 k'], some (S.map V.bool), some (P.map (V.int .i64))] ∧
      Slots 107 [(3, rl t), (4, il r), (7, .sl 2 0 t.length t.length 1), (9, .int .i64 i)] fr) (m := t.length) (by omega) ⟨1, by omega, by omega, by omega, rfl, by simp⟩ ?_
    rintro m fr H ⟨i, hi1, hi, rfl, rfl, hs⟩
    obtain ⟨j2, rfl⟩ := hs.ex
    clear hs
    by_cases hlt2 : i < t.length
    · obtain ⟨k, rfl⟩ : ∃ k, i = k + 1 := ⟨i - 1, by omega⟩
      obtain ⟨a, ha⟩ : ∃ a, r[k]? = some a := ⟨_, List.getElem?_eq_getElem (by omega)⟩
      obtain ⟨b, hb⟩ : ∃ b, r[k + 1]? = some b := ⟨_, List.getElem?_eq_getElem (by omega)⟩
      have hkI : ((k : Int) + 1) < t.length := by omega
      have hkn : ((k : Int) + 1).toNat = k + 1 := by omega
      simp (disch := omega) [hkI]
      refine wC_draw 28 (by kernel_rfl) ?_
      simp (disch := omega) [ha, hb, hkn, wrap64, -getElem?_pos]
      by_cases hba : b = a
      · subst hba
        have hbr := hr3 b (List.mem_of_getElem? hb)
        have hm2 : b.tmod 2 = b % 2 := Int.tmod_eq_emod_of_nonneg hbr.1
        have hpl : ∀ x y : Int, Adj od x y → ∃ p : Nat, P[x.toNat]? = some (p : Int) ∧ P[y.toNat]? = some ((p : Int) + 1) ∧ p + 1 < t.length := by
          rintro x y ⟨u, v, hu⟩
          have hul : u.length + 1 < t.length := by
            have := congrArg List.length hu
            simp at this
            omega
          have e1 : od[u.length]? = some x := by rw [hu, List.getElem?_append_right (Nat.le_refl _)]; simp
          have e2 : od[u.length + 1]? = some y := by rw [hu, List.getElem?_append_right (by omega)]; simp
          refine ⟨u.length, hP _ _ (by omega) e1, ?_, hul⟩
          have := hP _ _ hul e2
          rw [this]
          simp
        have hA1 := hadj k b (by omega) ha hb
        by_cases hpar : b % 2 = 0
        · rw [if_pos hpar] at hA1
          obtain ⟨p, g1, g2, g3⟩ := hpl _ _ hA1
          rw [Int.toNat_natCast] at g1 g2
          simp (disch := omega) [hkn, g1, g2, hb, hm2, hpar, wrap64, -getElem?_pos]
          have hd1 : (p : Int) + 1 - p = 1 := by omega
          simp (disch := omega) [hd1, wrap64]
          exact Rnd_of (m' := t.length + 1 - (k + 1 + 1)) (by omega) ⟨k + 1 + 1, by omega, by omega, rfl, rfl, by simp (disch := omega)⟩
        · rw [if_neg hpar] at hA1
          obtain ⟨p, g1, g2, g3⟩ := hpl _ _ hA1
          rw [Int.toNat_natCast] at g1 g2
          have hpar1 : b % 2 = 1 := by omega
          simp (disch := omega) [hkn, g1, g2, hb, hm2, hpar1, wrap64, -getElem?_pos]
          have hd1 : (p : Int) - (p + 1) = -1 := by omega
          simp (disch := omega) [hd1, wrap64]
          exact Rnd_of (m' := t.length + 1 - (k + 1 + 1)) (by omega) ⟨k + 1 + 1, by omega, by omega, rfl, rfl, by simp (disch := omega)⟩
      · simp (disch := omega) [hba, wrap64]
        exact Rnd_of (m' := t.length + 1 - (k + 1 + 1)) (by omega) ⟨k + 1 + 1, by omega, by omega, rfl, rfl, by simp (disch := omega)⟩
    · have hkI : ¬ (i : Int) < t.length := by omega
      simp (disch := omega) [hkI, hA]
end Bi
end Go.Ab
