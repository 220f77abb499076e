/- Several texts of this proof in one. -/
import Derived.Test.YtcedojbifnangaaBiSq
import Derived.Test.YtcedojbifnangaaBiSpec4
import Derived.Test.YtcedojbifnangaaBiLev0
/- No place lies in two sequences. -/
namespace Go.Ab.Bi
theorem mscan_add : ∀ (r : List Int) (d d' q : Nat), mscan r d = some q → mscan r (d + d' + 1) = (mscan (r.drop (q + 1)) d').map (· + (q + 1))
  | [], _, _, _, h => by simp [mscan] at h
  | x :: r, d, d', q, h => by
    by_cases hx : ini x = true
    · rw [mscan_ini hx] at h ⊢
      obtain ⟨k, hk, rfl⟩ := Option.map_eq_some_iff.1 h
      rw [show d + d' + 1 + 1 = (d + 1) + d' + 1 by omega, mscan_add r (d + 1) d' k hk, List.drop_succ_cons, Option.map_map]
      congr 1
    · have hx' : ini x = false := by simpa using hx
      by_cases h2 : x = 22
      · subst h2
        cases d with
        | zero =>
          rw [mscan_pd0] at h
          cases h
          rw [Nat.zero_add, mscan_pdS]
          rfl
        | succ d =>
          rw [mscan_pdS] at h
          obtain ⟨k, hk, rfl⟩ := Option.map_eq_some_iff.1 h
          rw [show d + 1 + d' + 1 = (d + d' + 1) + 1 by omega, mscan_pdS, mscan_add r d d' k hk, List.drop_succ_cons, Option.map_map]
          congr 1
      · rw [mscan_oth hx' h2] at h ⊢
        obtain ⟨k, hk, rfl⟩ := Option.map_eq_some_iff.1 h
        rw [mscan_add r d d' k hk, List.drop_succ_cons, Option.map_map]
        congr 1
theorem mscan_skip : ∀ (u : Nat) (r : List Int) (d a : Nat), mscan r d = some a → u ≤ a → ∃ D, (mscan (r.drop u) D).map (· + u) = some a
  | 0, r, d, a, h, _ => ⟨d, by simpa using h⟩
  | u + 1, [], d, a, h, _ => by simp [mscan] at h
  | u + 1, x :: r, d, a, h, hu => by
    have key : ∀ D, (mscan r D).map (· + 1) = some a → ∃ D, (mscan ((x :: r).drop (u + 1)) D).map (· + (u + 1)) = some a := by
      intro D hD
      obtain ⟨k, hk, rfl⟩ := Option.map_eq_some_iff.1 hD
      obtain ⟨D', hD'⟩ := mscan_skip u r D k hk (by omega)
      obtain ⟨j, hj, hjk⟩ := Option.map_eq_some_iff.1 hD'
      exact ⟨D', by rw [List.drop_succ_cons, hj]; simp; omega⟩
    by_cases hx : ini x = true
    · rw [mscan_ini hx] at h
      exact key _ h
    · have hx' : ini x = false := by simpa using hx
      by_cases h2 : x = 22
      · subst h2
        cases d with
        | zero => rw [mscan_pd0] at h; cases h; omega
        | succ d => rw [mscan_pdS] at h; exact key _ h
      · rw [mscan_oth hx' h2] at h
        exact key _ h
theorem mt_lt2 {c : List Int} {z z' : Nat} (hlt : z < z') {m : Nat} (h1 : mt c z = m) (h2 : mt c z' = m) {x : Int} (hx : c[z']? = some x) (hi : ini x = true) : False := by
  unfold mt at h1 h2
  cases ha : mscan (c.drop (z + 1)) 0 with
  | none => rw [ha] at h1; simp only at h1; omega
  | some a =>
    cases hb : mscan (c.drop (z' + 1)) 0 with
    | none => rw [hb] at h2; simp only at h2; omega
    | some b =>
      rw [ha] at h1
      rw [hb] at h2
      simp only at h1 h2
      obtain ⟨u, rfl⟩ : ∃ u, z' = z + 1 + u := ⟨z' - (z + 1), by omega⟩
      obtain ⟨D, hD⟩ := mscan_skip u _ 0 a ha (by omega)
      obtain ⟨hl, rfl⟩ := List.getElem?_eq_some_iff.1 hx
      rw [List.drop_drop, List.drop_eq_getElem_cons hl, mscan_ini hi] at hD
      have := mscan_add (c.drop (z + 1 + u + 1)) 0 D b hb
      rw [show 0 + D + 1 = D + 1 by omega] at this
      rw [this] at hD
      cases hc : mscan (List.drop (b + 1) (List.drop (z + 1 + u + 1) c)) D with
      | none => rw [hc] at hD; simp at hD
      | some q => rw [hc] at hD; simp at hD; omega
/-- Two runs are not followed by the same run. -/
theorem fol_inj {o M : List Int} {rs : List (List Int)} (hM : MOK o M) (hp : rs.flatten.Pairwise (· < ·)) (hn : ∀ x ∈ rs.flatten, 0 ≤ x ∧ x < o.length) {j j' : Nat} (hj : j < rs.length) (hj' : j' < rs.length) (h : fol o M rs j = fol o M rs j') (h0 : 0 ≤ fol o M rs j) : j = j' := by
  have key : ∀ j, j < rs.length → 0 ≤ fol o M rs j → ∃ z : Int, z ∈ rs.getD j [] ∧ 0 ≤ z ∧ z < o.length ∧ ini (o.getD z.toNat 0) = true ∧ ∃ m : Nat, mt o z.toNat = m ∧ ∃ k r, fol o M rs j = (k : Nat) ∧ rs[k]? = some r ∧ r.head? = some (m : Int) := by
    intro j hj h0
    unfold fol at h0 ⊢
    have hd : rs.getD j [] = rs[j] := by rw [List.getD_eq_getElem?_getD, List.getElem?_eq_getElem hj]; rfl
    rw [hd] at h0 ⊢
    cases hz : rs[j].getLast? with
    | none => rw [hz] at h0; simp at h0
    | some z =>
      rw [hz] at h0
      simp only at h0 ⊢
      have hzm : z ∈ rs[j] := List.mem_of_getLast? hz
      have hzf : z ∈ rs.flatten := List.mem_flatten.2 ⟨_, List.getElem_mem hj, hzm⟩
      have hzr := hn z hzf
      split at h0
      · rename_i hc
        rw [if_pos hc]
        rw [Bool.and_eq_true, decide_eq_true_eq] at hc
        have ho : o[z.toNat]? = some (o.getD z.toNat 0) := by rw [List.getD_eq_getElem?_getD, List.getElem?_eq_getElem (by omega)]; rfl
        have hm := hM.at_ z.toNat _ ho hc.1
        have hmg : M.getD z.toNat 0 = mt o z.toNat := by rw [List.getD_eq_getElem?_getD, hm]; rfl
        rw [hmg] at hc h0 ⊢
        obtain ⟨m, hm2⟩ : ∃ m : Nat, mt o z.toNat = m := ⟨(mt o z.toNat).toNat, by omega⟩
        cases hb : bgn rs (mt o z.toNat) with
        | none => rw [hb] at h0; simp at h0
        | some k =>
          obtain ⟨r, h3, h4⟩ := bgn_some hb
          exact ⟨z, hzm, hzr.1, hzr.2, hc.1, m, hm2, k, r, rfl, h3, by rw [h4, hm2]⟩
      · omega
  obtain ⟨z, hz1, hz2, hz3, hz4, m, hz5, k, r, hz6, hz7, hz8⟩ := key j hj h0
  obtain ⟨z', hy1, hy2, hy3, hy4, m', hy5, k', r', hy6, hy7, hy8⟩ := key j' hj' (h ▸ h0)
  have hk : k = k' := by omega
  subst hk
  rw [hz7] at hy7
  cases hy7
  rw [hz8] at hy8
  have hmm : m = m' := by simpa using hy8
  subst hmm
  have ho : ∀ z : Int, 0 ≤ z → z < o.length → o[z.toNat]? = some (o.getD z.toNat 0) := fun z _ _ => by rw [List.getD_eq_getElem?_getD, List.getElem?_eq_getElem (by omega)]; rfl
  have hzz : z = z' := by
    rcases Int.lt_trichotomy z z' with h1 | h1 | h1
    · exact (mt_lt2 (by omega : z.toNat < z'.toNat) hz5 hy5 (ho z' hy2 hy3) hy4).elim
    · exact h1
    · exact (mt_lt2 (by omega : z'.toNat < z.toNat) hy5 hz5 (ho z hz2 hz3) hz4).elim
  subst hzz
  have hd : ∀ j (hj : j < rs.length), rs.getD j [] = rs[j] := fun j hj => by rw [List.getD_eq_getElem?_getD, List.getElem?_eq_getElem hj]; rfl
  rw [hd j hj] at hz1
  rw [hd j' hj'] at hy1
  obtain ⟨p1, p2⟩ := List.pairwise_flatten.1 hp
  rcases Nat.lt_trichotomy j j' with h1 | h1 | h1
  · have := List.pairwise_iff_getElem.1 p2 j j' hj hj' h1 z hz1 z hy1; omega
  · exact h1
  · have := List.pairwise_iff_getElem.1 p2 j' j hj' hj h1 z hy1 z hz1; omega
/-- The runs of a chain. -/
def chI (F : Nat → Int) : Nat → Int → List Nat
  | 0, _ => []
  | f + 1, j => if 0 ≤ j then j.toNat :: chI F f (F j.toNat) else []
theorem chI_chn (F : Nat → Int) (rs : List (List Int)) : ∀ (f : Nat) (j : Int) (x : Int), x ∈ chn F rs f j → ∃ k ∈ chI F f j, x ∈ rs.getD k []
  | 0, _, x, h => by simp [chn] at h
  | f + 1, j, x, h => by
    unfold chn at h
    unfold chI
    split at h
    · rename_i hj
      rw [if_pos hj]
      rcases List.mem_append.1 h with h | h
      · exact ⟨_, List.mem_cons_self .., h⟩
      · obtain ⟨k, h1, h2⟩ := chI_chn F rs f _ x h
        exact ⟨k, List.mem_cons_of_mem _ h1, h2⟩
    · simp at h
/-- A run of a chain is its first, or follows one of it. -/
theorem chI_step (F : Nat → Int) : ∀ (f : Nat) (j : Int) (k : Nat), k ∈ chI F f j → (k : Int) = j ∨ ∃ q ∈ chI F f j, F q = (k : Int)
  | 0, _, k, h => by simp [chI] at h
  | f + 1, j, k, h => by
    unfold chI at h ⊢
    split at h
    · rename_i hj
      rw [if_pos hj]
      rcases List.mem_cons.1 h with h | h
      · left; omega
      · right
        rcases chI_step F f _ k h with h1 | ⟨q, h1, h2⟩
        · exact ⟨j.toNat, List.mem_cons_self .., h1.symm⟩
        · exact ⟨q, List.mem_cons_of_mem _ h1, h2⟩
    · simp at h
theorem chI_lt {F : Nat → Int} {N : Nat} (hF : ∀ j, j < N → F j < 0 ∨ ((j : Int) < F j ∧ F j < N)) : ∀ (f : Nat) (j : Int), j < N → ∀ k ∈ chI F f j, k < N
  | 0, _, _, k, h => by simp [chI] at h
  | f + 1, j, hj, k, h => by
    unfold chI at h
    split at h
    · rcases List.mem_cons.1 h with h | h
      · omega
      · refine chI_lt hF f _ ?_ k h
        have := hF j.toNat (by omega)
        omega
    · simp at h
theorem chI_one {F : Nat → Int} {N : Nat} (hF : ∀ j, j < N → F j < 0 ∨ ((j : Int) < F j ∧ F j < N)) (hI : ∀ j j', j < N → j' < N → F j = F j' → 0 ≤ F j → j = j') {a b f : Nat} (ha : a < N) (hb : b < N) (hca : con F N a = false) (hcb : con F N b = false) :
    ∀ (n k : Nat), k ≤ n → k ∈ chI F f a → k ∈ chI F f b → a = b
  | n, k, hkn, h1, h2 => by
    have hno : ∀ c, c < N → con F N c = false → ∀ q, q < N → F q ≠ (c : Int) := by
      intro c hc hcc q hq e
      have : con F N c = true := by
        unfold con
        rw [List.any_eq_true]
        exact ⟨q, by simpa using hq, by simpa using e⟩
      rw [hcc] at this
      cases this
    rcases chI_step F f a k h1 with e1 | ⟨q1, hq1, e1⟩
    · rcases chI_step F f b k h2 with e2 | ⟨q2, hq2, e2⟩
      · omega
      · exact (hno a ha hca q2 (chI_lt hF f b (by omega) q2 hq2) (by omega)).elim
    · rcases chI_step F f b k h2 with e2 | ⟨q2, hq2, e2⟩
      · exact (hno b hb hcb q1 (chI_lt hF f a (by omega) q1 hq1) (by omega)).elim
      · have l1 := chI_lt hF f a (by omega) q1 hq1
        have l2 := chI_lt hF f b (by omega) q2 hq2
        have hq : q1 = q2 := hI q1 q2 l1 l2 (by omega) (by omega)
        subst hq
        have hlt := hF q1 l1
        have hqk : q1 < k := by omega
        cases n with
        | zero => omega
        | succ n => exact chI_one hF hI ha hb hca hcb n q1 (by omega) hq1 hq2
end Go.Ab.Bi
/- Plain texts (letters, spaces, digits, full stops): what the rules make of one sequence. -/
namespace Go.Ab.Bi
/-- Latin letters, digits, full stops, spaces. -/
def plc (x : Int) : Bool := x == 0 || x == 3 || x == 7 || x == 12
theorem plc_iff {x : Int} : plc x = true ↔ x = 0 ∨ x = 3 ∨ x = 7 ∨ x = 12 := by simp [plc, or_assoc]
theorem w1_id : ∀ (s : List Int) (p : Int), (∀ x ∈ s, x ≠ 8) → w1 p s = s
  | [], _, _ => rfl
  | x :: r, p, h => by
    have hx := h x (List.mem_cons_self ..)
    rw [w1, if_neg hx, w1_id r _ fun y hy => h y (List.mem_cons_of_mem _ hy)]
theorem w2_id : ∀ (s : List Int) (l : Int), (∀ x ∈ s, x ≠ 2) → l ≠ 2 → w2 l s = s
  | [], _, _, _ => rfl
  | x :: r, l, h, hl => by
    have hx := h x (List.mem_cons_self ..)
    have hr : ∀ y ∈ r, y ≠ 2 := fun y hy => h y (List.mem_cons_of_mem _ hy)
    rw [w2]
    split
    · rw [w2_id r x hr hx]
    · rw [if_neg (fun e => hl e.2), w2_id r l hr hl]
theorem w3_id {s : List Int} (h : ∀ x ∈ s, x ≠ 2) : w3 s = s := by
  unfold w3
  conv => rhs; rw [← List.map_id s]
  apply List.map_congr_left
  intro x hx
  simp [h x hx]
theorem w5_id : ∀ (s : List Int) (p : Int), (∀ x ∈ s, x ≠ 5) → w5 p 0 s = s
  | [], _, _ => rfl
  | x :: r, p, h => by
    have hx := h x (List.mem_cons_self ..)
    rw [w5, if_neg hx, w5_id r _ fun y hy => h y (List.mem_cons_of_mem _ hy)]
    rfl
theorem w4c_plc {p x y : Int} (hp : p ≠ 6) (hx : plc x = true) : plc (w4c p x y) = true ∧ (x = 0 ∨ x = 3 → w4c p x y = x) := by
  rw [plc_iff] at hx
  unfold w4c
  rcases hx with rfl | rfl | rfl | rfl
  · simp [plc]
  · simp [plc]
  · by_cases h : p = y ∧ (p = 3 ∨ p = 6)
    · rcases h.2 with rfl | rfl
      · simp [plc, ← h.1]
      · exact absurd rfl hp
    · simp [plc, h]
  · simp [plc]
theorem w4_at : ∀ (s : List Int) (p : Int), p ≠ 6 → (∀ x ∈ s, plc x = true) → ∀ (k : Nat) (x : Int), s[k]? = some x → ∃ x', (w4 p s)[k]? = some x' ∧ plc x' = true ∧ (x = 0 ∨ x = 3 → x' = x)
  | [], _, _, _, k, x, hx => by simp at hx
  | a :: r, p, hp, h, k, x, hx => by
    have ha := w4c_plc (y := r.headD (-1)) hp (h a (List.mem_cons_self ..))
    rw [w4]
    cases k with
    | zero =>
      simp at hx
      subst hx
      exact ⟨_, rfl, ha.1, ha.2⟩
    | succ k =>
      have hne : w4c p a (r.headD (-1)) ≠ 6 := by
        have := plc_iff.1 ha.1
        omega
      exact w4_at r _ hne (fun y hy => h y (List.mem_cons_of_mem _ hy)) k x (by simpa using hx)
theorem mem_of_at {s s' : List Int} {p : Int → Prop} (hl : s'.length = s.length) (h : ∀ (k : Nat) (x : Int), s[k]? = some x → ∃ x', s'[k]? = some x' ∧ p x') : ∀ x ∈ s', p x := by
  intro x hx
  obtain ⟨k, hk⟩ := List.mem_iff_getElem?.1 hx
  have hkl := (List.getElem?_eq_some_iff.1 hk).1
  obtain ⟨x', h1, h2⟩ := h k s[k] (List.getElem?_eq_getElem (by omega))
  rw [hk] at h1
  cases h1
  exact h2
theorem w6_at : ∀ (s : List Int) (l : Int), (∀ x ∈ s, plc x = true) → ∀ (k : Nat) (x : Int), s[k]? = some x → ∃ x', (w6 l s)[k]? = some x' ∧ (x' = 0 ∨ x' = 3 ∨ x' = 12 ∨ x' = 13) ∧ (x = 0 ∨ x = 3 → x' = 0 ∨ x' = 3) ∧ (l = 0 → x' ≠ 3)
  | [], _, _, k, x, hx => by simp at hx
  | a :: r, l, h, k, x, hx => by
    have ha := plc_iff.1 (h a (List.mem_cons_self ..))
    have hr : ∀ y ∈ r, plc y = true := fun y hy => h y (List.mem_cons_of_mem _ hy)
    rw [w6]
    rcases ha with rfl | rfl | rfl | rfl
    · rw [if_neg (by omega), if_pos (by omega)]
      cases k with
      | zero => simp at hx; subst hx; exact ⟨0, rfl, by omega, by omega, by omega⟩
      | succ k =>
        obtain ⟨x', h1, h2, h3, h4⟩ := w6_at r 0 hr k x (by simpa using hx)
        exact ⟨x', h1, h2, h3, fun _ => h4 rfl⟩
    · rw [if_neg (by omega), if_neg (by omega)]
      by_cases hl : l = 0
      · rw [if_pos ⟨rfl, hl⟩]
        cases k with
        | zero => simp at hx; subst hx; exact ⟨0, rfl, by omega, by omega, by omega⟩
        | succ k => exact w6_at r l hr k x (by simpa using hx)
      · rw [if_neg (fun e => hl e.2)]
        cases k with
        | zero => simp at hx; subst hx; exact ⟨3, rfl, by omega, by omega, fun e => absurd e hl⟩
        | succ k => exact w6_at r l hr k x (by simpa using hx)
    · rw [if_pos (by omega)]
      cases k with
      | zero => simp at hx; subst hx; exact ⟨13, rfl, by omega, by omega, by omega⟩
      | succ k => exact w6_at r l hr k x (by simpa using hx)
    · rw [if_neg (by omega), if_neg (by omega), if_neg (by omega)]
      cases k with
      | zero => simp at hx; subst hx; exact ⟨12, rfl, by omega, by omega, by omega⟩
      | succ k => exact w6_at r l hr k x (by simpa using hx)
theorem weak_at {s : List Int} (h : ∀ x ∈ s, plc x = true) {st : Int} (hst : st = 0 ∨ st = 1) (k : Nat) (x : Int) (hx : s[k]? = some x) : ∃ x', (weakS st s)[k]? = some x' ∧ (x' = 0 ∨ x' = 3 ∨ x' = 12 ∨ x' = 13) ∧ (x = 0 ∨ x = 3 → x' = 0 ∨ x' = 3) ∧ (st = 0 → x' ≠ 3) := by
  have hm : ∀ v : Int, v ≠ 0 → v ≠ 3 → v ≠ 7 → v ≠ 12 → ∀ x ∈ s, x ≠ v := by
    intro v h0 h3 h7 h12 x hx e
    have := plc_iff.1 (h x hx)
    omega
  have h4 := w4_at s (-1) (by omega) h
  have hp4 : ∀ x ∈ w4 (-1) s, plc x = true := mem_of_at (w4_len s (-1)) (fun k x hx => by obtain ⟨x', a, b, _⟩ := h4 k x hx; exact ⟨x', a, b⟩)
  have hm4 : ∀ x ∈ w4 (-1) s, x ≠ 5 := by
    intro x hx e
    have := plc_iff.1 (hp4 x hx)
    omega
  have e : weakS st s = w6 st (w4 (-1) s) := by
    unfold weakS
    rw [w1_id s st (hm 8 (by omega) (by omega) (by omega) (by omega)), w2_id s st (hm 2 (by omega) (by omega) (by omega) (by omega)) (by omega), w3_id (hm 2 (by omega) (by omega) (by omega) (by omega)), w5_id _ _ hm4]
  rw [e]
  obtain ⟨y, h5, h6, h7⟩ := h4 k x hx
  obtain ⟨x', a, b, c, d⟩ := w6_at (w4 (-1) s) st hp4 k y h5
  exact ⟨x', a, b, fun hh => c (by have := h7 hh; omega), d⟩
/-- The neutral rules: from the left all becomes L; from the right what is strong stays. -/
theorem neu_zero : ∀ (s : List Int) (n : Nat), (∀ x ∈ s, x = 0 ∨ x = 12 ∨ x = 13) → ∀ x ∈ neuS 0 0 0 n s, x = 0
  | [], n, _ => by
    intro x hx
    simp [neuS] at hx
    exact hx.2
  | a :: r, n, h => by
    have ha := h a (List.mem_cons_self ..)
    have hr : ∀ y ∈ r, y = 0 ∨ y = 12 ∨ y = 13 := fun y hy => h y (List.mem_cons_of_mem _ hy)
    intro x hx
    rw [neuS] at hx
    split at hx
    · exact neu_zero r (n + 1) hr x hx
    · rename_i hn
      have : a = 0 := by
        rcases ha with rfl | rfl | rfl
        · rfl
        · simp [neutB] at hn
        · simp [neutB] at hn
      subst this
      rcases List.mem_append.1 hx with hx | hx
      · simp at hx; exact hx.2
      · rcases List.mem_cons.1 hx with rfl | hx
        · rfl
        · exact neu_zero r 0 hr x hx
theorem neu_at (d e : Int) : ∀ (s : List Int) (b : Int) (n k : Nat) (x : Int), s[k]? = some x → neutB x = false → (neuS d e b n s)[n + k]? = some x
  | [], b, n, k, x, hx, _ => by simp at hx
  | a :: r, b, n, k, x, hx, hn => by
    rw [neuS]
    cases k with
    | zero =>
      simp at hx
      subst hx
      simp [hn]
    | succ k =>
      have hx' : r[k]? = some x := by simpa using hx
      split
      · have := neu_at d e r b (n + 1) k x hx' hn
        rwa [show n + 1 + k = n + (k + 1) by omega] at this
      · have := neu_at d e r (dirS a) 0 k x hx' hn
        rw [List.getElem?_append_right (by simp), List.length_replicate, show n + (k + 1) - n = k + 1 by omega, List.getElem?_cons_succ]
        simpa using this
end Go.Ab.Bi
/- Plain texts: their levels. -/
namespace Go.Ab
open Go.Proofs
namespace Bi
theorem exGo_plain (e : Int) : ∀ (l : List Int) (s : ES), (∀ x ∈ l, plc x = true) → topE s.st = (e, -1, false) → exGo e l s = l.map fun x => (e, x)
  | [], _, _, _ => rfl
  | x :: r, s, h, hs => by
    have hx := plc_iff.1 (h x (List.mem_cons_self ..))
    have hi : ini x = false := by rcases hx with rfl | rfl | rfl | rfl <;> rfl
    have hst : ∀ odd, exStep e x odd s = (e, x, s) := by
      intro odd
      unfold exStep
      rw [if_neg (by omega), if_neg (by rw [hi]; simp), if_neg (by omega), if_neg (by omega), if_neg (by omega), if_neg (by omega), hs]
      simp [ovr]
    rw [exGo, hst, exGo_plain e r s (fun y hy => h y (List.mem_cons_of_mem _ hy)) hs]
    rfl
def nums (n : Nat) : List Int := (List.range n).map Int.ofNat
theorem nums_len (n : Nat) : (nums n).length = n := by simp [nums]
theorem nums_get {n k : Nat} (h : k < n) : (nums n)[k]? = some (k : Int) := by simp [nums, h]
theorem nums_succ (n : Nat) : nums (n + 1) = nums n ++ [(n : Int)] := by simp [nums, List.range_succ]
theorem keptL_all {o : List Int} (h : ∀ x ∈ o, gone x = false) : ∀ k, k ≤ o.length → keptL o k = nums k
  | 0, _ => rfl
  | k + 1, hk => by
    have hg : gone (o.getD k 0) = false := by
      rw [List.getD_eq_getElem?_getD, List.getElem?_eq_getElem (by omega)]
      exact h _ (List.getElem_mem _)
    rw [show keptL o (k + 1) = if gone (o.getD k 0) then keptL o k else keptL o k ++ [(k : Int)] from rfl, hg, keptL_all h k (by omega), nums_succ]
    rfl
theorem grp_one {lv kept : List Int} {e : Int} (h : ∀ i, i < kept.length → lvl lv (kept.getD i 0) = e) : ∀ k, 0 < k → k ≤ kept.length → grp lv kept k = [kept.take k]
  | 0, h0, _ => by omega
  | k + 1, _, hk => by
    have hx : kept[k]? = some (kept.getD k 0) := by rw [List.getD_eq_getElem?_getD, List.getElem?_eq_getElem (by omega)]; rfl
    rw [show grp lv kept (k + 1) = if k = 0 ∨ lvl lv (kept.getD k 0) ≠ lvl lv (kept.getD (k - 1) 0) then grp lv kept k ++ [[kept.getD k 0]] else snocL (grp lv kept k) (kept.getD k 0) from rfl, List.take_add_one, hx]
    by_cases hz : k = 0
    · subst hz
      rw [if_pos (.inl rfl)]
      rfl
    · rw [if_neg (by rw [h k (by omega), h (k - 1) (by omega)]; simp [hz]), grp_one h k (by omega) (by omega)]
      rfl
theorem map_full {c : List Int} {n : Nat} (h : c.length = n) : (nums n).map (lvl c) = c := by
  apply List.ext_getElem?
  intro k
  by_cases hk : k < n
  · rw [List.getElem?_map, nums_get hk]
    simp only [Option.map_some, lvl, Int.toNat_natCast, List.getD_eq_getElem?_getD]
    rw [List.getElem?_eq_getElem (by omega)]
    rfl
  · rw [List.getElem?_eq_none (by simp [nums_len]; omega), List.getElem?_eq_none (by omega)]
theorem WB_full {c s c' : List Int} {n : Nat} (hc : c.length = n) (h : WB c (nums n) s c') : c' = s := by
  have h1 := h.len
  have h2 := h.sl
  rw [nums_len] at h2
  apply List.ext_getElem?
  intro k
  by_cases hk : k < n
  · have := h.at_ k k (nums_get hk)
    rwa [Int.toNat_natCast] at this
  · rw [List.getElem?_eq_none (by omega), List.getElem?_eq_none (by omega)]
theorem pgo_none : ∀ (l : List (Int × Int)) (k : Nat) (p : PS), (∀ x ∈ l, (brS x.2).1 = 0) → pgo k l p = some p.out
  | [], _, _, _ => rfl
  | (x, r) :: l, k, p, h => by
    have hr := h (x, r) (List.mem_cons_self ..)
    have ih := fun k p => pgo_none l k p fun y hy => h y (List.mem_cons_of_mem _ hy)
    simp only at hr
    rw [pgo]
    split
    · exact ih _ _
    · rw [if_neg (by omega), if_neg (by omega)]
      exact ih _ _
theorem srtS_nil : srtS [] = [] := List.length_eq_zero_iff.1 (by rw [srtS_len]; rfl)
theorem prsS_none {l : List (Int × Int)} (h : ∀ x ∈ l, (brS x.2).1 = 0) : prsS l = [] := by
  unfold prsS
  rw [pgo_none l 0 _ h]
  exact srtS_nil
theorem nums_idx {n : Nat} {x : Int} (h : x ∈ nums n) : ((nums n).idxOf x : Int) = x := by
  have h1 := idx_get h
  have h2 := (List.getElem?_eq_some_iff.1 h1).1
  rw [nums_len] at h2
  rw [nums_get h2] at h1
  simpa using h1
/-- A text without removed runes, isolates, in one level: one sequence, of all its runes. -/
theorem seqs_one {o M lv : List Int} {n : Nat} {e : Int} (hn : 0 < n) (ho : o.length = n) (hg : ∀ x ∈ o, gone x = false ∧ ini x = false) (hlv : lv.length = n) (hl : ∀ x ∈ lv, x = e) : seqsS o M lv n e = [⟨nums n, e, strS e, strS e⟩] := by
  have hk : keptL o n = nums n := keptL_all (fun x hx => (hg x hx).1) n (by omega)
  have hlvl : ∀ i : Nat, i < n → lvl lv (i : Int) = e := by
    intro i hi
    unfold lvl
    rw [Int.toNat_natCast, List.getD_eq_getElem?_getD, List.getElem?_eq_getElem (by omega)]
    exact hl _ (List.getElem_mem _)
  have hgr : grp lv (nums n) n = [nums n] := by
    have := grp_one (lv := lv) (kept := nums n) (e := e) (fun i hi => by
      rw [nums_len] at hi
      rw [List.getD_eq_getElem?_getD, nums_get hi]
      exact hlvl i hi) n hn (by rw [nums_len]; exact Nat.le_refl _)
    rw [this, List.take_of_length_le (by rw [nums_len]; exact Nat.le_refl _)]
  have hlast : (nums n).getLast? = some ((n - 1 : Nat) : Int) := by
    rw [List.getLast?_eq_getElem?, nums_len, nums_get (by omega)]
  have hf : fol o M [nums n] 0 = -1 := fol_no (r := nums n) rfl hlast (.inl (by
    rw [Int.toNat_natCast, List.getD_eq_getElem?_getD, List.getElem?_eq_getElem (by omega)]
    exact (hg _ (List.getElem_mem _)).2))
  have hch : chn (fol o M [nums n]) [nums n] 1 (0 : Nat) = nums n := by
    rw [chn_step (r := nums n) rfl]
    simp [chn]
  have hcon : con (fol o M [nums n]) 1 0 = false := by
    rw [con_succ, con_zero, hf]
    rfl
  have hh : (nums n).headD 0 = 0 := by
    have := nums_get hn
    cases hu : nums n with
    | nil => rfl
    | cons a r => rw [hu] at this; simpa using this
  have hll : (nums n).getLastD 0 = ((n - 1 : Nat) : Int) := by
    have h1 := lastD_of (l := nums n) (by intro e; rw [e] at hlast; cases hlast)
    rw [nums_len, nums_get (by omega)] at h1
    simpa using h1.symm
  have hm0 : (0 : Int) ∈ nums n := List.mem_of_getElem? (nums_get hn)
  have hm1 : ((n - 1 : Nat) : Int) ∈ nums n := List.mem_of_getElem? (nums_get (by omega))
  have hi0 : (nums n).idxOf 0 = 0 := by have := nums_idx hm0; omega
  have hi1 : (nums n).idxOf ((n - 1 : Nat) : Int) = n - 1 := by have := nums_idx hm1; omega
  unfold seqsS
  rw [hk, nums_len, hgr]
  show sqsU o (fol o M [nums n]) [nums n] lv (nums n) e 1 = _
  rw [sqsU, show ([nums n] : List (List Int)).length = 1 from rfl, hcon]
  simp only [Bool.false_eq_true, if_false, sqsU, List.nil_append]
  unfold sqOf
  have hl0 := hlvl 0 hn
  simp only [show ([nums n] : List (List Int)).length = 1 from rfl, hch, hh, hll, hi0, hi1]
  rw [show ((0 : Nat) : Int) = 0 from rfl] at hl0
  rw [hl0]
  unfold endS
  rw [if_neg (by omega), nums_len, if_neg (by omega), Int.max_self]
theorem brks_nil (d st : Int) (os s : List Int) : brks d st os [] s = s := rfl
/-- Texts of these runes. -/
def alpP : List Int := [97, 98, 32, 49, 46, 122]
theorem alpP_cls : ∀ x ∈ alpP, plc (bidi x) = true ∧ (brS x).1 = 0 := by
  have h : alpP.all (fun x => plc (bidi x) && decide ((brS x).1 = 0)) = true := by kernel_rfl
  intro x hx
  have := List.all_eq_true.1 h x hx
  simpa using this
theorem impL_get {lev : Int} : ∀ {u s : List Int} {k : Nat} {a x : Int}, u[k]? = some a → s[k]? = some x → (impL lev u s)[k]? = some (a + impS lev x)
  | [], _, _, _, _, h, _ => by simp at h
  | _ :: _, [], _, _, _, _, h => by simp at h
  | b :: u, y :: s, 0, a, x, h1, h2 => by simp at h1 h2; simp [impL, h1, h2]
  | b :: u, y :: s, k + 1, a, x, h1, h2 => by
    simp only [impL, List.getElem?_cons_succ] at h1 h2 ⊢
    exact impL_get h1 h2
theorem remL_id : ∀ (o y : List Int) (p : Int), o.length = y.length → (∀ x ∈ o, gone x = false) → remL p o y = y
  | [], [], _, _, _ => rfl
  | x :: o, a :: y, p, h, hg => by
    simp at h
    have hx := hg x (List.mem_cons_self ..)
    rw [remL, hx]
    simp only [Bool.false_eq_true, if_false]
    rw [remL_id o y a h fun z hz => hg z (List.mem_cons_of_mem _ hz)]
  | [], _ :: _, _, h, _ => by simp at h
  | _ :: _, [], _, h, _ => by simp at h
theorem trl_get {e : Int} : ∀ {o y : List Int} {k : Nat} {x a : Int}, o[k]? = some x → y[k]? = some a → ∃ b, (trl e o y).2[k]? = some b ∧ (b = a ∨ b = e) ∧ (x ≠ 10 → x ≠ 11 → blankB x = false → b = a)
  | [], _, _, _, _, h, _ => by simp at h
  | _ :: _, [], _, _, _, _, h => by simp at h
  | z :: o, c :: y, 0, x, a, h1, h2 => by
    simp at h1 h2
    subst h1 h2
    refine ⟨_, rfl, ?_, fun h3 h4 h5 => ?_⟩
    · split
      · exact .inr rfl
      · exact .inl rfl
    · have : trB z (trl e o y).1 = false := by
        unfold trB
        rw [if_neg (by omega), h5]
        rfl
      rw [if_neg (by rw [this]; simp)]
  | z :: o, c :: y, k + 1, x, a, h1, h2 => by
    simp only [trl, List.getElem?_cons_succ] at h1 h2 ⊢
    exact trl_get h1 h2
theorem plain_lev {t : List Int} {base : Int} {r : List Int} (hne : t ≠ []) (ht : ∀ x ∈ t, x ∈ alpP) (hb : base = 0 ∨ base = 1) (h : LevR t base r) :
    r.length = t.length ∧ ∀ (k : Nat) (x : Int), (t.map bidi)[k]? = some x → ∃ a, r[k]? = some a ∧ (base = 0 → a = 0) ∧ (base = 1 → (a = 1 ∨ a = 2) ∧ (x = 0 ∨ x = 3 → a = 2)) := by
  obtain ⟨M, c', y', hM, hst, hr⟩ := h
  have hbe : baseS bidi t base = base := by
    unfold baseS
    rw [if_pos hb]
  rw [hbe] at hst hr
  have hn : 0 < t.length := List.length_pos_iff.2 hne
  have hpl : ∀ x ∈ t.map bidi, plc x = true := by
    intro x hx
    obtain ⟨a, ha, rfl⟩ := List.mem_map.1 hx
    exact (alpP_cls a (ht a ha)).1
  have hol : (t.map bidi).length = t.length := by simp
  have hbr : ∀ c : List Int, prsS (c.zip t) = [] := fun c => prsS_none fun x hx => (alpP_cls x.2 (ht _ (List.of_mem_zip hx).2)).2
  generalize t.map bidi = o at *
  generalize hnn : t.length = n at *
  have hgi : ∀ x ∈ o, gone x = false ∧ ini x = false ∧ x ≠ 10 ∧ x ≠ 11 ∧ (x = 0 ∨ x = 3 → blankB x = false) := by
    intro x hx
    rcases plc_iff.1 (hpl x hx) with rfl | rfl | rfl | rfl <;> refine ⟨rfl, rfl, by omega, by omega, fun _ => ?_⟩ <;> first | rfl | omega
  have hex : expl base o = o.map fun x => (base, x) := exGo_plain base o (es0 base) hpl rfl
  have h1 : (expl base o).map (·.1) = o.map fun _ => base := by rw [hex, List.map_map]; rfl
  have h2 : (expl base o).map (·.2) = o := by rw [hex, List.map_map]; exact List.map_id _
  rw [h1, h2, seqs_one hn hol (fun x hx => ⟨(hgi x hx).1, (hgi x hx).2.1⟩) (by simpa using hol) (by simp)] at hst
  obtain ⟨c3, y3, ⟨c1, c2, w1, w2, w3, w4⟩, rfl, rfl⟩ := hst
  simp only at w1 w2 w3 w4
  rw [map_full hol] at w1 w2
  have e1 := WB_full hol w1
  subst e1
  have hl1 : (weakS (strS base) o).length = n := by rw [weak_len, hol]
  rw [map_full hl1, map_full hnn, hbr, brks_nil] at w2
  have e2 := WB_full hl1 w2
  subst e2
  rw [map_full hl1] at w3
  have e3 := WB_full hl1 w3
  subst e3
  have hl3 : (neuS (strS base) (strS base) (strS base) 0 (weakS (strS base) o)).length = n := by rw [neu_len, hl1]; omega
  have hlu : (o.map fun _ => base).length = n := by simpa using hol
  rw [map_full hlu, map_full hl3] at w4
  have e4 := WB_full hlu w4
  subst e4
  have hl4 : (impL base (o.map fun _ => base) (neuS (strS base) (strS base) (strS base) 0 (weakS (strS base) o))).length = n := by rw [impL_len _ _ _ (by rw [hlu, hl3]), hlu]
  rw [remL_id o _ base (by rw [hl4, hol]) (fun x hx => (hgi x hx).1)] at hr
  subst hr
  refine ⟨by rw [trl_len _ _ _ (by rw [hl4, hol]), hl4], fun k x hx => ?_⟩
  have hk := (List.getElem?_eq_some_iff.1 hx).1
  have hss : strS base = 0 ∨ strS base = 1 := by rcases hb with rfl | rfl <;> simp [strS]
  obtain ⟨x2, a1, a2, a3, a4⟩ := weak_at hpl hss k x hx
  obtain ⟨x3, b1⟩ : ∃ x3, (neuS (strS base) (strS base) (strS base) 0 (weakS (strS base) o))[k]? = some x3 := ⟨_, List.getElem?_eq_getElem (by omega)⟩
  have hu : (o.map fun _ => base)[k]? = some base := by rw [List.getElem?_map, hx]; rfl
  have hi := impL_get (lev := base) hu b1
  have hg := hgi x (List.mem_of_getElem? hx)
  obtain ⟨b, d1, d2, d3⟩ := trl_get (e := base) hx hi
  refine ⟨b, d1, fun hb0 => ?_, fun hb1 => ?_⟩
  · subst hb0
    have hz : x3 = 0 := neu_zero (weakS 0 o) 0 (fun y hy => by
      obtain ⟨q, hq⟩ := List.mem_iff_getElem?.1 hy
      have hql := (List.getElem?_eq_some_iff.1 hq).1
      have hl1' : (weakS 0 o).length = n := hl1
      obtain ⟨y2, u1, u2, u3, u4⟩ := weak_at hpl (.inl rfl) q o[q] (List.getElem?_eq_getElem (by omega))
      rw [hq] at u1
      cases u1
      have := u4 rfl
      omega) x3 (List.mem_of_getElem? b1)
    subst hz
    have : impS 0 0 = 0 := rfl
    rw [this] at d2
    omega
  · subst hb1
    have hir : impS 1 x3 = 0 ∨ impS 1 x3 = 1 := by
      unfold impS
      rw [if_neg (by omega), if_neg (by omega)]
      split
      · exact .inr rfl
      · exact .inl rfl
    refine ⟨by omega, fun hx0 => ?_⟩
    have hb2 := d3 hg.2.2.1 hg.2.2.2.1 (hg.2.2.2.2 hx0)
    have hx2 := a3 hx0
    have hnb : neutB x2 = false := by rcases hx2 with rfl | rfl <;> rfl
    have hb3 := neu_at (strS 1) (strS 1) (weakS (strS 1) o) (strS 1) 0 k x2 a1 hnb
    rw [Nat.zero_add, b1] at hb3
    cases hb3
    have : impS 1 x2 = 1 := by rcases hx2 with rfl | rfl <;> rfl
    omega
end Bi
end Go.Ab
/- The levels' range; runs of one level stay together: in plain Lean. -/
namespace Go.Ab
open Go.Proofs
namespace Bi
/-- No place lies in two sequences. -/
theorem sqsU_dis {o M : List Int} {rs : List (List Int)} {lv kept : List Int} {e : Int} (hM : MOK o M) (hp : rs.flatten.Pairwise (· < ·)) (hn : ∀ x ∈ rs.flatten, 0 ≤ x ∧ x < o.length) :
    ∀ k, k ≤ rs.length → (sqsU o (fol o M rs) rs lv kept e k).Pairwise fun a b => ∀ i ∈ a.l, i ∉ b.l
  | 0, _ => by simp [sqsU]
  | k + 1, hk => by
    have ih := sqsU_dis (lv := lv) (kept := kept) (e := e) hM hp hn k (by omega)
    unfold sqsU
    cases hc : con (fol o M rs) rs.length k
    · simp only [Bool.false_eq_true, if_false]
      refine List.pairwise_append.2 ⟨ih, by simp, ?_⟩
      intro a ha b hb i hi1 hi2
      simp at hb
      subst hb
      obtain ⟨j, h1, h2, rfl⟩ := sqsU_mem ha
      obtain ⟨q, hq1, hq2⟩ := chI_chn _ _ _ _ _ hi1
      obtain ⟨q', hr1, hr2⟩ := chI_chn _ _ _ _ _ hi2
      have hF := fun j hj => fol_ok hM hp hn j hj
      have l1 := chI_lt hF _ _ (by omega) q hq1
      have l2 := chI_lt hF _ _ (by omega) q' hr1
      have hd : ∀ j (hj : j < rs.length), rs.getD j [] = rs[j] := fun j hj => by rw [List.getD_eq_getElem?_getD, List.getElem?_eq_getElem hj]; rfl
      rw [hd q l1] at hq2
      rw [hd q' l2] at hr2
      obtain ⟨p1, p2⟩ := List.pairwise_flatten.1 hp
      have hqq : q = q' := by
        rcases Nat.lt_trichotomy q q' with h3 | h3 | h3
        · have := List.pairwise_iff_getElem.1 p2 q q' l1 l2 h3 i hq2 i hr2; omega
        · exact h3
        · have := List.pairwise_iff_getElem.1 p2 q' q l2 l1 h3 i hr2 i hq2; omega
      subst hqq
      have := chI_one hF (fun j j' hj hj' h h0 => fol_inj hM hp hn hj hj' h h0) (by omega : j < rs.length) (by omega : k < rs.length) h2 hc q q (Nat.le_refl _) hq1 hr1
      omega
    · simp only [if_true]
      exact ih
theorem seqsS_dis {o M lv : List Int} {n : Nat} {e : Int} (hM : MOK o M) (hon : o.length = n) : (seqsS o M lv n e).Pairwise fun a b => ∀ i ∈ a.l, i ∉ b.l := by
  unfold seqsS
  refine sqsU_dis hM ?_ ?_ _ (Nat.le_refl _)
  · rw [keptL_grp]; exact keptL_asc o n
  · rw [keptL_grp]
    intro x hx
    have := keptL_mem o n x hx
    omega
theorem Stp.oth {t o c y c' y' : List Int} {s : Sq} (h : Stp t o s c y c' y') {j : Nat} (hj : (j : Int) ∉ s.l) : c'[j]? = c[j]? ∧ y'[j]? = y[j]? := by
  obtain ⟨c1, c2, h1, h2, h3, h4⟩ := h
  exact ⟨by rw [h3.oth j hj, h2.oth j hj, h1.oth j hj], h4.oth j hj⟩
theorem Stps.oth {t o : List Int} {j : Nat} : ∀ {ss : List Sq} {c y c' y' : List Int}, Stps t o ss c y c' y' → (∀ s ∈ ss, (j : Int) ∉ s.l) → c'[j]? = c[j]? ∧ y'[j]? = y[j]?
  | [], _, _, _, _, ⟨rfl, rfl⟩, _ => ⟨rfl, rfl⟩
  | s :: ss, c, y, c', y', ⟨c1, y1, h1, h2⟩, h => by
    obtain ⟨a1, a2⟩ := h1.oth (h s (List.mem_cons_self ..))
    obtain ⟨b1, b2⟩ := Stps.oth h2 fun x hx => h x (List.mem_cons_of_mem _ hx)
    exact ⟨b1.trans a1, b2.trans a2⟩
theorem Stp.up {t o c y c' y' : List Int} {s : Sq} (h : Stp t o s c y c' y') {n : Nat} (hs : Pl n s.l) (hc : c.length = n) (hy : y.length = n) {j : Nat} {a : Int} (ha : y[j]? = some a) : ∃ b, y'[j]? = some b ∧ a ≤ b ∧ b ≤ a + 2 := by
  by_cases hj : (j : Int) ∈ s.l
  · obtain ⟨c1, c2, h1, h2, h3, h4⟩ := h
    obtain ⟨k, hk⟩ := List.mem_iff_getElem?.1 hj
    have h5 := h4.at_ k _ hk
    rw [Int.toNat_natCast] at h5
    have hc' : c'.length = n := h3.len.trans (h2.len.trans (h1.len.trans hc))
    have hu : (s.l.map (lvl y))[k]? = some a := by
      rw [List.getElem?_map, hk]
      simp only [Option.map_some, lvl, Int.toNat_natCast, List.getD_eq_getElem?_getD, ha]
      rfl
    have hx : (s.l.map (lvl c'))[k]? = some (lvl c' j) := by rw [List.getElem?_map, hk]; rfl
    have hi := impL_get (lev := s.lev) hu hx
    have := impS_rng s.lev (lvl c' j)
    exact ⟨_, h5.trans hi, by omega, by omega⟩
  · exact ⟨a, by rw [(h.oth hj).2]; exact ha, by omega, by omega⟩
theorem Stps.up {t o : List Int} {n : Nat} : ∀ {ss : List Sq} {c y c' y' : List Int}, Stps t o ss c y c' y' → (∀ s ∈ ss, Pl n s.l) → ss.Pairwise (fun a b => ∀ i ∈ a.l, i ∉ b.l) → c.length = n → y.length = n → ∀ {j : Nat} {a : Int}, y[j]? = some a → ∃ b, y'[j]? = some b ∧ a ≤ b ∧ b ≤ a + 2
  | [], _, _, _, _, ⟨rfl, rfl⟩, _, _, _, _, j, a, ha => ⟨a, ha, by omega, by omega⟩
  | s :: ss, c, y, c', y', ⟨c1, y1, h1, h2⟩, hs, hp, hc, hy, j, a, ha => by
    obtain ⟨p1, p2⟩ := List.pairwise_cons.1 hp
    by_cases hj : (j : Int) ∈ s.l
    · obtain ⟨b, hb1, hb2⟩ := h1.up (hs s (List.mem_cons_self ..)) hc hy ha
      refine ⟨b, ?_, hb2⟩
      rw [(Stps.oth h2 fun x hx hjx => p1 x hx _ hj hjx).2]
      exact hb1
    · have h3 := (h1.oth hj).2
      obtain ⟨l1, l2⟩ := h1.len
      exact Stps.up h2 (fun x hx => hs x (List.mem_cons_of_mem _ hx)) p2 (l1.trans hc) (l2.trans hy) (by rw [h3]; exact ha)
theorem Stps.len {t o : List Int} : ∀ {ss : List Sq} {c y c' y' : List Int}, Stps t o ss c y c' y' → c'.length = c.length ∧ y'.length = y.length
  | [], _, _, _, _, ⟨rfl, rfl⟩ => ⟨rfl, rfl⟩
  | s :: ss, _, _, _, _, ⟨c1, y1, h1, h2⟩ => by
    obtain ⟨a1, a2⟩ := h1.len
    obtain ⟨b1, b2⟩ := Stps.len h2
    exact ⟨b1.trans a1, b2.trans a2⟩
theorem remL_rng {P : Int → Prop} : ∀ (o y : List Int) (p : Int), P p → (∀ a ∈ y, P a) → ∀ a ∈ remL p o y, P a
  | [], _, _, _, _, a, ha => by simp [remL] at ha
  | _ :: _, [], _, _, _, a, ha => by simp [remL] at ha
  | x :: o, b :: y, p, hp, hy, a, ha => by
    rw [remL] at ha
    have hv : P (if gone x then p else b) := by
      split
      · exact hp
      · exact hy b (List.mem_cons_self ..)
    rcases List.mem_cons.1 ha with rfl | ha
    · exact hv
    · exact remL_rng o y _ hv (fun c hc => hy c (List.mem_cons_of_mem _ hc)) a ha
theorem trl_rng {P : Int → Prop} (e : Int) (he : P e) : ∀ (o y : List Int), (∀ a ∈ y, P a) → ∀ a ∈ (trl e o y).2, P a
  | [], _, _, a, ha => by simp [trl] at ha
  | _ :: _, [], _, a, ha => by simp [trl] at ha
  | x :: o, b :: y, hy, a, ha => by
    rw [trl] at ha
    rcases List.mem_cons.1 ha with rfl | ha
    · split
      · exact he
      · exact hy b (List.mem_cons_self ..)
    · exact trl_rng e he o y (fun c hc => hy c (List.mem_cons_of_mem _ hc)) a ha
/-- The levels: as many as runes, from 0 to 127. -/
theorem lev_rng {t : List Int} {base : Int} {r : List Int} (h : LevR t base r) : r.length = t.length ∧ ∀ x ∈ r, 0 ≤ x ∧ x ≤ 127 := by
  obtain ⟨M, c', y', hM, hst, rfl⟩ := h
  have he : 0 ≤ baseS bidi t base ∧ baseS bidi t base ≤ 1 := by
    unfold baseS
    split
    · omega
    · have := fs_val (t.map bidi).length (t.map bidi)
      unfold fs
      omega
  have hol : (t.map bidi).length = t.length := by simp
  generalize t.map bidi = o at *
  generalize baseS bidi t base = e at *
  have hxl := expl_len e o
  have hlr := expl_rng he o
  have hcl : ((expl e o).map (·.2)).length = t.length := by simp [hxl, hol]
  have hll : ((expl e o).map (·.1)).length = t.length := by simp [hxl, hol]
  obtain ⟨l1, l2⟩ := Stps.len hst
  have hoy : o.length = y'.length := by omega
  have hrl := remL_len o y' e hoy
  refine ⟨by rw [trl_len e o _ (by omega)]; omega, ?_⟩
  refine trl_rng (P := fun x => 0 ≤ x ∧ x ≤ 127) e ⟨he.1, by omega⟩ _ _ (remL_rng (P := fun x => 0 ≤ x ∧ x ≤ 127) _ _ _ ⟨he.1, by omega⟩ ?_)
  intro x hx
  obtain ⟨j, hj⟩ := List.mem_iff_getElem?.1 hx
  have hjl := (List.getElem?_eq_some_iff.1 hj).1
  obtain ⟨a, ha⟩ : ∃ a, ((expl e o).map (·.1))[j]? = some a := ⟨_, List.getElem?_eq_getElem (by omega)⟩
  obtain ⟨b, hb1, hb2, hb3⟩ := Stps.up hst (fun s hs => (sq_facts hM hol hll hlr hs).1) (seqsS_dis hM hol) hcl hll ha
  rw [hj] at hb1
  cases hb1
  have := hlr a (List.mem_of_getElem? ha)
  omega
/-- a, and b right behind it. -/
def Adj (l : List Int) (a b : Int) : Prop := ∃ u v, l = u ++ a :: b :: v
theorem Adj.pre {l : List Int} {a b : Int} (h : Adj l a b) (p : List Int) : Adj (p ++ l) a b := by
  obtain ⟨u, v, rfl⟩ := h
  exact ⟨p ++ u, v, by simp⟩
theorem rr_acc (p : Int → Bool) : ∀ (l acc : List Int), ∃ u v, rr p acc l = u ++ (acc ++ v)
  | [], acc => ⟨[], [], by simp [rr]⟩
  | x :: l, acc => by
    cases hx : p x
    · rw [rr_stop hx]
      exact ⟨[], x :: rr p [] l, by simp⟩
    · have e : rr p acc (x :: l) = rr p (x :: acc) l := by simp [rr, hx]
      obtain ⟨u, v, h⟩ := rr_acc p l (x :: acc)
      rw [e, h]
      exact ⟨u ++ [x], v, by simp⟩
theorem rr_adj {p : Int → Bool} {a b : Int} (hab : p a = p b) (v : List Int) : ∀ (u acc : List Int), if p a then Adj (rr p acc (u ++ a :: b :: v)) b a else Adj (rr p acc (u ++ a :: b :: v)) a b
  | [], acc => by
    cases ha : p a
    · have hb : p b = false := by rw [← hab, ha]
      simp only [Bool.false_eq_true, if_false, List.nil_append]
      rw [rr_stop ha, rr_stop hb]
      exact ⟨acc, rr p [] v, by simp⟩
    · have hb : p b = true := by rw [← hab, ha]
      simp only [if_true, List.nil_append]
      have e : rr p acc (a :: b :: v) = rr p (b :: a :: acc) v := by simp [rr, ha, hb]
      obtain ⟨u, w, h⟩ := rr_acc p v (b :: a :: acc)
      rw [e, h]
      exact ⟨u, acc ++ w, by simp⟩
  | x :: u, acc => by
    have ih := fun acc => rr_adj hab v u acc
    cases hx : p x
    · rw [List.cons_append, rr_stop hx]
      have := ih []
      split <;> rename_i h
      · rw [if_pos h] at this
        exact (this.pre [x]).pre acc
      · rw [if_neg h] at this
        exact (this.pre [x]).pre acc
    · have e : rr p acc (x :: (u ++ a :: b :: v)) = rr p (x :: acc) (u ++ a :: b :: v) := by simp [rr, hx]
      rw [List.cons_append, e]
      exact ih _
theorem Adj.rr {p : Int → Bool} {l : List Int} {a b : Int} (h : Adj l a b) (hab : p a = p b) : if p a then Adj (rr p [] l) b a else Adj (rr p [] l) a b := by
  obtain ⟨u, v, rfl⟩ := h
  exact rr_adj hab v u []
/-- Two neighbours of one level m are neighbours in the order, turned round if m is odd. -/
theorem ord_adj {lv : List Int} {m : Nat} : ∀ (N : Nat) (l : List Int) (a b : Int), lvl lv a = m → lvl lv b = m → Adj l a b → if min m N % 2 = 0 then Adj (ordD lv N l) a b else Adj (ordD lv N l) b a
  | 0, l, a, b, _, _, h => by simpa [ordD] using h
  | N + 1, l, a, b, ha, hb, h => by
    have hab : ge lv (N + 1 : Nat) a = ge lv (N + 1 : Nat) b := by unfold ge; rw [ha, hb]
    have h1 := h.rr hab
    rw [ordD]
    by_cases hm : N + 1 ≤ m
    · have hga : ge lv (N + 1 : Nat) a = true := by unfold ge; rw [ha]; simp; omega
      rw [if_pos hga] at h1
      have ih := ord_adj N _ b a hb ha h1
      have e1 : min m (N + 1) = N + 1 := by omega
      have e2 : min m N = N := by omega
      rw [e1]
      rw [e2] at ih
      by_cases hp : N % 2 = 0
      · rw [if_pos hp] at ih
        rw [if_neg (by omega)]
        exact ih
      · rw [if_neg hp] at ih
        rw [if_pos (by omega)]
        exact ih
    · have hga : ge lv (N + 1 : Nat) a = false := by unfold ge; rw [ha]; simp; omega
      rw [if_neg (by rw [hga]; simp)] at h1
      have ih := ord_adj N _ a b ha hb h1
      have e1 : min m (N + 1) = min m N := by omega
      rw [e1]
      exact ih
end Bi
end Go.Ab
/- One isolate in a plain text: its sequences. -/
namespace Go.Ab
open Go.Proofs
namespace Bi
/-- Classes of plain texts. -/
def pcl (x : Int) : Bool := x == 0 || x == 1 || x == 2 || x == 3 || x == 4 || x == 5 || x == 6 || x == 7 || x == 8 || x == 12 || x == 13
theorem pcl_iff {x : Int} : pcl x = true ↔ x = 0 ∨ x = 1 ∨ x = 2 ∨ x = 3 ∨ x = 4 ∨ x = 5 ∨ x = 6 ∨ x = 7 ∨ x = 8 ∨ x = 12 ∨ x = 13 := by simp [pcl, or_assoc]
theorem pcl_no {x : Int} (h : pcl x = true) : gone x = false ∧ ini x = false ∧ x ≠ 22 ∧ x ≠ 10 ∧ x ≠ 11 ∧ x ≠ 18 ∧ x ≠ 9 := by
  rcases pcl_iff.1 h with rfl | rfl | rfl | rfl | rfl | rfl | rfl | rfl | rfl | rfl | rfl <;> exact ⟨rfl, rfl, by omega, by omega, by omega, by omega, by omega⟩
theorem exGo_pcl (e v : Int) (bb : Bool) : ∀ (l rest : List Int) (s : ES), (∀ x ∈ l, pcl x = true) → topE s.st = (v, -1, bb) → exGo e (l ++ rest) s = (l.map fun x => (v, x)) ++ exGo e rest s
  | [], _, _, _, _ => rfl
  | x :: r, rest, s, h, hs => by
    have hx := pcl_iff.1 (h x (List.mem_cons_self ..))
    have hi := (pcl_no (h x (List.mem_cons_self ..))).2.1
    have hst : ∀ odd, exStep e x odd s = (v, x, s) := by
      intro odd
      unfold exStep
      rw [if_neg (by omega), if_neg (by rw [hi]; simp), if_neg (by omega), if_neg (by omega), if_neg (by omega), if_neg (by omega), hs]
      simp [ovr]
    rw [List.cons_append, exGo, hst, exGo_pcl e v bb r rest s (fun y hy => h y (List.mem_cons_of_mem _ hy)) hs]
    rfl
/-- The level within the isolate. -/
def inl (e c0 : Int) : Int := nxt e (decide (c0 = 20))
theorem inl_ne {e c0 : Int} (he : 0 ≤ e ∧ e ≤ 1) : inl e c0 ≠ e ∧ inl e c0 ≤ 125 := by
  unfold inl nxt
  split <;> omega
theorem expl_iso {e c0 : Int} (he : 0 ≤ e ∧ e ≤ 1) (hc : c0 = 19 ∨ c0 = 20) {X P Y : List Int} (hX : ∀ x ∈ X, pcl x = true) (hP : ∀ x ∈ P, pcl x = true) (hY : ∀ x ∈ Y, pcl x = true) :
    expl e (X ++ c0 :: (P ++ 22 :: Y)) = (X.map fun x => (e, x)) ++ (e, c0) :: ((P.map fun x => (inl e c0, x)) ++ (e, 22) :: (Y.map fun x => (e, x))) := by
  unfold expl
  rw [exGo_pcl e e false X _ _ hX rfl]
  congr 1
  have hodd : oddI c0 (P ++ 22 :: Y) = decide (c0 = 20) := by rcases hc with rfl | rfl <;> rfl
  have hi : ini c0 = true := by rcases hc with rfl | rfl <;> rfl
  have h1 : exStep e c0 (oddI c0 (P ++ 22 :: Y)) (es0 e) = (e, c0, ⟨[(inl e c0, -1, true), (e, -1, false)], 0, 0, 1⟩) := by
    rw [hodd]
    unfold exStep
    rw [if_neg (by omega), if_pos hi]
    have := (inl_ne (c0 := c0) he).2
    unfold inl at this
    have hc1 : nxt (topE (es0 e).st).1 (decide (c0 = 20)) ≤ 125 ∧ (es0 e).iso = 0 ∧ (es0 e).emb = 0 := ⟨this, rfl, rfl⟩
    rw [if_pos hc1]
    rfl
  rw [exGo, h1]
  simp only
  rw [exGo_pcl e (inl e c0) true P _ _ hP rfl]
  have h2 : ∀ odd, exStep e 22 odd ⟨[(inl e c0, -1, true), (e, -1, false)], 0, 0, 1⟩ = (e, 22, es0 e) := fun odd => rfl
  rw [exGo, h2]
  simp only
  have h3 := exGo_pcl e e false Y [] (es0 e) hY rfl
  rw [List.append_nil] at h3
  rw [h3]
  simp [exGo]
/-- The numbers from i on below k. -/
def rng (i k : Nat) : List Int := (nums k).drop i
theorem rng_succ {i k : Nat} (h : i ≤ k) : rng i (k + 1) = rng i k ++ [(k : Int)] := by
  unfold rng
  rw [nums_succ, List.drop_append_of_le_length (by rw [nums_len]; exact h)]
theorem rng_self (i : Nat) : rng i i = [] := List.drop_of_length_le (by rw [nums_len]; exact Nat.le_refl _)
theorem rng_len (i k : Nat) : (rng i k).length = k - i := by simp [rng, nums_len]
theorem rng_get {i k j : Nat} (h : i + j < k) : (rng i k)[j]? = some ((i + j : Nat) : Int) := by
  unfold rng
  rw [List.getElem?_drop, nums_get h]
theorem rng_mem {i k : Nat} {x : Int} : x ∈ rng i k ↔ (i : Int) ≤ x ∧ x < k := by
  constructor
  · intro h
    obtain ⟨j, hj⟩ := List.mem_iff_getElem?.1 h
    have hl := (List.getElem?_eq_some_iff.1 hj).1
    rw [rng_len] at hl
    rw [rng_get (by omega)] at hj
    cases hj
    omega
  · intro h
    have := rng_get (i := i) (k := k) (j := (x - i).toNat) (by omega)
    rw [show ((i + (x - i).toNat : Nat) : Int) = x by omega] at this
    exact List.mem_of_getElem? this
theorem nums_mem {n : Nat} {x : Int} : x ∈ nums n ↔ 0 ≤ x ∧ x < n := by
  have := rng_mem (i := 0) (k := n) (x := x)
  unfold rng at this
  simpa using this
theorem grp_step (lv kept : List Int) (k : Nat) : grp lv kept (k + 1) = if k = 0 ∨ lvl lv (kept.getD k 0) ≠ lvl lv (kept.getD (k - 1) 0) then grp lv kept k ++ [[kept.getD k 0]] else snocL (grp lv kept k) (kept.getD k 0) := rfl
theorem nums_getD {n k : Nat} (h : k < n) : (nums n).getD k 0 = k := by rw [List.getD_eq_getElem?_getD, nums_get h]; rfl
/-- A run goes on. -/
theorem grp_on {lv : List Int} {n i k : Nat} {rs : List (List Int)} (hk : k < n) (h0 : 0 < k) (hl : lvl lv (k : Int) = lvl lv ((k - 1 : Nat) : Int)) (h : grp lv (nums n) k = rs ++ [rng i k]) (hi : i ≤ k) : grp lv (nums n) (k + 1) = rs ++ [rng i (k + 1)] := by
  rw [grp_step, nums_getD hk, nums_getD (by omega), if_neg (by rw [hl]; simp; omega), h, rng_succ hi]
  unfold snocL
  simp
/-- A run begins. -/
theorem grp_new {lv : List Int} {n k : Nat} {rs : List (List Int)} (hk : k < n) (hl : k = 0 ∨ lvl lv (k : Int) ≠ lvl lv ((k - 1 : Nat) : Int)) (h : grp lv (nums n) k = rs) : grp lv (nums n) (k + 1) = rs ++ [rng k (k + 1)] := by
  rw [grp_step, nums_getD hk, nums_getD (by omega), if_pos hl, h, rng_succ (Nat.le_refl _), rng_self]
  rfl
theorem grp_from {lv : List Int} {n i : Nat} {rs : List (List Int)} (b : Nat) (hb : b ≤ n) (hl : ∀ k, i < k → k < b → lvl lv (k : Int) = lvl lv ((k - 1 : Nat) : Int)) (h : grp lv (nums n) (i + 1) = rs ++ [rng i (i + 1)]) : ∀ k, i + 1 ≤ k → k ≤ b → grp lv (nums n) k = rs ++ [rng i k]
  | 0, h1, _ => by omega
  | k + 1, h1, h2 => by
    rcases Nat.lt_or_ge i k with h3 | h3
    · exact grp_on (by omega) (by omega) (hl k h3 (by omega)) (grp_from b hb hl h k (by omega) (by omega)) (by omega)
    · obtain rfl : i = k := by omega
      exact h
/-- The runs: ahead of the isolate, in it, behind it. -/
theorem grp_three {lv : List Int} {n a b : Nat} {e v : Int} (hv : v ≠ e) (ha : 0 < a) (hab : a < b) (hb : b < n) (hl : ∀ k : Nat, k < n → lvl lv (k : Int) = if a ≤ k ∧ k < b then v else e) :
    grp lv (nums n) n = [rng 0 a, rng a b, rng b n] := by
  have g1 : grp lv (nums n) (0 + 1) = [] ++ [rng 0 (0 + 1)] := grp_new (by omega) (.inl rfl) rfl
  have g2 := grp_from a (by omega) (fun k h1 h2 => by rw [hl k (by omega), hl (k - 1) (by omega), if_neg (by omega), if_neg (by omega)]) g1 a (by omega) (Nat.le_refl _)
  have g3 := grp_new (k := a) (by omega) (.inr (by rw [hl a (by omega), hl (a - 1) (by omega), if_pos ⟨Nat.le_refl _, hab⟩, if_neg (by omega)]; exact hv)) g2
  have g4 := grp_from b (by omega) (fun k h1 h2 => by rw [hl k (by omega), hl (k - 1) (by omega), if_pos (by omega), if_pos (by omega)]) g3 b (by omega) (Nat.le_refl _)
  have g5 := grp_new (k := b) (by omega) (.inr (by rw [hl b (by omega), hl (b - 1) (by omega), if_neg (by omega), if_pos (by omega)]; exact fun h => hv h.symm)) g4
  have g6 := grp_from n (Nat.le_refl _) (fun k h1 h2 => by rw [hl k (by omega), hl (k - 1) (by omega), if_neg (by omega), if_neg (by omega)]) g5 n (by omega) (Nat.le_refl _)
  rw [g6]
  rfl
theorem mscan_pcl : ∀ (P Y : List Int), (∀ x ∈ P, pcl x = true) → mscan (P ++ 22 :: Y) 0 = some P.length
  | [], _, _ => by rw [List.nil_append, mscan_pd0]; rfl
  | x :: P, Y, h => by
    have hx := pcl_no (h x (List.mem_cons_self ..))
    rw [List.cons_append, mscan_oth hx.2.1 hx.2.2.1, mscan_pcl P Y fun y hy => h y (List.mem_cons_of_mem _ hy)]
    rfl
theorem WB_map {c l s c' : List Int} (h : WB c l s c') (hl : ∀ i ∈ l, 0 ≤ i ∧ i < c.length) : l.map (lvl c') = s := by
  apply List.ext_getElem?
  intro k
  cases hk : l[k]? with
  | none =>
    have := List.getElem?_eq_none_iff.1 hk
    rw [List.getElem?_eq_none (by simpa using this), List.getElem?_eq_none (by rw [h.sl]; exact this)]
  | some i =>
    have h1 := h.at_ k i hk
    have h2 := hl i (List.mem_of_getElem? hk)
    rw [List.getElem?_map, hk, ← h1]
    simp only [Option.map_some, lvl, List.getD_eq_getElem?_getD]
    rw [List.getElem?_eq_getElem (by rw [h.len]; omega)]
    rfl
/-- The places outside. -/
def outs (a b n : Nat) : List Int := nums a ++ rng b n
theorem outs_map {A Q B z : List Int} {a b n : Nat} (hz : z = A ++ (Q ++ B)) (ha : A.length = a) (hb : A.length + Q.length = b) (hn : z.length = n) : (outs a b n).map (lvl z) = A ++ B := by
  have hzl : z.length = A.length + (Q.length + B.length) := by rw [hz]; simp
  have hg : ∀ i : Nat, i < z.length → z[i]? = some (lvl z (i : Int)) := by
    intro i hi
    unfold lvl
    rw [Int.toNat_natCast, List.getD_eq_getElem?_getD, List.getElem?_eq_getElem hi]
    rfl
  unfold outs
  rw [List.map_append]
  congr 1
  · apply List.ext_getElem?
    intro k
    by_cases hk : k < a
    · rw [List.getElem?_map, nums_get hk]
      have := hg k (by omega)
      rw [hz, List.getElem?_append_left (by omega), ← hz] at this
      exact this.symm
    · rw [List.getElem?_eq_none (by simp [nums_len]; omega), List.getElem?_eq_none (by omega)]
  · apply List.ext_getElem?
    intro k
    by_cases hk : b + k < n
    · rw [List.getElem?_map, rng_get hk]
      have := hg (b + k) (by omega)
      rw [hz, List.getElem?_append_right (by omega), List.getElem?_append_right (by omega), ← hz, show b + k - A.length - Q.length = k by omega] at this
      exact this.symm
    · rw [List.getElem?_eq_none (by simp [rng_len]; omega), List.getElem?_eq_none (by omega)]
end Bi
end Go.Ab
/- One isolate in a plain text: the sequences, and the levels outside. -/
namespace Go.Ab
open Go.Proofs
namespace Bi
theorem nums_take {a n : Nat} (h : a ≤ n) : (nums n).take a = nums a := by
  apply List.ext_getElem?
  intro k
  by_cases hk : k < a
  · rw [List.getElem?_take_of_lt hk, nums_get (by omega), nums_get hk]
  · rw [List.getElem?_eq_none (by simp [nums_len]; omega), List.getElem?_eq_none (by rw [nums_len]; omega)]
theorem outs_self {a n : Nat} (h : a ≤ n) : outs a a n = nums n := by
  unfold outs rng
  rw [← nums_take h, List.take_append_drop]
theorem rng_last {i k : Nat} (h : i < k) : (rng i k).getLast? = some ((k - 1 : Nat) : Int) := by
  rw [List.getLast?_eq_getElem?, rng_len, rng_get (by omega)]
  congr 2
  omega
theorem rng_head {i k : Nat} (h : i < k) : (rng i k).head? = some (i : Int) := by
  rw [List.head?_eq_getElem?, rng_get (by omega)]
  rfl
theorem nums_idx0 {n : Nat} (hn : 0 < n) : (nums n).idxOf 0 = 0 := by
  have := nums_idx (x := 0) (n := n) (nums_mem.2 (by omega))
  omega
/-- What the first sequence is, when its places are l, the first one 0, the last one n - 1. -/
theorem sqOf_at {o lv : List Int} {F : Nat → Int} {rs : List (List Int)} {n k : Nat} {e : Int} {l : List Int} (hn : 0 < n) (hch : chn F rs rs.length k = l) (h0 : l.headD 0 = 0) (h1 : l.getLastD 0 = ((n - 1 : Nat) : Int)) (hl : lvl lv 0 = e) : sqOf o F rs lv (nums n) e k = ⟨l, e, strS e, strS e⟩ := by
  have hi0 : (nums n).idxOf 0 = 0 := by have := nums_idx (x := 0) (n := n) (nums_mem.2 (by omega)); omega
  have hi1 : (nums n).idxOf ((n - 1 : Nat) : Int) = n - 1 := by have := nums_idx (x := ((n - 1 : Nat) : Int)) (n := n) (nums_mem.2 (by omega)); omega
  unfold sqOf
  simp only [hch, h0, h1, hi0, hi1, hl]
  unfold endS
  rw [if_neg (by omega), nums_len, if_neg (by omega), Int.max_self]
theorem outs_head {a b n : Nat} (ha : 0 < a) : (outs a b n).headD 0 = 0 := by
  unfold outs
  cases a with
  | zero => omega
  | succ a =>
    have : (nums (a + 1)) = 0 :: (nums (a + 1)).tail := by simp [nums, List.range_succ_eq_map]
    rw [this]
    rfl
theorem outs_last {a b n : Nat} (hb : b < n) : (outs a b n).getLastD 0 = ((n - 1 : Nat) : Int) := by
  have hne : outs a b n ≠ [] := by
    unfold outs
    intro h
    have := congrArg List.length h
    rw [List.length_append, rng_len] at this
    simp at this
    omega
  have h1 := lastD_of hne
  have h2 : (outs a b n).getLast? = some ((n - 1 : Nat) : Int) := by
    unfold outs
    rw [List.getLast?_append, rng_last hb]
    rfl
  rw [List.getLast?_eq_getElem?, h1] at h2
  simpa using h2
theorem con_no {F : Nat → Int} {N k : Nat} (h : ∀ j, j < N → F j ≠ (k : Int)) : con F N k = false := by
  unfold con
  rw [List.any_eq_false]
  intro j hj
  simp at hj
  simpa using h j hj
theorem con_yes {F : Nat → Int} {N k j : Nat} (hj : j < N) (h : F j = (k : Int)) : con F N k = true := by
  unfold con
  rw [List.any_eq_true]
  exact ⟨j, by simpa using hj, by simpa using h⟩
/-- The sequences: first the one outside. -/
theorem seqs_iso {o M lv : List Int} {n a b : Nat} {e v : Int} (hM : MOK o M) (hn : o.length = n) (hv : v ≠ e) (ha : 0 < a) (hab : a ≤ b) (hb : b < n) (hg : ∀ x ∈ o, gone x = false)
    (hi : ∃ c0, o[a - 1]? = some c0 ∧ ini c0 = true) (hmt : mt o (a - 1) = (b : Nat)) (hin : ∀ (k : Nat) (x : Int), o[k]? = some x → k + 1 ≠ a → ini x = false)
    (hl : ∀ k : Nat, k < n → lvl lv (k : Int) = if a ≤ k ∧ k < b then v else e) :
    ∃ ss, seqsS o M lv n e = ⟨outs a b n, e, strS e, strS e⟩ :: ss ∧ ∀ s ∈ ss, ∀ i ∈ s.l, (a : Int) ≤ i ∧ i < b := by
  have hk : keptL o n = nums n := keptL_all hg n (by omega)
  have hog : ∀ k : Nat, k < n → o[k]? = some (o.getD k 0) := fun k hk => by rw [List.getD_eq_getElem?_getD, List.getElem?_eq_getElem (by omega)]; rfl
  have hini : ∀ k : Nat, k < n → k + 1 ≠ a → ini (o.getD k 0) = false := fun k hk hne => hin k _ (hog k hk) hne
  have hl0 : lvl lv 0 = e := by have := hl 0 (by omega); rw [if_neg (by omega)] at this; exact this
  unfold seqsS
  rw [hk, nums_len]
  rcases Nat.lt_or_ge a b with hlt | hge
  · rw [grp_three hv ha hlt hb hl]
    have hf1 : fol o M [rng 0 a, rng a b, rng b n] 1 = -1 := fol_no (r := rng a b) rfl (rng_last hlt) (.inl (by rw [Int.toNat_natCast]; exact hini _ (by omega) (by omega)))
    have hf2 : fol o M [rng 0 a, rng a b, rng b n] 2 = -1 := fol_no (r := rng b n) rfl (rng_last hb) (.inl (by rw [Int.toNat_natCast]; exact hini _ (by omega) (by omega)))
    obtain ⟨c0, hc1, hc2⟩ := hi
    have hMa := hM.at_ (a - 1) c0 hc1 hc2
    have hMg : M.getD (a - 1) 0 = (b : Int) := by rw [List.getD_eq_getElem?_getD, hMa, hmt]; rfl
    have hog1 : o.getD (a - 1) 0 = c0 := by rw [List.getD_eq_getElem?_getD, hc1]; rfl
    have hbg : bgn [rng 0 a, rng a b, rng b n] (b : Int) = some 2 := by
      unfold bgn
      have e1 : ¬ ((0 : Nat) : Int) = b := by omega
      have e2 : ¬ (a : Int) = b := by omega
      have e3 : ¬ (0 : Int) = b := by omega
      simp [List.findIdx?_cons, rng_head ha, rng_head hlt, rng_head hb, e2, e3]
    have hf0 : fol o M [rng 0 a, rng a b, rng b n] 0 = 2 := fol_some (q := 2) (r := rng 0 a) rfl (rng_last ha) (by rw [Int.toNat_natCast, hog1]; exact hc2) (by rw [Int.toNat_natCast, hMg]; omega) (by rw [Int.toNat_natCast, hMg]; exact hbg)
    generalize hF : fol o M [rng 0 a, rng a b, rng b n] = F at *
    have c0n : con F 3 0 = false := con_no fun j hj => by rcases (by omega : j = 0 ∨ j = 1 ∨ j = 2) with rfl | rfl | rfl <;> omega
    have c1n : con F 3 1 = false := con_no fun j hj => by rcases (by omega : j = 0 ∨ j = 1 ∨ j = 2) with rfl | rfl | rfl <;> omega
    have c2y : con F 3 2 = true := con_yes (j := 0) (by omega) hf0
    have ch0 : chn F [rng 0 a, rng a b, rng b n] 3 (0 : Nat) = outs a b n := by
      rw [chn_step (r := rng 0 a) rfl, hf0, show (2 : Int) = ((2 : Nat) : Int) from rfl, chn_step (r := rng b n) rfl, hf2, chn_neg (by omega), List.append_nil]
      rfl
    have ch1 : chn F [rng 0 a, rng a b, rng b n] 3 (1 : Nat) = rng a b := by
      rw [chn_step (r := rng a b) rfl, hf1, chn_neg (by omega), List.append_nil]
    have hsq0 : sqOf o F [rng 0 a, rng a b, rng b n] lv (nums n) e 0 = ⟨outs a b n, e, strS e, strS e⟩ := sqOf_at (by omega) ch0 (outs_head ha) (outs_last hb) hl0
    refine ⟨[sqOf o F [rng 0 a, rng a b, rng b n] lv (nums n) e 1], ?_, ?_⟩
    · show sqsU o F [rng 0 a, rng a b, rng b n] lv (nums n) e 3 = _
      have hu1 : sqsU o F [rng 0 a, rng a b, rng b n] lv (nums n) e 1 = [sqOf o F [rng 0 a, rng a b, rng b n] lv (nums n) e 0] := by
        rw [sqsU, show ([rng 0 a, rng a b, rng b n] : List (List Int)).length = 3 from rfl, c0n]
        rfl
      have hu2 : sqsU o F [rng 0 a, rng a b, rng b n] lv (nums n) e 2 = [sqOf o F [rng 0 a, rng a b, rng b n] lv (nums n) e 0, sqOf o F [rng 0 a, rng a b, rng b n] lv (nums n) e 1] := by
        rw [sqsU, show ([rng 0 a, rng a b, rng b n] : List (List Int)).length = 3 from rfl, c1n, hu1]
        rfl
      rw [sqsU, show ([rng 0 a, rng a b, rng b n] : List (List Int)).length = 3 from rfl, c2y, hu2, hsq0]
      rfl
    · intro s hs i hi
      simp at hs
      subst hs
      have : i ∈ rng a b := by
        have h2 : (sqOf o F [rng 0 a, rng a b, rng b n] lv (nums n) e 1).l = chn F [rng 0 a, rng a b, rng b n] 3 (1 : Nat) := rfl
        rw [h2, ch1] at hi
        exact hi
      exact rng_mem.1 this
  · obtain rfl : a = b := by omega
    have hgr : grp lv (nums n) n = [nums n] := by
      have := grp_one (lv := lv) (kept := nums n) (e := e) (fun i hi => by
        rw [nums_len] at hi
        rw [List.getD_eq_getElem?_getD, nums_get hi]
        show lvl lv (i : Int) = e
        rw [hl i hi, if_neg (by omega)]) n (by omega) (by rw [nums_len]; exact Nat.le_refl _)
      rw [this, List.take_of_length_le (by rw [nums_len]; exact Nat.le_refl _)]
    rw [hgr]
    have hlast : (nums n).getLast? = some ((n - 1 : Nat) : Int) := by
      rw [List.getLast?_eq_getElem?, nums_len, nums_get (by omega)]
    have hf : fol o M [nums n] 0 = -1 := fol_no (r := nums n) rfl hlast (.inl (by rw [Int.toNat_natCast]; exact hini _ (by omega) (by omega)))
    have hch : chn (fol o M [nums n]) [nums n] 1 (0 : Nat) = outs a a n := by
      rw [chn_step (r := nums n) rfl, outs_self (by omega)]
      simp [chn]
    have hcon : con (fol o M [nums n]) 1 0 = false := by
      rw [con_succ, con_zero, hf]
      rfl
    have hsq0 : sqOf o (fol o M [nums n]) [nums n] lv (nums n) e 0 = ⟨outs a a n, e, strS e, strS e⟩ := sqOf_at (by omega) hch (outs_head ha) (outs_last hb) hl0
    refine ⟨[], ?_, by simp⟩
    show sqsU o (fol o M [nums n]) [nums n] lv (nums n) e 1 = _
    rw [sqsU, show ([nums n] : List (List Int)).length = 1 from rfl, hcon, hsq0]
    rfl
end Bi
end Go.Ab
/- One isolate in a plain text: the levels outside do not depend on what is inside. -/
namespace Go.Ab
open Go.Proofs
namespace Bi
/-- White space, isolates. -/
def tn (x : Int) : Bool := x == 12 || x == 19 || x == 20 || x == 22
theorem tn_iff {x : Int} : tn x = true ↔ x = 12 ∨ x = 19 ∨ x = 20 ∨ x = 22 := by simp [tn, or_assoc]
theorem w1_tn : ∀ (s : List Int) (p : Int) (k : Nat) (x : Int), s[k]? = some x → tn x = true → (w1 p s)[k]? = some x
  | [], _, _, _, h, _ => by simp at h
  | a :: r, p, 0, x, h, ht => by
    simp at h
    subst h
    have := tn_iff.1 ht
    rw [w1, if_neg (by omega)]
    rfl
  | a :: r, p, k + 1, x, h, ht => by
    rw [w1]
    exact w1_tn r _ k x (by simpa using h) ht
theorem w2_tn : ∀ (s : List Int) (l : Int) (k : Nat) (x : Int), s[k]? = some x → tn x = true → (w2 l s)[k]? = some x
  | [], _, _, _, h, _ => by simp at h
  | a :: r, l, 0, x, h, ht => by
    simp at h
    subst h
    have := tn_iff.1 ht
    rw [w2, if_neg (by omega), if_neg (by omega)]
    rfl
  | a :: r, l, k + 1, x, h, ht => by
    have ih := fun l => w2_tn r l k x (by simpa using h) ht
    rw [w2]
    split
    · exact ih _
    · split
      · exact ih _
      · exact ih _
theorem w3_tn {s : List Int} {k : Nat} {x : Int} (h : s[k]? = some x) (ht : tn x = true) : (w3 s)[k]? = some x := by
  have := tn_iff.1 ht
  unfold w3
  rw [List.getElem?_map, h, Option.map_some, if_neg (by omega)]
theorem w4_tn : ∀ (s : List Int) (p : Int) (k : Nat) (x : Int), s[k]? = some x → tn x = true → (w4 p s)[k]? = some x
  | [], _, _, _, h, _ => by simp at h
  | a :: r, p, 0, x, h, ht => by
    simp at h
    subst h
    have := tn_iff.1 ht
    rw [w4]
    unfold w4c
    rw [if_neg (by omega)]
    rfl
  | a :: r, p, k + 1, x, h, ht => by
    rw [w4]
    exact w4_tn r _ k x (by simpa using h) ht
theorem w5_tn : ∀ (s : List Int) (p : Int) (n k : Nat) (x : Int), s[k]? = some x → tn x = true → (w5 p n s)[n + k]? = some x
  | [], _, _, _, _, h, _ => by simp at h
  | a :: r, p, n, 0, x, h, ht => by
    simp at h
    subst h
    have := tn_iff.1 ht
    rw [w5, if_neg (by omega), List.getElem?_append_right (by simp)]
    simp
  | a :: r, p, n, k + 1, x, h, ht => by
    have h' : r[k]? = some x := by simpa using h
    rw [w5]
    split
    · have := w5_tn r p (n + 1) k x h' ht
      rwa [show n + 1 + k = n + (k + 1) by omega] at this
    · have := w5_tn r a 0 k x h' ht
      rw [List.getElem?_append_right (by simp), List.length_replicate, show n + (k + 1) - n = k + 1 by omega, List.getElem?_cons_succ]
      simpa using this
theorem w6_tn : ∀ (s : List Int) (l : Int) (k : Nat) (x : Int), s[k]? = some x → tn x = true → (w6 l s)[k]? = some x
  | [], _, _, _, h, _ => by simp at h
  | a :: r, l, 0, x, h, ht => by
    simp at h
    subst h
    have := tn_iff.1 ht
    rw [w6, if_neg (by omega), if_neg (by omega), if_neg (by omega)]
    rfl
  | a :: r, l, k + 1, x, h, ht => by
    have ih := fun l => w6_tn r l k x (by simpa using h) ht
    rw [w6]
    split
    · exact ih _
    · split
      · exact ih _
      · split
        · exact ih _
        · exact ih _
theorem weak_tn {s : List Int} {st : Int} {k : Nat} {x : Int} (h : s[k]? = some x) (ht : tn x = true) : (weakS st s)[k]? = some x := by
  unfold weakS
  have h5 := w5_tn _ (-1) 0 k x (w4_tn _ (-1) k x (w3_tn (w2_tn _ st k x (w1_tn s st k x h ht) ht) ht) ht) ht
  rw [Nat.zero_add] at h5
  exact w6_tn _ st k x h5 ht
theorem setR_get : ∀ (n : Nat) (s : List Int) (k : Nat) (to : Int) (j : Nat), j < k ∨ k + n ≤ j → (setR s k to n)[j]? = s[j]?
  | 0, _, _, _, _, _ => rfl
  | n + 1, s, k, to, j, h => by
    rw [setR, setR_get n _ (k + 1) to j (by omega), List.getElem?_set_ne (by omega)]
theorem nsm_le {os : List Int} {A : Nat} (h : ∀ j, A ≤ j → os[j]? ≠ some 8) : ∀ (m k : Nat), A - k = m → k ≤ A → k + nsm os k ≤ A
  | 0, k, hm, hk => by
    rw [nsm_no (h k (by omega))]
    omega
  | m + 1, k, hm, hk => by
    by_cases h8 : os[k]? = some 8
    · have := nsm_le h m (k + 1) (by omega) (by omega)
      rw [nsm_yes h8]
      omega
    · rw [nsm_no h8]
      omega
theorem bset_get {os s : List Int} {A k j : Nat} {to : Int} (h : ∀ j, A ≤ j → os[j]? ≠ some 8) (hk : k < A) (hj : A ≤ j) : (bset os s k to)[j]? = s[j]? := by
  unfold bset
  have := nsm_le h _ (k + 1) rfl (by omega)
  rw [setR_get _ _ _ _ _ (by omega), List.getElem?_set_ne (by omega)]
theorem brk1_get {d st : Int} {os s : List Int} {p : Nat × Nat} {A j : Nat} (h : ∀ j, A ≤ j → os[j]? ≠ some 8) (h1 : p.1 < A) (h2 : p.2 < A) (hj : A ≤ j) : (brk1 d st os s p)[j]? = s[j]? := by
  unfold brk1
  split
  · rw [bset_get h h2 hj, bset_get h h1 hj]
  · split
    · rw [bset_get h h2 hj, bset_get h h1 hj]
    · rfl
theorem brks_get {d st : Int} {os : List Int} {A j : Nat} (h : ∀ j, A ≤ j → os[j]? ≠ some 8) (hj : A ≤ j) : ∀ (ps : List (Nat × Nat)) (s : List Int), (∀ p ∈ ps, p.1 < A ∧ p.2 < A) → (brks d st os ps s)[j]? = s[j]?
  | [], _, _ => rfl
  | p :: ps, s, hp => by
    have h1 := hp p (List.mem_cons_self ..)
    show (brks d st os ps (brk1 d st os s p))[j]? = _
    rw [brks_get h hj ps _ fun q hq => hp q (List.mem_cons_of_mem _ hq), brk1_get h h1.1 h1.2 hj]
/-- Pairs stand at places of class ON. -/
theorem pgo_cls {L : List (Int × Int)} : ∀ (l : List (Int × Int)) (k : Nat) (p : PS) (out : List (Nat × Nat)), l = L.drop k → (∀ a ∈ p.st, ∃ r, L[a.2]? = some (13, r)) → (∀ q ∈ p.out, (∃ r, L[q.1]? = some (13, r)) ∧ ∃ r, L[q.2]? = some (13, r)) → pgo k l p = some out → ∀ q ∈ out, (∃ r, L[q.1]? = some (13, r)) ∧ ∃ r, L[q.2]? = some (13, r)
  | [], k, p, out, _, _, ho, e => by
    simp only [pgo, Option.some.injEq] at e
    subst e
    exact ho
  | (x, r) :: l, k, p, out, hl, hs, ho, e => by
    have hk : L[k]? = some (x, r) := by
      have := List.getElem?_drop (xs := L) (i := k) (j := 0)
      rw [← hl] at this
      simpa using this.symm
    have hl2 : l = L.drop (k + 1) := by
      have : (L.drop k).drop 1 = l := by rw [← hl]; rfl
      rw [← this, List.drop_drop]
    rw [pgo] at e
    split at e
    · exact pgo_cls l (k + 1) p out hl2 hs ho e
    · rename_i hx
      have hx13 : x = 13 := by omega
      subst hx13
      split at e
      · split at e
        · cases e
        · refine pgo_cls l (k + 1) ⟨((brS r).2, k) :: p.st, p.out⟩ out hl2 ?_ ho e
          intro a ha
          rcases List.mem_cons.1 ha with rfl | ha
          · exact ⟨r, hk⟩
          · exact hs a ha
      · split at e
        · split at e
          · rename_i a t hf
            obtain ⟨⟨c, h1⟩, h2, h3⟩ := pfind_mem hf
            refine pgo_cls l (k + 1) ⟨t, p.out ++ [(a, k)]⟩ out hl2 (fun b hb => hs b (h2 b hb)) ?_ e
            intro q hq
            rcases List.mem_append.1 hq with hq | hq
            · exact ho q hq
            · simp at hq
              subst hq
              exact ⟨hs _ h1, r, hk⟩
          · exact pgo_cls l (k + 1) p out hl2 hs ho e
        · exact pgo_cls l (k + 1) p out hl2 hs ho e
theorem prsS_cls {L : List (Int × Int)} (hl : L.length ≤ 2000) : ∀ q ∈ prsS L, (∃ r, L[q.1]? = some (13, r)) ∧ ∃ r, L[q.2]? = some (13, r) := by
  unfold prsS
  cases hg : pgo 0 L ⟨[], []⟩ with
  | none => simp
  | some out =>
    obtain ⟨p', h1, h2⟩ := pgo_pok L 0 _ out POK.zero hg
    subst h2
    have hsm : Sm p'.out := fun x hx => by have := h1.ord x hx; omega
    intro q hq
    exact pgo_cls L 0 _ _ (by simp) (by simp) (by simp) hg q ((srtS_perm hsm).mem_iff.1 hq)
theorem neu_tail (d : Int) : ∀ (s : List Int) (b : Int) (n k : Nat), k < s.length → (∀ j x, k ≤ j → s[j]? = some x → neutB x = true) → (neuS d d b n s)[n + k]? = some d
  | [], _, _, _, h, _ => by simp at h
  | a :: r, b, n, 0, _, h => by
    have hall : ∀ x ∈ (a :: r), neutB x = true := by
      intro x hx
      obtain ⟨j, hj⟩ := List.mem_iff_getElem?.1 hx
      exact h j x (by omega) hj
    have := neu_run d d b (a :: r) n [] hall
    rw [List.append_nil] at this
    rw [this, neuS, List.getElem?_replicate]
    rw [if_pos (by simp)]
    congr 1
    split <;> simp_all
  | a :: r, b, n, k + 1, hk, h => by
    have hk' : k < r.length := by simpa using hk
    have h' : ∀ j x, k ≤ j → r[j]? = some x → neutB x = true := fun j x hj hx => h (j + 1) x (by omega) (by simpa using hx)
    rw [neuS]
    split
    · have := neu_tail d r b (n + 1) k hk' h'
      rwa [show n + 1 + k = n + (k + 1) by omega] at this
    · have := neu_tail d r (dirS a) 0 k hk' h'
      rw [List.getElem?_append_right (by simp), List.length_replicate, show n + (k + 1) - n = k + 1 by omega, List.getElem?_cons_succ]
      simpa using this
/-- What the rules make of the sequence outside: its levels. -/
noncomputable def outW (e : Int) (OC OT : List Int) : List Int :=
  impL e (OC.map fun _ => e) (neuS (strS e) (strS e) (strS e) 0 (brks (strS e) (strS e) OC (prsS ((weakS (strS e) OC).zip OT)) (weakS (strS e) OC)))
theorem brks_len (d st : Int) (os : List Int) : ∀ (ps : List (Nat × Nat)) (s : List Int), (brks d st os ps s).length = s.length
  | [], _ => rfl
  | p :: ps, s => by
    show (brks d st os ps (brk1 d st os s p)).length = _
    rw [brks_len d st os ps, brk1_len]
theorem outW_len (e : Int) (OC OT : List Int) : (outW e OC OT).length = OC.length := by
  unfold outW
  rw [impL_len _ _ _ (by simp [neu_len, brks_len, weak_len])]
  simp
/-- Behind the last rune that is no blank the level is e. -/
theorem outW_tail {e : Int} (he : e = 0 ∨ e = 1) {OC OT : List Int} (hl : OC.length ≤ 2000) {k : Nat} (hk : k < OC.length) (ht : ∀ j x, k ≤ j → OC[j]? = some x → tn x = true) : (outW e OC OT)[k]? = some e := by
  have hw : ∀ j x, k ≤ j → OC[j]? = some x → (weakS (strS e) OC)[j]? = some x := fun j x hj hx => weak_tn hx (ht j x hj hx)
  have h8 : ∀ j, k ≤ j → OC[j]? ≠ some 8 := by
    intro j hj hx
    have := tn_iff.1 (ht j 8 hj hx)
    omega
  have hp : ∀ p ∈ prsS ((weakS (strS e) OC).zip OT), p.1 < k ∧ p.2 < k := by
    intro p hp
    have h13 : ∀ q r, ((weakS (strS e) OC).zip OT)[q]? = some (13, r) → q < k := by
      intro q r hq
      have hq2 : (weakS (strS e) OC)[q]? = some 13 := by
        rw [List.getElem?_zip_eq_some] at hq
        exact hq.1
      rcases Nat.lt_or_ge q k with h1 | h1
      · exact h1
      · have hql := (List.getElem?_eq_some_iff.1 hq2).1
        rw [weak_len] at hql
        have hx : OC[q]? = some OC[q] := List.getElem?_eq_getElem hql
        have h2 := hw q _ h1 hx
        rw [hq2] at h2
        have h3 := tn_iff.1 (ht q _ h1 hx)
        have h4 : (13 : Int) = OC[q] := by simpa using h2
        omega
    obtain ⟨⟨r1, g1⟩, ⟨r2, g2⟩⟩ := prsS_cls (by simp [weak_len]; omega) p hp
    exact ⟨h13 _ _ g1, h13 _ _ g2⟩
  have hb : ∀ j x, k ≤ j → OC[j]? = some x → (brks (strS e) (strS e) OC (prsS ((weakS (strS e) OC).zip OT)) (weakS (strS e) OC))[j]? = some x := fun j x hj hx => by
    rw [brks_get h8 hj _ _ hp]
    exact hw j x hj hx
  have hbl : (brks (strS e) (strS e) OC (prsS ((weakS (strS e) OC).zip OT)) (weakS (strS e) OC)).length = OC.length := by rw [brks_len, weak_len]
  have hn := neu_tail (strS e) (brks (strS e) (strS e) OC (prsS ((weakS (strS e) OC).zip OT)) (weakS (strS e) OC)) (strS e) 0 k (by omega) (by
    intro j x hj hx
    have hjl := (List.getElem?_eq_some_iff.1 hx).1
    have hx2 : OC[j]? = some OC[j] := List.getElem?_eq_getElem (by omega)
    have h3 := hb j _ hj hx2
    rw [hx] at h3
    have h5 : x = OC[j] := by simpa using h3
    have h4 := tn_iff.1 (ht j _ hj hx2)
    rw [← h5] at h4
    rcases h4 with rfl | rfl | rfl | rfl <;> rfl)
  rw [Nat.zero_add] at hn
  unfold outW
  rw [impL_get (a := e) (by rw [List.getElem?_map, List.getElem?_eq_getElem hk]; rfl) hn]
  rcases he with rfl | rfl <;> rfl
theorem trl_drop (e : Int) : ∀ (o y : List Int) (k : Nat), o.length = y.length → (trl e o y).2.drop k = (trl e (o.drop k) (y.drop k)).2
  | [], [], k, _ => by simp [trl]
  | x :: o, a :: y, 0, _ => rfl
  | x :: o, a :: y, k + 1, h => by
    simp at h
    have ih := trl_drop e o y k h
    simp only [trl, List.drop_succ_cons]
    exact ih
  | [], _ :: _, _, h => by simp at h
  | _ :: _, [], _, h => by simp at h
theorem trl_at {e : Int} {o y : List Int} {k : Nat} {a : Int} (h : o.length = y.length) (ha : y[k]? = some a) : (trl e o y).2[k]? = some (if (trl e (o.drop k) (y.drop k)).1 then e else a) := by
  have hk := (List.getElem?_eq_some_iff.1 ha).1
  have h1 := trl_drop e o y k h
  have h2 : (trl e o y).2[k]? = ((trl e o y).2.drop k)[0]? := by rw [List.getElem?_drop]; rfl
  rw [h2, h1, List.drop_eq_getElem_cons (by omega), List.drop_eq_getElem_cons hk]
  have h3 : y[k] = a := (List.getElem?_eq_some_iff.1 ha).2
  simp only [trl, List.getElem?_cons_zero, h3]
theorem trl_flag {e : Int} : ∀ {o y : List Int}, o.length = y.length → (∀ x ∈ o, x ≠ 10 ∧ x ≠ 11) → (trl e o y).1 = true → ∀ x ∈ o, blankB x = true
  | [], _, _, _, _, x, hx => by simp at hx
  | _ :: _, [], h, _, _, _, _ => by simp at h
  | z :: o, a :: y, h, hn, hf, x, hx => by
    simp at h
    have hz := hn z (List.mem_cons_self ..)
    simp only [trl, trB] at hf
    rw [if_neg (by omega)] at hf
    split at hf
    · rename_i hb
      rcases List.mem_cons.1 hx with rfl | hx
      · exact hb
      · exact trl_flag h (fun w hw => hn w (List.mem_cons_of_mem _ hw)) hf x hx
    · cases hf
end Bi
end Go.Ab
/- One isolate in a plain text: the levels outside. -/
namespace Go.Ab
open Go.Proofs
namespace Bi
/-- The runes of plain texts. -/
def alpI : List Int := [97, 1488, 1575, 49, 1633, 32, 40, 41, 46, 43, 36, 769]
theorem alpI_cls : ∀ x ∈ alpI, pcl (bidi x) = true := by
  have h : alpI.all (fun x => pcl (bidi x)) = true := by kernel_rfl
  exact fun x hx => List.all_eq_true.1 h x hx
theorem bidi_lri : bidi 8294 = 19 := by kernel_rfl
theorem bidi_rli : bidi 8295 = 20 := by kernel_rfl
theorem bidi_pdi : bidi 8297 = 22 := by kernel_rfl
theorem iso_lev {x y : List Int} {op base : Int} (hb : base = 0 ∨ base = 1) (hop : op = 8294 ∨ op = 8295) (hx : ∀ z ∈ x, z ∈ alpI) (hy : ∀ z ∈ y, z ∈ alpI) : ∃ G1 G2 : Nat → Int, ∀ (p r : List Int), (∀ z ∈ p, z ∈ alpI) → x.length + p.length + y.length ≤ 1000 → LevR (x ++ op :: (p ++ 8297 :: y)) base r →
    r.length = x.length + p.length + y.length + 2 ∧ (∀ i, i ≤ x.length → r[i]? = some (G1 i)) ∧ (∀ i, i ≤ y.length → r[x.length + p.length + y.length + 1 - i]? = some (G2 i)) := by
  obtain ⟨c0, hc0⟩ : ∃ c0, c0 = bidi op := ⟨_, rfl⟩
  have hc : c0 = 19 ∨ c0 = 20 := by
    rw [hc0]
    rcases hop with rfl | rfl
    · exact .inl bidi_lri
    · exact .inr bidi_rli
  have hpc : ∀ l : List Int, (∀ z ∈ l, z ∈ alpI) → ∀ z ∈ l.map bidi, pcl z = true := by
    intro l hl z hz
    obtain ⟨w, hw, rfl⟩ := List.mem_map.1 hz
    exact alpI_cls w (hl w hw)
  have hX := hpc x hx
  have hY := hpc y hy
  obtain ⟨OC, hOC⟩ : ∃ OC, OC = (x.map bidi ++ [c0]) ++ 22 :: y.map bidi := ⟨_, rfl⟩
  obtain ⟨OT, hOT⟩ : ∃ OT, OT = (x ++ [op]) ++ 8297 :: y := ⟨_, rfl⟩
  obtain ⟨W, hW⟩ : ∃ W, W = outW base OC OT := ⟨_, rfl⟩
  refine ⟨fun i => W.getD i 0, fun i => ((trl base (22 :: y.map bidi) (W.drop (x.length + 1))).2).getD (y.length - i) 0, fun p r hp hlen h => ?_⟩
  have hP := hpc p hp
  obtain ⟨M, c', y', hM, hst, hr⟩ := h
  have hbe : baseS bidi (x ++ op :: (p ++ 8297 :: y)) base = base := by
    unfold baseS
    rw [if_pos hb]
  rw [hbe] at hst hr
  have hto : (x ++ op :: (p ++ 8297 :: y)).map bidi = x.map bidi ++ c0 :: (p.map bidi ++ 22 :: y.map bidi) := by simp [hc0, bidi_pdi]
  have hb01 : 0 ≤ base ∧ base ≤ 1 := by omega
  rw [hto, expl_iso hb01 hc hX hP hY] at hst
  rw [hto] at hM hr
  have hOCl : OC.length = x.length + y.length + 2 := by rw [hOC]; simp; omega
  have hWl : W.length = x.length + y.length + 2 := by rw [hW, outW_len, hOCl]
  have htl : (x ++ op :: (p ++ 8297 :: y)).length = x.length + p.length + y.length + 2 := by simp; omega
  obtain ⟨a, ha⟩ : ∃ a, a = x.length + 1 := ⟨_, rfl⟩
  obtain ⟨b, hbd⟩ : ∃ b, b = a + p.length := ⟨_, rfl⟩
  obtain ⟨n, hn⟩ : ∃ n, n = x.length + p.length + y.length + 2 := ⟨_, rfl⟩
  obtain ⟨t, ht⟩ : ∃ t, t = x ++ op :: (p ++ 8297 :: y) := ⟨_, rfl⟩
  obtain ⟨o, ho⟩ : ∃ o, o = x.map bidi ++ c0 :: (p.map bidi ++ 22 :: y.map bidi) := ⟨_, rfl⟩
  have hol : o.length = n := by rw [ho]; simp; omega
  have hoS : o = (x.map bidi ++ [c0]) ++ (p.map bidi ++ 22 :: y.map bidi) := by rw [ho]; simp
  have htS : t = (x ++ [op]) ++ (p ++ 8297 :: y) := by rw [ht]; simp
  have e2 : ((x.map bidi).map (fun z => (base, z)) ++ (base, c0) :: ((p.map bidi).map (fun z => (inl base c0, z)) ++ (base, 22) :: (y.map bidi).map fun z => (base, z))).map (·.2) = o := by
    rw [ho]
    simp [List.map_map, Function.comp_def]
  obtain ⟨lv, hlv⟩ : ∃ lv, lv = ((x.map bidi ++ [c0]).map fun _ => base) ++ ((p.map bidi).map (fun _ => inl base c0) ++ (22 :: y.map bidi).map fun _ => base) := ⟨_, rfl⟩
  have e1 : ((x.map bidi).map (fun z => (base, z)) ++ (base, c0) :: ((p.map bidi).map (fun z => (inl base c0, z)) ++ (base, 22) :: (y.map bidi).map fun z => (base, z))).map (·.1) = lv := by
    rw [hlv]
    simp [List.map_map, Function.comp_def]
  rw [e1, e2, ← ht, ← ho] at hst
  rw [← ho] at hM hr
  rw [← ht] at htl
  have hlvl : lv.length = n := by rw [hlv]; simp; omega
  have hpo : ∀ z ∈ o, (pcl z = true ∨ z = c0 ∨ z = 22) := by
    intro z hz
    rw [ho] at hz
    rcases List.mem_append.1 hz with h1 | h1
    · exact .inl (hX z h1)
    · rcases List.mem_cons.1 h1 with h1 | h1
      · exact .inr (.inl h1)
      · rcases List.mem_append.1 h1 with h1 | h1
        · exact .inl (hP z h1)
        · rcases List.mem_cons.1 h1 with h1 | h1
          · exact .inr (.inr h1)
          · exact .inl (hY z h1)
  have hgone : ∀ z ∈ o, gone z = false := by
    intro z hz
    rcases hpo z hz with h1 | h1 | h1
    · exact (pcl_no h1).1
    · rcases hc with h2 | h2 <;> rw [h1, h2] <;> rfl
    · rw [h1]; rfl
  have hn1011 : ∀ z ∈ o, z ≠ 10 ∧ z ≠ 11 := by
    intro z hz
    rcases hpo z hz with h1 | h1 | h1
    · exact ⟨(pcl_no h1).2.2.2.1, (pcl_no h1).2.2.2.2.1⟩
    · omega
    · omega
  have hoa : o[a - 1]? = some c0 := by rw [ho, ha, List.getElem?_append_right (by simp)]; simp
  have hic : ini c0 = true := by rcases hc with h2 | h2 <;> rw [h2] <;> rfl
  have hmt : mt o (a - 1) = (b : Nat) := by
    have hdr : o.drop (a - 1 + 1) = p.map bidi ++ 22 :: y.map bidi := by
      rw [hoS, show a - 1 + 1 = (x.map bidi ++ [c0]).length by simp; omega, List.drop_left]
    unfold mt
    rw [hdr, mscan_pcl _ _ hP]
    simp only [List.length_map]
    omega
  have hin : ∀ (k : Nat) (z : Int), o[k]? = some z → k + 1 ≠ a → ini z = false := by
    intro k z hk hne
    rw [ho] at hk
    by_cases h1 : k < (x.map bidi).length
    · rw [List.getElem?_append_left h1] at hk
      exact (pcl_no (hX z (List.mem_of_getElem? hk))).2.1
    · rw [List.getElem?_append_right (by omega)] at hk
      obtain ⟨q, hq⟩ : ∃ q, k - (x.map bidi).length = q + 1 := ⟨k - (x.map bidi).length - 1, by simp at h1 ⊢; omega⟩
      rw [hq, List.getElem?_cons_succ] at hk
      have hm := List.mem_of_getElem? hk
      rcases List.mem_append.1 hm with h2 | h2
      · exact (pcl_no (hP z h2)).2.1
      · rcases List.mem_cons.1 h2 with h2 | h2
        · rw [h2]; rfl
        · exact (pcl_no (hY z h2)).2.1
  have hl : ∀ k : Nat, k < n → lvl lv (k : Int) = if a ≤ k ∧ k < b then inl base c0 else base := by
    intro k hk
    have hg : lv[k]? = some (if a ≤ k ∧ k < b then inl base c0 else base) := by
      rw [hlv]
      by_cases h1 : k < a
      · rw [if_neg (by omega), List.getElem?_append_left (by simp; omega), List.getElem?_map, List.getElem?_eq_getElem (by simp; omega)]
        rfl
      · rw [List.getElem?_append_right (by simp; omega)]
        simp only [List.length_map, List.length_append, List.length_cons, List.length_nil]
        by_cases h2 : k < b
        · rw [if_pos (by omega), List.getElem?_append_left (by simp; omega), List.getElem?_map, List.getElem?_eq_getElem (by simp; omega)]
          rfl
        · rw [if_neg (by omega), List.getElem?_append_right (by simp; omega), List.getElem?_map, List.getElem?_eq_getElem (by simp; omega)]
          rfl
    unfold lvl
    rw [Int.toNat_natCast, List.getD_eq_getElem?_getD, hg]
    rfl
  have hv := (inl_ne (c0 := c0) hb01).1
  rw [htl] at hst
  rw [show x.length + p.length + y.length + 2 = n from hn.symm] at hst
  obtain ⟨ss, hss, hssl⟩ := seqs_iso (M := M) hM hol hv (by omega) (by omega) (by omega) hgone ⟨c0, hoa, hic⟩ hmt hin hl
  rw [hss] at hst
  obtain ⟨c5, y5, ⟨c1, c2, w1, w2, w3, w4⟩, hst2⟩ := hst
  simp only at w1 w2 w3 w4
  have hA : (x.map bidi ++ [c0]).length = a := by simp; omega
  have hAb : (x.map bidi ++ [c0]).length + (p.map bidi).length = b := by simp; omega
  have m1 : (outs a b n).map (lvl o) = OC := by rw [hOC]; exact outs_map hoS hA hAb hol
  have m2 : (outs a b n).map (lvl t) = OT := by rw [hOT]; exact outs_map htS (by simp; omega) (by simp; omega) (by omega)
  have m3 : (outs a b n).map (lvl lv) = OC.map fun _ => base := by
    rw [outs_map hlv (by simp; omega) (by simp; omega) hlvl, hOC]
    simp
  have hor : ∀ i ∈ outs a b n, 0 ≤ i ∧ i < (n : Int) := by
    intro i hi
    unfold outs at hi
    rcases List.mem_append.1 hi with h1 | h1
    · have := nums_mem.1 h1; omega
    · have := rng_mem.1 h1; omega
  rw [m1] at w1
  have u1 := WB_map w1 (fun i hi => by rw [hol]; exact hor i hi)
  rw [m1, m2, u1] at w2
  have u2 := WB_map w2 (fun i hi => by rw [w1.len, hol]; exact hor i hi)
  rw [u2] at w3
  have u3 := WB_map w3 (fun i hi => by rw [w2.len, w1.len, hol]; exact hor i hi)
  rw [m3, u3] at w4
  have hWe : impL base (OC.map fun _ => base) (neuS (strS base) (strS base) (strS base) 0 (brks (strS base) (strS base) OC (prsS ((weakS (strS base) OC).zip OT)) (weakS (strS base) OC))) = W := by rw [hW]; rfl
  rw [hWe] at w4
  have hy5 : y5.length = n := w4.len.trans hlvl
  obtain ⟨l1, l2⟩ := Stps.len hst2
  have hy'l : y'.length = n := l2.trans hy5
  have hoth : ∀ j : Nat, (j < a ∨ b ≤ j) → y'[j]? = y5[j]? := fun j hj => (Stps.oth hst2 fun s hs hm => by have := hssl s hs _ hm; omega).2
  have g1 : ∀ j, j < a → y'[j]? = W[j]? := by
    intro j hj
    have := w4.at_ j j (by unfold outs; rw [List.getElem?_append_left (by rw [nums_len]; exact hj), nums_get hj])
    rw [Int.toNat_natCast] at this
    rw [hoth j (.inl hj), this]
  have g2 : ∀ j, b + j < n → y'[b + j]? = W[a + j]? := by
    intro j hj
    have := w4.at_ (a + j) ((b + j : Nat) : Int) (by unfold outs; rw [List.getElem?_append_right (by rw [nums_len]; omega), nums_len, show a + j - a = j by omega, rng_get hj])
    rw [Int.toNat_natCast] at this
    rw [hoth (b + j) (.inr (by omega)), this]
  rw [remL_id o y' base (by omega) hgone] at hr
  subst hr
  have htrl : (trl base o y').2.length = n := by rw [trl_len _ _ _ (by omega), hy'l]
  refine ⟨by omega, fun i hi => ?_, fun i hi => ?_⟩
  · have hWi : W[i]? = some (W.getD i 0) := by rw [List.getD_eq_getElem?_getD, List.getElem?_eq_getElem (by omega)]; rfl
    rw [trl_at (by omega) ((g1 i (by omega)).trans hWi)]
    by_cases hf : (trl base (o.drop i) (y'.drop i)).1 = true
    · rw [if_pos hf]
      have hbl := trl_flag (by simp; omega) (fun z hz => hn1011 z (List.mem_of_mem_drop hz)) hf
      have hte := outW_tail hb (OC := OC) (OT := OT) (by omega) (k := i) (by omega) (fun j z hj hz => by
        have hmo : z ∈ o.drop i := by
          rw [hOC] at hz
          rcases Nat.lt_or_ge j a with h1 | h1
          · rw [List.getElem?_append_left (by rw [hA]; exact h1)] at hz
            have : o[j]? = some z := by rw [hoS, List.getElem?_append_left (by rw [hA]; exact h1)]; exact hz
            have h2 : (o.drop i)[j - i]? = some z := by rw [List.getElem?_drop, show i + (j - i) = j by omega]; exact this
            exact List.mem_of_getElem? h2
          · rw [List.getElem?_append_right (by rw [hA]; exact h1), hA] at hz
            have : o[b + (j - a)]? = some z := by
              rw [hoS, List.getElem?_append_right (by rw [hA]; omega), hA, List.getElem?_append_right (by simp; omega), show b + (j - a) - a - (p.map bidi).length = j - a by simp; omega]
              exact hz
            have h2 : (o.drop i)[b + (j - a) - i]? = some z := by rw [List.getElem?_drop, show i + (b + (j - a) - i) = b + (j - a) by omega]; exact this
            exact List.mem_of_getElem? h2
        have hz1 := hbl z hmo
        rcases hpo z (List.mem_of_mem_drop hmo) with h1 | h1 | h1
        · rcases pcl_iff.1 h1 with rfl | rfl | rfl | rfl | rfl | rfl | rfl | rfl | rfl | rfl | rfl <;> first | rfl | exact absurd hz1 (by decide)
        · rcases hc with h2 | h2 <;> rw [h1, h2] <;> rfl
        · rw [h1]; rfl)
      rw [← hW, hWi] at hte
      exact hte.symm
    · rw [if_neg hf]
  · have hd1 : o.drop b = 22 :: y.map bidi := by
      rw [hoS, ← List.append_assoc, show b = ((x.map bidi ++ [c0]) ++ p.map bidi).length by rw [List.length_append]; omega, List.drop_left]
    have hd2 : y'.drop b = W.drop a := by
      apply List.ext_getElem?
      intro j
      rw [List.getElem?_drop, List.getElem?_drop]
      rcases Nat.lt_or_ge (b + j) n with h1 | h1
      · exact g2 j h1
      · rw [List.getElem?_eq_none (by omega), List.getElem?_eq_none (by omega)]
    have h3 := trl_drop base o y' b (by omega)
    rw [hd1, hd2, ha] at h3
    rw [← h3]
    show _ = some (((trl base o y').2.drop b).getD (y.length - i) 0)
    rw [List.getD_eq_getElem?_getD, List.getElem?_drop]
    have h4 : b + (y.length - i) = x.length + p.length + y.length + 1 - i := by omega
    rw [h4, List.getElem?_eq_getElem (by omega)]
    rfl
end Bi
end Go.Ab
