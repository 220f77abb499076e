/- Several texts of this proof in one. -/
import Derived.Test.YteogajcegmejgaaGreatPiPerm
import Derived.Test.YteogajcegmejgaaGreatPiRk
namespace Go.Ab
open Go.Proofs
namespace Bi
def inl (e c0 : Int) : Int := nxt e (decide (c0 = 20))
def rng (i k : Nat) : List Int := (nums k).drop i
theorem WB_map {c l s c' : List Int} (h : WB c l s c') (hl : ∀ i ∈ l, 0 ≤ i ∧ i < c.length) : l.map (lvl c') = s := by
  apply List.ext_getElem?
  intro k
  cases hk : l[k]? with
  | none =>
    have := List.getElem?_eq_none_iff.1 hk
    rw [List.getElem?_eq_none (by simpa using this), List.getElem?_eq_none (by rw [h.sl]; exact this)]
  | some i =>
    have h1 := h.at_ k i hk
    have h2 := hl i (List.mem_of_getElem? hk)
    rw [List.getElem?_map, hk, ← h1]
    simp only [Option.map_some, lvl, List.getD_eq_getElem?_getD]
    rw [List.getElem?_eq_getElem (by rw [h.len]; omega)]
    rfl
end Bi
end Go.Ab
namespace Go.Ab
open Go.Proofs
namespace Bi
theorem con_yes {F : Nat → Int} {N k j : Nat} (hj : j < N) (h : F j = (k : Int)) : con F N k = true := by
  unfold con
  rw [List.any_eq_true]
  exact ⟨j, by simpa using hj, by simpa using h⟩
end Bi
end Go.Ab
namespace Go.Ab
open Go.Proofs
namespace Bi
end Bi
end Go.Ab
namespace Go.Ab.Bi
open Go.Proofs
noncomputable def rseq (t o : List Int) (s : Sq) (c : List Int) : List Int :=
  neuF (strS s.lev) s.eos s.sos 0 (brks (strS s.lev) s.sos (s.l.map (lvl o)) (prsS ((rweak s.sos (s.l.map (lvl o)) (s.l.map (lvl c))).zip (s.l.map (lvl t)))) (rweak s.sos (s.l.map (lvl o)) (s.l.map (lvl c))))
def RStps (t o : List Int) : List Sq → List Int → List Int → Prop
  | [], c, c' => c' = c
  | s :: r, c, c' => ∃ c1, WB c s.l (rseq t o s c) c1 ∧ RStps t o r c1 c'
theorem RStps.snoc {t o : List Int} : ∀ {l : List Sq} {s : Sq} {c c1 c2 : List Int}, RStps t o l c c1 → WB c1 s.l (rseq t o s c1) c2 → RStps t o (l ++ [s]) c c2
  | [], _, _, _, _, rfl, h => ⟨_, h, rfl⟩
  | _ :: _, _, _, _, _, ⟨a, h1, h2⟩, h => ⟨a, h1, h2.snoc h⟩
theorem lvl_of {c : List Int} {i : Nat} (h : i < c.length) : c[i]? = some (lvl c (i : Int)) := by
  rw [lvl, List.getD_eq_getElem?_getD, Int.toNat_natCast, List.getElem?_eq_getElem h]
  rfl
structure SqH (t c y : List Int) (n : Nat) (s : Sq) : Prop where
  pl : Pl n s.l
  len : s.l.length ≤ 2000
  sos : s.sos = 0 ∨ s.sos = 1
  cls : ∀ i ∈ s.l, lvl c i = lvl (t.map bidi) i ∨ strS s.lev = lvl c i
  lev : ∀ i ∈ s.l, lvl y i = s.lev
  stay : ∀ i ∈ s.l, gone (lvl (t.map bidi) i) = false
def raiS (lv c : Int) : Int := if lv % 2 = 0 ∧ c = 1 then lv + 1 else if lv % 2 = 0 ∧ (c = 6 ∨ c = 3) then lv + 2 else if lv % 2 = 1 ∧ c ≠ 1 then lv + 1 else lv
def rtr2 (o : List Int) (e : Int) : Nat → List Int → List Int
  | 0, lv => lv
  | k + 1, lv => if o.getD k 0 = 11 ∨ o.getD k 0 = 10 then rtrl o e k ((rtr2 o e k lv).set k e) else rtr2 o e k lv
theorem rtr2_len (o : List Int) (e : Int) (lv : List Int) : ∀ k, (rtr2 o e k lv).length = lv.length
  | 0 => rfl
  | k + 1 => by
    unfold rtr2
    split
    · rw [rtrl_len, List.length_set, rtr2_len o e lv k]
    · exact rtr2_len o e lv k
def blk (o : List Int) (i k : Nat) : Prop := ∀ j, i ≤ j → j < k → blankB (o.getD j 0) = true
def Mc (o : List Int) : List Int := (List.range o.length).map (mt o)
theorem Mc_ok (o : List Int) : MOK o (Mc o) := ⟨by simp [Mc], fun i x hx _ => by
  have := (List.getElem?_eq_some_iff.1 hx).1
  simp [Mc, this]⟩
def RLevR (t : List Int) (base : Int) (r : List Int) : Prop :=
  ∃ c', RStps t (t.map bidi) (seqsS (t.map bidi) (Mc (t.map bidi)) ((expl (baseS bidi t base) (t.map bidi)).map (·.1)) t.length (baseS bidi t base)) ((expl (baseS bidi t base) (t.map bidi)).map (·.2)) c' ∧
    r = rtr2 (t.map bidi) (baseS bidi t base) t.length (rtrl (t.map bidi) (baseS bidi t base) t.length (remL (baseS bidi t base) (t.map bidi) (List.zipWith raiS ((expl (baseS bidi t base) (t.map bidi)).map (·.1)) c')))
end Go.Ab.Bi
namespace Go.Ab.Bi
theorem grp_pre (lv kept X : List Int) : ∀ k, k ≤ kept.length → grp lv (kept ++ X) k = grp lv kept k
  | 0, _ => rfl
  | k + 1, h => by
    have IH := grp_pre lv kept X k (by omega)
    have g : ∀ j, j < kept.length → (kept ++ X).getD j 0 = kept.getD j 0 := fun j hj => by
      rw [List.getD_eq_getElem?_getD, List.getElem?_append_left hj, List.getD_eq_getElem?_getD]
    rw [show grp lv (kept ++ X) (k + 1) = if k = 0 ∨ lvl lv ((kept ++ X).getD k 0) ≠ lvl lv ((kept ++ X).getD (k - 1) 0) then grp lv (kept ++ X) k ++ [[(kept ++ X).getD k 0]] else snocL (grp lv (kept ++ X) k) ((kept ++ X).getD k 0) from rfl,
      show grp lv kept (k + 1) = if k = 0 ∨ lvl lv (kept.getD k 0) ≠ lvl lv (kept.getD (k - 1) 0) then grp lv kept k ++ [[kept.getD k 0]] else snocL (grp lv kept k) (kept.getD k 0) from rfl,
      IH, g k (by omega), g (k - 1) (by omega)]
theorem grp_more (lv kept : List Int) (x : Int) : grp lv (kept ++ [x]) (kept ++ [x]).length = if kept = [] then [[x]] else if lvl lv (kept.getLastD 0) = lvl lv x then snocL (grp lv kept kept.length) x else grp lv kept kept.length ++ [[x]] := by
  rw [List.length_append, List.length_singleton]
  rw [show grp lv (kept ++ [x]) (kept.length + 1) = if kept.length = 0 ∨ lvl lv ((kept ++ [x]).getD kept.length 0) ≠ lvl lv ((kept ++ [x]).getD (kept.length - 1) 0) then grp lv (kept ++ [x]) kept.length ++ [[(kept ++ [x]).getD kept.length 0]] else snocL (grp lv (kept ++ [x]) kept.length) ((kept ++ [x]).getD kept.length 0) from rfl]
  have e1 : (kept ++ [x]).getD kept.length 0 = x := by simp [List.getD_eq_getElem?_getD]
  rw [e1, grp_pre lv kept [x] kept.length (Nat.le_refl _)]
  by_cases hk : kept = []
  · subst hk
    simp [grp]
  · have hl := List.length_pos_iff.2 hk
    have e2 : (kept ++ [x]).getD (kept.length - 1) 0 = kept.getLastD 0 := by
      rw [List.getD_eq_getElem?_getD, List.getElem?_append_left (by omega), lastD_of hk]
      rfl
    rw [e2, if_neg hk]
    by_cases hc : lvl lv (kept.getLastD 0) = lvl lv x
    · rw [if_pos hc, if_neg (by rintro (h | h); omega; exact h hc.symm)]
    · rw [if_neg hc, if_pos (.inr fun h => hc h.symm)]
theorem grp_top {lv kept : List Int} (hk : kept ≠ []) : ∃ a r x, grp lv kept kept.length = a ++ [r] ∧ r[0]? = some x ∧ lvl lv x = lvl lv (kept.getLastD 0) ∧ r ≠ [] := by
  have hl := List.length_pos_iff.2 hk
  obtain ⟨a, r, h1, h2⟩ := grp_lastr lv kept kept.length hl
  have hr : r ≠ [] := by rintro rfl; simp at h2
  refine ⟨a, r, r.headD 0, h1, headD_of hr, ?_, hr⟩
  have hm := List.mem_of_getLast? h2
  have S := grp_same lv kept kept.length r (by rw [h1]; simp) _ (List.mem_of_getElem? (headD_of hr)) _ hm
  rw [S]
  have := lastD_of hk
  rw [List.getD_eq_getElem?_getD, this]
  rfl
structure UA (F : Nat → Int) (N i : Nat) (us : List Bool) : Prop where
  len : us.length = N
  a : ∀ j, j < i → j < N → us[j]? = some true
  b : ∀ j, us[j]? = some true → ∀ k : Nat, F j = k → us[k]? = some true
  c : ∀ k, us[k]? = some true → k < i ∨ ∃ j, us[j]? = some true ∧ F j = (k : Int)
structure UB (F : Nat → Int) (N i q : Nat) (us : List Bool) : Prop where
  len : us.length = N
  a : ∀ j, j < i → us[j]? = some true
  b : ∀ j, us[j]? = some true → ∀ k : Nat, F j = k → us[k]? = some true ∨ k = q
  c : ∀ k, us[k]? = some true → k ≤ i ∨ ∃ j, us[j]? = some true ∧ F j = (k : Int)
  d : us[q]? = some false
  e : q = i ∨ us[i]? = some true
  f : i ≤ q
  g : q = i ∨ ∃ j, us[j]? = some true ∧ F j = (q : Int)
theorem UA.zero (F : Nat → Int) (N : Nat) : UA F N 0 (List.replicate N false) := by
  refine ⟨by simp, fun j hj => by omega, fun j hj => ?_, fun j hj => ?_⟩
  · obtain ⟨h1, h2⟩ := List.getElem?_eq_some_iff.1 hj
    simp at h2
  · obtain ⟨h1, h2⟩ := List.getElem?_eq_some_iff.1 hj
    simp at h2
theorem UA.skip {F : Nat → Int} {N i : Nat} {us : List Bool} (h : UA F N i us) (hu : us[i]? = some true) : UA F N (i + 1) us ∧ con F N i = true := by
  refine ⟨⟨h.len, fun j hj hN => ?_, h.b, fun k hk => ?_⟩, ?_⟩
  · by_cases e : j = i
    · rw [e]; exact hu
    · exact h.a j (by omega) hN
  · rcases h.c k hk with h1 | h1
    · exact .inl (by omega)
    · exact .inr h1
  · rcases h.c i hu with h1 | ⟨j, h1, h2⟩
    · omega
    · exact con_yes (by rw [← h.len]; exact (List.getElem?_eq_some_iff.1 h1).1) h2
theorem UA.start {F : Nat → Int} {N i : Nat} {us : List Bool} (hF : ∀ j, j < N → F j < 0 ∨ ((j : Int) < F j ∧ F j < N)) (h : UA F N i us) (hi : i < N) (hu : us[i]? = some false) : UB F N i i us ∧ con F N i = false := by
  refine ⟨⟨h.len, fun j hj => h.a j hj (by omega), fun j hj k hk => .inl (h.b j hj k hk), fun k hk => ?_, hu, .inl rfl, Nat.le_refl _, .inl rfl⟩, ?_⟩
  · rcases h.c k hk with h1 | h1
    · exact .inl (by omega)
    · exact .inr h1
  · cases hc : con F N i
    · rfl
    · obtain ⟨j, h1, h2⟩ := con_elim hc
      have hj : j < i := by rcases hF j h1 with h3 | h3 <;> omega
      have := h.b j (h.a j hj h1) i h2
      rw [hu] at this
      cases this
theorem set_true {us : List Bool} {q k : Nat} (h : us[k]? = some true) : (us.set q true)[k]? = some true := by
  have hk := (List.getElem?_eq_some_iff.1 h).1
  by_cases e : q = k
  · subst e; rw [List.getElem?_set_self hk]
  · rw [List.getElem?_set_ne e]; exact h
theorem of_set {us : List Bool} {q k : Nat} (h : (us.set q true)[k]? = some true) : k = q ∨ us[k]? = some true := by
  by_cases e : q = k
  · exact .inl e.symm
  · rw [List.getElem?_set_ne e] at h; exact .inr h
theorem UB.next {F : Nat → Int} {N i q k : Nat} {us : List Bool} (hF : ∀ j, j < N → F j < 0 ∨ ((j : Int) < F j ∧ F j < N)) (hI : ∀ j j', j < N → j' < N → F j = F j' → 0 ≤ F j → j = j') (h : UB F N i q us) (hq : q < N) (hk : F q = k) :
    UB F N i k (us.set q true) ∧ (us.set q true)[k]? = some false := by
  have hqk : q < k := by rcases hF q hq with h1 | h1 <;> omega
  have hkN : k < N := by rcases hF q hq with h1 | h1 <;> omega
  have hql : q < us.length := by rw [h.len]; exact hq
  have hkl : k < us.length := by rw [h.len]; exact hkN
  have hf := h.f
  have hd : (us.set q true)[k]? = some false := by
    rw [List.getElem?_set_ne (by omega)]
    cases hu : us[k]? with
    | none => rw [List.getElem?_eq_none_iff] at hu; omega
    | some z =>
      cases z
      · rfl
      · exfalso
        rcases h.c k hu with h1 | ⟨j, h1, h2⟩
        · omega
        · have hjN : j < N := by rw [← h.len]; exact (List.getElem?_eq_some_iff.1 h1).1
          have := hI j q hjN hq (by omega) (by omega)
          subst this
          rw [h.d] at h1
          cases h1
  have hqt : (us.set q true)[q]? = some true := List.getElem?_set_self hql
  refine ⟨⟨by simpa using h.len, fun j hj => set_true (h.a j hj), fun j hj k' hk' => ?_, fun k' hk' => ?_, hd, ?_, by omega, .inr ⟨q, hqt, hk⟩⟩, hd⟩
  · rcases of_set hj with rfl | hj
    · exact .inr (by omega)
    · rcases h.b j hj k' hk' with h1 | rfl
      · exact .inl (set_true h1)
      · exact .inl hqt
  · rcases of_set hk' with rfl | hk'
    · rcases h.g with h1 | ⟨j, h1, h2⟩
      · exact .inl (by omega)
      · exact .inr ⟨j, set_true h1, h2⟩
    · rcases h.c k' hk' with h1 | ⟨j, h1, h2⟩
      · exact .inl h1
      · exact .inr ⟨j, set_true h1, h2⟩
  · right
    rcases h.e with h1 | h1
    · rw [← h1]; exact hqt
    · exact set_true h1
theorem UB.stop {F : Nat → Int} {N i q : Nat} {us : List Bool} (h : UB F N i q us) (hq : q < N) (hk : F q < 0) : UA F N (i + 1) (us.set q true) := by
  have hql : q < us.length := by rw [h.len]; exact hq
  have hqt : (us.set q true)[q]? = some true := List.getElem?_set_self hql
  refine ⟨by simpa using h.len, fun j hj _ => ?_, fun j hj k' hk' => ?_, fun k' hk' => ?_⟩
  · by_cases e : j = i
    · subst e
      rcases h.e with h1 | h1
      · rw [← h1]; exact hqt
      · exact set_true h1
    · exact set_true (h.a j (by omega))
  · rcases of_set hj with rfl | hj
    · omega
    · rcases h.b j hj k' hk' with h1 | rfl
      · exact set_true h1
      · exact hqt
  · rcases of_set hk' with rfl | hk'
    · rcases h.g with h1 | ⟨j, h1, h2⟩
      · exact .inl (by omega)
      · exact .inr ⟨j, set_true h1, h2⟩
    · rcases h.c k' hk' with h1 | ⟨j, h1, h2⟩
      · exact .inl (by omega)
      · exact .inr ⟨j, set_true h1, h2⟩
def fnd (rs : List (List Int)) (us : List Bool) (m : Int) : Nat → Int
  | 0 => -1
  | k + 1 => if (rs.getD k []).headD 0 = m ∧ us.getD k false = false then (k : Int) else fnd rs us m k
theorem fnd_none {rs : List (List Int)} {us : List Bool} {m : Int} (h : ∀ (k : Nat) (r : List Int), rs[k]? = some r → r.headD 0 ≠ m) : ∀ k, k ≤ rs.length → fnd rs us m k = -1
  | 0, _ => rfl
  | k + 1, hk => by
    rw [fnd, if_neg]
    · exact fnd_none h k (by omega)
    · rintro ⟨h1, -⟩
      rw [getD_at (by omega)] at h1
      exact h k _ (List.getElem?_eq_getElem (by omega)) h1
theorem fnd_some {rs : List (List Int)} {us : List Bool} {m : Int} {q : Nat} {r : List Int} (hr : rs[q]? = some r) (hm : r.headD 0 = m) (hu : us[q]? = some false) (h : ∀ (k : Nat) (r : List Int), rs[k]? = some r → r.headD 0 = m → k = q) : ∀ k, k ≤ rs.length → fnd rs us m k = if q < k then (q : Int) else -1
  | 0, _ => rfl
  | k + 1, hk => by
    rw [fnd]
    by_cases hkq : k = q
    · subst hkq
      rw [if_pos, if_pos (by omega)]
      refine ⟨by rw [List.getD_eq_getElem?_getD, hr]; exact hm, by rw [List.getD_eq_getElem?_getD, hu]; rfl⟩
    · rw [if_neg, fnd_some hr hm hu h k (by omega)]
      · by_cases h1 : q < k
        · rw [if_pos h1, if_pos (by omega)]
        · rw [if_neg h1, if_neg (by omega)]
      · rintro ⟨h1, -⟩
        rw [getD_at (by omega)] at h1
        exact hkq (h k _ (List.getElem?_eq_getElem (by omega)) h1)
theorem fnd_fol {o : List Int} {rs : List (List Int)} {us : List Bool} {q : Nat} {r : List Int} {z : Int} (hr : rs[q]? = some r) (hz : r.getLast? = some z) (hzr : 0 ≤ z ∧ z < o.length) (hi : ini (o.getD z.toNat 0) = true) (hall : ∀ r ∈ rs, r ≠ []) (hp : rs.flatten.Pairwise (· < ·))
    (hu : ∀ k : Nat, fol o (Mc o) rs q = k → us[k]? = some false) : (if 0 ≤ mt o z.toNat then fnd rs us (mt o z.toNat) rs.length else -1) = fol o (Mc o) rs q := by
  have ho : o[z.toNat]? = some (o.getD z.toNat 0) := by rw [List.getD_eq_getElem?_getD, List.getElem?_eq_getElem (by omega)]; rfl
  have hm := (Mc_ok o).at_ z.toNat _ ho hi
  have hf : fol o (Mc o) rs q = if 0 ≤ mt o z.toNat then (match bgn rs (mt o z.toNat) with | some k => (k : Int) | none => -1) else -1 := by
    unfold fol
    rw [List.getD_eq_getElem?_getD, hr]
    have hmg : (Mc o).getD z.toNat 0 = mt o z.toNat := by rw [List.getD_eq_getElem?_getD, hm]; rfl
    simp only [Option.getD_some, hz, hi, Bool.true_and, hmg, decide_eq_true_eq]
    cases bgn rs (mt o z.toNat) <;> rfl
  have hd : ∀ r : List Int, r ≠ [] → r.head? = some (r.headD 0) := fun r h => by
    cases r with
    | nil => exact absurd rfl h
    | cons a r => rfl
  rw [hf] at hu ⊢
  by_cases h0 : 0 ≤ mt o z.toNat
  · rw [if_pos h0, if_pos h0]
    rw [if_pos h0] at hu
    cases hb : bgn rs (mt o z.toNat) with
    | none =>
      refine fnd_none (fun k r' hr' h => ?_) _ (Nat.le_refl _)
      unfold bgn at hb
      have := List.findIdx?_eq_none_iff.1 hb r' (List.mem_of_getElem? hr')
      rw [hd r' (hall r' (List.mem_of_getElem? hr')), h] at this
      simp at this
    | some k =>
      rw [hb] at hu
      obtain ⟨r', hr', hh⟩ := bgn_some hb
      have hh' : r'.headD 0 = mt o z.toNat := by
        have := hd r' (hall r' (List.mem_of_getElem? hr'))
        rw [hh] at this
        exact (Option.some.inj this).symm
      rw [fnd_some hr' hh' (hu k rfl) (fun k2 r2 hr2 h2 => ?_) _ (Nat.le_refl _), if_pos (List.getElem?_eq_some_iff.1 hr').1]
      have h3 : r2.head? = some (mt o z.toNat) := by rw [hd r2 (hall r2 (List.mem_of_getElem? hr2)), h2]
      rcases Nat.lt_trichotomy k2 k with h4 | h4 | h4
      · exact absurd h3 (heads_ne hp hr' hh h4 hr2)
      · exact h4
      · exact absurd hh (heads_ne hp hr2 h3 h4 hr')
  · rw [if_neg h0, if_neg h0]
end Go.Ab.Bi
namespace Go.Ab
open Go.Proofs
namespace Bi
theorem Nst.add {H Z H' : Heap} {lo : Nat} {v d u : V} {vs : List V} {rs : List (List Int)} {r : List Int} (h0 : Nst H lo v vs rs) (hu : Stk (H ++ Z) lo 1 u (r.map (V.int .i64))) (hub : ∀ b, blkOf u = some b → H.length ≤ b)
    (hs : Stk H' lo 1 d (vs ++ [u])) (hf : ∀ c, blkOf v ≠ some c → c < (H ++ Z).length → blockOf H' c = blockOf (H ++ Z) c) (hb : blkOf d = blkOf v ∨ blkOf d = some (H ++ Z).length) : Nst H' lo d (vs ++ [u]) (rs ++ [r]) := by
  have h := h0.push Z
  have hvb : ∀ b, blkOf v = some b → b < H.length := fun b hb => (h0.out.blk hb).2
  refine ⟨hs, by simp [h.len], fun i w q hw hq => ?_, fun i j w z hij hw hz => ?_⟩
  · by_cases hi : i < vs.length
    · rw [List.getElem?_append_left hi] at hw
      rw [List.getElem?_append_left (h.len ▸ hi)] at hq
      obtain ⟨h1, h2⟩ := h.inn i w q hw hq
      refine ⟨h1.of_blk fun b hbu => hf b (fun hv => h2 b hv hbu) (h1.blk hbu).2, fun b hd hbu => ?_⟩
      rcases hb with hb | hb
      · exact h2 b (hb ▸ hd) hbu
      · rw [hb] at hd
        cases hd
        exact absurd (h1.blk hbu).2 (by omega)
    · have hl := (List.getElem?_eq_some_iff.1 hw).1
      have hi' : i = vs.length := by simp at hl; omega
      subst hi'
      rw [List.getElem?_append_right (Nat.le_refl _)] at hw
      rw [List.getElem?_append_right (by rw [h.len]; exact Nat.le_refl _)] at hq
      simp [h.len] at hw hq
      subst hw hq
      refine ⟨hu.of_blk fun b hbu => hf b (fun hv => ?_) (hu.blk hbu).2, fun b hd hbu => ?_⟩
      · have := hvb b hv
        have := hub b hbu
        omega
      · have h3 := hub b hbu
        have h4 := (hu.blk hbu).2
        rcases hb with hb | hb
        · have := hvb b (hb ▸ hd)
          omega
        · rw [hb] at hd
          cases hd
          omega
  · have hl := (List.getElem?_eq_some_iff.1 hz).1
    have hi : i < vs.length := by simp at hl; omega
    rw [List.getElem?_append_left hi] at hw
    by_cases hj : j < vs.length
    · rw [List.getElem?_append_left hj] at hz
      exact h.dj i j w z hij hw hz
    · have hj' : j = vs.length := by simp at hl; omega
      subst hj'
      rw [List.getElem?_append_right (Nat.le_refl _)] at hz
      simp at hz
      subst hz
      intro b hbw hbu
      have := (h0.blk hw hbw).2
      have := hub b hbu
      omega
section
variable {P : Program} {md' : FuncId → Nat} {call : Callf} {cfg : Cfg}
theorem wS_add0 {dst : Option Tmp} {fr : List V} {ops : Array Oper} {rest : List Oper} {Q : KontO} {H Z : Heap} {w u : V} {vs : List V} {rs : List (List Int)} {r : List Int} {y : Nat}
    (ho : Nst H 0 w vs rs) (hu : Stk (H ++ Z) 0 1 u (r.map (V.int .i64))) (hub : ∀ b, blkOf u = some b → H.length ≤ b) (hlo : cfg.lo = 0) (hth : cfg.thr = 0) (hsz : vs.length ≤ 4000) (hy : y ≤ 100)
    (K : ∀ d' H', Nst H' 0 d' (vs ++ [u]) (rs ++ [r]) → @wO P md' call cfg ⟨ops⟩ ⟨rest⟩ (put fr dst d') H' ⟨Q⟩) :
    @wS P md' call cfg ⟨dst⟩ ⟨fr⟩ (appD cfg (H ++ Z) 1 y w 1 [u]) ⟨ops⟩ ⟨rest⟩ ⟨Q⟩ := by
  have hs : (vs.length / 1 + 1) * y ≤ 1099511627776 := by
    have : (vs.length / 1 + 1) * y ≤ 4001 * 100 := Nat.mul_le_mul (by omega) hy
    omega
  have hm : isMap [u] = false := by rcases hu with ⟨rfl, _⟩ | ⟨b, n, cap, J, rfl, _⟩ <;> rfl
  refine wS_appP (lo := 0) (ho.push Z).out (by omega) (by omega) (by simp) rfl hm (by omega) hs (by omega) ?_
  intro d' h' hst _ htk hlen hot hb
  exact K d' h' (ho.add hu hub hst hot hb)
theorem wS_inner0 {dst : Option Tmp} {fr : List V} {ops : Array Oper} {rest : List Oper} {Q : KontO} {H : Heap} {b cap : Nat} {u : V} {vs J : List V} {rs : List (List Int)} {r : List Int} {x : Int} {y : Nat}
    (ho : Nst H 0 (.sl b 0 (vs.length + 1) cap 1) (vs ++ [u]) (rs ++ [r])) (hbk : blockOf H b = some (vs ++ u :: J)) (hl : vs.length = rs.length) (hlo : cfg.lo = 0) (hth : cfg.thr = 0) (hsz : r.length ≤ 4000) (hy : y ≤ 100)
    (K : ∀ d' H1 H2, stv cfg H1 b vs.length 1 (cellsOf d') = some H2 → Nst H2 0 (.sl b 0 (vs.length + 1) cap 1) (vs ++ [d']) (rs ++ [r ++ [x]]) → @wO P md' call cfg ⟨ops⟩ ⟨rest⟩ (put fr dst d') H1 ⟨Q⟩) :
    @wS P md' call cfg ⟨dst⟩ ⟨fr⟩ (appD cfg H 1 y u 1 [.int .i64 x]) ⟨ops⟩ ⟨rest⟩ ⟨Q⟩ := by
  obtain ⟨hu1, hu2⟩ := ho.inn vs.length u r (by simp) (by simp [hl])
  have hb5 := ho.out.blk (b := b) rfl
  have hs : ((r.map (V.int .i64)).length / 1 + 1) * y ≤ 1099511627776 := by
    have : ((r.map (V.int .i64)).length / 1 + 1) * y ≤ 4001 * 100 := Nat.mul_le_mul (by simp; omega) hy
    omega
  refine wS_appP (lo := 0) hu1 (by omega) (by omega) (by simp) rfl rfl (by omega) hs (by simp; omega) ?_
  intro d' H1 hst hlf htk hlen hot hb
  have hbk' := (hot b (fun e => hu2 b rfl e) hb5.2).trans hbk
  have hbl := blockOf_lt hbk'
  have hw : cfg.wr b = true := by simp only [Cfg.wr, Bool.or_eq_true, decide_eq_true_eq]; left; omega
  have hse : stv cfg H1 b vs.length 1 (cellsOf d') = some (H1.set b (some (vs ++ d' :: J))) := by
    rw [hst.cells, stv_some, if_pos (show [d'].length = 1 from rfl), storeCells_eq, hbk']
    simp only [Option.bind_some]
    rw [if_pos, show vs ++ u :: J = vs ++ (u :: J) from rfl, putAt_mid [d'] vs (u :: J) (by simp)]
    · simp
    · simp only [hw, Bool.and_true, Bool.and_eq_true, decide_eq_true_eq, Bool.or_eq_true, List.length_append]
      simp
      left
      omega
  refine K d' H1 _ hse ?_
  rw [ints_snoc] at hst
  have hnm : isMap (vs ++ d' :: J) = false := by
    have hm0 := isMap_of_block hbk
    cases vs with
    | nil => cases d' <;> first | rfl | simp [V.leaf] at hlf
    | cons z zs => cases z <;> first | rfl | simp [isMap] at hm0
  refine ho.grow hl hst hot hb ?_ (fun c hc _ => blockOf_set_ne' (by rintro rfl; exact hc rfl)) hlen
  rcases ho.out with ⟨h1, -⟩ | ⟨b', n', cap', J', hv, h1, h2, h3, h4, h5⟩
  · cases h1
  · cases hv
    rw [hbk] at h3
    have hJ : J = J' := by simpa using h3
    subst hJ
    refine .inr ⟨b, vs.length + 1, cap, J, rfl, h1, by simp, ?_, by simpa using h4, h5⟩
    rw [blockOf_set_self hbl, hnm]
    simp
end
theorem ls_mapM {H : Heap} {n : Nat} : ∀ (ls : List (V × List Int)), (∀ s ∈ ls, frz H n 5 s.1 = some (il s.2)) → (ls.map (·.1)).mapM (frz H n 5) = some (ls.map fun s => il s.2)
  | [], _ => rfl
  | s :: ls, h => by
    have ih := ls_mapM ls (fun x hx => h x (List.mem_cons_of_mem _ hx))
    have h0 := h s (List.mem_cons_self ..)
    simp only [List.map_cons, List.mapM_cons, h0, ih, Option.pure_def, Option.bind_eq_bind, Option.bind_some]
abbrev lso (s : V × List Int) : Own := (1, s.1, s.2.map (V.int .i64))
theorem frz_ls {H base : Heap} {ov : V} {ls : List (V × List Int)} {n : Nat} (h : Hp H base ((1, ov, ls.map (·.1)) :: ls.map lso)) (hn : n ≤ base.length) : frz H n 6 ov = some (.lst (ls.map fun s => [il s.2])) ∧ own H 6 ov = true := by
  have ho : ∀ s ∈ ls, OwnC H base.length 1 s.1 (s.2.map (V.int .i64)) := fun s hs => h.tail.own (lso s) (List.mem_map_of_mem hs)
  have hs : ∀ s ∈ ls, frz H n 5 s.1 = some (il s.2) := fun s hs => OwnC.frzI (d := 3) (ho s hs) hn
  refine ⟨?_, h.head.own (d := 4) fun c hc => ?_⟩
  · rcases h.head with ⟨rfl, hc⟩ | ⟨b, m, rfl, hm, h1, hb⟩
    · have : ls = [] := by simpa using hc
      subst this
      rfl
    · have hml : m = ls.length := by simp at hm; omega
      subst hml
      rw [frz_sl, if_neg (by omega), hb]
      have e : List.take (ls.length * 1) (ls.map (·.1)) = ls.map (·.1) := List.take_of_length_le (by simp)
      have hrf : (ls.map fun s => il s.2).all V.rf = true := by
        rw [List.all_eq_true]
        intro c hc
        obtain ⟨s, _, rfl⟩ := List.mem_map.1 hc
        rfl
      have hck := chunk_one (ls.map fun s => il s.2)
      rw [List.length_map] at hck
      simp only [Nat.zero_add, List.drop_zero, List.length_map, Nat.mul_one, Nat.le_refl, if_true]
      rw [List.take_of_length_le (by simp), ls_mapM ls hs]
      simp only [hrf, if_true, hck, List.map_map]
      rfl
  · obtain ⟨s, hsl, rfl⟩ := List.mem_map.1 hc
    exact OwnC.ownI (d := 3) (ho s hsl)
section
variable {prim : FuncId → Option Prim} (d : Nat) (cfg : Cfg) (h : Heap)
set_option maxRecDepth 100000 in
set_option maxHeartbeats 8000000 in
theorem rseqs_ok (h40 : prim 103 = none) (h45 : prim 108 = none) (h71 : prim 132 = none) (h47 : prim 99 = none) (h63 : prim 100 = none) (h64 : prim 101 = none) (t lv : List Int) (n : Nat) (htn : t.length = n) (hlv : lv.length = n) (hn : n ≤ 2000) (e : Int) {args : List V} (hargs : args.mapM (frzA h) = some [rl t, il lv]) :
    callM md (K prim (d + 5)) cfg 103 args h = some (.lst ((seqsS (t.map bidi) (Mc (t.map bidi)) lv n e).map fun s => [il s.l]), h) := by
  refine call3 rfl h40 Tryz.func103 rfl rfl rfl hargs ?_
  have hG := fun cfg h r => rgone_ok (prim := prim) (d + 1) cfg h h45 h71 h47 r
  have hB := fun cfg h r => rbidi_ok (prim := prim) (d + 2) cfg h h71 h47 r
  have hI := fun cfg h x => rini_ok (prim := prim) (d + 3) cfg h h63 x
  have hMt := fun cfg h i hi => rmatch_ok (prim := prim) (d + 1) cfg h h64 h63 h71 h47 t (by omega) i hi
  have hgt : ∀ (j : Nat) (z : Int), t[j]? = some z → (t.map bidi)[j]? = some (bidi z) := fun j z hz => by rw [List.getElem?_map, hz]; rfl
  have hon : (t.map bidi).length = n := by simpa using htn
  generalize t.map bidi = o at *
  simp (disch := omega)
  refine wC_loop (fun m fr H => ∃ (k : Nat) (w : V) (vs : List V), k ≤ n ∧ m = n - k ∧ Nst H 0 w vs (grp lv (keptL o k) (keptL o k).length) ∧
    Slots 142 [(0, rl t), (1, il lv), (5, w), (6, .int .i64 k)] fr) (m := n) (by omega) ⟨0, .nils, [], by omega, by omega, Nst.zero, by simp⟩ ?_
  rintro m fr H ⟨k, w, vs, hk, rfl, hns, hs⟩
  obtain ⟨j, rfl⟩ := hs.ex
  clear hs
  have hwl := hns.out.len (show Tryz.prog.underlying 139 = some (.slice 22) by kernel_rfl) (by omega)
  rw [Nat.div_one] at hwl
  have hnl := hns.len
  have hgl := grp_len lv (keptL o k) (keptL o k).length
  have hkl := keptL_len o k
  by_cases hlt : k < n
  · obtain ⟨z, hz⟩ : ∃ z, t[k]? = some z := ⟨_, List.getElem?_eq_getElem (by omega)⟩
    have hx := hgt k z hz
    have hx0 : o.getD k 0 = bidi z := by rw [List.getD_eq_getElem?_getD, hx]; rfl
    have hk1 : keptL o (k + 1) = if gone (o.getD k 0) then keptL o k else keptL o k ++ [(k : Int)] := rfl
    rw [hx0] at hk1
    have hltI : (k : Int) < n := by omega
    have hlk : lv[k]? = some (lvl lv (k : Int)) := lvl_of (by omega)
    cases hg : gone (bidi z)
    · rw [hg] at hk1
      have hk2 : keptL o (k + 1) = keptL o k ++ [(k : Int)] := hk1
      by_cases hke : keptL o k = []
      · have hgm : grp lv (keptL o (k + 1)) (keptL o (k + 1)).length = grp lv (keptL o k) (keptL o k).length ++ [[(k : Int)]] := by
          rw [hk2, grp_more, if_pos hke, hke]
          rfl
        have hv0 : vs.length = 0 := by have : (keptL o k).length = 0 := by rw [hke]; rfl
                                       omega
        rw [hv0] at hwl
        simp (disch := omega) [htn, hltI, hz, hG, hg, hwl, -getElem?_pos]
        refine wC_draw 17 (by kernel_rfl) ?_
        simp (disch := omega) [-getElem?_pos]
        refine wS_add0 (u := .sl H.length 0 1 1 1) (r := [(k : Int)]) hns (.inr ⟨H.length, 1, 1, [], rfl, Nat.zero_le _, rfl, by simp, rfl, Nat.le_refl _⟩) (by intro b hb; cases hb; exact Nat.le_refl _) rfl rfl (by omega) (by omega) ?_
        intro d' H' hns'
        simp (disch := omega) [wrap64]
        exact Rnd_of (m' := n - (k + 1)) (by omega) ⟨k + 1, d', _, by omega, rfl, by rw [hgm]; exact hns', by simp (disch := omega)⟩
      · obtain ⟨ra, rr, x0, e1, e2, e3, e4⟩ := grp_top (lv := lv) hke
        have hgm : grp lv (keptL o (k + 1)) (keptL o (k + 1)).length = if lvl lv x0 = lvl lv (k : Int) then ra ++ [rr ++ [(k : Int)]] else grp lv (keptL o k) (keptL o k).length ++ [[(k : Int)]] := by
          rw [hk2, grp_more, if_neg hke, ← e3]
          split
          · rw [e1]; simp [snocL]
          · rfl
        have hfl := grp_flat lv (keptL o k) (keptL o k).length (Nat.le_refl _)
        have hrl : rr.length ≤ (keptL o k).length := by
          rw [List.take_length, e1] at hfl
          have := congrArg List.length hfl
          simp at this
          omega
        have hx0m : x0 ∈ keptL o k := by
          rw [List.take_length, e1] at hfl
          rw [← hfl]
          simp
          exact .inr (List.mem_of_getElem? e2)
        have hx0r := keptL_mem o k x0 hx0m
        rw [e1] at hns hnl
        obtain ⟨vs0, u0, rfl⟩ : ∃ vs0 u0, vs = vs0 ++ [u0] := by
          have hne : vs ≠ [] := by
            rintro rfl
            simp at hnl
          exact ⟨_, _, (List.dropLast_concat_getLast hne).symm⟩
        have hnl0 : vs0.length = ra.length := by simp at hnl; omega
        have hgl2 := hgl
        rw [e1] at hgl2
        simp at hgl2
        obtain ⟨b, cap, J, rfl, hb1, hb2, hb3⟩ := hns.top
        obtain ⟨bu, nu, capu, JU, rfl, hu1, hu2, hu3, hu4, -⟩ := (hns.inn vs0.length u0 rr (by simp) (by simp [hnl0])).1.pos (by simpa using e4)
        obtain rfl : nu = rr.length := by simp at hu3; omega
        have hsm := slot_mid vs0 J (.sl bu 0 rr.length capu 1)
        have hs0 := slot_front (k := .i64) (J := JU) e2
        have hrl0 : 0 < rr.length := List.length_pos_iff.2 e4
        have hvn : ((vs0.length : Int) + 1 - 1).toNat = vs0.length := by omega
        have hlx : lv[x0.toNat]? = some (lvl lv x0) := by rw [lvl, List.getD_eq_getElem?_getD, List.getElem?_eq_getElem (by omega)]; rfl
        simp only [List.length_append, List.length_singleton] at hwl
        have hvp : (0 : Int) < (vs0.length : Int) + 1 := by omega
        simp (disch := omega) [htn, hltI, hz, hG, hg, -getElem?_pos]
        refine wC_draw 17 (by kernel_rfl) ?_
        simp (disch := omega) [hvp, hb3, hsm, hu4, hs0, hlx, hlk, wrap64, -getElem?_pos]
        by_cases hle : lvl lv x0 = lvl lv (k : Int)
        · rw [if_pos hle] at hgm
          have hb5 : ∀ Y, blockOf (H ++ Y) b = some (vs0 ++ .sl bu 0 rr.length capu 1 :: J) := fun Y => (blockOf_left hb1).trans hb3
          simp (disch := omega) [hle, hb3, hsm, wrap64, -getElem?_pos]
          refine wS_inner0 (hns.push _) (hb5 _) hnl0 rfl rfl (by omega) (by omega) ?_
          intro d' H1 H2 hse hns3
          simp (disch := omega) [hse, wrap64]
          exact Rnd_of (m' := n - (k + 1)) (by omega) ⟨k + 1, _, _, by omega, rfl, by rw [hgm]; exact hns3, by simp (disch := omega)⟩
        · rw [if_neg hle, e1] at hgm
          simp (disch := omega) [hle, -getElem?_pos]
          refine wS_add0 (u := .sl H.length 0 1 1 1) (r := [(k : Int)]) hns (.inr ⟨H.length, 1, 1, [], rfl, Nat.zero_le _, rfl, by simp, rfl, Nat.le_refl _⟩) (by intro b hb; cases hb; exact Nat.le_refl _) rfl rfl (by simp; omega) (by omega) ?_
          intro d' H' hns'
          simp (disch := omega) [wrap64]
          exact Rnd_of (m' := n - (k + 1)) (by omega) ⟨k + 1, d', _, by omega, rfl, by rw [hgm]; exact hns', by simp (disch := omega)⟩
    · rw [hg] at hk1
      have hk2 : keptL o (k + 1) = keptL o k := hk1
      simp (disch := omega) [htn, hltI, hz, hG, hg, wrap64, -getElem?_pos]
      exact Rnd_of (m' := n - (k + 1)) (by omega) ⟨k + 1, w, vs, by omega, rfl, by rw [hk2]; exact hns, by simp (disch := omega)⟩
  · obtain rfl : k = n := by omega
    have hltI : ¬ (k : Int) < k := by omega
    have hfl := grp_flat lv (keptL o k) (keptL o k).length (Nat.le_refl _)
    rw [List.take_length] at hfl
    have hall := grp_all lv (keptL o k) (keptL o k).length
    have hKp := keptL_mem o k
    have hKa := keptL_asc o k
    have hF := seqsS_F (lv := lv) (Mc_ok o) hon
    have hfi := fun {j j' : Nat} (hj : j < (grp lv (keptL o k) (keptL o k).length).length) (hj' : j' < (grp lv (keptL o k) (keptL o k).length).length) => fol_inj (o := o) (M := Mc o) (rs := grp lv (keptL o k) (keptL o k).length) (Mc_ok o) (by rw [hfl]; exact hKa) (by rw [hfl]; intro x hx; have := hKp x hx; omega) hj hj'
    have hss : seqsS o (Mc o) lv k e = sqsU o (fol o (Mc o) (grp lv (keptL o k) (keptL o k).length)) (grp lv (keptL o k) (keptL o k).length) lv (keptL o k) e (grp lv (keptL o k) (keptL o k).length).length := rfl
    rw [hss]
    generalize hrs : grp lv (keptL o k) (keptL o k).length = rs at *
    generalize hFe : fol o (Mc o) rs = F at *
    rw [hnl] at hwl
    simp (disch := omega) [htn, hltI, hwl, -getElem?_pos]
    have hrd : ∀ (i : Nat) (r : List Int), rs[i]? = some r → ∃ b cap J, vs[i]? = some (.sl b 0 r.length cap 1) ∧ r ≠ [] ∧ b < H.length ∧ blockOf H b = some (r.map (V.int .i64) ++ J) := by
      intro i r hr
      have hi := (List.getElem?_eq_some_iff.1 hr).1
      obtain ⟨u, hu⟩ : ∃ u, vs[i]? = some u := ⟨_, List.getElem?_eq_getElem (by omega)⟩
      have hne := hall r (List.mem_of_getElem? hr)
      obtain ⟨b, nn, cap, J, rfl, h1, h2, h3, h4, -⟩ := (hns.inn i u r hu hr).1.pos (by simpa using hne)
      have hn' : nn = r.length := by simp at h3; omega
      subst hn'
      exact ⟨b, cap, J, hu, hne, h2, h4⟩
    have hwr : ∀ (i : Nat) (r : List Int), rs[i]? = some r → ∃ b cap J, w = .sl b 0 rs.length cap 1 ∧ b < H.length ∧ blockOf H b = some (vs ++ J) := by
      intro i r hr
      have hi := (List.getElem?_eq_some_iff.1 hr).1
      obtain ⟨b, nn, cap, J, rfl, h1, h2, h3, h4, -⟩ := hns.out.pos (by intro h; rw [h] at hnl; simp at hnl; omega)
      have hn' : nn = rs.length := by simp at h3; omega
      subst hn'
      exact ⟨b, cap, J, rfl, h2, h4⟩
    have hbg : ∀ (l : List Bool) (i : Nat) (b : Bool), l[i]? = some b → slot (l.map V.bool) i = some (.bool b) := fun l i b h => by rw [slot, List.getElem?_map, h]; rfl
    have hz2 : zerosFor [V.bool false] rs.length = (List.replicate rs.length false).map V.bool := by
      generalize rs.length = N
      induction N with
      | zero => rfl
      | succ N ih => rw [zerosFor, ih]; rfl
    have hfr : ∀ x ∈ rs.flatten, 0 ≤ x ∧ x < k := fun x hx => by rw [hfl] at hx; exact hKp x hx
    have hmb : ∀ us : List Bool, isMap (us.map V.bool) = false := fun us => by cases us <;> rfl
    have hrl2 : rs.length ≤ 2000 := by omega
    rw [hz2]
    clear hwl
    refine wC_loop (fun m fr H' => ∃ (i : Nat) (ov : V) (us : List Bool) (ls : List (V × List Int)), i ≤ rs.length ∧ m = rs.length - i ∧ UA F rs.length i us ∧ ls.map (·.2) = (sqsU o F rs lv (keptL o k) e i).map (·.l) ∧
      Hp H' H ((1, .sl H.length 0 rs.length rs.length 1, us.map V.bool) :: (1, ov, ls.map (·.1)) :: ls.map lso) ∧
      Slots 142 [(0, rl t), (1, il lv), (5, w), (8, .sl H.length 0 rs.length rs.length 1), (9, ov), (10, .int .i64 i)] fr) (m := rs.length) (by omega) ⟨0, .nils, _, [], by omega, by omega, UA.zero F rs.length, rfl, (Hp.start.nil 1).new (hmb _) (by simp) [], by simp⟩ ?_
    rintro m fr H' ⟨i, ov, us, ls, hi, rfl, hUA, hls, hhp, hs⟩
    obtain ⟨j2, rfl⟩ := hs.ex
    clear hs
    have hub : ∀ {Hx : Heap} {us : List Bool} {os : List Own}, Hp Hx H ((1, .sl H.length 0 rs.length rs.length 1, us.map V.bool) :: os) → blockOf Hx H.length = some (us.map V.bool) ∧ us.length = rs.length := by
      intro Hx us os hh
      rcases hh.head with ⟨h1, _⟩ | ⟨b', n', h1, h2, _, h3⟩
      · cases h1
      · cases h1
        exact ⟨h3, by simpa using h2⟩
    have hwl : lenV Tryz.prog 139 w = some (.int .i64 rs.length) := by
      have := hns.out.len (show Tryz.prog.underlying 139 = some (.slice 22) by kernel_rfl) (by omega)
      rw [Nat.div_one, hnl] at this
      exact this
    obtain ⟨hbU, hul⟩ := hub hhp
    by_cases hlt2 : i < rs.length
    · obtain ⟨ub, hu⟩ : ∃ ub, us[i]? = some ub := ⟨_, List.getElem?_eq_getElem (by omega)⟩
      have hug := hbg us i ub hu
      have hltJ : (i : Int) < rs.length := by omega
      cases ub
      · obtain ⟨hUB, hcon⟩ := hUA.start hF hlt2 hu
        have hsu : sqsU o F rs lv (keptL o k) e (i + 1) = sqsU o F rs lv (keptL o k) e i ++ [sqOf o F rs lv (keptL o k) e i] := by rw [sqsU, hcon]; rfl
        simp (disch := omega) [hwl, hltJ, hbU, hug, -getElem?_pos]
        obtain ⟨r0, hr0⟩ : ∃ r, rs[i]? = some r := ⟨_, List.getElem?_eq_getElem hlt2⟩
        obtain ⟨cf1, cf2, cf3⟩ := chn_facts hF hfl hall hr0
        generalize hL : chn F rs rs.length i = L at cf1 cf2 cf3
        have hLl := cf1.length_le
        refine wC_loop (fun m fr H'' => ∃ (f : Nat) (jj : Int) (u : V) (l : List Int) (us : List Bool), m = (if 0 ≤ jj then ((rs.length : Int) - jj).toNat else 0) ∧ jj < rs.length ∧ (0 ≤ jj → (rs.length : Int) - jj ≤ f) ∧ l ++ chn F rs f jj = L ∧ (0 ≤ jj → UB F rs.length i jj.toNat us) ∧ (jj < 0 → UA F rs.length (i + 1) us) ∧
          Hp H'' H ((1, .sl H.length 0 rs.length rs.length 1, us.map V.bool) :: (1, u, l.map (V.int .i64)) :: (1, ov, ls.map (·.1)) :: ls.map lso) ∧
          Slots 142 [(0, rl t), (1, il lv), (5, w), (8, .sl H.length 0 rs.length rs.length 1), (9, ov), (10, .int .i64 i), (11, u), (12, .int .i64 jj)] fr) (m := rs.length - i) (by omega) ⟨rs.length, i, .nils, [], us, by rw [if_pos (by omega)]; omega, by omega, fun _ => by omega, by simpa using hL, fun _ => by simpa using hUB, fun h => by omega, (hhp.nil 1).swap, by simp⟩ ?_
        rintro m fr H'' ⟨f, jj, u, l, us, rfl, hj1, hj2, hlL, hB1, hB2, hhp2, hs⟩
        obtain ⟨j3, rfl⟩ := hs.ex
        clear hs
        by_cases hj0 : 0 ≤ jj
        · obtain ⟨q, rfl⟩ : ∃ q : Nat, jj = q := ⟨jj.toNat, by omega⟩
          have hUBq : UB F rs.length i q us := hB1 hj0
          have hq : q < rs.length := by omega
          have hj2' := hj2 hj0
          obtain ⟨f, rfl⟩ : ∃ f', f = f' + 1 := ⟨f - 1, by omega⟩
          obtain ⟨r2, hr2⟩ : ∃ r, rs[q]? = some r := ⟨_, List.getElem?_eq_getElem hq⟩
          rw [chn_step hr2] at hlL
          obtain ⟨b3, cap3, J3, hv3, hrne3, hb3l, hbk3⟩ := hrd q r2 hr2
          obtain ⟨b2, cap2, J2, rfl, hb2l, hbk2⟩ := hwr q r2 hr2
          have hsv3 : slot (vs ++ J2) q = some (.sl b3 0 r2.length cap3 1) := by rw [slot, List.getElem?_append_left (by omega), hv3]
          have hrl3 : 0 < r2.length := List.length_pos_iff.2 hrne3
          obtain ⟨hbU2, hul2⟩ := hub hhp2
          have hst : ∀ X c, c < H.length → blockOf (H''.set H.length X) c = blockOf H c := fun X c hc => by
            rw [blockOf_set_ne' (by omega)]
            exact hhp2.block hc
          have hwB : Cfg.wr ⟨0, none, 0⟩ H.length = true := by simp [Cfg.wr]
          have hqJ : (q : Int) < rs.length := by omega
          have hq1 : q + 1 ≤ us.length := by omega
          simp (disch := omega) [hj0, hq1, hwB, hbU2, hst, hbk2, hbk3, hsv3, -getElem?_pos]
          have hsx : setS (List.map V.bool us) q (V.bool true) = (us.set q true).map V.bool := by simp [setS, List.map_set]
          have htk : List.take r2.length (r2.map (V.int .i64) ++ J3) = r2.map (V.int .i64) := List.take_left' (by simp)
          have hlfm : (∀ x ∈ r2.map (V.int .i64), x.leaf = true) := by
            intro x hx
            obtain ⟨y, _, rfl⟩ := List.mem_map.1 hx
            rfl
          rw [hsx, htk, if_pos hlfm]
          have hll : l.length + r2.length ≤ 2000 := by
            have := congrArg List.length hlL
            simp at this
            omega
          have hhp3 := (hhp2.setO (hmb (us.set q true)) (by simp)).swap
          refine wS_appO hhp3 (Nat.zero_le _) (by simp) (by simp) (by omega) (by omega) (by simp; omega) (by simp; omega) ?_
          intro u' H3 hhp4
          have hhp5 := hhp4.swap
          obtain ⟨hbU3, hul3⟩ := hub hhp5
          have hst3 : ∀ c, c < H.length → blockOf H3 c = blockOf H c := fun c hc => hhp5.block hc
          obtain ⟨z, hz⟩ : ∃ z, r2.getLast? = some z := ⟨_, List.getLast?_eq_some_getLast hrne3⟩
          have hzi : r2[r2.length - 1]? = some z := by rw [← List.getLast?_eq_getElem?]; exact hz
          have hzr := hfr z (List.mem_flatten.2 ⟨r2, List.mem_of_getElem? hr2, List.mem_of_getElem? hzi⟩)
          obtain ⟨z, rfl⟩ : ∃ zn : Nat, z = zn := ⟨z.toNat, by omega⟩
          have hsz := slot_front (k := .i64) (J := J3) hzi
          have hrn1 : ((r2.length : Int) - 1).toNat = r2.length - 1 := by omega
          obtain ⟨tz, htz⟩ : ∃ tz, t[z]? = some tz := ⟨_, List.getElem?_eq_getElem (by omega)⟩
          have hoz := hgt _ _ htz
          have hodz : o.getD (z : Int).toNat 0 = bidi tz := by rw [Int.toNat_natCast, List.getD_eq_getElem?_getD, hoz]; rfl
          simp (disch := omega)
          refine wC_draw 10 (by kernel_rfl) ?_
          simp (disch := omega) [hst3, hbk2, hbk3, hsv3, hsz, hrn1, htz, hB, hI, wrap64, -getElem?_pos]
          have hFq := hF q hq
          cases hix : ini (bidi tz)
          · have hf1 : F q = -1 := by rw [← hFe]; exact fol_no hr2 hz (.inl (by rw [hodz]; exact hix))
            simp (disch := omega)
            refine Rnd_of (m' := 0) (by rw [if_pos hj0]; omega) ⟨f, -1, u', l ++ r2, us.set q true, by rw [if_neg (by omega)], by omega, fun h => by omega, by rw [← hf1, List.append_assoc]; exact hlL, fun h => by omega, fun _ => hUBq.stop hq (by omega), by simpa using hhp5, by simp⟩
          · have hMz := fun cfg h => hMt cfg h z (by omega)
            have hpw : rs.flatten.Pairwise (· < ·) := by rw [hfl]; exact hKa
            have hff := fnd_fol (o := o) (rs := rs) (us := us.set q true) (q := q) hr2 hz (by omega) (by rw [hodz]; exact hix) hall hpw (by
              intro k' hk'
              rw [hFe] at hk'
              exact (hUBq.next hF (fun j j' a b => hfi a b) hq hk').2)
            rw [hFe, Int.toNat_natCast] at hff
            generalize mt o z = mz at hMz hff
            simp (disch := omega) [hMz]
            refine wC_loop (fun m fr Hx => ∃ (kk : Nat), kk ≤ rs.length ∧ m = rs.length - kk ∧ Hx = H3 ∧ (mz < 0 → kk = 0) ∧
              Slots 142 [(0, rl t), (1, il lv), (5, .sl b2 0 rs.length cap2 1), (8, .sl H.length 0 rs.length rs.length 1), (9, ov), (10, .int .i64 i), (11, u'), (12, .int .i64 (fnd rs (us.set q true) mz kk)), (14, .int .i64 mz), (15, .int .i64 kk)] fr) (m := rs.length) (by omega) ⟨0, by omega, by omega, rfl, fun _ => rfl, by simp [fnd]⟩ ?_
            rintro m fr Hx ⟨kk, hkk, rfl, rfl, hm0, hs⟩
            obtain ⟨j4, rfl⟩ := hs.ex
            clear hs
            have hkJ : ∀ x : Nat, (x : Int) ≤ rs.length ↔ x ≤ rs.length := fun x => by omega
            by_cases hc : kk < rs.length ∧ 0 ≤ mz
            · obtain ⟨c1, c2⟩ := hc
              have c1J : (kk : Int) < rs.length := by omega
              obtain ⟨r4, hr4⟩ : ∃ r, rs[kk]? = some r := ⟨_, List.getElem?_eq_getElem c1⟩
              obtain ⟨b4, cap4, J4, hv4, hrne4, hb4l, hbk4⟩ := hrd kk r4 hr4
              have hsv4 : slot (vs ++ J2) kk = some (.sl b4 0 r4.length cap4 1) := by rw [slot, List.getElem?_append_left (by omega), hv4]
              have hrl4 : 0 < r4.length := List.length_pos_iff.2 hrne4
              have hh4 := headD_of hrne4
              have hsh4 := slot_front (k := .i64) (J := J4) hh4
              obtain ⟨ub4, hu4⟩ : ∃ ub, (us.set q true)[kk]? = some ub := ⟨_, List.getElem?_eq_getElem (by simp; omega)⟩
              have hug4 : slot ((us.map V.bool).set q (.bool true)) kk = some (.bool ub4) := by
                have := hbg _ kk ub4 hu4
                rw [List.map_set] at this
                exact this
              have hk1u : kk + 1 ≤ us.length := by omega
              have hkk1 : kk + 1 ≤ rs.length := c1
              have hfs : fnd rs (us.set q true) mz (kk + 1) = if r4.headD 0 = mz ∧ ub4 = false then (kk : Int) else fnd rs (us.set q true) mz kk := by
                rw [fnd, List.getD_eq_getElem?_getD, hr4, List.getD_eq_getElem?_getD, hu4]
                rfl
              simp only [List.headD_eq_head?_getD] at hsh4 hfs
              generalize r4.head?.getD 0 = x4 at hsh4 hfs
              simp (disch := omega) [hwl, c1J, c2, hst3, hbk2, hbk4, hsv4, hsh4, -getElem?_pos]
              by_cases hxm : x4 = mz
              · cases ub4
                · have hfs' : fnd rs (us.set q true) mz (kk + 1) = kk := by rw [hfs, if_pos ⟨hxm, rfl⟩]
                  simp (disch := omega) [hxm, hbU3, hug4, wrap64, -getElem?_pos]
                  exact Rnd_of (m' := rs.length - (kk + 1)) (by omega) ⟨kk + 1, by omega, rfl, rfl, fun h => by omega, by simp (disch := omega) [hfs']⟩
                · have hfs' : fnd rs (us.set q true) mz (kk + 1) = fnd rs (us.set q true) mz kk := by rw [hfs, if_neg (by simp)]
                  simp (disch := omega) [hxm, hbU3, hug4, wrap64, -getElem?_pos]
                  exact Rnd_of (m' := rs.length - (kk + 1)) (by omega) ⟨kk + 1, by omega, rfl, rfl, fun h => by omega, by simp (disch := omega) [hfs']⟩
              · have hfs' : fnd rs (us.set q true) mz (kk + 1) = fnd rs (us.set q true) mz kk := by rw [hfs, if_neg (by simp [hxm])]
                simp (disch := omega) [hxm, wrap64, -getElem?_pos]
                exact Rnd_of (m' := rs.length - (kk + 1)) (by omega) ⟨kk + 1, by omega, rfl, rfl, fun h => by omega, by simp (disch := omega) [hfs']⟩
            · have hfq : fnd rs (us.set q true) mz kk = F q := by
                rw [← hff]
                by_cases c2 : 0 ≤ mz
                · obtain rfl : kk = rs.length := by omega
                  rw [if_pos c2]
                · rw [if_neg c2, hm0 (by omega)]
                  rfl
              have hUBn : 0 ≤ F q → UB F rs.length i (F q).toNat (us.set q true) := fun h0 => (hUBq.next hF (fun j j' a b => hfi a b) hq (k := (F q).toNat) (by omega)).1
              have hUAn : F q < 0 → UA F rs.length (i + 1) (us.set q true) := fun h0 => hUBq.stop hq h0
              have hmm : (if 0 ≤ F q then ((rs.length : Int) - F q).toNat else 0) < if 0 ≤ (q : Int) then ((rs.length : Int) - q).toNat else 0 := by
                rw [if_pos hj0]
                split <;> omega
              have hlL' : l ++ r2 ++ chn F rs f (F q) = L := by rw [List.append_assoc]; exact hlL
              by_cases c1 : (kk : Int) < rs.length
              · have c2 : ¬ 0 ≤ mz := by omega
                simp (disch := omega) [hwl, c1, c2, hfq, -getElem?_pos]
                exact Rnd_of (m' := if 0 ≤ F q then ((rs.length : Int) - F q).toNat else 0) hmm ⟨f, F q, u', l ++ r2, us.set q true, rfl, by omega, fun _ => by omega, hlL', hUBn, hUAn, by simpa using hhp5, by simp⟩
              · simp (disch := omega) [hwl, c1, hfq, -getElem?_pos]
                exact Rnd_of (m' := if 0 ≤ F q then ((rs.length : Int) - F q).toNat else 0) hmm ⟨f, F q, u', l ++ r2, us.set q true, rfl, by omega, fun _ => by omega, hlL', hUBn, hUAn, by simpa using hhp5, by simp⟩
        · have hjn : jj < 0 := by omega
          rw [chn_neg hjn, List.append_nil] at hlL
          subst hlL
          simp (disch := omega) [hj0, -getElem?_pos]
          have hcu := hhp2.snd.cells
          have hmu : isMap [u] = false := by rcases hhp2.snd with ⟨h, _⟩ | ⟨_, _, h, _⟩ <;> rw [h] <;> rfl
          have hlsl : ls.length ≤ i := by
            have h1 := congrArg List.length hls
            have h2 := sqsU_len o F rs lv (keptL o k) e i
            rw [List.length_map, List.length_map] at h1
            omega
          have hp3 := (hhp2.push [some [u]]).perm (pq1 _ _ _ _)
          simp (disch := omega) [hcu, hmu, hhp2.snd.leaf]
          refine wS_appO (m := 1) hp3 (Nat.zero_le _) rfl hmu (by omega) (by omega) (by simp; omega) (by simp; omega) ?_
          intro ov' H3 hhp6
          simp (disch := omega) [wrap64]
          refine Rnd_of (m' := rs.length - (i + 1)) (by omega) ⟨i + 1, ov', us, ls ++ [(u, l)], by omega, rfl, hB2 hjn, by rw [hsu, List.map_append, List.map_append, hls]; congr 1; rw [← hL]; rfl, ?_, by simp (disch := omega)⟩
          have := hhp6.swap
          simpa using this
      · obtain ⟨hUA', hcon⟩ := hUA.skip hu
        have hsu : sqsU o F rs lv (keptL o k) e (i + 1) = sqsU o F rs lv (keptL o k) e i := by rw [sqsU, hcon]; rfl
        simp (disch := omega) [hwl, hltJ, hbU, hug, wrap64, -getElem?_pos]
        exact Rnd_of (m' := rs.length - (i + 1)) (by omega) ⟨i + 1, ov, us, ls, by omega, rfl, hUA', by rw [hsu]; exact hls, hhp, by simp (disch := omega)⟩
    · obtain rfl : i = rs.length := by omega
      have hltJ : ¬ (rs.length : Int) < rs.length := by omega
      simp (disch := omega) [hwl, hltJ, -getElem?_pos]
      obtain ⟨q1, q2⟩ := frz_ls (n := 0) hhp.tail (Nat.zero_le _)
      refine ⟨q2, ?_⟩
      rw [q1]
      have e1 : (ls.map fun s => [il s.2]) = (ls.map (·.2)).map fun l => [il l] := by rw [List.map_map]; rfl
      rw [e1, hls, List.map_map]
      rfl
end
end Bi
end Go.Ab
