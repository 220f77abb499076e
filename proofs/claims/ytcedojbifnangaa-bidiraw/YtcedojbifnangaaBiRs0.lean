/- Several texts of this proof in one. -/
import Derived.Test.YtcedojbifnangaaBiSpec4
import Derived.Test.YtcedojbifnangaaBiLev0
import Derived.Test.YtcedojbifnangaaBiDis
import Derived.Test.YtcedojbifnangaaBiRj
import Derived.Test.YtcedojbifnangaaBiRo
/- Plain texts (letters, spaces, digits, full stops): what the rules make of one sequence. -/
namespace Go.Ab.Bi
end Go.Ab.Bi
/- Plain texts: their levels. -/
namespace Go.Ab
open Go.Proofs
namespace Bi
def nums (n : Nat) : List Int := (List.range n).map Int.ofNat
theorem impL_get {lev : Int} : ∀ {u s : List Int} {k : Nat} {a x : Int}, u[k]? = some a → s[k]? = some x → (impL lev u s)[k]? = some (a + impS lev x)
  | [], _, _, _, _, h, _ => by simp at h
  | _ :: _, [], _, _, _, _, h => by simp at h
  | b :: u, y :: s, 0, a, x, h1, h2 => by simp at h1 h2; simp [impL, h1, h2]
  | b :: u, y :: s, k + 1, a, x, h1, h2 => by
    simp only [impL, List.getElem?_cons_succ] at h1 h2 ⊢
    exact impL_get h1 h2
end Bi
end Go.Ab
/- The levels' range; runs of one level stay together: in plain Lean. -/
namespace Go.Ab
open Go.Proofs
namespace Bi
/-- No place lies in two sequences. -/
theorem sqsU_dis {o M : List Int} {rs : List (List Int)} {lv kept : List Int} {e : Int} (hM : MOK o M) (hp : rs.flatten.Pairwise (· < ·)) (hn : ∀ x ∈ rs.flatten, 0 ≤ x ∧ x < o.length) :
    ∀ k, k ≤ rs.length → (sqsU o (fol o M rs) rs lv kept e k).Pairwise fun a b => ∀ i ∈ a.l, i ∉ b.l
  | 0, _ => by simp [sqsU]
  | k + 1, hk => by
    have ih := sqsU_dis (lv := lv) (kept := kept) (e := e) hM hp hn k (by omega)
    unfold sqsU
    cases hc : con (fol o M rs) rs.length k
    · simp only [Bool.false_eq_true, if_false]
      refine List.pairwise_append.2 ⟨ih, by simp, ?_⟩
      intro a ha b hb i hi1 hi2
      simp at hb
      subst hb
      obtain ⟨j, h1, h2, rfl⟩ := sqsU_mem ha
      obtain ⟨q, hq1, hq2⟩ := chI_chn _ _ _ _ _ hi1
      obtain ⟨q', hr1, hr2⟩ := chI_chn _ _ _ _ _ hi2
      have hF := fun j hj => fol_ok hM hp hn j hj
      have l1 := chI_lt hF _ _ (by omega) q hq1
      have l2 := chI_lt hF _ _ (by omega) q' hr1
      have hd : ∀ j (hj : j < rs.length), rs.getD j [] = rs[j] := fun j hj => by rw [List.getD_eq_getElem?_getD, List.getElem?_eq_getElem hj]; rfl
      rw [hd q l1] at hq2
      rw [hd q' l2] at hr2
      obtain ⟨p1, p2⟩ := List.pairwise_flatten.1 hp
      have hqq : q = q' := by
        rcases Nat.lt_trichotomy q q' with h3 | h3 | h3
        · have := List.pairwise_iff_getElem.1 p2 q q' l1 l2 h3 i hq2 i hr2; omega
        · exact h3
        · have := List.pairwise_iff_getElem.1 p2 q' q l2 l1 h3 i hr2 i hq2; omega
      subst hqq
      have := chI_one hF (fun j j' hj hj' h h0 => fol_inj hM hp hn hj hj' h h0) (by omega : j < rs.length) (by omega : k < rs.length) h2 hc q q (Nat.le_refl _) hq1 hr1
      omega
    · simp only [if_true]
      exact ih
theorem seqsS_dis {o M lv : List Int} {n : Nat} {e : Int} (hM : MOK o M) (hon : o.length = n) : (seqsS o M lv n e).Pairwise fun a b => ∀ i ∈ a.l, i ∉ b.l := by
  unfold seqsS
  refine sqsU_dis hM ?_ ?_ _ (Nat.le_refl _)
  · rw [keptL_grp]; exact keptL_asc o n
  · rw [keptL_grp]
    intro x hx
    have := keptL_mem o n x hx
    omega
theorem Stp.oth {t o c y c' y' : List Int} {s : Sq} (h : Stp t o s c y c' y') {j : Nat} (hj : (j : Int) ∉ s.l) : c'[j]? = c[j]? ∧ y'[j]? = y[j]? := by
  obtain ⟨c1, c2, h1, h2, h3, h4⟩ := h
  exact ⟨by rw [h3.oth j hj, h2.oth j hj, h1.oth j hj], h4.oth j hj⟩
theorem Stps.oth {t o : List Int} {j : Nat} : ∀ {ss : List Sq} {c y c' y' : List Int}, Stps t o ss c y c' y' → (∀ s ∈ ss, (j : Int) ∉ s.l) → c'[j]? = c[j]? ∧ y'[j]? = y[j]?
  | [], _, _, _, _, ⟨rfl, rfl⟩, _ => ⟨rfl, rfl⟩
  | s :: ss, c, y, c', y', ⟨c1, y1, h1, h2⟩, h => by
    obtain ⟨a1, a2⟩ := h1.oth (h s (List.mem_cons_self ..))
    obtain ⟨b1, b2⟩ := Stps.oth h2 fun x hx => h x (List.mem_cons_of_mem _ hx)
    exact ⟨b1.trans a1, b2.trans a2⟩
theorem Stp.up {t o c y c' y' : List Int} {s : Sq} (h : Stp t o s c y c' y') {n : Nat} (_hs : Pl n s.l) (hc : c.length = n) (_hy : y.length = n) {j : Nat} {a : Int} (ha : y[j]? = some a) : ∃ b, y'[j]? = some b ∧ a ≤ b ∧ b ≤ a + 2 := by
  by_cases hj : (j : Int) ∈ s.l
  · obtain ⟨c1, c2, h1, h2, h3, h4⟩ := h
    obtain ⟨k, hk⟩ := List.mem_iff_getElem?.1 hj
    have h5 := h4.at_ k _ hk
    rw [Int.toNat_natCast] at h5
    have hc' : c'.length = n := h3.len.trans (h2.len.trans (h1.len.trans hc))
    have hu : (s.l.map (lvl y))[k]? = some a := by
      rw [List.getElem?_map, hk]
      simp only [Option.map_some, lvl, Int.toNat_natCast, List.getD_eq_getElem?_getD, ha]
      rfl
    have hx : (s.l.map (lvl c'))[k]? = some (lvl c' j) := by rw [List.getElem?_map, hk]; rfl
    have hi := impL_get (lev := s.lev) hu hx
    have := impS_rng s.lev (lvl c' j)
    exact ⟨_, h5.trans hi, by omega, by omega⟩
  · exact ⟨a, by rw [(h.oth hj).2]; exact ha, by omega, by omega⟩
theorem Stps.up {t o : List Int} {n : Nat} : ∀ {ss : List Sq} {c y c' y' : List Int}, Stps t o ss c y c' y' → (∀ s ∈ ss, Pl n s.l) → ss.Pairwise (fun a b => ∀ i ∈ a.l, i ∉ b.l) → c.length = n → y.length = n → ∀ {j : Nat} {a : Int}, y[j]? = some a → ∃ b, y'[j]? = some b ∧ a ≤ b ∧ b ≤ a + 2
  | [], _, _, _, _, ⟨rfl, rfl⟩, _, _, _, _, j, a, ha => ⟨a, ha, by omega, by omega⟩
  | s :: ss, c, y, c', y', ⟨c1, y1, h1, h2⟩, hs, hp, hc, hy, j, a, ha => by
    obtain ⟨p1, p2⟩ := List.pairwise_cons.1 hp
    by_cases hj : (j : Int) ∈ s.l
    · obtain ⟨b, hb1, hb2⟩ := h1.up (hs s (List.mem_cons_self ..)) hc hy ha
      refine ⟨b, ?_, hb2⟩
      rw [(Stps.oth h2 fun x hx hjx => p1 x hx _ hj hjx).2]
      exact hb1
    · have h3 := (h1.oth hj).2
      obtain ⟨l1, l2⟩ := h1.len
      exact Stps.up h2 (fun x hx => hs x (List.mem_cons_of_mem _ hx)) p2 (l1.trans hc) (l2.trans hy) (by rw [h3]; exact ha)
theorem Stps.len {t o : List Int} : ∀ {ss : List Sq} {c y c' y' : List Int}, Stps t o ss c y c' y' → c'.length = c.length ∧ y'.length = y.length
  | [], _, _, _, _, ⟨rfl, rfl⟩ => ⟨rfl, rfl⟩
  | s :: ss, _, _, _, _, ⟨c1, y1, h1, h2⟩ => by
    obtain ⟨a1, a2⟩ := h1.len
    obtain ⟨b1, b2⟩ := Stps.len h2
    exact ⟨b1.trans a1, b2.trans a2⟩
theorem remL_rng {P : Int → Prop} : ∀ (o y : List Int) (p : Int), P p → (∀ a ∈ y, P a) → ∀ a ∈ remL p o y, P a
  | [], _, _, _, _, a, ha => by simp [remL] at ha
  | _ :: _, [], _, _, _, a, ha => by simp [remL] at ha
  | x :: o, b :: y, p, hp, hy, a, ha => by
    rw [remL] at ha
    have hv : P (if gone x then p else b) := by
      split
      · exact hp
      · exact hy b (List.mem_cons_self ..)
    rcases List.mem_cons.1 ha with rfl | ha
    · exact hv
    · exact remL_rng o y _ hv (fun c hc => hy c (List.mem_cons_of_mem _ hc)) a ha
theorem trl_rng {P : Int → Prop} (e : Int) (he : P e) : ∀ (o y : List Int), (∀ a ∈ y, P a) → ∀ a ∈ (trl e o y).2, P a
  | [], _, _, a, ha => by simp [trl] at ha
  | _ :: _, [], _, a, ha => by simp [trl] at ha
  | x :: o, b :: y, hy, a, ha => by
    rw [trl] at ha
    rcases List.mem_cons.1 ha with rfl | ha
    · split
      · exact he
      · exact hy b (List.mem_cons_self ..)
    · exact trl_rng e he o y (fun c hc => hy c (List.mem_cons_of_mem _ hc)) a ha
/-- The levels: as many as runes, from 0 to 127. -/
theorem lev_rng {t : List Int} {base : Int} {r : List Int} (h : LevR t base r) : r.length = t.length ∧ ∀ x ∈ r, 0 ≤ x ∧ x ≤ 127 := by
  obtain ⟨M, c', y', hM, hst, rfl⟩ := h
  have he : 0 ≤ baseS bidi t base ∧ baseS bidi t base ≤ 1 := by
    unfold baseS
    split
    · omega
    · have := fs_val (t.map bidi).length (t.map bidi)
      unfold fs
      omega
  have hol : (t.map bidi).length = t.length := by simp
  generalize t.map bidi = o at *
  generalize baseS bidi t base = e at *
  have hxl := expl_len e o
  have hlr := expl_rng he o
  have hcl : ((expl e o).map (·.2)).length = t.length := by simp [hxl, hol]
  have hll : ((expl e o).map (·.1)).length = t.length := by simp [hxl, hol]
  obtain ⟨l1, l2⟩ := Stps.len hst
  have hoy : o.length = y'.length := by omega
  have hrl := remL_len o y' e hoy
  refine ⟨by rw [trl_len e o _ (by omega)]; omega, ?_⟩
  refine trl_rng (P := fun x => 0 ≤ x ∧ x ≤ 127) e ⟨he.1, by omega⟩ _ _ (remL_rng (P := fun x => 0 ≤ x ∧ x ≤ 127) _ _ _ ⟨he.1, by omega⟩ ?_)
  intro x hx
  obtain ⟨j, hj⟩ := List.mem_iff_getElem?.1 hx
  have hjl := (List.getElem?_eq_some_iff.1 hj).1
  obtain ⟨a, ha⟩ : ∃ a, ((expl e o).map (·.1))[j]? = some a := ⟨_, List.getElem?_eq_getElem (by omega)⟩
  obtain ⟨b, hb1, hb2, hb3⟩ := Stps.up hst (fun s hs => (sq_facts hM hol hll hlr hs).1) (seqsS_dis hM hol) hcl hll ha
  rw [hj] at hb1
  cases hb1
  have := hlr a (List.mem_of_getElem? ha)
  omega
/-- a, and b right behind it. -/
def Adj (l : List Int) (a b : Int) : Prop := ∃ u v, l = u ++ a :: b :: v
theorem Adj.pre {l : List Int} {a b : Int} (h : Adj l a b) (p : List Int) : Adj (p ++ l) a b := by
  obtain ⟨u, v, rfl⟩ := h
  exact ⟨p ++ u, v, by simp⟩
theorem rr_acc (p : Int → Bool) : ∀ (l acc : List Int), ∃ u v, rr p acc l = u ++ (acc ++ v)
  | [], acc => ⟨[], [], by simp [rr]⟩
  | x :: l, acc => by
    cases hx : p x
    · rw [rr_stop hx]
      exact ⟨[], x :: rr p [] l, by simp⟩
    · have e : rr p acc (x :: l) = rr p (x :: acc) l := by simp [rr, hx]
      obtain ⟨u, v, h⟩ := rr_acc p l (x :: acc)
      rw [e, h]
      exact ⟨u ++ [x], v, by simp⟩
theorem rr_adj {p : Int → Bool} {a b : Int} (hab : p a = p b) (v : List Int) : ∀ (u acc : List Int), if p a then Adj (rr p acc (u ++ a :: b :: v)) b a else Adj (rr p acc (u ++ a :: b :: v)) a b
  | [], acc => by
    cases ha : p a
    · have hb : p b = false := by rw [← hab, ha]
      simp only [Bool.false_eq_true, if_false, List.nil_append]
      rw [rr_stop ha, rr_stop hb]
      exact ⟨acc, rr p [] v, by simp⟩
    · have hb : p b = true := by rw [← hab, ha]
      simp only [if_true, List.nil_append]
      have e : rr p acc (a :: b :: v) = rr p (b :: a :: acc) v := by simp [rr, ha, hb]
      obtain ⟨u, w, h⟩ := rr_acc p v (b :: a :: acc)
      rw [e, h]
      exact ⟨u, acc ++ w, by simp⟩
  | x :: u, acc => by
    have ih := fun acc => rr_adj hab v u acc
    cases hx : p x
    · rw [List.cons_append, rr_stop hx]
      have := ih []
      split <;> rename_i h
      · rw [if_pos h] at this
        exact (this.pre [x]).pre acc
      · rw [if_neg h] at this
        exact (this.pre [x]).pre acc
    · have e : rr p acc (x :: (u ++ a :: b :: v)) = rr p (x :: acc) (u ++ a :: b :: v) := by simp [rr, hx]
      rw [List.cons_append, e]
      exact ih _
theorem Adj.rr {p : Int → Bool} {l : List Int} {a b : Int} (h : Adj l a b) (hab : p a = p b) : if p a then Adj (rr p [] l) b a else Adj (rr p [] l) a b := by
  obtain ⟨u, v, rfl⟩ := h
  exact rr_adj hab v u []
end Bi
end Go.Ab
/- One isolate in a plain text: its sequences. -/
namespace Go.Ab
open Go.Proofs
namespace Bi
/-- The level within the isolate. -/
def inl (e c0 : Int) : Int := nxt e (decide (c0 = 20))
/-- The numbers from i on below k. -/
def rng (i k : Nat) : List Int := (nums k).drop i
theorem WB_map {c l s c' : List Int} (h : WB c l s c') (hl : ∀ i ∈ l, 0 ≤ i ∧ i < c.length) : l.map (lvl c') = s := by
  apply List.ext_getElem?
  intro k
  cases hk : l[k]? with
  | none =>
    have := List.getElem?_eq_none_iff.1 hk
    rw [List.getElem?_eq_none (by simpa using this), List.getElem?_eq_none (by rw [h.sl]; exact this)]
  | some i =>
    have h1 := h.at_ k i hk
    have h2 := hl i (List.mem_of_getElem? hk)
    rw [List.getElem?_map, hk, ← h1]
    simp only [Option.map_some, lvl, List.getD_eq_getElem?_getD]
    rw [List.getElem?_eq_getElem (by rw [h.len]; omega)]
    rfl
end Bi
end Go.Ab
/- One isolate in a plain text: the sequences, and the levels outside. -/
namespace Go.Ab
open Go.Proofs
namespace Bi
theorem con_yes {F : Nat → Int} {N k j : Nat} (hj : j < N) (h : F j = (k : Int)) : con F N k = true := by
  unfold con
  rw [List.any_eq_true]
  exact ⟨j, by simpa using hj, by simpa using h⟩
end Bi
end Go.Ab
/- One isolate in a plain text: the levels outside do not depend on what is inside. -/
namespace Go.Ab
open Go.Proofs
namespace Bi
theorem trl_drop (e : Int) : ∀ (o y : List Int) (k : Nat), o.length = y.length → (trl e o y).2.drop k = (trl e (o.drop k) (y.drop k)).2
  | [], [], k, _ => by simp [trl]
  | x :: o, a :: y, 0, _ => rfl
  | x :: o, a :: y, k + 1, h => by
    simp at h
    have ih := trl_drop e o y k h
    simp only [trl, List.drop_succ_cons]
    exact ih
  | [], _ :: _, _, h => by simp at h
  | _ :: _, [], _, h => by simp at h
theorem trl_at {e : Int} {o y : List Int} {k : Nat} {a : Int} (h : o.length = y.length) (ha : y[k]? = some a) : (trl e o y).2[k]? = some (if (trl e (o.drop k) (y.drop k)).1 then e else a) := by
  have hk := (List.getElem?_eq_some_iff.1 ha).1
  have h1 := trl_drop e o y k h
  have h2 : (trl e o y).2[k]? = ((trl e o y).2.drop k)[0]? := by rw [List.getElem?_drop]; rfl
  rw [h2, h1, List.drop_eq_getElem_cons (by omega), List.drop_eq_getElem_cons hk]
  have h3 : y[k] = a := (List.getElem?_eq_some_iff.1 ha).2
  simp only [trl, List.getElem?_cons_zero, h3]
end Bi
end Go.Ab
/- The levels of the program are those of the reference, in plain Lean. -/
namespace Go.Ab.Bi
open Go.Proofs
/-- One sequence, by the reference. -/
noncomputable def rseq (t o : List Int) (s : Sq) (c : List Int) : List Int :=
  neuF (strS s.lev) s.eos s.sos 0 (brks (strS s.lev) s.sos (s.l.map (lvl o)) (prsS ((rweak s.sos (s.l.map (lvl o)) (s.l.map (lvl c))).zip (s.l.map (lvl t)))) (rweak s.sos (s.l.map (lvl o)) (s.l.map (lvl c))))
def RStps (t o : List Int) : List Sq → List Int → List Int → Prop
  | [], c, c' => c' = c
  | s :: r, c, c' => ∃ c1, WB c s.l (rseq t o s c) c1 ∧ RStps t o r c1 c'
theorem RStps.snoc {t o : List Int} : ∀ {l : List Sq} {s : Sq} {c c1 c2 : List Int}, RStps t o l c c1 → WB c1 s.l (rseq t o s c1) c2 → RStps t o (l ++ [s]) c c2
  | [], _, _, _, _, rfl, h => ⟨_, h, rfl⟩
  | _ :: _, _, _, _, _, ⟨a, h1, h2⟩, h => ⟨a, h1, h2.snoc h⟩
theorem WB.trans {c l X c1 Y c2 : List Int} (h : WB c l X c1) (g : WB c1 l Y c2) : WB c l Y c2 :=
  ⟨g.len.trans h.len, g.at_, fun j hj => (g.oth j hj).trans (h.oth j hj), g.sl⟩
theorem WB.uniq {c l X c1 c2 : List Int} (h : WB c l X c1) (g : WB c l X c2) : c1 = c2 := by
  apply List.ext_getElem?
  intro j
  by_cases hj : (j : Int) ∈ l
  · obtain ⟨k, hk⟩ := List.mem_iff_getElem?.1 hj
    have h1 := h.at_ k _ hk
    have h2 := g.at_ k _ hk
    rw [Int.toNat_natCast] at h1 h2
    rw [h1, h2]
  · rw [h.oth j hj, g.oth j hj]
theorem RStps.uniq {t o : List Int} : ∀ {ss : List Sq} {c c1 c2 : List Int}, RStps t o ss c c1 → RStps t o ss c c2 → c1 = c2
  | [], _, _, _, h, g => h.trans g.symm
  | s :: ss, c, c1, c2, ⟨a, h1, h2⟩, ⟨b, g1, g2⟩ => by
    obtain rfl := h1.uniq g1
    exact h2.uniq g2
theorem lvl_of {c : List Int} {i : Nat} (h : i < c.length) : c[i]? = some (lvl c (i : Int)) := by
  rw [lvl, List.getD_eq_getElem?_getD, Int.toNat_natCast, List.getElem?_eq_getElem h]
  rfl
theorem OV_of {d : Int} {f g : Int → Int} : ∀ (l : List Int), (∀ i ∈ l, g i = f i ∨ d = g i) → OV d (l.map f) (l.map g)
  | [], _ => trivial
  | i :: l, h => ⟨h i (List.mem_cons_self ..), OV_of l fun j hj => h j (List.mem_cons_of_mem _ hj)⟩
theorem map_bidi {t l : List Int} {n : Nat} (ht : t.length = n) (hl : Pl n l) : l.map (lvl (t.map bidi)) = (l.map (lvl t)).map bidi := by
  rw [List.map_map]
  apply List.map_congr_left
  intro i hi
  have := hl.rng i hi
  simp only [Function.comp, lvl, List.getD_eq_getElem?_getD, List.getElem?_map]
  rw [List.getElem?_eq_getElem (by omega)]
  rfl
structure SqH (t c y : List Int) (n : Nat) (s : Sq) : Prop where
  pl : Pl n s.l
  len : s.l.length ≤ 2000
  sos : s.sos = 0 ∨ s.sos = 1
  cls : ∀ i ∈ s.l, lvl c i = lvl (t.map bidi) i ∨ strS s.lev = lvl c i
  lev : ∀ i ∈ s.l, lvl y i = s.lev
  stay : ∀ i ∈ s.l, gone (lvl (t.map bidi) i) = false
theorem strS01 (x : Int) : strS x = 0 ∨ strS x = 1 := by
  unfold strS
  split
  · exact .inr rfl
  · exact .inl rfl
theorem Stp.rs {t c y c' y' : List Int} {n : Nat} {s : Sq} (h : Stp t (t.map bidi) s c y c' y') (ht : t.length = n) (hc : c.length = n) (hy : y.length = n) (H : SqH t c y n s) :
    WB c s.l (rseq t (t.map bidi) s c) c' ∧ ∀ i ∈ s.l, fin4 (lvl c' i) ∧ lvl y' i = s.lev + impS s.lev (lvl c' i) := by
  have hlen := h.len
  obtain ⟨c1, c2, h1, h2, h3, h4⟩ := h
  have r0 : ∀ i ∈ s.l, 0 ≤ i ∧ i < c.length := fun i hi => by have := H.pl.rng i hi; omega
  have r1 : ∀ i ∈ s.l, 0 ≤ i ∧ i < c1.length := fun i hi => by have := r0 i hi; have := h1.len; omega
  have m1 := WB_map h1 r0
  have m2 := WB_map h2 r1
  have r2 : ∀ i ∈ s.l, 0 ≤ i ∧ i < c2.length := fun i hi => by have := r1 i hi; have := h2.len; omega
  have m3 := WB_map h3 r2
  rw [m1] at h2 m2
  rw [m2] at h3 m3
  have hW := (h1.trans h2).trans h3
  have hmb := map_bidi ht H.pl
  have hov := OV_of s.l H.cls
  have hv : ∀ x ∈ s.l.map (lvl c), vC x = true ∨ x = 8 := by
    intro x hx
    obtain ⟨i, hi, rfl⟩ := List.mem_map.1 hx
    have hir := H.pl.rng i hi
    rcases H.cls i hi with hq | hq
    · have hg := H.stay i hi
      rw [hq]
      have e1 : lvl (t.map bidi) i = bidi (lvl t i) := by
        simp only [lvl, List.getD_eq_getElem?_getD, List.getElem?_map]
        rw [List.getElem?_eq_getElem (by omega)]
        rfl
      rw [e1] at hg ⊢
      have hr := bidi_rng (lvl t i)
      by_cases h8 : bidi (lvl t i) = 8
      · exact .inr h8
      · left
        unfold vC
        simp [hg, h8, hr.1, hr.2]
    · left
      rw [← hq]
      rcases strS01 s.lev with h0 | h0 <;> rw [h0] <;> rfl
  have hts : (s.l.map (lvl t)).length ≤ 2000 := by have := H.len; simpa using this
  rw [hmb] at hov hW m3
  obtain ⟨k1, k2⟩ := seq_rel (e := s.eos) (strS01 s.lev) H.sos hts hov hv
  have hr : rseq t (t.map bidi) s c = neuF (strS s.lev) s.eos s.sos 0 (brks (strS s.lev) s.sos ((s.l.map (lvl t)).map bidi) (prsS ((rweak s.sos ((s.l.map (lvl t)).map bidi) (s.l.map (lvl c))).zip (s.l.map (lvl t)))) (rweak s.sos ((s.l.map (lvl t)).map bidi) (s.l.map (lvl c)))) := by
    unfold rseq
    rw [hmb]
  rw [← m3] at k2
  refine ⟨by rw [hr, ← k1]; exact hW, fun i hi => ⟨k2 _ (List.mem_map_of_mem hi), ?_⟩⟩
  obtain ⟨k, hk⟩ := List.mem_iff_getElem?.1 hi
  have hir := H.pl.rng i hi
  have h5 := h4.at_ k i hk
  have e1 : (s.l.map (lvl y))[k]? = some (lvl y i) := by rw [List.getElem?_map, hk]; rfl
  have e2 : (s.l.map (lvl c'))[k]? = some (lvl c' i) := by rw [List.getElem?_map, hk]; rfl
  rw [impL_get e1 e2, H.lev i hi] at h5
  show y'.getD i.toNat 0 = _
  rw [List.getD_eq_getElem?_getD, h5]
  rfl
theorem SqH.keep {t c y c1 y1 : List Int} {n : Nat} {s : Sq} (H : SqH t c y n s) (h : ∀ i ∈ s.l, c1[i.toNat]? = c[i.toNat]? ∧ y1[i.toNat]? = y[i.toNat]?) : SqH t c1 y1 n s := by
  have e : ∀ i ∈ s.l, lvl c1 i = lvl c i ∧ lvl y1 i = lvl y i := fun i hi => by
    have := h i hi
    simp only [lvl, List.getD_eq_getElem?_getD, this.1, this.2, and_self]
  exact ⟨H.pl, H.len, H.sos, fun i hi => by rw [(e i hi).1]; exact H.cls i hi, fun i hi => by rw [(e i hi).2]; exact H.lev i hi, H.stay⟩
theorem Stps.rs {t : List Int} {n : Nat} (ht : t.length = n) : ∀ {ss : List Sq} {c y c' y' : List Int}, Stps t (t.map bidi) ss c y c' y' → c.length = n → y.length = n → (∀ s ∈ ss, SqH t c y n s) → (ss.Pairwise fun a b => ∀ i ∈ a.l, i ∉ b.l) →
    RStps t (t.map bidi) ss c c' ∧ ∀ s ∈ ss, ∀ i ∈ s.l, fin4 (lvl c' i) ∧ lvl y' i = s.lev + impS s.lev (lvl c' i)
  | [], _, _, _, _, ⟨h1, h2⟩, _, _, _, _ => ⟨h1, fun s hs => by simp at hs⟩
  | s :: ss, c, y, c', y', ⟨c1, y1, h1, h2⟩, hc, hy, H, hd => by
    obtain ⟨d1, d2⟩ := List.pairwise_cons.1 hd
    have hl := h1.len
    obtain ⟨k1, k2⟩ := h1.rs ht hc hy (H s (List.mem_cons_self ..))
    have H' : ∀ s' ∈ ss, SqH t c1 y1 n s' := fun s' hs' => (H s' (List.mem_cons_of_mem _ hs')).keep fun i hi => by
      have hir := (H s' (List.mem_cons_of_mem _ hs')).pl.rng i hi
      have hn : ((i.toNat : Nat) : Int) ∉ s.l := by
        rw [Int.toNat_of_nonneg hir.1]
        intro h
        exact d1 s' hs' i h hi
      exact h1.oth hn
    obtain ⟨g1, g2⟩ := Stps.rs ht h2 (hl.1.trans hc) (hl.2.trans hy) H' d2
    refine ⟨⟨c1, k1, g1⟩, fun s' hs' i hi => ?_⟩
    rcases List.mem_cons.1 hs' with rfl | hs'
    · have hir := (H s' (List.mem_cons_self ..)).pl.rng i hi
      have hn : ∀ s2 ∈ ss, ((i.toNat : Nat) : Int) ∉ s2.l := fun s2 h2 => by
        rw [Int.toNat_of_nonneg hir.1]
        exact d1 s2 h2 i hi
      obtain ⟨o1, o2⟩ := Stps.oth h2 hn
      have := k2 i hi
      simp only [lvl, List.getD_eq_getElem?_getD] at this ⊢
      rw [o1, o2]
      exact this
    · exact g2 s' hs' i hi
/-- How the reference raises a level. -/
def raiS (lv c : Int) : Int := if lv % 2 = 0 ∧ c = 1 then lv + 1 else if lv % 2 = 0 ∧ (c = 6 ∨ c = 3) then lv + 2 else if lv % 2 = 1 ∧ c ≠ 1 then lv + 1 else lv
theorem raiS_eq {lv c : Int} (h : fin4 c) : raiS lv c = lv + impS lv c := by
  unfold raiS impS
  unfold fin4 at h
  by_cases c1 : lv % 2 = 0 ∧ c = 1
  · rw [if_pos c1, if_pos c1]
  · rw [if_neg c1, if_neg c1]
    by_cases c2 : lv % 2 = 0 ∧ (c = 6 ∨ c = 3)
    · rw [if_pos c2, if_pos c2]
    · rw [if_neg c2, if_neg c2]
      by_cases c3 : lv % 2 = 1 ∧ c ≠ 1
      · rw [if_pos c3, if_pos (by omega)]
      · rw [if_neg c3, if_neg (by omega)]
        omega
theorem remL_congr : ∀ {o y z : List Int} {p : Int}, o.length = y.length → o.length = z.length → (∀ (i : Nat) (x : Int), o[i]? = some x → gone x = false → y[i]? = z[i]?) → remL p o y = remL p o z
  | [], [], [], _, _, _, _ => rfl
  | x :: o, a :: y, b :: z, p, h1, h2, h => by
    have e : (if gone x then p else a) = if gone x then p else b := by
      cases hg : gone x
      · have := h 0 x rfl hg
        simp at this
        simp [this]
      · rfl
    have IH := fun p => remL_congr (p := p) (o := o) (y := y) (z := z) (by simpa using h1) (by simpa using h2) fun i x hx hg => h (i + 1) x hx hg
    simp only [remL, e, IH]
  | [], _ :: _, _, _, h, _, _ => by simp at h
  | [], [], _ :: _, _, _, h, _ => by simp at h
  | _ :: _, [], _, _, h, _, _ => by simp at h
  | _ :: _, _ :: _, [], _, _, h, _ => by simp at h
/-- The separators give the base level, and the blanks ahead of them. -/
def rtr2 (o : List Int) (e : Int) : Nat → List Int → List Int
  | 0, lv => lv
  | k + 1, lv => if o.getD k 0 = 11 ∨ o.getD k 0 = 10 then rtrl o e k ((rtr2 o e k lv).set k e) else rtr2 o e k lv
theorem rtr2_len (o : List Int) (e : Int) (lv : List Int) : ∀ k, (rtr2 o e k lv).length = lv.length
  | 0 => rfl
  | k + 1 => by
    unfold rtr2
    split
    · rw [rtrl_len, List.length_set, rtr2_len o e lv k]
    · exact rtr2_len o e lv k
def blk (o : List Int) (i k : Nat) : Prop := ∀ j, i ≤ j → j < k → blankB (o.getD j 0) = true
theorem rtrl_get (o : List Int) (e : Int) : ∀ (k : Nat) (lv : List Int) (i : Nat), k ≤ lv.length → (rtrl o e k lv)[i]? = lv[i]? ∧ ¬ (i < k ∧ blk o i k) ∨ (rtrl o e k lv)[i]? = some e ∧ i < k ∧ blk o i k
  | 0, lv, i, _ => .inl ⟨rfl, by omega⟩
  | k + 1, lv, i, hk => by
    unfold rtrl
    by_cases hb : blankB (o.getD k 0) = true
    · rw [if_pos hb]
      have IH := rtrl_get o e k (lv.set k e) i (by simp; omega)
      by_cases hik : i = k
      · subst hik
        rcases IH with ⟨h1, -⟩ | ⟨-, h2, -⟩
        · right
          refine ⟨by rw [h1, List.getElem?_set_self (by omega)], by omega, fun j hj1 hj2 => ?_⟩
          obtain rfl : j = i := by omega
          exact hb
        · omega
      · rcases IH with ⟨h1, h2⟩ | ⟨h1, h2, h3⟩
        · left
          refine ⟨by rw [h1, List.getElem?_set_ne (Ne.symm hik)], fun h => h2 ⟨by omega, fun j hj1 hj2 => h.2 j hj1 (by omega)⟩⟩
        · right
          refine ⟨h1, by omega, fun j hj1 hj2 => ?_⟩
          by_cases hjk : j = k
          · rw [hjk]; exact hb
          · exact h3 j hj1 (by omega)
    · rw [if_neg hb]
      exact .inl ⟨rfl, fun h => hb (h.2 k (by omega) (by omega))⟩
/-- Does a separator come behind blanks (below k), or the end? -/
def hit (o : List Int) (n k i : Nat) : Prop := (∃ j, j < k ∧ i ≤ j ∧ (o.getD j 0 = 11 ∨ o.getD j 0 = 10) ∧ blk o i j) ∨ (i < n ∧ blk o i n)
theorem rtr2_get {o z : List Int} {e : Int} {n : Nat} (hz : z.length = n) (i : Nat) (hi : i < n) : ∀ k, k ≤ n → (rtr2 o e k (rtrl o e n z))[i]? = z[i]? ∧ ¬ hit o n k i ∨ (rtr2 o e k (rtrl o e n z))[i]? = some e ∧ hit o n k i
  | 0, _ => by
    rcases rtrl_get o e n z i (by omega) with ⟨h1, h2⟩ | ⟨h1, h2⟩
    · left
      refine ⟨h1, fun h => ?_⟩
      rcases h with ⟨j, h, _⟩ | h
      · omega
      · exact h2 h
    · exact .inr ⟨h1, .inr h2⟩
  | k + 1, hk => by
    have IH := rtr2_get hz (e := e) (o := o) i hi k (by omega)
    unfold rtr2
    have hl : (rtr2 o e k (rtrl o e n z)).length = n := by rw [rtr2_len, rtrl_len, hz]
    by_cases hs : o.getD k 0 = 11 ∨ o.getD k 0 = 10
    · rw [if_pos hs]
      rcases rtrl_get o e k ((rtr2 o e k (rtrl o e n z)).set k e) i (by simp; omega) with ⟨h1, h2⟩ | ⟨h1, h2, h3⟩
      · rw [h1]
        by_cases hik : i = k
        · subst hik
          right
          refine ⟨by rw [List.getElem?_set_self (by omega)], .inl ⟨i, by omega, by omega, hs, fun j _ _ => by omega⟩⟩
        · rw [List.getElem?_set_ne (Ne.symm hik)]
          rcases IH with ⟨g1, g2⟩ | ⟨g1, g2⟩
          · left
            refine ⟨g1, fun h => ?_⟩
            rcases h with ⟨j, a1, a2, a3, a4⟩ | h
            · by_cases hjk : j = k
              · subst hjk
                exact h2 ⟨by omega, a4⟩
              · exact g2 (.inl ⟨j, by omega, a2, a3, a4⟩)
            · exact g2 (.inr h)
          · right
            refine ⟨g1, ?_⟩
            rcases g2 with ⟨j, a1, a2⟩ | h
            · exact .inl ⟨j, by omega, a2⟩
            · exact .inr h
      · exact .inr ⟨h1, .inl ⟨k, by omega, by omega, hs, h3⟩⟩
    · rw [if_neg hs]
      rcases IH with ⟨g1, g2⟩ | ⟨g1, g2⟩
      · left
        refine ⟨g1, fun h => ?_⟩
        rcases h with ⟨j, a1, a2, a3, a4⟩ | h
        · by_cases hjk : j = k
          · subst hjk; exact hs a3
          · exact g2 (.inl ⟨j, by omega, a2, a3, a4⟩)
        · exact g2 (.inr h)
      · right
        refine ⟨g1, ?_⟩
        rcases g2 with ⟨j, a1, a2⟩ | h
        · exact .inl ⟨j, by omega, a2⟩
        · exact .inr h
theorem trF_hit {o z : List Int} {e : Int} {n : Nat} (ho : o.length = n) (hz : z.length = n) : ∀ (m i : Nat), n - i = m → i ≤ n → (trF e o z i = true ↔ (∃ j, j < n ∧ i ≤ j ∧ (o.getD j 0 = 11 ∨ o.getD j 0 = 10) ∧ blk o i j) ∨ blk o i n)
  | 0, i, hm, hi => by
    obtain rfl : i = n := by omega
    have := (trU_all (e := e) (ho.trans hz.symm)).2
    rw [hz] at this
    rw [this]
    simp only [true_iff]
    exact .inr fun j h1 h2 => by omega
  | m + 1, i, hm, hi => by
    have hin : i < n := by omega
    have hx : o[i]? = some (o.getD i 0) := by rw [List.getD_eq_getElem?_getD, List.getElem?_eq_getElem (by omega)]; rfl
    have IH := trF_hit ho hz (e := e) m (i + 1) (by omega) (by omega)
    rw [trF_step (ho.trans hz.symm) hx]
    generalize hX : o.getD i 0 = x at *
    unfold trB
    by_cases hs : x = 11 ∨ x = 10
    · rw [if_pos hs]
      simp only [true_iff]
      exact .inl ⟨i, hin, by omega, by rw [hX]; exact hs, fun j _ _ => by omega⟩
    · rw [if_neg hs]
      by_cases hb : blankB x = true
      · rw [if_pos hb, IH]
        constructor
        · rintro (⟨j, a1, a2, a3, a4⟩ | h)
          · refine .inl ⟨j, a1, by omega, a3, fun q q1 q2 => ?_⟩
            by_cases hqi : q = i
            · rw [hqi, hX]; exact hb
            · exact a4 q (by omega) q2
          · refine .inr fun q q1 q2 => ?_
            by_cases hqi : q = i
            · rw [hqi, hX]; exact hb
            · exact h q (by omega) q2
        · rintro (⟨j, a1, a2, a3, a4⟩ | h)
          · have hji : j ≠ i := by rintro rfl; rw [hX] at a3; exact hs a3
            exact .inl ⟨j, a1, by omega, a3, fun q q1 q2 => a4 q (by omega) q2⟩
          · exact .inr fun q q1 q2 => h q (by omega) q2
      · rw [if_neg hb]
        constructor
        · intro h; cases h
        · rintro (⟨j, a1, a2, a3, a4⟩ | h)
          · have hji : j ≠ i := by rintro rfl; rw [hX] at a3; exact hs a3
            have := a4 i (by omega) (by omega)
            rw [hX] at this
            exact absurd this hb
          · have := h i (by omega) hin
            rw [hX] at this
            exact absurd this hb
theorem rtr2_eq {o z : List Int} {e : Int} {n : Nat} (ho : o.length = n) (hz : z.length = n) : rtr2 o e n (rtrl o e n z) = (trl e o z).2 := by
  have hoz := ho.trans hz.symm
  apply List.ext_getElem?
  intro i
  by_cases hi : i < n
  · obtain ⟨a, ha⟩ : ∃ a, z[i]? = some a := ⟨_, List.getElem?_eq_getElem (by omega)⟩
    rw [trl_at hoz ha]
    have hF := trF_hit (e := e) ho hz (n - i) i rfl (by omega)
    unfold trF at hF
    rcases rtr2_get (o := o) (e := e) hz i hi n (Nat.le_refl _) with ⟨h1, h2⟩ | ⟨h1, h2⟩
    · rw [h1, ha, if_neg]
      intro h
      rcases hF.1 h with h | h
      · exact h2 (.inl h)
      · exact h2 (.inr ⟨hi, h⟩)
    · rw [h1, if_pos]
      apply hF.2
      rcases h2 with h | h
      · exact .inl h
      · exact .inr h.2
  · rw [List.getElem?_eq_none (by rw [rtr2_len, rtrl_len]; omega), List.getElem?_eq_none (by rw [trl_len e o z hoz]; omega)]
/-- The matching of a text. -/
def Mc (o : List Int) : List Int := (List.range o.length).map (mt o)
theorem Mc_ok (o : List Int) : MOK o (Mc o) := ⟨by simp [Mc], fun i x hx _ => by
  have := (List.getElem?_eq_some_iff.1 hx).1
  simp [Mc, this]⟩
theorem fol_M {o M : List Int} {rs : List (List Int)} (hM : MOK o M) (hn : ∀ x ∈ rs.flatten, 0 ≤ x ∧ x < o.length) : fol o M rs = fol o (Mc o) rs := by
  funext j
  unfold fol
  cases hz : (rs.getD j []).getLast? with
  | none => rfl
  | some z =>
    simp only
    have hj : j < rs.length := by
      by_cases hj : j < rs.length
      · exact hj
      · rw [List.getD_eq_getElem?_getD, List.getElem?_eq_none (by omega)] at hz
        simp at hz
    rw [getD_at hj] at hz
    have hzr := hn z (List.mem_flatten.2 ⟨_, List.getElem_mem hj, List.mem_of_getLast? hz⟩)
    cases hi : ini (o.getD z.toNat 0)
    · rfl
    · have ho : o[z.toNat]? = some (o.getD z.toNat 0) := by rw [List.getD_eq_getElem?_getD, List.getElem?_eq_getElem (by omega)]; rfl
      have e1 := hM.at_ z.toNat _ ho hi
      have e2 := (Mc_ok o).at_ z.toNat _ ho hi
      have e3 : M.getD z.toNat 0 = (Mc o).getD z.toNat 0 := by rw [List.getD_eq_getElem?_getD, List.getD_eq_getElem?_getD, e1, e2]
      rw [e3]
theorem seqs_M {o M lv : List Int} {n : Nat} {e : Int} (hM : MOK o M) (hon : o.length = n) : seqsS o M lv n e = seqsS o (Mc o) lv n e := by
  unfold seqsS
  rw [fol_M hM]
  rw [keptL_grp]
  intro x hx
  have := keptL_mem o n x hx
  omega
/-- The levels of the reference. -/
def RLevR (t : List Int) (base : Int) (r : List Int) : Prop :=
  ∃ c', RStps t (t.map bidi) (seqsS (t.map bidi) (Mc (t.map bidi)) ((expl (baseS bidi t base) (t.map bidi)).map (·.1)) t.length (baseS bidi t base)) ((expl (baseS bidi t base) (t.map bidi)).map (·.2)) c' ∧
    r = rtr2 (t.map bidi) (baseS bidi t base) t.length (rtrl (t.map bidi) (baseS bidi t base) t.length (remL (baseS bidi t base) (t.map bidi) (List.zipWith raiS ((expl (baseS bidi t base) (t.map bidi)).map (·.1)) c')))
theorem keptL_stay {o : List Int} : ∀ {k : Nat} {x : Int}, x ∈ keptL o k → gone (o.getD x.toNat 0) = false
  | 0, x, h => by simp [keptL] at h
  | k + 1, x, h => by
    unfold keptL at h
    split at h
    · exact keptL_stay h
    · rename_i hg
      rcases List.mem_append.1 h with h | h
      · exact keptL_stay h
      · simp at h
        subst h
        simpa using hg
theorem lev_unique {t : List Int} {base : Int} {r r' : List Int} (ht : t.length ≤ 2000) (h : LevR t base r) (h' : RLevR t base r') : r = r' := by
  have he : 0 ≤ baseS bidi t base ∧ baseS bidi t base ≤ 1 := by
    unfold baseS
    split
    · omega
    · have := fs_val (t.map bidi).length (t.map bidi)
      unfold fs
      omega
  obtain ⟨M, c1, y1, hM, hS, rfl⟩ := h
  obtain ⟨c2, hR, rfl⟩ := h'
  have hon : (t.map bidi).length = t.length := by simp
  generalize baseS bidi t base = e at *
  have hxl := expl_len e (t.map bidi)
  have hcl : ((expl e (t.map bidi)).map (·.2)).length = t.length := by simp [hxl]
  have hll : ((expl e (t.map bidi)).map (·.1)).length = t.length := by simp [hxl]
  have hlr := expl_rng he (t.map bidi)
  have hlen : ∀ {ss : List Sq} {c y c' y' : List Int}, Stps t (t.map bidi) ss c y c' y' → c'.length = c.length ∧ y'.length = y.length := by
    intro ss
    induction ss with
    | nil => rintro c y c' y' ⟨rfl, rfl⟩; exact ⟨rfl, rfl⟩
    | cons s ss ih =>
      rintro c y c' y' ⟨a, b, h1, h2⟩
      have := h1.len
      have := ih h2
      omega
  have hH : ∀ s ∈ seqsS (t.map bidi) M ((expl e (t.map bidi)).map (·.1)) t.length e, SqH t ((expl e (t.map bidi)).map (·.2)) ((expl e (t.map bidi)).map (·.1)) t.length s := by
    intro s hs
    obtain ⟨f1, f2, f3, f4⟩ := sq_facts hM hon hll hlr hs
    have hlev := sq_same he hM hon rfl hs
    have hk : ∀ i ∈ s.l, i ∈ keptL (t.map bidi) t.length := fun i hi => f4.subset hi
    refine ⟨f1, by omega, ?_, fun i hi => ?_, hlev, fun i hi => keptL_stay (hk i hi)⟩
    · have := (sq_ends hM hon hll hs).1
      have e1 : s.sos = (rendS (t.map bidi) ((expl e (t.map bidi)).map (·.1)) e (s.l.headD 0) (s.l.getLastD 0)).1 := by rw [this]
      rw [e1]
      exact strS01 _
    · have hir := f1.rng i hi
      have hx : (t.map bidi)[i.toNat]? = some (lvl (t.map bidi) i) := by rw [lvl, List.getD_eq_getElem?_getD, List.getElem?_eq_getElem (by omega)]; rfl
      obtain ⟨l, c, h1, h2⟩ := expl_cls he hx
      have ec : lvl ((expl e (t.map bidi)).map (·.2)) i = c := by simp [lvl, List.getD_eq_getElem?_getD, h1]
      have el : lvl ((expl e (t.map bidi)).map (·.1)) i = l := by simp [lvl, List.getD_eq_getElem?_getD, h1]
      rw [ec, ← hlev i hi, el]
      rcases h2 with h2 | h2
      · exact .inl h2
      · exact .inr h2.symm
  obtain ⟨k1, k2⟩ := Stps.rs rfl hS hcl hll hH (seqsS_dis hM hon)
  have hcov := fun x hx => seqs_cover (lv := (expl e (t.map bidi)).map (·.1)) (e := e) hM hon (x := x) hx
  rw [seqs_M hM hon] at k1 k2 hcov hH
  obtain rfl := hR.uniq k1
  obtain ⟨l1, l2⟩ := hlen hS
  have hzl : (List.zipWith raiS ((expl e (t.map bidi)).map (·.1)) c2).length = t.length := by simp only [List.length_zipWith]; omega
  rw [rtr2_eq hon (by rw [remL_len _ _ _ (by omega)]; exact hzl)]
  rw [remL_congr (z := List.zipWith raiS ((expl e (t.map bidi)).map (·.1)) c2) (by omega) (by omega) fun i x hx hg => ?_]
  have hin := (List.getElem?_eq_some_iff.1 hx).1
  have hkm : (i : Int) ∈ keptL (t.map bidi) t.length := by
    have key : ∀ k, i < k → (i : Int) ∈ keptL (t.map bidi) k := by
      intro k
      induction k with
      | zero => intro h; omega
      | succ k ih =>
        intro hik
        have e1 : keptL (t.map bidi) (k + 1) = if gone ((t.map bidi).getD k 0) then keptL (t.map bidi) k else keptL (t.map bidi) k ++ [(k : Int)] := rfl
        rw [e1]
        by_cases hk : i = k
        · subst hk
          have e2 : (t.map bidi).getD i 0 = x := by rw [List.getD_eq_getElem?_getD, hx]; rfl
          rw [e2, hg]
          simp
        · have := ih (by omega)
          split
          · exact this
          · exact List.mem_append_left _ this
    exact key _ (by omega)
  obtain ⟨s, hs, hi⟩ := hcov _ hkm
  obtain ⟨q1, q2⟩ := k2 s hs i hi
  have hlv := (hH s hs).lev i hi
  rw [lvl_of (c := y1) (by omega), q2, List.getElem?_zipWith, lvl_of (c := (expl e (t.map bidi)).map (·.1)) (by omega), lvl_of (c := c2) (by omega), hlv]
  simp only [raiS_eq q1]
end Go.Ab.Bi
/- The reference's sequences: plain facts. -/
namespace Go.Ab.Bi
theorem grp_pre (lv kept X : List Int) : ∀ k, k ≤ kept.length → grp lv (kept ++ X) k = grp lv kept k
  | 0, _ => rfl
  | k + 1, h => by
    have IH := grp_pre lv kept X k (by omega)
    have g : ∀ j, j < kept.length → (kept ++ X).getD j 0 = kept.getD j 0 := fun j hj => by
      rw [List.getD_eq_getElem?_getD, List.getElem?_append_left hj, List.getD_eq_getElem?_getD]
    rw [show grp lv (kept ++ X) (k + 1) = if k = 0 ∨ lvl lv ((kept ++ X).getD k 0) ≠ lvl lv ((kept ++ X).getD (k - 1) 0) then grp lv (kept ++ X) k ++ [[(kept ++ X).getD k 0]] else snocL (grp lv (kept ++ X) k) ((kept ++ X).getD k 0) from rfl,
      show grp lv kept (k + 1) = if k = 0 ∨ lvl lv (kept.getD k 0) ≠ lvl lv (kept.getD (k - 1) 0) then grp lv kept k ++ [[kept.getD k 0]] else snocL (grp lv kept k) (kept.getD k 0) from rfl,
      IH, g k (by omega), g (k - 1) (by omega)]
/-- One more place that stays: the last run grows, or a new one begins. -/
theorem grp_more (lv kept : List Int) (x : Int) : grp lv (kept ++ [x]) (kept ++ [x]).length = if kept = [] then [[x]] else if lvl lv (kept.getLastD 0) = lvl lv x then snocL (grp lv kept kept.length) x else grp lv kept kept.length ++ [[x]] := by
  rw [List.length_append, List.length_singleton]
  rw [show grp lv (kept ++ [x]) (kept.length + 1) = if kept.length = 0 ∨ lvl lv ((kept ++ [x]).getD kept.length 0) ≠ lvl lv ((kept ++ [x]).getD (kept.length - 1) 0) then grp lv (kept ++ [x]) kept.length ++ [[(kept ++ [x]).getD kept.length 0]] else snocL (grp lv (kept ++ [x]) kept.length) ((kept ++ [x]).getD kept.length 0) from rfl]
  have e1 : (kept ++ [x]).getD kept.length 0 = x := by simp [List.getD_eq_getElem?_getD]
  rw [e1, grp_pre lv kept [x] kept.length (Nat.le_refl _)]
  by_cases hk : kept = []
  · subst hk
    simp [grp]
  · have hl := List.length_pos_iff.2 hk
    have e2 : (kept ++ [x]).getD (kept.length - 1) 0 = kept.getLastD 0 := by
      rw [List.getD_eq_getElem?_getD, List.getElem?_append_left (by omega), lastD_of hk]
      rfl
    rw [e2, if_neg hk]
    by_cases hc : lvl lv (kept.getLastD 0) = lvl lv x
    · rw [if_pos hc, if_neg (by rintro (h | h); omega; exact h hc.symm)]
    · rw [if_neg hc, if_pos (.inr fun h => hc h.symm)]
/-- The first place of the last run has the level of the last place. -/
theorem grp_top {lv kept : List Int} (hk : kept ≠ []) : ∃ a r x, grp lv kept kept.length = a ++ [r] ∧ r[0]? = some x ∧ lvl lv x = lvl lv (kept.getLastD 0) ∧ r ≠ [] := by
  have hl := List.length_pos_iff.2 hk
  obtain ⟨a, r, h1, h2⟩ := grp_lastr lv kept kept.length hl
  have hr : r ≠ [] := by rintro rfl; simp at h2
  refine ⟨a, r, r.headD 0, h1, headD_of hr, ?_, hr⟩
  have hm := List.mem_of_getLast? h2
  have S := grp_same lv kept kept.length r (by rw [h1]; simp) _ (List.mem_of_getElem? (headD_of hr)) _ hm
  rw [S]
  have := lastD_of hk
  rw [List.getD_eq_getElem?_getD, this]
  rfl
/-- The runs that have been used, before the chain from run i. -/
structure UA (F : Nat → Int) (N i : Nat) (us : List Bool) : Prop where
  len : us.length = N
  a : ∀ j, j < i → j < N → us[j]? = some true
  b : ∀ j, us[j]? = some true → ∀ k : Nat, F j = k → us[k]? = some true
  c : ∀ k, us[k]? = some true → k < i ∨ ∃ j, us[j]? = some true ∧ F j = (k : Int)
/-- .. within the chain from run i, when run q is next. -/
structure UB (F : Nat → Int) (N i q : Nat) (us : List Bool) : Prop where
  len : us.length = N
  a : ∀ j, j < i → us[j]? = some true
  b : ∀ j, us[j]? = some true → ∀ k : Nat, F j = k → us[k]? = some true ∨ k = q
  c : ∀ k, us[k]? = some true → k ≤ i ∨ ∃ j, us[j]? = some true ∧ F j = (k : Int)
  d : us[q]? = some false
  e : q = i ∨ us[i]? = some true
  f : i ≤ q
  g : q = i ∨ ∃ j, us[j]? = some true ∧ F j = (q : Int)
theorem UA.zero (F : Nat → Int) (N : Nat) : UA F N 0 (List.replicate N false) := by
  refine ⟨by simp, fun j hj => by omega, fun j hj => ?_, fun j hj => ?_⟩
  · obtain ⟨h1, h2⟩ := List.getElem?_eq_some_iff.1 hj
    simp at h2
  · obtain ⟨h1, h2⟩ := List.getElem?_eq_some_iff.1 hj
    simp at h2
theorem UA.skip {F : Nat → Int} {N i : Nat} {us : List Bool} (h : UA F N i us) (hu : us[i]? = some true) : UA F N (i + 1) us ∧ con F N i = true := by
  refine ⟨⟨h.len, fun j hj hN => ?_, h.b, fun k hk => ?_⟩, ?_⟩
  · by_cases e : j = i
    · rw [e]; exact hu
    · exact h.a j (by omega) hN
  · rcases h.c k hk with h1 | h1
    · exact .inl (by omega)
    · exact .inr h1
  · rcases h.c i hu with h1 | ⟨j, h1, h2⟩
    · omega
    · exact con_yes (by rw [← h.len]; exact (List.getElem?_eq_some_iff.1 h1).1) h2
theorem UA.start {F : Nat → Int} {N i : Nat} {us : List Bool} (hF : ∀ j, j < N → F j < 0 ∨ ((j : Int) < F j ∧ F j < N)) (h : UA F N i us) (hi : i < N) (hu : us[i]? = some false) : UB F N i i us ∧ con F N i = false := by
  refine ⟨⟨h.len, fun j hj => h.a j hj (by omega), fun j hj k hk => .inl (h.b j hj k hk), fun k hk => ?_, hu, .inl rfl, Nat.le_refl _, .inl rfl⟩, ?_⟩
  · rcases h.c k hk with h1 | h1
    · exact .inl (by omega)
    · exact .inr h1
  · cases hc : con F N i
    · rfl
    · obtain ⟨j, h1, h2⟩ := con_elim hc
      have hj : j < i := by rcases hF j h1 with h3 | h3 <;> omega
      have := h.b j (h.a j hj h1) i h2
      rw [hu] at this
      cases this
theorem set_true {us : List Bool} {q k : Nat} (h : us[k]? = some true) : (us.set q true)[k]? = some true := by
  have hk := (List.getElem?_eq_some_iff.1 h).1
  by_cases e : q = k
  · subst e; rw [List.getElem?_set_self hk]
  · rw [List.getElem?_set_ne e]; exact h
theorem of_set {us : List Bool} {q k : Nat} (h : (us.set q true)[k]? = some true) : k = q ∨ us[k]? = some true := by
  by_cases e : q = k
  · exact .inl e.symm
  · rw [List.getElem?_set_ne e] at h; exact .inr h
theorem UB.next {F : Nat → Int} {N i q k : Nat} {us : List Bool} (hF : ∀ j, j < N → F j < 0 ∨ ((j : Int) < F j ∧ F j < N)) (hI : ∀ j j', j < N → j' < N → F j = F j' → 0 ≤ F j → j = j') (h : UB F N i q us) (hq : q < N) (hk : F q = k) :
    UB F N i k (us.set q true) ∧ (us.set q true)[k]? = some false := by
  have hqk : q < k := by rcases hF q hq with h1 | h1 <;> omega
  have hkN : k < N := by rcases hF q hq with h1 | h1 <;> omega
  have hql : q < us.length := by rw [h.len]; exact hq
  have hkl : k < us.length := by rw [h.len]; exact hkN
  have hf := h.f
  have hd : (us.set q true)[k]? = some false := by
    rw [List.getElem?_set_ne (by omega)]
    cases hu : us[k]? with
    | none => rw [List.getElem?_eq_none_iff] at hu; omega
    | some z =>
      cases z
      · rfl
      · exfalso
        rcases h.c k hu with h1 | ⟨j, h1, h2⟩
        · omega
        · have hjN : j < N := by rw [← h.len]; exact (List.getElem?_eq_some_iff.1 h1).1
          have := hI j q hjN hq (by omega) (by omega)
          subst this
          rw [h.d] at h1
          cases h1
  have hqt : (us.set q true)[q]? = some true := List.getElem?_set_self hql
  refine ⟨⟨by simpa using h.len, fun j hj => set_true (h.a j hj), fun j hj k' hk' => ?_, fun k' hk' => ?_, hd, ?_, by omega, .inr ⟨q, hqt, hk⟩⟩, hd⟩
  · rcases of_set hj with rfl | hj
    · exact .inr (by omega)
    · rcases h.b j hj k' hk' with h1 | rfl
      · exact .inl (set_true h1)
      · exact .inl hqt
  · rcases of_set hk' with rfl | hk'
    · rcases h.g with h1 | ⟨j, h1, h2⟩
      · exact .inl (by omega)
      · exact .inr ⟨j, set_true h1, h2⟩
    · rcases h.c k' hk' with h1 | ⟨j, h1, h2⟩
      · exact .inl h1
      · exact .inr ⟨j, set_true h1, h2⟩
  · right
    rcases h.e with h1 | h1
    · rw [← h1]; exact hqt
    · exact set_true h1
theorem UB.stop {F : Nat → Int} {N i q : Nat} {us : List Bool} (h : UB F N i q us) (hq : q < N) (hk : F q < 0) : UA F N (i + 1) (us.set q true) := by
  have hql : q < us.length := by rw [h.len]; exact hq
  have hqt : (us.set q true)[q]? = some true := List.getElem?_set_self hql
  refine ⟨by simpa using h.len, fun j hj _ => ?_, fun j hj k' hk' => ?_, fun k' hk' => ?_⟩
  · by_cases e : j = i
    · subst e
      rcases h.e with h1 | h1
      · rw [← h1]; exact hqt
      · exact set_true h1
    · exact set_true (h.a j (by omega))
  · rcases of_set hj with rfl | hj
    · omega
    · rcases h.b j hj k' hk' with h1 | rfl
      · exact set_true h1
      · exact hqt
  · rcases of_set hk' with rfl | hk'
    · rcases h.g with h1 | ⟨j, h1, h2⟩
      · exact .inl (by omega)
      · exact .inr ⟨j, set_true h1, h2⟩
    · rcases h.c k' hk' with h1 | ⟨j, h1, h2⟩
      · exact .inl (by omega)
      · exact .inr ⟨j, set_true h1, h2⟩
/-- The search for a run that begins with m and has not been used. -/
def fnd (rs : List (List Int)) (us : List Bool) (m : Int) : Nat → Int
  | 0 => -1
  | k + 1 => if (rs.getD k []).headD 0 = m ∧ us.getD k false = false then (k : Int) else fnd rs us m k
theorem fnd_none {rs : List (List Int)} {us : List Bool} {m : Int} (h : ∀ (k : Nat) (r : List Int), rs[k]? = some r → r.headD 0 ≠ m) : ∀ k, k ≤ rs.length → fnd rs us m k = -1
  | 0, _ => rfl
  | k + 1, hk => by
    rw [fnd, if_neg]
    · exact fnd_none h k (by omega)
    · rintro ⟨h1, -⟩
      rw [getD_at (by omega)] at h1
      exact h k _ (List.getElem?_eq_getElem (by omega)) h1
theorem fnd_some {rs : List (List Int)} {us : List Bool} {m : Int} {q : Nat} {r : List Int} (hr : rs[q]? = some r) (hm : r.headD 0 = m) (hu : us[q]? = some false) (h : ∀ (k : Nat) (r : List Int), rs[k]? = some r → r.headD 0 = m → k = q) : ∀ k, k ≤ rs.length → fnd rs us m k = if q < k then (q : Int) else -1
  | 0, _ => rfl
  | k + 1, hk => by
    rw [fnd]
    by_cases hkq : k = q
    · subst hkq
      rw [if_pos, if_pos (by omega)]
      refine ⟨by rw [List.getD_eq_getElem?_getD, hr]; exact hm, by rw [List.getD_eq_getElem?_getD, hu]; rfl⟩
    · rw [if_neg, fnd_some hr hm hu h k (by omega)]
      · by_cases h1 : q < k
        · rw [if_pos h1, if_pos (by omega)]
        · rw [if_neg h1, if_neg (by omega)]
      · rintro ⟨h1, -⟩
        rw [getD_at (by omega)] at h1
        exact hkq (h k _ (List.getElem?_eq_getElem (by omega)) h1)
/-- What the search finds is what follows. -/
theorem fnd_fol {o : List Int} {rs : List (List Int)} {us : List Bool} {q : Nat} {r : List Int} {z : Int} (hr : rs[q]? = some r) (hz : r.getLast? = some z) (hzr : 0 ≤ z ∧ z < o.length) (hi : ini (o.getD z.toNat 0) = true) (hall : ∀ r ∈ rs, r ≠ []) (hp : rs.flatten.Pairwise (· < ·))
    (hu : ∀ k : Nat, fol o (Mc o) rs q = k → us[k]? = some false) : (if 0 ≤ mt o z.toNat then fnd rs us (mt o z.toNat) rs.length else -1) = fol o (Mc o) rs q := by
  have ho : o[z.toNat]? = some (o.getD z.toNat 0) := by rw [List.getD_eq_getElem?_getD, List.getElem?_eq_getElem (by omega)]; rfl
  have hm := (Mc_ok o).at_ z.toNat _ ho hi
  have hf : fol o (Mc o) rs q = if 0 ≤ mt o z.toNat then (match bgn rs (mt o z.toNat) with | some k => (k : Int) | none => -1) else -1 := by
    unfold fol
    rw [List.getD_eq_getElem?_getD, hr]
    have hmg : (Mc o).getD z.toNat 0 = mt o z.toNat := by rw [List.getD_eq_getElem?_getD, hm]; rfl
    simp only [Option.getD_some, hz, hi, Bool.true_and, hmg, decide_eq_true_eq]
    cases bgn rs (mt o z.toNat) <;> rfl
  have hd : ∀ r : List Int, r ≠ [] → r.head? = some (r.headD 0) := fun r h => by
    cases r with
    | nil => exact absurd rfl h
    | cons a r => rfl
  rw [hf] at hu ⊢
  by_cases h0 : 0 ≤ mt o z.toNat
  · rw [if_pos h0, if_pos h0]
    rw [if_pos h0] at hu
    cases hb : bgn rs (mt o z.toNat) with
    | none =>
      refine fnd_none (fun k r' hr' h => ?_) _ (Nat.le_refl _)
      unfold bgn at hb
      have := List.findIdx?_eq_none_iff.1 hb r' (List.mem_of_getElem? hr')
      rw [hd r' (hall r' (List.mem_of_getElem? hr')), h] at this
      simp at this
    | some k =>
      rw [hb] at hu
      obtain ⟨r', hr', hh⟩ := bgn_some hb
      have hh' : r'.headD 0 = mt o z.toNat := by
        have := hd r' (hall r' (List.mem_of_getElem? hr'))
        rw [hh] at this
        exact (Option.some.inj this).symm
      rw [fnd_some hr' hh' (hu k rfl) (fun k2 r2 hr2 h2 => ?_) _ (Nat.le_refl _), if_pos (List.getElem?_eq_some_iff.1 hr').1]
      have h3 : r2.head? = some (mt o z.toNat) := by rw [hd r2 (hall r2 (List.mem_of_getElem? hr2)), h2]
      rcases Nat.lt_trichotomy k2 k with h4 | h4 | h4
      · exact absurd h3 (heads_ne hp hr' hh h4 hr2)
      · exact h4
      · exact absurd hh (heads_ne hp hr2 h3 h4 hr')
  · rw [if_neg h0, if_neg h0]
end Go.Ab.Bi
