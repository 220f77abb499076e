/- Several texts of this proof in one. -/
import Derived.Test.YteghkigiaijhmaaGreatPiRm
import Derived.Test.YteghkigiaijhmaaGreatPiLev
import Derived.Test.YteghkigiaijhmaaGreatPiRk
import Derived.Test.YteghkigiaijhmaaGreatPiL
import Derived.Test.YteghkigiaijhmaaGreatPiDis
namespace Go.Ab.Bi
def isoB (o : Int) : Bool := ini o || o == 22
def RelL (d : Int) : Bool → List Int → List Int → List Int → Prop
  | _, [], [], [] => True
  | f, o :: os, x :: p, y :: r => (x = y ∧ RelL d (isoB o && decide (x = d)) os p r) ∨ (f = true ∧ o = 8 ∧ d = x ∧ y = 13 ∧ RelL d true os p r)
  | _, _, _, _ => False
def OV (d : Int) : List Int → List Int → Prop
  | [], [] => True
  | o :: os, v :: s => (v = o ∨ d = v) ∧ OV d os s
  | _, _ => False
variable {d : Int}
theorem RelL.mono : ∀ {os p r : List Int} {f : Bool}, RelL d false os p r → RelL d f os p r
  | [], [], [], _, _ => trivial
  | o :: os, x :: p, y :: r, f, h => by
    rcases h with h | h
    · exact .inl h
    · exact absurd h.1 (by simp)
  | [], [], _ :: _, _, h => h.elim
  | [], _ :: _, _, _, h => h.elim
  | _ :: _, [], _, _, h => h.elim
  | _ :: _, _ :: _, [], _, h => h.elim
theorem RelL.mono2 {os p r : List Int} {f g : Bool} (h : RelL d f os p r) (hg : f = true → g = true) : RelL d g os p r := by
  cases f
  · exact h.mono
  · rw [hg rfl]; exact h
theorem RelL.len : ∀ {os p r : List Int} {f : Bool}, RelL d f os p r → p.length = os.length ∧ r.length = os.length
  | [], [], [], _, _ => ⟨rfl, rfl⟩
  | o :: os, x :: p, y :: r, f, h => by
    rcases h with ⟨-, h⟩ | ⟨-, -, -, -, h⟩
    · have := h.len; simp; omega
    · have := h.len; simp; omega
  | [], [], _ :: _, _, h => h.elim
  | [], _ :: _, _, _, h => h.elim
  | _ :: _, [], _, _, h => h.elim
  | _ :: _, _ :: _, [], _, h => h.elim
theorem RelL.same {x : Int} {o : Int} {os p r : List Int} {f g : Bool} (h : RelL d g os p r) (hg : g = true → isoB o = true ∧ x = d) : RelL d f (o :: os) (x :: p) (x :: r) := by
  refine .inl ⟨rfl, h.mono2 fun e => ?_⟩
  obtain ⟨h1, h2⟩ := hg e
  simp [h1, h2]
theorem w1_rel (hd : d = 0 ∨ d = 1) : ∀ (s os : List Int) (a b : Int) (f : Bool), OV d os s → ((a = b ∧ isoB a = false) ∨ (d = a ∧ b = 13 ∧ f = true)) → RelL d f os (w1 a s) (rw1 b os s)
  | [], [], a, b, f, _, _ => trivial
  | x :: s, [], a, b, f, h, _ => h.elim
  | [], o :: os, a, b, f, h, _ => h.elim
  | v :: s, o :: os, a, b, f, h, hab => by
    obtain ⟨h1, h2⟩ := h
    simp only [w1, rw1]
    have d8 : ¬ (8 : Int) = d := by omega
    have isd : isoB d = false := by rcases hd with rfl | rfl <;> rfl
    have nxn : ∀ x, isoB x = false → nx x = x := fun x hx => by
      unfold isoB at hx
      simp at hx
      simp [nx, hx]
    have rnn : ∀ o x, isoB o = false → rnx o x = x := fun o x hx => by
      unfold isoB at hx
      simp at hx
      simp [rnx, hx]
    have nxy : ∀ x, isoB x = true → nx x = 13 := fun x hx => by
      unfold isoB at hx
      simp at hx
      simp [nx, hx]
    have rny : ∀ o x, isoB o = true → rnx o x = 13 := fun o x hx => by
      unfold isoB at hx
      simp at hx
      simp [rnx, hx]
    by_cases hv : v = 8
    · subst hv
      have ho : o = 8 := by
        rcases h1 with h1 | h1
        · exact h1.symm
        · exact absurd h1.symm d8
      subst ho
      simp only [if_true]
      rw [rnn 8 b rfl]
      rcases hab with ⟨rfl, ha⟩ | ⟨rfl, rfl, hf⟩
      · refine .inl ⟨rfl, ?_⟩
        rw [nxn a ha]
        exact w1_rel hd s os a a _ h2 (.inl ⟨rfl, ha⟩)
      · refine .inr ⟨hf, rfl, rfl, rfl, ?_⟩
        rw [nxn d isd]
        exact w1_rel hd s os d 13 true h2 (.inr ⟨rfl, rfl, rfl⟩)
    · simp only [if_neg hv]
      refine .inl ⟨rfl, ?_⟩
      cases hio : isoB o
      · have hvn : isoB v = false := by
          rcases h1 with rfl | rfl
          · exact hio
          · exact isd
        rw [nxn v hvn, rnn o v hio]
        exact w1_rel hd s os v v _ h2 (.inl ⟨rfl, hvn⟩)
      · rw [rny o v hio]
        rcases h1 with rfl | rfl
        · rw [nxy v hio]
          exact w1_rel hd s os 13 13 _ h2 (.inl ⟨rfl, rfl⟩)
        · rw [nxn d isd]
          exact w1_rel hd s os d 13 _ h2 (.inr ⟨rfl, rfl, by simp⟩)
theorem w2_rel (hd : d = 0 ∨ d = 1) : ∀ (os p r : List Int) (l : Int) (f : Bool), RelL d f os p r → (f = true → l = d) → RelL d f os (w2 l p) (w2 l r)
  | [], [], [], _, _, _, _ => trivial
  | o :: os, x :: p, y :: r, l, f, h, hl => by
    rcases h with ⟨rfl, h⟩ | ⟨hf, rfl, rfl, rfl, h⟩
    · simp only [w2]
      by_cases h3 : x = 0 ∨ x = 1 ∨ x = 2
      · rw [if_pos h3, if_pos h3]
        refine .inl ⟨rfl, w2_rel hd os p r x _ h fun e => ?_⟩
        simp at e
        exact e.2
      · rw [if_neg h3, if_neg h3]
        have hxd : ¬ x = d := by omega
        have h' : RelL d false os p r := h.mono2 fun e => by simp [hxd] at e
        have IH := w2_rel hd os p r l false h' (by simp)
        by_cases h4 : x = 3 ∧ l = 2
        · rw [if_pos h4, if_pos h4]
          exact .inl ⟨rfl, IH.mono⟩
        · rw [if_neg h4, if_neg h4]
          exact .inl ⟨rfl, IH.mono⟩
    · have hx : d = 0 ∨ d = 1 ∨ d = 2 := by omega
      have hl' := (hl hf).symm
      subst hl'
      have e13 : w2 d (13 :: r) = 13 :: w2 d r := by simp [w2]
      have ed : w2 d (d :: p) = d :: w2 d p := by simp only [w2, if_pos hx]
      rw [e13, ed]
      exact .inr ⟨hf, rfl, rfl, rfl, w2_rel hd os p r d true h fun _ => rfl⟩
  | [], [], _ :: _, _, _, h, _ => h.elim
  | [], _ :: _, _, _, _, h, _ => h.elim
  | _ :: _, [], _, _, _, h, _ => h.elim
  | _ :: _, _ :: _, [], _, _, h, _ => h.elim
theorem w3_rel (hd : d = 0 ∨ d = 1) : ∀ (os p r : List Int) (f : Bool), RelL d f os p r → RelL d f os (w3 p) (w3 r)
  | [], [], [], _, _ => trivial
  | o :: os, x :: p, y :: r, f, h => by
    have IH := fun g hg => w3_rel hd os p r g hg
    have e3 : ∀ (a : Int) (l : List Int), w3 (a :: l) = (if a = 2 then 1 else a) :: w3 l := fun _ _ => rfl
    rw [e3, e3]
    rcases h with ⟨rfl, h⟩ | ⟨hf, rfl, rfl, rfl, h⟩
    · refine .inl ⟨rfl, (IH _ h).mono2 fun e => ?_⟩
      simp at e
      obtain ⟨e1, e2⟩ := e
      have : ¬ d = 2 := by omega
      simp [e1, e2, this]
    · have : ¬ d = 2 := by omega
      refine .inr ⟨hf, rfl, by simp [this], by simp, IH _ h⟩
  | [], [], _ :: _, _, h => h.elim
  | [], _ :: _, _, _, h => h.elim
  | _ :: _, [], _, _, h => h.elim
  | _ :: _, _ :: _, [], _, h => h.elim
theorem RelL.head {os p r : List Int} {f : Bool} (h : RelL d f os p r) : p.headD (-1) = r.headD (-1) ∨ (d = p.headD (-1) ∧ r.headD (-1) = 13) := by
  cases os with
  | nil =>
    cases p with
    | nil => cases r with
      | nil => exact .inl rfl
      | cons y r => exact h.elim
    | cons x p => exact h.elim
  | cons o os =>
    cases p with
    | nil => exact h.elim
    | cons x p => cases r with
      | nil => exact h.elim
      | cons y r =>
        rcases h with ⟨rfl, h⟩ | ⟨hf, rfl, rfl, rfl, h⟩
        · exact .inl rfl
        · exact .inr ⟨rfl, rfl⟩
theorem w4_rel (hd : d = 0 ∨ d = 1) : ∀ (os p r : List Int) (a b : Int) (f : Bool), RelL d f os p r → (a = b ∨ (d = a ∧ b = 13)) → RelL d f os (w4 a p) (w4 b r)
  | [], [], [], _, _, _, _, _ => trivial
  | o :: os, x :: p, y :: r, a, b, f, h, hab => by
    simp only [w4]
    rcases h with ⟨rfl, h⟩ | ⟨hf, rfl, rfl, rfl, h⟩
    · have hh := h.head
      have e : w4c a x (p.headD (-1)) = w4c b x (r.headD (-1)) := by
        unfold w4c
        generalize p.headD (-1) = u at *
        generalize r.headD (-1) = w at *
        by_cases c1 : x = 4 ∧ a = 3 ∧ u = 3 ∨ x = 7 ∧ a = u ∧ (a = 3 ∨ a = 6)
        · rw [if_pos c1, if_pos (by omega)]
          omega
        · rw [if_neg c1, if_neg (by omega)]
      rw [e]
      generalize hw : w4c b x (r.headD (-1)) = z at *
      refine .inl ⟨rfl, (w4_rel hd os p r z z _ h (.inl rfl)).mono2 fun e2 => ?_⟩
      simp at e2
      obtain ⟨e3, e4⟩ := e2
      have : z = x := by
        rw [← hw]
        unfold w4c
        rw [if_neg (by omega)]
      simp [e3, this, e4]
    · have e1 : w4c a d (p.headD (-1)) = d := by unfold w4c; rw [if_neg (by omega)]
      have e2 : w4c b 13 (r.headD (-1)) = 13 := by unfold w4c; rw [if_neg (by omega)]
      rw [e1, e2]
      exact .inr ⟨hf, rfl, rfl, rfl, w4_rel hd os p r d 13 true h (.inr ⟨rfl, rfl⟩)⟩
  | [], [], _ :: _, _, _, _, h, _ => h.elim
  | [], _ :: _, _, _, _, _, h, _ => h.elim
  | _ :: _, [], _, _, _, _, h, _ => h.elim
  | _ :: _, _ :: _, [], _, _, _, h, _ => h.elim
theorem RelL.reps {z : Int} (hz : z ≠ d) {os p r : List Int} : ∀ (q : List Int) {f : Bool}, (q ≠ [] → f = false) → RelL d f os p r → RelL d f (q ++ os) (List.replicate q.length z ++ p) (List.replicate q.length z ++ r)
  | [], _, _, h => by simpa using h
  | o :: q, f, hf, h => by
    have hf' := hf (by simp)
    subst hf'
    refine .inl ⟨rfl, ?_⟩
    have : (isoB o && decide (z = d)) = false := by simp [hz]
    rw [this]
    exact RelL.reps hz q (fun _ => rfl) h
theorem w5_rel (hd : d = 0 ∨ d = 1) : ∀ (os p r q : List Int) (a b : Int) (f : Bool), RelL d f os p r → (q ≠ [] → f = false) → (a = b ∨ (d = a ∧ b = 13)) → RelL d f (q ++ os) (w5 a q.length p) (w5 b q.length r)
  | [], [], [], q, a, b, f, h, hq, hab => by
    simp only [w5]
    have e : (if a = 3 then (3 : Int) else 5) = if b = 3 then 3 else 5 := by
      by_cases c : a = 3
      · rw [if_pos c, if_pos (by omega)]
      · rw [if_neg c, if_neg (by omega)]
    rw [e]
    have := RelL.reps (d := d) (z := if b = 3 then 3 else 5) (by split <;> omega) (os := []) (p := []) (r := []) q hq h
    simpa using this
  | o :: os, x :: p, y :: r, q, a, b, f, h, hq, hab => by
    simp only [w5]
    rcases h with ⟨rfl, h⟩ | ⟨hf, rfl, rfl, rfl, h⟩
    · by_cases c5 : x = 5
      · rw [if_pos c5, if_pos c5]
        have h' : RelL d false os p r := h.mono2 fun e => by
          simp at e; omega
        have := w5_rel hd os p r (q ++ [o]) a b false h' (fun _ => rfl) hab
        simp only [List.length_append, List.length_cons, List.length_nil, Nat.zero_add, List.append_assoc, List.singleton_append] at this
        exact this.mono
      · rw [if_neg c5, if_neg c5]
        have e : (if a = 3 ∨ x = 3 then (3 : Int) else 5) = if b = 3 ∨ x = 3 then 3 else 5 := by
          by_cases c : a = 3 ∨ x = 3
          · rw [if_pos c, if_pos (by omega)]
          · rw [if_neg c, if_neg (by omega)]
        rw [e]
        refine RelL.reps (z := if b = 3 ∨ x = 3 then (3 : Int) else 5) (by split <;> omega) q hq ?_
        have := w5_rel hd os p r [] x x _ h (by simp) (.inl rfl)
        exact .inl ⟨rfl, this⟩
    · have hq' : q = [] := by
        cases q with
        | nil => rfl
        | cons a q => have := hq (by simp); rw [this] at hf; cases hf
      subst hq'
      have e5 : ¬ d = 5 := by omega
      have e6 : ¬ (13 : Int) = 5 := by omega
      rw [if_neg e5, if_neg e6]
      simp only [List.length_nil, List.replicate_zero, List.nil_append]
      have := w5_rel hd os p r [] d 13 true h (by simp) (.inr ⟨rfl, rfl⟩)
      exact .inr ⟨hf, rfl, rfl, rfl, this⟩
  | [], [], _ :: _, _, _, _, _, h, _, _ => h.elim
  | [], _ :: _, _, _, _, _, _, h, _, _ => h.elim
  | _ :: _, [], _, _, _, _, _, h, _, _ => h.elim
  | _ :: _, _ :: _, [], _, _, _, _, h, _, _ => h.elim
theorem w6_rel (hd : d = 0 ∨ d = 1) : ∀ (os p r : List Int) (l : Int) (f : Bool), RelL d f os p r → (f = true → l = d) → RelL d f os (w6 l p) (w6 l r)
  | [], [], [], _, _, _, _ => trivial
  | o :: os, x :: p, y :: r, l, f, h, hl => by
    rcases h with ⟨rfl, h⟩ | ⟨hf, rfl, rfl, rfl, h⟩
    · simp only [w6]
      by_cases h3 : x = 4 ∨ x = 5 ∨ x = 7
      · rw [if_pos h3, if_pos h3]
        have h' : RelL d false os p r := h.mono2 fun e => by simp at e; omega
        exact .inl ⟨rfl, (w6_rel hd os p r l false h' (by simp)).mono⟩
      · rw [if_neg h3, if_neg h3]
        by_cases h4 : x = 0 ∨ x = 1
        · rw [if_pos h4, if_pos h4]
          refine .inl ⟨rfl, w6_rel hd os p r x _ h fun e => ?_⟩
          simp at e
          exact e.2
        · rw [if_neg h4, if_neg h4]
          have h' : RelL d false os p r := h.mono2 fun e => by simp at e; omega
          have IH := w6_rel hd os p r l false h' (by simp)
          by_cases h5 : x = 3 ∧ l = 0
          · rw [if_pos h5, if_pos h5]
            exact .inl ⟨rfl, IH.mono⟩
          · rw [if_neg h5, if_neg h5]
            exact .inl ⟨rfl, IH.mono⟩
    · have hl' := (hl hf).symm
      subst hl'
      have e1 : w6 d (d :: p) = d :: w6 d p := by
        simp only [w6]
        rw [if_neg (by omega), if_pos (by omega)]
      have e2 : w6 d (13 :: r) = 13 :: w6 d r := by
        simp only [w6]
        rw [if_neg (by omega), if_neg (by omega), if_neg (by omega)]
      rw [e1, e2]
      exact .inr ⟨hf, rfl, rfl, rfl, w6_rel hd os p r d true h fun _ => rfl⟩
  | [], [], _ :: _, _, _, h, _ => h.elim
  | [], _ :: _, _, _, _, h, _ => h.elim
  | _ :: _, [], _, _, _, h, _ => h.elim
  | _ :: _, _ :: _, [], _, _, h, _ => h.elim
theorem weak_rel (hd : d = 0 ∨ d = 1) {os s : List Int} {st : Int} (hs : st = 0 ∨ st = 1) (h : OV d os s) : RelL d false os (weakS st s) (rweak st os s) := by
  have h1 := w1_rel hd s os st st false h (.inl ⟨rfl, by rcases hs with rfl | rfl <;> rfl⟩)
  have h2 := w2_rel hd os _ _ st false h1 (by simp)
  have h3 := w3_rel hd os _ _ false h2
  have h4 := w4_rel hd os _ _ (-1) (-1) false h3 (.inl rfl)
  have h5 := w5_rel hd os _ _ [] (-1) (-1) false h4 (by simp) (.inl rfl)
  exact w6_rel hd os _ _ st false h5 (by simp)
end Go.Ab.Bi
namespace Go.Ab
open Go.Proofs Go.Sort
namespace Bi
theorem kvSort_pw (l : List KV) : (kvSort l).Pairwise fun a b => a.1.val ≤ b.1.val := by
  have h := (kvSort_both l).2
  have hl := kvSort_len l
  have hA : kvSort l = (pdq kvLt l.toArray 0 l.length (Lib.bitLen l.length) true true).toList := rfl
  rw [hA] at hl ⊢
  generalize pdq kvLt l.toArray 0 l.length (Lib.bitLen l.length) true true = A at *
  rw [List.pairwise_iff_getElem]
  intro i j hi hj hij
  have h1 := h i j (Nat.zero_le _) hij (by omega)
  simp only [Array.length_toList] at hi hj
  rw [getElem!_pos A i hi, getElem!_pos A j hj] at h1
  simp only [Array.getElem_toList]
  have h2 : ¬ ((A[j].1.val : Int) - (A[i].1.val : Int) < 0) := by
    intro hc
    have : kvLt A[j] A[i] = true := by simp only [kvLt, ltOf, kvC]; exact decide_eq_true hc
    rw [this] at h1; cases h1
  omega
theorem srtS_pw (out : List (Nat × Nat)) : (srtS out).Pairwise fun a b => a.1 ≤ b.1 := by
  unfold srtS
  rw [List.pairwise_map]
  exact kvSort_pw _
theorem srtS_uniq {out L : List (Nat × Nat)} (h : Sm out) (hp : L.Perm out) (hs : L.Pairwise fun a b => a.1 ≤ b.1) (hn : (out.map (·.1)).Nodup) : L = srtS out := by
  refine List.Perm.eq_of_pairwise (le := fun a b => a.1 ≤ b.1) ?_ hs (srtS_pw out) (hp.trans (srtS_perm h).symm)
  intro a b ha hb h1 h2
  have ha' := hp.mem_iff.1 ha
  have hb' := (srtS_perm h).mem_iff.1 hb
  have e : a.1 = b.1 := Nat.le_antisymm h1 h2
  obtain ⟨i, hi, rfl⟩ := List.mem_iff_getElem.1 ha'
  obtain ⟨j, hj, rfl⟩ := List.mem_iff_getElem.1 hb'
  have := (List.getElem_inj (xs := out.map (·.1)) (i := i) (j := j) (h₀ := by simpa using hi) (h₁ := by simpa using hj) hn).1 (by simpa using e)
  subst this
  rfl
theorem brS_cases (r : Int) : (brS r = (0, 0)) ∨ (∃ p ∈ brTab, p.1 = r ∧ brS r = (1, p.2)) ∨ (∃ p ∈ brTab, p.2 = r ∧ brS r = (2, p.1)) := by
  by_cases h : ∃ p ∈ brTab, p.1 = r ∨ p.2 = r
  · obtain ⟨p, hp, hr⟩ := h
    simp only [brTab, List.mem_cons, List.not_mem_nil, or_false] at hp
    rcases hp with rfl | rfl | rfl | rfl | rfl | rfl | rfl | rfl <;> rcases hr with rfl | rfl
    all_goals first
      | exact .inr (.inl ⟨_, by simp only [brTab, List.mem_cons, true_or, or_true], rfl, rfl⟩)
      | exact .inr (.inl ⟨(40, 41), by decide, rfl, rfl⟩)
      | exact .inr (.inl ⟨(91, 93), by decide, rfl, rfl⟩)
      | exact .inr (.inl ⟨(123, 125), by decide, rfl, rfl⟩)
      | exact .inr (.inl ⟨(12296, 12297), by decide, rfl, rfl⟩)
      | exact .inr (.inl ⟨(12298, 12299), by decide, rfl, rfl⟩)
      | exact .inr (.inl ⟨(12300, 12301), by decide, rfl, rfl⟩)
      | exact .inr (.inl ⟨(12302, 12303), by decide, rfl, rfl⟩)
      | exact .inr (.inl ⟨(12304, 12305), by decide, rfl, rfl⟩)
      | exact .inr (.inr ⟨(40, 41), by decide, rfl, rfl⟩)
      | exact .inr (.inr ⟨(91, 93), by decide, rfl, rfl⟩)
      | exact .inr (.inr ⟨(123, 125), by decide, rfl, rfl⟩)
      | exact .inr (.inr ⟨(12296, 12297), by decide, rfl, rfl⟩)
      | exact .inr (.inr ⟨(12298, 12299), by decide, rfl, rfl⟩)
      | exact .inr (.inr ⟨(12300, 12301), by decide, rfl, rfl⟩)
      | exact .inr (.inr ⟨(12302, 12303), by decide, rfl, rfl⟩)
      | exact .inr (.inr ⟨(12304, 12305), by decide, rfl, rfl⟩)
  · left
    have hno : ∀ l : List (Int × Int), (∀ p ∈ l, ¬ (p.1 = r ∨ p.2 = r)) → othS l r = (r, -1) := by
      intro l
      induction l with
      | nil => intro _; rfl
      | cons p l ih =>
        intro hl
        have h1 := hl p (List.mem_cons_self ..)
        rw [show othS (p :: l) r = if p.1 = r then (p.2, 1) else if p.2 = r then (p.1, 0) else othS l r from rfl, if_neg (fun e => h1 (.inl e)), if_neg (fun e => h1 (.inr e))]
        exact ih fun q hq => hl q (List.mem_cons_of_mem _ hq)
    unfold brS
    rw [hno brTab fun p hp hr => h ⟨p, hp, hr⟩]
    rfl
theorem brS_inv {a r : Int} (h1 : (brS a).1 = 1) (h2 : (brS r).1 = 2) : (brS a).2 = r ↔ a = (brS r).2 := by
  rcases brS_cases a with h | ⟨p, hp, hpa, h⟩ | ⟨p, hp, hpa, h⟩
  · rw [h] at h1; simp at h1
  · rcases brS_cases r with g | ⟨q, hq, hqa, g⟩ | ⟨q, hq, hqa, g⟩
    · rw [g] at h2; simp at h2
    · rw [g] at h2; simp at h2
    · rw [h, g]
      simp only
      subst hpa hqa
      revert p q
      decide
  · rw [h] at h1; simp at h1
theorem pgo_nodup : ∀ (l : List (Int × Int)) (k : Nat) (p : PS) (out : List (Nat × Nat)), (∀ a ∈ p.st, a.2 < k) → (p.st.map (·.2) ++ p.out.map (·.1)).Nodup → (∀ x ∈ p.out, x.1 < k) → pgo k l p = some out → (out.map (·.1)).Nodup
  | [], k, p, out, _, hn, _, h => by
    simp only [pgo, Option.some.injEq] at h
    subst h
    exact (List.nodup_append.1 hn).2.1
  | (x, r) :: l, k, p, out, hk, hn, ho, h => by
    have up : ∀ q : PS, (∀ a ∈ q.st, a.2 < k) → (q.st.map (·.2) ++ q.out.map (·.1)).Nodup → (∀ x ∈ q.out, x.1 < k) → pgo (k + 1) l q = some out → (out.map (·.1)).Nodup := fun q h1 h2 h3 h4 =>
      pgo_nodup l (k + 1) q out (fun a ha => by have := h1 a ha; omega) h2 (fun x hx => by have := h3 x hx; omega) h4
    unfold pgo at h
    split at h
    · exact up p hk hn ho h
    · split at h
      · split at h
        · cases h
        · refine pgo_nodup l (k + 1) _ out ?_ ?_ (fun x hx => by have := ho x hx; omega) h
          · intro a ha
            rcases List.mem_cons.1 ha with rfl | ha
            · simp
            · have := hk a ha; omega
          · simp only [List.map_cons, List.cons_append]
            refine List.nodup_cons.2 ⟨?_, hn⟩
            intro hm
            rcases List.mem_append.1 hm with hm | hm
            · obtain ⟨a, ha, hae⟩ := List.mem_map.1 hm
              have := hk a ha
              omega
            · obtain ⟨a, ha, hae⟩ := List.mem_map.1 hm
              have := ho a ha
              omega
      · split at h
        · split at h
          · rename_i a t hf
            have hmem := pfind_mem hf
            have hsub : ∀ (st : OStk), pfind r st = some (a, t) → ∃ pre c, st = pre ++ (c, a) :: t := by
              intro st
              induction st with
              | nil => intro h; simp [pfind] at h
              | cons y st ih =>
                intro h
                simp only [pfind] at h
                split at h
                · cases h; exact ⟨[], _, rfl⟩
                · obtain ⟨pre, c, e⟩ := ih h
                  exact ⟨y :: pre, c, by rw [e]; rfl⟩
            obtain ⟨pre, c, hst⟩ := hsub _ hf
            refine up ⟨t, p.out ++ [(a, k)]⟩ (fun b hb => hk b (hmem.2.1 b hb)) ?_ ?_ h
            · simp only [List.map_append, List.map_cons, List.map_nil]
              rw [hst] at hn
              simp only [List.map_append, List.map_cons, List.append_assoc, List.cons_append] at hn
              have hn2 := (List.nodup_append.1 hn).2.1
              have hp : (t.map (·.2) ++ (p.out.map (·.1) ++ [a])).Perm (a :: (t.map (·.2) ++ p.out.map (·.1))) := by
                rw [← List.append_assoc]
                exact (List.perm_append_comm).trans (by simp)
              exact hp.nodup_iff.2 hn2
            · intro x hx
              rcases List.mem_append.1 hx with hx | hx
              · exact ho x hx
              · simp at hx; subst hx
                obtain ⟨c, hc⟩ := hmem.1
                exact hk _ hc
          · exact up p hk hn ho h
        · exact up p hk hn ho h
end Bi
end Go.Ab
namespace Go.Ab.Bi
variable {d : Int}
def okC (x : Int) : Bool := x == 0 || x == 1 || x == 3 || x == 6 || x == 10 || x == 11 || x == 12 || x == 13 || x == 22 || ini x
theorem RelL.drop1 : ∀ {os p r : List Int} {f : Bool} {a : Nat} {o : Int}, RelL d f os p r → os[a]? = some o → o ≠ 8 → isoB o = false → RelL d false (os.drop (a + 1)) (p.drop (a + 1)) (r.drop (a + 1))
  | [], _, _, _, a, o, _, h, _, _ => by simp at h
  | o1 :: os, x :: p, y :: r, f, 0, o, h, ho, h8, hi => by
    simp at ho
    subst ho
    rcases h with ⟨-, h⟩ | ⟨-, h, -⟩
    · simpa [hi] using h
    · exact absurd h h8
  | o1 :: os, x :: p, y :: r, f, a + 1, o, h, ho, h8, hi => by
    simp at ho
    rcases h with ⟨-, h⟩ | ⟨-, -, -, -, h⟩
    · exact h.drop1 ho h8 hi
    · exact h.drop1 ho h8 hi
  | _ :: _, [], _, _, _, _, h, _, _, _ => h.elim
  | _ :: _, _ :: _, [], _, _, _, h, _, _, _ => h.elim
theorem RelL.take : ∀ {os p r : List Int} {f : Bool} (m : Nat), RelL d f os p r → RelL d f (os.take m) (p.take m) (r.take m)
  | os, p, r, f, 0, h => by simp only [List.take_zero]; trivial
  | [], [], [], _, m + 1, _ => trivial
  | o :: os, x :: p, y :: r, f, m + 1, h => by
    rcases h with ⟨h1, h⟩ | ⟨hf, h1, h2, h3, h⟩
    · exact .inl ⟨h1, h.take m⟩
    · exact .inr ⟨hf, h1, h2, h3, h.take m⟩
  | [], [], _ :: _, _, _ + 1, h => h.elim
  | [], _ :: _, _, _, _ + 1, h => h.elim
  | _ :: _, [], _, _, _ + 1, h => h.elim
  | _ :: _, _ :: _, [], _, _ + 1, h => h.elim
theorem dirS_d (hd : d = 0 ∨ d = 1) : dirS d = d := by rcases hd with rfl | rfl <;> rfl
theorem RelL.anyD (hd : d = 0 ∨ d = 1) : ∀ {os p r : List Int} {f : Bool}, RelL d f os p r → (f || p.any (isD d)) = (f || r.any (isD d))
  | [], [], [], _, _ => rfl
  | o :: os, x :: p, y :: r, f, h => by
    rcases h with ⟨rfl, h⟩ | ⟨rfl, -⟩
    · have IH := h.anyD hd
      simp only [List.any_cons]
      cases hx : isD d x
      · have hxd : ¬ x = d := by
          rintro rfl
          simp [isD, dirS_d hd] at hx
        have e : (isoB o && decide (x = d)) = false := by simp [hxd]
        rw [e, Bool.false_or, Bool.false_or] at IH
        rw [IH]
      · simp
    · simp
  | [], [], _ :: _, _, h => h.elim
  | [], _ :: _, _, _, h => h.elim
  | _ :: _, [], _, _, h => h.elim
  | _ :: _, _ :: _, [], _, h => h.elim
theorem RelL.anyO (hd : d = 0 ∨ d = 1) : ∀ {os p r : List Int} {f : Bool}, RelL d f os p r → p.any (isO d) = r.any (isO d)
  | [], [], [], _, _ => rfl
  | o :: os, x :: p, y :: r, f, h => by
    simp only [List.any_cons]
    rcases h with ⟨rfl, h⟩ | ⟨-, -, rfl, rfl, h⟩
    · rw [h.anyO hd]
    · rw [h.anyO hd]
      have e1 : isO d d = false := by simp [isO, dirS_d hd]
      have e2 : isO d 13 = false := by simp [isO, dirS]
      rw [e1, e2]
  | [], [], _ :: _, _, h => h.elim
  | [], _ :: _, _, _, h => h.elim
  | _ :: _, [], _, _, h => h.elim
  | _ :: _, _ :: _, [], _, h => h.elim
theorem lastD_cons (st x : Int) (s : List Int) : lastD st (x :: s) = lastD (if 0 ≤ dirS x then dirS x else st) s := by
  have h : ∀ (n : Nat) (s : List Int) (st : Int), s.length = n → lastD st (x :: s) = lastD (if 0 ≤ dirS x then dirS x else st) s := by
    intro n
    induction n with
    | zero =>
      intro s st hs
      obtain rfl : s = [] := List.length_eq_zero_iff.1 hs
      have := lastD_snoc st [] x
      simp only [List.nil_append] at this
      rw [this]
      rfl
    | succ n ih =>
      intro s st hs
      obtain ⟨s0, y, rfl⟩ : ∃ s0 y, s = s0 ++ [y] := by
        rcases List.eq_nil_or_concat s with rfl | ⟨s0, y, rfl⟩
        · simp at hs
        · exact ⟨s0, y, by simp⟩
      rw [← List.cons_append, lastD_snoc, lastD_snoc, ih s0 st (by simp at hs; omega)]
  exact h _ s st rfl
theorem RelL.last (hd : d = 0 ∨ d = 1) : ∀ {os p r : List Int} {f : Bool} {st : Int}, RelL d f os p r → (f = true → st = d) → lastD st p = lastD st r
  | [], [], [], _, _, _, _ => rfl
  | o :: os, x :: p, y :: r, f, st, h, hf => by
    rw [lastD_cons, lastD_cons]
    rcases h with ⟨rfl, h⟩ | ⟨ht, -, rfl, rfl, h⟩
    · refine h.last hd fun e => ?_
      simp at e
      obtain ⟨-, rfl⟩ := e
      rw [dirS_d hd, if_pos (by omega)]
    · have hst := (hf ht).symm
      subst hst
      have e1 : ¬ (0 : Int) ≤ dirS 13 := by simp [dirS]
      rw [if_neg e1, dirS_d hd, if_pos (by omega)]
      exact h.last hd fun _ => rfl
  | [], [], _ :: _, _, _, h, _ => h.elim
  | [], _ :: _, _, _, _, h, _ => h.elim
  | _ :: _, [], _, _, _, h, _ => h.elim
  | _ :: _, _ :: _, [], _, _, h, _ => h.elim
theorem setR_cons (to x : Int) : ∀ (n : Nat) (s : List Int) (k : Nat), setR (x :: s) (k + 1) to n = x :: setR s k to n
  | 0, _, _ => rfl
  | n + 1, s, k => by rw [setR, setR, List.set_cons_succ, setR_cons to x n]
theorem nsm_cons (o : Int) (os : List Int) (k : Nat) : nsm (o :: os) (k + 1) = nsm os k := by simp [nsm]
theorem bset_zero (o x to : Int) (os s : List Int) : bset (o :: os) (x :: s) 0 to = to :: setR s 0 to (nsm os 0) := by
  rw [bset, List.set_cons_zero, nsm_cons, setR_cons]
theorem bset_succ (o x to : Int) (os s : List Int) (k : Nat) : bset (o :: os) (x :: s) (k + 1) to = x :: bset os s k to := by
  rw [bset, List.set_cons_succ, nsm_cons, setR_cons, bset]
theorem RelL.fill (to : Int) : ∀ {os p r : List Int}, RelL d false os p r → RelL d false os (setR p 0 to (nsm os 0)) (setR r 0 to (nsm os 0))
  | [], [], [], _ => trivial
  | o :: os, x :: p, y :: r, h => by
    rcases h with ⟨rfl, h⟩ | ⟨h, -⟩
    · by_cases h8 : o = 8
      · subst h8
        have e : nsm (8 :: os) 0 = nsm os 0 + 1 := by
          rw [nsm_yes (k := 0) (by simp), nsm_cons]
        have h' : RelL d false os p r := h
        rw [e, setR, setR, List.set_cons_zero, List.set_cons_zero, setR_cons, setR_cons]
        exact .inl ⟨rfl, (h'.fill to).mono⟩
      · have e : nsm (o :: os) 0 = 0 := nsm_no (k := 0) (by simpa using h8)
        rw [e]
        exact .inl ⟨rfl, h⟩
    · cases h
  | [], [], _ :: _, h => h.elim
  | [], _ :: _, _, h => h.elim
  | _ :: _, [], _, h => h.elim
  | _ :: _, _ :: _, [], h => h.elim
theorem RelL.bset (to : Int) : ∀ {os p r : List Int} {f : Bool} {a : Nat} {o : Int}, RelL d f os p r → os[a]? = some o → o ≠ 8 → isoB o = false → RelL d f os (bset os p a to) (bset os r a to)
  | [], _, _, _, a, o, _, h, _, _ => by simp at h
  | o1 :: os, x :: p, y :: r, f, 0, o, h, ho, h8, hi => by
    simp at ho
    subst ho
    rw [bset_zero, bset_zero]
    rcases h with ⟨-, h⟩ | ⟨-, h, -⟩
    · have h' : RelL d false os p r := by simpa [hi] using h
      exact .inl ⟨rfl, (h'.fill to).mono⟩
    · exact absurd h h8
  | o1 :: os, x :: p, y :: r, f, a + 1, o, h, ho, h8, hi => by
    simp at ho
    rw [bset_succ, bset_succ]
    rcases h with ⟨h1, h⟩ | ⟨hf, h1, h2, h3, h⟩
    · exact .inl ⟨h1, RelL.bset to h ho h8 hi⟩
    · exact .inr ⟨hf, h1, h2, h3, RelL.bset to h ho h8 hi⟩
  | _ :: _, [], _, _, _, _, h, _, _, _ => h.elim
  | _ :: _, _ :: _, [], _, _, _, h, _, _, _ => h.elim
def brkO (os : List Int) (a : Nat) : Prop := ∃ o, os[a]? = some o ∧ o ≠ 8 ∧ isoB o = false
theorem RelL.brk1 (hd : d = 0 ∨ d = 1) {os p r : List Int} {st : Int} (h : RelL d false os p r) {q : Nat × Nat} (h1 : brkO os q.1) (h2 : brkO os q.2) : RelL d false os (brk1 d st os p q) (brk1 d st os r q) := by
  obtain ⟨o1, a1, a2, a3⟩ := h1
  obtain ⟨o2, b1, b2, b3⟩ := h2
  have hsg : ∀ s : List Int, seg s q.1 q.2 = (s.drop (q.1 + 1)).take (q.2 - (q.1 + 1)) := fun s => by rw [seg, List.drop_take]
  have hS := (h.drop1 a1 a2 a3).take (q.2 - (q.1 + 1))
  have e1 : (seg p q.1 q.2).any (isD d) = (seg r q.1 q.2).any (isD d) := by
    rw [hsg, hsg]
    simpa using hS.anyD hd
  have e2 : (seg p q.1 q.2).any (isO d) = (seg r q.1 q.2).any (isO d) := by
    rw [hsg, hsg]
    exact hS.anyO hd
  have e3 : lastD st (p.take q.1) = lastD st (r.take q.1) := (h.take q.1).last hd (by simp)
  unfold Bi.brk1
  rw [e1, e2, e3]
  split
  · exact (h.bset _ a1 a2 a3).bset _ b1 b2 b3
  · split
    · exact (h.bset _ a1 a2 a3).bset _ b1 b2 b3
    · exact h
theorem RelL.brks (hd : d = 0 ∨ d = 1) {os : List Int} {st : Int} : ∀ {ps : List (Nat × Nat)} {p r : List Int}, RelL d false os p r → (∀ q ∈ ps, brkO os q.1 ∧ brkO os q.2) → RelL d false os (brks d st os ps p) (brks d st os ps r)
  | [], _, _, h, _ => h
  | q :: ps, p, r, h, hp => by
    have hq := hp q (List.mem_cons_self ..)
    have h1 := h.brk1 (st := st) hd hq.1 hq.2
    exact RelL.brks hd (ps := ps) h1 fun q' hq' => hp q' (List.mem_cons_of_mem _ hq')
theorem setR_ok {to : Int} (ht : okC to = true) : ∀ (n : Nat) {s : List Int} (k : Nat), (∀ x ∈ s, okC x = true) → ∀ x ∈ setR s k to n, okC x = true
  | 0, _, _, h => h
  | n + 1, s, k, h => by
    rw [setR]
    refine setR_ok ht n (k + 1) fun x hx => ?_
    rcases List.mem_or_eq_of_mem_set hx with h1 | rfl
    · exact h x h1
    · exact ht
theorem bset_okC {to : Int} (ht : okC to = true) {os s : List Int} {k : Nat} (h : ∀ x ∈ s, okC x = true) : ∀ x ∈ bset os s k to, okC x = true := by
  unfold bset
  refine setR_ok ht _ _ fun x hx => ?_
  rcases List.mem_or_eq_of_mem_set hx with h1 | rfl
  · exact h x h1
  · exact ht
theorem lastD_val {st : Int} (hs : st = 0 ∨ st = 1) (s : List Int) : lastD st s = 0 ∨ lastD st s = 1 := by
  unfold lastD
  split
  · rename_i x h
    have := List.find?_some h
    simp at this
    have := dirS_val x
    omega
  · exact hs
theorem brk1_okC {st : Int} (hd : d = 0 ∨ d = 1) (hs : st = 0 ∨ st = 1) {os s : List Int} {q : Nat × Nat} (h : ∀ x ∈ s, okC x = true) : ∀ x ∈ brk1 d st os s q, okC x = true := by
  have h01 : ∀ x : Int, x = 0 ∨ x = 1 → okC x = true := by rintro x (rfl | rfl) <;> rfl
  unfold brk1
  split
  · exact bset_okC (h01 _ hd) (bset_okC (h01 _ hd) h)
  · split
    · exact bset_okC (h01 _ (lastD_val hs _)) (bset_okC (h01 _ (lastD_val hs _)) h)
    · exact h
theorem brks_okC {st : Int} (hd : d = 0 ∨ d = 1) (hs : st = 0 ∨ st = 1) {os : List Int} : ∀ {ps : List (Nat × Nat)} {s : List Int}, (∀ x ∈ s, okC x = true) → ∀ x ∈ brks d st os ps s, okC x = true
  | [], _, h => h
  | _q :: ps, _s, h => brks_okC hd hs (ps := ps) (brk1_okC hd hs h)
theorem okC_neut {x : Int} (h : okC x = true) : neutB x = decide (dirS x < 0) := by
  have hx : x = 0 ∨ x = 1 ∨ x = 3 ∨ x = 6 ∨ x = 10 ∨ x = 11 ∨ x = 12 ∨ x = 13 ∨ x = 22 ∨ x = 19 ∨ x = 20 ∨ x = 21 := by
    unfold okC ini at h
    simp at h
    omega
  rcases hx with rfl | rfl | rfl | rfl | rfl | rfl | rfl | rfl | rfl | rfl | rfl | rfl <;> rfl
theorem neuF_d (d e : Int) : ∀ (r : List Int) (n : Nat), neuF d e d (n + 1) r = d :: neuF d e d n r
  | [], n => by simp [neuF, List.replicate_succ]
  | x :: r, n => by
    simp only [neuF]
    split
    · exact neuF_d d e r (n + 1)
    · simp [List.replicate_succ]
theorem neu_rel (hd : d = 0 ∨ d = 1) {e : Int} : ∀ {os p r : List Int} {f : Bool} {b : Int} {n : Nat}, RelL d f os p r → (∀ x ∈ p, okC x = true) → (f = true → b = d ∧ n = 0) → neuS d e b n p = neuF d e b n r
  | [], [], [], _, _, _, _, _, _ => rfl
  | o :: os, x :: p, y :: r, f, b, n, h, hk, hf => by
    have hx := okC_neut (hk x (List.mem_cons_self ..))
    have hk' : ∀ x ∈ p, okC x = true := fun z hz => hk z (List.mem_cons_of_mem _ hz)
    rcases h with ⟨rfl, h⟩ | ⟨ht, -, rfl, rfl, h⟩
    · simp only [neuS, neuF, hx, decide_eq_true_eq]
      split
      · rename_i hn
        refine neu_rel hd h hk' fun e => ?_
        simp at e
        obtain ⟨-, rfl⟩ := e
        rw [dirS_d hd] at hn
        omega
      · rename_i hn
        rw [neu_rel hd h hk' fun e => ?_]
        simp at e
        obtain ⟨-, rfl⟩ := e
        exact ⟨dirS_d hd, rfl⟩
    · obtain ⟨hb, rfl⟩ := hf ht
      have hb' := hb.symm
      subst hb'
      have hdx := dirS_d hd
      have hnx : ¬ dirS d < 0 := by rw [hdx]; omega
      have e13 : dirS 13 < 0 := by simp [dirS]
      simp only [neuS, neuF, hx, decide_eq_true_eq, if_neg hnx, if_pos e13, List.replicate_zero, List.nil_append]
      rw [hdx, neuF_d, neu_rel hd h hk' fun _ => ⟨rfl, rfl⟩]
  | [], [], _ :: _, _, _, _, h, _, _ => h.elim
  | [], _ :: _, _, _, _, _, h, _, _ => h.elim
  | _ :: _, [], _, _, _, _, h, _, _ => h.elim
  | _ :: _, _ :: _, [], _, _, _, h, _, _ => h.elim
def fin4 (x : Int) : Prop := x = 0 ∨ x = 1 ∨ x = 3 ∨ x = 6
theorem neu_fin {e : Int} (hd : d = 0 ∨ d = 1) : ∀ {p : List Int} {b : Int} {n : Nat}, (∀ x ∈ p, okC x = true) → (b = 0 ∨ b = 1) → ∀ x ∈ neuS d e b n p, fin4 x
  | [], b, n, _, hb, x, hx => by
    simp only [neuS] at hx
    have := List.eq_of_mem_replicate hx
    unfold fin4
    split at this <;> omega
  | y :: p, b, n, hk, hb, x, hx => by
    have hy := hk y (List.mem_cons_self ..)
    have hyn := okC_neut hy
    have hk' : ∀ x ∈ p, okC x = true := fun z hz => hk z (List.mem_cons_of_mem _ hz)
    simp only [neuS] at hx
    split at hx
    · exact neu_fin hd hk' hb x hx
    · rename_i hn
      rw [hyn] at hn
      simp at hn
      have hdv := dirS_val y
      rcases List.mem_append.1 hx with h1 | h1
      · have := List.eq_of_mem_replicate h1
        unfold fin4
        split at this <;> omega
      · rcases List.mem_cons.1 h1 with rfl | h1
        · unfold okC ini at hy
          unfold fin4
          unfold dirS at hn
          simp at hy
          split at hn
          · omega
          · split at hn <;> omega
        · exact neu_fin hd hk' (by omega) x h1
end Go.Ab.Bi
namespace Go.Ab.Bi
open Go.Proofs
def vC (x : Int) : Bool := decide (0 ≤ x) && decide (x ≤ 22) && !(x == 8) && !gone x
theorem vC_iff {x : Int} : vC x = true ↔ (0 ≤ x ∧ x ≤ 7) ∨ (10 ≤ x ∧ x ≤ 13) ∨ (19 ≤ x ∧ x ≤ 22) := by
  unfold vC gone
  simp
  omega
theorem nx_v {x : Int} (h : vC x = true) : vC (nx x) = true := by
  unfold nx
  split
  · rfl
  · exact h
theorem w1_v : ∀ {s : List Int} {p : Int}, (∀ x ∈ s, vC x = true ∨ x = 8) → vC p = true → ∀ x ∈ w1 p s, vC x = true
  | [], _, _, _, x, hx => by simp [w1] at hx
  | y :: s, p, h, hp, x, hx => by
    have hy := h y (List.mem_cons_self ..)
    have h' : ∀ x ∈ s, vC x = true ∨ x = 8 := fun z hz => h z (List.mem_cons_of_mem _ hz)
    have hz : vC (if y = 8 then p else y) = true := by
      split
      · exact hp
      · rename_i hn
        rcases hy with hy | hy
        · exact hy
        · exact absurd hy hn
    simp only [w1] at hx
    rcases List.mem_cons.1 hx with rfl | hx
    · exact hz
    · exact w1_v h' (nx_v hz) x hx
theorem w2_v : ∀ {s : List Int} {l : Int}, (∀ x ∈ s, vC x = true) → ∀ x ∈ w2 l s, vC x = true
  | [], _, _, x, hx => by simp [w2] at hx
  | y :: s, l, h, x, hx => by
    have hy := h y (List.mem_cons_self ..)
    have h' : ∀ x ∈ s, vC x = true := fun z hz => h z (List.mem_cons_of_mem _ hz)
    simp only [w2] at hx
    split at hx
    · rcases List.mem_cons.1 hx with rfl | hx
      · exact hy
      · exact w2_v h' x hx
    · split at hx
      · rcases List.mem_cons.1 hx with rfl | hx
        · rfl
        · exact w2_v h' x hx
      · rcases List.mem_cons.1 hx with rfl | hx
        · exact hy
        · exact w2_v h' x hx
def vD (x : Int) : Bool := vC x && !(x == 2)
theorem vD_iff {x : Int} : vD x = true ↔ ((0 ≤ x ∧ x ≤ 7) ∨ (10 ≤ x ∧ x ≤ 13) ∨ (19 ≤ x ∧ x ≤ 22)) ∧ x ≠ 2 := by
  unfold vD
  rw [Bool.and_eq_true, vC_iff]
  simp
theorem w3_v {s : List Int} (h : ∀ x ∈ s, vC x = true) : ∀ x ∈ w3 s, vD x = true := by
  intro x hx
  obtain ⟨y, hy, rfl⟩ := List.mem_map.1 hx
  have := h y hy
  split
  · rfl
  · rename_i hn
    unfold vD
    simp [this, hn]
theorem w4_v : ∀ {s : List Int} {p : Int}, (∀ x ∈ s, vD x = true) → ∀ x ∈ w4 p s, vD x = true
  | [], _, _, x, hx => by simp [w4] at hx
  | y :: s, p, h, x, hx => by
    have hy := h y (List.mem_cons_self ..)
    have h' : ∀ x ∈ s, vD x = true := fun z hz => h z (List.mem_cons_of_mem _ hz)
    simp only [w4] at hx
    rcases List.mem_cons.1 hx with rfl | hx
    · unfold w4c
      split
      · rw [vD_iff]; omega
      · exact hy
    · exact w4_v h' x hx
theorem w5_v : ∀ {s : List Int} {p : Int} {n : Nat}, (∀ x ∈ s, vD x = true) → ∀ x ∈ w5 p n s, vD x = true
  | [], p, n, _, x, hx => by
    simp only [w5] at hx
    have := List.eq_of_mem_replicate hx
    rw [vD_iff]
    split at this <;> omega
  | y :: s, p, n, h, x, hx => by
    have hy := h y (List.mem_cons_self ..)
    have h' : ∀ x ∈ s, vD x = true := fun z hz => h z (List.mem_cons_of_mem _ hz)
    simp only [w5] at hx
    split at hx
    · exact w5_v h' x hx
    · rcases List.mem_append.1 hx with h1 | h1
      · have := List.eq_of_mem_replicate h1
        rw [vD_iff]
        split at this <;> omega
      · rcases List.mem_cons.1 h1 with rfl | h1
        · exact hy
        · exact w5_v h' x h1
theorem w6_v : ∀ {s : List Int} {l : Int}, (∀ x ∈ s, vD x = true) → ∀ x ∈ w6 l s, okC x = true
  | [], _, _, x, hx => by simp [w6] at hx
  | y :: s, l, h, x, hx => by
    have hy := h y (List.mem_cons_self ..)
    have h' : ∀ x ∈ s, vD x = true := fun z hz => h z (List.mem_cons_of_mem _ hz)
    rw [vD_iff] at hy
    simp only [w6] at hx
    split at hx
    · rcases List.mem_cons.1 hx with rfl | hx
      · rfl
      · exact w6_v h' x hx
    · rename_i c1
      have hk : okC y = true := by
        unfold okC ini
        simp
        omega
      split at hx
      · rcases List.mem_cons.1 hx with rfl | hx
        · exact hk
        · exact w6_v h' x hx
      · split at hx
        · rcases List.mem_cons.1 hx with rfl | hx
          · rfl
          · exact w6_v h' x hx
        · rcases List.mem_cons.1 hx with rfl | hx
          · exact hk
          · exact w6_v h' x hx
theorem weak_okC {s : List Int} {st : Int} (hs : st = 0 ∨ st = 1) (h : ∀ x ∈ s, vC x = true ∨ x = 8) : ∀ x ∈ weakS st s, okC x = true :=
  w6_v (w5_v (w4_v (w3_v (w2_v (w1_v h (by rcases hs with rfl | rfl <;> rfl))))))
theorem brTab_cls : brTab.all (fun p => bidi p.1 == 13 && bidi p.2 == 13) = true := by kernel_rfl
theorem br_cls {r : Int} (h : (brS r).1 ≠ 0) : bidi r = 13 := by
  have ht := List.all_eq_true.1 brTab_cls
  rcases brS_cases r with h1 | ⟨p, hp, rfl, h1⟩ | ⟨p, hp, rfl, h1⟩
  · rw [h1] at h; exact absurd rfl h
  · have := ht p hp
    simp at this
    exact this.1
  · have := ht p hp
    simp at this
    exact this.2
theorem pgo_rel {d : Int} (hd : d = 0 ∨ d = 1) : ∀ {ts p r : List Int} {f : Bool} (k : Nat) (S : PS), RelL d f (ts.map bidi) p r → pgo k (p.zip ts) S = pgo k (r.zip ts) S
  | [], [], [], _, _, _, _ => rfl
  | t :: ts, x :: p, y :: r, f, k, S, h => by
    have h' : ∃ g, RelL d g (ts.map bidi) p r := by
      rcases h with ⟨-, h⟩ | ⟨-, -, -, -, h⟩ <;> exact ⟨_, h⟩
    obtain ⟨g, hg⟩ := h'
    have IH := fun S => pgo_rel hd (k + 1) S hg
    rcases h with ⟨rfl, h⟩ | ⟨hf, h8, rfl, rfl, h⟩
    · simp only [List.zip_cons_cons, pgo, IH]
    · have hb : (brS t).1 = 0 := by
        by_cases hb : (brS t).1 = 0
        · exact hb
        · have := br_cls hb
          rw [this] at h8
          omega
      have hx : d ≠ 13 := by omega
      simp only [List.zip_cons_cons, pgo, hb, if_pos hx, IH]
      simp
  | [], [], _ :: _, _, _, _, h => h.elim
  | [], _ :: _, _, _, _, _, h => h.elim
  | _ :: _, [], _, _, _, _, h => h.elim
  | _ :: _, _ :: _, [], _, _, _, h => h.elim
def brK (L : List (Int × Int)) (i : Nat) : Prop := ∃ z, L[i]? = some z ∧ (brS z.2).1 ≠ 0
theorem pfind_sub {r : Int} : ∀ {st : OStk} {a : Nat} {t : OStk}, pfind r st = some (a, t) → (∃ c, (c, a) ∈ st) ∧ (∀ x ∈ t, x ∈ st) := fun h => ⟨(pfind_mem h).1, (pfind_mem h).2.1⟩
theorem pgo_br (L : List (Int × Int)) : ∀ (l : List (Int × Int)) (k : Nat) (p : PS) (out : List (Nat × Nat)), L.drop k = l → (∀ a ∈ p.st, brK L a.2) → (∀ x ∈ p.out, brK L x.1 ∧ brK L x.2) → pgo k l p = some out → ∀ x ∈ out, brK L x.1 ∧ brK L x.2
  | [], k, p, out, _, _, ho, h => by
    simp only [pgo, Option.some.injEq] at h
    rw [← h]
    exact ho
  | (x, r) :: l, k, p, out, hl, hs, ho, h => by
    have hk : L[k]? = some (x, r) := by
      have := List.getElem?_drop (xs := L) (i := k) (j := 0)
      rw [hl] at this
      simpa using this.symm
    have hl' : L.drop (k + 1) = l := by
      have := List.drop_drop (i := 1) (j := k) (l := L)
      rw [hl] at this
      rw [← this]
      rfl
    rw [pgo] at h
    split at h
    · exact pgo_br L l (k + 1) p out hl' hs ho h
    · split at h
      · rename_i h1
        split at h
        · cases h
        · refine pgo_br L l (k + 1) ⟨((brS r).2, k) :: p.st, p.out⟩ out hl' (fun a ha => ?_) ho h
          rcases List.mem_cons.1 ha with rfl | ha
          · exact ⟨_, hk, by rw [h1]; omega⟩
          · exact hs a ha
      · split at h
        · rename_i h2
          split at h
          · rename_i a t hf
            obtain ⟨⟨c, hc⟩, ht⟩ := pfind_sub hf
            refine pgo_br L l (k + 1) ⟨t, p.out ++ [(a, k)]⟩ out hl' (fun a ha => hs a (ht a ha)) (fun y hy => ?_) h
            rcases List.mem_append.1 hy with hy | hy
            · exact ho y hy
            · simp at hy
              subst hy
              exact ⟨hs _ hc, _, hk, by rw [h2]; omega⟩
          · exact pgo_br L l (k + 1) p out hl' hs ho h
        · exact pgo_br L l (k + 1) p out hl' hs ho h
theorem prsS_br {s ts : List Int} (hts : ts.length ≤ 2000) : ∀ q ∈ prsS (s.zip ts), brkO (ts.map bidi) q.1 ∧ brkO (ts.map bidi) q.2 := by
  intro q hq
  unfold prsS at hq
  cases hg : pgo 0 (s.zip ts) ⟨[], []⟩ with
  | none => rw [hg] at hq; simp at hq
  | some out =>
    rw [hg] at hq
    simp only at hq
    obtain ⟨p', h1, rfl⟩ := pgo_pok (s.zip ts) 0 _ out POK.zero hg
    have hzl : (s.zip ts).length ≤ 2000 := by simp; omega
    have hsm : Sm p'.out := fun x hx => by have := h1.ord x hx; omega
    have hm := (srtS_perm hsm).mem_iff.1 hq
    have hb := pgo_br (s.zip ts) (s.zip ts) 0 ⟨[], []⟩ p'.out rfl (by simp) (by simp) hg q hm
    have conv : ∀ i, brK (s.zip ts) i → brkO (ts.map bidi) i := by
      rintro i ⟨⟨a, b⟩, h2, h3⟩
      have := br_cls h3
      refine ⟨13, ?_, by omega, rfl⟩
      rw [List.getElem?_map]
      have h4 : ts[i]? = some b := by
        rw [List.getElem?_zip_eq_some] at h2
        exact h2.2
      rw [h4]
      simp at this
      simp [this]
    exact ⟨conv _ hb.1, conv _ hb.2⟩
theorem seq_rel {d st e : Int} (hd : d = 0 ∨ d = 1) (hs : st = 0 ∨ st = 1) {s ts : List Int} (hts : ts.length ≤ 2000) (hov : OV d (ts.map bidi) s) (hv : ∀ x ∈ s, vC x = true ∨ x = 8) :
    neuS d e st 0 (brks d st (ts.map bidi) (prsS ((weakS st s).zip ts)) (weakS st s)) = neuF d e st 0 (brks d st (ts.map bidi) (prsS ((rweak st (ts.map bidi) s).zip ts)) (rweak st (ts.map bidi) s)) ∧
    ∀ x ∈ neuS d e st 0 (brks d st (ts.map bidi) (prsS ((weakS st s).zip ts)) (weakS st s)), fin4 x := by
  have h1 := weak_rel hd hs hov
  have h2 := weak_okC hs hv
  have hp : prsS ((weakS st s).zip ts) = prsS ((rweak st (ts.map bidi) s).zip ts) := by
    unfold prsS
    rw [pgo_rel hd 0 _ h1]
  have h3 := h1.brks (st := st) hd (ps := prsS ((weakS st s).zip ts)) (prsS_br hts)
  have h4 := brks_okC (st := st) hd hs (os := ts.map bidi) (ps := prsS ((weakS st s).zip ts)) h2
  rw [← hp]
  exact ⟨neu_rel hd h3 h4 (by simp), neu_fin hd h4 hs⟩
end Go.Ab.Bi
namespace Go.Ab
open Go.Proofs
namespace Bi
def rtrl (o : List Int) (e : Int) : Nat → List Int → List Int
  | 0, lv => lv
  | k + 1, lv => if blankB (o.getD k 0) = true then rtrl o e k (lv.set k e) else lv
theorem rtrl_len (o : List Int) (e : Int) : ∀ (k : Nat) (lv : List Int), (rtrl o e k lv).length = lv.length
  | 0, _ => rfl
  | k + 1, lv => by
    unfold rtrl
    split
    · rw [rtrl_len o e k]; simp
    · rfl
section
variable {prim : FuncId → Option Prim} (d : Nat) (cfg : Cfg)
set_option maxHeartbeats 1000000 in
theorem rtrail_ok (hp : prim 109 = none) (h71 : prim 132 = none) (h47 : prim 99 = none) (h70 : prim 138 = none) (h63 : prim 100 = none) (t lv : List Int) (n : Nat) (htn : t.length = n) (hlv : lv.length = n) (hn2 : n ≤ 2000) (e : Int) (k : Nat) (hk : k ≤ n) (H : Heap) (b : Nat)
    (hb : blockOf H b = some (lv.map (V.int .i64))) (hw : cfg.wr b = true) :
    callM md (K prim (d + 3)) cfg 109 [rl t, .sl b 0 n n 1, .int .i64 e, .int .i64 k] H = some (.tup [], H.set b (some ((rtrl (t.map bidi) e k lv).map (V.int .i64)))) := by
  suffices HH : ∃ r h2, callM md (K prim (d + 3)) cfg 109 [rl t, .sl b 0 n n 1, .int .i64 e, .int .i64 k] H = some (r, h2) ∧ r = .tup [] ∧ h2 = H.set b (some ((rtrl (t.map bidi) e k lv).map (V.int .i64))) by
    obtain ⟨r, h2, h3, rfl, rfl⟩ := HH
    exact h3
  refine call1x rfl hp Tryz.func109 rfl rfl rfl ?_
  have hw' : (Cfg.wr ⟨cfg.lo, cfg.ex, H.length⟩ b) = true := hw
  have hbl := blockOf_lt hb
  have hB := fun cfg h r => rbidi_ok (prim := prim) d cfg h h71 h47 r
  have hBk := fun cfg h x => rblank_ok (prim := prim) d cfg h h70 h63 x
  have hgt : ∀ (j : Nat) (z : Int), t[j]? = some z → (t.map bidi)[j]? = some (bidi z) := fun j z hz => by rw [List.getElem?_map, hz]; rfl
  generalize t.map bidi = o at *
  simp (disch := omega) [wrap64]
  refine wC_loop (fun m fr H' => ∃ (q : Nat) (lv' : List Int), q ≤ n ∧ m = q ∧ lv'.length = n ∧ rtrl o e k lv = rtrl o e q lv' ∧ H' = H.set b (some (lv'.map (V.int .i64))) ∧
    Slots 27 [(0, rl t), (1, .sl b 0 n n 1), (2, .int .i64 e), (8, .int .i64 ((q : Int) - 1))] fr) (m := k) (by omega) ⟨k, lv, hk, rfl, hlv, rfl, (set_same hb).symm, by simp⟩ ?_
  rintro m fr H' ⟨q, lv', hq, hm, hl', hF, rfl, hs⟩
  replace hm := hm.symm
  subst hm
  obtain ⟨j, rfl⟩ := hs.ex
  clear hs
  rw [hF]
  rcases q with _ | q
  · simp (disch := omega) [rtrl]
    exact List.take_of_length_le (by simp)
  · have hk1 : ((q + 1 : Nat) : Int) - 1 = q := by omega
    rw [hk1]
    obtain ⟨z, hz⟩ : ∃ z, t[q]? = some z := ⟨_, List.getElem?_eq_getElem (by omega)⟩
    have eo : o.getD q 0 = bidi z := by rw [List.getD_eq_getElem?_getD, hgt q z hz]; rfl
    rw [rtrl, eo]
    have hq1 : q + 1 ≤ n := hq
    cases hbk : blankB (bidi z)
    · rw [if_neg (by simp)]
      simp (disch := omega) [hz, hB, hBk, hbk, -getElem?_pos]
      exact List.take_of_length_le (by simp)
    · rw [if_pos rfl]
      simp (disch := omega) [hz, hB, hBk, hbk, hw', hl', hq1, wrap64, -getElem?_pos]
      exact Rnd_of (m' := q) (by omega) ⟨q, lv'.set q e, by omega, rfl, by simpa using hl', rfl, by simp [List.map_set], by simp (disch := omega)⟩
end
end Bi
end Go.Ab
namespace Go.Ab.Bi
end Go.Ab.Bi
namespace Go.Ab
open Go.Proofs
namespace Bi
def nums (n : Nat) : List Int := (List.range n).map Int.ofNat
theorem impL_get {lev : Int} : ∀ {u s : List Int} {k : Nat} {a x : Int}, u[k]? = some a → s[k]? = some x → (impL lev u s)[k]? = some (a + impS lev x)
  | [], _, _, _, _, h, _ => by simp at h
  | _ :: _, [], _, _, _, _, h => by simp at h
  | b :: u, y :: s, 0, a, x, h1, h2 => by simp at h1 h2; simp [impL, h1, h2]
  | b :: u, y :: s, k + 1, a, x, h1, h2 => by
    simp only [impL, List.getElem?_cons_succ] at h1 h2 ⊢
    exact impL_get h1 h2
end Bi
end Go.Ab
namespace Go.Ab
open Go.Proofs
namespace Bi
theorem Stp.oth {t o c y c' y' : List Int} {s : Sq} (h : Stp t o s c y c' y') {j : Nat} (hj : (j : Int) ∉ s.l) : c'[j]? = c[j]? ∧ y'[j]? = y[j]? := by
  obtain ⟨c1, c2, h1, h2, h3, h4⟩ := h
  exact ⟨by rw [h3.oth j hj, h2.oth j hj, h1.oth j hj], h4.oth j hj⟩
theorem Stps.oth {t o : List Int} {j : Nat} : ∀ {ss : List Sq} {c y c' y' : List Int}, Stps t o ss c y c' y' → (∀ s ∈ ss, (j : Int) ∉ s.l) → c'[j]? = c[j]? ∧ y'[j]? = y[j]?
  | [], _, _, _, _, ⟨rfl, rfl⟩, _ => ⟨rfl, rfl⟩
  | s :: ss, c, y, c', y', ⟨c1, y1, h1, h2⟩, h => by
    obtain ⟨a1, a2⟩ := h1.oth (h s (List.mem_cons_self ..))
    obtain ⟨b1, b2⟩ := Stps.oth h2 fun x hx => h x (List.mem_cons_of_mem _ hx)
    exact ⟨b1.trans a1, b2.trans a2⟩
theorem Stp.up {t o c y c' y' : List Int} {s : Sq} (h : Stp t o s c y c' y') {n : Nat} (_hs : Pl n s.l) (hc : c.length = n) (_hy : y.length = n) {j : Nat} {a : Int} (ha : y[j]? = some a) : ∃ b, y'[j]? = some b ∧ a ≤ b ∧ b ≤ a + 2 := by
  by_cases hj : (j : Int) ∈ s.l
  · obtain ⟨c1, c2, h1, h2, h3, h4⟩ := h
    obtain ⟨k, hk⟩ := List.mem_iff_getElem?.1 hj
    have h5 := h4.at_ k _ hk
    rw [Int.toNat_natCast] at h5
    have hc' : c'.length = n := h3.len.trans (h2.len.trans (h1.len.trans hc))
    have hu : (s.l.map (lvl y))[k]? = some a := by
      rw [List.getElem?_map, hk]
      simp only [Option.map_some, lvl, Int.toNat_natCast, List.getD_eq_getElem?_getD, ha]
      rfl
    have hx : (s.l.map (lvl c'))[k]? = some (lvl c' j) := by rw [List.getElem?_map, hk]; rfl
    have hi := impL_get (lev := s.lev) hu hx
    have := impS_rng s.lev (lvl c' j)
    exact ⟨_, h5.trans hi, by omega, by omega⟩
  · exact ⟨a, by rw [(h.oth hj).2]; exact ha, by omega, by omega⟩
theorem Stps.up {t o : List Int} {n : Nat} : ∀ {ss : List Sq} {c y c' y' : List Int}, Stps t o ss c y c' y' → (∀ s ∈ ss, Pl n s.l) → ss.Pairwise (fun a b => ∀ i ∈ a.l, i ∉ b.l) → c.length = n → y.length = n → ∀ {j : Nat} {a : Int}, y[j]? = some a → ∃ b, y'[j]? = some b ∧ a ≤ b ∧ b ≤ a + 2
  | [], _, _, _, _, ⟨rfl, rfl⟩, _, _, _, _, j, a, ha => ⟨a, ha, by omega, by omega⟩
  | s :: ss, c, y, c', y', ⟨c1, y1, h1, h2⟩, hs, hp, hc, hy, j, a, ha => by
    obtain ⟨p1, p2⟩ := List.pairwise_cons.1 hp
    by_cases hj : (j : Int) ∈ s.l
    · obtain ⟨b, hb1, hb2⟩ := h1.up (hs s (List.mem_cons_self ..)) hc hy ha
      refine ⟨b, ?_, hb2⟩
      rw [(Stps.oth h2 fun x hx hjx => p1 x hx _ hj hjx).2]
      exact hb1
    · have h3 := (h1.oth hj).2
      obtain ⟨l1, l2⟩ := h1.len
      exact Stps.up h2 (fun x hx => hs x (List.mem_cons_of_mem _ hx)) p2 (l1.trans hc) (l2.trans hy) (by rw [h3]; exact ha)
theorem Stps.len {t o : List Int} : ∀ {ss : List Sq} {c y c' y' : List Int}, Stps t o ss c y c' y' → c'.length = c.length ∧ y'.length = y.length
  | [], _, _, _, _, ⟨rfl, rfl⟩ => ⟨rfl, rfl⟩
  | s :: ss, _, _, _, _, ⟨c1, y1, h1, h2⟩ => by
    obtain ⟨a1, a2⟩ := h1.len
    obtain ⟨b1, b2⟩ := Stps.len h2
    exact ⟨b1.trans a1, b2.trans a2⟩
def Adj (l : List Int) (a b : Int) : Prop := ∃ u v, l = u ++ a :: b :: v
theorem Adj.pre {l : List Int} {a b : Int} (h : Adj l a b) (p : List Int) : Adj (p ++ l) a b := by
  obtain ⟨u, v, rfl⟩ := h
  exact ⟨p ++ u, v, by simp⟩
theorem rr_acc (p : Int → Bool) : ∀ (l acc : List Int), ∃ u v, rr p acc l = u ++ (acc ++ v)
  | [], acc => ⟨[], [], by simp [rr]⟩
  | x :: l, acc => by
    cases hx : p x
    · rw [rr_stop hx]
      exact ⟨[], x :: rr p [] l, by simp⟩
    · have e : rr p acc (x :: l) = rr p (x :: acc) l := by simp [rr, hx]
      obtain ⟨u, v, h⟩ := rr_acc p l (x :: acc)
      rw [e, h]
      exact ⟨u ++ [x], v, by simp⟩
theorem rr_adj {p : Int → Bool} {a b : Int} (hab : p a = p b) (v : List Int) : ∀ (u acc : List Int), if p a then Adj (rr p acc (u ++ a :: b :: v)) b a else Adj (rr p acc (u ++ a :: b :: v)) a b
  | [], acc => by
    cases ha : p a
    · have hb : p b = false := by rw [← hab, ha]
      simp only [Bool.false_eq_true, if_false, List.nil_append]
      rw [rr_stop ha, rr_stop hb]
      exact ⟨acc, rr p [] v, by simp⟩
    · have hb : p b = true := by rw [← hab, ha]
      simp only [if_true, List.nil_append]
      have e : rr p acc (a :: b :: v) = rr p (b :: a :: acc) v := by simp [rr, ha, hb]
      obtain ⟨u, w, h⟩ := rr_acc p v (b :: a :: acc)
      rw [e, h]
      exact ⟨u, acc ++ w, by simp⟩
  | x :: u, acc => by
    have ih := fun acc => rr_adj hab v u acc
    cases hx : p x
    · rw [List.cons_append, rr_stop hx]
      have := ih []
      split <;> rename_i h
      · rw [if_pos h] at this
        exact (this.pre [x]).pre acc
      · rw [if_neg h] at this
        exact (this.pre [x]).pre acc
    · have e : rr p acc (x :: (u ++ a :: b :: v)) = rr p (x :: acc) (u ++ a :: b :: v) := by simp [rr, hx]
      rw [List.cons_append, e]
      exact ih _
theorem Adj.rr {p : Int → Bool} {l : List Int} {a b : Int} (h : Adj l a b) (hab : p a = p b) : if p a then Adj (rr p [] l) b a else Adj (rr p [] l) a b := by
  obtain ⟨u, v, rfl⟩ := h
  exact rr_adj hab v u []
end Bi
end Go.Ab
