/- Several texts of this proof in one. -/
import Derived.Test.YteogajcegmejgaaGreatPiRm
import Derived.Test.YteogajcegmejgaaGreatPiLev
import Derived.Test.YteogajcegmejgaaGreatPiRk
import Derived.Test.YteogajcegmejgaaGreatPiL
import Derived.Test.YteogajcegmejgaaGreatPiDis
namespace Go.Ab.Bi
def isoB (o : Int) : Bool := ini o || o == 22
def RelL (d : Int) : Bool → List Int → List Int → List Int → Prop
  | _, [], [], [] => True
  | f, o :: os, x :: p, y :: r => (x = y ∧ RelL d (isoB o && decide (x = d)) os p r) ∨ (f = true ∧ o = 8 ∧ d = x ∧ y = 13 ∧ RelL d true os p r)
  | _, _, _, _ => False
def OV (d : Int) : List Int → List Int → Prop
  | [], [] => True
  | o :: os, v :: s => (v = o ∨ d = v) ∧ OV d os s
  | _, _ => False
variable {d : Int}
end Go.Ab.Bi
namespace Go.Ab
open Go.Proofs Go.Sort
namespace Bi
theorem kvSort_pw (l : List KV) : (kvSort l).Pairwise fun a b => a.1.val ≤ b.1.val := by
  have h := (kvSort_both l).2
  have hl := kvSort_len l
  have hA : kvSort l = (pdq kvLt l.toArray 0 l.length (Lib.bitLen l.length) true true).toList := rfl
  rw [hA] at hl ⊢
  generalize pdq kvLt l.toArray 0 l.length (Lib.bitLen l.length) true true = A at *
  rw [List.pairwise_iff_getElem]
  intro i j hi hj hij
  have h1 := h i j (Nat.zero_le _) hij (by omega)
  simp only [Array.length_toList] at hi hj
  rw [getElem!_pos A i hi, getElem!_pos A j hj] at h1
  simp only [Array.getElem_toList]
  have h2 : ¬ ((A[j].1.val : Int) - (A[i].1.val : Int) < 0) := by
    intro hc
    have : kvLt A[j] A[i] = true := by simp only [kvLt, ltOf, kvC]; exact decide_eq_true hc
    rw [this] at h1; cases h1
  omega
theorem srtS_pw (out : List (Nat × Nat)) : (srtS out).Pairwise fun a b => a.1 ≤ b.1 := by
  unfold srtS
  rw [List.pairwise_map]
  exact kvSort_pw _
theorem srtS_uniq {out L : List (Nat × Nat)} (h : Sm out) (hp : L.Perm out) (hs : L.Pairwise fun a b => a.1 ≤ b.1) (hn : (out.map (·.1)).Nodup) : L = srtS out := by
  refine List.Perm.eq_of_pairwise (le := fun a b => a.1 ≤ b.1) ?_ hs (srtS_pw out) (hp.trans (srtS_perm h).symm)
  intro a b ha hb h1 h2
  have ha' := hp.mem_iff.1 ha
  have hb' := (srtS_perm h).mem_iff.1 hb
  have e : a.1 = b.1 := Nat.le_antisymm h1 h2
  obtain ⟨i, hi, rfl⟩ := List.mem_iff_getElem.1 ha'
  obtain ⟨j, hj, rfl⟩ := List.mem_iff_getElem.1 hb'
  have := (List.getElem_inj (xs := out.map (·.1)) (i := i) (j := j) (h₀ := by simpa using hi) (h₁ := by simpa using hj) hn).1 (by simpa using e)
  subst this
  rfl
theorem brS_cases (r : Int) : (brS r = (0, 0)) ∨ (∃ p ∈ brTab, p.1 = r ∧ brS r = (1, p.2)) ∨ (∃ p ∈ brTab, p.2 = r ∧ brS r = (2, p.1)) := by
  by_cases h : ∃ p ∈ brTab, p.1 = r ∨ p.2 = r
  · obtain ⟨p, hp, hr⟩ := h
    simp only [brTab, List.mem_cons, List.not_mem_nil, or_false] at hp
    rcases hp with rfl | rfl | rfl | rfl | rfl | rfl | rfl | rfl <;> rcases hr with rfl | rfl
    all_goals first
      | exact .inr (.inl ⟨_, by simp only [brTab, List.mem_cons, true_or, or_true], rfl, rfl⟩)
      | exact .inr (.inl ⟨(40, 41), by decide, rfl, rfl⟩)
      | exact .inr (.inl ⟨(91, 93), by decide, rfl, rfl⟩)
      | exact .inr (.inl ⟨(123, 125), by decide, rfl, rfl⟩)
      | exact .inr (.inl ⟨(12296, 12297), by decide, rfl, rfl⟩)
      | exact .inr (.inl ⟨(12298, 12299), by decide, rfl, rfl⟩)
      | exact .inr (.inl ⟨(12300, 12301), by decide, rfl, rfl⟩)
      | exact .inr (.inl ⟨(12302, 12303), by decide, rfl, rfl⟩)
      | exact .inr (.inl ⟨(12304, 12305), by decide, rfl, rfl⟩)
      | exact .inr (.inr ⟨(40, 41), by decide, rfl, rfl⟩)
      | exact .inr (.inr ⟨(91, 93), by decide, rfl, rfl⟩)
      | exact .inr (.inr ⟨(123, 125), by decide, rfl, rfl⟩)
      | exact .inr (.inr ⟨(12296, 12297), by decide, rfl, rfl⟩)
      | exact .inr (.inr ⟨(12298, 12299), by decide, rfl, rfl⟩)
      | exact .inr (.inr ⟨(12300, 12301), by decide, rfl, rfl⟩)
      | exact .inr (.inr ⟨(12302, 12303), by decide, rfl, rfl⟩)
      | exact .inr (.inr ⟨(12304, 12305), by decide, rfl, rfl⟩)
  · left
    have hno : ∀ l : List (Int × Int), (∀ p ∈ l, ¬ (p.1 = r ∨ p.2 = r)) → othS l r = (r, -1) := by
      intro l
      induction l with
      | nil => intro _; rfl
      | cons p l ih =>
        intro hl
        have h1 := hl p (List.mem_cons_self ..)
        rw [show othS (p :: l) r = if p.1 = r then (p.2, 1) else if p.2 = r then (p.1, 0) else othS l r from rfl, if_neg (fun e => h1 (.inl e)), if_neg (fun e => h1 (.inr e))]
        exact ih fun q hq => hl q (List.mem_cons_of_mem _ hq)
    unfold brS
    rw [hno brTab fun p hp hr => h ⟨p, hp, hr⟩]
    rfl
theorem brS_inv {a r : Int} (h1 : (brS a).1 = 1) (h2 : (brS r).1 = 2) : (brS a).2 = r ↔ a = (brS r).2 := by
  rcases brS_cases a with h | ⟨p, hp, hpa, h⟩ | ⟨p, hp, hpa, h⟩
  · rw [h] at h1; simp at h1
  · rcases brS_cases r with g | ⟨q, hq, hqa, g⟩ | ⟨q, hq, hqa, g⟩
    · rw [g] at h2; simp at h2
    · rw [g] at h2; simp at h2
    · rw [h, g]
      simp only
      subst hpa hqa
      revert p q
      decide
  · rw [h] at h1; simp at h1
theorem pgo_nodup : ∀ (l : List (Int × Int)) (k : Nat) (p : PS) (out : List (Nat × Nat)), (∀ a ∈ p.st, a.2 < k) → (p.st.map (·.2) ++ p.out.map (·.1)).Nodup → (∀ x ∈ p.out, x.1 < k) → pgo k l p = some out → (out.map (·.1)).Nodup
  | [], k, p, out, _, hn, _, h => by
    simp only [pgo, Option.some.injEq] at h
    subst h
    exact (List.nodup_append.1 hn).2.1
  | (x, r) :: l, k, p, out, hk, hn, ho, h => by
    have up : ∀ q : PS, (∀ a ∈ q.st, a.2 < k) → (q.st.map (·.2) ++ q.out.map (·.1)).Nodup → (∀ x ∈ q.out, x.1 < k) → pgo (k + 1) l q = some out → (out.map (·.1)).Nodup := fun q h1 h2 h3 h4 =>
      pgo_nodup l (k + 1) q out (fun a ha => by have := h1 a ha; omega) h2 (fun x hx => by have := h3 x hx; omega) h4
    unfold pgo at h
    split at h
    · exact up p hk hn ho h
    · split at h
      · split at h
        · cases h
        · refine pgo_nodup l (k + 1) _ out ?_ ?_ (fun x hx => by have := ho x hx; omega) h
          · intro a ha
            rcases List.mem_cons.1 ha with rfl | ha
            · simp
            · have := hk a ha; omega
          · simp only [List.map_cons, List.cons_append]
            refine List.nodup_cons.2 ⟨?_, hn⟩
            intro hm
            rcases List.mem_append.1 hm with hm | hm
            · obtain ⟨a, ha, hae⟩ := List.mem_map.1 hm
              have := hk a ha
              omega
            · obtain ⟨a, ha, hae⟩ := List.mem_map.1 hm
              have := ho a ha
              omega
      · split at h
        · split at h
          · rename_i a t hf
            have hmem := pfind_mem hf
            have hsub : ∀ (st : OStk), pfind r st = some (a, t) → ∃ pre c, st = pre ++ (c, a) :: t := by
              intro st
              induction st with
              | nil => intro h; simp [pfind] at h
              | cons y st ih =>
                intro h
                simp only [pfind] at h
                split at h
                · cases h; exact ⟨[], _, rfl⟩
                · obtain ⟨pre, c, e⟩ := ih h
                  exact ⟨y :: pre, c, by rw [e]; rfl⟩
            obtain ⟨pre, c, hst⟩ := hsub _ hf
            refine up ⟨t, p.out ++ [(a, k)]⟩ (fun b hb => hk b (hmem.2.1 b hb)) ?_ ?_ h
            · simp only [List.map_append, List.map_cons, List.map_nil]
              rw [hst] at hn
              simp only [List.map_append, List.map_cons, List.append_assoc, List.cons_append] at hn
              have hn2 := (List.nodup_append.1 hn).2.1
              have hp : (t.map (·.2) ++ (p.out.map (·.1) ++ [a])).Perm (a :: (t.map (·.2) ++ p.out.map (·.1))) := by
                rw [← List.append_assoc]
                exact (List.perm_append_comm).trans (by simp)
              exact hp.nodup_iff.2 hn2
            · intro x hx
              rcases List.mem_append.1 hx with hx | hx
              · exact ho x hx
              · simp at hx; subst hx
                obtain ⟨c, hc⟩ := hmem.1
                exact hk _ hc
          · exact up p hk hn ho h
        · exact up p hk hn ho h
end Bi
end Go.Ab
namespace Go.Ab.Bi
variable {d : Int}
def okC (x : Int) : Bool := x == 0 || x == 1 || x == 3 || x == 6 || x == 10 || x == 11 || x == 12 || x == 13 || x == 22 || ini x
def brkO (os : List Int) (a : Nat) : Prop := ∃ o, os[a]? = some o ∧ o ≠ 8 ∧ isoB o = false
def fin4 (x : Int) : Prop := x = 0 ∨ x = 1 ∨ x = 3 ∨ x = 6
end Go.Ab.Bi
namespace Go.Ab.Bi
open Go.Proofs
def vC (x : Int) : Bool := decide (0 ≤ x) && decide (x ≤ 22) && !(x == 8) && !gone x
def vD (x : Int) : Bool := vC x && !(x == 2)
def brK (L : List (Int × Int)) (i : Nat) : Prop := ∃ z, L[i]? = some z ∧ (brS z.2).1 ≠ 0
end Go.Ab.Bi
namespace Go.Ab
open Go.Proofs
namespace Bi
def rtrl (o : List Int) (e : Int) : Nat → List Int → List Int
  | 0, lv => lv
  | k + 1, lv => if blankB (o.getD k 0) = true then rtrl o e k (lv.set k e) else lv
theorem rtrl_len (o : List Int) (e : Int) : ∀ (k : Nat) (lv : List Int), (rtrl o e k lv).length = lv.length
  | 0, _ => rfl
  | k + 1, lv => by
    unfold rtrl
    split
    · rw [rtrl_len o e k]; simp
    · rfl
section
variable {prim : FuncId → Option Prim} (d : Nat) (cfg : Cfg)
set_option maxHeartbeats 1000000 in
theorem rtrail_ok (hp : prim 109 = none) (h71 : prim 132 = none) (h47 : prim 99 = none) (h70 : prim 138 = none) (h63 : prim 100 = none) (t lv : List Int) (n : Nat) (htn : t.length = n) (hlv : lv.length = n) (hn2 : n ≤ 2000) (e : Int) (k : Nat) (hk : k ≤ n) (H : Heap) (b : Nat)
    (hb : blockOf H b = some (lv.map (V.int .i64))) (hw : cfg.wr b = true) :
    callM md (K prim (d + 3)) cfg 109 [rl t, .sl b 0 n n 1, .int .i64 e, .int .i64 k] H = some (.tup [], H.set b (some ((rtrl (t.map bidi) e k lv).map (V.int .i64)))) := by
  suffices HH : ∃ r h2, callM md (K prim (d + 3)) cfg 109 [rl t, .sl b 0 n n 1, .int .i64 e, .int .i64 k] H = some (r, h2) ∧ r = .tup [] ∧ h2 = H.set b (some ((rtrl (t.map bidi) e k lv).map (V.int .i64))) by
    obtain ⟨r, h2, h3, rfl, rfl⟩ := HH
    exact h3
  refine call1x rfl hp Tryz.func109 rfl rfl rfl ?_
  have hw' : (Cfg.wr ⟨cfg.lo, cfg.ex, H.length⟩ b) = true := hw
  have hbl := blockOf_lt hb
  have hB := fun cfg h r => rbidi_ok (prim := prim) d cfg h h71 h47 r
  have hBk := fun cfg h x => rblank_ok (prim := prim) d cfg h h70 h63 x
  have hgt : ∀ (j : Nat) (z : Int), t[j]? = some z → (t.map bidi)[j]? = some (bidi z) := fun j z hz => by rw [List.getElem?_map, hz]; rfl
  generalize t.map bidi = o at *
  simp (disch := omega) [wrap64]
  refine wC_loop (fun m fr H' => ∃ (q : Nat) (lv' : List Int), q ≤ n ∧ m = q ∧ lv'.length = n ∧ rtrl o e k lv = rtrl o e q lv' ∧ H' = H.set b (some (lv'.map (V.int .i64))) ∧
    Slots 27 [(0, rl t), (1, .sl b 0 n n 1), (2, .int .i64 e), (8, .int .i64 ((q : Int) - 1))] fr) (m := k) (by omega) ⟨k, lv, hk, rfl, hlv, rfl, (set_same hb).symm, by simp⟩ ?_
  rintro m fr H' ⟨q, lv', hq, hm, hl', hF, rfl, hs⟩
  replace hm := hm.symm
  subst hm
  obtain ⟨j, rfl⟩ := hs.ex
  clear hs
  rw [hF]
  rcases q with _ | q
  · simp (disch := omega) [rtrl]
    exact List.take_of_length_le (by simp)
  · have hk1 : ((q + 1 : Nat) : Int) - 1 = q := by omega
    rw [hk1]
    obtain ⟨z, hz⟩ : ∃ z, t[q]? = some z := ⟨_, List.getElem?_eq_getElem (by omega)⟩
    have eo : o.getD q 0 = bidi z := by rw [List.getD_eq_getElem?_getD, hgt q z hz]; rfl
    rw [rtrl, eo]
    have hq1 : q + 1 ≤ n := hq
    cases hbk : blankB (bidi z)
    · rw [if_neg (by simp)]
      simp (disch := omega) [hz, hB, hBk, hbk, -getElem?_pos]
      exact List.take_of_length_le (by simp)
    · rw [if_pos rfl]
      simp (disch := omega) [hz, hB, hBk, hbk, hw', hl', hq1, wrap64, -getElem?_pos]
      exact Rnd_of (m' := q) (by omega) ⟨q, lv'.set q e, by omega, rfl, by simpa using hl', rfl, by simp [List.map_set], by simp (disch := omega)⟩
end
end Bi
end Go.Ab
namespace Go.Ab.Bi
end Go.Ab.Bi
namespace Go.Ab
open Go.Proofs
namespace Bi
def nums (n : Nat) : List Int := (List.range n).map Int.ofNat
end Bi
end Go.Ab
namespace Go.Ab
open Go.Proofs
namespace Bi
def Adj (l : List Int) (a b : Int) : Prop := ∃ u v, l = u ++ a :: b :: v
end Bi
end Go.Ab
