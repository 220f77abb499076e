/- Several texts of this proof in one. -/
import Derived.Test.YtoappddifbgegaaGreatPaRef
import Derived.Test.YtoappddifbgegaaGreatAbW7
set_option linter.all false
namespace Go.Ab
open Go.Proofs
namespace Bi
def rowN (r : Int) : Row := if r ≤ 161 then searchS tab1 r else if r ≤ 1642 then searchS tab2 r else if r ≤ 8237 then searchS tab3 r else searchS tab4 r
def clsN (x : Row) : List Int := [IntKind.i64.wrap x.2.2.1, IntKind.i64.wrap x.2.2.2.1, IntKind.i64.wrap x.2.2.2.2.1]
def refN (r : Int) : List Int := ((look refTbl r).getD [0, 0, 0, 0, 0]).take 3
theorem brkB_cls : (10000001 :: brkB).all (fun b => decide (clsN (rowN b) = refN b)) = true := by kernel_rfl
theorem brkB_sp : (10000001 :: brkB).all (fun b => decide (((clsN (rowN b)).getD 2 0 = 4) ↔ b = 32)) = true := by kernel_rfl
theorem rowN_sat {r s : Int} (h2 : Sat brkB r s) : rowN r = rowN s := by
  have a1 := h2 161 (by simp [brkB])
  have a2 := h2 1642 (by simp [brkB])
  have a3 := h2 8237 (by simp [brkB])
  have s1 : searchS tab1 r = searchS tab1 s := searchS_sat fun b hb => h2 b (by simp only [brkB, List.mem_cons, List.mem_append]; simp [hb])
  have s2 : searchS tab2 r = searchS tab2 s := searchS_sat fun b hb => h2 b (by simp only [brkB, List.mem_cons, List.mem_append]; simp [hb])
  have s3 : searchS tab3 r = searchS tab3 s := searchS_sat fun b hb => h2 b (by simp only [brkB, List.mem_cons, List.mem_append]; simp [hb])
  have s4 : searchS tab4 r = searchS tab4 s := searchS_sat fun b hb => h2 b (by simp only [brkB, List.mem_cons, List.mem_append]; simp [hb])
  unfold rowN
  rw [s1, s2, s3, s4]
  by_cases g1 : r ≤ 161
  · rw [if_pos g1, if_pos (a1.1 g1)]
  · rw [if_neg g1, if_neg (fun e => g1 (a1.2 e))]
    by_cases g2 : r ≤ 1642
    · rw [if_pos g2, if_pos (a2.1 g2)]
    · rw [if_neg g2, if_neg (fun e => g2 (a2.2 e))]
      by_cases g3 : r ≤ 8237
      · rw [if_pos g3, if_pos (a3.1 g3)]
      · rw [if_neg g3, if_neg (fun e => g3 (a3.2 e))]
theorem clsN_eq (r : Int) : clsN (rowN r) = refN r ∧ ((clsN (rowN r)).getD 2 0 = 4 ↔ r = 32) := by
  obtain ⟨s, h1, h2⟩ := rep r
  have e1 := rowN_sat h2
  have e2 : refN r = refN s := by
    unfold refN
    rw [look_sat fun b hb => h2 b (by simp only [brkB, List.mem_cons, List.mem_append]; simp [hb])]
  have h3 : (31 : Int) ∈ brkB := by decide
  have h4 : (32 : Int) ∈ brkB := by decide
  have h5 := h2 31 h3
  have h6 := h2 32 h4
  have c1 := of_decide_eq_true (List.all_eq_true.1 brkB_cls s h1)
  have c2 := of_decide_eq_true (List.all_eq_true.1 brkB_sp s h1)
  rw [e1, e2]
  exact ⟨c1, c2.trans ⟨fun h => by omega, fun h => by omega⟩⟩
theorem cls_eq (r : Int) : rcl 0 r = cBr r ∧ rcl 2 r = cLn r ∧ (cLn r = 4 ↔ r = 32) := by
  unfold rcl cBr cLn refRow findS
  by_cases h : 44032 ≤ r ∧ r ≤ 55203
  · rw [if_pos h, if_pos h]
    have hm : (r - 44032).tmod 28 = (r - 44032) % 28 := Int.tmod_eq_emod_of_nonneg (by omega)
    rw [hm]
    by_cases h2 : (r - 44032) % 28 = 0
    · rw [if_pos h2, if_pos h2]
      exact ⟨by decide, by decide, ⟨fun h => absurd h (by decide), fun h => by omega⟩⟩
    · rw [if_neg h2, if_neg h2]
      exact ⟨by decide, by decide, ⟨fun h => absurd h (by decide), fun h => by omega⟩⟩
  · rw [if_neg h, if_neg h]
    obtain ⟨h1, h2⟩ := clsN_eq r
    have e : (if r ≤ 161 then searchS tab1 r else if r ≤ 1642 then searchS tab2 r else if r ≤ 8237 then searchS tab3 r else searchS tab4 r) = rowN r := rfl
    rw [e]
    unfold refN at h1
    generalize (look refTbl r).getD [0, 0, 0, 0, 0] = l at *
    refine ⟨?_, ?_, h2⟩
    · have := congrArg (fun l : List Int => l.getD 0 0) h1
      simp only [clsN, List.getD_eq_getElem?_getD, List.getElem?_take_of_lt (show 0 < 3 by omega)] at this ⊢
      exact this.symm
    · have := congrArg (fun l : List Int => l.getD 2 0) h1
      simp only [clsN, List.getD_eq_getElem?_getD, List.getElem?_take_of_lt (show 2 < 3 by omega)] at this ⊢
      exact this.symm
end Bi
end Go.Ab
namespace Go.Ab
open Go.Proofs
namespace Bi
structure MOK (c M : List Int) : Prop where
  len : M.length = c.length
  at_ : ∀ (i : Nat) (x : Int), c[i]? = some x → ini x = true → M[i]? = some (mt c i)
section
variable {P : Program} {md' : FuncId → Nat} {n : Nat} {prim : FuncId → Option Prim}
end
section
variable {prim : FuncId → Option Prim} (d : Nat) (cfg : Cfg) (h : Heap)
end
def Opens (c M : List Int) (i : Nat) (st : List Nat) : Prop := ∀ (q k : Nat), st[q]? = some k → k < i ∧ M[k]? = some (-1) ∧ mscan (c.drop (k + 1)) 0 = (mscan (c.drop i) q).map (· + (i - (k + 1)))
structure MI (c M : List Int) (i : Nat) (st : List Nat) : Prop where
  len : M.length = c.length
  op : Opens c M i st
  dec : st.Pairwise (· > ·)
  ok : ∀ (j : Nat) (x : Int), j < i → c[j]? = some x → ini x = true → j ∈ st ∨ M[j]? = some (mt c j)
section
variable {prim : FuncId → Option Prim} (d : Nat)
end
end Bi
end Go.Ab
namespace Go.Ab
open Go.Proofs
namespace Bi
section
variable {prim : FuncId → Option Prim} (d : Nat) (cfg : Cfg) (h : Heap)
end
end Bi
end Go.Ab
namespace Go.Ab
open Go.Proofs
namespace Bi
section
variable {prim : FuncId → Option Prim} (d : Nat) (cfg : Cfg) (h : Heap)
end
end Bi
end Go.Ab
namespace Go.Ab
open Go.Proofs
namespace Bi
structure EW (e : Int) (i : Nat) (s : ES) : Prop where
  last : s.st.getLast? = some (e, -1, false)
  cnt : s.val = (s.st.filter fun a => a.2.2).length
  rng : ∀ a ∈ s.st, 0 ≤ a.1 ∧ a.1 ≤ 125 ∧ (a.2.1 = -1 ∨ a.2.1 = a.1 % 2)
  len : s.st.length ≤ i + 1
  iso : s.iso ≤ i
  emb : s.emb ≤ i
theorem EW.zero {e : Int} (he : 0 ≤ e ∧ e ≤ 1) : EW e 0 (es0 e) := ⟨rfl, rfl, by
  intro a ha
  simp [es0] at ha
  subst ha
  exact ⟨he.1, by omega, .inl rfl⟩, by simp [es0], by simp [es0], by simp [es0]⟩
theorem EW.up {e : Int} {i j : Nat} {s : ES} (h : EW e i s) (hj : i ≤ j) : EW e j s := ⟨h.last, h.cnt, h.rng, by have := h.len; omega, by have := h.iso; omega, by have := h.emb; omega⟩
theorem EW.cons {e : Int} {i : Nat} {s : ES} (h : EW e i s) : ∃ a r, s.st = a :: r := by
  have := h.last
  cases hs : s.st with
  | nil => rw [hs] at this; simp at this
  | cons a r => exact ⟨a, r, rfl⟩
theorem EW.val {e : Int} {i : Nat} {s : ES} (h : EW e i s) : s.val ≤ i + 1 := by
  have := h.cnt
  have := List.length_filter_le (fun a : Ent => a.2.2) s.st
  have := h.len
  omega
theorem nxt_rng {n : Int} (h : 0 ≤ n) (odd : Bool) : n < nxt n odd ∧ nxt n odd ≤ n + 2 ∧ (nxt n odd % 2 = if odd then 1 else 0) := by
  unfold nxt
  cases odd
  · by_cases h0 : n % 2 = 0 <;> simp [h0] <;> omega
  · by_cases h0 : n % 2 = 0 <;> simp [h0] <;> omega
theorem EW.push {e : Int} {i : Nat} {s : ES} (h : EW e i s) (a : Ent) (ha : 0 ≤ a.1 ∧ a.1 ≤ 125 ∧ (a.2.1 = -1 ∨ a.2.1 = a.1 % 2)) (v : Nat) (hv : v = s.val + if a.2.2 then 1 else 0) : EW e (i + 1) { s with st := a :: s.st, val := v } := by
  obtain ⟨b, r, hs⟩ := h.cons
  refine ⟨?_, ?_, ?_, by have := h.len; simp; omega, by have := h.iso; simp; omega, by have := h.emb; simp; omega⟩
  · have := h.last
    rw [hs] at this ⊢
    rw [List.getLast?_cons_cons]
    exact this
  · simp only [List.filter_cons]
    rw [hv, h.cnt]
    split <;> simp
  · intro x hx
    rcases List.mem_cons.1 hx with rfl | hx
    · exact ha
    · exact h.rng x hx
theorem EW.tail {e : Int} {i : Nat} {s : ES} (h : EW e i s) (hl : 1 < s.st.length) (ht : (topE s.st).2.2 = false) : EW e i { s with st := s.st.tail } := by
  obtain ⟨b, r, hs⟩ := h.cons
  have h1 := h.last
  have h2 := h.cnt
  have h3 := h.len
  rw [hs] at h1 h2 ht hl h3
  obtain ⟨b2, r2, rfl⟩ : ∃ b2 r2, r = b2 :: r2 := by
    cases r with
    | nil => simp at hl
    | cons b2 r2 => exact ⟨b2, r2, rfl⟩
  simp only [topE] at ht
  refine ⟨?_, ?_, ?_, ?_, h.iso, h.emb⟩
  · rw [hs]; rw [List.getLast?_cons_cons] at h1; exact h1
  · rw [hs, h2]; simp [List.filter_cons, ht]
  · intro x hx
    rw [hs] at hx
    exact h.rng x (by rw [hs]; exact List.mem_cons_of_mem _ hx)
  · rw [hs]; simp at h3 ⊢; omega
theorem popI_ok : ∀ (st : List Ent) (e : Int), st.getLast? = some (e, -1, false) → 0 < (st.filter fun a => a.2.2).length →
    (popI st).getLast? = some (e, -1, false) ∧ ((popI st).filter fun a => a.2.2).length + 1 = (st.filter fun a => a.2.2).length ∧ (∀ a ∈ popI st, a ∈ st) ∧ (popI st).length < st.length
  | [], e, h, _ => by simp at h
  | a :: r, e, h, hf => by
    have hr : r ≠ [] := by
      rintro rfl
      simp at h
      subst h
      simp at hf
    obtain ⟨b, r', rfl⟩ : ∃ b r', r = b :: r' := by
      cases r with
      | nil => exact absurd rfl hr
      | cons b r' => exact ⟨b, r', rfl⟩
    rw [List.getLast?_cons_cons] at h
    cases ha : a.2.2
    · have e1 : popI (a :: b :: r') = popI (b :: r') := by rw [popI, ha]; rfl
      have e2 : (a :: b :: r').filter (fun a => a.2.2) = (b :: r').filter fun a => a.2.2 := by rw [List.filter_cons, ha]; rfl
      rw [e2] at hf ⊢
      rw [e1]
      obtain ⟨h1, h2, h3, h4⟩ := popI_ok (b :: r') e h hf
      exact ⟨h1, h2, fun x hx => List.mem_cons_of_mem _ (h3 x hx), by simp at h4 ⊢; omega⟩
    · have e1 : popI (a :: b :: r') = b :: r' := by rw [popI, ha]; rfl
      have e2 : (a :: b :: r').filter (fun a => a.2.2) = a :: (b :: r').filter fun a => a.2.2 := by rw [List.filter_cons, ha]; rfl
      rw [e1, e2]
      exact ⟨h, by simp, fun x hx => List.mem_cons_of_mem _ hx, by simp⟩
theorem EW.step {e : Int} {i : Nat} {s : ES} (h : EW e i s) (x : Int) (odd : Bool) : EW e (i + 1) (exStep e x odd s).2.2 := by
  obtain ⟨a, r, hs⟩ := h.cons
  have ha := h.rng a (by rw [hs]; exact List.mem_cons_self ..)
  have ht : topE s.st = a := by rw [hs]; rfl
  unfold exStep
  split
  · rename_i hx
    simp only
    split
    · rename_i hc
      have hn := nxt_rng ha.1 (decide (x = 16 ∨ x = 17))
      rw [ht] at hc ⊢
      refine h.push (nxt a.1 (decide (x = 16 ∨ x = 17)), ovOf x, false) ⟨by simp only; omega, hc.1, ?_⟩ s.val (by simp)
      simp only
      rw [hn.2.2]
      unfold ovOf
      rcases hx with rfl | rfl | rfl | rfl <;> simp
    · split
      · refine ⟨h.last, h.cnt, h.rng, by have := h.len; simp; omega, by have := h.iso; simp; omega, by have := h.emb; simp; omega⟩
      · exact h.up (by omega)
  · split
    · simp only
      split
      · rename_i hc
        have hn := nxt_rng ha.1 odd
        rw [ht] at hc ⊢
        exact h.push (nxt a.1 odd, -1, true) ⟨by simp only; omega, hc.1, .inl rfl⟩ (s.val + 1) (by simp)
      · refine ⟨h.last, h.cnt, h.rng, by have := h.len; simp; omega, by have := h.iso; simp; omega, by have := h.emb; simp; omega⟩
    · split
      · simp only
        split
        · refine ⟨h.last, h.cnt, h.rng, by have := h.len; simp; omega, by have := h.iso; simp; omega, by have := h.emb; simp; omega⟩
        · split
          · rename_i hv
            obtain ⟨h1, h2, h3, h4⟩ := popI_ok s.st e h.last (by rw [← h.cnt]; exact hv)
            refine ⟨h1, ?_, fun a ha => h.rng a (h3 a ha), by have := h.len; simp; omega, by have := h.iso; simp; omega, by simp⟩
            have := h.cnt
            simp only
            omega
          · exact h.up (by omega)
      · split
        · simp only
          split
          · exact h.up (by omega)
          · split
            · refine ⟨h.last, h.cnt, h.rng, by have := h.len; simp; omega, by have := h.iso; simp; omega, by have := h.emb; simp; omega⟩
            · split
              · rename_i hc
                exact (h.tail hc.2 hc.1).up (by omega)
              · exact h.up (by omega)
        · split
          · exact h.up (by omega)
          · split <;> exact h.up (by omega)
structure EI (e : Int) (o : List Int) (i : Nat) (c lv : List Int) (s : ES) : Prop where
  w : EW e i s
  cl : c.length = o.length
  ll : lv.length = o.length
  ct : ∀ j, j < i → c[j]? = ((expl e o)[j]?).map (·.2)
  cd : ∀ j, i ≤ j → c[j]? = o[j]?
  lt : ∀ j, j < i → lv[j]? = ((expl e o)[j]?).map (·.1)
  rest : ∀ k, (expl e o)[i + k]? = (exGo e (o.drop i) s)[k]?
section
variable {P : Program} {md' : FuncId → Nat} {call : Callf}
end
end Bi
end Go.Ab
namespace Go.Ab
open Go.Proofs
namespace Bi
@[simp] theorem wr_lo0 {ex : List Nat} {q b : Nat} : (Cfg.wr ⟨0, ex, q⟩ b) = true := by simp [Cfg.wr]
section
variable {prim : FuncId → Option Prim} (d : Nat)
end
end Bi
end Go.Ab
namespace Go.Ab.Bi
def nx (y : Int) : Int := if ini y = true ∨ y = 22 then 13 else y
def w1 : Int → List Int → List Int
  | _, [] => []
  | p, x :: r => (if x = 8 then p else x) :: w1 (nx (if x = 8 then p else x)) r
def w2 : Int → List Int → List Int
  | _, [] => []
  | l, x :: r => if x = 0 ∨ x = 1 ∨ x = 2 then x :: w2 x r else if x = 3 ∧ l = 2 then 6 :: w2 l r else x :: w2 l r
def w3 (s : List Int) : List Int := s.map fun x => if x = 2 then 1 else x
structure WB (c : List Int) (l s c' : List Int) : Prop where
  len : c'.length = c.length
  at_ : ∀ (k : Nat) (i : Int), l[k]? = some i → c'[i.toNat]? = s[k]?
  oth : ∀ j : Nat, (j : Int) ∉ l → c'[j]? = c[j]?
  sl : s.length = l.length
structure Pl (n : Nat) (l : List Int) : Prop where
  rng : ∀ i ∈ l, 0 ≤ i ∧ i < n
  nd : l.Nodup
end Go.Ab.Bi
namespace Go.Ab.Bi
end Go.Ab.Bi
namespace Go.Ab
open Go.Proofs
namespace Bi
section
variable {prim : FuncId → Option Prim} (d : Nat) (cfg : Cfg) (h : Heap)
end
end Bi
end Go.Ab
