/- Several texts of this proof in one. -/
import Derived.Test.YteogajcegmejgaaGreatPiSpec7
import Derived.Test.YteogajcegmejgaaGreatAbW
import Derived.Test.YteogajcegmejgaaGreatPiL
import Derived.Test.YteogajcegmejgaaGreatPiSpec2
import Derived.Sort.AssemblyPlain
import Derived.Lib.BitFns
import Derived.WalkKit
namespace Go.Ab.Bi
open Go.Proofs
theorem pq1 {α : Type} (a b c : α) (s : List α) : (a :: b :: c :: s).Perm (c :: a :: (s ++ [b])) := by
  refine (List.Perm.cons _ (List.Perm.swap ..)).trans ?_
  refine (List.Perm.swap ..).trans ?_
  exact List.Perm.cons _ (List.Perm.cons _ (List.perm_append_singleton ..).symm)
end Go.Ab.Bi
namespace Go.Ab
open Go.Proofs
namespace Bi
def seqsS (o M lv : List Int) (n : Nat) (e : Int) : List Sq :=
  sqsU o (fol o M (grp lv (keptL o n) (keptL o n).length)) (grp lv (keptL o n) (keptL o n).length) lv (keptL o n) e (grp lv (keptL o n) (keptL o n).length).length
section
variable {prim : FuncId → Option Prim} (d : Nat)
end
end Bi
end Go.Ab
namespace Go.Ab
open Go.Sort
abbrev KV := Fin 4294967296 × Fin 4294967296
def ltOf {α : Type} (cf : α → α → Int) (x y : α) : Bool := decide (cf x y < 0)
def kvC (x y : KV) : Int := (x.1.val : Int) - (y.1.val : Int)
def kvLt (x y : KV) : Bool := ltOf kvC x y
def small (n : Int) : Option (Fin 4294967296) := if h : 0 ≤ n ∧ n < 4294967296 then some ⟨n.toNat, by omega⟩ else none
noncomputable def kvSort (l : List KV) : List KV := (pdq kvLt l.toArray 0 l.length (Lib.bitLen l.length) true true).toList
theorem kvLt_iff (x y : KV) : kvLt x y = decide (x.1.val < y.1.val) := by
  unfold kvLt ltOf kvC
  congr 1
  simp only [eq_iff_iff]
  omega
theorem kvSWO : SWO (ltOf kvC) where
  irrefl x := by have := kvLt_iff x x; unfold kvLt at this; rw [this]; simp
  trans x y z h1 h2 := by
    have a := kvLt_iff x y; have b := kvLt_iff y z; have c := kvLt_iff x z
    unfold kvLt at a b c
    rw [a] at h1; rw [b] at h2; rw [c]
    simp at *; omega
  ntrans x y z h1 h2 := by
    have a := kvLt_iff x y; have b := kvLt_iff y z; have c := kvLt_iff x z
    unfold kvLt at a b c
    rw [a] at h1; rw [b] at h2; rw [c]
    simp only [decide_eq_false_iff_not] at *; omega
theorem kvSort_both (l : List KV) : PermIn 0 l.length l.toArray (pdq kvLt l.toArray 0 l.length (Lib.bitLen l.length) true true) ∧ SortedIn kvLt 0 l.length (pdq kvLt l.toArray 0 l.length (Lib.bitLen l.length) true true) := by
  have h := pdq_sorts (ltOf kvC) kvSWO l.toArray 0 l.length (Lib.bitLen l.length) true true (Nat.zero_le _) (by simp) (Or.inl rfl)
  exact ⟨h.1, h.2⟩
theorem kvSort_len (l : List KV) : (kvSort l).length = l.length := by
  have := (kvSort_both l).1.1
  simpa [kvSort] using this
theorem kvSort_perm (l : List KV) : (kvSort l).Perm l := by
  have h := kvSort_both l
  have h1 := h.1.1
  have h2 := h.1.2.2
  simp only [List.size_toArray] at h1
  have e1 : (l.toArray.extract 0 l.length) = l.toArray := by simp
  have e2 : (pdq kvLt l.toArray 0 l.length (Lib.bitLen l.length) true true).extract 0 l.length = pdq kvLt l.toArray 0 l.length (Lib.bitLen l.length) true true := by
    generalize pdq kvLt l.toArray 0 l.length (Lib.bitLen l.length) true true = a at h1
    rw [← h1]
    exact Array.extract_size
  rw [e1, e2] at h2
  simpa [kvSort] using h2
end Go.Ab
namespace Go.Proofs
open Go.RowKit Go.Lib Go.Sort
end Go.Proofs
namespace Go.Ab
open Go.Proofs
namespace Bi
def toKV (x : Nat × Nat) : KV := (⟨x.1 % 4294967296, by omega⟩, ⟨x.2 % 4294967296, by omega⟩)
noncomputable def srtS (out : List (Nat × Nat)) : List (Nat × Nat) := (kvSort (out.map toKV)).map fun x => (x.1.val, x.2.val)
def Sm (out : List (Nat × Nat)) : Prop := ∀ x ∈ out, x.1 < 4294967296 ∧ x.2 < 4294967296
theorem srtS_len (out : List (Nat × Nat)) : (srtS out).length = out.length := by simp [srtS, kvSort_len]
theorem srtS_perm {out : List (Nat × Nat)} (h : Sm out) : (srtS out).Perm out := by
  have h1 := (kvSort_perm (out.map toKV)).map (fun x : KV => (x.1.val, x.2.val))
  rw [List.map_map] at h1
  have h2 : out.map ((fun x : KV => (x.1.val, x.2.val)) ∘ toKV) = out := by
    conv => rhs; rw [← List.map_id out]
    apply List.map_congr_left
    intro x hx
    obtain ⟨a, b⟩ := h x hx
    simp [toKV, Nat.mod_eq_of_lt a, Nat.mod_eq_of_lt b]
  rw [h2] at h1
  exact h1
section
variable {prim : FuncId → Option Prim} (d : Nat)
end
end Bi
end Go.Ab
namespace Go.Ab.Bi
def remL : Int → List Int → List Int → List Int
  | p, x :: o, a :: y => (if gone x then p else a) :: remL (if gone x then p else a) o y
  | _, _, _ => []
theorem remL_len : ∀ (o y : List Int) (p : Int), o.length = y.length → (remL p o y).length = y.length
  | [], [], _, _ => rfl
  | x :: o, a :: y, p, h => by simp at h; simp [remL, remL_len o y _ h]
  | [], _ :: _, _, h => by simp at h
  | _ :: _, [], _, h => by simp at h
theorem remL_zero {o y : List Int} {p x a : Int} (ho : o[0]? = some x) (hy : y[0]? = some a) : (remL p o y)[0]? = some (if gone x then p else a) := by
  cases o with
  | nil => simp at ho
  | cons b o => cases y with
    | nil => simp at hy
    | cons c y => simp at ho hy; simp [remL, ho, hy]
theorem remL_succ : ∀ (o y : List Int) (p : Int) (i : Nat) (x a q : Int), o[i + 1]? = some x → y[i + 1]? = some a → (remL p o y)[i]? = some q → (remL p o y)[i + 1]? = some (if gone x then q else a)
  | [], _, _, _, _, _, _, ho, _, _ => by simp at ho
  | _ :: _, [], _, _, _, _, _, _, hy, _ => by simp at hy
  | b :: o, c :: y, p, 0, x, a, q, ho, hy, hq => by
    simp only [remL, List.getElem?_cons_zero, Option.some.injEq] at hq
    simp only [remL, List.getElem?_cons_succ] at ho hy ⊢
    rw [remL_zero ho hy, hq]
  | b :: o, c :: y, p, i + 1, x, a, q, ho, hy, hq => by
    simp only [remL, List.getElem?_cons_succ] at ho hy hq ⊢
    exact remL_succ o y _ i x a q ho hy hq
def blankB (x : Int) : Bool := x == 12 || x == 22 || x == 9 || x == 16 || x == 14 || x == 17 || x == 15 || x == 18 || ini x
end Go.Ab.Bi
namespace Go.Ab.Bi
theorem EW.top {e : Int} {i : Nat} {s : ES} (h : EW e i s) : 0 ≤ (topE s.st).1 ∧ (topE s.st).1 ≤ 125 := by
  obtain ⟨a, r, hs⟩ := h.cons
  have ha := h.rng a (by rw [hs]; exact List.mem_cons_self ..)
  have ht : topE s.st = a := by rw [hs]; rfl
  rw [ht]
  exact ⟨by omega, by omega⟩
theorem exStep_rng {e : Int} {i : Nat} {s : ES} (h : EW e i s) (he : 0 ≤ e ∧ e ≤ 1) (x : Int) (odd : Bool) : 0 ≤ (exStep e x odd s).1 ∧ (exStep e x odd s).1 ≤ 125 := by
  have h2 := h.step x odd
  have ht := h.top
  have ht2 := h2.top
  unfold exStep at ht2 ⊢
  split
  · exact ht
  · rename_i h1
    rw [if_neg h1] at ht2
    split
    · exact ht
    · rename_i h3
      rw [if_neg h3] at ht2
      split
      · rename_i h4
        rw [if_pos h4] at ht2
        exact ht2
      · split
        · exact ht
        · split
          · exact ⟨he.1, by omega⟩
          · split <;> exact ht
theorem exGo_rng {e : Int} (he : 0 ≤ e ∧ e ≤ 1) : ∀ (l : List Int) (s : ES) (i : Nat), EW e i s → ∀ p ∈ exGo e l s, 0 ≤ p.1 ∧ p.1 ≤ 125
  | [], _, _, _, p, hp => by simp [exGo] at hp
  | x :: r, s, i, h, p, hp => by
    rw [exGo] at hp
    rcases List.mem_cons.1 hp with rfl | hp
    · exact exStep_rng h he x _
    · exact exGo_rng he r _ (i + 1) (h.step x _) p hp
theorem expl_rng {e : Int} (he : 0 ≤ e ∧ e ≤ 1) (o : List Int) : ∀ x ∈ (expl e o).map (·.1), 0 ≤ x ∧ x ≤ 125 := by
  intro x hx
  obtain ⟨p, hp, rfl⟩ := List.mem_map.1 hx
  exact exGo_rng he o _ 0 (EW.zero he) p hp
end Go.Ab.Bi
namespace Go.Ab
open Go.Proofs
namespace Bi
noncomputable def prsS (l : List (Int × Int)) : List (Nat × Nat) := match pgo 0 l ⟨[], []⟩ with
  | some out => srtS out
  | none => []
def Stp (t o : List Int) (s : Sq) (c y c' y' : List Int) : Prop :=
  ∃ c1 c2, WB c s.l (weakS s.sos (s.l.map (lvl c))) c1 ∧
    WB c1 s.l (brks (strS s.lev) s.sos (s.l.map (lvl o)) (prsS ((s.l.map (lvl c1)).zip (s.l.map (lvl t)))) (s.l.map (lvl c1))) c2 ∧
    WB c2 s.l (neuS (strS s.lev) s.eos s.sos 0 (s.l.map (lvl c2))) c' ∧ WB y s.l (impL s.lev (s.l.map (lvl y)) (s.l.map (lvl c'))) y'
def Stps (t o : List Int) : List Sq → List Int → List Int → List Int → List Int → Prop
  | [], c, y, c', y' => c' = c ∧ y' = y
  | s :: r, c, y, c', y' => ∃ c1 y1, Stp t o s c y c1 y1 ∧ Stps t o r c1 y1 c' y'
theorem sqsU_mem {o : List Int} {F : Nat → Int} {rs : List (List Int)} {lv kept : List Int} {e : Int} {s : Sq} : ∀ {k : Nat}, s ∈ sqsU o F rs lv kept e k → ∃ j, j < k ∧ con F rs.length j = false ∧ s = sqOf o F rs lv kept e j
  | 0, h => by simp [sqsU] at h
  | k + 1, h => by
    unfold sqsU at h
    cases hc : con F rs.length k
    · rw [hc] at h
      rcases List.mem_append.1 h with h | h
      · obtain ⟨j, h1, h2, h3⟩ := sqsU_mem h
        exact ⟨j, by omega, h2, h3⟩
      · exact ⟨k, by omega, hc, by simpa using h⟩
    · rw [hc] at h
      obtain ⟨j, h1, h2, h3⟩ := sqsU_mem h
      exact ⟨j, by omega, h2, h3⟩
theorem keptL_grp {o lv : List Int} {n : Nat} : (grp lv (keptL o n) (keptL o n).length).flatten = keptL o n := by
  rw [grp_flat lv (keptL o n) _ (Nat.le_refl _), List.take_length]
theorem seqsS_F {o M lv : List Int} {n : Nat} (hM : MOK o M) (hon : o.length = n) :
    ∀ j, j < (grp lv (keptL o n) (keptL o n).length).length → fol o M (grp lv (keptL o n) (keptL o n).length) j < 0 ∨ ((j : Int) < fol o M (grp lv (keptL o n) (keptL o n).length) j ∧ fol o M (grp lv (keptL o n) (keptL o n).length) j < (grp lv (keptL o n) (keptL o n).length).length) := by
  intro j hj
  refine fol_ok hM ?_ ?_ j hj
  · rw [keptL_grp]; exact keptL_asc o n
  · rw [keptL_grp]
    intro x hx
    have := keptL_mem o n x hx
    omega
theorem sq_facts {o M lv : List Int} {n : Nat} {e : Int} (hM : MOK o M) (hon : o.length = n) (hlv : lv.length = n) (hlr : ∀ x ∈ lv, 0 ≤ x ∧ x ≤ 125) {s : Sq} (hs : s ∈ seqsS o M lv n e) : Pl n s.l ∧ s.l.length ≤ n ∧ (0 ≤ s.lev ∧ s.lev ≤ 125) ∧ s.l.Sublist (keptL o n) := by
  unfold seqsS at hs
  obtain ⟨j, h1, h2, rfl⟩ := sqsU_mem hs
  obtain ⟨r, hr⟩ : ∃ r, (grp lv (keptL o n) (keptL o n).length)[j]? = some r := ⟨_, List.getElem?_eq_getElem h1⟩
  obtain ⟨c1, c2, c3⟩ := chn_facts (seqsS_F hM hon) keptL_grp (grp_all lv (keptL o n) _) hr
  have hk := keptL_mem o n
  have ha := keptL_asc o n
  have hkl := keptL_len o n
  have hll := c1.length_le
  refine ⟨⟨fun i hi => ?_, ?_⟩, ?_, ?_, c1⟩
  · have := hk i (c1.subset hi)
    omega
  · exact (ha.sublist c1).imp (fun h => by omega)
  · show (chn _ _ _ _).length ≤ n
    omega
  · show 0 ≤ lvl lv _ ∧ lvl lv _ ≤ 125
    have hx := headD_of c2
    have hm := hk _ (c1.subset (List.mem_of_getElem? hx))
    generalize (chn (fol o M (grp lv (keptL o n) (keptL o n).length)) (grp lv (keptL o n) (keptL o n).length) (grp lv (keptL o n) (keptL o n).length).length j).headD 0 = x at hm
    have hlx : lv[x.toNat]? = some (lvl lv x) := by rw [lvl, List.getD_eq_getElem?_getD, List.getElem?_eq_getElem (by omega)]; rfl
    exact hlr _ (List.mem_of_getElem? hlx)
theorem pgo_pok : ∀ (l : List (Int × Int)) (k : Nat) (p : PS) (out : List (Nat × Nat)), POK k p → pgo k l p = some out → ∃ p', POK (k + l.length) p' ∧ p'.out = out
  | [], k, p, out, h, e => by
    simp only [pgo, Option.some.injEq] at e
    exact ⟨p, h, e⟩
  | (x, r) :: l, k, p, out, h, e => by
    have step : ∀ p2, POK (k + 1) p2 → pgo (k + 1) l p2 = some out → ∃ p', POK (k + (l.length + 1)) p' ∧ p'.out = out := by
      intro p2 h2 e2
      obtain ⟨p', h3, h4⟩ := pgo_pok l (k + 1) p2 out h2 e2
      exact ⟨p', by rw [show k + (l.length + 1) = k + 1 + l.length by omega]; exact h3, h4⟩
    rw [pgo] at e
    rw [List.length_cons]
    split at e
    · exact step _ h.up e
    · split at e
      · split at e
        · cases e
        · rename_i hl
          exact step _ (h.push _ hl) e
      · split at e
        · split at e
          · rename_i a t hf
            exact step _ (h.pair hf) e
          · exact step _ h.up e
        · exact step _ h.up e
theorem prsS_ok {l : List (Int × Int)} (hl : l.length ≤ 2000) : (∀ p ∈ prsS l, p.1 < p.2 ∧ p.2 < l.length) ∧ (prsS l).length ≤ 2000 := by
  unfold prsS
  cases hg : pgo 0 l ⟨[], []⟩ with
  | none => simp
  | some out =>
    obtain ⟨p', h1, rfl⟩ := pgo_pok l 0 _ out POK.zero hg
    have hsm : Sm p'.out := fun x hx => by have := h1.ord x hx; omega
    refine ⟨fun p hp => ?_, ?_⟩
    · have := h1.ord p ((srtS_perm hsm).mem_iff.1 hp)
      omega
    · have := h1.olen
      simp only [srtS_len]
      omega
end Bi
end Go.Ab
namespace Go.Ab
open Go.Proofs
namespace Bi
theorem baseS_rng {B : Int → Int} {t : List Int} {base : Int} : 0 ≤ baseS B t base ∧ baseS B t base ≤ 1 := by
  unfold baseS
  split
  · omega
  · have := fs_val (t.map B).length (t.map B)
    unfold fs
    omega
section
variable {prim : FuncId → Option Prim} (d : Nat) (cfg : Cfg) (h : Heap)
end
end Bi
end Go.Ab
