/- What these texts need besides. -/
import Derived.Test.YteogajcegmejgaaGreatAbSortI
import Derived.Test.YteogajcegmejgaaGreatPaRef
namespace Go.Ab
section
variable {P : Program} {md : FuncId → Nat} {prim : FuncId → Option Prim} {n : Nat}
def intOf : V → Int
  | .int _ n => n
  | _ => 0
end
end Go.Ab
namespace Go.Ab.Tx
section
def passF : List Int → Int → Int → Int → Int × Int
  | [], a, p, _ => (a, p)
  | x :: l, a, p, n => if a < x ∧ p < n then passF l x (p + 1) n else passF l a p n
def passB : List Int → Int → Int → Int → Int × Int
  | [], a, p, _ => (a, p)
  | x :: l, a, p, n => if x < a ∧ n < p then passB l x (p - 1) n else passB l a p n
theorem passF_gt : ∀ (l : List Int) (a p n : Int), Up l → (∀ x ∈ l, a < x) → p ≤ n → passF l a p n = ((a :: l).getD (min l.length (n - p).toNat) 0, p + ((min l.length (n - p).toNat : Nat) : Int))
  | [], a, p, n, _, _, _ => by simp [passF]
  | x :: l, a, p, n, hu, ha, hp => by
    have hu' := List.pairwise_cons.1 hu
    unfold passF
    by_cases h : p < n
    · rw [if_pos ⟨ha x (List.mem_cons_self ..), h⟩, passF_gt l x (p + 1) n hu'.2 hu'.1 (by omega)]
      have e : min (x :: l).length (n - p).toNat = min l.length (n - (p + 1)).toNat + 1 := by
        simp only [List.length_cons]; omega
      rw [e]
      refine Prod.ext ?_ ?_
      · simp
      · simp; omega
    · rw [if_neg (fun h' => h h'.2), passF_gt l a p n hu'.2 (fun y hy => ha y (List.mem_cons_of_mem _ hy)) hp]
      have e1 : (n - p).toNat = 0 := by omega
      simp [e1]
theorem passF_le : ∀ (q l : List Int) (a p n : Int), (∀ x ∈ q, x ≤ a) → passF (q ++ l) a p n = passF l a p n
  | [], _, _, _, _, _ => rfl
  | x :: q, l, a, p, n, h => by
    have := h x (List.mem_cons_self ..)
    rw [List.cons_append, passF, if_neg (by omega), passF_le q l a p n fun y hy => h y (List.mem_cons_of_mem _ hy)]
theorem up_split {b : List Int} (hu : Up b) {i : Nat} {a : Int} (hi : b[i]? = some a) : (∀ x ∈ b.take (i + 1), x ≤ a) ∧ (∀ x ∈ b.drop (i + 1), a < x) ∧ b.drop i = a :: b.drop (i + 1) := by
  obtain ⟨hl, he⟩ := List.getElem?_eq_some_iff.1 hi
  subst he
  have hp := List.pairwise_iff_getElem.1 hu
  refine ⟨fun x hx => ?_, fun x hx => ?_, List.drop_eq_getElem_cons hl⟩
  · obtain ⟨j, hj, rfl⟩ := List.getElem_of_mem hx
    simp only [List.getElem_take]
    simp at hj
    by_cases h : j = i
    · subst h; exact Int.le_refl _
    · have := hp j i (by omega) hl (by omega); omega
  · obtain ⟨j, hj, rfl⟩ := List.getElem_of_mem hx
    simp only [List.getElem_drop]
    simp at hj
    exact hp i (i + 1 + j) hl (by omega) (by omega)
theorem passF_at {b : List Int} (hu : Up b) {i : Nat} {a n : Int} (hi : b[i]? = some a) (hn : 0 ≤ n) :
    passF b a 0 n = (b.getD (i + min (b.length - (i + 1)) n.toNat) 0, ((min (b.length - (i + 1)) n.toNat : Nat) : Int)) := by
  obtain ⟨h1, h2, h3⟩ := up_split hu hi
  conv => lhs; rw [← List.take_append_drop (i + 1) b]
  rw [passF_le _ _ _ _ _ h1, passF_gt _ _ _ _ (hu.sublist (List.drop_sublist ..)) h2 hn, ← h3]
  refine Prod.ext ?_ ?_
  · simp [List.getD_eq_getElem?_getD]
  · simp
theorem passB_neg : ∀ (l : List Int) (a p n : Int), passB l a p n = (-(passF (l.map (-·)) (-a) (-p) (-n)).1, -(passF (l.map (-·)) (-a) (-p) (-n)).2)
  | [], a, p, n => by simp [passB, passF]
  | x :: l, a, p, n => by
    rw [passB, List.map_cons, passF]
    by_cases h : x < a ∧ n < p
    · rw [if_pos h, if_pos (by omega), passB_neg l x (p - 1) n]
      have e : -p + 1 = -(p - 1) := by omega
      rw [e]
    · rw [if_neg h, if_neg (by omega), passB_neg l a p n]
theorem up_neg {b : List Int} (hu : Up b) : Up (b.reverse.map (-·)) := by
  unfold Up at *
  rw [List.pairwise_map, List.pairwise_reverse]
  exact hu.imp fun h => by omega
theorem passB_at {b : List Int} (hu : Up b) {i : Nat} {a n : Int} (hi : b[i]? = some a) (hn : n ≤ 0) :
    passB b.reverse a 0 n = (b.getD (i - min i n.natAbs) 0, -((min i n.natAbs : Nat) : Int)) := by
  obtain ⟨hl, he⟩ := List.getElem?_eq_some_iff.1 hi
  have hr : (b.reverse.map (-·))[b.length - 1 - i]? = some (-a) := by
    rw [List.getElem?_map, List.getElem?_reverse (by omega)]
    have : b.length - 1 - (b.length - 1 - i) = i := by omega
    rw [this, hi]; rfl
  have h := passF_at (up_neg hu) hr (n := -n) (by omega)
  have e1 : (b.reverse.map (-·)).length = b.length := by simp
  rw [e1] at h
  have e2 : min (b.length - (b.length - 1 - i + 1)) (-n).toNat = min i n.natAbs := by omega
  rw [e2] at h
  rw [passB_neg]
  simp only [Int.neg_zero]
  rw [h]
  refine Prod.ext ?_ rfl
  simp only [List.getD_eq_getElem?_getD, List.getElem?_map]
  rw [List.getElem?_reverse (by omega)]
  have e3 : b.length - 1 - (b.length - 1 - i + min i n.natAbs) = i - min i n.natAbs := by omega
  rw [e3, List.getElem?_eq_getElem (by omega)]
  simp
theorem whole_at {b : List Int} {n : Int} (h : Bnd b n) {i : Nat} {a c : Int} (ha : b[i]? = some a) (hc : b[i + 1]? = some c) (o : Int) : whF a n b o = a ∧ whT a a n b = c := by
  obtain ⟨h1, h2, h3⟩ := up_split h.up ha
  have hac : a < c := h2 c (by
    have : (b.drop (i + 1))[0]? = some c := by rw [List.getElem?_drop]; exact hc
    exact List.mem_of_getElem? this)
  have hcn := (h.rng c (List.mem_of_getElem? hc)).2
  have ham := List.mem_of_getElem? ha
  have hcm := List.mem_of_getElem? hc
  constructor
  · obtain ⟨k1, k2, k3, k4⟩ := whF_max (f := a) (n := n) (o := o) h.up ⟨a, ham, Int.le_refl _, by omega⟩
    have := k4 a ham (Int.le_refl _) (by omega)
    omega
  · obtain ⟨k1, k2, k3, k4⟩ := whT_min (o := a) (t := a) (n := n) h.up ⟨c, hcm, hac, by omega⟩
    have k5 := k4 c hcm hac (by omega)
    obtain ⟨j, hj⟩ := List.mem_iff_getElem?.1 k1
    obtain ⟨hjl, hje⟩ := List.getElem?_eq_some_iff.1 hj
    obtain ⟨hil, hie⟩ := List.getElem?_eq_some_iff.1 ha
    obtain ⟨hcl, hce⟩ := List.getElem?_eq_some_iff.1 hc
    have hp := List.pairwise_iff_getElem.1 h.up
    rcases Nat.lt_trichotomy j (i + 1) with hlt | heq | hgt
    · by_cases hji : j = i
      · subst hji; omega
      · have := hp j i hjl hil (by omega); omega
    · subst heq; omega
    · have := hp (i + 1) j hcl hjl hgt; omega
end
end Go.Ab.Tx
