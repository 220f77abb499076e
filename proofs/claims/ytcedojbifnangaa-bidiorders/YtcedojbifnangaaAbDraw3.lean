/- For regions that draw their order: whatever order the edges allow. -/
import Derived.Test.YtcedojbifnangaaAbDraw2
namespace Go.Ab

section
variable {P : Program} {ops : Array Oper} {Q : Exit → Act → World → Prop}

/-- What must come before an operation has come. -/
def Ready (S : Nat → Bool) (o : Oper) : Prop := ∀ e ∈ o.after.toList, Region.binds .any e = true → S e.on = true

def Closed (ops : Array Oper) (S : Nat → Bool) : Prop := ∀ i o, ops[i]? = some o → S i = true → Ready S o

def addTo (S : Nat → Bool) (i : Nat) : Nat → Bool := fun j => if j = i then true else S j

theorem Ready.add {S : Nat → Bool} {o : Oper} {i : Nat} (h : Ready S o) : Ready (addTo S i) o := fun e he hb => by
  unfold addTo
  split
  · rfl
  · exact h e he hb

theorem Closed.add {S : Nat → Bool} {i : Nat} {o : Oper} (hi : ops[i]? = some o) (hr : Ready S o) (h : Closed ops S) : Closed ops (addTo S i) := fun j oj hj hSj => by
  by_cases hji : j = i
  · subst hji
    rw [hi] at hj; cases hj
    exact hr.add
  · simp only [addTo, hji, if_false] at hSj
    exact (h j oj hj hSj).add

/-- Every edge that binds leads back. -/
def Back (ops : Array Oper) : Prop := ∀ i o, ops[i]? = some o → ∀ e ∈ o.after.toList, Region.binds .any e = true → e.on < i

def setOf (listed : Array Bool) : Nat → Bool := fun i => listed.getD i false

theorem setOf_set {listed : Array Bool} {i : Nat} (hi : i < listed.size) : setOf (listed.setIfInBounds i true) = addTo (setOf listed) i := by
  funext j
  unfold setOf addTo
  by_cases hji : j = i
  · subst hji; simp [hi]
  · have : i ≠ j := fun e => hji e.symm
    simp [hji, Array.getD_eq_getD_getElem?, Array.getElem?_setIfInBounds_ne this]

theorem mem_ready {listed : Array Bool} {i : Nat} (hs : listed.size = ops.size) : i ∈ Region.ready .any ops listed ↔ ∃ o, ops[i]? = some o ∧ setOf listed i = false ∧ Ready (setOf listed) o := by
  unfold Region.ready Ready setOf
  simp only [List.mem_filter, List.mem_range, Bool.and_eq_true, Bool.not_eq_true']
  constructor
  · rintro ⟨hi, hl, ha⟩
    have ho : ops[i]? = some ops[i] := Array.getElem?_eq_getElem hi
    have hil : i < listed.size := by omega
    refine ⟨ops[i], ho, by simpa [Array.getD_eq_getD_getElem?, hil] using hl, ?_⟩
    rw [ho] at ha
    simp only [Option.map_some, Option.getD_some, Array.all_eq_true] at ha
    intro e he hb
    obtain ⟨k, hk, rfl⟩ := List.getElem_of_mem he
    have := ha k (by simpa using hk)
    simp only [Bool.or_eq_true, Bool.not_eq_true'] at this
    rcases this with h | h
    · simp only [Array.getElem_toList] at hb; rw [hb] at h; cases h
    · simpa using h
  · rintro ⟨o, ho, hl, ha⟩
    have hi : i < ops.size := (Array.getElem?_eq_some_iff.1 ho).1
    have hil : i < listed.size := by omega
    refine ⟨hi, by simpa [Array.getD_eq_getD_getElem?, hil] using hl, ?_⟩
    rw [ho]
    simp only [Option.map_some, Option.getD_some, Array.all_eq_true]
    intro k hk
    simp only [Bool.or_eq_true, Bool.not_eq_true']
    by_cases hb : Region.binds .any o.after[k] = true
    · exact .inr (ha o.after[k] (by simp) hb)
    · exact .inl (by simpa using hb)

def countF (listed : Array Bool) : Nat := listed.toList.count false

theorem countF_set {listed : Array Bool} {i : Nat} (hi : i < listed.size) (hf : setOf listed i = false) : countF (listed.setIfInBounds i true) + 1 = countF listed := by
  unfold countF
  have h1 : listed[i] = false := by simpa [setOf, Array.getD_eq_getD_getElem?, hi] using hf
  have hi' : i < listed.toList.length := by simpa using hi
  have h2 : listed.toList[i] = false := by simpa using h1
  rw [Array.toList_setIfInBounds, List.count_set hi', h2, if_pos (by decide : (false == false) = true), if_neg (by decide : ¬ (true == false) = true)]
  have hpos : 0 < listed.toList.count false := List.count_pos_iff.2 (by rw [← h1]; simp)
  omega

theorem countF_zero {listed : Array Bool} (h0 : countF listed = 0) {i : Nat} (hi : i < listed.size) : setOf listed i = true := by
  unfold countF at h0
  rw [List.count_eq_zero] at h0
  have : listed[i] ≠ false := fun e => h0 (by rw [← e]; simp)
  simpa [setOf, Array.getD_eq_getD_getElem?, hi] using this

theorem all_of_ready_nil (hback : Back ops) {listed : Array Bool} (hs : listed.size = ops.size) (hr : Region.ready .any ops listed = []) : ∀ i, i < ops.size → setOf listed i = true := by
  intro i
  induction i using Nat.strongRecOn with
  | _ i ih =>
    intro hi
    by_cases hl : setOf listed i = true
    · exact hl
    · have ho : ops[i]? = some ops[i] := Array.getElem?_eq_getElem hi
      have : i ∈ Region.ready .any ops listed := (mem_ready hs).2 ⟨ops[i], ho, by simpa using hl, fun e he hb => by
        have hlt := hback i _ ho e he hb
        exact ih e.on hlt (by omega)⟩
      rw [hr] at this
      cases this

theorem wpAny_of_inv (hback : Back ops) (J : (Nat → Bool) → Act → World → Prop)
    (hstep : ∀ S a w, J S a w → Closed ops S → ∀ i o, ops[i]? = some o → S i = false → Ready S o → wpOp P ops Q i (J (addTo S i)) a w)
    (hend : ∀ S a w, J S a w → (∀ i, i < ops.size → S i = true) → Q .normal a w) : ∀ (fuel : Nat) (listed : Array Bool) (a : Act) (w : World), listed.size = ops.size → countF listed = fuel → Closed ops (setOf listed) → J (setOf listed) a w →
    wpAny P .any ops Q fuel listed a w
  | 0, listed, a, w, hs, hc, _, hj => by
    have hall : ∀ i, i < ops.size → setOf listed i = true := fun i hi => countF_zero hc (by omega)
    refine ⟨?_, hend _ a w hj hall⟩
    apply List.eq_nil_iff_forall_not_mem.2
    intro i hi
    obtain ⟨o, ho, hf, _⟩ := (mem_ready hs).1 hi
    rw [hall i (Array.getElem?_eq_some_iff.1 ho).1] at hf
    cases hf
  | fuel + 1, listed, a, w, hs, hc, hcl, hj => by
    refine ⟨fun hr => hend _ a w hj (all_of_ready_nil hback hs hr), fun i hi => ?_⟩
    obtain ⟨o, ho, hf, hready⟩ := (mem_ready hs).1 hi
    have hil : i < listed.size := by rw [hs]; exact (Array.getElem?_eq_some_iff.1 ho).1
    refine wpOp_mono (fun a' w' hj' => ?_) (hstep _ a w hj hcl i o ho hf hready)
    have hset := setOf_set hil
    refine wpAny_of_inv hback J hstep hend fuel _ a' w' (by simp [hs]) ?_ ?_ (by rw [hset]; exact hj')
    · have := countF_set hil hf; omega
    · rw [hset]; exact hcl.add ho hready

theorem region_of_inv (hm : P.follows .mixedOrders = true) (hback : Back ops) (J : (Nat → Bool) → Act → World → Prop)
    (hstep : ∀ S a w, J S a w → Closed ops S → ∀ i o, ops[i]? = some o → S i = false → Ready S o → wpOp P ops Q i (J (addTo S i)) a w)
    (hend : ∀ S a w, J S a w → (∀ i, i < ops.size → S i = true) → Q .normal a w) {id : Nat} {a : Act} {w : World} (h0 : J (fun _ => false) a { w with drawn := w.drawn + 1 }) : (Code.region id ops true).wp P Q a w := by
  have hset : setOf (Array.replicate ops.size false) = fun _ => false := by
    funext i; simp [setOf, Array.getD_eq_getD_getElem?, Array.getElem?_replicate]
    split <;> rfl
  refine wp_region_any hm (wpAny_of_inv hback J hstep hend ops.size _ a _ (by simp) ?_ ?_ ?_)
  · simp [countF]
  · rw [hset]; intro i o _ h; cases h
  · rw [hset]; exact h0

/-! ### What comes before what, by bits -/

def befMask (acc : List Nat) (o : Oper) : Nat := o.after.toList.foldl (fun s e => if Region.binds .any e then s ||| 2 ^ e.on ||| acc.getD e.on 0 else s) 0

def befs : List Nat → List Oper → List Nat
  | acc, [] => acc
  | acc, o :: r => befs (acc ++ [befMask acc o]) r

theorem befs_spec : ∀ (l : List Oper) (acc : List Nat), (∀ j, j < acc.length → (befs acc l)[j]? = acc[j]?) ∧ ∀ j o, l[j]? = some o → (befs acc l)[acc.length + j]? = some (befMask ((befs acc l).take (acc.length + j)) o)
  | [], acc => ⟨fun _ _ => rfl, fun j o h => by simp at h⟩
  | o :: r, acc => by
    obtain ⟨h1, h2⟩ := befs_spec r (acc ++ [befMask acc o])
    refine ⟨fun j hj => ?_, fun j oj hj => ?_⟩
    · simp only [befs]
      rw [h1 j (by simp; omega), List.getElem?_append_left hj]
    · cases j with
      | zero =>
        simp only [List.getElem?_cons_zero, Option.some.injEq] at hj
        subst hj
        simp only [befs, Nat.add_zero]
        rw [h1 acc.length (by simp)]
        simp only [List.getElem?_concat_length, Option.some.injEq]
        congr 1
        apply List.ext_getElem?
        intro q
        rw [List.getElem?_take]
        split
        · rename_i hq
          rw [h1 q (by simp; omega), List.getElem?_append_left hq]
        · rename_i hq
          rw [List.getElem?_eq_none (by omega)]
      | succ j =>
        have := h2 j oj (by simpa using hj)
        simp only [List.length_append, List.length_singleton] at this
        simp only [befs]
        rw [show acc.length + (j + 1) = acc.length + 1 + j by omega]
        exact this

theorem testBit_fold (acc : List Nat) (i : Nat) : ∀ (es : List Edge) (s : Nat), (es.foldl (fun s e => if Region.binds .any e then s ||| 2 ^ e.on ||| acc.getD e.on 0 else s) s).testBit i = true →
    s.testBit i = true ∨ ∃ e ∈ es, Region.binds .any e = true ∧ (i = e.on ∨ (acc.getD e.on 0).testBit i = true)
  | [], s, h => .inl h
  | e :: es, s, h => by
    rw [List.foldl_cons] at h
    rcases testBit_fold acc i es _ h with h | ⟨e', he', hb, h⟩
    · split at h
      · rename_i hb
        simp only [Nat.testBit_or, Bool.or_eq_true, Nat.testBit_two_pow, decide_eq_true_eq] at h
        rcases h with (h | h) | h
        · exact .inl h
        · exact .inr ⟨e, List.mem_cons_self, hb, .inl h.symm⟩
        · exact .inr ⟨e, List.mem_cons_self, hb, .inr h⟩
      · exact .inl h
    · exact .inr ⟨e', List.mem_cons_of_mem _ he', hb, h⟩

/-- Does i come before j? -/
def ord (ops : Array Oper) (i j : Nat) : Bool := ((befs [] ops.toList).getD j 0).testBit i

theorem ord_listed (hback : Back ops) {S : Nat → Bool} (hcl : Closed ops S) {i : Nat} : ∀ (j : Nat) (o : Oper), ops[j]? = some o → Ready S o → ord ops i j = true → S i = true := by
  intro j
  induction j using Nat.strongRecOn with
  | _ j ih =>
    intro o ho hr hord
    unfold ord at hord
    have hm := (befs_spec ops.toList []).2 j o (by simpa using ho)
    simp only [List.length_nil, Nat.zero_add] at hm
    rw [List.getD_eq_getElem?_getD, hm, Option.getD_some, befMask] at hord
    rcases testBit_fold _ i _ 0 hord with h | ⟨e, he, hb, h⟩
    · simp at h
    · have hlt := hback j o ho e he hb
      have hS := hr e he hb
      rcases h with rfl | h
      · exact hS
      · have hjs : j < ops.size := (Array.getElem?_eq_some_iff.1 ho).1
        have hoe : ops[e.on]? = some ops[e.on] := Array.getElem?_eq_getElem (by omega)
        refine ih e.on hlt _ hoe (hcl e.on _ hoe hS) ?_
        unfold ord
        rw [List.getD_eq_getElem?_getD] at h ⊢
        rw [List.getElem?_take, if_pos hlt] at h
        exact h
end
end Go.Ab
