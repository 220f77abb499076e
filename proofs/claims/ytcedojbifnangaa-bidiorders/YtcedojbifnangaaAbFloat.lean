/- Operations that look at no memory may be carried out as soon as they can. -/
import Derived.Test.YtcedojbifnangaaAbDraw3
namespace Go.Ab

/-- Only the normal way out. -/
def only (Q : Exit → Act → World → Prop) : Exit → Act → World → Prop
  | .normal, a, w => Q .normal a w
  | _, _, _ => False

section
variable {P : Program} {ops : Array Oper} {Q : Exit → Act → World → Prop}

theorem not_letsOut : ¬ LetsOut (only Q) := fun ⟨_, _, h⟩ => h

/-- Neither writes what the other looks at or writes. -/
def Ap (ops : Array Oper) (x y : Oper) : Prop := (∀ d, x.dst = some d → d ∉ y.looksAt ops) ∧ (∀ d, x.dst = some d → y.dst ≠ some d) ∧ (∀ d, y.dst = some d → d ∉ x.looksAt ops)

theorem Ap.of {x y : Oper} (h : x.apart ops y = true) : Ap ops x y := Oper.apart_spec h

theorem Ap.symm {x y : Oper} (h : Ap ops x y) : Ap ops y x := ⟨h.2.2, fun d hd hx => h.2.1 d hx hd, h.1⟩

/-- In state a, in every world, operation o leaves u in its temporary, and nothing else. -/
def Blind (P : Program) (ops : Array Oper) (o : Oper) (a : Act) (u : Value) : Prop :=
  (Region.wanted o (yielded ops a.tmps) = true ∧ ∀ w, (execOp a.eval o).run P w = .ok (.value u) w) ∨ (Region.wanted o (yielded ops a.tmps) = false ∧ u = undef)

theorem Blind.put {o oj : Oper} {a : Act} {u z : Value} (hs : ∀ cs b, o.op ≠ .select cs b) (hb : Blind P ops o a u) (h : ∀ d, oj.dst = some d → d ∉ o.looksAt ops) : Blind P ops o (a.put oj.dst z) u := by
  unfold Blind
  rw [wanted_put o a oj.dst z h, execOp_put o hs a oj.dst z h]
  exact hb

theorem eval_defers {a : Act} {ds : List Deferred} : ({ a with defers := ds } : Act).eval = a.eval := by
  funext x; cases x <;> rfl

theorem Blind.defers {o : Oper} {a : Act} {u : Value} {ds : List Deferred} (hb : Blind P ops o a u) : Blind P ops o { a with defers := ds } u := by
  unfold Blind at *
  rw [eval_defers]
  exact hb

theorem wpOp_blind {i : Nat} {o : Oper} (ho : ops[i]? = some o) {a : Act} {u : Value} (hb : Blind P ops o a u) {K : Act → World → Prop} {w : World} (hK : K (a.put o.dst u) w) : wpOp P ops Q i K a w := by
  unfold wpOp
  rw [ho]
  simp only
  rcases hb with ⟨h1, h2⟩ | ⟨h1, rfl⟩
  · rw [h1]
    simp only [if_true]
    refine .inl ?_
    unfold Oper.wp
    rw [h2 w]
    exact hK
  · rw [h1]
    simp only [Bool.false_eq_true, if_false]
    exact hK

/-- Operation j, apart from i: whether i's value is already there makes no difference. -/
theorem wpOp_put {j : Nat} {oi oj : Oper} (hj : ops[j]? = some oj) (hap : Ap ops oi oj) (hsi : ∀ cs b, oi.op ≠ .select cs b) (hsj : ∀ cs b, oj.op ≠ .select cs b) {a : Act} {u : Value} (hb : Blind P ops oi a u)
    {K K' : Act → World → Prop} {w : World} (h : wpOp P ops (only Q) j K (a.put oi.dst u) w) (hK : ∀ a' w', Blind P ops oi a' u → K (a'.put oi.dst u) w' → K' a' w') : wpOp P ops (only Q) j K' a w := by
  obtain ⟨h1, h2, h3⟩ := hap
  have hcomm : ∀ (b : Act) (z : Value), (b.put oi.dst u).put oj.dst z = (b.put oj.dst z).put oi.dst u := fun b z => Act.put_comm b u z h2
  have fin : ∀ z w', K ((a.put oi.dst u).put oj.dst z) w' → K' (a.put oj.dst z) w' := fun z w' hk => hK _ _ (hb.put hsi h3) (by rw [← hcomm]; exact hk)
  unfold wpOp at *
  rw [hj] at h ⊢
  simp only at h ⊢
  rw [wanted_put oj a oi.dst u h1] at h
  split
  · rename_i hw
    rw [hw] at h
    simp only [if_true] at h
    rcases h with h | ⟨_, h⟩
    · refine .inl ?_
      unfold Oper.wp at h ⊢
      rw [execOp_put oj hsj a oi.dst u h1] at h
      generalize (execOp a.eval oj).run P w = r at h ⊢
      cases r with
      | ok nx w' =>
        cases nx <;> simp only [Oper.upon] at h ⊢ <;> try exact h
        case value z => exact fin z w' h
        case skip => exact fin undef w' h
        case defer d =>
          have e : ({ a.put oi.dst u with defers := d :: (a.put oi.dst u).defers } : Act) = ({ a with defers := d :: a.defers } : Act).put oi.dst u := by cases oi.dst <;> rfl
          rw [e, hcomm] at h
          exact hK _ _ (hb.defers.put hsi h3) h
        case enter f args =>
          refine h.mono ?_
          rintro (v | c | _) w'' he
          · exact fin v w'' he
          · exact he
          · exact he
        case row f args =>
          exact Rows.mono h fun z w'' hz => fin z w'' hz
      | halt x w' =>
        cases x <;> simp only [Oper.upon] at h ⊢ <;> exact h
    · exact absurd h not_letsOut
  · rename_i hw
    have hw' : Region.wanted oj (yielded ops a.tmps) = false := by simpa using hw
    rw [hw'] at h
    simp only [Bool.false_eq_true, if_false] at h
    exact fin undef w h

theorem wpAny_first (hsel : ∀ (j : Nat) (o : Oper) cs b, ops[j]? = some o → o.op ≠ .select cs b) {i : Nat} {oi : Oper} (hi : ops[i]? = some oi) {u : Value} : ∀ (fuel : Nat) (listed : Array Bool) (a : Act) (w : World), listed.size = ops.size → setOf listed i = false → Ready (setOf listed) oi →
    (∀ j oj, ops[j]? = some oj → j ≠ i → setOf listed j = false → (∀ S : Nat → Bool, (∀ q, setOf listed q = true → S q = true) → S i = false → Closed ops S → Ready S oj → Ap ops oi oj)) → Closed ops (setOf listed) →
    Blind P ops oi a u → wpAny P .any ops (only Q) fuel (listed.setIfInBounds i true) (a.put oi.dst u) w → wpAny P .any ops (only Q) (fuel + 1) listed a w := by
  intro fuel
  induction fuel with
  | zero =>
    intro listed a w hs hf hr hap hcl hb h
    have hil : i < listed.size := by rw [hs]; exact (Array.getElem?_eq_some_iff.1 hi).1
    refine ⟨fun hn => ?_, fun j hj => ?_⟩
    · have : i ∈ Region.ready .any ops listed := (mem_ready hs).2 ⟨oi, hi, hf, hr⟩
      rw [hn] at this; cases this
    · obtain ⟨oj, hoj, hjf, hjr⟩ := (mem_ready hs).1 hj
      by_cases hji : j = i
      · subst hji
        rw [hi] at hoj; cases hoj
        exact wpOp_blind hi hb h
      · exfalso
        have : j ∈ Region.ready .any ops (listed.setIfInBounds i true) := (mem_ready (by simp [hs])).2 ⟨oj, hoj, by rw [setOf_set hil, addTo]; simp [hji, hjf], by rw [setOf_set hil]; exact hjr.add⟩
        rw [h.1] at this; cases this
  | succ fuel ih =>
    intro listed a w hs hf hr hap hcl hb h
    have hil : i < listed.size := by rw [hs]; exact (Array.getElem?_eq_some_iff.1 hi).1
    refine ⟨fun hn => ?_, fun j hj => ?_⟩
    · have : i ∈ Region.ready .any ops listed := (mem_ready hs).2 ⟨oi, hi, hf, hr⟩
      rw [hn] at this; cases this
    · obtain ⟨oj, hoj, hjf, hjr⟩ := (mem_ready hs).1 hj
      by_cases hji : j = i
      · subst hji
        rw [hi] at hoj; cases hoj
        exact wpOp_blind hi hb h
      · have hjl : j < listed.size := by rw [hs]; exact (Array.getElem?_eq_some_iff.1 hoj).1
        have hij : i ≠ j := fun e => hji e.symm
        have hmem : j ∈ Region.ready .any ops (listed.setIfInBounds i true) := (mem_ready (by simp [hs])).2 ⟨oj, hoj, by rw [setOf_set hil, addTo]; simp [hji, hjf], by rw [setOf_set hil]; exact hjr.add⟩
        have hapj := hap j oj hoj hji hjf (setOf listed) (fun q hq => hq) hf hcl hjr
        refine wpOp_put hoj hapj (fun cs b => hsel i oi cs b hi) (fun cs b => hsel j oj cs b hoj) hb (h.2 j hmem) fun a' w' hb' hk => ?_
        have hsw : (listed.setIfInBounds i true).setIfInBounds j true = (listed.setIfInBounds j true).setIfInBounds i true := by
          apply Array.ext_getElem?
          intro q
          simp only [Array.getElem?_setIfInBounds]
          by_cases hqi : i = q
          · subst hqi; simp [hij, hji, hil]
          · by_cases hqj : j = q
            · subst hqj; simp [hqi, hjl]
            · simp [hqi, hqj]
        rw [hsw] at hk
        refine ih (listed.setIfInBounds j true) a' w' (by simp [hs]) ?_ ?_ ?_ ?_ hb' hk
        · rw [setOf_set hjl]; simp [addTo, hij, hf]
        · rw [setOf_set hjl]; exact hr.add
        · intro q oq hoq hqi hqf S hsub hSi hSc hSr
          refine hap q oq hoq hqi ?_ S (fun z hz => hsub z (by rw [setOf_set hjl, addTo]; split <;> simp_all)) hSi hSc hSr
          rw [setOf_set hjl, addTo] at hqf
          split at hqf
          · cases hqf
          · exact hqf
        · rw [setOf_set hjl]; exact hcl.add hoj hjr
end
end Go.Ab
